/- Proved here: the walk of the statement PadGrows: it returns true of whatever two lengths come in; no condition. -/
import Derived.Test.YtdndppfjkcfecaaPadB
import Derived.Deep.DeepCutAuto
namespace Go.Proofs.Ytdndppfjkcfecaa
open Go.RowKit

/-- What is known of a length's bucket. -/
structure Fits (p b : Int) : Prop where
  bk : bk p = b
  e : bkE p = 0
  room : p < b
  half : b = 64 ∨ b / 2 ≤ p
  is : isB b = true
  bat : bat b = b
  big : b ≤ 2048
theorem fits (p : Int) (h : 0 ≤ p) (h' : p < 2048) : Fits p 64 ∨ Fits p 128 ∨ Fits p 256 ∨ Fits p 512 ∨ Fits p 1024 ∨ Fits p 2048 := by
  have f : ∀ b : Int, (b = 64 ∧ p < 64 ∨ b = 128 ∧ 64 ≤ p ∧ p < 128 ∨ b = 256 ∧ 128 ≤ p ∧ p < 256 ∨
      b = 512 ∧ 256 ≤ p ∧ p < 512 ∨ b = 1024 ∧ 512 ≤ p ∧ p < 1024 ∨ b = 2048 ∧ 1024 ≤ p ∧ p < 2048) → Fits p b := by
    intro b hb
    refine ⟨by unfold Go.Proofs.Ytdndppfjkcfecaa.bk; omega, by unfold bkE; omega, by omega, ?_, ?_, ?_, by omega⟩
    · omega
    · simp only [isB, decide_eq_true_eq]; omega
    · unfold Go.Proofs.Ytdndppfjkcfecaa.bat; omega
  by_cases c0 : p < 64
  · exact .inl (f 64 (by omega))
  by_cases c1 : p < 128
  · exact .inr (.inl (f 128 (by omega)))
  by_cases c2 : p < 256
  · exact .inr (.inr (.inl (f 256 (by omega))))
  by_cases c3 : p < 512
  · exact .inr (.inr (.inr (.inl (f 512 (by omega)))))
  by_cases c4 : p < 1024
  · exact .inr (.inr (.inr (.inr (.inl (f 1024 (by omega))))))
  · exact .inr (.inr (.inr (.inr (.inr (f 2048 (by omega))))))
theorem bk_mono (p q : Int) (h : 0 ≤ p) (h1 : p ≤ q) (h' : q < 2048) : bk p ≤ bk q := by unfold bk; omega
theorem low_e (p : Int) (h : 0 ≤ p) (h' : p < 2048) : bkE p = 0 := by unfold bkE; omega

set_option maxHeartbeats 1600000 in
theorem grows_any (a b : Int) (w : World) (ha : 0 ≤ a) (ha' : a < 65536) (hb : 0 ≤ b) (hb' : b < 65536) :
    Calls Try.prog 3 #[.int .u16 a, .int .u16 b] w fun e w' => e = .returned (.bool true) ∧ w = w' := by
  go_enter Try.func3, Try.ntmps3
  go_upto_region 1 with fail
  go_cut [5, 6] (fun x y w' => ∃ n m : Int, x = .int .i64 n ∧ y = .int .i64 m ∧ 0 ≤ n ∧ n < 2048 ∧ 0 ≤ m ∧ m < 2048 ∧ w = w')
  case first =>
    go_wp2
    all_goals
      go_meet
      exact ⟨_, _, rfl, rfl, by omega, by omega, by omega, by omega, rfl⟩
  case rest =>
    obtain ⟨n, m, rfl, rfl, hn, hn', hm, hm', rfl⟩ := hcut
    clear ha ha' hb hb'
    rcases Int.lt_trichotomy n m with h | rfl | h
    · have hq := bk_mono n m (by omega) (by omega) (by omega)
      have hqe := low_e m (by omega) (by omega)
      rcases fits n (by omega) (by omega) with ⟨hk, he, hr, hh, hi, hbt, hg⟩ | ⟨hk, he, hr, hh, hi, hbt, hg⟩ | ⟨hk, he, hr, hh, hi, hbt, hg⟩ | ⟨hk, he, hr, hh, hi, hbt, hg⟩ | ⟨hk, he, hr, hh, hi, hbt, hg⟩ | ⟨hk, he, hr, hh, hi, hbt, hg⟩
      all_goals
        rw [hk] at hq
        go_wp2_with (first | (go_at_call 6; refine (bucket_any _ _).mono ?_; rintro e w' ⟨rfl, rfl⟩) | (go_at_call 7; refine (awake_any _).mono ?_; rintro e w' ⟨rfl, rfl⟩) | (go_at_call 8; refine (is_any _ _ (by omega) (by omega) true (by assumption)).mono ?_; rintro e w' ⟨rfl, rfl⟩) | (go_at_call 9; refine (batch_any _ _).mono ?_; rintro e w' ⟨rfl, rfl⟩))
        go_ret
        exact ⟨rfl, rfl⟩
    · rcases fits n (by omega) (by omega) with ⟨hk, he, hr, hh, hi, hbt, hg⟩ | ⟨hk, he, hr, hh, hi, hbt, hg⟩ | ⟨hk, he, hr, hh, hi, hbt, hg⟩ | ⟨hk, he, hr, hh, hi, hbt, hg⟩ | ⟨hk, he, hr, hh, hi, hbt, hg⟩ | ⟨hk, he, hr, hh, hi, hbt, hg⟩
      all_goals
        go_wp2_with (first | (go_at_call 6; refine (bucket_any _ _).mono ?_; rintro e w' ⟨rfl, rfl⟩) | (go_at_call 7; refine (awake_any _).mono ?_; rintro e w' ⟨rfl, rfl⟩) | (go_at_call 8; refine (is_any _ _ (by omega) (by omega) true (by assumption)).mono ?_; rintro e w' ⟨rfl, rfl⟩) | (go_at_call 9; refine (batch_any _ _).mono ?_; rintro e w' ⟨rfl, rfl⟩))
        go_ret
        exact ⟨rfl, rfl⟩
    · have hq := bk_mono m n (by omega) (by omega) (by omega)
      have hqe := low_e n (by omega) (by omega)
      rcases fits m (by omega) (by omega) with ⟨hk, he, hr, hh, hi, hbt, hg⟩ | ⟨hk, he, hr, hh, hi, hbt, hg⟩ | ⟨hk, he, hr, hh, hi, hbt, hg⟩ | ⟨hk, he, hr, hh, hi, hbt, hg⟩ | ⟨hk, he, hr, hh, hi, hbt, hg⟩ | ⟨hk, he, hr, hh, hi, hbt, hg⟩
      all_goals
        rw [hk] at hq
        go_wp2_with (first | (go_at_call 6; refine (bucket_any _ _).mono ?_; rintro e w' ⟨rfl, rfl⟩) | (go_at_call 7; refine (awake_any _).mono ?_; rintro e w' ⟨rfl, rfl⟩) | (go_at_call 8; refine (is_any _ _ (by omega) (by omega) true (by assumption)).mono ?_; rintro e w' ⟨rfl, rfl⟩) | (go_at_call 9; refine (batch_any _ _).mono ?_; rintro e w' ⟨rfl, rfl⟩))
        go_ret
        exact ⟨rfl, rfl⟩

theorem bound16 (a : Int) (h : (Lit.int .u16 a).wf = true) : 0 ≤ a ∧ a < 65536 := by
  simp [Lit.wf, IntKind.min, IntKind.max, IntKind.signed, IntKind.bits] at h
  omega
theorem grows_law (a b : Int) (w : World) (ha : (Lit.int .u16 a).wf = true) (hb : (Lit.int .u16 b).wf = true) :
    Calls Try.prog 3 #[.int .u16 a, .int .u16 b] w fun e w' => e = .returned (.bool true) ∧ Below w.heap.size w w' :=
  (grows_any a b w (bound16 a ha).1 (bound16 a ha).2 (bound16 b hb).1 (bound16 b hb).2).mono fun _ _ ⟨he, hw⟩ => ⟨he, hw ▸ Below.refl _ _⟩
end Go.Proofs.Ytdndppfjkcfecaa
