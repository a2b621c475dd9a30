/- Proved here: that the statement PadBuckets returns true of whatever length comes in; no condition. -/
import Derived.Test.YtdndppfjkcfecaaPadB
import Derived.Test.YtdndppfjkcfecaaPadR
import Derived.Deep.DeepCutAuto
namespace Go.Proofs.Ytdndppfjkcfecaa
open Go.RowKit

theorem exit_why (n : Int) (j : Nat) (h : ¬ (p2 j < n ∧ p2 j < 65536)) : (p2 j < n ∧ ¬ p2 j < 65536) ∨ ¬ p2 j < n := by omega
theorem three (n : Int) : (n < 0 ∧ bkE n = 1 ∧ bk n = 0) ∨ (0 ≤ n ∧ n < 2048 ∧ bkE n = 0 ∧ bk n = rbk n ∧ 0 < rbk n) ∨ (2048 ≤ n ∧ bkE n = 3 ∧ bk n = 0 ∧ rbk n = 0) := by
  unfold bkE bk rbk
  omega
theorem isB_or (n : Int) : isB n = true ∧ ((n == 64) = true ∨ (n == 64) = false ∧ (n == 128) = true ∨ (n == 64) = false ∧ (n == 128) = false ∧ (n == 256) = true ∨ (n == 64) = false ∧ (n == 128) = false ∧ (n == 256) = false ∧ (n == 512) = true ∨ (n == 64) = false ∧ (n == 128) = false ∧ (n == 256) = false ∧ (n == 512) = false ∧ (n == 1024) = true ∨ (n == 64) = false ∧ (n == 128) = false ∧ (n == 256) = false ∧ (n == 512) = false ∧ (n == 1024) = false ∧ (n == 2048) = true) ∨ isB n = false ∧ (n == 64) = false ∧ (n == 128) = false ∧ (n == 256) = false ∧ (n == 512) = false ∧ (n == 1024) = false ∧ (n == 2048) = false := by
  simp only [isB, decide_eq_true_eq, decide_eq_false_iff_not, beq_eq_false_iff_ne, beq_iff_eq]
  omega

set_option maxRecDepth 100000 in
set_option maxHeartbeats 1600000 in
theorem buckets_any (n : Int) (w : World) (h : -9223372036854775808 ≤ n) (h' : n ≤ 9223372036854775807) :
    Calls Try.prog 4 #[.int .i64 n] w fun e w' => e = .returned (.bool true) ∧ Below w.heap.size w w' := by
  go_enter Try.func4, Try.ntmps4
  go_wp2_with (first | (go_at_call 6; refine (bucket_any _ _).mono ?_; rintro e w' ⟨rfl, rfl⟩) | (go_at_call 9; refine (batch_any _ _).mono ?_; rintro e w' ⟨rfl, rfl⟩))
  go_loop [6] (fun o => ∃ j : Nat, j ≤ 16 ∧ o = .int .i64 (p2 j) ∧ (j = 0 ∨ p2 (j - 1) < n)) (fun o => 65536 - (intOf o).toNat)
  case atStart => exact ⟨0, by omega, rfl, .inl rfl⟩
  case round =>
    obtain ⟨j, hj, rfl, hb⟩ := hrel
    have bd := p2_bd j hj
    by_cases c1 : p2 j < n ∧ p2 j < 65536
    · obtain ⟨c1, c2⟩ := c1
      have hj' : j < 16 := by
        by_cases e : j = 16
        · subst e; exact absurd c2 (by decide)
        · omega
      have HM := Lib.hid (p2_next j hj').1
      have HB := Lib.hid hb
      clear hb
      go_wp2
      refine ⟨⟨j + 1, by omega, by rw [HM.out], .inr (by simpa using c1)⟩, ?_⟩
      simp [intOf]; omega
    · have hstop : n ≤ p2 j ∨ j = 16 := by
        by_cases e : n ≤ p2 j
        · exact .inl e
        · exact .inr (p2_top j hj (by omega))
      have hbat := bat_of n j hj hb hstop
      have HC := Lib.hid (exit_why n j c1)
      have HBAT := Lib.hid hbat
      clear hb hstop hbat c1
      rcases HC.out with ⟨c1, c2⟩ | c1
      all_goals
        clear HC
        go_upto_region 6 with fail
        go_cut [7] (fun x w' => x = .bool (isB n) ∧ w = w')
        case first =>
          rcases isB_or n with ⟨e, e0 | ⟨e0, e1⟩ | ⟨e0, e1, e2⟩ | ⟨e0, e1, e2, e3⟩ | ⟨e0, e1, e2, e3, e4⟩ | ⟨e0, e1, e2, e3, e4, e5⟩⟩ | ⟨e, e0, e1, e2, e3, e4, e5⟩
          all_goals
            have E := Lib.hid e
            clear e h h' bd
            try clear c1
            try clear c2
            go_wp2
            go_meet
            exact ⟨by rw [E.out], rfl⟩
        case rest =>
          obtain ⟨rfl, rfl⟩ := hcut
          have hne : (bat n != p2 j) = false := by rw [HBAT.out]; simp
          rcases three n with ⟨hn, f1, f2⟩ | ⟨hn, hn', f1, f2, f3⟩ | ⟨hn, f1, f2, f3⟩
          all_goals
            go_wp2_with (first | (go_at_call 7; refine (awake_any _).mono ?_; rintro e w' ⟨rfl, rfl⟩) | (go_at_call 8; refine (is_any _ _ (by omega) (by omega) _ rfl).mono ?_; rintro e w' ⟨rfl, rfl⟩) | (go_at_call 10; refine (refBucket_any _ _).mono ?_; rintro e w' ⟨rfl, hw⟩))
            all_goals go_ret
            all_goals (first | exact ⟨rfl, Below.refl _ _⟩ | exact ⟨rfl, hw⟩)
theorem bound64 (a : Int) (h : (Lit.int .i64 a).wf = true) : -9223372036854775808 ≤ a ∧ a ≤ 9223372036854775807 := by
  simp [Lit.wf, IntKind.min, IntKind.max, IntKind.signed, IntKind.bits] at h
  omega
theorem buckets_law (n : Int) (w : World) (h : (Lit.int .i64 n).wf = true) :
    Calls Try.prog 4 #[.int .i64 n] w fun e w' => e = .returned (.bool true) ∧ Below w.heap.size w w' :=
  buckets_any n w (bound64 n h).1 (bound64 n h).2
end Go.Proofs.Ytdndppfjkcfecaa
