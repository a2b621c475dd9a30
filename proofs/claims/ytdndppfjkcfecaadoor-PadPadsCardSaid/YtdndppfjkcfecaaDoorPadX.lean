/- Proved here: the walks of the statements PadUnpads and PadPads. -/
import Derived.Test.YtdndppfjkcfecaaDoorPadW
import Derived.Test.YtdndppfjkcfecaaDoorPadRow
namespace Go.Proofs.YtdndppfjkcfecaaDoor
open Go.RowKit
set_option linter.unusedSimpArgs false

theorem refUnpad_nil (a : Option Addr) (cap : Nat) (w : World) :
    Calls Tryd.prog 7 #[.slice a 0 cap] w fun e w' => e = .returned (.tuple #[.slice none 0 0, .bool false]) ∧ w = w' := by
  go_enter Tryd.func7, Tryd.ntmps7
  go_wp2
  go_loop [4] (fun v => v = .int .i64 0) (fun _ => 0)
  case atStart => rfl
  case round =>
    subst hrel
    go_wp2
    go_ret2
    exact ⟨rfl, rfl⟩
theorem pad_long (a : Option Addr) (len cap : Nat) (w : World) (hl : 2048 ≤ len) :
    Calls Tryd.prog 8 #[.slice a len cap] w fun e w' => e = .returned (.tuple #[.slice none 0 0, .int .i64 3]) ∧ w = w' := by
  have he : bkE (len : Int) = 3 := by unfold bkE; omega
  go_enter Tryd.func8, Tryd.ntmps8
  go_wp2_with (first | (go_at_call 11; refine (bucket_any _ _).mono ?_; rintro e w' ⟨rfl, rfl⟩))
  go_ret2
  exact ⟨rfl, rfl⟩

theorem unpads_long (a : Option Addr) (len cap : Nat) (w : World) (h : 2100 < len) :
    Calls Tryd.prog 3 #[.slice a len cap] w fun e w' => e = .returned (.bool true) ∧ Below w.heap.size w w' := by
  have h' : (2100 : Int) < (len : Int) := by omega
  go_enter Tryd.func3, Tryd.ntmps3
  go_wp2_with (first | (go_at_call 5; refine (awake_any _).mono ?_; rintro e w' ⟨rfl, rfl⟩))
  go_ret
  exact ⟨rfl, Below.refl _ _⟩

theorem convnil (w : World) : (convert 22 9 (.slice none 0 0)).run Tryd.prog w = .ok (.string ⟨#[]⟩) w := conv_rd (xs := []) (.inl rfl)

set_option maxRecDepth 100000 in
set_option maxHeartbeats 800000 in
theorem unpads_bad (a : Option Addr) (cap : Nat) (xs : List UInt8) (w : World) (hr : RdC w a (bcells xs)) (hc : xs.length ≤ cap) (hl : xs.length ≤ 2100) (hn : ¬ IsPad xs) :
    Calls Tryd.prog 3 #[.slice a xs.length cap] w fun e w' => e = .returned (.bool true) ∧ Below w.heap.size w w' := by
  have h' : ¬ (2100 : Int) < (xs.length : Int) := by omega
  have H1 := Lib.hid (unpad_bad xs a cap w hr hc (by omega) hn)
  have H2 : Hid (∀ w1, w = w1 → Calls Tryd.prog 7 #[.slice a xs.length cap] w1 fun e w' => Kept [] w w' ∧ e = .returned (.tuple #[.slice none 0 0, .bool false])) := by
    refine Lib.hid ?_
    rintro w1 rfl
    rcases hr with h0 | ⟨b, off, rfl, hr⟩
    · have hx : xs = [] := by simpa [bcells] using h0
      subst hx
      exact (refUnpad_nil a cap w).mono fun e w' ⟨he, hw⟩ => ⟨hw ▸ Kept.refl _ _, he⟩
    · refine (refUnpad_any b off cap xs w (.inr ⟨b, off, rfl, hr⟩) hc hl).mono ?_
      rintro e w' ⟨hk, ⟨n, hn1, hn2, hp, he⟩ | ⟨_, he⟩⟩
      · exact absurd ⟨xs.take n, by simp; omega, hp⟩ hn
      · exact ⟨hk, he⟩
  have hcn := convnil
  clear hr hn
  go_enter Tryd.func3, Tryd.ntmps3
  go_wp2_with (first | (go_at_call 5; refine (awake_any _).mono ?_; rintro e w' ⟨rfl, rfl⟩) | (go_at_call 6; refine (H1.out).mono ?_; rintro e w' ⟨rfl, rfl⟩) | (go_at_call 7; refine (H2.out _ rfl).mono ?_; rintro e w' ⟨hk, rfl⟩; have HK := Lib.hid hk; clear hk))
  go_ret
  exact ⟨rfl, HK.out.below⟩

set_option maxRecDepth 100000 in
set_option maxHeartbeats 800000 in
theorem unpads_ok (b off cap : Nat) (u : List UInt8) (w : World) (hr : RdC w (some ⟨b, off, none⟩) (bcells (padL u))) (hc : (padL u).length ≤ cap) (hl : (padL u).length ≤ 2100) (hu : u.length < 2048) :
    Calls Tryd.prog 3 #[.slice (some ⟨b, off, none⟩) (padL u).length cap] w fun e w' => e = .returned (.bool true) ∧ Below w.heap.size w w' := by
  have h' : ¬ (2100 : Int) < ((padL u).length : Int) := by omega
  have H1 := Lib.hid (fun w1 h => unpad_ok u hu b off cap w1 h hc)
  have HR := Lib.hid hr
  have H2 : Hid (∀ w1, Kept [] w w1 → Calls Tryd.prog 7 #[.slice (some ⟨b, off, none⟩) (padL u).length cap] w1 fun e w' => Kept [] w1 w' ∧ e = .returned (.tuple #[.slice (some ⟨b, off, none⟩) u.length cap, .bool true])) := by
    refine Lib.hid ?_
    intro w1 hk1
    refine (refUnpad_any b off cap (padL u) w1 (hr.call hk1) hc hl).mono ?_
    rintro e w' ⟨hk, ⟨n, hn1, hn2, hp, he⟩ | ⟨hno, he⟩⟩
    · refine ⟨hk, ?_⟩
      have hl2 := congrArg List.length (padL_inj _ _ hp)
      simp only [List.length_take] at hl2
      have : n = u.length := by omega
      rw [he, this]
    · exact absurd ⟨u, hu, rfl⟩ hno
  have hs := SH.start [] w
  clear hr
  go_enter Tryd.func3, Tryd.ntmps3
  go_wp2_with (first | (go_at_call 5; refine (awake_any _).mono ?_; rintro e w' ⟨rfl, rfl⟩) | (go_at_call 6; refine (H1.out _ (hs.oldRd HR.out (by simp))).mono ?_; rintro e w1 ⟨ra, rc, rfl, hb⟩; replace hs := hs.brings hb; clear hb) | (go_at_call 7; refine (H2.out _ hs.kept).mono ?_; rintro e w2 ⟨hk, rfl⟩; replace hs := hs.call hk; clear hk) | (refine sh_convBS (o := ⟨some 31, _, _, _, _, _⟩) (xs := u) rfl rfl rfl ?x6n Tryd.underlying22 Tryd.underlying5 Tryd.underlying9 (hs.rowRd 0 rfl) ?x6k; (case x6n => first | rfl | omega)) | (refine sh_convBS (o := ⟨some 33, _, _, _, _, _⟩) (xs := u) rfl rfl rfl ?x7n Tryd.underlying22 Tryd.underlying5 Tryd.underlying9 ((by have := RdC.take (hs.oldRd HR.out (by simp)) u.length; rwa [← bcells_take, padL_take] at this)) ?x7k; (case x7n => first | rfl | omega)))
  go_ret
  exact ⟨rfl, hs.kept.below⟩
end Go.Proofs.YtdndppfjkcfecaaDoor
