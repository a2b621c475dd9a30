/- Proved here: the walk of the statement PadPads. -/
import Derived.Test.YtdndppfjkcfecaaDoorPadX
namespace Go.Proofs.YtdndppfjkcfecaaDoor
open Go.RowKit
set_option linter.unusedSimpArgs false

theorem pads_long (a : Option Addr) (len cap : Nat) (w : World) (h : 3000 < len) :
    Calls Tryd.prog 4 #[.slice a len cap] w fun e w' => e = .returned (.bool true) ∧ Below w.heap.size w w' := by
  have h' : (3000 : Int) < (len : Int) := by omega
  go_enter Tryd.func4, Tryd.ntmps4
  go_wp2_with (first | (go_at_call 5; refine (awake_any _).mono ?_; rintro e w' ⟨rfl, rfl⟩))
  go_ret
  exact ⟨rfl, Below.refl _ _⟩

set_option maxRecDepth 100000 in
set_option maxHeartbeats 800000 in
theorem pads_no (a : Option Addr) (cap : Nat) (xs : List UInt8) (w : World) (hr : RdC w a (bcells xs)) (hl : xs.length ≤ 3000) (h2 : 2048 ≤ xs.length) :
    Calls Tryd.prog 4 #[.slice a xs.length cap] w fun e w' => e = .returned (.bool true) ∧ Below w.heap.size w w' := by
  have h' : ¬ (3000 : Int) < (xs.length : Int) := by omega
  have HR := Lib.hid hr
  clear hr
  have H1 := Lib.hid (fun w => pad_long a xs.length cap w h2)
  have hrb : rbk (xs.length : Int) = 0 := by unfold rbk; omega
  clear h2
  go_enter Tryd.func4, Tryd.ntmps4
  go_wp2_with (first | (go_at_call 5; refine (awake_any _).mono ?_; rintro e w' ⟨rfl, rfl⟩) | (go_at_call 8; refine (H1.out _).mono ?_; rintro e w' ⟨rfl, rfl⟩) | (go_at_call 9; refine (refBucket_any _ _).mono ?_; rintro e w1 ⟨rfl, hb⟩; have HB := Lib.hid hb; clear hb) | (refine sh_convBS (o := ⟨some 17, _, _, _, _, _⟩) (xs := xs) rfl rfl rfl ?x4n Tryd.underlying22 Tryd.underlying5 Tryd.underlying9 (HR.out) ?x4k; (case x4n => first | rfl | omega)))
  go_ret
  exact ⟨rfl, HB.out⟩

set_option maxRecDepth 100000 in
set_option maxHeartbeats 1600000 in
theorem pads_yes (a : Option Addr) (cap : Nat) (xs : List UInt8) (w : World) (hr : RdC w a (bcells xs)) (hl : xs.length < 2048) :
    Calls Tryd.prog 4 #[.slice a xs.length cap] w fun e w' => e = .returned (.bool true) ∧ Below w.heap.size w w' := by
  have h' : ¬ (3000 : Int) < (xs.length : Int) := by omega
  have HR := Lib.hid hr
  clear hr
  have H1 := Lib.hid (fun w h => pad_any a cap xs w h hl)
  have H2 := Lib.hid (fun g w h => unpad_ok xs hl g 0 (padL xs).length w h (Nat.le_refl _))
  have H3 := Lib.hid (fun w h => refPad_any a cap xs w h hl)
  have hrb : (rbk (xs.length : Int) == 0) = false := by rw [beq_eq_false_iff_ne]; unfold rbk; omega
  have hs := SH.start [] w
  go_enter Tryd.func4, Tryd.ntmps4
  go_wp2_with (first | (go_at_call 5; refine (awake_any _).mono ?_; rintro e w' ⟨rfl, rfl⟩) | (go_at_call 8; refine (H1.out _ (hs.oldRd HR.out (by simp))).mono ?_; rintro e w1 ⟨g, rfl, hb⟩; replace hs := hs.brings hb; clear hb) | (go_at_call 9; refine (refBucket_any _ _).mono ?_; rintro e w2 ⟨rfl, hb⟩; replace hs := hs.call (Kept.of_below hb); clear hb) | (go_at_call 6; refine (H2.out g _ (hs.blkRd0 0 rfl (by simp))).mono ?_; rintro e w3 ⟨ru, rc, rfl, hb⟩; replace hs := hs.brings hb; clear hb) | (refine sh_convBS (o := ⟨some 17, _, _, _, _, _⟩) (xs := xs) rfl rfl rfl ?x6n Tryd.underlying22 Tryd.underlying5 Tryd.underlying9 (HR.out) ?x6k; (case x6n => first | rfl | omega)))
  have all : ∀ w1, Kept [] w3 w1 → RdC w1 (some ⟨g, 0, none⟩) (bcells (padL xs)) ∧ RdC w1 ru (bcells xs) ∧ RdC w1 a (bcells xs) ∧ Kept [] w3 w1 :=
    fun w1 h1 => ⟨(hs.blkRd0 0 rfl (by simp)).call h1, (hs.rowRd 1 rfl).call h1, (hs.oldRd HR.out (by simp)).call h1, h1⟩
  have ALL := Lib.hid all
  have HK := Lib.hid hs.kept
  clear all hs
  refine wp_region_ord (fun w1 => RdC w1 (some ⟨g, 0, none⟩) (bcells (padL xs)) ∧ RdC w1 ru (bcells xs) ∧ RdC w1 a (bcells xs) ∧ Kept [] w3 w1) [(0, true), (1, true), (2, true), (3, true), (4, true), (5, true), (6, true), (7, true), (8, true), (9, true), (10, false), (11, false), (12, true), (13, true), (14, true), (15, true), (16, true), (17, true), (18, true), (19, true), (20, true), (21, true), (22, true), (23, true), (24, true), (25, true), (26, true)] (by kernel_rfl) (by kernel_rfl) (by kernel_rfl) (by kernel_rfl) (fun _ _ d _ _ h => by cases d <;> exact h) (ALL.out _ (Kept.drew [] w3)) ?_
  refine ord_f (d := some 39) rfl rfl rfl (fun _ _ => rfl) ?_
  simp only [Act.put, Act.eval, List.setIfInBounds_toArray, List.set_cons_zero, List.set_cons_succ, getD_lit, List.getD_cons_zero, List.getD_cons_succ]
  refine ord_f (o := { dst := some 40, op := Op.binOp BinOp.eql 24 (Operand.tmp 39) (Operand.const (Value.int IntKind.i64 0)) 24, type := 4, pos := "law.go:46", after := #[{ on := 0, ground := Ground.data }], guard := none }) (d := some 40) rfl rfl rfl (by intro wS hwS; go_simp <;> with_reducible rfl) ?_
  simp only [Act.put, Act.eval, List.setIfInBounds_toArray, List.set_cons_zero, List.set_cons_succ, getD_lit, List.getD_cons_zero, List.getD_cons_succ]
  refine ord_f (d := some 41) rfl rfl rfl (fun _ _ => rfl) ?_
  simp only [Act.put, Act.eval, List.setIfInBounds_toArray, List.set_cons_zero, List.set_cons_succ, getD_lit, List.getD_cons_zero, List.getD_cons_succ]
  refine ord_f (d := some 42) rfl rfl rfl (fun _ _ => rfl) ?_
  simp only [Act.put, Act.eval, List.setIfInBounds_toArray, List.set_cons_zero, List.set_cons_succ, getD_lit, List.getD_cons_zero, List.getD_cons_succ]
  refine ord_f (o := { dst := some 43, op := Op.binOp BinOp.eql 24 (Operand.tmp 42) (Operand.const (Value.int IntKind.i64 0)) 24, type := 4, pos := "law.go:46", after := #[{ on := 3, ground := Ground.data }, { on := 2, ground := Ground.guard }], guard := some (2, true) }) (d := some 43) rfl rfl rfl (by intro wS hwS; go_simp <;> with_reducible rfl) ?_
  simp only [Act.put, Act.eval, List.setIfInBounds_toArray, List.set_cons_zero, List.set_cons_succ, getD_lit, List.getD_cons_zero, List.getD_cons_succ]
  refine ord_f (o := { dst := some 44, op := Op.pick (Operand.tmp 41) (Operand.tmp 43) (Operand.const (Value.bool false)), type := 4, pos := "law.go:46", after := #[{ on := 2, ground := Ground.data }, { on := 4, ground := Ground.data }], guard := none }) (d := some 44) rfl rfl rfl (by intro wS hwS; go_simp <;> with_reducible rfl) ?_
  simp only [Act.put, Act.eval, List.setIfInBounds_toArray, List.set_cons_zero, List.set_cons_succ, getD_lit, List.getD_cons_zero, List.getD_cons_succ]
  refine ord_f (d := some 45) rfl rfl rfl (fun _ _ => rfl) ?_
  simp only [Act.put, Act.eval, List.setIfInBounds_toArray, List.set_cons_zero, List.set_cons_succ, getD_lit, List.getD_cons_zero, List.getD_cons_succ]
  refine ord_f (d := some 46) rfl rfl rfl (fun _ _ => rfl) ?_
  simp only [Act.put, Act.eval, List.setIfInBounds_toArray, List.set_cons_zero, List.set_cons_succ, getD_lit, List.getD_cons_zero, List.getD_cons_succ]
  refine ord_f (d := some 47) rfl rfl rfl (fun wS hwS => y_convBS rfl rfl (rfl) Tryd.underlying22 Tryd.underlying5 Tryd.underlying9 (hwS.1)) ?_
  simp only [Act.put, Act.eval, List.setIfInBounds_toArray, List.set_cons_zero, List.set_cons_succ, getD_lit, List.getD_cons_zero, List.getD_cons_succ]
  refine ord_f (d := some 48) rfl rfl rfl (fun _ _ => rfl) ?_
  simp only [Act.put, Act.eval, List.setIfInBounds_toArray, List.set_cons_zero, List.set_cons_succ, getD_lit, List.getD_cons_zero, List.getD_cons_succ]
  refine ord_call (vs := #[.slice a xs.length cap]) (d := some 49) rfl rfl rfl rfl rfl Tryd.call10 ?_
  refine (H3.out _ (ALL.out _ (Kept.drew [] w3)).2.2.1).mono ?_
  rintro e w4 ⟨ra, rc2, rfl, hb⟩
  have hK4 := (Kept.drew [] w3).trans hb.kept
  refine ⟨_, rfl, ALL.out _ hK4, ?_⟩
  have HB := Lib.hid hb
  clear hb
  simp only [Act.put, Act.eval, List.setIfInBounds_toArray, List.set_cons_zero, List.set_cons_succ, getD_lit, List.getD_cons_zero, List.getD_cons_succ]
  refine ord_op (d := some 50) rfl rfl rfl (y_convBS rfl rfl (rfl) Tryd.underlying22 Tryd.underlying5 Tryd.underlying9 (RowOk.rd HB.out.ok)) (ALL.out _ hK4) ?_
  simp only [Act.put, Act.eval, List.setIfInBounds_toArray, List.set_cons_zero, List.set_cons_succ, getD_lit, List.getD_cons_zero, List.getD_cons_succ]
  refine ord_f (o := { dst := some 51, op := Op.binOp BinOp.eql 9 (Operand.tmp 47) (Operand.tmp 50) 9, type := 4, pos := "law.go:46", after := #[{ on := 8, ground := Ground.data }, { on := 11, ground := Ground.data }, { on := 6, ground := Ground.guard }], guard := some (6, true) }) (d := some 51) rfl rfl rfl (by intro wS hwS; go_simp <;> with_reducible rfl) ?_
  simp only [Act.put, Act.eval, List.setIfInBounds_toArray, List.set_cons_zero, List.set_cons_succ, getD_lit, List.getD_cons_zero, List.getD_cons_succ]
  refine ord_f (o := { dst := some 52, op := Op.pick (Operand.tmp 45) (Operand.tmp 51) (Operand.const (Value.bool false)), type := 4, pos := "law.go:46", after := #[{ on := 6, ground := Ground.data }, { on := 12, ground := Ground.data }], guard := none }) (d := some 52) rfl rfl rfl (by intro wS hwS; go_simp <;> with_reducible rfl) ?_
  simp only [Act.put, Act.eval, List.setIfInBounds_toArray, List.set_cons_zero, List.set_cons_succ, getD_lit, List.getD_cons_zero, List.getD_cons_succ]
  refine ord_f (d := some 53) rfl rfl rfl (fun _ _ => rfl) ?_
  simp only [Act.put, Act.eval, List.setIfInBounds_toArray, List.set_cons_zero, List.set_cons_succ, getD_lit, List.getD_cons_zero, List.getD_cons_succ]
  refine ord_f (d := some 54) rfl rfl rfl (fun _ _ => rfl) ?_
  simp only [Act.put, Act.eval, List.setIfInBounds_toArray, List.set_cons_zero, List.set_cons_succ, getD_lit, List.getD_cons_zero, List.getD_cons_succ]
  refine ord_f (d := some 55) rfl rfl rfl (fun wS hwS => y_convBS rfl rfl (rfl) Tryd.underlying22 Tryd.underlying5 Tryd.underlying9 (hwS.2.1)) ?_
  simp only [Act.put, Act.eval, List.setIfInBounds_toArray, List.set_cons_zero, List.set_cons_succ, getD_lit, List.getD_cons_zero, List.getD_cons_succ]
  refine ord_f (d := some 56) rfl rfl rfl (fun _ _ => rfl) ?_
  simp only [Act.put, Act.eval, List.setIfInBounds_toArray, List.set_cons_zero, List.set_cons_succ, getD_lit, List.getD_cons_zero, List.getD_cons_succ]
  refine ord_f (o := { dst := some 57, op := Op.binOp BinOp.eql 9 (Operand.tmp 55) (Operand.tmp 56) 9, type := 4, pos := "law.go:46", after := #[{ on := 16, ground := Ground.data }, { on := 17, ground := Ground.data }, { on := 14, ground := Ground.guard }], guard := some (14, true) }) (d := some 57) rfl rfl rfl (by intro wS hwS; go_simp <;> with_reducible rfl) ?_
  simp only [Act.put, Act.eval, List.setIfInBounds_toArray, List.set_cons_zero, List.set_cons_succ, getD_lit, List.getD_cons_zero, List.getD_cons_succ]
  refine ord_f (o := { dst := some 58, op := Op.pick (Operand.tmp 53) (Operand.tmp 57) (Operand.const (Value.bool false)), type := 4, pos := "law.go:46", after := #[{ on := 14, ground := Ground.data }, { on := 18, ground := Ground.data }], guard := none }) (d := some 58) rfl rfl rfl (by intro wS hwS; go_simp <;> with_reducible rfl) ?_
  simp only [Act.put, Act.eval, List.setIfInBounds_toArray, List.set_cons_zero, List.set_cons_succ, getD_lit, List.getD_cons_zero, List.getD_cons_succ]
  refine ord_f (d := some 59) rfl rfl rfl (fun _ _ => rfl) ?_
  simp only [Act.put, Act.eval, List.setIfInBounds_toArray, List.set_cons_zero, List.set_cons_succ, getD_lit, List.getD_cons_zero, List.getD_cons_succ]
  refine ord_f (d := some 60) rfl rfl rfl (fun _ _ => rfl) ?_
  simp only [Act.put, Act.eval, List.setIfInBounds_toArray, List.set_cons_zero, List.set_cons_succ, getD_lit, List.getD_cons_zero, List.getD_cons_succ]
  refine ord_f (d := some 61) rfl rfl rfl (fun wS hwS => y_convBS rfl rfl (rfl) Tryd.underlying22 Tryd.underlying5 Tryd.underlying9 (hwS.2.2.1)) ?_
  simp only [Act.put, Act.eval, List.setIfInBounds_toArray, List.set_cons_zero, List.set_cons_succ, getD_lit, List.getD_cons_zero, List.getD_cons_succ]
  refine ord_f (d := some 62) rfl rfl rfl (fun _ _ => rfl) ?_
  simp only [Act.put, Act.eval, List.setIfInBounds_toArray, List.set_cons_zero, List.set_cons_succ, getD_lit, List.getD_cons_zero, List.getD_cons_succ]
  refine ord_f (o := { dst := some 63, op := Op.binOp BinOp.eql 9 (Operand.tmp 61) (Operand.tmp 62) 9, type := 4, pos := "law.go:46", after := #[{ on := 22, ground := Ground.data }, { on := 23, ground := Ground.data }, { on := 20, ground := Ground.guard }], guard := some (20, true) }) (d := some 63) rfl rfl rfl (by intro wS hwS; go_simp <;> with_reducible rfl) ?_
  simp only [Act.put, Act.eval, List.setIfInBounds_toArray, List.set_cons_zero, List.set_cons_succ, getD_lit, List.getD_cons_zero, List.getD_cons_succ]
  refine ord_f (o := { dst := some 64, op := Op.pick (Operand.tmp 59) (Operand.tmp 63) (Operand.const (Value.bool false)), type := 4, pos := "law.go:46", after := #[{ on := 20, ground := Ground.data }, { on := 24, ground := Ground.data }], guard := none }) (d := some 64) rfl rfl rfl (by intro wS hwS; go_simp <;> with_reducible rfl) ?_
  simp only [Act.put, Act.eval, List.setIfInBounds_toArray, List.set_cons_zero, List.set_cons_succ, getD_lit, List.getD_cons_zero, List.getD_cons_succ]
  refine ord_f (d := some 2) rfl rfl rfl (fun _ _ => rfl) ?_
  simp only [Act.put, Act.eval, List.setIfInBounds_toArray, List.set_cons_zero, List.set_cons_succ, getD_lit, List.getD_cons_zero, List.getD_cons_succ]
  refine ord_done ?_
  have HK4 := Lib.hid hK4
  clear hK4
  go_wp2
  go_ret
  exact ⟨rfl, (HK.out.trans HK4.out).below⟩
end Go.Proofs.YtdndppfjkcfecaaDoor
