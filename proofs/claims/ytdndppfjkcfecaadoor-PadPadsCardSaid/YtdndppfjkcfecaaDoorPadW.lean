/- Proved here: what the reference's Unpad comes to. -/
import Derived.Test.YtdndppfjkcfecaaDoorPadV
import Derived.Test.YtdndppfjkcfecaaDoorOrd
namespace Go.Proofs.YtdndppfjkcfecaaDoor
set_option linter.unusedSimpArgs false
open Go.RowKit

theorem conv_rd {w : World} {a : Option Addr} {cap : Nat} {xs : List UInt8} (hr : RdC w a (bcells xs)) :
    (convert 22 9 (.slice a xs.length cap)).run Tryd.prog w = .ok (.string ⟨xs.toArray⟩) w := run_convBS Tryd.underlying22 Tryd.underlying5 Tryd.underlying9 rfl hr

/-- What the round finds at a place. -/
def hit (xs : List UInt8) (n : Nat) : Bool := decide (xs[n]? = some 128) && (rbk (n : Int) == (xs.length : Int)) && (padL (xs.take n) == xs)

theorem hit_mark (xs : List UInt8) (n : Nat) (d : UInt8) (hlt : n < xs.length) (hd : xs[n]? = some d) (hdc : ¬ d = 128) : padL (xs.take n) ≠ xs := by
  intro e
  have hl2 : (xs.take n).length = n := by simp; omega
  have := padL_at (xs.take n)
  rw [e, hl2, hd] at this
  simp only [Option.some.injEq] at this
  exact hdc this
theorem hit_len (xs : List UInt8) (n : Nat) (hlt : n < xs.length) (hb : (rbk (n : Int) == (xs.length : Int)) = false) (h : n < 2048) : padL (xs.take n) ≠ xs := by
  intro e
  have hl2 : (xs.take n).length = n := by simp; omega
  have h2 := padL_length (xs.take n) (by omega)
  rw [e, hl2, ← rbk_bk] at h2
  rw [h2] at hb
  simp at hb
def intV : Value → Nat | .int _ n => n.toNat | _ => 0
set_option maxRecDepth 100000 in
set_option maxHeartbeats 1600000 in
theorem refUnpad_any (b off cap : Nat) (xs : List UInt8) (w : World) (hr : RdC w (some ⟨b, off, none⟩) (bcells xs)) (hc : xs.length ≤ cap) (hl : xs.length ≤ 2100) :
    Calls Tryd.prog 7 #[.slice (some ⟨b, off, none⟩) xs.length cap] w fun e w' =>
      Kept [] w w' ∧ ((∃ n, n ≤ xs.length ∧ n < 2048 ∧ padL (xs.take n) = xs ∧ e = .returned (.tuple #[.slice (some ⟨b, off, none⟩) n cap, .bool true])) ∨
        (¬ IsPad xs ∧ e = .returned (.tuple #[.slice none 0 0, .bool false]))) := by
  have HR := Lib.hid hr
  clear hr
  go_enter Tryd.func7, Tryd.ntmps7
  go_wp2
  go_loopw [4] (fun v wr => ∃ n : Nat, v = .int .i64 n ∧ n ≤ xs.length ∧ Kept [] w wr ∧ ∀ m, m < n → m < 2048 → padL (xs.take m) ≠ xs) (fun v _ => xs.length - intV v)
  case atStart => exact ⟨0, rfl, Nat.zero_le _, Kept.refl _ _, fun m h _ => by omega⟩
  case round =>
    obtain ⟨n, rfl, hn, hk, hm⟩ := hrel
    have HM := Lib.hid hm
    clear hm
    by_cases hlt : n < xs.length
    · obtain ⟨d, hd⟩ : ∃ d, xs[n]? = some d := ⟨xs[n], by simp [hlt]⟩
      have hrd := HR.out.call hk
      have hcell : wr.cell? ⟨b, off + n, none⟩ = some (.int .u8 (d.toNat : Int)) := by
        rcases hrd with h | ⟨b', off', he, h⟩
        · have : xs = [] := by simpa [bcells] using h
          simp [this] at hlt
        · simp only [Option.some.injEq, Addr.mk.injEq, and_true] at he
          obtain ⟨rfl, rfl⟩ := he
          exact h n _ (by simp [bcells, hd])
      have HD := Lib.hid hd
      clear hd
      have HRD := Lib.hid hrd
      clear hrd
      by_cases hdc : d = 128
      · subst hdc
        have hcell' : wr.cell? ⟨b, off + n, none⟩ = some (.int .u8 128) := hcell
        clear hcell
        by_cases hb : (rbk (n : Int) == (xs.length : Int)) = true
        · have hn2 : n < 2048 := by
            have h := beq_iff_eq.1 hb
            unfold rbk at h
            omega
          have hrp : RdC wr (some ⟨b, off, none⟩) (bcells (xs.take n)) := by rw [bcells_take]; exact RdC.take HRD.out n
          have hlen : (xs.take n).length = n := by simp; omega
          have hcon := fun (w' : World) (h : RdC w' (some ⟨b, off, none⟩) (bcells xs)) => conv_rd (cap := cap) h
          have HRP := Lib.hid hrp
          clear hrp
          have all : ∀ w1, Kept [] wr w1 → RdC w1 (some ⟨b, off, none⟩) (bcells xs) ∧ w1.cell? ⟨b, off + n, none⟩ = some (.int .u8 128) ∧ RdC w1 (some ⟨b, off, none⟩) (bcells (xs.take n)) ∧ Kept [] wr w1 := fun w1 h1 => ⟨HRD.out.call h1, h1.cell hcell' (by simp), HRP.out.call h1, h1⟩
          have ALL := Lib.hid all
          clear all
          have hnc : (n : Int) ≤ (cap : Int) := by omega
          have hp := fun W hr => refPad_any (some ⟨b, off, none⟩) cap (xs.take n) W hr (by omega)
          rw [hlen] at hp
          have HP := Lib.hid hp
          clear hp hlen
          go_wp2
          refine wp_region_ord (fun w1 => RdC w1 (some ⟨b, off, none⟩) (bcells xs) ∧ w1.cell? ⟨b, off + n, none⟩ = some (.int .u8 128) ∧ RdC w1 (some ⟨b, off, none⟩) (bcells (xs.take n)) ∧ Kept [] wr w1) [(0, true), (1, true), (2, true), (3, true), (4, true), (5, true), (6, true), (8, true), (9, true), (7, false), (10, true), (11, true), (12, true), (13, true), (14, true), (15, true), (18, true), (19, true), (16, false), (17, false), (20, true), (21, true)] (by kernel_rfl) (by kernel_rfl) (by kernel_rfl) (by kernel_rfl) (fun _ _ d _ _ h => by cases d <;> exact h) (ALL.out _ (Kept.drew [] wr)) ?_
          refine ord_f (d := some 11) rfl rfl rfl (fun _ _ => rfl) ?_
          simp only [Act.put, Act.eval, List.setIfInBounds_toArray, List.set_cons_zero, List.set_cons_succ, getD_lit, List.getD_cons_zero, List.getD_cons_succ]
          refine ord_f (d := some 12) rfl rfl rfl (fun _ _ => rfl) ?_
          simp only [Act.put, Act.eval, List.setIfInBounds_toArray, List.set_cons_zero, List.set_cons_succ, getD_lit, List.getD_cons_zero, List.getD_cons_succ]
          refine ord_f (o := { dst := some 13, op := Op.indexAddr 22 (Operand.tmp 11) (Operand.tmp 12), type := 0, pos := "ref.go:29", after := #[{ on := 0, ground := Ground.data }, { on := 1, ground := Ground.data }], guard := none }) (d := some 13) rfl rfl rfl (by intro wS hwS; go_simp <;> with_reducible rfl) ?_
          simp only [Act.put, Act.eval, List.setIfInBounds_toArray, List.set_cons_zero, List.set_cons_succ, getD_lit, List.getD_cons_zero, List.getD_cons_succ]
          refine ord_f (o := { dst := some 14, op := Op.load 5 (Operand.tmp 13), type := 5, pos := "ref.go:29", after := #[{ on := 2, ground := Ground.data }], guard := none }) (d := some 14) rfl rfl rfl (by intro wS hwS; go_simp <;> with_reducible rfl) ?_
          simp only [Act.put, Act.eval, List.setIfInBounds_toArray, List.set_cons_zero, List.set_cons_succ, getD_lit, List.getD_cons_zero, List.getD_cons_succ]
          refine ord_f (o := { dst := some 15, op := Op.binOp BinOp.eql 5 (Operand.tmp 14) (Operand.const (Value.int IntKind.u8 128)) 5, type := 4, pos := "ref.go:29", after := #[{ on := 3, ground := Ground.data }], guard := none }) (d := some 15) rfl rfl rfl (by intro wS hwS; go_simp <;> with_reducible rfl) ?_
          simp only [Act.put, Act.eval, List.setIfInBounds_toArray, List.set_cons_zero, List.set_cons_succ, getD_lit, List.getD_cons_zero, List.getD_cons_succ]
          refine ord_f (d := some 16) rfl rfl rfl (fun _ _ => rfl) ?_
          simp only [Act.put, Act.eval, List.setIfInBounds_toArray, List.set_cons_zero, List.set_cons_succ, getD_lit, List.getD_cons_zero, List.getD_cons_succ]
          refine ord_f (d := some 17) rfl rfl rfl (fun _ _ => rfl) ?_
          simp only [Act.put, Act.eval, List.setIfInBounds_toArray, List.set_cons_zero, List.set_cons_succ, getD_lit, List.getD_cons_zero, List.getD_cons_succ]
          refine ord_f (d := some 19) rfl rfl rfl (fun _ _ => rfl) ?_
          simp only [Act.put, Act.eval, List.setIfInBounds_toArray, List.set_cons_zero, List.set_cons_succ, getD_lit, List.getD_cons_zero, List.getD_cons_succ]
          refine ord_f (o := { dst := some 20, op := Op.call { callee := Callee.builtin Builtin.len, args := #[Operand.tmp 19], argTypes := #[22] }, type := 3, pos := "ref.go:29", after := #[{ on := 8, ground := Ground.data }, { on := 5, ground := Ground.guard }], guard := some (5, true) }) (d := some 20) rfl rfl rfl (by intro wS hwS; go_simp <;> with_reducible rfl) ?_
          simp only [Act.put, Act.eval, List.setIfInBounds_toArray, List.set_cons_zero, List.set_cons_succ, getD_lit, List.getD_cons_zero, List.getD_cons_succ]
          refine ord_call (vs := #[.int .i64 (n : Int)]) (d := some 18) rfl rfl rfl rfl rfl Tryd.call9 ?_
          refine (refBucket_any _ _).mono ?_
          rintro e w1 ⟨rfl, hb2⟩
          refine ⟨_, rfl, ALL.out w1 ((Kept.drew [] wr).trans (Kept.of_below hb2)), ?_⟩
          have hK1 := (Kept.drew [] wr).trans (Kept.of_below hb2)
          clear hb2
          simp only [Act.put, Act.eval, List.setIfInBounds_toArray, List.set_cons_zero, List.set_cons_succ, getD_lit, List.getD_cons_zero, List.getD_cons_succ]
          refine ord_f (o := { dst := some 21, op := Op.binOp BinOp.eql 3 (Operand.tmp 18) (Operand.tmp 20) 3, type := 4, pos := "ref.go:29", after := #[{ on := 7, ground := Ground.data }, { on := 9, ground := Ground.data }, { on := 5, ground := Ground.guard }], guard := some (5, true) }) (d := some 21) rfl rfl rfl (by intro wS hwS; go_simp <;> with_reducible rfl) ?_
          simp only [Act.put, Act.eval, List.setIfInBounds_toArray, List.set_cons_zero, List.set_cons_succ, getD_lit, List.getD_cons_zero, List.getD_cons_succ]
          refine ord_f (o := { dst := some 22, op := Op.pick (Operand.tmp 16) (Operand.tmp 21) (Operand.const (Value.bool false)), type := 4, pos := "ref.go:29", after := #[{ on := 5, ground := Ground.data }, { on := 10, ground := Ground.data }], guard := none }) (d := some 22) rfl rfl rfl (by intro wS hwS; go_simp <;> with_reducible rfl) ?_
          simp only [Act.put, Act.eval, List.setIfInBounds_toArray, List.set_cons_zero, List.set_cons_succ, getD_lit, List.getD_cons_zero, List.getD_cons_succ]
          refine ord_f (d := some 23) rfl rfl rfl (fun _ _ => rfl) ?_
          simp only [Act.put, Act.eval, List.setIfInBounds_toArray, List.set_cons_zero, List.set_cons_succ, getD_lit, List.getD_cons_zero, List.getD_cons_succ]
          refine ord_f (d := some 24) rfl rfl rfl (fun _ _ => rfl) ?_
          simp only [Act.put, Act.eval, List.setIfInBounds_toArray, List.set_cons_zero, List.set_cons_succ, getD_lit, List.getD_cons_zero, List.getD_cons_succ]
          refine ord_f (d := some 25) rfl rfl rfl (fun _ _ => rfl) ?_
          simp only [Act.put, Act.eval, List.setIfInBounds_toArray, List.set_cons_zero, List.set_cons_succ, getD_lit, List.getD_cons_zero, List.getD_cons_succ]
          refine ord_f (o := { dst := some 26, op := Op.slice 22 (Operand.tmp 24) none (some (Operand.tmp 25)) none, type := 22, pos := "ref.go:29", after := #[{ on := 13, ground := Ground.data }, { on := 14, ground := Ground.data }, { on := 12, ground := Ground.guard }], guard := some (12, true) }) (d := some 26) rfl rfl rfl (by intro wS hwS; go_simp <;> with_reducible rfl) ?_
          simp only [Act.put, Act.eval, List.setIfInBounds_toArray, List.set_cons_zero, List.set_cons_succ, getD_lit, List.getD_cons_zero, List.getD_cons_succ]
          refine ord_f (d := some 29) rfl rfl rfl (fun _ _ => rfl) ?_
          simp only [Act.put, Act.eval, List.setIfInBounds_toArray, List.set_cons_zero, List.set_cons_succ, getD_lit, List.getD_cons_zero, List.getD_cons_succ]
          refine ord_f (d := some 30) rfl rfl rfl (fun wS hwS => y_convBS rfl rfl (rfl) Tryd.underlying22 Tryd.underlying5 Tryd.underlying9 (hwS.1)) ?_
          simp only [Act.put, Act.eval, List.setIfInBounds_toArray, List.set_cons_zero, List.set_cons_succ, getD_lit, List.getD_cons_zero, List.getD_cons_succ]
          refine ord_call (vs := #[.slice (some ⟨b, off, none⟩) n cap]) (d := some 27) rfl rfl rfl rfl rfl Tryd.call10 ?_
          refine (HP.out _ (ALL.out _ hK1).2.2.1).mono ?_
          rintro e w2 ⟨ra, rc, rfl, hbr⟩
          refine ⟨_, rfl, ALL.out w2 (hK1.trans hbr.kept), ?_⟩
          have hK2 := hK1.trans hbr.kept
          have HB := Lib.hid hbr
          clear hbr
          simp only [Act.put, Act.eval, List.setIfInBounds_toArray, List.set_cons_zero, List.set_cons_succ, getD_lit, List.getD_cons_zero, List.getD_cons_succ]
          refine ord_op (d := some 28) rfl rfl rfl (y_convBS rfl rfl (rfl) Tryd.underlying22 Tryd.underlying5 Tryd.underlying9 (RowOk.rd HB.out.ok)) (ALL.out _ hK2) ?_
          simp only [Act.put, Act.eval, List.setIfInBounds_toArray, List.set_cons_zero, List.set_cons_succ, getD_lit, List.getD_cons_zero, List.getD_cons_succ]
          refine ord_f (o := { dst := some 31, op := Op.binOp BinOp.eql 9 (Operand.tmp 28) (Operand.tmp 30) 9, type := 4, pos := "ref.go:29", after := #[{ on := 17, ground := Ground.data }, { on := 19, ground := Ground.data }, { on := 12, ground := Ground.guard }], guard := some (12, true) }) (d := some 31) rfl rfl rfl (by intro wS hwS; go_simp <;> with_reducible rfl) ?_
          simp only [Act.put, Act.eval, List.setIfInBounds_toArray, List.set_cons_zero, List.set_cons_succ, getD_lit, List.getD_cons_zero, List.getD_cons_succ]
          refine ord_f (o := { dst := some 32, op := Op.pick (Operand.tmp 23) (Operand.tmp 31) (Operand.const (Value.bool false)), type := 4, pos := "ref.go:29", after := #[{ on := 12, ground := Ground.data }, { on := 20, ground := Ground.data }], guard := none }) (d := some 32) rfl rfl rfl (by intro wS hwS; go_simp <;> with_reducible rfl) ?_
          simp only [Act.put, Act.eval, List.setIfInBounds_toArray, List.set_cons_zero, List.set_cons_succ, getD_lit, List.getD_cons_zero, List.getD_cons_succ]
          refine ord_done ?_
          clear HP HB hnc hcell'
          have HALL := Lib.hid (hk.trans hK2)
          go_wp2
          · have hit : (padL (xs.take n) == xs) = true := by assumption
            have HIT := Lib.hid (beq_iff_eq.1 hit)
            clear hit
            go_ret2
            exact ⟨HALL.out, .inl ⟨n, hn, hn2, HIT.out, rfl⟩⟩
          · have hit : (padL (xs.take n) == xs) = false := by assumption
            have HIT := Lib.hid (beq_eq_false_iff_ne.1 hit)
            clear hit
            go_roundw
            case rel => exact ⟨n + 1, rfl, by omega, HALL.out, fun m hm2 hm3 => by
              by_cases e : m = n
              · subst e; exact HIT.out
              · exact HM.out m (by omega) hm3⟩
            case measure => simp [intV]; omega
        · have hb' : (rbk (n : Int) == (xs.length : Int)) = false := by simpa using hb
          clear hb
          have HNOT := Lib.hid (hit_len xs n hlt hb')
          go_wp2
          refine wp_region_ord (fun w1 => w1.cell? ⟨b, off + n, none⟩ = some (.int .u8 128) ∧ Kept [] w w1) [(0, true), (1, true), (2, true), (3, true), (4, true), (5, true), (6, true), (8, true), (9, true), (7, false), (10, true), (11, true), (12, true), (13, true), (14, true), (15, true), (16, true), (17, true), (18, true), (19, true), (20, true), (21, true)] (by kernel_rfl) (by kernel_rfl) (by kernel_rfl) (by kernel_rfl) (fun _ _ d _ _ h => by cases d <;> exact h) (⟨hcell', hk.trans (Kept.drew [] wr)⟩) ?_
          refine ord_f (d := some 11) rfl rfl rfl (fun _ _ => rfl) ?_
          simp only [Act.put, Act.eval, List.setIfInBounds_toArray, List.set_cons_zero, List.set_cons_succ, getD_lit, List.getD_cons_zero, List.getD_cons_succ]
          refine ord_f (d := some 12) rfl rfl rfl (fun _ _ => rfl) ?_
          simp only [Act.put, Act.eval, List.setIfInBounds_toArray, List.set_cons_zero, List.set_cons_succ, getD_lit, List.getD_cons_zero, List.getD_cons_succ]
          refine ord_f (o := { dst := some 13, op := Op.indexAddr 22 (Operand.tmp 11) (Operand.tmp 12), type := 0, pos := "ref.go:29", after := #[{ on := 0, ground := Ground.data }, { on := 1, ground := Ground.data }], guard := none }) (d := some 13) rfl rfl rfl (by intro wS hwS; go_simp <;> with_reducible rfl) ?_
          simp only [Act.put, Act.eval, List.setIfInBounds_toArray, List.set_cons_zero, List.set_cons_succ, getD_lit, List.getD_cons_zero, List.getD_cons_succ]
          refine ord_f (o := { dst := some 14, op := Op.load 5 (Operand.tmp 13), type := 5, pos := "ref.go:29", after := #[{ on := 2, ground := Ground.data }], guard := none }) (d := some 14) rfl rfl rfl (by intro wS hwS; go_simp <;> with_reducible rfl) ?_
          simp only [Act.put, Act.eval, List.setIfInBounds_toArray, List.set_cons_zero, List.set_cons_succ, getD_lit, List.getD_cons_zero, List.getD_cons_succ]
          refine ord_f (o := { dst := some 15, op := Op.binOp BinOp.eql 5 (Operand.tmp 14) (Operand.const (Value.int IntKind.u8 128)) 5, type := 4, pos := "ref.go:29", after := #[{ on := 3, ground := Ground.data }], guard := none }) (d := some 15) rfl rfl rfl (by intro wS hwS; go_simp <;> with_reducible rfl) ?_
          simp only [Act.put, Act.eval, List.setIfInBounds_toArray, List.set_cons_zero, List.set_cons_succ, getD_lit, List.getD_cons_zero, List.getD_cons_succ]
          refine ord_f (d := some 16) rfl rfl rfl (fun _ _ => rfl) ?_
          simp only [Act.put, Act.eval, List.setIfInBounds_toArray, List.set_cons_zero, List.set_cons_succ, getD_lit, List.getD_cons_zero, List.getD_cons_succ]
          refine ord_f (d := some 17) rfl rfl rfl (fun _ _ => rfl) ?_
          simp only [Act.put, Act.eval, List.setIfInBounds_toArray, List.set_cons_zero, List.set_cons_succ, getD_lit, List.getD_cons_zero, List.getD_cons_succ]
          refine ord_f (d := some 19) rfl rfl rfl (fun _ _ => rfl) ?_
          simp only [Act.put, Act.eval, List.setIfInBounds_toArray, List.set_cons_zero, List.set_cons_succ, getD_lit, List.getD_cons_zero, List.getD_cons_succ]
          refine ord_f (o := { dst := some 20, op := Op.call { callee := Callee.builtin Builtin.len, args := #[Operand.tmp 19], argTypes := #[22] }, type := 3, pos := "ref.go:29", after := #[{ on := 8, ground := Ground.data }, { on := 5, ground := Ground.guard }], guard := some (5, true) }) (d := some 20) rfl rfl rfl (by intro wS hwS; go_simp <;> with_reducible rfl) ?_
          simp only [Act.put, Act.eval, List.setIfInBounds_toArray, List.set_cons_zero, List.set_cons_succ, getD_lit, List.getD_cons_zero, List.getD_cons_succ]
          refine ord_call (vs := #[.int .i64 (n : Int)]) (d := some 18) rfl rfl rfl rfl rfl Tryd.call9 ?_
          refine (refBucket_any _ _).mono ?_
          rintro e w1 ⟨rfl, hb2⟩
          have hK1 := (hk.trans (Kept.drew [] wr)).trans (Kept.of_below hb2)
          refine ⟨_, rfl, ⟨(Kept.of_below hb2).cell (w := wr.drew) hcell' (by simp), hK1⟩, ?_⟩
          clear hb2
          simp only [Act.put, Act.eval, List.setIfInBounds_toArray, List.set_cons_zero, List.set_cons_succ, getD_lit, List.getD_cons_zero, List.getD_cons_succ]
          refine ord_f (o := { dst := some 21, op := Op.binOp BinOp.eql 3 (Operand.tmp 18) (Operand.tmp 20) 3, type := 4, pos := "ref.go:29", after := #[{ on := 7, ground := Ground.data }, { on := 9, ground := Ground.data }, { on := 5, ground := Ground.guard }], guard := some (5, true) }) (d := some 21) rfl rfl rfl (by intro wS hwS; go_simp <;> with_reducible rfl) ?_
          simp only [Act.put, Act.eval, List.setIfInBounds_toArray, List.set_cons_zero, List.set_cons_succ, getD_lit, List.getD_cons_zero, List.getD_cons_succ]
          refine ord_f (o := { dst := some 22, op := Op.pick (Operand.tmp 16) (Operand.tmp 21) (Operand.const (Value.bool false)), type := 4, pos := "ref.go:29", after := #[{ on := 5, ground := Ground.data }, { on := 10, ground := Ground.data }], guard := none }) (d := some 22) rfl rfl rfl (by intro wS hwS; go_simp <;> with_reducible rfl) ?_
          simp only [Act.put, Act.eval, List.setIfInBounds_toArray, List.set_cons_zero, List.set_cons_succ, getD_lit, List.getD_cons_zero, List.getD_cons_succ]
          refine ord_f (d := some 23) rfl rfl rfl (fun _ _ => rfl) ?_
          simp only [Act.put, Act.eval, List.setIfInBounds_toArray, List.set_cons_zero, List.set_cons_succ, getD_lit, List.getD_cons_zero, List.getD_cons_succ]
          refine ord_off (d := some 24) rfl rfl rfl ?_
          simp only [Act.put, Act.eval, List.setIfInBounds_toArray, List.set_cons_zero, List.set_cons_succ, getD_lit, List.getD_cons_zero, List.getD_cons_succ]
          refine ord_off (d := some 25) rfl rfl rfl ?_
          simp only [Act.put, Act.eval, List.setIfInBounds_toArray, List.set_cons_zero, List.set_cons_succ, getD_lit, List.getD_cons_zero, List.getD_cons_succ]
          refine ord_off (d := some 26) rfl rfl rfl ?_
          simp only [Act.put, Act.eval, List.setIfInBounds_toArray, List.set_cons_zero, List.set_cons_succ, getD_lit, List.getD_cons_zero, List.getD_cons_succ]
          refine ord_off (d := some 27) rfl rfl rfl ?_
          simp only [Act.put, Act.eval, List.setIfInBounds_toArray, List.set_cons_zero, List.set_cons_succ, getD_lit, List.getD_cons_zero, List.getD_cons_succ]
          refine ord_off (d := some 28) rfl rfl rfl ?_
          simp only [Act.put, Act.eval, List.setIfInBounds_toArray, List.set_cons_zero, List.set_cons_succ, getD_lit, List.getD_cons_zero, List.getD_cons_succ]
          refine ord_off (d := some 29) rfl rfl rfl ?_
          simp only [Act.put, Act.eval, List.setIfInBounds_toArray, List.set_cons_zero, List.set_cons_succ, getD_lit, List.getD_cons_zero, List.getD_cons_succ]
          refine ord_off (d := some 30) rfl rfl rfl ?_
          simp only [Act.put, Act.eval, List.setIfInBounds_toArray, List.set_cons_zero, List.set_cons_succ, getD_lit, List.getD_cons_zero, List.getD_cons_succ]
          refine ord_off (d := some 31) rfl rfl rfl ?_
          simp only [Act.put, Act.eval, List.setIfInBounds_toArray, List.set_cons_zero, List.set_cons_succ, getD_lit, List.getD_cons_zero, List.getD_cons_succ]
          refine ord_f (o := { dst := some 32, op := Op.pick (Operand.tmp 23) (Operand.tmp 31) (Operand.const (Value.bool false)), type := 4, pos := "ref.go:29", after := #[{ on := 12, ground := Ground.data }, { on := 20, ground := Ground.data }], guard := none }) (d := some 32) rfl rfl rfl (by intro wS hwS; go_simp <;> with_reducible rfl) ?_
          simp only [Act.put, Act.eval, List.setIfInBounds_toArray, List.set_cons_zero, List.set_cons_succ, getD_lit, List.getD_cons_zero, List.getD_cons_succ]
          refine ord_done ?_
          clear hcell'
          go_wp2
          go_roundw
          case rel => exact ⟨n + 1, rfl, by omega, hK1, fun m hm2 hm3 => by
              by_cases e : m = n
              · subst e; exact HNOT.out hm3
              · exact HM.out m (by omega) hm3⟩
          case measure => simp [intV]; omega
      · have hne : ((d.toNat : Int) == 128) = false := by
          rw [beq_eq_false_iff_ne]
          intro e
          exact hdc (UInt8.toNat_inj.1 (by have : (128 : UInt8).toNat = 128 := rfl; omega))
        have HNOT := Lib.hid (hit_mark xs n d hlt HD.out hdc)
        clear hdc
        go_wp2
        refine wp_region_ord (fun w1 => w1.cell? ⟨b, off + n, none⟩ = some (.int .u8 (d.toNat : Int)) ∧ Kept [] w w1) [(0, true), (1, true), (2, true), (3, true), (4, true), (5, true), (6, true), (7, true), (8, true), (9, true), (10, true), (11, true), (12, true), (13, true), (14, true), (15, true), (16, true), (17, true), (18, true), (19, true), (20, true), (21, true)] (by kernel_rfl) (by kernel_rfl) (by kernel_rfl) (by kernel_rfl) (fun _ _ d _ _ h => by cases d <;> exact h) (⟨hcell, hk.trans (Kept.drew [] wr)⟩) ?_
        refine ord_f (d := some 11) rfl rfl rfl (fun _ _ => rfl) ?_
        simp only [Act.put, Act.eval, List.setIfInBounds_toArray, List.set_cons_zero, List.set_cons_succ, getD_lit, List.getD_cons_zero, List.getD_cons_succ]
        refine ord_f (d := some 12) rfl rfl rfl (fun _ _ => rfl) ?_
        simp only [Act.put, Act.eval, List.setIfInBounds_toArray, List.set_cons_zero, List.set_cons_succ, getD_lit, List.getD_cons_zero, List.getD_cons_succ]
        refine ord_f (o := { dst := some 13, op := Op.indexAddr 22 (Operand.tmp 11) (Operand.tmp 12), type := 0, pos := "ref.go:29", after := #[{ on := 0, ground := Ground.data }, { on := 1, ground := Ground.data }], guard := none }) (d := some 13) rfl rfl rfl (by intro wS hwS; go_simp <;> with_reducible rfl) ?_
        simp only [Act.put, Act.eval, List.setIfInBounds_toArray, List.set_cons_zero, List.set_cons_succ, getD_lit, List.getD_cons_zero, List.getD_cons_succ]
        refine ord_f (o := { dst := some 14, op := Op.load 5 (Operand.tmp 13), type := 5, pos := "ref.go:29", after := #[{ on := 2, ground := Ground.data }], guard := none }) (d := some 14) rfl rfl rfl (by intro wS hwS; go_simp <;> with_reducible rfl) ?_
        simp only [Act.put, Act.eval, List.setIfInBounds_toArray, List.set_cons_zero, List.set_cons_succ, getD_lit, List.getD_cons_zero, List.getD_cons_succ]
        refine ord_f (o := { dst := some 15, op := Op.binOp BinOp.eql 5 (Operand.tmp 14) (Operand.const (Value.int IntKind.u8 128)) 5, type := 4, pos := "ref.go:29", after := #[{ on := 3, ground := Ground.data }], guard := none }) (d := some 15) rfl rfl rfl (by intro wS hwS; go_simp <;> with_reducible rfl) ?_
        simp only [Act.put, Act.eval, List.setIfInBounds_toArray, List.set_cons_zero, List.set_cons_succ, getD_lit, List.getD_cons_zero, List.getD_cons_succ]
        refine ord_f (d := some 16) rfl rfl rfl (fun _ _ => rfl) ?_
        simp only [Act.put, Act.eval, List.setIfInBounds_toArray, List.set_cons_zero, List.set_cons_succ, getD_lit, List.getD_cons_zero, List.getD_cons_succ]
        refine ord_off (d := some 17) rfl rfl rfl ?_
        simp only [Act.put, Act.eval, List.setIfInBounds_toArray, List.set_cons_zero, List.set_cons_succ, getD_lit, List.getD_cons_zero, List.getD_cons_succ]
        refine ord_off (d := some 18) rfl rfl rfl ?_
        simp only [Act.put, Act.eval, List.setIfInBounds_toArray, List.set_cons_zero, List.set_cons_succ, getD_lit, List.getD_cons_zero, List.getD_cons_succ]
        refine ord_off (d := some 19) rfl rfl rfl ?_
        simp only [Act.put, Act.eval, List.setIfInBounds_toArray, List.set_cons_zero, List.set_cons_succ, getD_lit, List.getD_cons_zero, List.getD_cons_succ]
        refine ord_off (d := some 20) rfl rfl rfl ?_
        simp only [Act.put, Act.eval, List.setIfInBounds_toArray, List.set_cons_zero, List.set_cons_succ, getD_lit, List.getD_cons_zero, List.getD_cons_succ]
        refine ord_off (d := some 21) rfl rfl rfl ?_
        simp only [Act.put, Act.eval, List.setIfInBounds_toArray, List.set_cons_zero, List.set_cons_succ, getD_lit, List.getD_cons_zero, List.getD_cons_succ]
        refine ord_f (o := { dst := some 22, op := Op.pick (Operand.tmp 16) (Operand.tmp 21) (Operand.const (Value.bool false)), type := 4, pos := "ref.go:29", after := #[{ on := 5, ground := Ground.data }, { on := 10, ground := Ground.data }], guard := none }) (d := some 22) rfl rfl rfl (by intro wS hwS; go_simp <;> with_reducible rfl) ?_
        simp only [Act.put, Act.eval, List.setIfInBounds_toArray, List.set_cons_zero, List.set_cons_succ, getD_lit, List.getD_cons_zero, List.getD_cons_succ]
        refine ord_f (d := some 23) rfl rfl rfl (fun _ _ => rfl) ?_
        simp only [Act.put, Act.eval, List.setIfInBounds_toArray, List.set_cons_zero, List.set_cons_succ, getD_lit, List.getD_cons_zero, List.getD_cons_succ]
        refine ord_off (d := some 24) rfl rfl rfl ?_
        simp only [Act.put, Act.eval, List.setIfInBounds_toArray, List.set_cons_zero, List.set_cons_succ, getD_lit, List.getD_cons_zero, List.getD_cons_succ]
        refine ord_off (d := some 25) rfl rfl rfl ?_
        simp only [Act.put, Act.eval, List.setIfInBounds_toArray, List.set_cons_zero, List.set_cons_succ, getD_lit, List.getD_cons_zero, List.getD_cons_succ]
        refine ord_off (d := some 26) rfl rfl rfl ?_
        simp only [Act.put, Act.eval, List.setIfInBounds_toArray, List.set_cons_zero, List.set_cons_succ, getD_lit, List.getD_cons_zero, List.getD_cons_succ]
        refine ord_off (d := some 27) rfl rfl rfl ?_
        simp only [Act.put, Act.eval, List.setIfInBounds_toArray, List.set_cons_zero, List.set_cons_succ, getD_lit, List.getD_cons_zero, List.getD_cons_succ]
        refine ord_off (d := some 28) rfl rfl rfl ?_
        simp only [Act.put, Act.eval, List.setIfInBounds_toArray, List.set_cons_zero, List.set_cons_succ, getD_lit, List.getD_cons_zero, List.getD_cons_succ]
        refine ord_off (d := some 29) rfl rfl rfl ?_
        simp only [Act.put, Act.eval, List.setIfInBounds_toArray, List.set_cons_zero, List.set_cons_succ, getD_lit, List.getD_cons_zero, List.getD_cons_succ]
        refine ord_off (d := some 30) rfl rfl rfl ?_
        simp only [Act.put, Act.eval, List.setIfInBounds_toArray, List.set_cons_zero, List.set_cons_succ, getD_lit, List.getD_cons_zero, List.getD_cons_succ]
        refine ord_off (d := some 31) rfl rfl rfl ?_
        simp only [Act.put, Act.eval, List.setIfInBounds_toArray, List.set_cons_zero, List.set_cons_succ, getD_lit, List.getD_cons_zero, List.getD_cons_succ]
        refine ord_f (o := { dst := some 32, op := Op.pick (Operand.tmp 23) (Operand.tmp 31) (Operand.const (Value.bool false)), type := 4, pos := "ref.go:29", after := #[{ on := 12, ground := Ground.data }, { on := 20, ground := Ground.data }], guard := none }) (d := some 32) rfl rfl rfl (by intro wS hwS; go_simp <;> with_reducible rfl) ?_
        simp only [Act.put, Act.eval, List.setIfInBounds_toArray, List.set_cons_zero, List.set_cons_succ, getD_lit, List.getD_cons_zero, List.getD_cons_succ]
        refine ord_done ?_
        clear hcell
        have hK1 := hk.trans (Kept.drew [] wr)
        go_wp2
        go_roundw
        case rel => exact ⟨n + 1, rfl, by omega, hK1, fun m hm2 hm3 => by
            by_cases e : m = n
            · subst e; exact HNOT.out
            · exact HM.out m (by omega) hm3⟩
        case measure => simp [intV]; omega
    · have hne : n = xs.length := by omega
      have HE := Lib.hid hne
      clear hne
      go_wp2
      go_ret2
      refine ⟨hk, .inr ⟨?_, rfl⟩⟩
      rintro ⟨u, hu, rfl⟩
      have := padL_more u
      exact HM.out u.length (by have := HE.out; omega) hu (by rw [padL_take])
end Go.Proofs.YtdndppfjkcfecaaDoor
