/- Given here: a region that draws its order, walked in one order that a program lays: what only reads is taken first, as long as what it reads stays; what turns memory comes in the one order that is left. Plain lemmas; no condition. -/
import Derived.Test.YtdndppfjkcfecaaDoorSh
import Derived.OrdersHeld
namespace Go.Proofs.YtdndppfjkcfecaaDoor
open Go.RowKit

theorem getD_lit (l : List Value) (i : Nat) (d : Value) : l.toArray.getD i d = l.getD i d := by
  simp only [Array.getD, List.getD_eq_getElem?_getD, List.size_toArray]
  split <;> simp_all
section
variable {P : Program} {ops : Array Oper} {Q : Exit → Act → World → Prop} {md : Region.Mode} {S : World → Prop}

/-- The walk in a laid order: of each number whether it is taken first. -/
def wpOrd (P : Program) (ops : Array Oper) (Q : Exit → Act → World → Prop) (S : World → Prop) : List (Nat × Bool) → Act → World → Prop
  | [], a, w => Q .normal a w
  | (i, true) :: r, a, w => ∃ o v, ops[i]? = some o ∧ YieldsIf P ops S o v a ∧ wpOrd P ops Q S r (a.put o.dst v) w
  | (i, false) :: r, a, w => wpOp P ops Q i (fun a' w' => S w' ∧ wpOrd P ops Q S r a' w') a w
/-- Whether an order serves. -/
def ordOk (md : Region.Mode) (ops : Array Oper) : List (Nat × Bool) → Array Bool → Bool
  | [], listed => (Region.ready md ops listed).isEmpty
  | (i, true) :: r, listed => (Region.ready md ops listed).contains i && (Region.free md ops listed i && ordOk md ops r (listed.setIfInBounds i true))
  | (i, false) :: r, listed => Region.ready md ops listed == [i] && ordOk md ops r (listed.setIfInBounds i true)

theorem wpAnyH_of_ord (hsel : Region.noSelect ops = true) (hQ : ∀ c a d v w, Q (.panic c) (Act.put a d v) w → Q (.panic c) a w) :
    ∀ (ord : List (Nat × Bool)) (fuel : Nat) (listed : Array Bool) (a : Act) (w : World), ord.length ≤ fuel → ordOk md ops ord listed = true → S w → wpOrd P ops Q S ord a w → wpAnyH P md ops Q S fuel listed a w
  | [], fuel, listed, a, w, _, ho, _, h => wpAnyH_done (by simpa [ordOk] using ho) h fuel
  | (i, true) :: r, 0, _, _, _, hl, _, _, _ => by simp at hl
  | (i, false) :: r, 0, _, _, _, hl, _, _, _ => by simp at hl
  | (i, true) :: r, fuel + 1, listed, a, w, hl, ho, hS, h => by
    obtain ⟨o, v, hi, hy, h⟩ := h
    simp only [ordOk, Bool.and_eq_true] at ho
    exact wpAnyH_take hi hsel ho.2.1 ho.1 (fun c a w => hQ c a o.dst v w) hy hS (wpAnyH_of_ord hsel hQ r fuel _ _ _ (by simpa using hl) ho.2.2 hS h)
  | (i, false) :: r, fuel + 1, listed, a, w, hl, ho, hS, h => by
    simp only [ordOk, Bool.and_eq_true, beq_iff_eq] at ho
    refine wpAnyH_all ho.1 (by simp) ?_
    intro j hj
    obtain rfl : j = i := by simpa using hj
    exact wpOp_mono (fun a' w' h' => ⟨h'.1, wpAnyH_of_ord hsel hQ r fuel _ _ _ (by simpa using hl) ho.2 h'.1 h'.2⟩) h

theorem wp_region_ord {id : Nat} {a : Act} {w : World} (S : World → Prop) (ord : List (Nat × Bool)) (hm : P.follows .mixedOrders = true) (hsel : Region.noSelect ops = true)
    (hlen : ord.length = ops.size) (ho : ordOk .any ops ord (Array.replicate ops.size false) = true) (hQ : ∀ c a d v w, Q (.panic c) (Act.put a d v) w → Q (.panic c) a w) (hS : S w.drew)
    (h : wpOrd P ops Q S ord a w.drew) : (Code.region id ops true).wp P Q a w :=
  wp_region_held (S := S) hm (wpAnyH_of_ord hsel hQ ord ops.size _ a _ (Nat.le_of_eq hlen) ho hS h)

variable {a : Act} {w : World} {i : Nat} {o : Oper} {r : List (Nat × Bool)}
/-- What yields a value in every world that meets 'S'. -/
theorem ord_f {v : Value} {d : Option Tmp} (hi : ops[i]? = some o) (hd : o.dst = d) (hw : Region.wanted o (yielded ops a.tmps) = true) (hy : ∀ w, S w → (execOp a.eval o).run P w = .ok (.value v) w) (h : wpOrd P ops Q S r (a.put d v) w) : wpOrd P ops Q S ((i, true) :: r) a w :=
  ⟨o, v, hi, .inl ⟨hw, hy⟩, hd ▸ h⟩
/-- What is passed over. -/
theorem ord_off {d : Option Tmp} (hi : ops[i]? = some o) (hd : o.dst = d) (hw : Region.wanted o (yielded ops a.tmps) = false) (h : wpOrd P ops Q S r (a.put d undef) w) : wpOrd P ops Q S ((i, true) :: r) a w :=
  ⟨o, undef, hi, .inr ⟨hw, rfl⟩, hd ▸ h⟩
theorem ord_done (h : Q .normal a w) : wpOrd P ops Q S [] a w := h
/-- What turns memory, with a value. -/
theorem ord_op {v : Value} {w' : World} {d : Option Tmp} (hi : ops[i]? = some o) (hd : o.dst = d) (hw : Region.wanted o (yielded ops a.tmps) = true) (hr : (execOp a.eval o).run P w = .ok (.value v) w') (hS : S w') (h : wpOrd P ops Q S r (a.put d v) w') : wpOrd P ops Q S ((i, false) :: r) a w := by
  subst hd
  show wpOp P ops Q i _ a w
  unfold Go.wpOp
  simp only [hi, hw, if_true, Oper.wp, hr, Oper.upon]
  exact .inl ⟨hS, h⟩
theorem ord_skip {w' : World} {d : Option Tmp} (hi : ops[i]? = some o) (hd : o.dst = d) (hw : Region.wanted o (yielded ops a.tmps) = true) (hr : (execOp a.eval o).run P w = .ok .skip w') (hS : S w') (h : wpOrd P ops Q S r (a.put d undef) w') : wpOrd P ops Q S ((i, false) :: r) a w := by
  subst hd
  show wpOp P ops Q i _ a w
  unfold Go.wpOp
  simp only [hi, hw, if_true, Oper.wp, hr, Oper.upon]
  exact .inl ⟨hS, h⟩
/-- A call. -/
theorem ord_call {f : FuncId} {args : Array Operand} {ats : Array TypeId} {d : Option Tmp} {vs : Array Value} (hi : ops[i]? = some o) (hd : o.dst = d) (hw : Region.wanted o (yielded ops a.tmps) = true)
    (ho : o.op = .call { callee := .value (.func f), args := args, argTypes := ats }) (hvs : (args.toList.map a.eval).toArray = vs) (hc : ∀ vs w, (callFunc f vs).run P w = .ok (.enter f vs) w)
    (h : Calls P f vs w fun e w' => ∃ v, e = .returned v ∧ S w' ∧ wpOrd P ops Q S r (a.put d v) w') : wpOrd P ops Q S ((i, false) :: r) a w := by
  subst hd
  have hvs' : args.map a.eval = vs := by rw [← hvs]; apply Array.ext'; simp
  subst hvs'
  clear hvs
  show wpOp P ops Q i _ a w
  unfold Go.wpOp
  simp only [hi, hw, if_true, Oper.wp]
  left
  have hr : (execOp a.eval o).run P w = .ok (.enter f (args.map a.eval)) w := by
    simp [execOp, ho, resolve, Deferred.ofValue, Act.eval, invoke, hc]
  rw [hr]
  refine Calls.mono h ?_
  rintro e w' ⟨v, rfl, hS, h⟩
  exact ⟨hS, h⟩
end
end Go.Proofs.YtdndppfjkcfecaaDoor
