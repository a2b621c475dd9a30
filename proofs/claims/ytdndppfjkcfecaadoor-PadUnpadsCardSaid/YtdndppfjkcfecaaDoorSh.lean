/- Given here: a symbolic heap: the things that a call holds, each with the blocks that it stands in, and that all else is as it was; with the steps by which it turns. Plain lemmas; no condition. -/
import Derived.WalkKit
import Derived.WalkSpells
import Derived.WalkLawsBesides
import Derived.Lib.Hide
import Derived.Laws.CopyRow
import Derived.Laws.MakeOwn
import Derived.Laws.BytesArg
namespace Go.Proofs.YtdndppfjkcfecaaDoor
open Go.RowKit

/-- Of what lay there only the blocks of 'S' may have turned. -/
structure Kept (S : List Nat) (w w' : World) : Prop where
  os : w'.os = w.os
  tape : w'.tape = w.tape
  output : w'.output = w.output
  size : w.heap.size ≤ w'.heap.size
  block : ∀ k, k < w.heap.size → k ∉ S → w'.heap[k]? = w.heap[k]?

theorem Kept.refl (S : List Nat) (w : World) : Kept S w w := ⟨rfl, rfl, rfl, Nat.le_refl _, fun _ _ _ => rfl⟩
theorem Kept.trans {S : List Nat} {a b c : World} (h : Kept S a b) (k : Kept S b c) : Kept S a c :=
  ⟨k.os.trans h.os, k.tape.trans h.tape, k.output.trans h.output, Nat.le_trans h.size k.size, fun i hi hs => (k.block i (Nat.lt_of_lt_of_le hi h.size) hs).trans (h.block i hi hs)⟩
theorem Kept.more {S T : List Nat} {w w' : World} (h : Kept S w w') (hs : ∀ k ∈ S, k ∈ T) : Kept T w w' := ⟨h.os, h.tape, h.output, h.size, fun k hk hn => h.block k hk fun hm => hn (hs k hm)⟩
theorem Kept.of_below {w w' : World} (h : Below w.heap.size w w') : Kept [] w w' := ⟨h.os, h.tape, h.output, h.size, fun k hk _ => h.block k hk⟩
theorem Kept.below {w w' : World} (h : Kept [] w w') : Below w.heap.size w w' := ⟨h.os, h.tape, h.output, h.size, fun k hk => h.block k hk (by simp)⟩
theorem Kept.drew (S : List Nat) (w : World) : Kept S w w.drew := ⟨rfl, rfl, rfl, Nat.le_refl _, fun _ _ _ => rfl⟩
theorem Kept.alloc (S : List Nat) (w : World) (o : Obj) : Kept S w (w.alloc o) := ⟨rfl, rfl, rfl, by simp, fun _ hk _ => heap_alloc_old w o hk⟩
theorem Kept.setRow (w : World) (b : Nat) (cs : Array Value) : Kept [b] w (w.setRow b cs) := ⟨rfl, rfl, rfl, by simp [World.setRow], fun k _ hn => setRow_other w b k cs (by simpa using hn)⟩
theorem Kept.cell {S : List Nat} {w w' : World} (h : Kept S w w') {a : Addr} {v : Value} (hc : w.cell? a = some v) (hn : a.block ∉ S) : w'.cell? a = some v :=
  (World.cell?_of_block (w := w) (h.block _ (World.block_lt_of_cell? w a hc) hn)).trans hc

/-- A thing that is held: the blocks in which it stands, and what is known of it. -/
structure It where
  foot : List Nat
  ok : World → Prop
def It.Local (i : It) : Prop := ∀ w w', (∀ k ∈ i.foot, w'.heap[k]? = w.heap[k]?) → i.ok w → i.ok w'

/-- The symbolic heap. -/
structure SH (S : List Nat) (w0 w : World) (G : List It) : Prop where
  kept : Kept S w0 w
  has : ∀ i ∈ G, i.ok w
  loc : ∀ i ∈ G, i.Local
  lt : ∀ i ∈ G, ∀ k ∈ i.foot, k < w.heap.size
  own : ∀ i ∈ G, ∀ k ∈ i.foot, k ∈ S ∨ w0.heap.size ≤ k
  apart : G.Pairwise fun i j => ∀ k ∈ i.foot, k ∉ j.foot

section
variable {S : List Nat} {w0 w w' : World} {G : List It}

theorem SH.start (S : List Nat) (w : World) : SH S w w [] := ⟨Kept.refl _ _, by simp, by simp, by simp, by simp, by simp⟩
theorem SH.at (h : SH S w0 w G) (n : Nat) {i : It} (hi : G[n]? = some i) : i.ok w := h.has i (List.mem_of_getElem? hi)

theorem SH.call (h : SH S w0 w G) (hk : Kept [] w w') : SH S w0 w' G :=
  ⟨h.kept.trans (hk.more (by simp)), fun i hi => h.loc i hi w w' (fun k hkf => hk.block k (h.lt i hi k hkf) (by simp)) (h.has i hi), h.loc,
    fun i hi k hkf => Nat.lt_of_lt_of_le (h.lt i hi k hkf) hk.size, h.own, h.apart⟩

/-- One more thing, of blocks that no other one stands in. -/
theorem SH.take (h : SH S w0 w G) (i : It) (hok : i.ok w) (hl : i.Local) (hlt : ∀ k ∈ i.foot, k < w.heap.size) (ho : ∀ k ∈ i.foot, k ∈ S ∨ w0.heap.size ≤ k)
    (hd : ∀ j ∈ G, ∀ k ∈ j.foot, k ∉ i.foot) : SH S w0 w (G ++ [i]) := by
  refine ⟨h.kept, ?_, ?_, ?_, ?_, ?_⟩
  · intro j hj; rcases List.mem_append.1 hj with hj | hj
    · exact h.has j hj
    · simp at hj; subst hj; exact hok
  · intro j hj; rcases List.mem_append.1 hj with hj | hj
    · exact h.loc j hj
    · simp at hj; subst hj; exact hl
  · intro j hj; rcases List.mem_append.1 hj with hj | hj
    · exact h.lt j hj
    · simp at hj; subst hj; exact hlt
  · intro j hj; rcases List.mem_append.1 hj with hj | hj
    · exact h.own j hj
    · simp at hj; subst hj; exact ho
  · rw [List.pairwise_append]
    refine ⟨h.apart, by simp, ?_⟩
    intro x hx y hy
    simp at hy
    subst hy
    exact hd x hx

/-- A thing that a step brings, of new blocks. -/
structure Brings (w w' : World) (i : It) : Prop where
  kept : Kept [] w w'
  ok : i.ok w'
  loc : i.Local
  new : ∀ k ∈ i.foot, w.heap.size ≤ k ∧ k < w'.heap.size
theorem SH.brings (h : SH S w0 w G) {i : It} (hb : Brings w w' i) : SH S w0 w' (G ++ [i]) :=
  (h.call hb.kept).take i hb.ok hb.loc (fun k hk => (hb.new k hk).2) (fun k hk => .inr (Nat.le_trans h.kept.size (hb.new k hk).1))
    (fun j hj k hk hki => by have := h.lt j hj k hk; have := (hb.new k hki).1; omega)

/-- A thing that a step turns into another one. -/
structure Turns (w w' : World) (i j : It) : Prop where
  kept : Kept i.foot w w'
  ok : j.ok w'
  loc : j.Local
  foot : ∀ k ∈ j.foot, k < w'.heap.size ∧ (k ∈ i.foot ∨ w.heap.size ≤ k)

theorem set_pairwise {R : It → It → Prop} (hR : ∀ i j, R i j → R j i) : ∀ (G : List It) (n : Nat) (i j : It), G[n]? = some i → G.Pairwise R → (∀ x ∈ G, ∀ m, G[m]? = some x → m ≠ n → R x j) → (G.set n j).Pairwise R
  | [], _, _, _, hi, _, _ => by simp at hi
  | g :: G, 0, i, j, _, hp, hx => by
    simp only [List.set_cons_zero, List.pairwise_cons] at hp ⊢
    refine ⟨fun x hxm => ?_, hp.2⟩
    obtain ⟨m, hm⟩ := List.getElem?_of_mem hxm
    exact hR _ _ (hx x (by simp [hxm]) (m + 1) (by simpa using hm) (by omega))
  | g :: G, n + 1, i, j, hi, hp, hx => by
    simp only [List.set_cons_succ, List.pairwise_cons] at hp ⊢
    refine ⟨fun x hxm => ?_, set_pairwise hR G n i j (by simpa using hi) hp.2 (fun x hxm m hm hne => hx x (by simp [hxm]) (m + 1) (by simpa using hm) (by omega))⟩
    rcases List.mem_or_eq_of_mem_set hxm with h1 | rfl
    · exact hp.1 x h1
    · exact hx g (by simp) 0 (by simp) (by omega)

theorem SH.ne (h : SH S w0 w G) {m n : Nat} {i j : It} (hm : G[m]? = some i) (hn : G[n]? = some j) (hne : m ≠ n) : ∀ k ∈ i.foot, k ∉ j.foot := by
  have nd := List.pairwise_iff_getElem.1 h.apart
  obtain ⟨l1, g1⟩ := List.getElem?_eq_some_iff.1 hm
  obtain ⟨l2, g2⟩ := List.getElem?_eq_some_iff.1 hn
  intro k hk hk2
  rcases Nat.lt_or_gt_of_ne hne with hij | hij
  · have := nd m n l1 l2 hij
    rw [g1, g2] at this
    exact this k hk hk2
  · have := nd n m l2 l1 hij
    rw [g1, g2] at this
    exact this k hk2 hk

theorem SH.turns (h : SH S w0 w G) (n : Nat) {i j : It} (hi : G[n]? = some i) (ht : Turns w w' i j) : SH S w0 w' (G.set n j) := by
  have hmem := List.mem_of_getElem? hi
  have oth : ∀ x ∈ G, ∀ m, G[m]? = some x → m ≠ n → x.ok w' := fun x hx m hm hne =>
    h.loc x hx w w' (fun k hk => ht.kept.block k (h.lt x hx k hk) (h.ne hm hi hne k hk)) (h.has x hx)
  have each : ∀ (p : It → Prop), (∀ x ∈ G, ∀ m, G[m]? = some x → m ≠ n → p x) → p j → ∀ x ∈ G.set n j, p x := by
    intro p h1 h2 x hx
    obtain ⟨m, hm⟩ := List.getElem?_of_mem hx
    rw [List.getElem?_set] at hm
    split at hm
    · split at hm
      · simp only [Option.some.injEq] at hm; subst hm; exact h2
      · cases hm
    · rename_i hne
      exact h1 x (List.mem_of_getElem? hm) m hm (fun e => hne e.symm)
  refine ⟨⟨ht.kept.os.trans h.kept.os, ht.kept.tape.trans h.kept.tape, ht.kept.output.trans h.kept.output, Nat.le_trans h.kept.size ht.kept.size, ?_⟩, ?_, ?_, ?_, ?_, ?_⟩
  · intro k hk0 hkS
    rw [ht.kept.block k (Nat.lt_of_lt_of_le hk0 h.kept.size) ?_]
    · exact h.kept.block k hk0 hkS
    · intro hkf
      rcases h.own i hmem k hkf with h1 | h1
      · exact hkS h1
      · omega
  · exact each _ oth ht.ok
  · exact each _ (fun x hx _ _ _ => h.loc x hx) ht.loc
  · exact each _ (fun x hx _ _ _ k hk => Nat.lt_of_lt_of_le (h.lt x hx k hk) ht.kept.size) (fun k hk => (ht.foot k hk).1)
  · refine each _ (fun x hx _ _ _ => h.own x hx) (fun k hk => ?_)
    rcases (ht.foot k hk).2 with h1 | h1
    · exact h.own i hmem k h1
    · exact .inr (Nat.le_trans h.kept.size h1)
  · refine set_pairwise (fun i j hij k hk hk2 => hij k hk2 hk) G n i j hi h.apart (fun x hx m hm hne k hk hkj => ?_)
    rcases (ht.foot k hkj).2 with h1 | h1
    · exact h.ne hm hi hne k hk h1
    · have := h.lt x hx k hk; omega

/-- What a call that owned nothing brings. -/
theorem SH.done {w0 w : World} {G : List It} (h : SH [] w0 w G) (n : Nat) {i : It} (hi : G[n]? = some i) : Brings w0 w i := by
  have hm := List.mem_of_getElem? hi
  exact ⟨h.kept, h.at n hi, h.loc i hm, fun k hk => ⟨(h.own i hm k hk).resolve_left (by simp), h.lt i hm k hk⟩⟩
/-- What a call made of the thing that it owned. -/
theorem SH.turned {i j : It} {w0 w : World} {G : List It} (h : SH i.foot w0 w G) (n : Nat) (hj : G[n]? = some j) : Turns w0 w i j := by
  have hm := List.mem_of_getElem? hj
  exact ⟨h.kept, h.at n hj, h.loc j hm, fun k hk => ⟨h.lt j hm k hk, h.own j hm k hk⟩⟩
/-- Less is held. -/
theorem SH.sub {G' : List It} (h : SH S w0 w G) (hs : G'.Sublist G) : SH S w0 w G' :=
  ⟨h.kept, fun i hi => h.has i (hs.subset hi), fun i hi => h.loc i (hs.subset hi), fun i hi => h.lt i (hs.subset hi), fun i hi => h.own i (hs.subset hi), h.apart.sublist hs⟩
theorem SH.perm {G' : List It} (h : SH S w0 w G) (hp : G.Perm G') : SH S w0 w G' :=
  ⟨h.kept, fun i hi => h.has i (hp.mem_iff.2 hi), fun i hi => h.loc i (hp.mem_iff.2 hi), fun i hi => h.lt i (hp.mem_iff.2 hi), fun i hi => h.own i (hp.mem_iff.2 hi),
    (hp.pairwise_iff (R := fun i j : It => ∀ k ∈ i.foot, k ∉ j.foot) (fun h k hk hk2 => h k hk2 hk)).1 h.apart⟩
theorem SH.one (h : SH S w0 w G) (n : Nat) {i : It} (hi : G[n]? = some i) : SH S w0 w [i] :=
  h.sub (by simpa using List.mem_of_getElem? hi)
theorem SH.two (h : SH S w0 w G) (m n : Nat) {i j : It} (hi : G[m]? = some i) (hj : G[n]? = some j) (hne : m ≠ n) : SH S w0 w [i, j] := by
  have hi' := List.mem_of_getElem? hi
  have hj' := List.mem_of_getElem? hj
  have all : ∀ (p : It → Prop), (∀ x ∈ G, p x) → ∀ x ∈ [i, j], p x := by
    intro p hp x hx
    simp at hx
    rcases hx with rfl | rfl
    · exact hp _ hi'
    · exact hp _ hj'
  exact ⟨h.kept, all _ h.has, all _ h.loc, all _ h.lt, all _ h.own, by simpa using h.ne hi hj hne⟩
/-- What a thing is known as may be said otherwise. -/
theorem SH.says (h : SH S w0 w G) (n : Nat) {i j : It} (hi : G[n]? = some i) (hf : ∀ k ∈ j.foot, k ∈ i.foot) (hok : i.ok w → j.ok w) (hl : j.Local) : SH S w0 w (G.set n j) :=
  h.turns n hi ⟨Kept.refl _ _, hok (h.at n hi), hl, fun k hk => ⟨h.lt i (List.mem_of_getElem? hi) k (hf k hk), .inl (hf k hk)⟩⟩

theorem SH.drew (h : SH S w0 w G) : SH S w0 w.drew G := h.call (Kept.drew [] w)
theorem SH.oldCell (h : SH S w0 w G) {a : Addr} {v : Value} (hc : w0.cell? a = some v) (hn : a.block ∉ S) : w.cell? a = some v := h.kept.cell hc hn
end

/-- The cells of bytes. -/
def bcells (xs : List UInt8) : List Value := xs.map fun c => Value.int .u8 (c.toNat : Int)
theorem bcells_length (xs : List UInt8) : (bcells xs).length = xs.length := by simp [bcells]
theorem bcells_one (xs : List UInt8) : ∀ v ∈ bcells xs, v.oneCell' = true := by
  intro v hv
  obtain ⟨c, _, rfl⟩ := List.mem_map.1 hv
  rfl
theorem bcells_append (xs ys : List UInt8) : bcells (xs ++ ys) = bcells xs ++ bcells ys := by simp [bcells]
theorem bcells_take (xs : List UInt8) (n : Nat) : bcells (xs.take n) = (bcells xs).take n := by simp [bcells]
theorem bcells_drop (xs : List UInt8) (n : Nat) : bcells (xs.drop n) = (bcells xs).drop n := by simp [bcells]
theorem bcells_zeros (n : Nat) : bcells (List.replicate n 0) = List.replicate n (Value.int .u8 0) := by simp [bcells]
theorem bcells_inj (xs ys : List UInt8) (h : bcells xs = bcells ys) : xs = ys := by
  unfold bcells at h
  refine (List.map_inj_right (fun c d hcd => ?_)).1 h
  simp only [Value.int.injEq, true_and] at hcd
  exact UInt8.toNat_inj.1 (by omega)

/-! ### Blocks, and rows that a slice owns -/

/-- A block that is known whole. -/
def blk (b : Nat) (o : Obj) : It := ⟨[b], fun w => w.heap[b]? = some o⟩
theorem blk_local (b : Nat) (o : Obj) : (blk b o).Local := fun w w' h (hb : w.heap[b]? = some o) => (h b (by simp [blk])).trans hb
theorem SH.blk {S : List Nat} {w0 w : World} {G : List It} (h : SH S w0 w G) (n : Nat) {b : Nat} {o : Obj} (hi : G[n]? = some (blk b o)) : w.heap[b]? = some o := h.at n hi
/-- The block of an address. -/
def footOf : Option Addr → List Nat
  | some a => [a.block]
  | none => []
/-- A slice that owns its row: nil, or the head of a block; 'cs' the cells of its elements. -/
def RowOk (w : World) (a : Option Addr) (n cap : Nat) (e : TypeId) (size : Nat) (cs : List Value) : Prop :=
  cs.length = n * size ∧ ((a = none ∧ n = 0 ∧ cap = 0) ∨
    ∃ g sp, a = some ⟨g, 0, none⟩ ∧ w.heap[g]? = some (.cells (cs ++ sp).toArray e (0, 0)) ∧ n ≤ cap ∧ cap ≤ maxLen ∧ (cs ++ sp).length = cap * size)
def row (a : Option Addr) (n cap : Nat) (e : TypeId) (size : Nat) (cs : List Value) : It := ⟨footOf a, fun w => RowOk w a n cap e size cs⟩
theorem row_local (a : Option Addr) (n cap : Nat) (e : TypeId) (size : Nat) (cs : List Value) : (row a n cap e size cs).Local := by
  rintro w w' h ⟨h1, h2⟩
  refine ⟨h1, ?_⟩
  rcases h2 with h2 | ⟨g, sp, rfl, hg, r⟩
  · exact .inl h2
  · exact .inr ⟨g, sp, rfl, (h g (by simp [row, footOf])).trans hg, r⟩

theorem SH.alloc {S : List Nat} {w0 w : World} {G : List It} (h : SH S w0 w G) (o : Obj) : SH S w0 (w.alloc o) (G ++ [Go.Proofs.YtdndppfjkcfecaaDoor.blk w.heap.size o]) :=
  h.brings ⟨Kept.alloc [] w o, heap_alloc_new w o, blk_local _ _, by simp [Go.Proofs.YtdndppfjkcfecaaDoor.blk]⟩

/-- Cells that can be read from an address on. -/
def RdC (w : World) (a : Option Addr) (cs : List Value) : Prop := cs = [] ∨ ∃ b off, a = some ⟨b, off, none⟩ ∧ ∀ j v, cs[j]? = some v → w.cell? ⟨b, off + j, none⟩ = some v
theorem RdC.kept {S : List Nat} {w w' : World} {a : Option Addr} {cs : List Value} (h : RdC w a cs) (hk : Kept S w w') (hn : ∀ k ∈ footOf a, k ∉ S) : RdC w' a cs := by
  rcases h with h | ⟨b, off, rfl, h⟩
  · exact .inl h
  · exact .inr ⟨b, off, rfl, fun j v hj => hk.cell (h j v hj) (hn b (by simp [footOf]))⟩
theorem RdC.call {w w' : World} {a : Option Addr} {cs : List Value} (h : RdC w a cs) (hk : Kept [] w w') : RdC w' a cs := h.kept hk (by simp)
theorem SH.oldRd {S : List Nat} {w0 w : World} {G : List It} (h : SH S w0 w G) {a : Option Addr} {cs : List Value} (hr : RdC w0 a cs) (hn : ∀ k ∈ footOf a, k ∉ S) : RdC w a cs := hr.kept h.kept hn
theorem RowOk.rd {w : World} {a : Option Addr} {n cap : Nat} {e : TypeId} {size : Nat} {cs : List Value} (h : RowOk w a n cap e size cs) : RdC w a cs := by
  rcases h.2 with ⟨rfl, rfl, rfl⟩ | ⟨g, sp, rfl, hg, _⟩
  · exact .inl (List.eq_nil_of_length_eq_zero (by simpa using h.1))
  · refine .inr ⟨g, 0, rfl, fun j v hj => ?_⟩
    simp only [World.cell?, hg, Nat.zero_add]
    have hlt := (List.getElem?_eq_some_iff.1 hj).1
    simpa [List.getElem?_append, hlt] using hj
theorem SH.rowRd {S : List Nat} {w0 w : World} {G : List It} (h : SH S w0 w G) (n : Nat) {a : Option Addr} {l cap : Nat} {e : TypeId} {size : Nat} {cs : List Value} (hi : G[n]? = some (row a l cap e size cs)) : RdC w a cs :=
  RowOk.rd (h.at n hi)
theorem SH.blkRd {S : List Nat} {w0 w : World} {G : List It} (h : SH S w0 w G) (n : Nat) {b : Nat} {L : List Value} {e : TypeId} {m : Nat × Nat} (hi : G[n]? = some (Go.Proofs.YtdndppfjkcfecaaDoor.blk b (.cells L.toArray e m))) (off k : Nat) :
    RdC w (some ⟨b, off, none⟩) ((L.drop off).take k) := by
  refine .inr ⟨b, off, rfl, fun j v hj => ?_⟩
  simp only [World.cell?, h.blk n hi]
  rw [List.getElem?_take] at hj
  split at hj
  · simpa using hj
  · cases hj

theorem SH.blkRd0 {S : List Nat} {w0 w : World} {G : List It} (h : SH S w0 w G) (n : Nat) {b : Nat} {L : List Value} {e : TypeId} {m : Nat × Nat} {cs : List Value} (hi : G[n]? = some (Go.Proofs.YtdndppfjkcfecaaDoor.blk b (.cells L.toArray e m))) (hp : cs <+: L) :
    RdC w (some ⟨b, 0, none⟩) cs := by
  have := h.blkRd n hi 0 cs.length
  rw [List.drop_zero, ← List.prefix_iff_eq_take.1 hp] at this
  exact this

/-! ### The steps of the walk -/
section
variable {P : Program} {ops : Array Oper} {Q : Exit → Act → World → Prop} {a : Act} {w w0 : World} {S : List Nat} {G : List It} {rest : List Oper} {o : Oper}

theorem sh_op (hw : Region.wanted o (yielded ops a.tmps) = true) {v : Value} {w' : World} (hr : (execOp a.eval o).run P w = .ok (.value v) w') (k : wpList P ops Q rest (a.put o.dst v) w') : wpList P ops Q (o :: rest) a w :=
  wpList_step fun K hK => by
    rw [if_pos hw]
    unfold Oper.wp
    rw [hr]
    exact hK _ _ k
theorem sh_skip (hw : Region.wanted o (yielded ops a.tmps) = true) {w' : World} (hr : (execOp a.eval o).run P w = .ok .skip w') (k : wpList P ops Q rest (a.put o.dst undef) w') : wpList P ops Q (o :: rest) a w :=
  wpList_step fun K hK => by
    rw [if_pos hw]
    unfold Oper.wp
    rw [hr]
    exact hK _ _ k

theorem cell_at {b off : Nat} {L : List Value} {e : TypeId} {m : Nat × Nat} {v : Value} (hg : w.heap[b]? = some (.cells L.toArray e m)) (hv : L[off]? = some v) : w.cell? ⟨b, off, none⟩ = some v := by
  simp [World.cell?, hg, hv]

/-- A plain cell of a block that is held. -/
theorem sh_load1 (hs : SH S w0 w G) (n : Nat) {t : TypeId} {x : Operand} {b off : Nat} {L : List Value} {e : TypeId} {m : Nat × Nat} {v : Value}
    (hw : Region.wanted o (yielded ops a.tmps) = true) (ho : o.op = .load t x) (hx : a.eval x = .pointer (some ⟨b, off, none⟩))
    (hG : G[n]? = some (blk b (.cells L.toArray e m))) (hA : ∀ w, (isAgg t).run P w = .ok false w) (hv : L[off]? = some v)
    (k : wpList P ops Q rest (a.put o.dst v) w) : wpList P ops Q (o :: rest) a w := by
  refine sh_op hw (w' := w) ?_ k
  have hc := cell_at (hs.blk n hG) hv
  simp [execOp, ho, hx, Instr.loadAt, Instr.sureAddr, loadVar, hA, load, Sem.run, hc, Result.andThen]

/-- A plain cell of what can be read. -/
theorem sh_loadRd {t : TypeId} {x : Operand} {b off i : Nat} {cs : List Value} {v : Value} (hr : RdC w (some ⟨b, off, none⟩) cs)
    (hw : Region.wanted o (yielded ops a.tmps) = true) (ho : o.op = .load t x) (hx : a.eval x = .pointer (some ⟨b, off + i, none⟩))
    (hA : ∀ w, (isAgg t).run P w = .ok false w) (hv : cs[i]? = some v)
    (k : wpList P ops Q rest (a.put o.dst v) w) : wpList P ops Q (o :: rest) a w := by
  refine sh_op hw (w' := w) ?_ k
  rcases hr with rfl | ⟨b', off', he, hr⟩
  · simp at hv
  · simp only [Option.some.injEq, Addr.mk.injEq, and_true] at he
    obtain ⟨rfl, rfl⟩ := he
    have hc := hr i v hv
    simp [execOp, ho, hx, Instr.loadAt, Instr.sureAddr, loadVar, hA, load, Sem.run, hc, Result.andThen]

/-- A whole value of several cells. -/
theorem sh_loadn (hs : SH S w0 w G) (n : Nat) {t : TypeId} {x : Operand} {b off z : Nat} {L : List Value} {e : TypeId} {m : Nat × Nat} {vs : List Value}
    (hw : Region.wanted o (yielded ops a.tmps) = true) (ho : o.op = .load t x) (hx : a.eval x = .pointer (some ⟨b, off, none⟩))
    (hG : G[n]? = some (blk b (.cells L.toArray e m))) (hA : ∀ w, (isAgg t).run P w = .ok true w) (hz : ∀ w, (sizeOf t).run P w = .ok z w)
    (hv : (L.drop off).take z = vs) (hn : vs.length = z)
    (k : wpList P ops Q rest (a.put o.dst (.agg vs.toArray)) w) : wpList P ops Q (o :: rest) a w := by
  refine sh_op hw (w' := w) ?_ k
  have hc := run_loadCells_list (P := P) w ⟨b, off, none⟩ vs (fun j v hj => by
    have hplain : (⟨b, off, none⟩ : Addr).add j = ⟨b, off + j, none⟩ := by unfold Addr.add; split <;> simp_all
    rw [hplain]
    subst hv
    rw [List.getElem?_take] at hj
    split at hj
    · exact cell_at (hs.blk n hG) (by simpa using hj)
    · cases hj)
  rw [hn] at hc
  simp [execOp, ho, hx, Instr.loadAt, Instr.sureAddr, loadVar, hA, hz, hc, Result.andThen]

theorem turns_row {b : Nat} {L L' : List Value} {e : TypeId} (hg : w.heap[b]? = some (.cells L.toArray e (0, 0))) : Turns w (w.setRow b L'.toArray) (blk b (.cells L.toArray e (0, 0))) (blk b (.cells L'.toArray e (0, 0))) := by
  have hn := setRow_heap w b _ L'.toArray e _ hg
  exact ⟨Kept.setRow _ _ _, hn, blk_local _ _, fun k hk => ⟨by simp [blk] at hk; subst hk; exact (Array.getElem?_eq_some_iff.1 hn).1, .inl hk⟩⟩

/-- A store into a block that is held and not marked. -/
theorem sh_store1 (hs : SH S w0 w G) (n : Nat) {t : TypeId} {x y : Operand} {b off : Nat} {L : List Value} {e : TypeId} {v : Value}
    (hw : Region.wanted o (yielded ops a.tmps) = true) (ho : o.op = .store t x y) (hx : a.eval x = .pointer (some ⟨b, off, none⟩)) (hy : a.eval y = v)
    (hG : G[n]? = some (blk b (.cells L.toArray e (0, 0)))) (hz : ∀ w, (sizeOf t).run P w = .ok 1 w) (hv : v.cells = #[v]) (h1 : v.oneCell' = true) (hlt : off < L.length)
    (k : ∀ w', SH S w0 w' (G.set n (blk b (.cells (L.set off v).toArray e (0, 0)))) → wpList P ops Q rest (a.put o.dst undef) w') : wpList P ops Q (o :: rest) a w := by
  have hg := hs.blk n hG
  have hst := run_storeCells_at P b off e [v] 0 L.toArray w hg (by simp; omega) (by simpa using h1)
  refine sh_skip hw (w' := w.setRow b (L.set off v).toArray) ?_ (k _ (hs.turns n hG (turns_row hg)))
  have hset : (L.take off ++ [v] ++ L.drop (off + 1)) = L.set off v := by
    rw [List.set_eq_take_append_cons_drop, if_pos hlt]; simp
  simp only [Nat.add_zero, List.length_singleton] at hst
  rw [hset] at hst
  simp [execOp, ho, hx, hy, Instr.storeAt, Instr.sureAddr, storeVar, hz, hv, hst, Result.andThen]

/-- Cells laid over others from a place on. -/
def over (L : List Value) (off : Nat) (vs : List Value) : List Value := L.take off ++ vs ++ L.drop (off + vs.length)
theorem over_length (L : List Value) (off : Nat) (vs : List Value) (h : off + vs.length ≤ L.length) : (over L off vs).length = L.length := by simp [over]; omega

/-- A store of a value of several cells. -/
theorem sh_storen (hs : SH S w0 w G) (n : Nat) {t : TypeId} {x y : Operand} {b off : Nat} {L vs : List Value} {e : TypeId}
    (hw : Region.wanted o (yielded ops a.tmps) = true) (ho : o.op = .store t x y) (hx : a.eval x = .pointer (some ⟨b, off, none⟩)) (hy : a.eval y = .agg vs.toArray)
    (hG : G[n]? = some (blk b (.cells L.toArray e (0, 0)))) (hz : ∀ w, (sizeOf t).run P w = .ok vs.length w) (h1 : ∀ v ∈ vs, v.oneCell' = true) (hfit : off + vs.length ≤ L.length)
    (k : ∀ w', SH S w0 w' (G.set n (blk b (.cells (over L off vs).toArray e (0, 0)))) → wpList P ops Q rest (a.put o.dst undef) w') : wpList P ops Q (o :: rest) a w := by
  have hg := hs.blk n hG
  have hst := run_storeCells_at P b off e vs 0 L.toArray w hg (by simp; omega) h1
  refine sh_skip hw (w' := w.setRow b (over L off vs).toArray) ?_ (k _ (hs.turns n hG (turns_row hg)))
  simp only [Nat.add_zero] at hst
  simp [execOp, ho, hx, hy, Instr.storeAt, Instr.sureAddr, storeVar, hz, Value.cells, over, hst, Result.andThen]

/-- A new variable that holds a value. -/
theorem sh_box (hs : SH S w0 w G) {t : TypeId} {x : Operand} {v : Value} (hw : Region.wanted o (yielded ops a.tmps) = true) (ho : o.op = .box t x) (hx : a.eval x = v)
    (k : ∀ b w', w0.heap.size ≤ b → SH S w0 w' (G ++ [blk b (.cells v.cells t (0, 0))]) → wpList P ops Q rest (a.put o.dst (.pointer (some ⟨b, 0, none⟩))) w') : wpList P ops Q (o :: rest) a w := by
  refine sh_op hw (w' := w.alloc (.cells v.cells t (0, 0))) ?_ (k w.heap.size _ hs.kept.size (hs.alloc _))
  simp [execOp, ho, hx, Instr.box, newVar, newRow, Result.andThen]

/-- A new variable, zero. -/
theorem sh_alloc (hs : SH S w0 w G) {t : TypeId} {z : Value} (hw : Region.wanted o (yielded ops a.tmps) = true) (ho : o.op = .alloc t) (hz : ∀ w, (zeroValue t).run P w = .ok z w)
    (k : ∀ b w', w0.heap.size ≤ b → SH S w0 w' (G ++ [blk b (.cells z.cells t (0, 0))]) → wpList P ops Q rest (a.put o.dst (.pointer (some ⟨b, 0, none⟩))) w') : wpList P ops Q (o :: rest) a w := by
  refine sh_op hw (w' := w.alloc (.cells z.cells t (0, 0))) ?_ (k w.heap.size _ hs.kept.size (hs.alloc _))
  simp [execOp, ho, Instr.alloc, hz, newVar, newRow, Result.andThen]

/-- A row of equal elements. -/
def zrow (z : List Value) : Nat → List Value
  | 0 => []
  | n + 1 => z ++ zrow z n
theorem zrow_length (z : List Value) (n : Nat) : (zrow z n).length = n * z.length := by
  induction n with
  | zero => simp [zrow]
  | succ n ih => simp [zrow, ih, Nat.add_mul]; omega
theorem zrow_get (z : List Value) : ∀ (n i : Nat), i < n * z.length → (zrow z n)[i]? = z[i % z.length]?
  | 0, i, h => by omega
  | n + 1, i, h => by
    have hz : 0 < z.length := by
      rcases Nat.eq_zero_or_pos z.length with e | e
      · rw [e] at h; omega
      · exact e
    simp only [zrow, List.getElem?_append]
    split
    · rename_i hi
      rw [Nat.mod_eq_of_lt hi]
    · rename_i hi
      rw [zrow_get z n (i - z.length) (by rw [Nat.add_mul] at h; omega)]
      congr 1
      exact (Nat.mod_eq_sub_mod (by omega)).symm
theorem madeCells_eq (z : Array Value) (n : Nat) : madeCells z (n * z.size) = (zrow z.toList n).toArray := by
  apply Array.ext'
  apply List.ext_getElem?
  intro i
  simp only [madeCells, Array.toList_map, Array.toList_range, List.getElem?_map]
  rcases Nat.lt_or_ge i (n * z.size) with h | h
  · have hz : 0 < z.size := by
      rcases Nat.eq_zero_or_pos z.size with e | e
      · rw [e] at h; omega
      · exact e
    have hm := Nat.mod_lt i hz
    rw [List.getElem?_range h]
    have := zrow_get z.toList n i (by simpa using h)
    simp only [Array.length_toList] at this
    rw [this]
    simp [hm]
  · rw [List.getElem?_eq_none (by simpa using h), List.getElem?_eq_none (by simpa [zrow_length] using h)]
    rfl
/-- A new slice: a row of zeros. -/
theorem sh_make (hs : SH S w0 w G) {t e : TypeId} {i : TypeInfo} {z : Value} {x y : Operand} {kl kc : IntKind} {l c : Nat}
    (hw : Region.wanted o (yielded ops a.tmps) = true) (ho : o.op = .makeSlice t x y) (hx : a.eval x = .int kl (l : Int)) (hy : a.eval y = .int kc (c : Int))
    (ht : P.underlying t = some (.slice e)) (hi : P.info? e = some i) (hz : i.zero = some z) (hzs : i.size = z.cells.size) (hlc : l ≤ c) (hb : i.bytes * c ≤ 281474976710656) (h63 : (c : Int) ≤ 9223372036854775807)
    (k : ∀ b w', w0.heap.size ≤ b → SH S w0 w' (G ++ [blk b (.cells (zrow z.cells.toList c).toArray e (0, 0))]) → wpList P ops Q rest (a.put o.dst (.slice (some ⟨b, 0, none⟩) l c)) w') : wpList P ops Q (o :: rest) a w := by
  refine sh_op hw (w' := w.alloc (.cells (zrow z.cells.toList c).toArray e (0, 0))) ?_ (k w.heap.size _ hs.kept.size (hs.alloc _))
  have hb' : (i.bytes : Int) * (c : Int) ≤ 281474976710656 := by
    have h : ((i.bytes * c : Nat) : Int) ≤ 281474976710656 := by omega
    rwa [Int.natCast_mul] at h
  have hr := run_make (P := P) w t e i z ht hi hz kl kc (l : Int) (c : Int) (by omega) (by omega) hb' h63
  simp only [Int.toNat_natCast] at hr
  rw [hzs, madeCells_eq] at hr
  simp [execOp, ho, hx, hy, hr, Result.andThen]

/-- 'copy' into a block that is held, of elements of one cell. -/
theorem sh_copy (hs : SH S w0 w G) (n : Nat) {d s : Operand} {dT sT elem : TypeId} {b off dLen dCap sLen sCap : Nat} {sp : Option Addr} {L cs : List Value} {e : TypeId}
    (hw : Region.wanted o (yielded ops a.tmps) = true) (ho : o.op = .call { callee := .builtin .copy, args := #[d, s], argTypes := #[dT, sT] })
    (hd : a.eval d = .slice (some ⟨b, off, none⟩) dLen dCap) (hsrc : a.eval s = .slice sp sLen sCap)
    (hG : G[n]? = some (blk b (.cells L.toArray e (0, 0)))) (hu : P.underlying dT = some (.slice elem)) (hsz : (P.info? elem).map (·.size) = some 1)
    (hrd : RdC w sp cs) (hn : cs.length = Nat.min sLen dLen) (hfit : off + cs.length ≤ L.length) (h1 : ∀ v ∈ cs, v.oneCell' = true)
    (k : ∀ w', SH S w0 w' (G.set n (blk b (.cells (over L off cs).toArray e (0, 0)))) → wpList P ops Q rest (a.put o.dst (.int .i64 cs.length)) w') : wpList P ops Q (o :: rest) a w := by
  have hg := hs.blk n hG

  rcases hrd with rfl | ⟨b2, off2, rfl, hrd⟩
  · have hrun := run_copy_none (P := P) w dT sT o.type elem (some ⟨b, off, none⟩) sp dLen dCap sLen sCap hu hsz (by simpa using hn.symm)
    refine sh_op hw (w' := w) ?_ (k w ?_)
    · simp [execOp, ho, resolve, invoke, builtin, hd, hsrc, hrun, Result.andThen, goInt]
    · have : G.set n (blk b (.cells (over L off []).toArray e (0, 0))) = G := by
        have : over L off [] = L := by simp [over]
        rw [this]
        obtain ⟨hlt, he⟩ := List.getElem?_eq_some_iff.1 hG
        rw [← he]
        exact List.set_getElem_self hlt
      rw [this]
      exact hs
  · have hrun := run_copy_row (P := P) w dT sT o.type elem b off dLen dCap ⟨b2, off2, none⟩ sLen sCap L.toArray e cs hu hsz hg hn (fun j v hj => by
      have hplain : (⟨b2, off2, none⟩ : Addr).add j = ⟨b2, off2 + j, none⟩ := by unfold Addr.add; split <;> simp_all
      rw [hplain]
      exact hrd j v hj) (by simpa using hfit) h1
    refine sh_op hw (w' := w.setRow b (over L off cs).toArray) ?_ (k _ (hs.turns n hG (turns_row hg)))
    simp [execOp, ho, resolve, invoke, builtin, hd, hsrc, hrun, Result.andThen, goInt, over]

theorem run_convBS {src dst e : TypeId} {sp : Option Addr} {n cap : Nat} {xs : List UInt8}
    (hs : P.underlying src = some (.slice e)) (he : P.underlying e = some (.int .u8)) (hd : P.underlying dst = some .string) (hn : xs.length = n) (hr : RdC w sp (bcells xs)) :
    (convert src dst (.slice sp n cap)).run P w = .ok (.string ⟨xs.toArray⟩) w := by
  rcases hr with h | ⟨b, off, rfl, h⟩
  · have hx0 : xs = [] := by simpa [bcells] using h
    subst hx0
    cases sp with
    | none => exact run_convert_bytes_nil w src e hs he n cap dst hd
    | some ad =>
      simp only [List.length_nil] at hn
      subst hn
      have hl : (loadCells ad 0).run P w = .ok (([] : List Int).map (Value.int .u8)).toArray w := run_loadCells_list w ad [] (by simp)
      rw [run_convert_bytes_string w src dst e _ _ cap hs he hd, run_bytesToString w ad 0 cap [] hl]
      rfl
  · have := run_convert_bytes_arg (P := P) w src e hs he b off n cap (xs.map fun c => (c.toNat : Int)) (by simpa using hn) (fun i hi => by
      have hi' : i < xs.length := by omega
      rw [h i (.int .u8 (xs[i].toNat : Int)) (by simp [bcells, hi'])]
      simp [List.getD, hi']) dst hd
    rw [this]
    have e : ((fun n : Int => UInt8.ofNat n.toNat) ∘ fun c : UInt8 => (c.toNat : Int)) = id := by funext c; simp
    simp only [strOfNums, List.map_map, e, List.map_id]
theorem y_convBS {src dst e : TypeId} {x : Operand} {sp : Option Addr} {n cap : Nat} {xs : List UInt8}
    (ho : o.op = .convert src dst x) (hx : a.eval x = .slice sp n cap) (hn : xs.length = n)
    (hs : P.underlying src = some (.slice e)) (he : P.underlying e = some (.int .u8)) (hd : P.underlying dst = some .string) (hr : RdC w sp (bcells xs)) :
    (execOp a.eval o).run P w = .ok (.value (.string ⟨xs.toArray⟩)) w := by
  simp [execOp, ho, hx, run_convBS hs he hd hn hr, Result.andThen]
/-- Bytes as a string. -/
theorem sh_convBS {src dst e : TypeId} {x : Operand} {sp : Option Addr} {n cap : Nat} {xs : List UInt8}
    (hw : Region.wanted o (yielded ops a.tmps) = true) (ho : o.op = .convert src dst x) (hx : a.eval x = .slice sp n cap) (hn : xs.length = n)
    (hs : P.underlying src = some (.slice e)) (he : P.underlying e = some (.int .u8)) (hd : P.underlying dst = some .string) (hr : RdC w sp (bcells xs))
    (k : wpList P ops Q rest (a.put o.dst (.string ⟨xs.toArray⟩)) w) : wpList P ops Q (o :: rest) a w := by
  exact sh_op hw (w' := w) (y_convBS ho hx hn hs he hd hr) k

theorem heap_lt {w : World} {g : Nat} {o : Obj} (h : w.heap[g]? = some o) : g < w.heap.size := (Array.getElem?_eq_some_iff.1 h).1

/-- 'append' to a slice that owns its row. -/
theorem run_append_rowOk (t ty e : TypeId) (i : TypeInfo) (z : Value) (size bytes : Nat) (ht : P.underlying t = some (.slice e)) (hi : P.info? e = some i) (hz : i.zero = some z)
    (hsize : i.size = size) (hby : i.bytes = bytes) (hzs : z.cells.size = size) (hsz : 0 < size)
    {ra : Option Addr} {n cap : Nat} {cs : List Value} (hrow : RowOk w ra n cap e size cs)
    {sp : Option Addr} {m c : Nat} {news : List Value} (hr : RdC w sp news) (hl : news.length = m * size) (h1 : ∀ u ∈ news, u.oneCell' = true)
    (h63 : n + m ≤ maxLen) (hbytes : (n + m) * bytes ≤ 140737488355328) :
    ∃ ra' cap' w', (Builtin.append_ #[t, t] ty #[.slice ra n cap, .slice sp m c]).run P w = .ok (.slice ra' (n + m) cap') w' ∧
      Turns w w' (row ra n cap e size cs) (row ra' (n + m) cap' e size (cs ++ news)) := by
  subst hsize
  subst hby
  have hsmall : n + m ≤ 9223372036854775807 := by simp only [maxLen] at h63; omega
  by_cases hm : m = 0
  · subst hm
    have hn : news = [] := List.eq_nil_of_length_eq_zero (by simpa using hl)
    subst hn
    refine ⟨ra, cap, w, ?_, ?_⟩
    · have hl0 : ∀ x : Addr, (loadCells x 0).run P w = .ok #[] w := fun x => by simpa using run_loadCells_list (P := P) w x [] (by simp)
      rcases hrow.2 with ⟨rfl, rfl, rfl⟩ | ⟨g, sp', rfl, hg, hnc, _⟩
      · cases sp <;> simp [Builtin.append_, run_underlying ht, sizeOf, typeInfo, hi, Builtin.lenOf, Builtin.firstCells, hl0]
      · cases sp <;> simp [Builtin.append_, run_underlying ht, sizeOf, typeInfo, hi, Builtin.lenOf, Builtin.firstCells, hl0, hnc, storeCells]
    · simp only [Nat.add_zero, List.append_nil]
      refine ⟨Kept.refl _ _, hrow, row_local _ _ _ _ _ _, fun k hk => ⟨?_, .inl hk⟩⟩
      rcases hrow.2 with ⟨rfl, rfl, rfl⟩ | ⟨g, sp', rfl, hg, _⟩
      · simp [row, footOf] at hk
      · simp [row, footOf] at hk; subst hk; exact heap_lt hg
  have hne : news ≠ [] := by
    intro e0; subst e0
    rcases Nat.mul_eq_zero.1 hl.symm with h | h <;> omega
  obtain ⟨b, off, rfl, hnews0⟩ := hr.resolve_left hne
  have hnews : ∀ j u, news[j]? = some u → w.cell? ((⟨b, off, none⟩ : Addr).add j) = some u := fun j u hj => by
    have hplain : (⟨b, off, none⟩ : Addr).add j = ⟨b, off + j, none⟩ := by unfold Addr.add; split <;> simp_all
    rw [hplain]; exact hnews0 j u hj
  have hlen : (cs ++ news).length = (n + m) * i.size := by rw [List.length_append, hrow.1, hl, Nat.add_mul]
  have fresh : ∀ (old : Nat) (R : Nat → Prop), (∀ ra' cap', ra' = some (⟨w.heap.size, 0, none⟩ : Addr) → cap' = grownCap w (n + m) old e →
      Turns w (w.drew.alloc (.cells (cs.toArray ++ news.toArray ++ Builtin.zeroCells z.cells (grownCap w (n + m) old e - (n + m))) e)) (row ra n cap e i.size cs) (row ra' (n + m) cap' e i.size (cs ++ news)) → R cap') → R (grownCap w (n + m) old e) := by
    intro old R h
    refine h _ _ rfl rfl ?_
    have hge := grownCap_ge w (n + m) old e
    have hcm : grownCap w (n + m) old e ≤ maxLen := grownCap_le_maxLen w (n + m) old e h63
    refine ⟨(Kept.drew _ w).trans (Kept.alloc _ w.drew _), ⟨hlen, .inr ⟨w.heap.size, (Builtin.zeroCells z.cells (grownCap w (n + m) old e - (n + m))).toList, rfl, ?_, hge, hcm, ?_⟩⟩, row_local _ _ _ _ _ _, ?_⟩
    · have := heap_alloc_new w.drew (.cells (cs.toArray ++ news.toArray ++ Builtin.zeroCells z.cells (grownCap w (n + m) old e - (n + m))) e)
      rw [show w.drew.heap.size = w.heap.size from rfl] at this
      rw [this]
      congr 2
      apply Array.ext'
      simp
    · rw [List.length_append, hlen]
      simp only [Array.length_toList, size_zeroCells, hzs, ← Nat.add_mul]
      congr 1
      omega
    · intro k hk
      simp [row, footOf] at hk
      subst hk
      exact ⟨by simp [show w.drew.heap.size = w.heap.size from rfl], .inr (Nat.le_refl _)⟩
  rcases hrow.2 with ⟨rfl, rfl, rfl⟩ | ⟨g, sp', rfl, hg, hnc, hcm, hcs⟩
  · have hx : cs = [] := List.eq_nil_of_length_eq_zero (by simpa using hrow.1)
    subst hx
    have hr := run_append_nil (P := P) w t ty e i z ht hi hz ⟨b, off, none⟩ m c news hl hnews (by omega) (by omega) (by have hb := hbytes; simp only [Nat.zero_add] at hb; omega)
    refine ⟨some ⟨w.heap.size, 0, none⟩, grownCap w (0 + m) 0 e, _, ?_, fresh 0 (fun cap' => Turns w _ _ (row _ _ cap' e i.size _)) (fun ra' cap' h1 h2 h3 => by subst h1; subst h2; exact h3)⟩
    simp only [Nat.zero_add] at hr ⊢
    rw [hr]
    simp
  · by_cases hroom : n + m ≤ cap
    · have hfit : n * i.size + news.length ≤ (cs ++ sp').toArray.size := by
        rw [List.size_toArray, hcs, hl, ← Nat.add_mul]; exact Nat.mul_le_mul_right _ hroom
      have hr := run_append_room (P := P) w t ty e i ht hi g n cap _ hg ⟨b, off, none⟩ m c news hl hnews h1 hroom hfit
      have hn2 := setRow_heap w g _ ((cs ++ sp').toArray.toList.take (n * i.size) ++ news ++ (cs ++ sp').toArray.toList.drop (n * i.size + news.length)).toArray e _ hg
      refine ⟨some ⟨g, 0, none⟩, cap, _, hr, ⟨Kept.setRow _ _ _, ⟨hlen, .inr ⟨g, sp'.drop news.length, rfl, ?_, hroom, hcm, ?_⟩⟩, row_local _ _ _ _ _ _, fun k hk => ⟨?_, .inl hk⟩⟩⟩
      · rw [hn2]
        congr 2
        simp only [← hrow.1, List.take_left, List.append_assoc]
        rw [List.drop_append]
        simp
      · simp only [List.length_append, List.length_drop] at hcs hfit ⊢
        simp only [List.size_toArray, List.length_append] at hfit
        rw [hrow.1] at hcs hfit ⊢
        omega
      · simp [row, footOf] at hk; subst hk; exact heap_lt hn2
    · have holds : ∀ j u, cs[j]? = some u → w.cell? ((⟨g, 0, none⟩ : Addr).add j) = some u := fun j u hj => by
        have hplain : (⟨g, 0, none⟩ : Addr).add j = ⟨g, j, none⟩ := by unfold Addr.add; split <;> simp_all
        rw [hplain]
        have hlt := (List.getElem?_eq_some_iff.1 hj).1
        exact cell_at hg (by rw [List.getElem?_append_left hlt]; exact hj)
      have hr := run_append_grow (P := P) w t ty e i z ht hi hz ⟨g, 0, none⟩ n cap cs hrow.1 holds ⟨b, off, none⟩ m c news hl hnews (by omega) (by omega) (growslice_fits (by omega) hbytes)
      exact ⟨some ⟨w.heap.size, 0, none⟩, _, _, hr, fresh cap (fun cap' => Turns w _ _ (row _ _ cap' e i.size _)) (fun ra' cap' h1 h2 h3 => by subst h1; subst h2; exact h3)⟩

/-- 'append(s, x...)' to a row that is held. -/
theorem sh_append (hs : SH S w0 w G) (n : Nat) {d x : Operand} {t e : TypeId} {i : TypeInfo} {z : Value} {size : Nat} {ra sp : Option Addr} {l cap m c : Nat} {cs news : List Value}
    (hw : Region.wanted o (yielded ops a.tmps) = true) (ho : o.op = .call { callee := .builtin .append, args := #[d, x], argTypes := #[t, t] })
    (hd : a.eval d = .slice ra l cap) (hx : a.eval x = .slice sp m c) (hG : G[n]? = some (row ra l cap e size cs))
    (ht : P.underlying t = some (.slice e)) (hi : P.info? e = some i) (hz : i.zero = some z) (hsize : i.size = size) (hzs : z.cells.size = size) (hsz : 0 < size)
    (hrd : RdC w sp news) (hl : news.length = m * size) (h1 : ∀ u ∈ news, u.oneCell' = true) (h63 : l + m ≤ maxLen) (hbytes : (l + m) * i.bytes ≤ 140737488355328)
    (k : ∀ ra' cap' w', SH S w0 w' (G.set n (row ra' (l + m) cap' e size (cs ++ news))) → wpList P ops Q rest (a.put o.dst (.slice ra' (l + m) cap')) w') : wpList P ops Q (o :: rest) a w := by
  obtain ⟨ra', cap', w', hr, ht2⟩ := run_append_rowOk (P := P) (c := c) t o.type e i z size i.bytes ht hi hz hsize rfl hzs hsz (hs.at n hG) hrd hl h1 h63 hbytes
  refine sh_op hw (w' := w') ?_ (k ra' cap' w' (hs.turns n hG ht2))
  simp [execOp, ho, resolve, invoke, builtin, hd, hx, hr, Result.andThen]

/-- A slice literal. -/
theorem sh_buildSlice (hs : SH S w0 w G) {t e : TypeId} {len size : Nat} {parts : Array (Nat × Operand)} {L : List Value}
    (hw : Region.wanted o (yielded ops a.tmps) = true) (ho : o.op = .buildSlice t len parts)
    (hr : (Instr.buildSlice t len (parts.map fun (i, x) => (i, a.eval x))).run P w = .ok (.slice (some ⟨w.heap.size, 0, none⟩) len len) (w.alloc (.cells L.toArray e (0, 0))))
    (hL : L.length = len * size) (hm : len ≤ maxLen)
    (k : ∀ b w', w0.heap.size ≤ b → SH S w0 w' (G ++ [row (some ⟨b, 0, none⟩) len len e size L]) → wpList P ops Q rest (a.put o.dst (.slice (some ⟨b, 0, none⟩) len len)) w') : wpList P ops Q (o :: rest) a w := by
  refine sh_op hw (w' := w.alloc (.cells L.toArray e (0, 0))) ?_ (k w.heap.size _ hs.kept.size (hs.brings ⟨Kept.alloc [] w _, ⟨hL, .inr ⟨w.heap.size, [], rfl, ?_, Nat.le_refl _, hm, by simpa using hL⟩⟩, row_local _ _ _ _ _ _, ?_⟩))
  · simp [execOp, ho, hr, Result.andThen]
  · rw [List.append_nil]; exact heap_alloc_new w _
  · simp [row, footOf]

end
end Go.Proofs.YtdndppfjkcfecaaDoor
