/- Proved here: the walks of the statements PadUnpads and PadPads, for whatever slice comes in. -/
import Derived.Test.YtdndppfjkcfecaaDoorPadY
namespace Go.Proofs.YtdndppfjkcfecaaDoor
open Go.RowKit

/-- The bytes that a row of numbers holds. -/
def bytesOf (zs : List Int) (len : Nat) : List UInt8 := (zs.take len).map fun n => UInt8.ofNat n.toNat
theorem bytesOf_rd {w : World} {a : Option Addr} {len cap : Nat} {zs : List Int} (h : IsRow .u8 w a len cap zs) : (bytesOf zs len).length = len ∧ RdC w a (bcells (bytesOf zs len)) := by
  rcases h with ⟨rfl, rfl, rfl, rfl⟩ | ⟨x, rfl, hl, _, hz, hc, hw⟩
  · exact ⟨rfl, .inl rfl⟩
  · have hlen : (bytesOf zs len).length = len := by simp [bytesOf]; omega
    refine ⟨hlen, ?_⟩
    by_cases h0 : len = 0
    · subst h0; exact .inl (by simp [bytesOf, bcells])
    obtain ⟨b, off, spot⟩ := x
    have hc0 := hc 0 (by omega)
    have hspot : spot = none := by simpa [Addr.add] using World.cell?_spot hc0
    subst hspot
    refine .inr ⟨b, off, rfl, fun j v hj => ?_⟩
    have hjl : j < len := by have := (List.getElem?_eq_some_iff.1 hj).1; rw [bcells_length, hlen] at this; exact this
    have hcj := hc j (by omega)
    have hplain : (⟨b, off, none⟩ : Addr).add j = ⟨b, off + j, none⟩ := by unfold Addr.add; split <;> simp_all
    rw [hplain] at hcj
    rw [hcj]
    have hm : zs.getD j 0 ∈ zs := by
      rw [List.getD_eq_getElem?_getD, List.getElem?_eq_getElem (by omega)]; simp
    have hwf := hw _ hm
    have hr : 0 ≤ zs.getD j 0 ∧ zs.getD j 0 < 256 := by
      generalize zs.getD j 0 = q at hwf
      simp [Lit.wf, IntKind.min, IntKind.max, IntKind.signed, IntKind.bits] at hwf
      omega
    have hz2 : zs[j]? = some (zs.getD j 0) := by rw [List.getD_eq_getElem?_getD, List.getElem?_eq_getElem (by omega)]; rfl
    simp only [bcells, bytesOf, List.getElem?_map, List.getElem?_take, hjl, if_true, hz2, Option.map_some, Option.some.injEq] at hj
    rw [← hj]
    generalize zs.getD j 0 = q at hr
    congr 2
    have : (UInt8.ofNat q.toNat).toNat = q.toNat % 256 := by simp
    rw [this]; omega
theorem row_cap {w : World} {a : Option Addr} {len cap : Nat} {zs : List Int} (h : IsRow .u8 w a len cap zs) : len ≤ cap := by
  rcases h with ⟨rfl, rfl, rfl, rfl⟩ | ⟨x, rfl, hl, _⟩
  · exact Nat.le_refl _
  · exact hl

theorem unpads_law (a : Option Addr) (len cap : Nat) (za : List Int) (w : World) (ha : IsRow .u8 w a len cap za) :
    Calls Tryd.prog 3 #[.slice a len cap] w fun e w' => e = .returned (.bool true) ∧ Below w.heap.size w w' := by
  by_cases h : 2100 < len
  · exact unpads_long a len cap w h
  · obtain ⟨e1, r1⟩ := bytesOf_rd ha
    have hcap := row_cap ha
    by_cases hp : IsPad (bytesOf za len)
    · obtain ⟨u, hu, hpu⟩ := hp
      rcases r1 with r1 | ⟨b, off, rfl, r1⟩
      · have := padL_more u
        have h0 : bytesOf za len = [] := by simpa [bcells] using r1
        rw [hpu, h0] at this
        simp at this
      · have := unpads_ok b off cap u w (.inr ⟨b, off, rfl, by rw [hpu]; exact r1⟩) (by rw [hpu]; omega) (by rw [hpu]; omega) hu
        rw [hpu, e1] at this
        exact this
    · have := unpads_bad a cap (bytesOf za len) w r1 (by omega) (by omega) hp
      rw [e1] at this
      exact this
theorem pads_law (a : Option Addr) (len cap : Nat) (za : List Int) (w : World) (ha : IsRow .u8 w a len cap za) :
    Calls Tryd.prog 4 #[.slice a len cap] w fun e w' => e = .returned (.bool true) ∧ Below w.heap.size w w' := by
  by_cases h : 3000 < len
  · exact pads_long a len cap w h
  · obtain ⟨e1, r1⟩ := bytesOf_rd ha
    by_cases hp : len < 2048
    · have := pads_yes a cap (bytesOf za len) w r1 (by omega)
      rw [e1] at this
      exact this
    · have := pads_no a cap (bytesOf za len) w r1 (by omega) (by omega)
      rw [e1] at this
      exact this
end Go.Proofs.YtdndppfjkcfecaaDoor
