/- Proved here: the walk of the statement PadAlike. -/
import Derived.Test.YtdndppfjkcfecaaPadF
import Derived.Test.YtdndppfjkcfecaaPadD
import Derived.Test.YtdndppfjkcfecaaPadRow
namespace Go.Proofs.Ytdndppfjkcfecaa
open Go.RowKit

/-- The bytes that a row of numbers holds. -/
def bytesOf (zs : List Int) (len : Nat) : List UInt8 := (zs.take len).map fun n => UInt8.ofNat n.toNat
theorem bytesOf_rd {w : World} {a : Option Addr} {len cap : Nat} {zs : List Int} (h : IsRow .u8 w a len cap zs) : (bytesOf zs len).length = len ∧ RdC w a (bcells (bytesOf zs len)) := by
  rcases h with ⟨rfl, rfl, rfl, rfl⟩ | ⟨x, rfl, hl, _, hz, hc, hw⟩
  · exact ⟨rfl, .inl rfl⟩
  · have hlen : (bytesOf zs len).length = len := by simp [bytesOf]; omega
    refine ⟨hlen, ?_⟩
    by_cases h0 : len = 0
    · subst h0; exact .inl (by simp [bytesOf, bcells])
    obtain ⟨b, off, spot⟩ := x
    have hc0 := hc 0 (by omega)
    have hspot : spot = none := by simpa [Addr.add] using World.cell?_spot hc0
    subst hspot
    refine .inr ⟨b, off, rfl, fun j v hj => ?_⟩
    have hjl : j < len := by have := (List.getElem?_eq_some_iff.1 hj).1; rw [bcells_length, hlen] at this; exact this
    have hcj := hc j (by omega)
    have hplain : (⟨b, off, none⟩ : Addr).add j = ⟨b, off + j, none⟩ := by unfold Addr.add; split <;> simp_all
    rw [hplain] at hcj
    rw [hcj]
    have hm : zs.getD j 0 ∈ zs := by
      rw [List.getD_eq_getElem?_getD, List.getElem?_eq_getElem (by omega)]; simp
    have hwf := hw _ hm
    have hr : 0 ≤ zs.getD j 0 ∧ zs.getD j 0 < 256 := by
      generalize zs.getD j 0 = q at hwf
      simp [Lit.wf, IntKind.min, IntKind.max, IntKind.signed, IntKind.bits] at hwf
      omega
    have hz2 : zs[j]? = some (zs.getD j 0) := by rw [List.getD_eq_getElem?_getD, List.getElem?_eq_getElem (by omega)]; rfl
    simp only [bcells, bytesOf, List.getElem?_map, List.getElem?_take, hjl, if_true, hz2, Option.map_some, Option.some.injEq] at hj
    rw [← hj]
    generalize zs.getD j 0 = q at hr
    congr 2
    have : (UInt8.ofNat q.toNat).toNat = q.toNat % 256 := by simp
    rw [this]; omega

theorem bk_most (n : Int) : bk n ≤ 2048 := by unfold bk; omega
theorem bk_isB (n : Nat) (h : n < 2048) : isB (bk n) = true := by
  simp only [isB, decide_eq_true_eq]; unfold bk; omega
theorem padL_same (xs ys : List UInt8) : ((padL xs == padL ys) == (xs == ys)) = true := by
  by_cases h : xs = ys
  · subst h; simp
  · have : padL xs ≠ padL ys := fun e => h (padL_inj xs ys e)
    rw [beq_eq_false_iff_ne.2 h, beq_eq_false_iff_ne.2 this]; rfl

set_option maxHeartbeats 1600000 in
theorem alike_any (a : Option Addr) (cap : Nat) (xs : List UInt8) (b : Option Addr) (cap2 : Nat) (ys : List UInt8) (w : World) (hx : RdC w a (bcells xs)) (hy : RdC w b (bcells ys)) (h1 : xs.length ≤ 2047) (h2 : ys.length ≤ 2047) :
    Calls Try.prog 5 #[.slice a xs.length cap, .slice b ys.length cap2] w fun e w' => e = .returned (.bool true) ∧ Below w.heap.size w w' := by
  have HX := Lib.hid hx
  have HY := Lib.hid hy
  clear hx hy
  have hs := SH.start [] w
  have hlx := padL_length xs (by omega)
  have hly := padL_length ys (by omega)
  have LX := Lib.hid hlx
  have LY := Lib.hid hly
  clear hlx hly
  go_enter Try.func5, Try.ntmps5
  go_wp2_with (first | (go_at_call 7; refine (awake_any _).mono ?_; rintro e w' ⟨rfl, rfl⟩) | (go_at_call 6; refine (bucket_any _ _).mono ?_; rintro e w' ⟨rfl, rfl⟩) | (go_at_call 11; first | ((with_reducible refine (pad_any a cap xs _ (hs.oldRd HX.out (by simp)) (by omega)).mono ?_); rintro e w' ⟨g1, rfl, hb⟩; replace hs := hs.brings hb; clear hb) | ((with_reducible refine (pad_any b cap2 ys _ (hs.oldRd HY.out (by simp)) (by omega)).mono ?_); rintro e w' ⟨g2, rfl, hb⟩; replace hs := hs.brings hb; clear hb)))
  have lx := LX.out
  have ly := LY.out
  have ib := bk_isB xs.length (by omega)
  have bb := bk_most xs.length
  go_wp2_with (first | (go_at_call 8; go_loud (refine (is_any _ _ (by omega) (by omega) true (by rw [lx]; exact ib)).mono ?_); rintro e w' ⟨rfl, rfl⟩) | (refine sh_convBS (o := ⟨some 72, _, _, _, _, _⟩) (xs := padL xs) rfl rfl rfl ?x3n Try.underlying30 Try.underlying5 Try.underlying9 (hs.blkRd0 0 rfl (by simp)) ?x3k; (case x3n => first | rfl | omega)) | (refine sh_convBS (o := ⟨some 74, _, _, _, _, _⟩) (xs := padL ys) rfl rfl rfl ?x4n Try.underlying30 Try.underlying5 Try.underlying9 (hs.blkRd0 1 rfl (by simp)) ?x4k; (case x4n => first | rfl | omega)) | (refine sh_convBS (o := ⟨some 77, _, _, _, _, _⟩) (xs := xs) rfl rfl rfl ?x5n Try.underlying30 Try.underlying5 Try.underlying9 (hs.oldRd HX.out (by simp)) ?x5k; (case x5n => first | rfl | omega)) | (refine sh_convBS (o := ⟨some 79, _, _, _, _, _⟩) (xs := ys) rfl rfl rfl ?x6n Try.underlying30 Try.underlying5 Try.underlying9 (hs.oldRd HY.out (by simp)) ?x6k; (case x6n => first | rfl | omega)))
  have hb := hs.kept.below
  go_ret
  exact ⟨ret_bool (padL_same xs ys), hb⟩

theorem alike_long (a : Option Addr) (len cap : Nat) (b : Option Addr) (len2 cap2 : Nat) (w : World) (h : 2047 < len ∨ 2047 < len2) :
    Calls Try.prog 5 #[.slice a len cap, .slice b len2 cap2] w fun e w' => e = .returned (.bool true) ∧ Below w.heap.size w w' := by
  by_cases h1 : 2047 < len
  · have h1' : (2047 : Int) < (len : Int) := by omega
    go_enter Try.func5, Try.ntmps5
    go_wp2_with (first | (go_at_call 7; refine (awake_any _).mono ?_; rintro e w' ⟨rfl, rfl⟩))
    go_ret
    exact ⟨rfl, Below.refl _ _⟩
  · have h2' : (2047 : Int) < (len2 : Int) := by omega
    have h1' : ¬ (2047 : Int) < (len : Int) := by omega
    go_enter Try.func5, Try.ntmps5
    go_wp2_with (first | (go_at_call 7; refine (awake_any _).mono ?_; rintro e w' ⟨rfl, rfl⟩))
    go_ret
    exact ⟨rfl, Below.refl _ _⟩
theorem alike_law (a : Option Addr) (len cap : Nat) (za : List Int) (b : Option Addr) (len2 cap2 : Nat) (zb : List Int) (w : World) (ha : IsRow .u8 w a len cap za) (hb : IsRow .u8 w b len2 cap2 zb) :
    Calls Try.prog 5 #[.slice a len cap, .slice b len2 cap2] w fun e w' => e = .returned (.bool true) ∧ Below w.heap.size w w' := by
  by_cases h : 2047 < len ∨ 2047 < len2
  · exact alike_long a len cap b len2 cap2 w h
  · obtain ⟨e1, r1⟩ := bytesOf_rd ha
    obtain ⟨e2, r2⟩ := bytesOf_rd hb
    have := alike_any a cap (bytesOf za len) b cap2 (bytesOf zb len2) w r1 r2 (by omega) (by omega)
    rw [e1, e2] at this
    exact this
end Go.Proofs.Ytdndppfjkcfecaa
