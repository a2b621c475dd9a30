/- Proved here: what pad.Unpad comes to: of a text padded the text, of anything else a refusal. -/
import Derived.Test.YtdndppfjkcfecaaDoorPadF
import Derived.Test.YtdndppfjkcfecaaDoorPadT
namespace Go.Proofs.YtdndppfjkcfecaaDoor
open Go.RowKit

theorem padL_at (u : List UInt8) : (padL u)[u.length]? = some 128 := by simp [padL]
theorem padL_behind (u : List UInt8) (j : Nat) (h : u.length < j) (h2 : j < (padL u).length) : (padL u)[j]? = some 0 := by
  simp only [padL, List.length_append, List.length_cons, List.length_replicate] at h2
  rw [padL, List.getElem?_append_right (by omega)]
  obtain ⟨m, hm⟩ : ∃ m, j - u.length = m + 1 := ⟨j - u.length - 1, by omega⟩
  rw [hm, List.getElem?_cons_succ, List.getElem?_replicate, if_pos (by omega)]
theorem padL_take (u : List UInt8) : (padL u).take u.length = u := by simp [padL]
theorem padL_more (u : List UInt8) : u.length < (padL u).length := by simp [padL]

theorem cut_pad (u : List UInt8) (k : Nat) (h : Cut 0 (padL u) k) : k = u.length + 1 := by
  obtain ⟨h1, h2, h3⟩ := h
  have hm := padL_more u
  rcases Nat.lt_trichotomy k (u.length + 1) with e | e | e
  · have := h2 u.length (by omega) hm
    rw [padL_at] at this
    simp at this
  · exact e
  · rcases h3 with h3 | ⟨d, h3, h4⟩
    · omega
    · rw [padL_behind u (k - 1) (by omega) (by omega)] at h3
      simp only [Option.some.injEq] at h3
      exact absurd h3.symm h4
theorem pad_of_cut (xs : List UInt8) (k : Nat) (h : Cut 0 xs (k + 1)) (hm : xs[k]? = some 128) (hb : bk k = xs.length) (hk : k < 2048) : padL (xs.take k) = xs := by
  obtain ⟨h1, h2, h3⟩ := h
  have hl : (xs.take k).length = k := by simp; omega
  apply List.ext_getElem?
  intro j
  rw [padL, hl]
  rcases Nat.lt_trichotomy j k with e | e | e
  · rw [List.getElem?_append_left (by omega), List.getElem?_take, if_pos e]
  · subst e; rw [List.getElem?_append_right (by omega), hl, Nat.sub_self, hm]; rfl
  · rw [List.getElem?_append_right (by omega), hl]
    obtain ⟨m, hm2⟩ : ∃ m, j - k = m + 1 := ⟨j - k - 1, by omega⟩
    rw [hm2, List.getElem?_cons_succ, List.getElem?_replicate]
    by_cases hj : j < xs.length
    · rw [if_pos (by omega), h2 j (by omega) hj]
    · rw [if_neg (by omega), List.getElem?_eq_none (by omega)]

theorem RdC.take {w : World} {x : Addr} {cs : List Value} (h : RdC w (some x) cs) (n : Nat) : RdC w (some x) (cs.take n) := by
  rcases h with rfl | ⟨b, off, he, h⟩
  · exact .inl (by simp)
  · refine .inr ⟨b, off, he, fun j v hj => h j v ?_⟩
    rw [List.getElem?_take] at hj
    split at hj
    · exact hj
    · cases hj

set_option maxRecDepth 100000 in
set_option maxHeartbeats 800000 in
theorem unpad_ok (u : List UInt8) (hu : u.length < 2048) (b off cap : Nat) (w : World) (hr : RdC w (some ⟨b, off, none⟩) (bcells (padL u))) (hc : (padL u).length ≤ cap) :
    Calls Tryd.prog 6 #[.slice (some ⟨b, off, none⟩) (padL u).length cap] w fun e w' => ∃ ra rc, e = .returned (.tuple #[.slice ra u.length rc, .int .i64 0]) ∧ Brings w w' (row ra u.length rc 5 1 (bcells u)) := by
  have hlen := padL_length u hu
  have hbk := bk_most2 u.length
  have HL := Lib.hid hlen
  have HR := Lib.hid hr
  have hmore := padL_more u
  have hpl : (padL u).length ≤ 2048 := by omega
  clear hr hlen
  have he : bkE (u.length : Int) = 0 := by unfold bkE; omega
  have hcell := Lib.hid (show (bcells (padL u))[u.length]? = some (.int .u8 (128 : Int)) by simp [bcells, padL_at])
  have hne : (bk (u.length : Int) != ((padL u).length : Int)) = false := by rw [HL.out]; simp
  have HT := Lib.hid (trim_any b off cap (padL u) w HR.out hc (by omega) (by omega))
  have hs := SH.start [] w
  go_enter Tryd.func6, Tryd.ntmps6
  go_wp2_with fail
  refine HT.out.mono ?_
  rintro e w' ⟨k, hk, rfl, rfl⟩
  obtain rfl : k = u.length + 1 := cut_pad u k hk
  clear hk
  go_wp2_with (first | (go_at_call 11; refine (bucket_any _ _).mono ?_; rintro e w' ⟨rfl, rfl⟩) | (refine sh_loadRd (o := ⟨some 19, _, _, _, _, _⟩) (i := u.length) HR.out rfl rfl ?x1 (fun w => Tryd.isAgg5 w) hcell.out ?x2; (case x1 => rfl)))
  have hr2 : RdC w (some ⟨b, off, none⟩) (bcells u) := by
    have := RdC.take HR.out u.length
    rw [← bcells_take, padL_take] at this
    exact this
  refine (clone_some _ cap u w hr2 (by omega)).mono ?_
  rintro e w' ⟨ra, rc, rfl, hb⟩
  have HB := Lib.hid hb
  clear hb hr2
  go_wp2
  go_ret2
  exact ⟨_, _, rfl, HB.out⟩

/-- Whether some text padded is these bytes. -/
def IsPad (xs : List UInt8) : Prop := ∃ u : List UInt8, u.length < 2048 ∧ padL u = xs

set_option maxRecDepth 100000 in
set_option maxHeartbeats 1600000 in
theorem unpad_bad (xs : List UInt8) (a : Option Addr) (cap : Nat) (w : World) (hr : RdC w a (bcells xs)) (hc : xs.length ≤ cap) (hl : xs.length ≤ 140737488355328) (hn : ¬ IsPad xs) :
    Calls Tryd.prog 6 #[.slice a xs.length cap] w fun e w' => e = .returned (.tuple #[.slice none 0 0, .int .i64 2]) ∧ w = w' := by
  rcases hr with h0 | ⟨b, off, rfl, hr⟩
  · have hx : xs = [] := by simpa [bcells] using h0
    subst hx
    have HT := Lib.hid (trim_nil a cap w)
    go_enter Tryd.func6, Tryd.ntmps6
    go_wp2_with fail
    refine HT.out.mono ?_
    rintro e w' ⟨rfl, rfl⟩
    go_wp2
    go_ret2
    exact ⟨rfl, rfl⟩
  by_cases hx : xs.length = 0
  · have hx' : xs = [] := List.eq_nil_of_length_eq_zero hx
    subst hx'
    have HT := Lib.hid (trim_nil (some ⟨b, off, none⟩) cap w)
    clear hr hx
    go_enter Tryd.func6, Tryd.ntmps6
    go_wp2_with fail
    refine HT.out.mono ?_
    rintro e w' ⟨rfl, rfl⟩
    go_wp2
    go_ret2
    exact ⟨rfl, rfl⟩
  have HR : Hid (RdC w (some ⟨b, off, none⟩) (bcells xs)) := Lib.hid (.inr ⟨b, off, rfl, hr⟩)
  clear hr
  have HT := Lib.hid (trim_any b off cap xs w HR.out hc hl (by omega))
  have HN := Lib.hid hn
  clear hn
  go_enter Tryd.func6, Tryd.ntmps6
  go_wp2_with fail
  refine HT.out.mono ?_
  rintro e w' ⟨k, hk, rfl, rfl⟩
  have HK := Lib.hid hk
  clear hk HT
  by_cases h0 : k = 0
  · subst h0
    go_wp2
    go_ret2
    exact ⟨rfl, rfl⟩
  obtain ⟨i, rfl⟩ : ∃ i, k = i + 1 := ⟨k - 1, by omega⟩
  have hi : i < xs.length := by have := HK.out.1; omega
  obtain ⟨d, hd⟩ : ∃ d, xs[i]? = some d := ⟨xs[i], by simp [hi]⟩
  have HD := Lib.hid hd
  have hcell := Lib.hid (show (bcells xs)[i]? = some (.int .u8 (d.toNat : Int)) by simp [bcells, hd])
  clear hd
  by_cases hm : d = 128
  · subst hm
    have hm128 : ((128 : UInt8).toNat : Int) = 128 := rfl
    by_cases hb : bkE (i : Int) = 0
    · have hbne : (bk (i : Int) != (xs.length : Int)) = true := by
        rw [bne_iff_ne]
        intro e
        refine HN.out ⟨xs.take i, ?_, pad_of_cut xs i HK.out HD.out e ?_⟩
        · unfold bkE at hb; simp; omega
        · unfold bkE at hb; omega
      go_wp2_with (first | (go_at_call 11; refine (bucket_any _ _).mono ?_; rintro e w' ⟨rfl, rfl⟩) | (refine sh_loadRd (o := ⟨some 19, _, _, _, _, _⟩) (i := i) HR.out rfl rfl ?x1 (fun w => Tryd.isAgg5 w) hcell.out ?x2; (case x1 => rfl)))
      go_ret2
      exact ⟨rfl, rfl⟩
    · have hb' : (bkE (i : Int) != 0) = true := by rw [bne_iff_ne]; exact hb
      clear hb
      go_wp2_with (first | (go_at_call 11; refine (bucket_any _ _).mono ?_; rintro e w' ⟨rfl, rfl⟩) | (refine sh_loadRd (o := ⟨some 19, _, _, _, _, _⟩) (i := i) HR.out rfl rfl ?y1 (fun w => Tryd.isAgg5 w) hcell.out ?y2; (case y1 => rfl)))
      go_ret2
      exact ⟨rfl, rfl⟩
  · have hne : ((d.toNat : Int) != 128) = true := by
      rw [bne_iff_ne]
      intro e
      exact hm (UInt8.toNat_inj.1 (by have : (128 : UInt8).toNat = 128 := rfl; omega))
    clear hm
    go_wp2_with (first | (refine sh_loadRd (o := ⟨some 19, _, _, _, _, _⟩) (i := i) HR.out rfl rfl ?z1 (fun w => Tryd.isAgg5 w) hcell.out ?z2; (case z1 => rfl)))
    go_ret2
    exact ⟨rfl, rfl⟩
end Go.Proofs.YtdndppfjkcfecaaDoor
