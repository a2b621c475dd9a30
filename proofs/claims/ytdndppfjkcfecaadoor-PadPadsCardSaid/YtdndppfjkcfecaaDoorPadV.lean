/- Proved here: what the reference's Pad and Unpad come to. -/
import Derived.Test.YtdndppfjkcfecaaDoorPadU
import Derived.Test.YtdndppfjkcfecaaDoorPadR
namespace Go.Proofs.YtdndppfjkcfecaaDoor
open Go.RowKit

theorem rbk_bk (n : Nat) : rbk n = bk n := by unfold rbk bk; omega
/-- What has been put so far. -/
def putL (xs : List UInt8) (j : Nat) : List UInt8 := xs ++ 128 :: List.replicate j 0
theorem putL_length (xs : List UInt8) (j : Nat) : (putL xs j).length = xs.length + 1 + j := by simp [putL]; omega
theorem putL_next (xs : List UInt8) (j : Nat) : bcells (putL xs j) ++ [Value.int .u8 0] = bcells (putL xs (j + 1)) := by
  have : putL xs (j + 1) = putL xs j ++ [0] := by simp [putL, List.replicate_succ']
  rw [this, bcells_append]; rfl
theorem putL_pad (xs : List UInt8) (j : Nat) (n : Nat) (hn : bk xs.length = n) (h : xs.length + 1 + j = n) : putL xs j = padL xs := by
  have : n - xs.length - 1 = j := by omega
  simp only [putL, padL, hn, Int.toNat_natCast, this]
theorem putL_zero (xs : List UInt8) : bcells xs ++ [Value.int .u8 128] = bcells (putL xs 0) := by simp [putL, bcells]

set_option maxRecDepth 100000 in
set_option maxHeartbeats 800000 in
theorem refPad_any (a : Option Addr) (cap : Nat) (xs : List UInt8) (w : World) (hr : RdC w a (bcells xs)) (hl : xs.length < 2048) :
    Calls Tryd.prog 10 #[.slice a xs.length cap] w fun e w' => ∃ ra rc, e = .returned (.slice ra (padL xs).length rc) ∧ Brings w w' (row ra (padL xs).length rc 5 1 (bcells (padL xs))) := by
  obtain ⟨n, hn⟩ : ∃ n : Nat, bk (xs.length : Int) = n := ⟨(bk xs.length).toNat, by unfold bk; omega⟩
  have hn2 : n ≤ 2048 ∧ xs.length < n := by unfold bk at hn; omega
  have hrb : rbk (xs.length : Int) = (n : Int) := by rw [rbk_bk, hn]
  have HN := Lib.hid hn
  clear hn
  have HRB := Lib.hid hrb
  clear hrb
  have HR := Lib.hid hr
  clear hr
  have hs := SH.start [] w
  replace hs := hs.take (row none 0 0 5 1 []) ⟨rfl, .inl ⟨rfl, rfl, rfl⟩⟩ (row_local _ _ _ _ _ _) (by simp [row, footOf]) (by simp [row, footOf]) (by simp)
  go_enter Tryd.func10, Tryd.ntmps10
  go_wp2_with (first | (refine sh_append (o := ⟨some 6, _, _, _, _, _⟩) hs 0 (i := Tryd.t5) (z := .int .u8 0) (m := xs.length) (cs := []) (news := bcells xs) rfl rfl rfl rfl rfl Tryd.underlying22 (by kernel_rfl) rfl rfl rfl (by decide) (hs.oldRd HR.out (by simp)) ?x1a (bcells_one xs) ?x1b ?x1c ?x1k; (case x1a => (rw [bcells_length]; omega)); (case x1b => (simp only [maxLen]; omega)); (case x1c => simp only [Tryd.t5]; omega); clear hs; intro ra1 cap1 w1 hs; (try simp only [Nat.zero_add, List.nil_append] at hs)) | (refine sh_buildSlice (o := ⟨some 8, _, _, _, _, _⟩) hs (e := 5) (size := 1) (L := [.int .u8 128]) rfl rfl (by kernel_rfl) rfl (by decide) ?x2k; clear hs; intro b2 w2 hb2 hs) | (refine sh_append (o := ⟨some 9, _, _, _, _, _⟩) hs 0 (i := Tryd.t5) (z := .int .u8 0) (m := 1) (cs := bcells xs) (news := [.int .u8 128]) rfl rfl rfl rfl rfl Tryd.underlying22 (by kernel_rfl) rfl rfl rfl (by decide) (hs.rowRd 1 rfl) ?x3a ((by decide)) ?x3b ?x3c ?x3k; (case x3a => rfl); (case x3b => (simp only [maxLen]; omega)); (case x3c => simp only [Tryd.t5]; omega); clear hs; intro ra3 cap3 w3 hs; (try simp only [Nat.zero_add, List.nil_append] at hs)))
  go_loopw [3] (fun v wr => ∃ (j : Nat) (ra : Option Addr) (rc : Nat), v = .slice ra (xs.length + 1 + j) rc ∧ xs.length + 1 + j ≤ n ∧ SH [] w wr [row ra (xs.length + 1 + j) rc 5 1 (bcells (putL xs j))]) (fun v _ => n - lenOfV v)
  case atStart =>
    refine ⟨0, _, _, rfl, by omega, ?_⟩
    have := hs.one 0 rfl
    rw [putL_zero] at this
    exact this
  case round =>
    clear hs
    obtain ⟨j, ra, rc, rfl, hj, hs⟩ := hrel
    by_cases hlt : xs.length + 1 + j < n
    · go_wp2_with (first | (go_at_call 9; refine (refBucket_any _ _).mono ?_; rintro e w' ⟨rfl, hb⟩; (rw [HRB.out]; replace hs := hs.call (Kept.of_below hb); clear hb)) | (refine sh_buildSlice (o := ⟨some 17, _, _, _, _, _⟩) hs (e := 5) (size := 1) (L := [.int .u8 0]) rfl rfl (by kernel_rfl) rfl (by decide) ?x5k; clear hs; intro b5 w5 hb5 hs) | (refine sh_append (o := ⟨some 18, _, _, _, _, _⟩) hs 0 (i := Tryd.t5) (z := .int .u8 0) (m := 1) (cs := bcells (putL xs j)) (news := [.int .u8 0]) rfl rfl rfl rfl rfl Tryd.underlying22 (by kernel_rfl) rfl rfl rfl (by decide) (hs.rowRd 1 rfl) ?x6a ((by decide)) ?x6b ?x6c ?x6k; (case x6a => rfl); (case x6b => (simp only [maxLen]; omega)); (case x6c => simp only [Tryd.t5]; omega); clear hs; intro ra6 cap6 w6 hs; (try simp only [Nat.zero_add, List.nil_append] at hs)))
      go_roundw
      case rel =>
        refine ⟨j + 1, _, _, rfl, by omega, ?_⟩
        have := hs.one 0 rfl
        rw [putL_next] at this
        exact this
      case measure => simp [lenOfV]; omega
    · have hje : xs.length + 1 + j = n := by omega
      have HJ := Lib.hid hje
      clear hje
      go_wp2_with (first | (go_at_call 9; refine (refBucket_any _ _).mono ?_; rintro e w' ⟨rfl, hb⟩; (rw [HRB.out]; replace hs := hs.call (Kept.of_below hb); clear hb)))
      go_ret
      have hp := putL_pad xs j n HN.out HJ.out
      have hd := hs.done 0 rfl
      rw [hp, ← putL_length xs j, hp] at hd
      exact ⟨ra, rc, by rw [← hp, putL_length]; rfl, hd⟩
end Go.Proofs.YtdndppfjkcfecaaDoor
