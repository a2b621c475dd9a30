/- Proved here: what pad.Pad comes to, of a slice of bytes that can be read; no condition beside that its length has a bucket. -/
import Derived.Test.YtdndppfjkcfecaaPadA
import Derived.Test.YtdndppfjkcfecaaSh
import Derived.Deep.DeepCutAuto
namespace Go.Proofs.Ytdndppfjkcfecaa
open Go.RowKit

/-- A text padded. -/
def padL (xs : List UInt8) : List UInt8 := xs ++ 128 :: List.replicate ((bk xs.length).toNat - xs.length - 1) 0
theorem mark_inj : ∀ (p q : Nat) (us vs : List UInt8), List.replicate p 0 ++ 128 :: us = List.replicate q 0 ++ 128 :: vs → us = vs
  | 0, 0, us, vs, h => by simpa using h
  | 0, q + 1, us, vs, h => by simp [List.replicate_succ] at h
  | p + 1, 0, us, vs, h => by simp [List.replicate_succ] at h
  | p + 1, q + 1, us, vs, h => mark_inj p q us vs (by simpa [List.replicate_succ] using h)
theorem padL_inj (xs ys : List UInt8) (h : padL xs = padL ys) : xs = ys := by
  have h2 := congrArg List.reverse h
  simp only [padL, List.reverse_append, List.reverse_cons, List.reverse_replicate, List.append_assoc, List.singleton_append] at h2
  exact List.reverse_inj.1 (mark_inj _ _ _ _ h2)
theorem bk_most2 (n : Int) : bk n ≤ 2048 := by unfold bk; omega
theorem padL_length (xs : List UInt8) (h : xs.length < 2048) : ((padL xs).length : Int) = bk xs.length := by
  have : 0 ≤ bk xs.length ∧ xs.length < bk xs.length := by unfold bk; omega
  simp [padL]; omega

theorem zrow_bytes (n : Nat) : zrow (Value.int .u8 0).cells.toList n = List.replicate n (Value.int .u8 0) := by
  induction n with
  | zero => rfl
  | succ n ih => simp only [zrow, ih, List.replicate_succ]; rfl
theorem pad_cells (xs : List UInt8) (n : Nat) (hn : bk xs.length = n) (hl : xs.length < n) :
    (over (zrow (Value.int .u8 0).cells.toList n) 0 (bcells xs)).set xs.length (.int .u8 128) = bcells (padL xs) := by
  rw [zrow_bytes]
  have h2 : n - xs.length = (n - xs.length - 1) + 1 := by omega
  simp only [over, List.take_zero, List.nil_append, Nat.zero_add, List.drop_replicate, bcells_length]
  rw [List.set_append_right _ _ (by simp [bcells_length]), bcells_length, Nat.sub_self, h2, List.replicate_succ, List.set_cons_zero]
  simp only [padL, hn, bcells_append, Int.toNat_natCast]
  simp [bcells]

set_option maxHeartbeats 400000 in
theorem pad_any (a : Option Addr) (cap : Nat) (xs : List UInt8) (w : World) (hr : RdC w a (bcells xs)) (hl : xs.length < 2048) :
    Calls Try.prog 11 #[.slice a xs.length cap] w fun e w' => ∃ g, e = .returned (.tuple #[.slice (some ⟨g, 0, none⟩) (padL xs).length (padL xs).length, .int .i64 0]) ∧ Brings w w' (blk g (.cells (bcells (padL xs)).toArray 5)) := by
  have he : bkE (xs.length : Int) = 0 := by unfold bkE; omega
  obtain ⟨n, hn⟩ : ∃ n : Nat, bk (xs.length : Int) = n := ⟨(bk xs.length).toNat, by unfold bk; omega⟩
  have hn2 : n ≤ 2048 ∧ xs.length < n := by unfold bk at hn; omega
  have HR := Lib.hid hr
  clear hr
  have HN := Lib.hid hn
  have hs := SH.start [] w
  go_enter Try.func11, Try.ntmps11
  go_wp2_with (first | (go_at_call 6; refine (bucket_any _ _).mono ?_; rintro e w' ⟨rfl, rfl⟩) | (refine sh_make hs (i := Try.t5) (z := .int .u8 0) (l := n) (c := n) rfl rfl rfl rfl Try.underlying30 (by kernel_rfl) rfl rfl (Nat.le_refl _) ?x2a ?x2b ?x2k; (case x2a => simp only [Try.t5]; omega); (case x2b => omega); clear hs; intro b2 w2 hb2 hs) | (refine sh_copy hs 0 (cs := bcells xs) rfl rfl rfl rfl rfl Try.underlying30 (by kernel_rfl) (hs.oldRd HR.out (by simp)) ?x3a ?x3b (bcells_one xs) ?x3k; (case x3a => (rw [bcells_length]; exact (Nat.min_eq_left (by omega)).symm)); (case x3b => (simp [bcells_length, zrow_bytes]; omega)); clear hs; intro w3 hs) | (refine sh_store1 hs 0 (off := xs.length) (v := .int .u8 128) rfl rfl rfl rfl rfl (fun w => Try.sizeOf5 w) rfl rfl ?x4a ?x4k; (case x4a => (rw [over_length _ _ _ (by simp [bcells_length, zrow_bytes]; omega)]; simp [zrow_bytes]; omega)); clear hs; intro w4 hs))
  go_ret2
  have hlen : (padL xs).length = n := by have := padL_length xs hl; rw [HN.out] at this; omega
  refine ⟨_, by rw [hlen]; rfl, ?_⟩
  have hd := hs.done 0 rfl
  rw [pad_cells xs n HN.out hn2.2] at hd
  exact hd
end Go.Proofs.Ytdndppfjkcfecaa
