/- Proved here: what bytes.Clone and bytes.TrimRight at a nought come to, of a slice of bytes that can be read. -/
import Derived.Test.YtdndppfjkcfecaaDoorRows
import Derived.Test.YtdndppfjkcfecaaDoorSh
import Derived.Deep.DeepCutAuto
import Derived.Lib.SliceRun
namespace Go.Proofs.YtdndppfjkcfecaaDoor
open Go.RowKit

theorem clone_nil (w : World) : Calls Tryd.prog 13 #[.slice none 0 0] w fun e w' => e = .returned (.slice none 0 0) ∧ w = w' := by
  have kn1 := fun (a : Option Addr) (n c : Nat) (w : World) => Lib.run_eql_slice_nil (P := Tryd.prog) w 22 5 a n c 0 0 Tryd.underlying22
  go_enter Tryd.func13, Tryd.ntmps13
  go_wp2
  go_ret
  exact ⟨rfl, rfl⟩

set_option maxHeartbeats 400000 in
theorem clone_some (a : Addr) (cap : Nat) (xs : List UInt8) (w : World) (hr : RdC w (some a) (bcells xs)) (hl : xs.length ≤ 140737488355328) :
    Calls Tryd.prog 13 #[.slice (some a) xs.length cap] w fun e w' => ∃ ra rc, e = .returned (.slice ra xs.length rc) ∧ Brings w w' (row ra xs.length rc 5 1 (bcells xs)) := by
  have HR := Lib.hid hr
  clear hr
  have hs := SH.start [] w
  have kn2 := fun (a : Option Addr) (n c : Nat) (w : World) => Lib.run_eql_slice_nil (P := Tryd.prog) w 22 5 a n c 0 0 Tryd.underlying22
  go_enter Tryd.func13, Tryd.ntmps13
  go_wp2_with (first | (refine sh_buildSlice (o := ⟨some 5, _, _, _, _, _⟩) hs (e := 5) (size := 1) (L := []) rfl rfl (by kernel_rfl) rfl (by decide) ?x3k; clear hs; intro b3 w3 hb3 hs) | (refine sh_append (o := ⟨some 7, _, _, _, _, _⟩) hs 0 (i := Tryd.t5) (z := .int .u8 0) (m := xs.length) (cs := []) (news := bcells xs) rfl rfl rfl rfl rfl Tryd.underlying22 (by kernel_rfl) rfl rfl rfl (by decide) (hs.oldRd HR.out (by simp)) ?x4a (bcells_one xs) ?x4b ?x4c ?x4k; (case x4a => (rw [bcells_length]; omega)); (case x4b => (simp only [maxLen]; omega)); (case x4c => simp only [Tryd.t5]; omega); clear hs; intro ra4 cap4 w4 hs; (try simp only [Nat.zero_add, List.nil_append] at hs)))
  go_ret
  exact ⟨_, _, rfl, hs.done 0 (by simp)⟩

/-- What is left when the noughts at the end are taken off. -/
def Cut (c : UInt8) (xs : List UInt8) (k : Nat) : Prop := k ≤ xs.length ∧ (∀ j, k ≤ j → j < xs.length → xs[j]? = some c) ∧ (k = 0 ∨ ∃ d, xs[k - 1]? = some d ∧ d ≠ c)

theorem trimByte_nil (c : UInt8) (a : Option Addr) (cap : Nat) (w : World) :
    Calls Tryd.prog 14 #[.slice a 0 cap, .int .u8 (c.toNat : Int)] w fun e w' => e = .returned (.slice a 0 cap) ∧ w = w' := by
  go_enter Tryd.func14, Tryd.ntmps14
  go_wp2
  go_loop [0] (fun s => s = .slice a 0 cap) (fun _ => 0)
  case atStart => rfl
  case round =>
    subst hrel
    go_wp2
    go_ret
    exact ⟨rfl, rfl⟩

def lenOfV : Value → Nat | .slice _ n _ => n | _ => 0
set_option maxHeartbeats 400000 in
theorem trimByte_any (c : UInt8) (b off cap : Nat) (xs : List UInt8) (w : World) (hr : RdC w (some ⟨b, off, none⟩) (bcells xs)) (hc : xs.length ≤ cap) (hl : xs.length ≤ 140737488355328) :
    Calls Tryd.prog 14 #[.slice (some ⟨b, off, none⟩) xs.length cap, .int .u8 (c.toNat : Int)] w fun e w' => ∃ k, Cut c xs k ∧ e = .returned (.slice (some ⟨b, off, none⟩) k cap) ∧ w = w' := by
  have HR := Lib.hid hr
  clear hr
  go_enter Tryd.func14, Tryd.ntmps14
  go_wp2
  go_loop [0] (fun s => ∃ k : Nat, s = .slice (some ⟨b, off, none⟩) k cap ∧ k ≤ xs.length ∧ ∀ j, k ≤ j → j < xs.length → xs[j]? = some c) (fun s => lenOfV s)
  case atStart => exact ⟨xs.length, rfl, Nat.le_refl _, fun j h1 h2 => by omega⟩
  case round =>
    obtain ⟨k, rfl, hk, hj⟩ := hrel
    have HJ := Lib.hid hj
    clear hj
    by_cases h0 : k = 0
    · subst h0
      go_wp2
      go_ret
      exact ⟨0, ⟨Nat.zero_le _, HJ.out, .inl rfl⟩, rfl, rfl⟩
    · obtain ⟨i, rfl⟩ : ∃ i, k = i + 1 := ⟨k - 1, by omega⟩
      obtain ⟨d, hd⟩ : ∃ d, xs[i]? = some d := ⟨xs[i], by simp⟩
      have HD := Lib.hid hd
      have hcell : (bcells xs)[i]? = some (.int .u8 (d.toNat : Int)) := by simp [bcells, hd]
      have HC := Lib.hid hcell
      clear hd hcell
      by_cases hdc : d = c
      · subst hdc
        go_wp2_with (first | (refine sh_loadRd (o := ⟨some 14, _, _, _, _, _⟩) (i := i) HR.out rfl rfl ?x1 (fun w => Tryd.isAgg5 w) HC.out ?x2; (case x1 => rfl)))
        exact ⟨⟨i, rfl, by omega, fun j h1 h2 => by
          by_cases e : j = i
          · subst e; exact HD.out
          · exact HJ.out j (by omega) h2⟩, by simp [lenOfV]⟩
      · have hne : ((d.toNat : Int) == (c.toNat : Int)) = false := by
          simp only [beq_eq_false_iff_ne, ne_eq]
          intro e
          exact hdc (UInt8.toNat_inj.1 (by omega))
        have HDC := Lib.hid hdc
        clear hdc
        go_wp2_with (first | (refine sh_loadRd (o := ⟨some 14, _, _, _, _, _⟩) (i := i) HR.out rfl rfl ?y1 (fun w => Tryd.isAgg5 w) HC.out ?y2; (case y1 => rfl)))
        go_ret
        exact ⟨i + 1, ⟨hk, HJ.out, .inr ⟨d, HD.out, HDC.out⟩⟩, rfl, rfl⟩

set_option maxRecDepth 100000 in
/-- 'bytes.TrimRight' at one byte, a nought. -/
theorem trim_any (b off cap : Nat) (xs : List UInt8) (w : World) (hr : RdC w (some ⟨b, off, none⟩) (bcells xs)) (hc : xs.length ≤ cap) (hl : xs.length ≤ 140737488355328) (hx : 0 < xs.length) :
    Calls Tryd.prog 12 #[.slice (some ⟨b, off, none⟩) xs.length cap, .string ⟨#[0]⟩] w fun e w' => ∃ k, Cut 0 xs k ∧ e = .returned (.slice (some ⟨b, off, none⟩) k cap) ∧ w = w' := by
  have h0 : ((xs.length : Int) == 0) = false := beq_eq_false_iff_ne.2 (by omega)
  have HR := Lib.hid hr
  clear hr
  have ht := fun w hr => trimByte_any 0 b off cap xs w hr hc hl
  have HT := Lib.hid ht
  clear ht
  go_enter Tryd.func12, Tryd.ntmps12
  go_wp2_with (go_at_call 14; refine (HT.out _ HR.out).mono ?_; rintro e w' ⟨k, hk, rfl, rfl⟩; have HK := Lib.hid hk; clear hk)
  go_ret
  exact ⟨_, HK.out, rfl, rfl⟩
theorem trim_nil (a : Option Addr) (cap : Nat) (w : World) :
    Calls Tryd.prog 12 #[.slice a 0 cap, .string ⟨#[0]⟩] w fun e w' => e = .returned (.slice a 0 cap) ∧ w = w' := by
  go_enter Tryd.func12, Tryd.ntmps12
  go_wp2
  go_ret
  exact ⟨rfl, rfl⟩
end Go.Proofs.YtdndppfjkcfecaaDoor
