/- Proved here: what pad.Batch and the reference's Bucket come to, and that the statements PadGrows and PadBuckets return true of whatever comes in; no condition. -/
import Derived.Test.YtdndppfjkcfecaaPadA
namespace Go.Proofs.Ytdndppfjkcfecaa
open Go.RowKit

/-- The least power of two that isn't below a number, at most 65536. -/
def bat (n : Int) : Int := if n ≤ 1 then 1 else if n ≤ 2 then 2 else if n ≤ 4 then 4 else if n ≤ 8 then 8 else if n ≤ 16 then 16 else if n ≤ 32 then 32 else if n ≤ 64 then 64 else if n ≤ 128 then 128 else if n ≤ 256 then 256 else if n ≤ 512 then 512 else if n ≤ 1024 then 1024 else if n ≤ 2048 then 2048 else if n ≤ 4096 then 4096 else if n ≤ 8192 then 8192 else if n ≤ 16384 then 16384 else if n ≤ 32768 then 32768 else 65536
/-- The j-th power of two. -/
def p2 (j : Nat) : Int := match j with | 0 => 1 | 1 => 2 | 2 => 4 | 3 => 8 | 4 => 16 | 5 => 32 | 6 => 64 | 7 => 128 | 8 => 256 | 9 => 512 | 10 => 1024 | 11 => 2048 | 12 => 4096 | 13 => 8192 | 14 => 16384 | 15 => 32768 | _ => 65536

theorem cases16 (j : Nat) (h : j ≤ 16) : j = 0 ∨ j = 1 ∨ j = 2 ∨ j = 3 ∨ j = 4 ∨ j = 5 ∨ j = 6 ∨ j = 7 ∨ j = 8 ∨ j = 9 ∨ j = 10 ∨ j = 11 ∨ j = 12 ∨ j = 13 ∨ j = 14 ∨ j = 15 ∨ j = 16 := by omega
theorem p2_next (j : Nat) (h : j < 16) : p2 j + p2 j = p2 (j + 1) ∧ 1 ≤ p2 j ∧ p2 j < 65536 := by
  rcases cases16 j (by omega) with rfl | rfl | rfl | rfl | rfl | rfl | rfl | rfl | rfl | rfl | rfl | rfl | rfl | rfl | rfl | rfl | rfl <;> first | decide | omega
theorem p2_mul (j : Nat) (h : j < 16) : p2 j * 2 = p2 (j + 1) := by have := p2_next j h; omega
theorem p2_bd (j : Nat) (h : j ≤ 16) : 1 ≤ p2 j ∧ p2 j ≤ 65536 := by
  rcases cases16 j h with rfl | rfl | rfl | rfl | rfl | rfl | rfl | rfl | rfl | rfl | rfl | rfl | rfl | rfl | rfl | rfl | rfl <;> decide
/-- The least power that stops the doubling is the one that is told. -/
theorem bat_of (n : Int) (j : Nat) (hj : j ≤ 16) (h : j = 0 ∨ p2 (j - 1) < n) (hs : n ≤ p2 j ∨ j = 16) : p2 j = bat n := by
  unfold bat
  rcases cases16 j hj with rfl | rfl | rfl | rfl | rfl | rfl | rfl | rfl | rfl | rfl | rfl | rfl | rfl | rfl | rfl | rfl | rfl <;> simp only [p2] at * <;> omega
theorem p2_top (j : Nat) (hj : j ≤ 16) (h : 65536 ≤ p2 j) : j = 16 := by
  rcases cases16 j hj with rfl | rfl | rfl | rfl | rfl | rfl | rfl | rfl | rfl | rfl | rfl | rfl | rfl | rfl | rfl | rfl | rfl <;> simp only [p2] at h <;> omega

set_option maxHeartbeats 400000 in
theorem batch_any (n : Int) (w : World) :
    Calls Try.prog 9 #[.int .i64 n] w fun e w' => e = .returned (.int .i64 (bat n)) ∧ w = w' := by
  go_enter Try.func9, Try.ntmps9
  go_wp2
  go_loop [3] (fun o => ∃ j : Nat, j ≤ 16 ∧ o = .int .i64 (p2 j) ∧ (j = 0 ∨ p2 (j - 1) < n)) (fun o => 65536 - (intOf o).toNat)
  case atStart => exact ⟨0, by omega, rfl, .inl rfl⟩
  case round =>
    obtain ⟨j, hj, rfl, hb⟩ := hrel
    have bd := p2_bd j hj
    by_cases c1 : p2 j < n
    · by_cases c2 : p2 j < 65536
      · have hj' : j < 16 := by
          by_cases e : j = 16
          · subst e; exact absurd c2 (by decide)
          · omega
        have hm := p2_mul j hj'
        have HM := Lib.hid hm
        clear hm
        have HB := Lib.hid hb
        clear hb
        go_wp2
        refine ⟨⟨j + 1, by omega, by rw [HM.out], .inr (by simpa using c1)⟩, ?_⟩
        simp [intOf]; omega
      · have H := Lib.hid (bat_of n j hj hb (.inr (p2_top j hj (by omega))))
        clear hb
        go_wp2
        go_ret
        exact ⟨ret_int H.out, rfl⟩
    · have H := Lib.hid (bat_of n j hj hb (.inl (by omega)))
      clear hb
      go_wp2
      go_ret
      exact ⟨ret_int H.out, rfl⟩

end Go.Proofs.Ytdndppfjkcfecaa
