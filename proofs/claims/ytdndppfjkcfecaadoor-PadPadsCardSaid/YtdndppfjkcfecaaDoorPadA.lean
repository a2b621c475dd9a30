/- Proved here: what the bucket functions of package pad and of its reference come to, for every length; no condition. -/
import Derived.Test.YtdndppfjkcfecaaDoorRows
import Derived.WalkKit
import Derived.WalkSpells
import Derived.WalkLawsBesides
import Derived.Lib.Hide
namespace Go.Proofs.YtdndppfjkcfecaaDoor
open Go.RowKit

/-- The bucket of a length; nought where there is none. -/
def bk (n : Int) : Int := if n < 0 then 0 else if n < 64 then 64 else if n < 128 then 128 else if n < 256 then 256 else if n < 512 then 512 else if n < 1024 then 1024 else if n < 2048 then 2048 else 0
/-- The error beside it. -/
def bkE (n : Int) : Int := if n < 0 then 1 else if n < 2048 then 0 else 3
/-- Whether a number is a bucket. -/
def isB (n : Int) : Bool := decide (n = 64 ∨ n = 128 ∨ n = 256 ∨ n = 512 ∨ n = 1024 ∨ n = 2048)
/-- The k-th bucket. -/
def two (k : Nat) : Int := match k with | 0 => 64 | 1 => 128 | 2 => 256 | 3 => 512 | 4 => 1024 | _ => 2048

theorem ret_int {a c : Int} (h1 : a = c) : Ending.returned (.int .i64 a) = .returned (.int .i64 c) := by rw [h1]
theorem ret_bool {a c : Bool} (h1 : a = c) : Ending.returned (.bool a) = .returned (.bool c) := by rw [h1]
theorem ret_two {a b c d : Int} (h1 : a = c) (h2 : b = d) : Ending.returned (.tuple #[.int .i64 a, .int .i64 b]) = .returned (.tuple #[.int .i64 c, .int .i64 d]) := by rw [h1, h2]

set_option maxHeartbeats 400000 in
theorem bucket_any (n : Int) (w : World)  :
    Calls Tryd.prog 11 #[.int .i64 n] w fun e w' => e = .returned (.tuple #[.int .i64 (bk n), .int .i64 (bkE n)]) ∧ w = w' := by
  by_cases h : n < 0
  · have hd : decide (n < 0) = true := decide_eq_true h
    go_enter Tryd.func11, Tryd.ntmps11
    go_wp2
    go_ret2
    exact ⟨by simp [bk, bkE, h], rfl⟩
  · have hd : decide (n < 0) = false := decide_eq_false (by omega)
    go_enter Tryd.func11, Tryd.ntmps11
    go_wp2
    go_loop [7] (fun i => ∃ k : Nat, k ≤ 6 ∧ i = .int .i64 k ∧ (k = 0 ∨ two (k - 1) ≤ n)) (fun i => 6 - (intOf i).toNat)
    case atStart => exact ⟨0, by omega, rfl, .inl rfl⟩
    case round =>
      obtain ⟨k, hk, rfl, hb⟩ := hrel
      have : k = 0 ∨ k = 1 ∨ k = 2 ∨ k = 3 ∨ k = 4 ∨ k = 5 ∨ k = 6 := by omega
      rcases this with rfl | rfl | rfl | rfl | rfl | rfl | rfl
      · go_wp2
        · go_ret2
          exact ⟨ret_two (by unfold bk; omega) (by unfold bkE; omega), rfl⟩
        · exact ⟨⟨1, by omega, rfl, .inr (by simp only [two]; omega)⟩, by simp [intOf]⟩
      · simp only [two] at hb
        go_wp2
        · go_ret2
          exact ⟨ret_two (by unfold bk; omega) (by unfold bkE; omega), rfl⟩
        · exact ⟨⟨2, by omega, rfl, .inr (by simp only [two]; omega)⟩, by simp [intOf]⟩
      · simp only [two] at hb
        go_wp2
        · go_ret2
          exact ⟨ret_two (by unfold bk; omega) (by unfold bkE; omega), rfl⟩
        · exact ⟨⟨3, by omega, rfl, .inr (by simp only [two]; omega)⟩, by simp [intOf]⟩
      · simp only [two] at hb
        go_wp2
        · go_ret2
          exact ⟨ret_two (by unfold bk; omega) (by unfold bkE; omega), rfl⟩
        · exact ⟨⟨4, by omega, rfl, .inr (by simp only [two]; omega)⟩, by simp [intOf]⟩
      · simp only [two] at hb
        go_wp2
        · go_ret2
          exact ⟨ret_two (by unfold bk; omega) (by unfold bkE; omega), rfl⟩
        · exact ⟨⟨5, by omega, rfl, .inr (by simp only [two]; omega)⟩, by simp [intOf]⟩
      · simp only [two] at hb
        go_wp2
        · go_ret2
          exact ⟨ret_two (by unfold bk; omega) (by unfold bkE; omega), rfl⟩
        · exact ⟨⟨6, by omega, rfl, .inr (by simp only [two]; omega)⟩, by simp [intOf]⟩
      · have hc : 2048 ≤ n := by have : two (6 - 1) = 2048 := rfl; omega
        clear hb
        go_wp2
        go_ret2
        exact ⟨ret_two (by unfold bk; omega) (by unfold bkE; omega), rfl⟩

theorem awake_any (w : World) : Calls Tryd.prog 5 #[] w fun e w' => e = .returned (.bool true) ∧ w = w' := by
  go_enter Tryd.func5, Tryd.ntmps5
  go_wp2_with (go_at_call 11; refine (bucket_any _ _).mono ?_; rintro e w' ⟨rfl, rfl⟩)
  go_ret
  exact ⟨rfl, rfl⟩


end Go.Proofs.YtdndppfjkcfecaaDoor
