/- Proved here: what the reference's Bucket comes to, for every length; no condition. -/
import Derived.Test.YtdndppfjkcfecaaDoorPadA
namespace Go.Proofs.YtdndppfjkcfecaaDoor
open Go.RowKit

/-- The reference's bucket: nought where there is none; of a number below nought the least. -/
def rbk (n : Int) : Int := if n < 64 then 64 else if n < 128 then 128 else if n < 256 then 256 else if n < 512 then 512 else if n < 1024 then 1024 else if n < 2048 then 2048 else 0

set_option maxHeartbeats 800000 in
theorem refBucket_any (n : Int) (w : World)  :
    Calls Tryd.prog 9 #[.int .i64 n] w fun e w' => e = .returned (.int .i64 (rbk n)) ∧ Below w.heap.size w w' := by
  go_enter Tryd.func9, Tryd.ntmps9
  go_wp2
  go_loop [4] (fun i => ∃ k : Nat, k ≤ 6 ∧ i = .int .i64 k ∧ (k = 0 ∨ two (k - 1) ≤ n)) (fun i => 6 - (intOf i).toNat)
  case atStart => exact ⟨0, by omega, rfl, .inl rfl⟩
  case round =>
    obtain ⟨k, hk, rfl, hb⟩ := hrel
    have : k = 0 ∨ k = 1 ∨ k = 2 ∨ k = 3 ∨ k = 4 ∨ k = 5 ∨ k = 6 := by omega
    rcases this with rfl | rfl | rfl | rfl | rfl | rfl | rfl
    · go_wp2
      · go_ret
        exact ⟨ret_int (by unfold rbk; omega), (Below.refl _ _).alloc (Nat.le_refl _) _⟩
      · exact ⟨⟨1, by omega, rfl, .inr (by simp only [two]; omega)⟩, by simp [intOf]⟩
    · simp only [two] at hb
      go_wp2
      · go_ret
        exact ⟨ret_int (by unfold rbk; omega), (Below.refl _ _).alloc (Nat.le_refl _) _⟩
      · exact ⟨⟨2, by omega, rfl, .inr (by simp only [two]; omega)⟩, by simp [intOf]⟩
    · simp only [two] at hb
      go_wp2
      · go_ret
        exact ⟨ret_int (by unfold rbk; omega), (Below.refl _ _).alloc (Nat.le_refl _) _⟩
      · exact ⟨⟨3, by omega, rfl, .inr (by simp only [two]; omega)⟩, by simp [intOf]⟩
    · simp only [two] at hb
      go_wp2
      · go_ret
        exact ⟨ret_int (by unfold rbk; omega), (Below.refl _ _).alloc (Nat.le_refl _) _⟩
      · exact ⟨⟨4, by omega, rfl, .inr (by simp only [two]; omega)⟩, by simp [intOf]⟩
    · simp only [two] at hb
      go_wp2
      · go_ret
        exact ⟨ret_int (by unfold rbk; omega), (Below.refl _ _).alloc (Nat.le_refl _) _⟩
      · exact ⟨⟨5, by omega, rfl, .inr (by simp only [two]; omega)⟩, by simp [intOf]⟩
    · simp only [two] at hb
      go_wp2
      · go_ret
        exact ⟨ret_int (by unfold rbk; omega), (Below.refl _ _).alloc (Nat.le_refl _) _⟩
      · exact ⟨⟨6, by omega, rfl, .inr (by simp only [two]; omega)⟩, by simp [intOf]⟩
    · have hc : 2048 ≤ n := by have : two (6 - 1) = 2048 := rfl; omega
      clear hb
      go_wp2
      go_ret
      exact ⟨ret_int (by unfold rbk; omega), (Below.refl _ _).alloc (Nat.le_refl _) _⟩

end Go.Proofs.YtdndppfjkcfecaaDoor
