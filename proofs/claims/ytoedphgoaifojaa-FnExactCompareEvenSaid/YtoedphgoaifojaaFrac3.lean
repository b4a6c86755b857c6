/- The arithmetic of fractions on both sides. -/
import Derived.Test.YtoedphgoaifojaaFrac2
namespace Go.Proofs.Ytoedphgoaifojaa
open Go.RowKit

theorem okF_bd {n d : Int} (h : okF n d = true) : (1 ≤ d ∧ d ≤ 1000000000) ∧ (-1000000000 ≤ n ∧ n ≤ 1000000000) := by
  simp only [okF, Bool.and_eq_true, inB_true] at h; exact h.1
theorem mul_bd (a b : Int) (ha : -1000000000 ≤ a ∧ a ≤ 1000000000) (hb : -1000000000 ≤ b ∧ b ≤ 1000000000) : -1000000000000000000 ≤ a * b ∧ a * b ≤ 1000000000000000000 := by
  have h : (a * b).natAbs ≤ 1000000000 * 1000000000 := by rw [Int.natAbs_mul]; exact Nat.mul_le_mul (by omega) (by omega)
  omega
theorem mul_pos1 (a b : Int) (ha : 1 ≤ a) (hb : 1 ≤ b) : 1 ≤ a * b := by
  have := Int.mul_le_mul ha hb (by omega) (by omega); omega









end Go.Proofs.Ytoedphgoaifojaa
