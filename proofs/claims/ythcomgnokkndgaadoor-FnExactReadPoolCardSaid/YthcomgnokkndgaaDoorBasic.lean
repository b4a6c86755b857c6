/- The contracts of the smallest functions: bounds, absolute value, greatest common divisor. -/
import Derived.Test.YthcomgnokkndgaaDoorKit
namespace Go.Proofs.YthcomgnokkndgaaDoor
open Go.RowKit

/-- n lies in a range. -/
def inB (n lo hi : Int) : Bool := decide (lo ≤ n ∧ n ≤ hi)
theorem inB_true {n lo hi : Int} : inB n lo hi = true ↔ lo ≤ n ∧ n ≤ hi := by simp [inB]
theorem inB_false {n lo hi : Int} : inB n lo hi = false ↔ ¬ (lo ≤ n ∧ n ≤ hi) := by simp only [inB, decide_eq_false_iff_not]

set_option maxHeartbeats 400000 in
theorem impl_within (n lo hi : Int) (b : Bool) (hb : inB n lo hi = b) (w : World) :
    Calls Tryd.prog 50 #[.int .i64 n, .int .i64 lo, .int .i64 hi] w fun e w' => e = .returned (.bool b) ∧ Ext w w' := by
  cases b
  · rw [inB_false] at hb
    by_cases h1 : lo ≤ n
    · have h2 : ¬ n ≤ hi := by omega
      clear hb
      go_enter Tryd.func50, Tryd.ntmps50
      go_wp2
      go_ret
      exact ⟨rfl, Ext.refl _⟩
    · clear hb
      go_enter Tryd.func50, Tryd.ntmps50
      go_wp2
      go_ret
      exact ⟨rfl, Ext.refl _⟩
  · obtain ⟨h1, h2⟩ := inB_true.1 hb
    clear hb
    go_enter Tryd.func50, Tryd.ntmps50
    go_wp2
    go_ret
    exact ⟨rfl, Ext.refl _⟩

set_option maxHeartbeats 400000 in
theorem spec_l00In (n lo hi : Int) (b : Bool) (hb : inB n lo hi = b) (w : World) :
    Calls Tryd.prog 44 #[.int .i64 n, .int .i64 lo, .int .i64 hi] w fun e w' => e = .returned (.bool b) ∧ Ext w w' := by
  cases b
  · rw [inB_false] at hb
    by_cases h1 : lo ≤ n
    · have h2 : ¬ n ≤ hi := by omega
      clear hb
      go_enter Tryd.func44, Tryd.ntmps44
      go_wp2
      go_ret
      exact ⟨rfl, Ext.refl _⟩
    · clear hb
      go_enter Tryd.func44, Tryd.ntmps44
      go_wp2
      go_ret
      exact ⟨rfl, Ext.refl _⟩
  · obtain ⟨h1, h2⟩ := inB_true.1 hb
    clear hb
    go_enter Tryd.func44, Tryd.ntmps44
    go_wp2
    go_ret
    exact ⟨rfl, Ext.refl _⟩

end Go.Proofs.YthcomgnokkndgaaDoor
