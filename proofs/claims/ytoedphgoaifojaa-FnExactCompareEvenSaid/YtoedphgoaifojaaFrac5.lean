/- Quotients, fractions of two numbers, comparisons and whole parts, on both sides. -/
import Derived.Test.YtoedphgoaifojaaFrac4
namespace Go.Proofs.Ytoedphgoaifojaa
open Go.RowKit











/-- -1, 0 or 1. -/
def cmpI (x y : Int) : Int := if x < y then -1 else if y < x then 1 else 0

set_option maxHeartbeats 400000 in
theorem impl_compare (n d m e : Int) (h1 : okF n d = true) (h2 : okF m e = true) (w : World) :
    Calls Try.prog 70 #[.agg #[.int .i64 n, .int .i64 d], .agg #[.int .i64 m, .int .i64 e]] w fun e' w' => e' = .returned (.int .i64 (cmpI (n * e) (m * d))) ∧ Ext w w' := by
  obtain ⟨a1, a2⟩ := okF_bd h1
  obtain ⟨b1, b2⟩ := okF_bd h2
  have m1 := mul_bd n e a2 (by omega)
  have m2 := mul_bd m d b2 (by omega)
  clear h1 h2
  by_cases c1 : n * e < m * d
  · rw [show cmpI (n * e) (m * d) = -1 from if_pos c1]
    go_enter Try.func70, Try.ntmps70
    go_wp2
    refine wp_region_grow (by kernel_rfl) (by kernel_rfl) ?_
    repeat (go_big_quiet_step (fail))
    refine wpQuiet_nil ?_
    intro _ hw'
    obtain ⟨g, hw''⟩ := hw'
    subst hw''
    go_wp2
    go_ret
    exact ⟨rfl, ExtC.ext⟩
  · by_cases c2 : m * d < n * e
    · rw [show cmpI (n * e) (m * d) = 1 by rw [cmpI, if_neg c1, if_pos c2]]
      go_enter Try.func70, Try.ntmps70
      go_wp2
      refine wp_region_grow (by kernel_rfl) (by kernel_rfl) ?_
      repeat (go_big_quiet_step (fail))
      refine wpQuiet_nil ?_
      intro _ hw'
      obtain ⟨g, hw''⟩ := hw'
      subst hw''
      go_wp2
      go_ret
      exact ⟨rfl, ExtC.ext⟩
    · rw [show cmpI (n * e) (m * d) = 0 by rw [cmpI, if_neg c1, if_neg c2]]
      go_enter Try.func70, Try.ntmps70
      go_wp2
      refine wp_region_grow (by kernel_rfl) (by kernel_rfl) ?_
      repeat (go_big_quiet_step (fail))
      refine wpQuiet_nil ?_
      intro _ hw'
      obtain ⟨g, hw''⟩ := hw'
      subst hw''
      go_wp2
      go_ret
      exact ⟨rfl, ExtC.ext⟩

set_option maxHeartbeats 400000 in
theorem spec_l01Cmp (n d m e : Int) (h1 : okF n d = true) (h2 : okF m e = true) (w : World) :
    Calls Try.prog 97 #[.agg #[.int .i64 n, .int .i64 d], .agg #[.int .i64 m, .int .i64 e]] w fun e' w' => e' = .returned (.int .i64 (cmpI (n * e) (m * d))) ∧ Ext w w' := by
  obtain ⟨a1, a2⟩ := okF_bd h1
  obtain ⟨b1, b2⟩ := okF_bd h2
  have m1 := mul_bd n e a2 (by omega)
  have m2 := mul_bd m d b2 (by omega)
  clear h1 h2
  by_cases c1 : n * e < m * d
  · rw [show cmpI (n * e) (m * d) = -1 from if_pos c1]
    go_enter Try.func97, Try.ntmps97
    go_wp2
    skip
    go_wp2
    go_ret
    exact ⟨rfl, ExtC.ext⟩
  · by_cases c2 : m * d < n * e
    · rw [show cmpI (n * e) (m * d) = 1 by rw [cmpI, if_neg c1, if_pos c2]]
      go_enter Try.func97, Try.ntmps97
      go_wp2
      skip
      go_wp2
      go_ret
      exact ⟨rfl, ExtC.ext⟩
    · rw [show cmpI (n * e) (m * d) = 0 by rw [cmpI, if_neg c1, if_neg c2]]
      go_enter Try.func97, Try.ntmps97
      go_wp2
      skip
      go_wp2
      go_ret
      exact ⟨rfl, ExtC.ext⟩







end Go.Proofs.Ytoedphgoaifojaa
