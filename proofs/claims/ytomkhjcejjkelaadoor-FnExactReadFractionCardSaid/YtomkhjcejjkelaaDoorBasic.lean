/- The contracts of the smallest functions: bounds, absolute value, greatest common divisor. -/
import Derived.Test.YtomkhjcejjkelaaDoorKit
namespace Go.Proofs.YtomkhjcejjkelaaDoor
open Go.RowKit

/-- n lies in a range. -/
def inB (n lo hi : Int) : Bool := decide (lo ≤ n ∧ n ≤ hi)
theorem inB_true {n lo hi : Int} : inB n lo hi = true ↔ lo ≤ n ∧ n ≤ hi := by simp [inB]
theorem inB_false {n lo hi : Int} : inB n lo hi = false ↔ ¬ (lo ≤ n ∧ n ≤ hi) := by simp only [inB, decide_eq_false_iff_not]

set_option maxHeartbeats 400000 in
theorem impl_within (n lo hi : Int) (b : Bool) (hb : inB n lo hi = b) (w : World) :
    Calls Tryd.prog 95 #[.int .i64 n, .int .i64 lo, .int .i64 hi] w fun e w' => e = .returned (.bool b) ∧ Ext w w' := by
  cases b
  · rw [inB_false] at hb
    by_cases h1 : lo ≤ n
    · have h2 : ¬ n ≤ hi := by omega
      clear hb
      go_enter Tryd.func95, Tryd.ntmps95
      go_wp2
      go_ret
      exact ⟨rfl, Ext.refl _⟩
    · clear hb
      go_enter Tryd.func95, Tryd.ntmps95
      go_wp2
      go_ret
      exact ⟨rfl, Ext.refl _⟩
  · obtain ⟨h1, h2⟩ := inB_true.1 hb
    clear hb
    go_enter Tryd.func95, Tryd.ntmps95
    go_wp2
    go_ret
    exact ⟨rfl, Ext.refl _⟩

set_option maxHeartbeats 400000 in
theorem spec_l00In (n lo hi : Int) (b : Bool) (hb : inB n lo hi = b) (w : World) :
    Calls Tryd.prog 91 #[.int .i64 n, .int .i64 lo, .int .i64 hi] w fun e w' => e = .returned (.bool b) ∧ Ext w w' := by
  cases b
  · rw [inB_false] at hb
    by_cases h1 : lo ≤ n
    · have h2 : ¬ n ≤ hi := by omega
      clear hb
      go_enter Tryd.func91, Tryd.ntmps91
      go_wp2
      go_ret
      exact ⟨rfl, Ext.refl _⟩
    · clear hb
      go_enter Tryd.func91, Tryd.ntmps91
      go_wp2
      go_ret
      exact ⟨rfl, Ext.refl _⟩
  · obtain ⟨h1, h2⟩ := inB_true.1 hb
    clear hb
    go_enter Tryd.func91, Tryd.ntmps91
    go_wp2
    go_ret
    exact ⟨rfl, Ext.refl _⟩

set_option maxHeartbeats 400000 in
theorem impl_absolute (n : Int) (h1 : -9223372036854775807 ≤ n) (h2 : n ≤ 9223372036854775807) (w : World) :
    Calls Tryd.prog 105 #[.int .i64 n] w fun e w' => e = .returned (.int .i64 (n.natAbs : Int)) ∧ Ext w w' := by
  by_cases h : -n ≤ n
  · go_enter Tryd.func105, Tryd.ntmps105
    go_wp2
    go_ret
    exact ⟨ret_int (by omega), Ext.refl _⟩
  · go_enter Tryd.func105, Tryd.ntmps105
    go_wp2
    go_ret
    exact ⟨ret_int (by omega), Ext.refl _⟩

theorem gcd_step (a b : Int) (h1 : 0 ≤ a) (h2 : 0 < b) : Int.gcd b (a % b) = Int.gcd a b := by
  obtain ⟨m, rfl⟩ := Int.eq_ofNat_of_zero_le h1
  obtain ⟨n, rfl⟩ := Int.eq_ofNat_of_zero_le (Int.le_of_lt h2)
  rw [← Int.natCast_emod, Int.gcd_natCast_natCast, Int.gcd_natCast_natCast, Nat.gcd_comm m n, Nat.gcd_rec n m, Nat.gcd_comm]

set_option maxHeartbeats 400000 in
theorem impl_divisor (a b : Int) (h1 : 0 ≤ a) (h2 : 0 ≤ b) (h3 : a ≤ 9223372036854775807) (h4 : b ≤ 9223372036854775807) (w : World) :
    Calls Tryd.prog 104 #[.int .i64 a, .int .i64 b] w fun e w' => e = .returned (.int .i64 (Int.gcd a b : Int)) ∧ Ext w w' := by
  go_enter Tryd.func104, Tryd.ntmps104
  go_wp2
  go_loopw [0, 1] (fun x y wr => ∃ p q : Int, 0 ≤ p ∧ 0 ≤ q ∧ p ≤ 9223372036854775807 ∧ q ≤ 9223372036854775807 ∧ x = .int .i64 p ∧ y = .int .i64 q ∧ Hid (Int.gcd p q = Int.gcd a b) ∧ Ext w wr) (fun _ y _ => (intOf y).toNat)
  case atStart => exact ⟨a, b, h1, h2, h3, h4, rfl, rfl, Lib.hid rfl, Ext.refl _⟩
  case round =>
    obtain ⟨p, q, hp, hq, hp', hq', rfl, rfl, hg, hx⟩ := hrel
    obtain ⟨g0, rfl⟩ := hx.grow; clear hx
    by_cases hz : q = 0
    · subst hz
      go_wp2
      go_ret
      exact ⟨ret_int (by rw [← hg.out]; simp; omega), g0.ext⟩
    · have hq0 : 0 < q := by omega
      go_wp2
      refine wp_region_grow (by kernel_rfl) (by kernel_rfl) ?_
      repeat (go_big_quiet_step (fail))
      refine wpQuiet_nil ?_
      intro _ hw'
      obtain ⟨g, hw''⟩ := hw'
      subst hw''
      go_wp2
      go_roundw
      case rel => exact ⟨q, p % q, by omega, Int.emod_nonneg _ hz, by omega, by have := Int.emod_lt_of_pos p hq0; omega, rfl, rfl, Lib.hid ((gcd_step p q hp hq0).trans hg.out), g0.ext.fin g⟩
      case measure => have := Int.emod_lt_of_pos p hq0; have := Int.emod_nonneg p hz; simp [intOf]; omega

set_option maxHeartbeats 400000 in
theorem spec_l01Gcd (a b : Int) (h1 : 0 ≤ a) (h2 : 0 ≤ b) (h3 : a ≤ 9223372036854775807) (h4 : b ≤ 9223372036854775807) (w : World) :
    Calls Tryd.prog 102 #[.int .i64 a, .int .i64 b] w fun e w' => e = .returned (.int .i64 (Int.gcd a b : Int)) ∧ Ext w w' := by
  go_enter Tryd.func102, Tryd.ntmps102
  go_wp2
  go_loopw [0, 1] (fun x y wr => ∃ p q : Int, 0 ≤ p ∧ 0 ≤ q ∧ p ≤ 9223372036854775807 ∧ q ≤ 9223372036854775807 ∧ x = .int .i64 p ∧ y = .int .i64 q ∧ Hid (Int.gcd p q = Int.gcd a b) ∧ Ext w wr) (fun _ y _ => (intOf y).toNat)
  case atStart => exact ⟨a, b, h1, h2, h3, h4, rfl, rfl, Lib.hid rfl, Ext.refl _⟩
  case round =>
    obtain ⟨p, q, hp, hq, hp', hq', rfl, rfl, hg, hx⟩ := hrel
    obtain ⟨g0, rfl⟩ := hx.grow; clear hx
    by_cases hz : q = 0
    · subst hz
      go_wp2
      go_ret
      exact ⟨ret_int (by rw [← hg.out]; simp; omega), g0.ext⟩
    · have hq0 : 0 < q := by omega
      go_wp2
      go_roundw
      case rel => exact ⟨q, p % q, by omega, Int.emod_nonneg _ hz, by omega, by have := Int.emod_lt_of_pos p hq0; omega, rfl, rfl, Lib.hid ((gcd_step p q hp hq0).trans hg.out), g0.ext⟩
      case measure => have := Int.emod_lt_of_pos p hq0; have := Int.emod_nonneg p hz; simp [intOf]; omega

end Go.Proofs.YtomkhjcejjkelaaDoor
