/- Fractions in lowest terms: fraction, told, l01Make, and the arithmetic. -/
import Derived.Test.YtoedphgoaifojaaFrac
import Derived.Test.YtoedphgoaifojaaTail
namespace Go.Proofs.Ytoedphgoaifojaa
open Go.RowKit

/-- Numerator and denominator in lowest terms. -/
def redN (n d : Int) : Int := n.tdiv (Int.gcd n d : Int)
def redD (n d : Int) : Int := d / (Int.gcd n d : Int)
/-- n, or 0. -/
def keepI (b : Bool) (n : Int) : Int := if b then n else 0

theorem gcd_pos (n d : Int) (h : 0 < d) : 1 ≤ (Int.gcd n d : Int) := by
  have := Int.gcd_pos_of_ne_zero_right n (Int.ne_of_gt h); omega
theorem gcd_le (n d : Int) (h : 0 < d) : (Int.gcd n d : Int) ≤ d := Int.le_of_dvd h (Int.gcd_dvd_right n d)
theorem redN_one (n d : Int) (h : (Int.gcd n d : Int) = 1) : redN n d = n := by rw [redN, h]; simp
theorem redD_one (n d : Int) (h : (Int.gcd n d : Int) = 1) : redD n d = d := by rw [redD, h]; simp
theorem redN_bd (n d m : Int) (h : -m ≤ n ∧ n ≤ m) : -m ≤ redN n d ∧ redN n d ≤ m := by
  have h1 : (n.tdiv (Int.gcd n d : Int)).natAbs ≤ n.natAbs := by rw [Int.natAbs_tdiv]; exact Nat.div_le_self _ _
  unfold redN; omega
theorem redD_bd (n d m : Int) (h : 0 < d ∧ d ≤ m) : 0 ≤ redD n d ∧ redD n d ≤ m := by
  unfold redD
  have h1 : d / (Int.gcd n d : Int) ≤ d := Int.ediv_le_self _ (by omega)
  have h2 : 0 ≤ d / (Int.gcd n d : Int) := Int.ediv_nonneg (by omega) (by omega)
  omega


theorem impl_divisor_abs (n d : Int) (h1 : -9223372036854775807 ≤ n) (h2 : n ≤ 9223372036854775807) (h3 : 0 ≤ d) (h4 : d ≤ 9223372036854775807) (w : World) :
    Calls Try.prog 115 #[.int .i64 (n.natAbs : Int), .int .i64 d] w fun e w' => e = .returned (.int .i64 (Int.gcd n d : Int)) ∧ Ext w w' :=
  (impl_divisor _ _ (by omega) h3 (by omega) h4 w).mono fun _ _ ⟨he, hx⟩ => ⟨by rw [he, gcd_abs], hx⟩
theorem spec_l01Gcd_abs (n d : Int) (h1 : -9223372036854775807 ≤ n) (h2 : n ≤ 9223372036854775807) (h3 : 0 ≤ d) (h4 : d ≤ 9223372036854775807) (w : World) :
    Calls Try.prog 112 #[.int .i64 (n.natAbs : Int), .int .i64 d] w fun e w' => e = .returned (.int .i64 (Int.gcd n d : Int)) ∧ Ext w w' :=
  (spec_l01Gcd _ _ (by omega) h3 (by omega) h4 w).mono fun _ _ ⟨he, hx⟩ => ⟨by rw [he, gcd_abs], hx⟩

set_option maxHeartbeats 400000 in
theorem impl_fraction (n d : Int) (h1 : -4000000000000000000 ≤ n) (h2 : n ≤ 4000000000000000000) (h3 : 1 ≤ d) (h4 : d ≤ 4000000000000000000) (w : World) :
    Calls Try.prog 90 #[.int .i64 n, .int .i64 d] w fun e w' => e = .returned (.agg #[.int .i64 (redN n d), .int .i64 (redD n d)]) ∧ Ext w w' := by
  have g1 := gcd_pos n d (by omega)
  have g2 := gcd_le n d (by omega)
  by_cases hd : 1 < (Int.gcd n d : Int)
  · unfold redN redD
    go_enter Try.func90, Try.ntmps90
    go_wp2_with (first | (go_at_call 116; (with_reducible refine (impl_absolute _ (by omega) (by omega) _).mono ?_); rintro e w' ⟨rfl, hx⟩; obtain ⟨g, rfl⟩ := hx.grow; clear hx) | (go_at_call 115; (with_reducible refine (impl_divisor_abs _ _ (by omega) (by omega) (by omega) (by omega) _).mono ?_); rintro e w' ⟨rfl, hx⟩; obtain ⟨g, rfl⟩ := hx.grow; clear hx))
    refine wp_region_grow (by kernel_rfl) (by kernel_rfl) ?_
    repeat (go_big_quiet_step (fail))
    refine wpQuiet_nil ?_
    intro _ hw'
    obtain ⟨g, hw''⟩ := hw'
    subst hw''
    go_wp2
    refine bodyPost_ret (v := .agg #[.int .i64 (n.tdiv (Int.gcd n d : Int)), .int .i64 (d / (Int.gcd n d : Int))]) (by simp [results, Try.results90, go_sem]) rfl ⟨rfl, ?_⟩
    exact ExtC.ext
  · go_enter Try.func90, Try.ntmps90
    go_wp2_with (first | (go_at_call 116; (with_reducible refine (impl_absolute _ (by omega) (by omega) _).mono ?_); rintro e w' ⟨rfl, hx⟩; obtain ⟨g, rfl⟩ := hx.grow; clear hx) | (go_at_call 115; (with_reducible refine (impl_divisor_abs _ _ (by omega) (by omega) (by omega) (by omega) _).mono ?_); rintro e w' ⟨rfl, hx⟩; obtain ⟨g, rfl⟩ := hx.grow; clear hx))
    rw [redN_one n d (by omega), redD_one n d (by omega)]
    refine bodyPost_ret (v := .agg #[.int .i64 n, .int .i64 d]) (by simp [results, Try.results90, go_sem]) rfl ⟨rfl, ?_⟩
    exact ExtC.ext

set_option maxHeartbeats 400000 in
theorem spec_l01Make_pos (n d : Int) (h1 : -4000000000000000000 ≤ n) (h2 : n ≤ 4000000000000000000) (h3 : 1 ≤ d) (h4 : d ≤ 4000000000000000000) (w : World) :
    Calls Try.prog 86 #[.int .i64 n, .int .i64 d] w fun e w' => e = .returned (.tuple #[.agg #[.int .i64 (keepI (okF (redN n d) (redD n d)) (redN n d)), .int .i64 (keepI (okF (redN n d) (redD n d)) (redD n d))], .bool (okF (redN n d) (redD n d))]) ∧ Ext w w' := by
  have g1 := gcd_pos n d (by omega)
  have g2 := gcd_le n d (by omega)
  cases hb : okF (redN n d) (redD n d)
  · have hb' : Hid (okF (n.tdiv (Int.gcd n d : Int)) (d / (Int.gcd n d : Int)) = false) := Lib.hid hb; clear hb
    go_enter Try.func86, Try.ntmps86
    go_wp2_with (first | (go_at_call 113; (with_reducible refine (spec_l01Abs _ (by omega) (by omega) _).mono ?_); rintro e w' ⟨rfl, hx⟩; obtain ⟨g, rfl⟩ := hx.grow; clear hx) | (go_at_call 112; (with_reducible refine (spec_l01Gcd_abs _ _ (by omega) (by omega) (by omega) (by omega) _).mono ?_); rintro e w' ⟨rfl, hx⟩; obtain ⟨g, rfl⟩ := hx.grow; clear hx) | (go_at_call 95; (with_reducible refine (spec_l01Ok _ _ _ hb'.out _).mono ?_); rintro e w' ⟨rfl, hx⟩; obtain ⟨g, rfl⟩ := hx.grow; clear hx))
    go_region
    go_wp2_with (first | (go_at_call 95; (with_reducible refine (spec_l01Ok _ _ _ hb'.out _).mono ?_); rintro e w' ⟨rfl, hx⟩; obtain ⟨g, rfl⟩ := hx.grow; clear hx))
    refine bodyPost_ret (v := .tuple #[.agg #[.int .i64 0, .int .i64 0], .bool false]) (by simp [results, Try.results86, go_sem]) rfl ⟨rfl, ?_⟩
    exact ExtC.ext
  · have hb' : Hid (okF (n.tdiv (Int.gcd n d : Int)) (d / (Int.gcd n d : Int)) = true) := Lib.hid hb; clear hb
    unfold keepI redN redD
    go_enter Try.func86, Try.ntmps86
    go_wp2_with (first | (go_at_call 113; (with_reducible refine (spec_l01Abs _ (by omega) (by omega) _).mono ?_); rintro e w' ⟨rfl, hx⟩; obtain ⟨g, rfl⟩ := hx.grow; clear hx) | (go_at_call 112; (with_reducible refine (spec_l01Gcd_abs _ _ (by omega) (by omega) (by omega) (by omega) _).mono ?_); rintro e w' ⟨rfl, hx⟩; obtain ⟨g, rfl⟩ := hx.grow; clear hx) | (go_at_call 95; (with_reducible refine (spec_l01Ok _ _ _ hb'.out _).mono ?_); rintro e w' ⟨rfl, hx⟩; obtain ⟨g, rfl⟩ := hx.grow; clear hx))
    go_region
    go_wp2_with (first | (go_at_call 95; (with_reducible refine (spec_l01Ok _ _ _ hb'.out _).mono ?_); rintro e w' ⟨rfl, hx⟩; obtain ⟨g, rfl⟩ := hx.grow; clear hx))
    refine bodyPost_ret (v := .tuple #[.agg #[.int .i64 (n.tdiv (Int.gcd n d : Int)), .int .i64 (d / (Int.gcd n d : Int))], .bool true]) (by simp [results, Try.results86, go_sem]) rfl ⟨rfl, ?_⟩
    exact ExtC.ext

set_option maxHeartbeats 400000 in
theorem spec_l01Make_neg0 (n d : Int) (h1 : -4000000000000000000 ≤ n) (h2 : n ≤ 4000000000000000000) (h3 : 1 ≤ d) (h4 : d ≤ 4000000000000000000) (w : World) :
    Calls Try.prog 86 #[.int .i64 (-n), .int .i64 (-d)] w fun e w' => e = .returned (.tuple #[.agg #[.int .i64 (keepI (okF (redN n d) (redD n d)) (redN n d)), .int .i64 (keepI (okF (redN n d) (redD n d)) (redD n d))], .bool (okF (redN n d) (redD n d))]) ∧ Ext w w' := by
  have g1 := gcd_pos n d (by omega)
  have g2 := gcd_le n d (by omega)
  cases hb : okF (redN n d) (redD n d)
  · have hb' : Hid (okF (n.tdiv (Int.gcd n d : Int)) (d / (Int.gcd n d : Int)) = false) := Lib.hid hb; clear hb
    go_enter Try.func86, Try.ntmps86
    go_wp2_with (first | (go_at_call 113; (with_reducible refine (spec_l01Abs _ (by omega) (by omega) _).mono ?_); rintro e w' ⟨rfl, hx⟩; obtain ⟨g, rfl⟩ := hx.grow; clear hx) | (go_at_call 112; (with_reducible refine (spec_l01Gcd_abs _ _ (by omega) (by omega) (by omega) (by omega) _).mono ?_); rintro e w' ⟨rfl, hx⟩; obtain ⟨g, rfl⟩ := hx.grow; clear hx) | (go_at_call 95; (with_reducible refine (spec_l01Ok _ _ _ hb'.out _).mono ?_); rintro e w' ⟨rfl, hx⟩; obtain ⟨g, rfl⟩ := hx.grow; clear hx))
    go_region
    go_wp2_with (first | (go_at_call 95; (with_reducible refine (spec_l01Ok _ _ _ hb'.out _).mono ?_); rintro e w' ⟨rfl, hx⟩; obtain ⟨g, rfl⟩ := hx.grow; clear hx))
    refine bodyPost_ret (v := .tuple #[.agg #[.int .i64 0, .int .i64 0], .bool false]) (by simp [results, Try.results86, go_sem]) rfl ⟨rfl, ?_⟩
    exact ExtC.ext
  · have hb' : Hid (okF (n.tdiv (Int.gcd n d : Int)) (d / (Int.gcd n d : Int)) = true) := Lib.hid hb; clear hb
    unfold keepI redN redD
    go_enter Try.func86, Try.ntmps86
    go_wp2_with (first | (go_at_call 113; (with_reducible refine (spec_l01Abs _ (by omega) (by omega) _).mono ?_); rintro e w' ⟨rfl, hx⟩; obtain ⟨g, rfl⟩ := hx.grow; clear hx) | (go_at_call 112; (with_reducible refine (spec_l01Gcd_abs _ _ (by omega) (by omega) (by omega) (by omega) _).mono ?_); rintro e w' ⟨rfl, hx⟩; obtain ⟨g, rfl⟩ := hx.grow; clear hx) | (go_at_call 95; (with_reducible refine (spec_l01Ok _ _ _ hb'.out _).mono ?_); rintro e w' ⟨rfl, hx⟩; obtain ⟨g, rfl⟩ := hx.grow; clear hx))
    go_region
    go_wp2_with (first | (go_at_call 95; (with_reducible refine (spec_l01Ok _ _ _ hb'.out _).mono ?_); rintro e w' ⟨rfl, hx⟩; obtain ⟨g, rfl⟩ := hx.grow; clear hx))
    refine bodyPost_ret (v := .tuple #[.agg #[.int .i64 (n.tdiv (Int.gcd n d : Int)), .int .i64 (d / (Int.gcd n d : Int))], .bool true]) (by simp [results, Try.results86, go_sem]) rfl ⟨rfl, ?_⟩
    exact ExtC.ext

theorem spec_l01Make_neg (x y n d : Int) (hx : x = -n) (hy : y = -d) (h1 : -4000000000000000000 ≤ n) (h2 : n ≤ 4000000000000000000) (h3 : 1 ≤ d) (h4 : d ≤ 4000000000000000000) (w : World) :
    Calls Try.prog 86 #[.int .i64 x, .int .i64 y] w fun e w' => e = .returned (.tuple #[.agg #[.int .i64 (keepI (okF (redN n d) (redD n d)) (redN n d)), .int .i64 (keepI (okF (redN n d) (redD n d)) (redD n d))], .bool (okF (redN n d) (redD n d))]) ∧ Ext w w' := by
  subst hx hy; exact spec_l01Make_neg0 n d h1 h2 h3 h4 w

end Go.Proofs.Ytoedphgoaifojaa
