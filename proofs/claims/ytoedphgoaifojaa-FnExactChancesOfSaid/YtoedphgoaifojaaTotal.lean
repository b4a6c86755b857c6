/- Sums of numbers and their reduced fractions: impl.total, ContainsFunc with a bound; plain laws. -/
import Derived.Test.YtoedphgoaifojaaTickets
import Derived.Test.YtoedphgoaifojaaFrac2
import Derived.Test.YtoedphgoaifojaaSum
namespace Go.Proofs.Ytoedphgoaifojaa
open Go.RowKit

theorem okF_red {n d : Int} (h0 : 0 ≤ n) (h1 : n ≤ 1000000000) (h2 : 1 ≤ d) (h3 : d ≤ 1000000000) : okF (redN n d) (redD n d) = true := by
  obtain ⟨a, rfl⟩ := Int.eq_ofNat_of_zero_le h0
  obtain ⟨b, rfl⟩ := Int.eq_ofNat_of_zero_le (show 0 ≤ d by omega)
  have hg : Int.gcd (a : Int) (b : Int) = Nat.gcd a b := by simp [Int.gcd]
  have hgp : 0 < Nat.gcd a b := Nat.gcd_pos_of_pos_right a (by omega)
  have e1 : redN (a : Int) (b : Int) = ((a / Nat.gcd a b : Nat) : Int) := by
    unfold redN; rw [hg, Int.tdiv_eq_ediv_of_nonneg (by omega)]; simp
  have e2 : redD (a : Int) (b : Int) = ((b / Nat.gcd a b : Nat) : Int) := by
    unfold redD; rw [hg]; simp
  have h5 : a / Nat.gcd a b ≤ a := Nat.div_le_self _ _
  have h6 : b / Nat.gcd a b ≤ b := Nat.div_le_self _ _
  have h7 : 1 ≤ b / Nat.gcd a b := (Nat.le_div_iff_mul_le hgp).2 (by rw [Nat.one_mul]; exact Nat.gcd_le_right a (by omega))
  have h8 : Nat.gcd (a / Nat.gcd a b) (b / Nat.gcd a b) = 1 := Nat.coprime_div_gcd_div_gcd hgp
  rw [e1, e2]
  obtain ⟨A, hA⟩ : ∃ A, a / Nat.gcd a b = A := ⟨_, rfl⟩
  obtain ⟨B, hB⟩ : ∃ B, b / Nat.gcd a b = B := ⟨_, rfl⟩
  rw [hA] at h5 h8 ⊢
  rw [hB] at h6 h7 h8 ⊢
  unfold okF
  simp only [Bool.and_eq_true, inB_true, decide_eq_true_eq]
  refine ⟨⟨⟨by omega, by omega⟩, ⟨by omega, by omega⟩⟩, ?_⟩
  simp [Int.gcd, h8]

def BndP (M : Int) (ts : List Int) : Prop := ∀ k (h : k < ts.length), 0 ≤ ts[k] ∧ ts[k] ≤ M

set_option maxHeartbeats 1000000 in
theorem impl_total (u : Value) (ts : List Int) (w : World) (hu : RI w u ts) (hxl : ts.length ≤ 1048576) (hb : BndP 1000000 ts) (r : Int) (hr : ts.sum = r) :
    Calls Try.prog 89 #[u] w fun e w' => e = .returned (.int .i64 r) ∧ Ext w w' := by
  obtain ⟨up, uc, rfl, -, hq⟩ := hu.form
  have HQ := Lib.hid hq
  have HB := Lib.hid (And.intro hb hr)
  clear hu hq hb hr
  go_enter Try.func89, Try.ntmps89
  go_wp2_with fail
  go_loopw [3, 8] (fun s i wr => ∃ k : Nat, k ≤ ts.length ∧ i = .int .i64 k ∧ s = .int .i64 (ts.take k).sum ∧ Ext w wr) (fun _ i _ => ts.length - (intOf i).toNat)
  case atStart => exact ⟨0, Nat.zero_le _, rfl, by simp, Ext.refl _⟩
  case round =>
    obtain ⟨k, hk, rfl, rfl, hx⟩ := hrel
    obtain ⟨g0, rfl⟩ := hx.grow; clear hx
    have hsm := sum_small (M := 1000000) (by omega) k hk (fun j h _ => HB.out.1 j h)
    by_cases hlt : k < ts.length
    · obtain ⟨b0, off, hp, ib, hc⟩ := HQ.out (by omega)
      subst hp
      have d := hc k hlt
      have hst := sum_take1 ts k hlt
      have hy0 := HB.out.1 k hlt
      obtain ⟨y, hy⟩ : ∃ y, ts[k] = y := ⟨_, rfl⟩
      rw [hy] at d hst hy0
      obtain ⟨s0, hs0⟩ : ∃ s0, (ts.take k).sum = s0 := ⟨_, rfl⟩
      rw [hs0] at hst hsm ⊢
      have HY := Lib.hid hst
      have z1 : IntKind.i64.wrap (s0 + y) = s0 + y := IntWalk.i64_in _ (by omega)
      clear hc hy hst hs0
      go_wp2_with fail
      go_roundw
      case rel => exact ⟨k + 1, by omega, by go_num, by rw [HY.out], ExtC.ext⟩
      case measure => simp [intOf]; omega
    · have hkn : k = ts.length := by omega
      subst hkn
      rw [List.take_length, HB.out.2]
      go_wp2_with fail
      go_ret
      exact ⟨rfl, ExtC.ext⟩

set_option maxHeartbeats 400000 in
theorem impl_Bound1 (n : Int) (q : Bool) (hq : inB n 0 1000000 = q) (w : World) : Calls Try.prog 88 #[.int .i64 n] w fun e w' => e = .returned (.bool (!q)) ∧ Ext w w' := by
  go_enter Try.func88, Try.ntmps88
  go_wp2_with (first | (go_at_call 57; (with_reducible refine (impl_within _ _ _ q (by assumption) _).mono ?_); rintro e w' ⟨rfl, hx⟩; obtain ⟨g, rfl⟩ := hx.grow; clear hx))
  go_ret
  exact ⟨rfl, ExtC.ext⟩
set_option maxHeartbeats 1000000 in
theorem find_price (p : Option Addr) (xs : List Int) (c : Nat) (w : World) (h : RI w (.slice p xs.length c) xs) (hn : xs.length ≤ 1048576) :
    Calls Try.prog 114 #[.slice p xs.length c, .func (.func 88) #[] #[]] w fun e w' => ∃ r : Int, e = .returned (.int .i64 r) ∧ -1 ≤ r ∧ r ≤ 1048576 ∧ (r < 0 ↔ BndP 1000000 xs) ∧ Ext w w' := by
  obtain ⟨p', c', hpe, -, hq⟩ := h.form
  simp only [Value.slice.injEq, true_and] at hpe
  obtain ⟨rfl, rfl⟩ := hpe
  have HQ := Lib.hid hq
  clear hq h
  go_enter Try.func114, Try.ntmps114
  go_wp2_with fail
  go_loopw [8] (fun i wr => ∃ k : Nat, k ≤ xs.length ∧ i = .int .i64 k ∧ Ext w wr ∧ Hid (∀ j (hj : j < xs.length), j < k → 0 ≤ xs[j] ∧ xs[j] ≤ 1000000)) (fun i _ => xs.length - (intOf i).toNat)
  case atStart => exact ⟨0, Nat.zero_le _, rfl, Ext.refl _, Lib.hid fun j _ hj => absurd hj (by omega)⟩
  case round =>
    obtain ⟨k, hk, rfl, hx, HNO⟩ := hrel
    obtain ⟨g0, rfl⟩ := hx.grow; clear hx
    by_cases hlt : k < xs.length
    · obtain ⟨b', off', hpp, ib', hr⟩ := HQ.out (by omega)
      subst hpp
      have d1 := hr k hlt
      obtain ⟨n, hn1⟩ : ∃ n, xs[k] = n := ⟨_, rfl⟩
      rw [hn1] at d1
      cases q : inB n 0 1000000
      · have HQ2 := Lib.hid (show ¬ (0 ≤ xs[k] ∧ xs[k] ≤ 1000000) by rw [hn1]; exact inB_false.1 q)
        have HF := fun z => impl_Bound1 n false q z
        clear hr hn1 q
        go_wp2_with (first | (go_at_call 88; (with_reducible refine (HF _).mono ?_); rintro e w' ⟨rfl, hx⟩; obtain ⟨g, rfl⟩ := hx.grow; clear hx))
        go_ret
        exact ⟨(k : Int), rfl, by omega, by omega, ⟨fun h => absurd h (by omega), fun h => absurd (h k hlt) HQ2.out⟩, ExtC.ext⟩
      · have HQ2 := Lib.hid (show 0 ≤ xs[k] ∧ xs[k] ≤ 1000000 by rw [hn1]; exact inB_true.1 q)
        have HF := fun z => impl_Bound1 n true q z
        clear hr hn1 q
        go_wp2_with (first | (go_at_call 88; (with_reducible refine (HF _).mono ?_); rintro e w' ⟨rfl, hx⟩; obtain ⟨g, rfl⟩ := hx.grow; clear hx))
        go_roundw
        case rel =>
          refine ⟨k + 1, by omega, by go_num, ExtC.ext, Lib.hid fun j hj hjk => ?_⟩
          by_cases e : j = k
          · subst e; exact HQ2.out
          · exact HNO.out j hj (by omega)
        case measure => simp [intOf]; omega
    · have e : k = xs.length := by omega
      go_wp2
      go_ret
      exact ⟨-1, rfl, by omega, by omega, ⟨fun _ j hj => HNO.out j hj (by omega), fun _ => by omega⟩, ExtC.ext⟩
set_option maxHeartbeats 1000000 in
theorem any_price (p : Option Addr) (xs : List Int) (c : Nat) (w : World) (h : RI w (.slice p xs.length c) xs) (hn : xs.length ≤ 1048576) (q : Bool) (hq : q = true ↔ ¬ BndP 1000000 xs) :
    Calls Try.prog 87 #[.slice p xs.length c, .func (.func 88) #[] #[]] w fun e w' => e = .returned (.bool q) ∧ Ext w w' := by
  have H1 := find_price p xs c w h hn
  clear h
  go_enter Try.func87, Try.ntmps87
  go_wp2_with fail
  refine Calls.mono H1 ?_
  rintro e w' ⟨r, rfl, r0, r1, hrr, hx⟩; obtain ⟨g2, rfl⟩ := hx.grow; clear hx H1
  have HH := Lib.hid (And.intro hq hrr); clear hq hrr
  by_cases h0 : 0 ≤ r
  · have hd : decide (0 ≤ r) = true := by simp [h0]
    have : q = true := HH.out.1.2 fun h => by have := HH.out.2.2 h; omega
    subst this
    go_wp2
    go_ret
    exact ⟨rfl, ExtC.ext⟩
  · have hd : decide (0 ≤ r) = false := by simpa using h0
    have : q = false := by
      cases q
      · rfl
      · exact absurd (HH.out.2.1 (by omega)) (HH.out.1.1 rfl)
    subst this
    go_wp2
    go_ret
    exact ⟨rfl, ExtC.ext⟩
end Go.Proofs.Ytoedphgoaifojaa
