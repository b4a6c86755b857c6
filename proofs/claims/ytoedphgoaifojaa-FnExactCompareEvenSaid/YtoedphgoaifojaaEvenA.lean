/- Lists of at most seven valid fractions: both sides. -/
import Derived.Test.YtoedphgoaifojaaEven
import Derived.Test.YtoedphgoaifojaaFracApp
namespace Go.Proofs.Ytoedphgoaifojaa
open Go.RowKit

set_option maxHeartbeats 400000 in
theorem impl_are1 (n d : Int) (q : Bool) (hq : okF n d = q) (w : World) : Calls Try.prog 99 #[.agg #[.int .i64 n, .int .i64 d]] w fun e w' => e = .returned (.bool (!q)) ∧ Ext w w' := by
  go_enter Try.func99, Try.ntmps99
  go_wp2_with (first | (go_at_call 100; (with_reducible refine (impl_ValidFraction n d q hq _).mono ?_); rintro e w' ⟨rfl, hx⟩; obtain ⟨g, rfl⟩ := hx.grow; clear hx))
  go_ret
  exact ⟨rfl, ExtC.ext⟩
theorem find_frac2 (p : Option Addr) (xs : SD) (c : Nat) (w : World) (h : RP w (.slice p xs.length c) xs) (hn : xs.length ≤ 1048576) :
    Calls Try.prog 118 #[.slice p xs.length c, .func (.func 99) #[] #[]] w fun e w' => ∃ r : Int, e = .returned (.int .i64 r) ∧ -1 ≤ r ∧ r ≤ 1048576 ∧ (r < 0 ↔ ∀ k (h : k < xs.length), okF xs[k].1 xs[k].2 = true) ∧ Ext w w' := by
  obtain ⟨p', c', hpe, -, hq⟩ := h.form
  simp only [Value.slice.injEq, true_and] at hpe
  obtain ⟨rfl, rfl⟩ := hpe
  have HQ := Lib.hid hq
  clear hq h
  go_enter Try.func118, Try.ntmps118
  go_wp2_with fail
  go_loopw [8] (fun i wr => ∃ k : Nat, k ≤ xs.length ∧ i = .int .i64 k ∧ Ext w wr ∧ Hid (∀ j (hj : j < xs.length), j < k → okF xs[j].1 xs[j].2 = true)) (fun i _ => xs.length - (intOf i).toNat)
  case atStart => exact ⟨0, Nat.zero_le _, rfl, Ext.refl _, Lib.hid fun j _ hj => absurd hj (by omega)⟩
  case round =>
    obtain ⟨k, hk, rfl, hx, HNO⟩ := hrel
    obtain ⟨g0, rfl⟩ := hx.grow; clear hx
    by_cases hlt : k < xs.length
    · obtain ⟨b', off', hpp, ib', hr⟩ := HQ.out (by omega)
      subst hpp
      obtain ⟨d1, d2⟩ := hr k hlt
      obtain ⟨n, hn1⟩ : ∃ n, xs[k].1 = n := ⟨_, rfl⟩
      obtain ⟨d, hd1⟩ : ∃ n, xs[k].2 = n := ⟨_, rfl⟩
      rw [hn1] at d1
      rw [hd1] at d2
      cases q : okF n d
      · have HQ2 := Lib.hid (show okF xs[k].1 xs[k].2 = false by rw [hn1, hd1]; exact q)
        have HF := fun z => impl_are1 n d false q z
        clear hr hn1 hd1 q
        go_wp2_with (first | (go_at_call 99; (with_reducible refine (HF _).mono ?_); rintro e w' ⟨rfl, hx⟩; obtain ⟨g, rfl⟩ := hx.grow; clear hx))
        go_ret
        exact ⟨(k : Int), rfl, by omega, by omega, ⟨fun h => absurd h (by omega), fun h => by have := h k hlt; rw [HQ2.out] at this; cases this⟩, ExtC.ext⟩
      · have HQ2 := Lib.hid (show okF xs[k].1 xs[k].2 = true by rw [hn1, hd1]; exact q)
        have HF := fun z => impl_are1 n d true q z
        clear hr hn1 hd1 q
        go_wp2_with (first | (go_at_call 99; (with_reducible refine (HF _).mono ?_); rintro e w' ⟨rfl, hx⟩; obtain ⟨g, rfl⟩ := hx.grow; clear hx))
        go_roundw
        case rel =>
          refine ⟨k + 1, by omega, by go_num, ExtC.ext, Lib.hid fun j hj hjk => ?_⟩
          by_cases e : j = k
          · subst e; exact HQ2.out
          · exact HNO.out j hj (by omega)
        case measure => simp [intOf]; omega
    · have e : k = xs.length := by omega
      go_wp2
      go_ret
      exact ⟨-1, rfl, by omega, by omega, ⟨fun _ j hj => HNO.out j hj (by omega), fun _ => by omega⟩, ExtC.ext⟩
theorem any_frac2 (p : Option Addr) (xs : SD) (c : Nat) (w : World) (h : RP w (.slice p xs.length c) xs) (hn : xs.length ≤ 1048576) (q : Bool) (hq : q = true ↔ ¬ ∀ k (h : k < xs.length), okF xs[k].1 xs[k].2 = true) :
    Calls Try.prog 98 #[.slice p xs.length c, .func (.func 99) #[] #[]] w fun e w' => e = .returned (.bool q) ∧ Ext w w' := by
  have H1 := find_frac2 p xs c w h hn
  clear h
  go_enter Try.func98, Try.ntmps98
  go_wp2_with fail
  refine Calls.mono H1 ?_
  rintro e w' ⟨r, rfl, r0, r1, hrr, hx⟩; obtain ⟨g2, rfl⟩ := hx.grow; clear hx H1
  have HH := Lib.hid (And.intro hq hrr); clear hq hrr
  by_cases h0 : 0 ≤ r
  · have hd : decide (0 ≤ r) = true := by simp [h0]
    have : q = true := HH.out.1.2 fun h => by have := HH.out.2.2 h; omega
    subst this
    go_wp2
    go_ret
    exact ⟨rfl, ExtC.ext⟩
  · have hd : decide (0 ≤ r) = false := by simpa using h0
    have : q = false := by
      cases q
      · rfl
      · exact absurd (HH.out.2.1 (by omega)) (HH.out.1.1 rfl)
    subst this
    go_wp2
    go_ret
    exact ⟨rfl, ExtC.ext⟩


theorem OkFs_iff {xs : SD} : OkFs xs ↔ ∀ k (h : k < xs.length), okF xs[k].1 xs[k].2 = true :=
  ⟨fun h k hk => h _ (List.getElem_mem hk), fun h f hf => by obtain ⟨k, hk, rfl⟩ := List.getElem_of_mem hf; exact h k hk⟩

set_option maxHeartbeats 1000000 in
theorem impl_areFractions (v : Value) (xs : SD) (w : World) (h : RP w v xs) (hn : xs.length ≤ 1048576) (b : Bool) (hb : b = true ↔ FsE xs) :
    Calls Try.prog 67 #[v, .int .i64 7] w fun e w' => e = .returned (.bool b) ∧ Ext w w' := by
  obtain ⟨p, c, rfl, -, -⟩ := h.form
  obtain ⟨q, hq⟩ : ∃ q : Bool, q = true ↔ ¬ ∀ k (h : k < xs.length), okF xs[k].1 xs[k].2 = true := by classical exact ⟨decide _, decide_eq_true_iff⟩
  have HA := fun x (hx : Ext w x) => any_frac2 p xs c x (h.ext hx) hn q hq
  by_cases hl : xs.length ≤ 7
  · have e1 : decide ((xs.length : Int) ≤ 7) = true := by simp; omega
    have hbq : b = !q := by
      rw [Bool.eq_iff_iff, hb]
      unfold FsE
      rw [OkFs_iff]
      cases q
      · simp only [Bool.not_false, iff_true]
        exact ⟨hl, Classical.byContradiction fun h => by have := hq.2 h; cases this⟩
      · simp only [Bool.not_true, Bool.false_eq_true, iff_false]
        exact fun h => (hq.1 rfl) h.2
    subst hbq
    clear h hb hq
    go_enter Try.func67, Try.ntmps67
    go_wp2_with (first | (go_at_call 98; (with_reducible refine (HA _ ExtC.ext).mono ?_); rintro e w' ⟨rfl, hx⟩; obtain ⟨g, rfl⟩ := hx.grow; clear hx))
    go_ret
    exact ⟨rfl, ExtC.ext⟩
  · have e1 : decide ((xs.length : Int) ≤ 7) = false := by simp; omega
    have hbq : b = false := by
      cases b
      · rfl
      · exact absurd (hb.1 rfl).1 hl
    subst hbq
    clear h hb hq hl
    go_enter Try.func67, Try.ntmps67
    go_wp2_with fail
    go_ret
    exact ⟨rfl, ExtC.ext⟩

set_option maxHeartbeats 1000000 in
theorem spec_l04Listed (v : Value) (xs : SD) (w : World) (h : RP w v xs) (hn : xs.length ≤ 1048576) (b : Bool) (hb : b = true ↔ FsE xs) :
    Calls Try.prog 64 #[v] w fun e w' => e = .returned (.bool b) ∧ Ext w w' := by
  obtain ⟨p, c, rfl, -, hq⟩ := h.form
  have HQ := Lib.hid hq
  have HB := Lib.hid hb
  clear hq h hb
  go_enter Try.func64, Try.ntmps64
  go_wp2_with fail
  go_loopw [3] (fun i wr => ∃ k : Nat, k ≤ xs.length ∧ i = .int .i64 k ∧ Ext w wr ∧ Hid (∀ j (hj : j < xs.length), j < k → okF xs[j].1 xs[j].2 = true)) (fun i _ => xs.length - (intOf i).toNat)
  case atStart => exact ⟨0, Nat.zero_le _, rfl, Ext.refl _, Lib.hid fun j _ hj => absurd hj (by omega)⟩
  case round =>
    obtain ⟨k, hk, rfl, hx, HNO⟩ := hrel
    obtain ⟨g0, rfl⟩ := hx.grow; clear hx
    by_cases hlt : k < xs.length
    · obtain ⟨b', off', hpp, ib', hr⟩ := HQ.out (by omega)
      subst hpp
      obtain ⟨d1, d2⟩ := hr k hlt
      obtain ⟨n, hn1⟩ : ∃ n, xs[k].1 = n := ⟨_, rfl⟩
      obtain ⟨d, hd1⟩ : ∃ n, xs[k].2 = n := ⟨_, rfl⟩
      rw [hn1] at d1
      rw [hd1] at d2
      cases q : okF n d
      · have HQ2 := Lib.hid (show okF xs[k].1 xs[k].2 = false by rw [hn1, hd1]; exact q)
        have HF := fun z => spec_l01Ok n d false q z
        obtain rfl : b = false := by
          cases b
          · rfl
          · have h9 := HB.out.1 rfl
            have := OkFs_iff.1 h9.2 k hlt
            rw [HQ2.out] at this; cases this
        clear hr hn1 hd1 q
        go_wp2_with (first | (go_at_call 95; (with_reducible refine (HF _).mono ?_); rintro e w' ⟨rfl, hx⟩; obtain ⟨g, rfl⟩ := hx.grow; clear hx))
        go_ret
        exact ⟨rfl, ExtC.ext⟩
      · have HQ2 := Lib.hid (show okF xs[k].1 xs[k].2 = true by rw [hn1, hd1]; exact q)
        have HF := fun z => spec_l01Ok n d true q z
        clear hr hn1 hd1 q
        go_wp2_with (first | (go_at_call 95; (with_reducible refine (HF _).mono ?_); rintro e w' ⟨rfl, hx⟩; obtain ⟨g, rfl⟩ := hx.grow; clear hx))
        go_roundw
        case rel =>
          refine ⟨k + 1, by omega, by go_num, ExtC.ext, Lib.hid fun j hj hjk => ?_⟩
          by_cases e : j = k
          · subst e; exact HQ2.out
          · exact HNO.out j hj (by omega)
        case measure => simp [intOf]; omega
    · have hkn : k = xs.length := by omega
      have hbe : b = decide ((xs.length : Int) ≤ 7) := by
        rw [Bool.eq_iff_iff, HB.out, decide_eq_true_eq]
        unfold FsE
        rw [OkFs_iff]
        exact ⟨fun h => by have := h.1; omega, fun h => ⟨by omega, fun j hj => HNO.out j hj (by omega)⟩⟩
      subst hbe
      go_wp2
      go_ret
      exact ⟨rfl, ExtC.ext⟩
end Go.Proofs.Ytoedphgoaifojaa
