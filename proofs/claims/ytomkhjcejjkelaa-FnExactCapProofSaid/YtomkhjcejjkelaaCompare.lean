/- cmp.Compare and slices.Compare on whole numbers. -/
import Derived.Test.YtomkhjcejjkelaaLib
namespace Go.Proofs.Ytomkhjcejjkelaa
open Go.RowKit

def cmpI1 (x y : Int) : Int := if x < y then -1 else if y < x then 1 else 0
def cmpL : List Int → List Int → Int
  | [], [] => 0
  | [], _ :: _ => -1
  | _ :: _, [] => 1
  | x :: xs, y :: ys => if x < y then -1 else if y < x then 1 else cmpL xs ys
theorem cmpL_step (xs ys : List Int) (k : Nat) (h : k < xs.length) (h' : k < ys.length) : cmpL (xs.drop k) (ys.drop k) = if xs[k] < ys[k] then -1 else if ys[k] < xs[k] then 1 else cmpL (xs.drop (k + 1)) (ys.drop (k + 1)) := by
  rw [List.drop_eq_getElem_cons h, List.drop_eq_getElem_cons h', cmpL]
theorem cmpL_left (xs ys : List Int) (k : Nat) (h : k < xs.length) (h' : ys.length ≤ k) : cmpL (xs.drop k) (ys.drop k) = 1 := by
  rw [List.drop_eq_getElem_cons h, List.drop_eq_nil_of_le h', cmpL]
theorem cmpL_right (xs ys : List Int) (k : Nat) (h : xs.length ≤ k) (h' : k < ys.length) : cmpL (xs.drop k) (ys.drop k) = -1 := by
  rw [List.drop_eq_getElem_cons h', List.drop_eq_nil_of_le h, cmpL]
theorem cmpL_both (xs ys : List Int) (k : Nat) (h : xs.length ≤ k) (h' : ys.length ≤ k) : cmpL (xs.drop k) (ys.drop k) = 0 := by
  rw [List.drop_eq_nil_of_le h', List.drop_eq_nil_of_le h, cmpL]

theorem cmpI1_eq (x y : Int) (h : ¬ x < y) (h' : ¬ y < x) : cmpI1 x y = 0 := by unfold cmpI1; rw [if_neg h, if_neg h']
theorem cmpI1_step (x y r : Int) : (if x < y then -1 else if y < x then 1 else r) = if cmpI1 x y = 0 then r else cmpI1 x y := by
  unfold cmpI1
  by_cases h : x < y
  · simp [h]
  · by_cases h' : y < x
    · simp [h, h']
    · rw [if_neg h, if_neg h', if_neg h, if_neg h', if_pos rfl]

theorem cmp_isNaN (x : Int) (w : World) : Calls Try.prog 56 #[.int .i64 x] w fun e w' => e = .returned (.bool false) ∧ Ext w w' := by
  go_enter Try.func56, Try.ntmps56
  go_wp2
  go_ret
  exact ⟨ret_bool (by simp), ExtC.ext⟩

set_option maxHeartbeats 400000 in
theorem cmp_Compare (x y : Int) (w : World) : Calls Try.prog 47 #[.int .i64 x, .int .i64 y] w fun e w' => e = .returned (.int .i64 (cmpI1 x y)) ∧ Ext w w' := by
  by_cases h1 : x < y
  · have d1 : decide (x < y) = true := by simp [h1]
    go_enter Try.func47, Try.ntmps47
    go_wp2_with (first | (go_at_call 56; (with_reducible refine (cmp_isNaN _ _).mono ?_); rintro e w' ⟨rfl, hx⟩; obtain ⟨g, rfl⟩ := hx.grow; clear hx))
    go_ret
    exact ⟨ret_int (by simp [cmpI1, h1]), ExtC.ext⟩
  · by_cases h2 : y < x
    · have d1 : decide (x < y) = false := by simp; omega
      have d2 : decide (y < x) = true := by simp [h2]
      go_enter Try.func47, Try.ntmps47
      go_wp2_with (first | (go_at_call 56; (with_reducible refine (cmp_isNaN _ _).mono ?_); rintro e w' ⟨rfl, hx⟩; obtain ⟨g, rfl⟩ := hx.grow; clear hx))
      go_ret
      exact ⟨ret_int (by simp [cmpI1, h1, h2]), ExtC.ext⟩
    · have d1 : decide (x < y) = false := by simp; omega
      have d2 : decide (y < x) = false := by simp; omega
      have HE := Lib.hid (cmpI1_eq x y h1 h2)
      go_enter Try.func47, Try.ntmps47
      go_wp2_with (first | (go_at_call 56; (with_reducible refine (cmp_isNaN _ _).mono ?_); rintro e w' ⟨rfl, hx⟩; obtain ⟨g, rfl⟩ := hx.grow; clear hx))
      go_ret
      exact ⟨ret_int HE.out.symm, ExtC.ext⟩

set_option maxHeartbeats 1000000 in
theorem slices_Compare (v u : Value) (xs ys : List Int) (w : World) (h : IS w v xs) (h' : IS w u ys) (hn : xs.length ≤ 1152921504606846976) (_ : ys.length ≤ 1152921504606846976) :
    Calls Try.prog 36 #[v, u] w fun e w' => e = .returned (.int .i64 (cmpL xs ys)) ∧ Ext w w' := by
  obtain ⟨b, off, cap, rfl, hc, hb, hx⟩ := h
  obtain ⟨b', off', cap', rfl, hc', hb', hx'⟩ := h'
  have HX := Lib.hid hx
  have HY := Lib.hid hx'
  clear hx hx'
  go_enter Try.func36, Try.ntmps36
  go_wp2
  go_loopw [11] (fun i wr => ∃ k : Nat, k ≤ xs.length ∧ k ≤ ys.length ∧ i = .int .i64 k ∧ Hid (cmpL xs ys = cmpL (xs.drop k) (ys.drop k)) ∧ Ext w wr) (fun i _ => xs.length - (intOf i).toNat)
  case atStart => exact ⟨0, Nat.zero_le _, Nat.zero_le _, rfl, Lib.hid rfl, ExtC.ext⟩
  case round =>
    obtain ⟨k, hk, hk', rfl, hq, hx⟩ := hrel
    obtain ⟨g, rfl⟩ := hx.grow; clear hx
    by_cases hlt : k < xs.length
    · have d := HX.out k hlt
      by_cases hlt' : k < ys.length
      · have d' := HY.out k hlt'
        have HS := Lib.hid (hq.out.trans (cmpL_step xs ys k hlt hlt'))
        clear hq
        obtain ⟨c, hcd⟩ : ∃ c, cmpI1 xs[k] ys[k] = c := ⟨_, rfl⟩
        have HC := Lib.hid hcd
        have HP := fun x => (hcd ▸ cmp_Compare xs[k] ys[k] x : Calls Try.prog 47 #[.int .i64 xs[k], .int .i64 ys[k]] x fun e w' => e = .returned (.int .i64 c) ∧ Ext x w')
        clear hcd
        by_cases hz : c = 0
        · subst hz
          go_wp2_with (first | (go_at_call 47; (with_reducible refine (HP _).mono ?_); rintro e w' ⟨rfl, hx⟩; obtain ⟨g, rfl⟩ := hx.grow; clear hx))
          go_roundw
          case rel =>
            refine ⟨k + 1, by omega, by omega, by go_num, Lib.hid (HS.out.trans ?_), ExtC.ext⟩
            rw [cmpI1_step, if_pos HC.out]
          case measure => simp [intOf]; omega
        · have hq : (c == 0) = false := by simp [hz]
          have hq2 : (c != 0) = true := by simp [hz]
          have HZ := Lib.hid hz; clear hz
          go_wp2_with (first | (go_at_call 47; (with_reducible refine (HP _).mono ?_); rintro e w' ⟨rfl, hx⟩; obtain ⟨g, rfl⟩ := hx.grow; clear hx))
          go_ret
          refine ⟨ret_int (Eq.trans HS.out ?_).symm, ExtC.ext⟩
          rw [cmpI1_step, if_neg (fun e => HZ.out (HC.out ▸ e)), HC.out]
      · have HS := Lib.hid (hq.out.trans (cmpL_left xs ys k hlt (by omega)))
        clear hq
        have e : k = ys.length := by omega
        subst e
        go_wp2
        go_ret
        exact ⟨ret_int HS.out.symm, ExtC.ext⟩
    · have e : k = xs.length := by omega
      by_cases hl : xs.length < ys.length
      · have HS := Lib.hid (hq.out.trans (cmpL_right xs ys k (by omega) (by omega)))
        clear hq
        subst e
        have dl : decide ((xs.length:Int) < (ys.length:Int)) = true := by simp; omega
        go_wp2
        go_ret
        exact ⟨ret_int HS.out.symm, ExtC.ext⟩
      · have HS := Lib.hid (hq.out.trans (cmpL_both xs ys k (by omega) (by omega)))
        clear hq
        subst e
        have dl : decide ((xs.length:Int) < (ys.length:Int)) = false := by simp; omega
        go_wp2
        go_ret
        exact ⟨ret_int HS.out.symm, ExtC.ext⟩
end Go.Proofs.Ytomkhjcejjkelaa
