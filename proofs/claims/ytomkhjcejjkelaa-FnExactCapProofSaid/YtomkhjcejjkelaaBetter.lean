/- Sums and the order of lists, on the reference's side. -/
import Derived.Test.YtomkhjcejjkelaaCompare
import Derived.Test.YtomkhjcejjkelaaRanks2
namespace Go.Proofs.Ytomkhjcejjkelaa
open Go.RowKit

/-- A sum as the machine's words keep it. -/
def wsum (xs : List Int) : Int := xs.foldl (fun a r => wrap64 (a + r)) 0
theorem wsum_step (xs : List Int) (k : Nat) (h : k < xs.length) : wsum (xs.take (k + 1)) = wrap64 (wsum (xs.take k) + xs[k]) := by
  unfold wsum; rw [List.take_succ_eq_append_getElem h, List.foldl_append]; rfl


set_option maxHeartbeats 1000000 in
theorem spec_l02Less (v u : Value) (xs ys : List Int) (w : World) (h : IS w v xs) (h' : IS w u ys) (hn : xs.length ≤ 1152921504606846976) (_ : ys.length ≤ 1152921504606846976) :
    Calls Try.prog 31 #[v, u] w fun e w' => e = .returned (.int .i64 (cmpL xs ys)) ∧ Ext w w' := by
  obtain ⟨b, off, cap, rfl, hc, hb, hx⟩ := h
  obtain ⟨b', off', cap', rfl, hc', hb', hx'⟩ := h'
  have HX := Lib.hid hx
  have HY := Lib.hid hx'
  clear hx hx'
  go_enter Try.func31, Try.ntmps31
  go_wp2
  go_loopw [5] (fun i wr => ∃ k : Nat, k ≤ xs.length ∧ k ≤ ys.length ∧ i = .int .i64 k ∧ Hid (cmpL xs ys = cmpL (xs.drop k) (ys.drop k)) ∧ Ext w wr) (fun i _ => xs.length - (intOf i).toNat)
  case atStart => exact ⟨0, Nat.zero_le _, Nat.zero_le _, rfl, Lib.hid rfl, ExtC.ext⟩
  case round =>
    obtain ⟨k, hk, hk', rfl, hq, hx⟩ := hrel
    obtain ⟨g, rfl⟩ := hx.grow; clear hx
    by_cases hlt : k < xs.length
    · have d := HX.out k hlt
      by_cases hlt' : k < ys.length
      · have d' := HY.out k hlt'
        have HS := Lib.hid (hq.out.trans (cmpL_step xs ys k hlt hlt'))
        clear hq
        by_cases h1 : xs[k] < ys[k]
        · have d1 : decide (xs[k] < ys[k]) = true := by simp [h1]
          have HR := Lib.hid (HS.out.trans (if_pos h1)); clear HS
          go_wp2
          refine wp_region_grow (by kernel_rfl) (by kernel_rfl) ?_
          repeat (go_big_quiet_step (fail))
          refine wpQuiet_nil ?_
          intro _ hw'
          obtain ⟨g, hw''⟩ := hw'
          subst hw''
          go_wp2
          go_ret
          exact ⟨ret_int HR.out.symm, ExtC.ext⟩
        · have d1 : decide (xs[k] < ys[k]) = false := by simp; omega
          have HS2 := Lib.hid (HS.out.trans (if_neg h1)); clear HS
          by_cases h2 : ys[k] < xs[k]
          · have d2 : decide (ys[k] < xs[k]) = true := by simp [h2]
            have HR := Lib.hid (HS2.out.trans (if_pos h2)); clear HS2
            go_wp2
            refine wp_region_grow (by kernel_rfl) (by kernel_rfl) ?_
            repeat (go_big_quiet_step (fail))
            refine wpQuiet_nil ?_
            intro _ hw'
            obtain ⟨g, hw''⟩ := hw'
            subst hw''
            go_wp2
            refine wp_region_grow (by kernel_rfl) (by kernel_rfl) ?_
            repeat (go_big_quiet_step (fail))
            refine wpQuiet_nil ?_
            intro _ hw'
            obtain ⟨g, hw''⟩ := hw'
            subst hw''
            go_wp2
            go_ret
            exact ⟨ret_int HR.out.symm, ExtC.ext⟩
          · have d2 : decide (ys[k] < xs[k]) = false := by simp; omega
            have HR := Lib.hid (HS2.out.trans (if_neg h2)); clear HS2
            go_wp2
            refine wp_region_grow (by kernel_rfl) (by kernel_rfl) ?_
            repeat (go_big_quiet_step (fail))
            refine wpQuiet_nil ?_
            intro _ hw'
            obtain ⟨g, hw''⟩ := hw'
            subst hw''
            go_wp2
            refine wp_region_grow (by kernel_rfl) (by kernel_rfl) ?_
            repeat (go_big_quiet_step (fail))
            refine wpQuiet_nil ?_
            intro _ hw'
            obtain ⟨g, hw''⟩ := hw'
            subst hw''
            go_wp2
            go_roundw
            case rel => exact ⟨k + 1, by omega, by omega, by go_num, HR, ExtC.ext⟩
            case measure => simp [intOf]; omega
      · have HS := Lib.hid (hq.out.trans (cmpL_left xs ys k hlt (by omega)))
        clear hq
        have e : k = ys.length := by omega
        subst e
        have d1 : decide ((xs.length:Int) < (ys.length:Int)) = false := by simp; omega
        have d2 : decide ((ys.length:Int) < (xs.length:Int)) = true := by simp; omega
        go_wp2
        go_ret
        exact ⟨ret_int HS.out.symm, ExtC.ext⟩
    · have e : k = xs.length := by omega
      by_cases hl : xs.length < ys.length
      · have HS := Lib.hid (hq.out.trans (cmpL_right xs ys k (by omega) (by omega)))
        clear hq
        subst e
        have dl : decide ((xs.length:Int) < (ys.length:Int)) = true := by simp; omega
        go_wp2
        go_ret
        exact ⟨ret_int HS.out.symm, ExtC.ext⟩
      · have HS := Lib.hid (hq.out.trans (cmpL_both xs ys k (by omega) (by omega)))
        clear hq
        subst e
        have e2 : ys.length = xs.length := by omega
        have dl : decide ((xs.length:Int) < (ys.length:Int)) = false := by simp; omega
        have d2 : decide ((ys.length:Int) < (xs.length:Int)) = false := by simp; omega
        go_wp2
        go_ret
        exact ⟨ret_int HS.out.symm, ExtC.ext⟩
end Go.Proofs.Ytomkhjcejjkelaa
