/- Rising lists within bounds: isSet, l00Rises. -/
import Derived.Test.YthcomgnokkndgaaDoorSlice
import Derived.Test.YthcomgnokkndgaaDoorBasic
namespace Go.Proofs.YthcomgnokkndgaaDoor
open Go.RowKit

def SetAt (xs : List Int) (lo hi : Int) (k : Nat) (h : k < xs.length) : Prop := (lo ≤ xs[k] ∧ xs[k] ≤ hi) ∧ (0 < k → ¬ xs[k] ≤ xs[k - 1])
def SetP (xs : List Int) (lo hi : Int) : Prop := ∀ k (h : k < xs.length), SetAt xs lo hi k h

set_option maxHeartbeats 2000000 in
theorem impl_isSetW (v : Value) (xs : List Int) (n m : Int) (w : World) (h : RI w v xs) (hn : xs.length ≤ 1152921504606846976) (q9 : IntKind.i64.wrap (n - 1) = m) :
    Calls Tryd.prog 73 #[v, .int .i64 n] w fun e w' => RetB (SetP xs 0 m) e ∧ Ext w w' := by
  obtain ⟨p, c, rfl, -, hq⟩ := h.form
  have HQ := Lib.hid hq
  clear hq h
  go_enter Tryd.func73, Tryd.ntmps73
  go_wp2_with fail
  go_loopw [9] (fun i wr => ∃ k : Nat, k ≤ xs.length ∧ i = .int .i64 k ∧ Ext w wr ∧ Hid (∀ j (hj : j < xs.length), j < k → SetAt xs 0 m j hj)) (fun i _ => xs.length - (intOf i).toNat)
  case atStart => exact ⟨0, Nat.zero_le _, rfl, Ext.refl _, Lib.hid fun j _ hj => absurd hj (by omega)⟩
  case round =>
    obtain ⟨k, hk, rfl, hx, HI⟩ := hrel
    obtain ⟨g0, rfl⟩ := hx.grow; clear hx
    by_cases hlt : k < xs.length
    · obtain ⟨b, off, hp, ib, hc⟩ := HQ.out (by omega)
      subst hp
      have d := hc k hlt
      have HC := Lib.hid hc; clear hc
      obtain ⟨y, hy⟩ : ∃ y, xs[k] = y := ⟨_, rfl⟩
      rw [hy] at d
      have HY := Lib.hid hy; clear hy
      cases q1 : inB y 0 m
      · have Q := Lib.hid q1
        go_wp2_with (first | (go_at_call 50; (with_reducible refine (impl_within _ _ _ _ (by assumption) _).mono ?_); rintro e w' ⟨rfl, hx⟩; obtain ⟨g, rfl⟩ := hx.grow; clear hx))
        go_ret
        refine ⟨RetB.no fun hok => ?_, ExtC.ext⟩
        have h1 := (hok k hlt).1
        rw [HY.out] at h1
        exact (inB_false.1 Q.out) h1
      · have Q1 := Lib.hid q1
        by_cases j0 : 0 < k
        · have hkm : k - 1 < xs.length := by omega
          have d2 := HC.out (k - 1) hkm
          obtain ⟨z, hz⟩ : ∃ z, xs[k - 1] = z := ⟨_, rfl⟩
          rw [hz] at d2
          have HZ := Lib.hid hz; clear hz
          have p1 : IntKind.i64.wrap ((k : Int) - 1) = (k : Int) - 1 := IntWalk.i64_in _ (by omega)
          have p2 : (1 : Int) ≤ k := by omega
          have p3 : ((k : Int) - 1).toNat = k - 1 := by omega
          have p4 : decide (0 < k) = true := by simp [j0]
          by_cases q3 : y ≤ z
          · have Q3 := Lib.hid q3
            go_wp2_with (first | (go_at_call 50; (with_reducible refine (impl_within _ _ _ _ (by assumption) _).mono ?_); rintro e w' ⟨rfl, hx⟩; obtain ⟨g, rfl⟩ := hx.grow; clear hx))
            go_ret
            refine ⟨RetB.no fun hok => ?_, ExtC.ext⟩
            have h1 := (hok k hlt).2 j0
            rw [HY.out, HZ.out] at h1
            exact h1 Q3.out
          · have Q3 := Lib.hid q3
            have q3d : decide (y ≤ z) = false := by simpa using q3
            go_wp2_with (first | (go_at_call 50; (with_reducible refine (impl_within _ _ _ _ (by assumption) _).mono ?_); rintro e w' ⟨rfl, hx⟩; obtain ⟨g, rfl⟩ := hx.grow; clear hx))
            go_roundw
            case rel =>
              refine ⟨k + 1, by omega, by go_num, ExtC.ext, Lib.hid fun j hj hjk => ?_⟩
              by_cases e : j = k
              · subst e
                refine ⟨by rw [HY.out]; exact inB_true.1 Q1.out, fun _ => by rw [HY.out, HZ.out]; have := Q3.out; omega⟩
              · exact HI.out j hj (by omega)
            case measure => simp [intOf]; omega
        · obtain rfl : k = 0 := by omega
          rw [Nat.add_zero] at d
          go_wp2_with (first | (go_at_call 50; (with_reducible refine (impl_within _ _ _ _ (by assumption) _).mono ?_); rintro e w' ⟨rfl, hx⟩; obtain ⟨g, rfl⟩ := hx.grow; clear hx))
          go_roundw
          case rel =>
            refine ⟨1, by omega, by go_num, ExtC.ext, Lib.hid fun j hj hjk => ?_⟩
            by_cases e : j = 0
            · subst e
              exact ⟨by rw [HY.out]; exact inB_true.1 Q1.out, fun h => absurd h (by omega)⟩
            · exact HI.out j hj (by omega)
          case measure => simp [intOf]; omega
    · have e : k = xs.length := by omega
      go_wp2
      go_ret
      exact ⟨RetB.yes fun j hj => HI.out j hj (by omega), ExtC.ext⟩
theorem impl_isSet (v : Value) (xs : List Int) (n : Int) (w : World) (h : RI w v xs) (hn : xs.length ≤ 1152921504606846976) (hb : -1152921504606846976 ≤ n ∧ n ≤ 1152921504606846976) :
    Calls Tryd.prog 73 #[v, .int .i64 n] w fun e w' => RetB (SetP xs 0 (n - 1)) e ∧ Ext w w' := impl_isSetW v xs n (n - 1) w h hn (IntWalk.i64_in _ (by omega))

set_option maxHeartbeats 2000000 in
theorem spec_l00Rises (v : Value) (xs : List Int) (lo hi : Int) (w : World) (h : RI w v xs) (hn : xs.length ≤ 1152921504606846976) :
    Calls Tryd.prog 54 #[v, .int .i64 lo, .int .i64 hi] w fun e w' => RetB (SetP xs lo hi) e ∧ Ext w w' := by
  obtain ⟨p, c, rfl, -, hq⟩ := h.form
  have HQ := Lib.hid hq
  clear hq h
  go_enter Tryd.func54, Tryd.ntmps54
  go_wp2_with fail
  go_loopw [7] (fun i wr => ∃ k : Nat, k ≤ xs.length ∧ i = .int .i64 k ∧ Ext w wr ∧ Hid (∀ j (hj : j < xs.length), j < k → SetAt xs lo hi j hj)) (fun i _ => xs.length - (intOf i).toNat)
  case atStart => exact ⟨0, Nat.zero_le _, rfl, Ext.refl _, Lib.hid fun j _ hj => absurd hj (by omega)⟩
  case round =>
    obtain ⟨k, hk, rfl, hx, HI⟩ := hrel
    obtain ⟨g0, rfl⟩ := hx.grow; clear hx
    by_cases hlt : k < xs.length
    · obtain ⟨b, off, hp, ib, hc⟩ := HQ.out (by omega)
      subst hp
      have d := hc k hlt
      have HC := Lib.hid hc; clear hc
      obtain ⟨y, hy⟩ : ∃ y, xs[k] = y := ⟨_, rfl⟩
      rw [hy] at d
      have HY := Lib.hid hy; clear hy
      cases q1 : inB y lo hi
      · have Q := Lib.hid q1
        go_wp2_with fail
        refine wp_region_grow (by kernel_rfl) (by kernel_rfl) ?_
        repeat (go_big_quiet_step ((first | (go_at_call 44; with_reducible exact grow_of (spec_l00In _ _ _ _ (by assumption) _)))))
        refine wpQuiet_nil ?_
        intro _ hw'
        obtain ⟨g, hw''⟩ := hw'
        subst hw''
        go_wp2
        go_ret
        refine ⟨RetB.no fun hok => ?_, ExtC.ext⟩
        have h1 := (hok k hlt).1
        rw [HY.out] at h1
        exact (inB_false.1 Q.out) h1
      · have Q1 := Lib.hid q1
        by_cases j0 : 0 < k
        · have hkm : k - 1 < xs.length := by omega
          have d2 := HC.out (k - 1) hkm
          obtain ⟨z, hz⟩ : ∃ z, xs[k - 1] = z := ⟨_, rfl⟩
          rw [hz] at d2
          have HZ := Lib.hid hz; clear hz
          have p1 : IntKind.i64.wrap ((k : Int) - 1) = (k : Int) - 1 := IntWalk.i64_in _ (by omega)
          have p2 : (1 : Int) ≤ k := by omega
          have p3 : ((k : Int) - 1).toNat = k - 1 := by omega
          have p6 : (k : Int) - 1 < xs.length := by omega
          have p4 : decide (0 < k) = true := by simp [j0]
          by_cases q3 : y ≤ z
          · have Q3 := Lib.hid q3
            go_wp2_with fail
            refine wp_region_grow (by kernel_rfl) (by kernel_rfl) ?_
            repeat (go_big_quiet_step ((first | (go_at_call 44; with_reducible exact grow_of (spec_l00In _ _ _ _ (by assumption) _)))))
            refine wpQuiet_nil ?_
            intro _ hw'
            obtain ⟨g, hw''⟩ := hw'
            subst hw''
            go_wp2
            go_ret
            refine ⟨RetB.no fun hok => ?_, ExtC.ext⟩
            have h1 := (hok k hlt).2 j0
            rw [HY.out, HZ.out] at h1
            exact h1 Q3.out
          · have Q3 := Lib.hid q3
            have q3d : decide (y ≤ z) = false := by simpa using q3
            go_wp2_with fail
            refine wp_region_grow (by kernel_rfl) (by kernel_rfl) ?_
            repeat (go_big_quiet_step ((first | (go_at_call 44; with_reducible exact grow_of (spec_l00In _ _ _ _ (by assumption) _)))))
            refine wpQuiet_nil ?_
            intro _ hw'
            obtain ⟨g, hw''⟩ := hw'
            subst hw''
            go_wp2
            go_roundw
            case rel =>
              refine ⟨k + 1, by omega, by go_num, ExtC.ext, Lib.hid fun j hj hjk => ?_⟩
              by_cases e : j = k
              · subst e
                refine ⟨by rw [HY.out]; exact inB_true.1 Q1.out, fun _ => by rw [HY.out, HZ.out]; have := Q3.out; omega⟩
              · exact HI.out j hj (by omega)
            case measure => simp [intOf]; omega
        · obtain rfl : k = 0 := by omega
          rw [Nat.add_zero] at d
          go_wp2_with fail
          refine wp_region_grow (by kernel_rfl) (by kernel_rfl) ?_
          repeat (go_big_quiet_step ((first | (go_at_call 44; with_reducible exact grow_of (spec_l00In _ _ _ _ (by assumption) _)))))
          refine wpQuiet_nil ?_
          intro _ hw'
          obtain ⟨g, hw''⟩ := hw'
          subst hw''
          go_wp2
          go_roundw
          case rel =>
            refine ⟨1, by omega, by go_num, ExtC.ext, Lib.hid fun j hj hjk => ?_⟩
            by_cases e : j = 0
            · subst e
              exact ⟨by rw [HY.out]; exact inB_true.1 Q1.out, fun h => absurd h (by omega)⟩
            · exact HI.out j hj (by omega)
          case measure => simp [intOf]; omega
    · have e : k = xs.length := by omega
      go_wp2
      go_ret
      exact ⟨RetB.yes fun j hj => HI.out j hj (by omega), ExtC.ext⟩
end Go.Proofs.YthcomgnokkndgaaDoor
