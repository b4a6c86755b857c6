/- Valid shares: the contracts of ValidShares on both sides. -/
import Derived.Test.YthcomgnokkndgaaDoorRowsEq
import Derived.Test.YthcomgnokkndgaaDoorBasic
namespace Go.Proofs.YthcomgnokkndgaaDoor
open Go.RowKit

/-- The parts of shares, together. -/
def psum (xs : SD) : Int := (xs.map Prod.snd).sum
theorem psum_take (xs : SD) (k : Nat) (h : k < xs.length) : psum (xs.take (k + 1)) = psum (xs.take k) + xs[k].2 := by
  rw [List.take_succ_eq_append_getElem h]; simp only [psum, List.map_append, List.sum_append, List.map_cons, List.map_nil, List.sum_cons, List.sum_nil]; omega
def ShareAt (n i : Int) (xs : SD) (k : Nat) (h : k < xs.length) : Prop :=
  (0 ≤ xs[k].1 ∧ xs[k].1 ≤ n - 1) ∧ xs[k].1 ≠ i ∧ (0 < k → ¬ xs[k].1 ≤ xs[k - 1].1) ∧ (1 ≤ xs[k].2 ∧ xs[k].2 ≤ 12)
def OkP (n i : Int) (xs : SD) : Prop := (∀ k (h : k < xs.length), ShareAt n i xs k h) ∧ psum xs ≤ 12
def OkS (L : List SD) : Prop := (∀ i (h : i < L.length), OkP L.length i L[i]) ∧ 1 ≤ L.length ∧ L.length ≤ 6

set_option maxHeartbeats 4000000 in
theorem impl_ValidShares (v : Value) (L : List SD) (w : World) (h : RowsS shareKind w v L) (hs : ShortRows L) (hsm : ∀ i (h : i < L.length), L[i].length ≤ 1048576) :
    Calls Tryd.prog 51 #[v] w fun e w' => RetB (OkS L) e ∧ Ext w w' := by
  obtain ⟨b, off, cap, rfl, -, hb, hc⟩ := h
  obtain ⟨hn, hm⟩ := hs
  have HC := Lib.hid hc
  have HM := Lib.hid hsm
  clear hc hm hsm
  go_enter Tryd.func51, Tryd.ntmps51
  go_wp2
  go_loopw [10] (fun i wr => ∃ k : Nat, k ≤ L.length ∧ i = .int .i64 k ∧ Hid (∀ j (hj : j < L.length), j < k → OkP L.length j L[j]) ∧ Ext w wr) (fun i _ => L.length - (intOf i).toNat)
  case atStart => exact ⟨0, Nat.zero_le _, rfl, Lib.hid fun j _ hj => by omega, ExtC.ext⟩
  case round =>
    obtain ⟨k, hk, rfl, hrel, hx⟩ := hrel
    obtain ⟨g0, rfl⟩ := hx.grow; clear hx
    by_cases hlt : k < L.length
    · obtain ⟨t, d2, d3⟩ := HC.out k hlt
      have hml := HM.out k hlt
      obtain ⟨p, tc, rfl, htc, d4⟩ := RP.form d3
      have D4 := Lib.hid d4; clear d3 d4
      go_wp2
      go_loopw [5, 17] (fun x q wr => ∃ (j : Nat) (m : Int), j ≤ L[k].length ∧ q = .int .i64 j ∧ x = .int .i64 m ∧ 0 ≤ m ∧ m ≤ 12 * j ∧ Hid (m = psum (L[k].take j)) ∧ Hid (∀ i (hi : i < L[k].length), i < j → ShareAt L.length k L[k] i hi) ∧ ∃ gi : Grow g0.fin, wr = gi.fin) (fun _ q _ => L[k].length - (intOf q).toNat)
      case atStart => exact ⟨0, 0, Nat.zero_le _, rfl, rfl, by omega, by omega, Lib.hid (by simp [psum]), Lib.hid fun m _ hm => by omega, (Ext.refl _).grow⟩
      case round =>
        obtain ⟨j, m, hj, rfl, rfl, hm0, hm1, hs, hrelj, gi, rfl⟩ := hrel
        by_cases hjl : j < L[k].length
        · obtain ⟨b', off', hp, ib', c'⟩ := D4.out (by omega)
          subst hp
          obtain ⟨d5, d6⟩ := c' j hjl
          have CC := Lib.hid c'; clear c'
          cases q1 : inB L[k][j].1 0 ((L.length : Int) - 1)
          · have Q := Lib.hid q1
            go_wp2
            refine wp_region_grow (by kernel_rfl) (by kernel_rfl) ?_
            repeat (go_big_quiet_step ((first | (go_at_call 50; with_reducible exact grow_of (impl_within _ _ _ _ (by assumption) _)))))
            refine wpQuiet_nil ?_
            intro _ hw'
            obtain ⟨g, hw''⟩ := hw'
            subst hw''
            go_wp2
            go_ret
            refine ⟨RetB.no fun hok => ?_, ExtC.ext⟩
            have h1 := ((hok.1 k hlt).1 j hjl).1
            have q := Q.out
            rw [inB_false] at q
            exact q h1
          cases q2 : (L[k][j].1 == (k : Int))
          · by_cases j0 : 0 < j
            · have hjm : j - 1 < L[k].length := by omega
              obtain ⟨d1', d2'⟩ := CC.out (j - 1) hjm
              clear d2'
              by_cases q3 : L[k][j].1 ≤ L[k][j - 1].1
              · have Q := Lib.hid q3
                go_wp2
                refine wp_region_grow (by kernel_rfl) (by kernel_rfl) ?_
                repeat (go_big_quiet_step ((first | (go_at_call 50; with_reducible exact grow_of (impl_within _ _ _ _ (by assumption) _)))))
                refine wpQuiet_nil ?_
                intro _ hw'
                obtain ⟨g, hw''⟩ := hw'
                subst hw''
                go_wp2
                go_ret
                refine ⟨RetB.no fun hok => ?_, ExtC.ext⟩
                have h1 := ((hok.1 k hlt).1 j hjl).2.2.1 j0
                exact h1 Q.out
              · have Q3 := Lib.hid q3
                have q3d : decide (L[k][j].1 ≤ L[k][j - 1].1) = false := by simpa using q3
                clear q3
                cases q4 : inB L[k][j].2 1 12
                · have Q := Lib.hid q4
                  go_wp2
                  refine wp_region_grow (by kernel_rfl) (by kernel_rfl) ?_
                  repeat (go_big_quiet_step ((first | (go_at_call 50; with_reducible exact grow_of (impl_within _ _ _ _ (by assumption) _)))))
                  refine wpQuiet_nil ?_
                  intro _ hw'
                  obtain ⟨g, hw''⟩ := hw'
                  subst hw''
                  go_wp2
                  go_ret
                  refine ⟨RetB.no fun hok => ?_, ExtC.ext⟩
                  have h1 := ((hok.1 k hlt).1 j hjl).2.2.2
                  have q := Q.out
                  rw [inB_false] at q
                  exact q h1
                · obtain ⟨z1, z2⟩ := inB_true.1 q4
                  have Q := Lib.hid (And.intro q1 (And.intro q2 q4))
                  go_wp2
                  refine wp_region_grow (by kernel_rfl) (by kernel_rfl) ?_
                  repeat (go_big_quiet_step ((first | (go_at_call 50; with_reducible exact grow_of (impl_within _ _ _ _ (by assumption) _)))))
                  refine wpQuiet_nil ?_
                  intro _ hw'
                  obtain ⟨g, hw''⟩ := hw'
                  subst hw''
                  go_wp2
                  have hps := Lib.hid (psum_take L[k] j hjl)
                  go_roundw
                  case rel =>
                    have hps := hps.out
                    have hso := hs.out
                    refine ⟨j + 1, m + L[k][j].2, by omega, by go_num, rfl, by omega, by omega, Lib.hid (by omega), Lib.hid fun i hi hij => ?_, Ext.grow ExtC.ext⟩
                    by_cases e : i = j
                    · subst e
                      exact ⟨inB_true.1 Q.out.1, by simpa using Q.out.2.1, fun _ => by have := Q3.out; omega, z1, z2⟩
                    · exact hrelj.out i hi (by omega)
                  case measure => simp [intOf]; omega
            · have J0 := Lib.hid j0
              have jd : decide (0 < j) = false := by simpa using j0
              have je : decide ((0 : Int) < (j : Int)) = false := by simp; omega
              cases q4 : inB L[k][j].2 1 12
              · have Q := Lib.hid q4
                go_wp2
                refine wp_region_grow (by kernel_rfl) (by kernel_rfl) ?_
                repeat (go_big_quiet_step ((first | (go_at_call 50; with_reducible exact grow_of (impl_within _ _ _ _ (by assumption) _)))))
                refine wpQuiet_nil ?_
                intro _ hw'
                obtain ⟨g, hw''⟩ := hw'
                subst hw''
                go_wp2
                go_ret
                refine ⟨RetB.no fun hok => ?_, ExtC.ext⟩
                have h1 := ((hok.1 k hlt).1 j hjl).2.2.2
                have q := Q.out
                rw [inB_false] at q
                exact q h1
              · obtain ⟨z1, z2⟩ := inB_true.1 q4
                have Q := Lib.hid (And.intro q1 (And.intro q2 q4))
                go_wp2
                refine wp_region_grow (by kernel_rfl) (by kernel_rfl) ?_
                repeat (go_big_quiet_step ((first | (go_at_call 50; with_reducible exact grow_of (impl_within _ _ _ _ (by assumption) _)))))
                refine wpQuiet_nil ?_
                intro _ hw'
                obtain ⟨g, hw''⟩ := hw'
                subst hw''
                go_wp2
                have hps := Lib.hid (psum_take L[k] j hjl)
                go_roundw
                case rel =>
                  have hps := hps.out
                  have hso := hs.out
                  refine ⟨j + 1, m + L[k][j].2, by omega, by go_num, rfl, by omega, by omega, Lib.hid (by omega), Lib.hid fun i hi hij => ?_, Ext.grow ExtC.ext⟩
                  by_cases e : i = j
                  · subst e
                    exact ⟨inB_true.1 Q.out.1, by simpa using Q.out.2.1, fun h => absurd h J0.out, z1, z2⟩
                  · exact hrelj.out i hi (by omega)
                case measure => simp [intOf]; omega
          · have Q := Lib.hid q2
            go_wp2
            refine wp_region_grow (by kernel_rfl) (by kernel_rfl) ?_
            repeat (go_big_quiet_step ((first | (go_at_call 50; with_reducible exact grow_of (impl_within _ _ _ _ (by assumption) _)))))
            refine wpQuiet_nil ?_
            intro _ hw'
            obtain ⟨g, hw''⟩ := hw'
            subst hw''
            go_wp2
            go_ret
            refine ⟨RetB.no fun hok => ?_, ExtC.ext⟩
            have h1 := ((hok.1 k hlt).1 j hjl).2.1
            exact h1 (by simpa using Q.out)
        · have hjn : j = L[k].length := by omega
          have hso := hs.out
          rw [List.take_of_length_le (by omega)] at hso
          have HSO := Lib.hid hso; clear hso
          have HJN := Lib.hid hjn; clear hjn
          by_cases h4 : 12 < m
          · go_wp2
            go_ret
            refine ⟨RetB.no fun hok => ?_, ExtC.ext⟩
            have := (hok.1 k hlt).2
            have := HSO.out
            omega
          · have H4 := Lib.hid h4
            go_wp2
            go_roundw
            case rel =>
              refine ⟨k + 1, by omega, by go_num, Lib.hid fun i hi hik => ?_, ExtC.ext⟩
              by_cases e : i = k
              · subst e
                have h1 := HJN.out
                have h2 := HSO.out
                have h3 := H4.out
                exact ⟨fun m' hm' => hrelj.out m' hm' (by omega), by omega⟩
              · exact hrel.out i hi (by omega)
            case measure => simp [intOf]; omega
    · by_cases h1 : 1 ≤ L.length
      · go_wp2
        go_ret
        refine ⟨⟨_, rfl, ⟨fun h => (⟨fun m hm => hrel.out m hm (by omega), h1, ?_⟩ : OkS L), fun h => ?_⟩⟩, ExtC.ext⟩
        · have := of_decide_eq_true h; omega
        · have := h.2.2; exact decide_eq_true (by omega)
      · go_wp2
        go_ret
        exact ⟨RetB.no fun hok => h1 hok.2.1, ExtC.ext⟩

set_option maxHeartbeats 4000000 in
theorem spec_l03Is (v : Value) (L : List SD) (w : World) (h : RowsS shareKind w v L) (hs : ShortRows L) (hsm : ∀ i (h : i < L.length), L[i].length ≤ 1048576) :
    Calls Tryd.prog 22 #[v] w fun e w' => RetB (OkS L) e ∧ Ext w w' := by
  obtain ⟨b, off, cap, rfl, -, hb, hc⟩ := h
  obtain ⟨hn, hm⟩ := hs
  have HC := Lib.hid hc
  have HM := Lib.hid hsm
  clear hc hm hsm
  cases q0 : inB (L.length : Int) 1 6
  · have Q0 := Lib.hid q0
    go_enter Tryd.func22, Tryd.ntmps22
    go_wp2_with (first | (go_at_call 44; (with_reducible refine (spec_l00In _ _ _ _ (by assumption) _).mono ?_); rintro e w' ⟨rfl, hx⟩; obtain ⟨g, rfl⟩ := hx.grow; clear hx))
    go_ret
    refine ⟨RetB.no fun hok => ?_, ExtC.ext⟩
    have q0 := Q0.out
    rw [inB_false] at q0
    have := hok.2
    omega
  have Q0 := Lib.hid q0
  go_enter Tryd.func22, Tryd.ntmps22
  go_wp2_with (first | (go_at_call 44; (with_reducible refine (spec_l00In _ _ _ _ (by assumption) _).mono ?_); rintro e w' ⟨rfl, hx⟩; obtain ⟨g, rfl⟩ := hx.grow; clear hx))
  clear q0
  go_loopw [4] (fun i wr => ∃ k : Nat, k ≤ L.length ∧ i = .int .i64 k ∧ Hid (∀ j (hj : j < L.length), j < k → OkP L.length j L[j]) ∧ Ext w wr) (fun i _ => L.length - (intOf i).toNat)
  case atStart => exact ⟨0, Nat.zero_le _, rfl, Lib.hid fun j _ hj => by omega, ExtC.ext⟩
  case round =>
    obtain ⟨k, hk, rfl, hrel, hx⟩ := hrel
    clear g
    obtain ⟨g0, rfl⟩ := hx.grow; clear hx
    by_cases hlt : k < L.length
    · obtain ⟨t, d2, d3⟩ := HC.out k hlt
      have hml := HM.out k hlt
      obtain ⟨p, tc, rfl, htc, d4⟩ := RP.form d3
      have D4 := Lib.hid d4; clear d3 d4
      go_wp2
      go_loopw [5, 6] (fun x q wr => ∃ (j : Nat) (m : Int), j ≤ L[k].length ∧ q = .int .i64 j ∧ x = .int .i64 m ∧ 0 ≤ m ∧ m ≤ 12 * j ∧ Hid (m = psum (L[k].take j)) ∧ Hid (∀ i (hi : i < L[k].length), i < j → ShareAt L.length k L[k] i hi) ∧ ∃ gi : Grow g0.fin, wr = gi.fin) (fun _ q _ => L[k].length - (intOf q).toNat)
      case atStart => exact ⟨0, 0, Nat.zero_le _, rfl, rfl, by omega, by omega, Lib.hid (by simp [psum]), Lib.hid fun m _ hm => by omega, (Ext.refl _).grow⟩
      case round =>
        obtain ⟨j, m, hj, rfl, rfl, hm0, hm1, hs, hrelj, gi, rfl⟩ := hrel
        by_cases hjl : j < L[k].length
        · obtain ⟨b', off', hp, ib', c'⟩ := D4.out (by omega)
          subst hp
          obtain ⟨d5, d6⟩ := c' j hjl
          have CC := Lib.hid c'; clear c'
          cases q1 : inB L[k][j].1 0 ((L.length : Int) - 1)
          · have Q := Lib.hid q1
            go_wp2
            refine wp_region_grow (by kernel_rfl) (by kernel_rfl) ?_
            repeat (go_big_quiet_step ((first | (go_at_call 44; with_reducible exact grow_of (spec_l00In _ _ _ _ (by assumption) _)))))
            refine wpQuiet_nil ?_
            intro _ hw'
            obtain ⟨g, hw''⟩ := hw'
            subst hw''
            go_wp2
            go_ret
            refine ⟨RetB.no fun hok => ?_, ExtC.ext⟩
            have h1 := ((hok.1 k hlt).1 j hjl).1
            have q := Q.out
            rw [inB_false] at q
            exact q h1
          cases q2 : (L[k][j].1 == (k : Int))
          · by_cases j0 : 0 < j
            · have hjm : j - 1 < L[k].length := by omega
              obtain ⟨d1', d2'⟩ := CC.out (j - 1) hjm
              clear d2'
              by_cases q3 : L[k][j].1 ≤ L[k][j - 1].1
              · have Q := Lib.hid q3
                go_wp2
                refine wp_region_grow (by kernel_rfl) (by kernel_rfl) ?_
                repeat (go_big_quiet_step ((first | (go_at_call 44; with_reducible exact grow_of (spec_l00In _ _ _ _ (by assumption) _)))))
                refine wpQuiet_nil ?_
                intro _ hw'
                obtain ⟨g, hw''⟩ := hw'
                subst hw''
                go_wp2
                go_ret
                refine ⟨RetB.no fun hok => ?_, ExtC.ext⟩
                have h1 := ((hok.1 k hlt).1 j hjl).2.2.1 j0
                exact h1 Q.out
              · have Q3 := Lib.hid q3
                have q3d : decide (L[k][j].1 ≤ L[k][j - 1].1) = false := by simpa using q3
                clear q3
                cases q4 : inB L[k][j].2 1 12
                · have Q := Lib.hid q4
                  go_wp2
                  refine wp_region_grow (by kernel_rfl) (by kernel_rfl) ?_
                  repeat (go_big_quiet_step ((first | (go_at_call 44; with_reducible exact grow_of (spec_l00In _ _ _ _ (by assumption) _)))))
                  refine wpQuiet_nil ?_
                  intro _ hw'
                  obtain ⟨g, hw''⟩ := hw'
                  subst hw''
                  go_wp2
                  go_ret
                  refine ⟨RetB.no fun hok => ?_, ExtC.ext⟩
                  have h1 := ((hok.1 k hlt).1 j hjl).2.2.2
                  have q := Q.out
                  rw [inB_false] at q
                  exact q h1
                · obtain ⟨z1, z2⟩ := inB_true.1 q4
                  have Q := Lib.hid (And.intro q1 (And.intro q2 q4))
                  go_wp2
                  refine wp_region_grow (by kernel_rfl) (by kernel_rfl) ?_
                  repeat (go_big_quiet_step ((first | (go_at_call 44; with_reducible exact grow_of (spec_l00In _ _ _ _ (by assumption) _)))))
                  refine wpQuiet_nil ?_
                  intro _ hw'
                  obtain ⟨g, hw''⟩ := hw'
                  subst hw''
                  go_wp2
                  have hps := Lib.hid (psum_take L[k] j hjl)
                  go_roundw
                  case rel =>
                    have hps := hps.out
                    have hso := hs.out
                    refine ⟨j + 1, m + L[k][j].2, by omega, by go_num, rfl, by omega, by omega, Lib.hid (by omega), Lib.hid fun i hi hij => ?_, Ext.grow ExtC.ext⟩
                    by_cases e : i = j
                    · subst e
                      exact ⟨inB_true.1 Q.out.1, by simpa using Q.out.2.1, fun _ => by have := Q3.out; omega, z1, z2⟩
                    · exact hrelj.out i hi (by omega)
                  case measure => simp [intOf]; omega
            · have J0 := Lib.hid j0
              have jd : decide (0 < j) = false := by simpa using j0
              have je : decide ((0 : Int) < (j : Int)) = false := by simp; omega
              cases q4 : inB L[k][j].2 1 12
              · have Q := Lib.hid q4
                go_wp2
                refine wp_region_grow (by kernel_rfl) (by kernel_rfl) ?_
                repeat (go_big_quiet_step ((first | (go_at_call 44; with_reducible exact grow_of (spec_l00In _ _ _ _ (by assumption) _)))))
                refine wpQuiet_nil ?_
                intro _ hw'
                obtain ⟨g, hw''⟩ := hw'
                subst hw''
                go_wp2
                go_ret
                refine ⟨RetB.no fun hok => ?_, ExtC.ext⟩
                have h1 := ((hok.1 k hlt).1 j hjl).2.2.2
                have q := Q.out
                rw [inB_false] at q
                exact q h1
              · obtain ⟨z1, z2⟩ := inB_true.1 q4
                have Q := Lib.hid (And.intro q1 (And.intro q2 q4))
                go_wp2
                refine wp_region_grow (by kernel_rfl) (by kernel_rfl) ?_
                repeat (go_big_quiet_step ((first | (go_at_call 44; with_reducible exact grow_of (spec_l00In _ _ _ _ (by assumption) _)))))
                refine wpQuiet_nil ?_
                intro _ hw'
                obtain ⟨g, hw''⟩ := hw'
                subst hw''
                go_wp2
                have hps := Lib.hid (psum_take L[k] j hjl)
                go_roundw
                case rel =>
                  have hps := hps.out
                  have hso := hs.out
                  refine ⟨j + 1, m + L[k][j].2, by omega, by go_num, rfl, by omega, by omega, Lib.hid (by omega), Lib.hid fun i hi hij => ?_, Ext.grow ExtC.ext⟩
                  by_cases e : i = j
                  · subst e
                    exact ⟨inB_true.1 Q.out.1, by simpa using Q.out.2.1, fun h => absurd h J0.out, z1, z2⟩
                  · exact hrelj.out i hi (by omega)
                case measure => simp [intOf]; omega
          · have Q := Lib.hid q2
            go_wp2
            refine wp_region_grow (by kernel_rfl) (by kernel_rfl) ?_
            repeat (go_big_quiet_step ((first | (go_at_call 44; with_reducible exact grow_of (spec_l00In _ _ _ _ (by assumption) _)))))
            refine wpQuiet_nil ?_
            intro _ hw'
            obtain ⟨g, hw''⟩ := hw'
            subst hw''
            go_wp2
            go_ret
            refine ⟨RetB.no fun hok => ?_, ExtC.ext⟩
            have h1 := ((hok.1 k hlt).1 j hjl).2.1
            exact h1 (by simpa using Q.out)
        · have hjn : j = L[k].length := by omega
          have hso := hs.out
          rw [List.take_of_length_le (by omega)] at hso
          have HSO := Lib.hid hso; clear hso
          have HJN := Lib.hid hjn; clear hjn
          by_cases h4 : 12 < m
          · go_wp2
            go_ret
            refine ⟨RetB.no fun hok => ?_, ExtC.ext⟩
            have := (hok.1 k hlt).2
            have := HSO.out
            omega
          · have H4 := Lib.hid h4
            go_wp2
            go_roundw
            case rel =>
              refine ⟨k + 1, by omega, by go_num, Lib.hid fun i hi hik => ?_, ExtC.ext⟩
              by_cases e : i = k
              · subst e
                have h1 := HJN.out
                have h2 := HSO.out
                have h3 := H4.out
                exact ⟨fun m' hm' => hrelj.out m' hm' (by omega), by omega⟩
              · exact hrel.out i hi (by omega)
            case measure => simp [intOf]; omega
    · go_wp2
      go_ret
      have q0 := inB_true.1 Q0.out
      exact ⟨RetB.yes (P := OkS L) ⟨fun m hm => hrel.out m hm (by omega), by omega, by omega⟩, ExtC.ext⟩

end Go.Proofs.YthcomgnokkndgaaDoor
