/- The laws' helpers on slices of slices: sizes and comparisons. -/
import Derived.Test.YthcomgnokkndgaaDoorRowsTo
namespace Go.Proofs.YthcomgnokkndgaaDoor
open Go.RowKit

set_option maxHeartbeats 400000 in
theorem laws_eqShare (x y x' y' : Int) (b : Bool) (hb : decide ((x, y) = (x', y')) = b) (w : World) :
    Calls Tryd.prog 53 #[.agg #[.int .i64 x, .int .i64 y], .agg #[.int .i64 x', .int .i64 y']] w fun e w' => e = .returned (.bool b) ∧ Ext w w' := by
  cases h1 : (x != x')
  · have e1 : x = x' := by simpa using h1
    subst e1
    cases h2 : (y != y')
    · have e2 : y = y' := by simpa using h2
      subst e2
      have hbb : b = true := by rw [← hb]; simp
      subst hbb
      clear hb h1 h2
      go_enter Tryd.func53, Tryd.ntmps53
      go_wp2
      go_ret
      exact ⟨rfl, ExtC.ext⟩
    · have hbb : b = false := by rw [← hb]; simpa using h2
      subst hbb
      clear hb h1
      go_enter Tryd.func53, Tryd.ntmps53
      go_wp2
      go_ret
      exact ⟨rfl, ExtC.ext⟩
  · have hbb : b = false := by rw [← hb]; simp; intro e; simp [e] at h1
    subst hbb
    clear hb
    go_enter Tryd.func53, Tryd.ntmps53
    go_wp2
    go_ret
    exact ⟨rfl, ExtC.ext⟩

set_option maxHeartbeats 1000000 in
theorem laws_eqShareS (v u : Value) (xs ys : SD) (b : Bool) (hb : decide (xs = ys) = b) (w : World) (h : RP w v xs) (h' : RP w u ys) (hn : xs.length ≤ 1152921504606846976) (hn' : ys.length ≤ 1152921504606846976) :
    Calls Tryd.prog 28 #[v, u] w fun e w' => e = .returned (.bool b) ∧ Ext w w' := by
  obtain ⟨p, cap, rfl, -, hc⟩ := h.form
  obtain ⟨q, cap', rfl, -, hc'⟩ := h'.form
  clear h h'
  by_cases hl : xs.length = ys.length
  · by_cases h0 : 0 < xs.length
    · obtain ⟨b1, off, rfl, i1, c1⟩ := hc h0
      obtain ⟨b2, off', rfl, i2, c2⟩ := hc' (by omega)
      have HC := Lib.hid (And.intro c1 c2)
      have HL := Lib.hid hl
      rw [← hl]
      clear hc hc' c1 c2 hl
      go_enter Tryd.func28, Tryd.ntmps28
      go_wp2
      go_loopw [5] (fun i wr => ∃ k : Nat, k ≤ xs.length ∧ i = .int .i64 k ∧ Hid (∀ j, j < k → xs[j]? = ys[j]?) ∧ Ext w wr) (fun i _ => xs.length - (intOf i).toNat)
      case atStart => exact ⟨0, Nat.zero_le _, rfl, Lib.hid (fun j hj => by omega), Ext.refl _⟩
      case round =>
        obtain ⟨k, hk, rfl, hrel, hx⟩ := hrel
        obtain ⟨g0, rfl⟩ := hx.grow; clear hx
        by_cases hlt : k < xs.length
        · have hlt' : k < ys.length := by rw [← HL.out]; exact hlt
          obtain ⟨d1, d2⟩ := HC.out.1 k hlt
          obtain ⟨d1', d2'⟩ := HC.out.2 k hlt'
          cases he : decide ((xs[k].1, xs[k].2) = (ys[k].1, ys[k].2))
          · have HE := Lib.hid he; clear he
            go_wp2
            refine wp_region_grow (by kernel_rfl) (by kernel_rfl) ?_
            repeat (go_big_quiet_step ((first | (go_at_call 53; exact grow_of (laws_eqShare _ _ _ _ _ HE.out _)))))
            refine wpQuiet_nil ?_
            intro _ hw'
            obtain ⟨g, hw''⟩ := hw'
            subst hw''
            go_wp2
            go_ret
            refine ⟨ret_bool ?_, ExtC.ext⟩
            rw [← hb]; symm; rw [decide_eq_false_iff_not]; intro e
            have := HE.out
            rw [decide_eq_false_iff_not] at this
            exact this (by subst e; rfl)
          · have HE := Lib.hid he; clear he
            go_wp2
            refine wp_region_grow (by kernel_rfl) (by kernel_rfl) ?_
            repeat (go_big_quiet_step ((first | (go_at_call 53; exact grow_of (laws_eqShare _ _ _ _ _ HE.out _)))))
            refine wpQuiet_nil ?_
            intro _ hw'
            obtain ⟨g, hw''⟩ := hw'
            subst hw''
            go_wp2
            go_roundw
            case rel =>
              refine ⟨k + 1, by omega, by go_num, Lib.hid (fun j hj => ?_), ExtC.ext⟩
              by_cases hjk : j = k
              · subst hjk
                have := HE.out
                rw [decide_eq_true_eq] at this
                rw [List.getElem?_eq_getElem hlt, List.getElem?_eq_getElem hlt']
                exact congrArg some this
              · exact hrel.out j (by omega)
            case measure => simp [intOf]; omega
        · go_wp2
          go_ret
          refine ⟨ret_bool ?_, ExtC.ext⟩
          rw [← hb]; symm; rw [decide_eq_true_eq]
          apply List.ext_getElem?
          intro j
          by_cases hj : j < xs.length
          · exact hrel.out j (by omega)
          · have := HL.out
            rw [List.getElem?_eq_none (by omega), List.getElem?_eq_none (by omega)]
    · have e1 : xs = [] := List.length_eq_zero_iff.1 (by omega)
      have e2 : ys = [] := List.length_eq_zero_iff.1 (by omega)
      subst e1 e2
      clear hc hc'
      go_enter Tryd.func28, Tryd.ntmps28
      go_wp2
      refine wp_loop_rounds 1 ?_; rw [rounds_succ]
      go_wp2
      go_ret
      exact ⟨ret_bool (by rw [← hb]; rfl), Ext.refl _⟩
  · have hb' : ((xs.length : Int) != (ys.length : Int)) = true := by simp; omega
    have hne : b = false := by rw [← hb, decide_eq_false_iff_not]; intro e; exact hl (by rw [e])
    have HL := Lib.hid hl; clear hl hc hc'
    subst hne
    go_enter Tryd.func28, Tryd.ntmps28
    go_wp2
    go_ret
    exact ⟨rfl, Ext.refl _⟩

/-- Bounds on rows. -/
def ShortRows {β : Type} (L : List (List β)) : Prop := L.length ≤ 1152921504606846976 ∧ ∀ i (h : i < L.length), L[i].length ≤ 1152921504606846976
theorem shortRows_of {β : Type} {L : List (List β)} (hl : L.length ≤ 1048576) (hm : rsum L ≤ 1048576) : ShortRows L :=
  ⟨by omega, fun i h => by have := rsum_get L i h; omega⟩

set_option maxHeartbeats 1000000 in
theorem laws_eqShareSS (v u : Value) (L M : List (SD)) (b : Bool) (hb : decide (L = M) = b) (w : World) (h : RowsR shareKind w v L) (h' : RowsR shareKind w u M) (hs : ShortRows L) (hs' : ShortRows M) :
    Calls Tryd.prog 8 #[v, u] w fun e w' => e = .returned (.bool b) ∧ Ext w w' := by
  obtain ⟨p, cap, rfl, -, hc⟩ := h.form
  obtain ⟨q, cap', rfl, -, hc'⟩ := h'.form
  obtain ⟨hn, hm⟩ := hs
  obtain ⟨hn', hm'⟩ := hs'
  clear h h'
  by_cases hl : L.length = M.length
  · by_cases h0 : 0 < L.length
    · obtain ⟨b1, off, rfl, i1, c1⟩ := hc h0
      obtain ⟨b2, off', rfl, i2, c2⟩ := hc' (by omega)
      have HC := Lib.hid (And.intro c1 c2)
      have HM := Lib.hid (And.intro hm hm')
      have HL := Lib.hid hl
      rw [← hl]
      clear hc hc' c1 c2 hm hm' hl
      go_enter Tryd.func8, Tryd.ntmps8
      go_wp2
      go_loopw [5] (fun i wr => ∃ k : Nat, k ≤ L.length ∧ i = .int .i64 k ∧ Hid (∀ j, j < k → L[j]? = M[j]?) ∧ Ext w wr) (fun i _ => L.length - (intOf i).toNat)
      case atStart => exact ⟨0, Nat.zero_le _, rfl, Lib.hid (fun j hj => by omega), Ext.refl _⟩
      case round =>
        obtain ⟨k, hk, rfl, hrel, hx⟩ := hrel
        obtain ⟨g0, rfl⟩ := hx.grow; clear hx
        by_cases hlt : k < L.length
        · have hlt' : k < M.length := by rw [← HL.out]; exact hlt
          obtain ⟨t1, d2, d3⟩ := HC.out.1 k hlt
          obtain ⟨t1', d2', d3'⟩ := HC.out.2 k hlt'
          have D3 := Lib.hid (And.intro d3 d3'); clear d3 d3'
          obtain ⟨tp, tn, tc, rfl⟩ := Kind.r_form shareKind D3.out.1
          obtain ⟨tp', tn', tc', rfl⟩ := Kind.r_form shareKind D3.out.2
          cases he : decide (L[k] = M[k])
          · have HE := Lib.hid he; clear he
            go_wp2
            refine wp_region_grow (by kernel_rfl) (by kernel_rfl) ?_
            repeat (go_big_quiet_step ((first | (go_at_call 28; exact grow_of (laws_eqShareS _ _ L[k] M[k] _ HE.out _ (Kind.r_ext shareKind D3.out.1 ExtC.ext) (Kind.r_ext shareKind D3.out.2 ExtC.ext) (HM.out.1 k hlt) (HM.out.2 k hlt'))))))
            refine wpQuiet_nil ?_
            intro _ hw'
            obtain ⟨g, hw''⟩ := hw'
            subst hw''
            go_wp2
            go_ret
            refine ⟨ret_bool ?_, ExtC.ext⟩
            rw [← hb]; symm; rw [decide_eq_false_iff_not]; intro e
            have := HE.out
            rw [decide_eq_false_iff_not] at this
            exact this (by subst e; rfl)
          · have HE := Lib.hid he; clear he
            go_wp2
            refine wp_region_grow (by kernel_rfl) (by kernel_rfl) ?_
            repeat (go_big_quiet_step ((first | (go_at_call 28; exact grow_of (laws_eqShareS _ _ L[k] M[k] _ HE.out _ (Kind.r_ext shareKind D3.out.1 ExtC.ext) (Kind.r_ext shareKind D3.out.2 ExtC.ext) (HM.out.1 k hlt) (HM.out.2 k hlt'))))))
            refine wpQuiet_nil ?_
            intro _ hw'
            obtain ⟨g, hw''⟩ := hw'
            subst hw''
            go_wp2
            go_roundw
            case rel =>
              refine ⟨k + 1, by omega, by go_num, Lib.hid (fun j hj => ?_), ExtC.ext⟩
              by_cases hjk : j = k
              · subst hjk
                have := HE.out
                rw [decide_eq_true_eq] at this
                rw [List.getElem?_eq_getElem hlt, List.getElem?_eq_getElem hlt', this]
              · exact hrel.out j (by omega)
            case measure => simp [intOf]; omega
        · go_wp2
          go_ret
          refine ⟨ret_bool ?_, ExtC.ext⟩
          rw [← hb]; symm; rw [decide_eq_true_eq]
          apply List.ext_getElem?
          intro j
          by_cases hj : j < L.length
          · exact hrel.out j (by omega)
          · have := HL.out
            rw [List.getElem?_eq_none (by omega), List.getElem?_eq_none (by omega)]
    · have e1 : L = [] := List.length_eq_zero_iff.1 (by omega)
      have e2 : M = [] := List.length_eq_zero_iff.1 (by omega)
      subst e1 e2
      clear hc hc' hm hm'
      go_enter Tryd.func8, Tryd.ntmps8
      go_wp2
      refine wp_loop_rounds 1 ?_; rw [rounds_succ]
      go_wp2
      go_ret
      exact ⟨ret_bool (by rw [← hb]; rfl), Ext.refl _⟩
  · have hb' : ((L.length : Int) != (M.length : Int)) = true := by simp; omega
    have hne : b = false := by rw [← hb, decide_eq_false_iff_not]; intro e; exact hl (by rw [e])
    have HL := Lib.hid hl; clear hl hc hc' hm hm'
    subst hne
    go_enter Tryd.func8, Tryd.ntmps8
    go_wp2
    go_ret
    exact ⟨rfl, Ext.refl _⟩
end Go.Proofs.YthcomgnokkndgaaDoor
