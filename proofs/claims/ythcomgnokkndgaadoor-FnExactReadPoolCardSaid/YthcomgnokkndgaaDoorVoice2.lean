/- The laws' comparison of lists of voices, their marks and the look at the marks. -/
import Derived.Test.YthcomgnokkndgaaDoorVoice
namespace Go.Proofs.YthcomgnokkndgaaDoor
open Go.RowKit

theorem RV.form {w : World} {v : Value} {L : List VD} (h : RV w v L) : ∃ p cap, v = .slice p L.length cap ∧
    (0 < L.length → ∃ b off, p = some ⟨b, off, none⟩ ∧ InW b w ∧ ∀ i (h : i < L.length), w.cell? ⟨b, off + i * 2, none⟩ = some (.bool L[i].1) ∧ ∃ t, w.cell? ⟨b, off + i * 2 + 1, none⟩ = some t ∧ RI w t L[i].2) := by
  rcases h with ⟨b, off, cap, rfl, hb, hc⟩ | ⟨rfl, p, cap, rfl⟩
  · exact ⟨_, _, rfl, fun _ => ⟨b, off, rfl, hb, hc⟩⟩
  · exact ⟨_, _, rfl, fun h => absurd h (by simp)⟩

/-- A bound on the lengths of what voices trust. -/
def Short (L : List VD) : Prop := L.length ≤ 1152921504606846976 ∧ ∀ i (h : i < L.length), L[i].2.length ≤ 1152921504606846976

set_option maxHeartbeats 400000 in
theorem laws_eqVoice (s s' : Bool) (t t' : Value) (xs ys : List Int) (b : Bool) (hb : decide (s = s' ∧ xs = ys) = b) (w : World) (h : RI w t xs) (h' : RI w t' ys) (hn : xs.length ≤ 1152921504606846976) (hn' : ys.length ≤ 1152921504606846976) :
    Calls Tryd.prog 41 #[.agg #[.bool s, t], .agg #[.bool s', t']] w fun e w' => e = .returned (.bool b) ∧ Ext w w' := by
  obtain ⟨p, cap, rfl, -, hc⟩ := h.form
  obtain ⟨p', cap', rfl, -, hc'⟩ := h'.form
  have HC := Lib.hid (And.intro hc hc'); clear hc hc'
  by_cases h1 : s = s'
  · subst h1
    have hbb : decide (xs = ys) = b := by rw [← hb]; simp
    have H2 := Lib.hid hbb; clear hb hbb
    cases s <;> cases b
    all_goals
      go_enter Tryd.func41, Tryd.ntmps41
      go_wp2_with (first | (go_at_call 62; refine Calls.mono (laws_eqInt64S _ _ xs ys _ H2.out _ (h.ext ExtC.ext) (h'.ext ExtC.ext) hn hn') ?_; rintro e w' ⟨rfl, hx⟩; obtain ⟨g1, rfl⟩ := hx.grow; clear hx))
      go_ret
      exact ⟨rfl, ExtC.ext⟩
  · have hbb : b = false := by rw [← hb]; simp [h1]
    subst hbb
    clear hb
    cases s <;> cases s' <;> first | exact absurd rfl h1 | skip
    all_goals
      clear h1
      go_enter Tryd.func41, Tryd.ntmps41
      go_wp2
      go_ret
      exact ⟨rfl, ExtC.ext⟩

set_option maxHeartbeats 1000000 in
theorem laws_eqVoiceS (v u : Value) (L M : List VD) (b : Bool) (hb : decide (L = M) = b) (w : World) (h : RV w v L) (h' : RV w u M) (hs : Short L) (hs' : Short M) :
    Calls Tryd.prog 18 #[v, u] w fun e w' => e = .returned (.bool b) ∧ Ext w w' := by
  obtain ⟨p, cap, rfl, hc⟩ := h.form
  obtain ⟨q, cap', rfl, hc'⟩ := h'.form
  obtain ⟨hn, hm⟩ := hs
  obtain ⟨hn', hm'⟩ := hs'
  clear h h'
  by_cases hl : L.length = M.length
  · by_cases h0 : 0 < L.length
    · obtain ⟨b1, off, rfl, i1, c1⟩ := hc h0
      obtain ⟨b2, off', rfl, i2, c2⟩ := hc' (by omega)
      have HC := Lib.hid (And.intro c1 c2)
      have HM := Lib.hid (And.intro hm hm')
      have HL := Lib.hid hl
      rw [← hl]
      clear hc hc' c1 c2 hm hm' hl
      go_enter Tryd.func18, Tryd.ntmps18
      go_wp2
      go_loopw [5] (fun i wr => ∃ k : Nat, k ≤ L.length ∧ i = .int .i64 k ∧ Hid (∀ j, j < k → L[j]? = M[j]?) ∧ Ext w wr) (fun i _ => L.length - (intOf i).toNat)
      case atStart => exact ⟨0, Nat.zero_le _, rfl, Lib.hid (fun j hj => by omega), Ext.refl _⟩
      case round =>
        obtain ⟨k, hk, rfl, hrel, hx⟩ := hrel
        obtain ⟨g0, rfl⟩ := hx.grow; clear hx
        by_cases hlt : k < L.length
        · have hlt' : k < M.length := by rw [← HL.out]; exact hlt
          obtain ⟨d1, t1, d2, d3⟩ := HC.out.1 k hlt
          obtain ⟨d1', t1', d2', d3'⟩ := HC.out.2 k hlt'
          have D3 := Lib.hid (And.intro d3 d3'); clear d3 d3'
          cases he : decide (L[k].1 = M[k].1 ∧ L[k].2 = M[k].2)
          · have HE := Lib.hid he; clear he
            go_wp2
            refine wp_region_grow (by kernel_rfl) (by kernel_rfl) ?_
            repeat (go_big_quiet_step ((first | (go_at_call 41; exact grow_of (laws_eqVoice _ _ _ _ L[k].2 M[k].2 _ HE.out _ (D3.out.1.ext ExtC.ext) (D3.out.2.ext ExtC.ext) (HM.out.1 k hlt) (HM.out.2 k hlt'))))))
            refine wpQuiet_nil ?_
            intro _ hw'
            obtain ⟨g, hw''⟩ := hw'
            subst hw''
            go_wp2
            go_ret
            refine ⟨ret_bool ?_, ExtC.ext⟩
            rw [← hb]; symm; rw [decide_eq_false_iff_not]; intro e
            have := HE.out
            rw [decide_eq_false_iff_not] at this
            exact this (by subst e; exact ⟨rfl, rfl⟩)
          · have HE := Lib.hid he; clear he
            go_wp2
            refine wp_region_grow (by kernel_rfl) (by kernel_rfl) ?_
            repeat (go_big_quiet_step ((first | (go_at_call 41; exact grow_of (laws_eqVoice _ _ _ _ L[k].2 M[k].2 _ HE.out _ (D3.out.1.ext ExtC.ext) (D3.out.2.ext ExtC.ext) (HM.out.1 k hlt) (HM.out.2 k hlt'))))))
            refine wpQuiet_nil ?_
            intro _ hw'
            obtain ⟨g, hw''⟩ := hw'
            subst hw''
            go_wp2
            go_roundw
            case rel =>
              refine ⟨k + 1, by omega, by go_num, Lib.hid (fun j hj => ?_), ExtC.ext⟩
              by_cases hjk : j = k
              · subst hjk
                have := HE.out
                rw [decide_eq_true_eq] at this
                rw [List.getElem?_eq_getElem hlt, List.getElem?_eq_getElem hlt', Prod.ext this.1 this.2]
              · exact hrel.out j (by omega)
            case measure => simp [intOf]; omega
        · go_wp2
          go_ret
          refine ⟨ret_bool ?_, ExtC.ext⟩
          rw [← hb]; symm; rw [decide_eq_true_eq]
          apply List.ext_getElem?
          intro j
          by_cases hj : j < L.length
          · exact hrel.out j (by omega)
          · have := HL.out
            rw [List.getElem?_eq_none (by omega), List.getElem?_eq_none (by omega)]
    · have e1 : L = [] := List.length_eq_zero_iff.1 (by omega)
      have e2 : M = [] := List.length_eq_zero_iff.1 (by omega)
      subst e1 e2
      clear hc hc' hm hm'
      go_enter Tryd.func18, Tryd.ntmps18
      go_wp2
      refine wp_loop_rounds 1 ?_; rw [rounds_succ]
      go_wp2
      go_ret
      exact ⟨ret_bool (by rw [← hb]; rfl), Ext.refl _⟩
  · have hb' : ((L.length : Int) != (M.length : Int)) = true := by simp; omega
    have hne : b = false := by rw [← hb, decide_eq_false_iff_not]; intro e; exact hl (by rw [e])
    have HL := Lib.hid hl; clear hl hc hc' hm hm'
    subst hne
    go_enter Tryd.func18, Tryd.ntmps18
    go_wp2
    go_ret
    exact ⟨rfl, Ext.refl _⟩
end Go.Proofs.YthcomgnokkndgaaDoor
