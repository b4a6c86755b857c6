/- The laws' marks over slices of slices, and the look at the marks. -/
import Derived.Test.YthcomgnokkndgaaDoorRowsEq
import Derived.Test.YthcomgnokkndgaaDoorShareMark
namespace Go.Proofs.YthcomgnokkndgaaDoor
open Go.RowKit

theorem cntRows_get' {α : Type} (K : Kind α) (L : List α) (k : Nat) (h : k < L.length) : cntRows K (L.take k) + K.cnt L[k] ≤ cntRows K L := by
  have h1 := cntRows_take K L k h
  have h2 := cntRows_le K L (k + 1)
  omega

set_option maxHeartbeats 1000000 in
theorem laws_markShareSS (v : Value) (L : List (SD)) (k0 : Int) (w : World) (lo hi : Nat) (h : OwnR shareKind 40 lo hi w v L) (hLb : L.length ≤ 1152921504606846976) (h1 : 0 ≤ k0) (h2 : k0 + cntRows shareKind L ≤ 1152921504606846976) :
    Calls Tryd.prog 9 #[v, .int .i64 k0] w fun e w' => e = .returned (.int .i64 (k0 + cntRows shareKind L)) ∧ OwnR shareKind 40 lo hi w' v (mkRows shareKind k0 L) ∧ Rng lo hi w w' := by
  rcases h with ⟨rfl, rfl⟩ | ⟨g, cap, cs, a, b, rfl, ha, hb, how, hc, hd⟩
  · go_enter Tryd.func9, Tryd.ntmps9
    go_wp2
    refine wp_loop_rounds 1 ?_; rw [rounds_succ]
    go_wp2
    go_ret
    exact ⟨ret_int (by simp [cntRows]), .inl ⟨rfl, rfl⟩, Rng.refl _ _ _⟩
  · have HC := Lib.hid (And.intro hc hd); clear hc hd
    have H0 := Lib.hid how; clear how
    go_enter Tryd.func9, Tryd.ntmps9
    go_wp2
    go_loopw [1, 5] (fun q i wr => ∃ k : Nat, k ≤ L.length ∧ i = .int .i64 k ∧ q = .int .i64 (k0 + (cntRows shareKind (L.take k) : Int)) ∧ Rng lo hi w wr ∧ wr.ownsRow lo 40 1 (.slice (some ⟨g, 0, none⟩) L.length cap) L.length cs ∧
        Hid ((∀ i (h : i < L.length), k ≤ i → ∃ t, cs[i]? = some t ∧ Kind.Own shareKind (a i) (b i) wr t L[i]) ∧
          ∀ i (h : i < L.length), i < k → ∃ t, cs[i]? = some t ∧ Kind.Own shareKind (a i) (b i) wr t (Kind.mark shareKind (k0 + cntRows shareKind (L.take i)) L[i]))) (fun _ i _ => L.length - (intOf i).toNat)
    case atStart => exact ⟨0, Nat.zero_le _, rfl, by simp [cntRows], Rng.refl _ _ _, H0.out, Lib.hid ⟨fun i hi _ => by obtain ⟨t, q1, q2, -⟩ := HC.out.1 i hi; exact ⟨t, q1, q2⟩, fun i _ h => by omega⟩⟩
    case round =>
      obtain ⟨k, hk, rfl, rfl, hx, how', HI⟩ := hrel
      by_cases hlt : k < L.length
      · have hvg := cntRows_get' shareKind L k hlt
        obtain ⟨t, e2, e3⟩ := HI.out.1 k hlt (Nat.le_refl _)
        obtain ⟨-, -, -, la, lb, lg⟩ := HC.out.1 k hlt
        have hl : cs.length = L.length := by rw [how'.1]; omega
        have c2 : wr.cell? ⟨g, k, none⟩ = some t := by rw [how'.cellAt _ (by omega)]; exact e2
        have HE := Lib.hid (And.intro e2 e3)
        have HL := Lib.hid hl
        have HG := Lib.hid lg
        have HW := Lib.hid how'
        clear e2 e3 hl lg how'
        have hcn : (Kind.cnt shareKind L[k] : Nat) = 2 * L[k].length := rfl
        have hln : ((2 * L[k].length : Nat) : Int) ≤ 1152921504606846976 := by omega
        have HN := Lib.hid hcn; clear hcn
        obtain ⟨tp, tn, tc, rfl⟩ := Kind.r_form shareKind (Kind.own_r shareKind HE.out.2)
        go_wp2_with fail
        refine Calls.mono (laws_markShareS _ L[k] _ _ (a k) (b k) HE.out.2 (by omega) (by omega) (by omega)) ?_
        rintro e w2 ⟨rfl, ho, hr⟩
        go_wp2_with fail
        go_roundw
        case rel =>
          have hvt := cntRows_take shareKind L k hlt
          have hl := HL.out
          have hg := HG.out
          have hn := HN.out
          have st2 := ownsRow_rng HW.out hr (by omega)
          refine ⟨k + 1, by omega, by go_num, by congr 1; omega, hx.trans (hr.mono la lb), st2, Lib.hid ⟨fun i hi' hki => ?_, fun i hi' hik => ?_⟩⟩
          · obtain ⟨t, f2, f3⟩ := HI.out.1 i hi' (by omega)
            exact ⟨t, f2, Kind.own_rng shareKind f3 hr (by have := HC.out.2 k i (by omega) hi'; omega)⟩
          · by_cases hik' : i = k
            · subst hik'
              exact ⟨_, HE.out.1, ho⟩
            · obtain ⟨t, f2, f3⟩ := HI.out.2 i hi' (by omega)
              exact ⟨t, f2, Kind.own_rng shareKind f3 hr (by have := HC.out.2 i k (by omega) hlt; omega)⟩
        case measure => simp [intOf]; omega
      · have hkn : k = L.length := by omega
        go_wp2
        go_ret
        have HI2 := HI.out.2
        refine ⟨ret_int (by rw [hkn, List.take_length]), .inr ⟨g, cap, cs, a, b, by rw [mkRows_length], ha, hb, by rw [mkRows_length]; exact how', fun i hi' => ?_, fun i j hij hj => HC.out.2 i j hij (by rw [mkRows_length] at hj; exact hj)⟩, hx⟩
        rw [mkRows_length] at hi'
        obtain ⟨t, f2, f3⟩ := HI2 i hi' (by omega)
        obtain ⟨-, -, -, q1, q2, q3⟩ := HC.out.1 i hi'
        have hm := mkRows_get shareKind k0 L i hi'
        rw [List.getElem?_eq_getElem (by rw [mkRows_length]; exact hi')] at hm
        have hm' := Option.some.inj hm
        rw [hm']
        exact ⟨t, f2, f3, q1, q2, q3⟩

set_option maxHeartbeats 1000000 in
theorem laws_heldShareSS (v : Value) (L : List (SD)) (k0 : Int) (w : World) (h : RowsR shareKind w v (mkRows shareKind k0 L)) (hLb : L.length ≤ 1152921504606846976) (h1 : 0 ≤ k0) (h2 : k0 + cntRows shareKind L ≤ 1152921504606846976) :
    Calls Tryd.prog 10 #[v, .int .i64 k0] w fun e w' => e = .returned (.int .i64 (k0 + cntRows shareKind L)) ∧ Ext w w' := by
  obtain ⟨p, cap, rfl, -, hc⟩ := h.form
  clear h
  rw [mkRows_length]
  by_cases h0 : 0 < L.length
  · obtain ⟨b, off, rfl, hb, c⟩ := hc (by rw [mkRows_length]; exact h0)
    have HC : Hid (∀ i (h : i < L.length), ∃ t, w.cell? ⟨b, off + i, none⟩ = some t ∧ Kind.R shareKind w t (Kind.mark shareKind (k0 + cntRows shareKind (L.take i)) L[i])) := Lib.hid (by
      intro i hi
      have hm := mkRows_get shareKind k0 L i hi
      rw [List.getElem?_eq_getElem (by rw [mkRows_length]; exact hi)] at hm
      have hm' := Option.some.inj hm
      have := c i (by rw [mkRows_length]; exact hi)
      rw [hm'] at this
      exact this)
    clear hc c
    go_enter Tryd.func10, Tryd.ntmps10
    go_wp2
    go_loopw [1, 5] (fun q i wr => ∃ k : Nat, k ≤ L.length ∧ i = .int .i64 k ∧ q = .int .i64 (k0 + (cntRows shareKind (L.take k) : Int)) ∧ Ext w wr) (fun _ i _ => L.length - (intOf i).toNat)
    case atStart => exact ⟨0, Nat.zero_le _, rfl, by simp [cntRows], Ext.refl _⟩
    case round =>
      obtain ⟨k, hk, rfl, rfl, hx⟩ := hrel
      obtain ⟨g0, rfl⟩ := hx.grow; clear hx
      by_cases hlt : k < L.length
      · have hvg := cntRows_get' shareKind L k hlt
        obtain ⟨t, d2, d3⟩ := HC.out k hlt
        have D3 := Lib.hid d3; clear d3
        have hcn : (Kind.cnt shareKind L[k] : Nat) = 2 * L[k].length := rfl
        have hln : ((2 * L[k].length : Nat) : Int) ≤ 1152921504606846976 := by omega
        have hbd : k0 + (cntRows shareKind (L.take k) : Int) + ((2 * L[k].length : Nat) : Int) ≤ 1152921504606846976 := by omega
        have HN := Lib.hid hcn; clear hcn
        obtain ⟨tp, tn, tc, rfl⟩ := Kind.r_form shareKind D3.out
        go_wp2_with fail
        refine Calls.mono (laws_heldShareS _ L[k].length _ _ (Kind.r_ext shareKind D3.out ExtC.ext) (by omega) (by omega) (by omega)) ?_
        rintro e w2 ⟨rfl, hx⟩; obtain ⟨g1, rfl⟩ := hx.grow; clear hx
        go_wp2_with fail
        go_roundw
        case rel =>
          have hvt := cntRows_take shareKind L k hlt
          have hn := HN.out
          exact ⟨k + 1, by omega, by go_num, by congr 1; omega, ExtC.ext⟩
        case measure => simp [intOf]; omega
      · have hkn : k = L.length := by omega
        go_wp2
        go_ret
        exact ⟨ret_int (by rw [hkn, List.take_length]), ExtC.ext⟩
  · have e : L = [] := List.length_eq_zero_iff.1 (by omega)
    subst e
    clear hc
    go_enter Tryd.func10, Tryd.ntmps10
    go_wp2
    refine wp_loop_rounds 1 ?_; rw [rounds_succ]
    go_wp2
    go_ret
    exact ⟨ret_int (by simp [cntRows]), Ext.refl _⟩
end Go.Proofs.YthcomgnokkndgaaDoor
