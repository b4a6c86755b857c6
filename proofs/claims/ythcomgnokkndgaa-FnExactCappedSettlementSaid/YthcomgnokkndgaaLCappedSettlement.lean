/- The law on CappedSettlement: for every input it returns true. No condition. -/
import Derived.Test.YthcomgnokkndgaaInit
import Derived.Test.YthcomgnokkndgaaVoiceArg
import Derived.Test.YthcomgnokkndgaaCappedI
import Derived.Test.YthcomgnokkndgaaCappedS
import Derived.Test.YthcomgnokkndgaaVoiceMark
namespace Go.Proofs.Ythcomgnokkndgaa
open Go.ChangeShapes Go.WideShapes Go.ChangeAt Go.RowKit Go.Joins

set_option maxHeartbeats 2000000 in
theorem law_CappedSettlement (v0 : Value) (d0 : List VD) (d1 : Int) (w : World) (h0 : RV w v0 d0) (hs0 : ShortR d0) (_ : I64 d1) :
    Calls Try.prog 3 #[v0, .int .i64 d1] w fun e w' => e = .returned (.bool true) ∧ Ext w w' := by
  go_enter Try.func3, Try.ntmps3
  go_wp2_with fail
  refine Calls.mono (laws_szVoiceS v0 d0 _ (h0.ext ExtC.ext) hs0.1 hs0.2) ?_
  rintro e w' ⟨rr0, rfl, hr, hx⟩; obtain ⟨g1, rfl⟩ := hx.grow; clear hx
  rcases hr with hr | ⟨hr, hl0, hm0⟩
  · go_wp2_with fail
    go_ret
    exact ⟨rfl, ExtC.ext⟩
  have hsh0 := short_of hl0 hm0
  have hvc0 : vcnt d0 ≤ 2097152 := by rw [vcnt_sum]; omega
  obtain ⟨bb, hbb⟩ : ∃ b, capB d0 d1 = b := ⟨_, rfl⟩
  obtain ⟨xs, hxs⟩ : ∃ x, cpdX d0 d1 = x := ⟨_, rfl⟩
  have hxm : xs.length ≤ 12 := by rw [← hxs]; exact cpdX_small
  go_wp2_with fail
  refine Calls.mono (laws_toVoiceS v0 d0 _ (h0.ext ExtC.ext) hl0 hm0) ?_
  rintro e w' ⟨x0a, rfl, n0a, o0a, hx⟩; obtain ⟨g2, rfl⟩ := hx.grow; clear hx
  go_wp2_with fail
  refine Calls.mono (spec_CappedSettlement' x0a d1 d0 _ ((o0a.vs n0a).ext ExtC.ext) hsh0 bb hbb xs hxs) ?_
  rintro e w' ⟨s0, rfl, so, hx⟩; obtain ⟨g3, rfl⟩ := hx.grow; clear hx
  go_wp2_with fail
  refine Calls.mono (laws_toVoiceS v0 d0 _ (h0.ext ExtC.ext) hl0 hm0) ?_
  rintro e w' ⟨x0b, rfl, n0b, o0b, hx⟩; obtain ⟨g4, rfl⟩ := hx.grow; clear hx
  go_wp2_with fail
  refine Calls.mono (impl_CappedSettlement' x0b d1 d0 _ ((o0b.vs n0b).ext ExtC.ext) hsh0 bb hbb xs hxs) ?_
  rintro e w' ⟨r0, rfl, ro, hx⟩; obtain ⟨g5, rfl⟩ := hx.grow; clear hx
  go_wp2_with fail
  refine Calls.mono (laws_eqInt64S r0 s0 xs xs true (by simp) _ (ro.ext ExtC.ext).ri (so.ext ExtC.ext).ri (by omega) (by omega)) ?_
  rintro e w' ⟨rfl, hx⟩; obtain ⟨g6, rfl⟩ := hx.grow; clear hx
  go_wp2_with fail
  refine Calls.mono (laws_toVoiceS v0 d0 _ (h0.ext ExtC.ext) hl0 hm0) ?_
  rintro e w' ⟨x0c, rfl, n0c, o0c, hx⟩; obtain ⟨g7, rfl⟩ := hx.grow; clear hx
  go_wp2_with fail
  refine Calls.mono (laws_eqVoiceS x0b x0c d0 d0 true (by simp) _ (o0b.ext ExtC.ext).rv (o0c.ext ExtC.ext).rv hsh0 hsh0) ?_
  rintro e w' ⟨rfl, hx⟩; obtain ⟨g8, rfl⟩ := hx.grow; clear hx
  have hq0 : (1 : Int) ≤ 1 := by omega
  go_wp2_with fail
  refine Calls.mono (laws_markVoiceS x0b d0 (1) g8.fin _ _ (o0b.ext ExtC.ext) (by omega) (by omega)) ?_
  rintro e w' ⟨rfl, hmk0, hr⟩
  have soz := (so.ext (ExtC.ext : Ext g3.fin g8.fin)).rng hr (.inl (ExtC.ext : Ext g3.fin g3.fin).size)
  have roz := (ro.ext (ExtC.ext : Ext g5.fin g8.fin)).rng hr (.inr (ExtC.ext : Ext g4.fin g4.fin).size)
  obtain ⟨g9, rfl⟩ := (Ext.rng (ExtC.ext : Ext w g8.fin) hr (ExtC.ext : Ext w g3.fin).size).grow
  clear hr
  have hk : decide (1 + (vcnt d0 : Int) < 0) = false := by simp; omega
  have hk2 : ¬ (1 + (vcnt d0 : Int) < 0) := by omega
  go_wp2_with fail
  refine Calls.mono (laws_eqInt64S r0 s0 xs xs true (by simp) _ (roz.ext ExtC.ext).ri (soz.ext ExtC.ext).ri (by omega) (by omega)) ?_
  rintro e w' ⟨rfl, hx⟩; obtain ⟨g10, rfl⟩ := hx.grow; clear hx
  have hcx : (xs.length : Int) ≤ 4194304 := by omega
  go_wp2_with fail
  refine Calls.mono (laws_markInt64S r0 xs 1 g10.fin _ _ (roz.ext ExtC.ext) (by omega) (by omega) (by omega)) ?_
  rintro e w' ⟨rfl, hmr, hr⟩
  have sozz := (soz.ext (ExtC.ext : Ext g9.fin g10.fin)).rng hr (.inl (ExtC.ext : Ext g3.fin g4.fin).size)
  obtain ⟨g11, rfl⟩ := (Ext.rng (ExtC.ext : Ext w g10.fin) hr (ExtC.ext : Ext w g4.fin).size).grow
  clear hr
  go_wp2_with fail
  refine Calls.mono (laws_heldInt64S r0 xs.length 1 _ (hmr.ext ExtC.ext).ri (by omega) (by omega) (by omega)) ?_
  rintro e w' ⟨rfl, hx⟩; obtain ⟨g12, rfl⟩ := hx.grow; clear hx
  have hk3 : decide (1 + (xs.length : Int) < 0) = false := by simp; omega
  have hk4 : ¬ (1 + (xs.length : Int) < 0) := by omega
  go_wp2_with fail
  refine Calls.mono (laws_toVoiceS v0 d0 _ (h0.ext ExtC.ext) hl0 hm0) ?_
  rintro e w' ⟨x0d, rfl, n0d, o0d, hx⟩; obtain ⟨g13, rfl⟩ := hx.grow; clear hx
  go_wp2_with fail
  refine Calls.mono (impl_CappedSettlement' x0d d1 d0 _ ((o0d.vs n0d).ext ExtC.ext) hsh0 bb hbb xs hxs) ?_
  rintro e w' ⟨r1, rfl, rp, hx⟩; obtain ⟨g14, rfl⟩ := hx.grow; clear hx
  go_wp2_with fail
  refine Calls.mono (laws_eqInt64S r1 s0 xs xs true (by simp) _ (rp.ext ExtC.ext).ri (sozz.ext ExtC.ext).ri (by omega) (by omega)) ?_
  rintro e w' ⟨rfl, hx⟩; obtain ⟨g15, rfl⟩ := hx.grow; clear hx
  go_wp2_with fail
  refine Calls.mono (laws_heldInt64S r0 xs.length 1 _ (hmr.ext ExtC.ext).ri (by omega) (by omega) (by omega)) ?_
  rintro e w' ⟨rfl, hx⟩; obtain ⟨g16, rfl⟩ := hx.grow; clear hx
  go_wp2_with fail
  go_ret
  exact ⟨rfl, ExtC.ext⟩

set_option maxRecDepth 100000 in
theorem FnExactCappedSettlement_lifted (os : Os) (started : os.Started) (H : Type) (enc : TypeId × Value → H) :
    ReturnsInHanded {} Try.checked os 3 .any (Rows.fnExactCappedSettlementSpec.pre6 enc Try.prog Try.f3 Rows.fnExactCappedSettlementRow.domain false) (Rows.fnExactCappedSettlementSpec.post enc Try.prog Try.f3 false true false false) := by
  refine returnsInHanded_of_change (C := Try.checked) Try.own started (by kernel_rfl) Try.func3
    (ChangeSpec.witness6 (enc := enc) (C := Try.checked) false ⟨#[], #[.slice none 0 0, .int .i64 0], []⟩ 8 (by kernel_rfl) (by kernel_rfl) (by kernel_rfl) (by kernel_rfl)) ?_
  intro W base args ds gs before hval0 hW hcnd _
  have hval : ∀ (j : Nat) t v, Try.f3.params[j]? = some t → args[j]? = some v → Value.okWide Try.prog W .any base t v := hval0
  have hW' := hW
  obtain ⟨p, q, hA0, hV, rfl, hfz, hnd⟩ := hW
  have hA : DataW.TrodAll enc Try.prog W 0 (fun _ => true) true Try.f3.params.toList args.toList ds p := hA0
  rw [Try.params3] at hA hval
  obtain ⟨v0, v1, d0, d1, p0, p1, rfl, rfl, rfl, h0, h1⟩ := trodAll_two hA
  obtain ⟨rfl, rfl⟩ := trodVars_none hV
  obtain ⟨d0', hd0, hs0⟩ := open_voices (hval 0 22 v0 rfl rfl) h0
  obtain ⟨d1', rfl, rfl, rfl, wn1⟩ := open_int Try.underlying2 (hval 1 2 v1 rfl rfl) h1
  clear hA0 hval0
  refine (law_CappedSettlement v0 d0' d1' W hd0 hs0 (wf_i64_range wn1)).mono fun e W' ⟨he, hx⟩ => ?_
  subst he
  exact ⟨_, rfl, law_post (T := 4) Try.laidOut (by kernel_rfl) (by kernel_rfl) Try.underlying4 (by kernel_rfl) rfl hW' rfl rfl rfl hx⟩

set_option maxHeartbeats 4000000 in
set_option maxRecDepth 100000 in
theorem FnExactCappedSettlement_closed : joinedFacts Try.prog 3 Try.f3 Rows.fnExactCappedSettlementSpec Rows.fnExactCappedSettlementRow = true := by
  unfold joinedFacts
  simp only [Bool.and_eq_true]
  repeat' apply And.intro
  all_goals first | with_reducible exact may_enter | with_reducible exact laid_out | with_reducible exact maps_rowed | with_reducible exact stops_heard | ((with_reducible refine lifted_is lifts_final ?_); rfl) | ((with_reducible refine made_is make_is ?_); rfl) | (as_aux_lemma => kernel_rfl)

theorem FnExactCappedSettlement_holds : Rows.FnExactCappedSettlementSaid :=
  OpenClaim.holds_of_wide 3 Try.f3 rfl rfl rfl rfl rfl rfl rfl ⟨rfl, rfl, rfl, rfl, rfl⟩ rfl rfl rfl rfl rfl (by kernel_rfl) Try.func3 FnExactCappedSettlement_closed
    (of_decide_eq_true (by kernel_rfl)) (by unfold Func.isWrapper; first | (rw [if_pos (by decide +kernel)]; kernel_rfl) | (rw [if_neg (by decide +kernel)]; exact ⟨rfl, rfl⟩))
    (fun os started H enc _ => FnExactCappedSettlement_lifted os started H enc)
#print axioms FnExactCappedSettlement_holds
end Go.Proofs.Ythcomgnokkndgaa
