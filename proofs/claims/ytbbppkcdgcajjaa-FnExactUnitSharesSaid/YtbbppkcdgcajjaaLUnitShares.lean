/- The law on UnitShares: for every input it returns true. No condition. -/
import Derived.Test.YtbbppkcdgcajjaaInit
import Derived.Test.YtbbppkcdgcajjaaVoiceArg
import Derived.Test.YtbbppkcdgcajjaaUnit
import Derived.Test.YtbbppkcdgcajjaaShareArg
import Derived.Test.YtbbppkcdgcajjaaVoiceMark
namespace Go.Proofs.Ytbbppkcdgcajjaa
open Go.ChangeShapes Go.WideShapes Go.ChangeAt Go.RowKit Go.Joins

set_option maxHeartbeats 2000000 in
theorem law_UnitShares (v0 : Value) (d0 : List VD) (w : World) (h0 : RV w v0 d0) (hs0 : ShortR d0) :
    Calls Try.prog 15 #[v0] w fun e w' => e = .returned (.bool true) ∧ Ext w w' := by
  go_enter Try.func15, Try.ntmps15
  go_wp2_with fail
  refine Calls.mono (laws_szVoiceS v0 d0 _ (h0.ext ExtC.ext) hs0.1 hs0.2) ?_
  rintro e w' ⟨rr0, rfl, hr, hx⟩; obtain ⟨g1, rfl⟩ := hx.grow; clear hx
  rcases hr with hr | ⟨hr, hl0, hm0⟩
  · go_wp2_with fail
    go_ret
    exact ⟨rfl, ExtC.ext⟩
  have hsh0 := short_of hl0 hm0
  have hvc0 : vcnt d0 ≤ 2097152 := by rw [vcnt_sum]; omega
  obtain ⟨bb, hbb⟩ : ∃ b, unB d0 = b := ⟨_, rfl⟩
  obtain ⟨xs, hxs⟩ : ∃ x, unX d0 = x := ⟨_, rfl⟩
  have hxm : xs.length ≤ 6 ∧ ∀ x ∈ xs, x.length ≤ 1 := by rw [← hxs]; exact unX_small
  have hsx : ShortRows xs := ⟨by omega, fun i h => by have := hxm.2 _ (List.getElem_mem h); omega⟩
  have hxc : (cntRows shareKind xs : Int) ≤ 4194304 := by rw [cnt_share]; have := rsum_few xs 1 hxm.2; omega
  replace hxm := hxm.1
  go_wp2_with fail
  refine Calls.mono (laws_toVoiceS v0 d0 _ (h0.ext ExtC.ext) hl0 hm0) ?_
  rintro e w' ⟨x0a, rfl, n0a, o0a, hx⟩; obtain ⟨g2, rfl⟩ := hx.grow; clear hx
  go_wp2_with fail
  refine Calls.mono (spec_UnitShares' x0a d0 _ ((o0a.vs n0a).ext ExtC.ext) hsh0 bb hbb xs hxs) ?_
  rintro e w' ⟨s0, rfl, so, hx⟩; obtain ⟨g3, rfl⟩ := hx.grow; clear hx
  go_wp2_with fail
  refine Calls.mono (laws_toVoiceS v0 d0 _ (h0.ext ExtC.ext) hl0 hm0) ?_
  rintro e w' ⟨x0b, rfl, n0b, o0b, hx⟩; obtain ⟨g4, rfl⟩ := hx.grow; clear hx
  go_wp2_with fail
  refine Calls.mono (impl_UnitShares' x0b d0 _ ((o0b.vs n0b).ext ExtC.ext) hsh0 bb hbb xs hxs) ?_
  rintro e w' ⟨r0, rfl, ro, hx⟩; obtain ⟨g5, rfl⟩ := hx.grow; clear hx
  go_wp2_with fail
  refine Calls.mono (laws_eqShareSS r0 s0 xs xs true (by simp) _ (ro.ext ExtC.ext).r (so.ext ExtC.ext).r hsx hsx) ?_
  rintro e w' ⟨rfl, hx⟩; obtain ⟨g6, rfl⟩ := hx.grow; clear hx
  go_wp2_with fail
  refine Calls.mono (laws_toVoiceS v0 d0 _ (h0.ext ExtC.ext) hl0 hm0) ?_
  rintro e w' ⟨x0c, rfl, n0c, o0c, hx⟩; obtain ⟨g7, rfl⟩ := hx.grow; clear hx
  go_wp2_with fail
  refine Calls.mono (laws_eqVoiceS x0b x0c d0 d0 true (by simp) _ (o0b.ext ExtC.ext).rv (o0c.ext ExtC.ext).rv hsh0 hsh0) ?_
  rintro e w' ⟨rfl, hx⟩; obtain ⟨g8, rfl⟩ := hx.grow; clear hx
  have hq0 : (1 : Int) ≤ 1 := by omega
  go_wp2_with fail
  refine Calls.mono (laws_markVoiceS x0b d0 (1) g8.fin _ _ (o0b.ext ExtC.ext) (by omega) (by omega)) ?_
  rintro e w' ⟨rfl, hmk0, hr⟩
  have soz := (so.ext (ExtC.ext : Ext g3.fin g8.fin)).rng hr (.inl (ExtC.ext : Ext g3.fin g3.fin).size)
  have roz := (ro.ext (ExtC.ext : Ext g5.fin g8.fin)).rng hr (.inr (ExtC.ext : Ext g4.fin g4.fin).size)
  obtain ⟨g9, rfl⟩ := (Ext.rng (ExtC.ext : Ext w g8.fin) hr (ExtC.ext : Ext w g3.fin).size).grow
  clear hr
  have hk : decide (1 + (vcnt d0 : Int) < 0) = false := by simp; omega
  have hk2 : ¬ (1 + (vcnt d0 : Int) < 0) := by omega
  go_wp2_with fail
  refine Calls.mono (laws_eqShareSS r0 s0 xs xs true (by simp) _ (roz.ext ExtC.ext).r (soz.ext ExtC.ext).r hsx hsx) ?_
  rintro e w' ⟨rfl, hx⟩; obtain ⟨g10, rfl⟩ := hx.grow; clear hx
  have hcx : (cntRows shareKind xs : Int) ≤ 4194304 := hxc
  go_wp2_with fail
  refine Calls.mono (laws_markShareSS r0 xs 1 g10.fin _ _ (roz.ext ExtC.ext) (by omega) (by omega) (by omega)) ?_
  rintro e w' ⟨rfl, hmr, hr⟩
  have sozz := (soz.ext (ExtC.ext : Ext g9.fin g10.fin)).rng hr (.inl (ExtC.ext : Ext g3.fin g4.fin).size)
  obtain ⟨g11, rfl⟩ := (Ext.rng (ExtC.ext : Ext w g10.fin) hr (ExtC.ext : Ext w g4.fin).size).grow
  clear hr
  go_wp2_with fail
  refine Calls.mono (laws_heldShareSS r0 xs 1 _ (hmr.ext ExtC.ext).r (by omega) (by omega) (by omega)) ?_
  rintro e w' ⟨rfl, hx⟩; obtain ⟨g12, rfl⟩ := hx.grow; clear hx
  have hk3 : decide (1 + (cntRows shareKind xs : Int) < 0) = false := by simp; omega
  have hk4 : ¬ (1 + (cntRows shareKind xs : Int) < 0) := by omega
  go_wp2_with fail
  refine Calls.mono (laws_toVoiceS v0 d0 _ (h0.ext ExtC.ext) hl0 hm0) ?_
  rintro e w' ⟨x0d, rfl, n0d, o0d, hx⟩; obtain ⟨g13, rfl⟩ := hx.grow; clear hx
  go_wp2_with fail
  refine Calls.mono (impl_UnitShares' x0d d0 _ ((o0d.vs n0d).ext ExtC.ext) hsh0 bb hbb xs hxs) ?_
  rintro e w' ⟨r1, rfl, rp, hx⟩; obtain ⟨g14, rfl⟩ := hx.grow; clear hx
  go_wp2_with fail
  refine Calls.mono (laws_eqShareSS r1 s0 xs xs true (by simp) _ (rp.ext ExtC.ext).r (sozz.ext ExtC.ext).r hsx hsx) ?_
  rintro e w' ⟨rfl, hx⟩; obtain ⟨g15, rfl⟩ := hx.grow; clear hx
  go_wp2_with fail
  refine Calls.mono (laws_heldShareSS r0 xs 1 _ (hmr.ext ExtC.ext).r (by omega) (by omega) (by omega)) ?_
  rintro e w' ⟨rfl, hx⟩; obtain ⟨g16, rfl⟩ := hx.grow; clear hx
  go_wp2_with fail
  go_ret
  exact ⟨rfl, ExtC.ext⟩

set_option maxRecDepth 100000 in
theorem FnExactUnitShares_lifted (os : Os) (started : os.Started) (H : Type) (enc : TypeId × Value → H) :
    ReturnsInHanded {} Try.checked os 15 .any (Rows.fnExactUnitSharesSpec.pre6 enc Try.prog Try.f15 Rows.fnExactUnitSharesRow.domain false) (Rows.fnExactUnitSharesSpec.post enc Try.prog Try.f15 false true false false) := by
  refine returnsInHanded_of_change (C := Try.checked) Try.own started (by kernel_rfl) Try.func15
    (ChangeSpec.witness6 (enc := enc) (C := Try.checked) false ⟨#[], #[.slice none 0 0], []⟩ 8 (by kernel_rfl) (by kernel_rfl) (by kernel_rfl) (by kernel_rfl)) ?_
  intro W base args ds gs before hval0 hW hcnd _
  have hval : ∀ (j : Nat) t v, Try.f15.params[j]? = some t → args[j]? = some v → Value.okWide Try.prog W .any base t v := hval0
  have hW' := hW
  obtain ⟨p, q, hA0, hV, rfl, hfz, hnd⟩ := hW
  have hA : DataW.TrodAll enc Try.prog W 0 (fun _ => true) true Try.f15.params.toList args.toList ds p := hA0
  rw [Try.params15] at hA hval
  obtain ⟨v0, d0, rfl, rfl, h0⟩ := trodAll_one hA
  obtain ⟨rfl, rfl⟩ := trodVars_none hV
  obtain ⟨d0', hd0, hs0⟩ := open_voices (hval 0 22 v0 rfl rfl) h0
  clear hA0 hval0
  refine (law_UnitShares v0 d0' W hd0 hs0).mono fun e W' ⟨he, hx⟩ => ?_
  subst he
  exact ⟨_, rfl, law_post (T := 4) Try.laidOut (by kernel_rfl) (by kernel_rfl) Try.underlying4 (by kernel_rfl) rfl hW' rfl rfl rfl hx⟩

set_option maxHeartbeats 4000000 in
set_option maxRecDepth 100000 in
theorem FnExactUnitShares_closed : joinedFacts Try.prog 15 Try.f15 Rows.fnExactUnitSharesSpec Rows.fnExactUnitSharesRow = true := by
  unfold joinedFacts
  simp only [Bool.and_eq_true]
  repeat' apply And.intro
  all_goals first | with_reducible exact may_enter | with_reducible exact laid_out | with_reducible exact maps_rowed | with_reducible exact stops_heard | ((with_reducible refine lifted_is lifts_final ?_); rfl) | ((with_reducible refine made_is make_is ?_); rfl) | (as_aux_lemma => kernel_rfl)

theorem FnExactUnitShares_holds : Rows.FnExactUnitSharesSaid :=
  OpenClaim.holds_of_wide 15 Try.f15 rfl rfl rfl rfl rfl rfl rfl ⟨rfl, rfl, rfl, rfl, rfl⟩ rfl rfl rfl rfl rfl (by kernel_rfl) Try.func15 FnExactUnitShares_closed
    (of_decide_eq_true (by kernel_rfl)) (by unfold Func.isWrapper; first | (rw [if_pos (by decide +kernel)]; kernel_rfl) | (rw [if_neg (by decide +kernel)]; exact ⟨rfl, rfl⟩))
    (fun os started H enc _ => FnExactUnitShares_lifted os started H enc)
#print axioms FnExactUnitShares_holds
end Go.Proofs.Ytbbppkcdgcajjaa
