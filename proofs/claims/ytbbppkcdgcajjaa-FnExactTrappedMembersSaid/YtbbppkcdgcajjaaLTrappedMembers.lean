/- The law on TrappedMembers: for every input it returns true. No condition. -/
import Derived.Test.YtbbppkcdgcajjaaInit
import Derived.Test.YtbbppkcdgcajjaaShareArg
import Derived.Test.YtbbppkcdgcajjaaTrap
namespace Go.Proofs.Ytbbppkcdgcajjaa
open Go.ChangeShapes Go.WideShapes Go.ChangeAt Go.RowKit Go.Joins

set_option maxHeartbeats 2000000 in
theorem law_TrappedMembers (v0 : Value) (d0 : List SD) (w : World) (h0 : RowsR shareKind w v0 d0) (hs0 : ShortRR d0) :
    Calls Try.prog 17 #[v0] w fun e w' => e = .returned (.bool true) ∧ Ext w w' := by
  go_enter Try.func17, Try.ntmps17
  go_wp2_with fail
  refine Calls.mono (laws_szShareSS v0 d0 _ _ (h0.ext ExtC.ext) hs0.1 hs0.2 (by omega) (by omega)) ?_
  rintro e w' ⟨rr0, rfl, hr, hx⟩; obtain ⟨g1, rfl⟩ := hx.grow; clear hx
  rcases hr with hr | ⟨hr, -, hl0, hm0⟩
  · go_wp2_with fail
    go_ret
    exact ⟨rfl, ExtC.ext⟩
  have hsh0 := shortRows_of hl0 hm0
  have hsl0 := Lib.hid (fun i (h : i < d0.length) => (by have := rsum_get d0 i h; omega : d0[i].length ≤ 1048576))
  have hvc0 : cntRows shareKind d0 ≤ 2097152 := by rw [cnt_share]; omega
  obtain ⟨bb, hbb⟩ : ∃ b, okSB d0 = b := ⟨_, rfl⟩
  obtain ⟨xs, hxs⟩ : ∃ x, trpX d0 = x := ⟨_, rfl⟩
  have hxm : xs.length ≤ 6 := by rw [← hxs]; exact trpX_small
  go_wp2_with fail
  refine Calls.mono (laws_toShareSS v0 d0 _ (h0.ext ExtC.ext) hl0 hm0) ?_
  rintro e w' ⟨x0a, rfl, n0a, o0a, hx⟩; obtain ⟨g2, rfl⟩ := hx.grow; clear hx
  go_wp2_with fail
  refine Calls.mono (spec_TrappedMembers' x0a d0 _ ((o0a.s n0a).ext ExtC.ext) hsh0 hsl0.out bb hbb xs hxs) ?_
  rintro e w' ⟨s0, rfl, so, hx⟩; obtain ⟨g3, rfl⟩ := hx.grow; clear hx
  go_wp2_with fail
  refine Calls.mono (laws_toShareSS v0 d0 _ (h0.ext ExtC.ext) hl0 hm0) ?_
  rintro e w' ⟨x0b, rfl, n0b, o0b, hx⟩; obtain ⟨g4, rfl⟩ := hx.grow; clear hx
  go_wp2_with fail
  refine Calls.mono (impl_TrappedMembers' x0b d0 _ ((o0b.s n0b).ext ExtC.ext) hsh0 hsl0.out bb hbb xs hxs) ?_
  rintro e w' ⟨r0, rfl, ro, hx⟩; obtain ⟨g5, rfl⟩ := hx.grow; clear hx
  go_wp2_with fail
  refine Calls.mono (laws_eqInt64S r0 s0 xs xs true (by simp) _ (ro.ext ExtC.ext).ri (so.ext ExtC.ext).ri (by omega) (by omega)) ?_
  rintro e w' ⟨rfl, hx⟩; obtain ⟨g6, rfl⟩ := hx.grow; clear hx
  go_wp2_with fail
  refine Calls.mono (laws_toShareSS v0 d0 _ (h0.ext ExtC.ext) hl0 hm0) ?_
  rintro e w' ⟨x0c, rfl, n0c, o0c, hx⟩; obtain ⟨g7, rfl⟩ := hx.grow; clear hx
  go_wp2_with fail
  refine Calls.mono (laws_eqShareSS x0b x0c d0 d0 true (by simp) _ (o0b.ext ExtC.ext).r (o0c.ext ExtC.ext).r hsh0 hsh0) ?_
  rintro e w' ⟨rfl, hx⟩; obtain ⟨g8, rfl⟩ := hx.grow; clear hx
  have hq0 : (1 : Int) ≤ 1 := by omega
  go_wp2_with fail
  refine Calls.mono (laws_markShareSS x0b d0 (1) g8.fin _ _ (o0b.ext ExtC.ext) (by omega) (by omega) (by omega)) ?_
  rintro e w' ⟨rfl, hmk0, hr⟩
  have soz := (so.ext (ExtC.ext : Ext g3.fin g8.fin)).rng hr (.inl (ExtC.ext : Ext g3.fin g3.fin).size)
  have roz := (ro.ext (ExtC.ext : Ext g5.fin g8.fin)).rng hr (.inr (ExtC.ext : Ext g4.fin g4.fin).size)
  obtain ⟨g9, rfl⟩ := (Ext.rng (ExtC.ext : Ext w g8.fin) hr (ExtC.ext : Ext w g3.fin).size).grow
  clear hr
  have hk : decide (1 + (cntRows shareKind d0 : Int) < 0) = false := by simp; omega
  have hk2 : ¬ (1 + (cntRows shareKind d0 : Int) < 0) := by omega
  go_wp2_with fail
  refine Calls.mono (laws_eqInt64S r0 s0 xs xs true (by simp) _ (roz.ext ExtC.ext).ri (soz.ext ExtC.ext).ri (by omega) (by omega)) ?_
  rintro e w' ⟨rfl, hx⟩; obtain ⟨g10, rfl⟩ := hx.grow; clear hx
  have hcx : (xs.length : Int) ≤ 4194304 := by omega
  go_wp2_with fail
  refine Calls.mono (laws_markInt64S r0 xs 1 g10.fin _ _ (roz.ext ExtC.ext) (by omega) (by omega) (by omega)) ?_
  rintro e w' ⟨rfl, hmr, hr⟩
  have sozz := (soz.ext (ExtC.ext : Ext g9.fin g10.fin)).rng hr (.inl (ExtC.ext : Ext g3.fin g4.fin).size)
  obtain ⟨g11, rfl⟩ := (Ext.rng (ExtC.ext : Ext w g10.fin) hr (ExtC.ext : Ext w g4.fin).size).grow
  clear hr
  go_wp2_with fail
  refine Calls.mono (laws_heldInt64S r0 xs.length 1 _ (hmr.ext ExtC.ext).ri (by omega) (by omega) (by omega)) ?_
  rintro e w' ⟨rfl, hx⟩; obtain ⟨g12, rfl⟩ := hx.grow; clear hx
  have hk3 : decide (1 + (xs.length : Int) < 0) = false := by simp; omega
  have hk4 : ¬ (1 + (xs.length : Int) < 0) := by omega
  go_wp2_with fail
  refine Calls.mono (laws_toShareSS v0 d0 _ (h0.ext ExtC.ext) hl0 hm0) ?_
  rintro e w' ⟨x0d, rfl, n0d, o0d, hx⟩; obtain ⟨g13, rfl⟩ := hx.grow; clear hx
  go_wp2_with fail
  refine Calls.mono (impl_TrappedMembers' x0d d0 _ ((o0d.s n0d).ext ExtC.ext) hsh0 hsl0.out bb hbb xs hxs) ?_
  rintro e w' ⟨r1, rfl, rp, hx⟩; obtain ⟨g14, rfl⟩ := hx.grow; clear hx
  go_wp2_with fail
  refine Calls.mono (laws_eqInt64S r1 s0 xs xs true (by simp) _ (rp.ext ExtC.ext).ri (sozz.ext ExtC.ext).ri (by omega) (by omega)) ?_
  rintro e w' ⟨rfl, hx⟩; obtain ⟨g15, rfl⟩ := hx.grow; clear hx
  go_wp2_with fail
  refine Calls.mono (laws_heldInt64S r0 xs.length 1 _ (hmr.ext ExtC.ext).ri (by omega) (by omega) (by omega)) ?_
  rintro e w' ⟨rfl, hx⟩; obtain ⟨g16, rfl⟩ := hx.grow; clear hx
  go_wp2_with fail
  go_ret
  exact ⟨rfl, ExtC.ext⟩

set_option maxRecDepth 100000 in
theorem FnExactTrappedMembers_lifted (os : Os) (started : os.Started) (H : Type) (enc : TypeId × Value → H) :
    ReturnsInHanded {} Try.checked os 17 .any (Rows.fnExactTrappedMembersSpec.pre6 enc Try.prog Try.f17 Rows.fnExactTrappedMembersRow.domain false) (Rows.fnExactTrappedMembersSpec.post enc Try.prog Try.f17 false true false false) := by
  refine returnsInHanded_of_change (C := Try.checked) Try.own started (by kernel_rfl) Try.func17
    (ChangeSpec.witness6 (enc := enc) (C := Try.checked) false ⟨#[], #[.slice none 0 0], []⟩ 8 (by kernel_rfl) (by kernel_rfl) (by kernel_rfl) (by kernel_rfl)) ?_
  intro W base args ds gs before hval0 hW hcnd _
  have hval : ∀ (j : Nat) t v, Try.f17.params[j]? = some t → args[j]? = some v → Value.okWide Try.prog W .any base t v := hval0
  have hW' := hW
  obtain ⟨p, q, hA0, hV, rfl, hfz, hnd⟩ := hW
  have hA : DataW.TrodAll enc Try.prog W 0 (fun _ => true) true Try.f17.params.toList args.toList ds p := hA0
  rw [Try.params17] at hA hval
  obtain ⟨v0, d0, rfl, rfl, h0⟩ := trodAll_one hA
  obtain ⟨rfl, rfl⟩ := trodVars_none hV
  obtain ⟨d0', hd0, hs0⟩ := open_shareSS (hval 0 49 v0 rfl rfl) h0
  clear hA0 hval0
  refine (law_TrappedMembers v0 d0' W hd0 hs0).mono fun e W' ⟨he, hx⟩ => ?_
  subst he
  exact ⟨_, rfl, law_post (T := 4) Try.laidOut (by kernel_rfl) (by kernel_rfl) Try.underlying4 (by kernel_rfl) rfl hW' rfl rfl rfl hx⟩

set_option maxHeartbeats 4000000 in
set_option maxRecDepth 100000 in
theorem FnExactTrappedMembers_closed : joinedFacts Try.prog 17 Try.f17 Rows.fnExactTrappedMembersSpec Rows.fnExactTrappedMembersRow = true := by
  unfold joinedFacts
  simp only [Bool.and_eq_true]
  repeat' apply And.intro
  all_goals first | with_reducible exact may_enter | with_reducible exact laid_out | with_reducible exact maps_rowed | with_reducible exact stops_heard | ((with_reducible refine lifted_is lifts_final ?_); rfl) | ((with_reducible refine made_is make_is ?_); rfl) | (as_aux_lemma => kernel_rfl)

theorem FnExactTrappedMembers_holds : Rows.FnExactTrappedMembersSaid :=
  OpenClaim.holds_of_wide 17 Try.f17 rfl rfl rfl rfl rfl rfl rfl ⟨rfl, rfl, rfl, rfl, rfl⟩ rfl rfl rfl rfl rfl (by kernel_rfl) Try.func17 FnExactTrappedMembers_closed
    (of_decide_eq_true (by kernel_rfl)) (by unfold Func.isWrapper; first | (rw [if_pos (by decide +kernel)]; kernel_rfl) | (rw [if_neg (by decide +kernel)]; exact ⟨rfl, rfl⟩))
    (fun os started H enc _ => FnExactTrappedMembers_lifted os started H enc)
#print axioms FnExactTrappedMembers_holds
end Go.Proofs.Ytbbppkcdgcajjaa
