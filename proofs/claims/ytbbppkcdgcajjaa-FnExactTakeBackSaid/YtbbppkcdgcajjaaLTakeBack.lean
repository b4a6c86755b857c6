/- The law on TakeBack: for every input it returns true. No condition. -/
import Derived.Test.YtbbppkcdgcajjaaInit
import Derived.Test.YtbbppkcdgcajjaaShareArg
import Derived.Test.YtbbppkcdgcajjaaTake
namespace Go.Proofs.Ytbbppkcdgcajjaa
open Go.ChangeShapes Go.WideShapes Go.ChangeAt Go.RowKit Go.Joins

set_option maxHeartbeats 2000000 in
theorem law_TakeBack (v0 : Value) (d0 : List SD) (d1 : Int) (w : World) (h0 : RowsR shareKind w v0 d0) (hs0 : ShortRR d0) (_ : I64 d1) :
    Calls Try.prog 11 #[v0, .int .i64 d1] w fun e w' => e = .returned (.bool true) ∧ Ext w w' := by
  go_enter Try.func11, Try.ntmps11
  go_wp2_with fail
  refine Calls.mono (laws_szShareSS v0 d0 _ _ (h0.ext ExtC.ext) hs0.1 hs0.2 (by omega) (by omega)) ?_
  rintro e w' ⟨rr0, rfl, hr, hx⟩; obtain ⟨g1, rfl⟩ := hx.grow; clear hx
  rcases hr with hr | ⟨hr, -, hl0, hm0⟩
  · go_wp2_with fail
    go_ret
    exact ⟨rfl, ExtC.ext⟩
  have hsh0 := shortRows_of hl0 hm0
  have hsl0 := Lib.hid (fun i (h : i < d0.length) => (by have := rsum_get d0 i h; omega : d0[i].length ≤ 1048576))
  have hvc0 : cntRows shareKind d0 ≤ 2097152 := by rw [cnt_share]; omega
  obtain ⟨bb, hbb⟩ : ∃ b, shB d0 d1 = b := ⟨_, rfl⟩
  obtain ⟨xs, hxs⟩ : ∃ x, tkX d0 d1 = x := ⟨_, rfl⟩
  have hxm : xs.length ≤ 6 ∧ ∀ x ∈ xs, x.length ≤ 12 := by rw [← hxs]; exact tkX_small
  have hsx : ShortRows xs := ⟨by omega, fun i h => by have := hxm.2 _ (List.getElem_mem h); omega⟩
  have hxc : (cntRows shareKind xs : Int) ≤ 4194304 := by rw [cnt_share]; have := rsum_few xs 12 hxm.2; omega
  replace hxm := hxm.1
  go_wp2_with fail
  refine Calls.mono (laws_toShareSS v0 d0 _ (h0.ext ExtC.ext) hl0 hm0) ?_
  rintro e w' ⟨x0a, rfl, n0a, o0a, hx⟩; obtain ⟨g2, rfl⟩ := hx.grow; clear hx
  go_wp2_with fail
  refine Calls.mono (spec_TakeBack' x0a d1 d0 _ ((o0a.s n0a).ext ExtC.ext) hsh0 hsl0.out bb hbb xs hxs) ?_
  rintro e w' ⟨s0, rfl, so, hx⟩; obtain ⟨g3, rfl⟩ := hx.grow; clear hx
  go_wp2_with fail
  refine Calls.mono (laws_toShareSS v0 d0 _ (h0.ext ExtC.ext) hl0 hm0) ?_
  rintro e w' ⟨x0b, rfl, n0b, o0b, hx⟩; obtain ⟨g4, rfl⟩ := hx.grow; clear hx
  go_wp2_with fail
  refine Calls.mono (impl_TakeBack' x0b d1 d0 _ ((o0b.s n0b).ext ExtC.ext) hsh0 hsl0.out bb hbb xs hxs) ?_
  rintro e w' ⟨r0, rfl, ro, hx⟩; obtain ⟨g5, rfl⟩ := hx.grow; clear hx
  go_wp2_with fail
  refine Calls.mono (laws_eqShareSS r0 s0 xs xs true (by simp) _ (ro.ext ExtC.ext).r (so.ext ExtC.ext).r hsx hsx) ?_
  rintro e w' ⟨rfl, hx⟩; obtain ⟨g6, rfl⟩ := hx.grow; clear hx
  go_wp2_with fail
  refine Calls.mono (laws_toShareSS v0 d0 _ (h0.ext ExtC.ext) hl0 hm0) ?_
  rintro e w' ⟨x0c, rfl, n0c, o0c, hx⟩; obtain ⟨g7, rfl⟩ := hx.grow; clear hx
  go_wp2_with fail
  refine Calls.mono (laws_eqShareSS x0b x0c d0 d0 true (by simp) _ (o0b.ext ExtC.ext).r (o0c.ext ExtC.ext).r hsh0 hsh0) ?_
  rintro e w' ⟨rfl, hx⟩; obtain ⟨g8, rfl⟩ := hx.grow; clear hx
  have hq0 : (1 : Int) ≤ 1 := by omega
  go_wp2_with fail
  refine Calls.mono (laws_markShareSS x0b d0 (1) g8.fin _ _ (o0b.ext ExtC.ext) (by omega) (by omega) (by omega)) ?_
  rintro e w' ⟨rfl, hmk0, hr⟩
  have soz := (so.ext (ExtC.ext : Ext g3.fin g8.fin)).rng hr (.inl (ExtC.ext : Ext g3.fin g3.fin).size)
  have roz := (ro.ext (ExtC.ext : Ext g5.fin g8.fin)).rng hr (.inr (ExtC.ext : Ext g4.fin g4.fin).size)
  obtain ⟨g9, rfl⟩ := (Ext.rng (ExtC.ext : Ext w g8.fin) hr (ExtC.ext : Ext w g3.fin).size).grow
  clear hr
  have hk : decide (1 + (cntRows shareKind d0 : Int) < 0) = false := by simp; omega
  have hk2 : ¬ (1 + (cntRows shareKind d0 : Int) < 0) := by omega
  go_wp2_with fail
  refine Calls.mono (laws_eqShareSS r0 s0 xs xs true (by simp) _ (roz.ext ExtC.ext).r (soz.ext ExtC.ext).r hsx hsx) ?_
  rintro e w' ⟨rfl, hx⟩; obtain ⟨g10, rfl⟩ := hx.grow; clear hx
  have hcx : (cntRows shareKind xs : Int) ≤ 4194304 := hxc
  go_wp2_with fail
  refine Calls.mono (laws_markShareSS r0 xs 1 g10.fin _ _ (roz.ext ExtC.ext) (by omega) (by omega) (by omega)) ?_
  rintro e w' ⟨rfl, hmr, hr⟩
  have sozz := (soz.ext (ExtC.ext : Ext g9.fin g10.fin)).rng hr (.inl (ExtC.ext : Ext g3.fin g4.fin).size)
  obtain ⟨g11, rfl⟩ := (Ext.rng (ExtC.ext : Ext w g10.fin) hr (ExtC.ext : Ext w g4.fin).size).grow
  clear hr
  go_wp2_with fail
  refine Calls.mono (laws_heldShareSS r0 xs 1 _ (hmr.ext ExtC.ext).r (by omega) (by omega) (by omega)) ?_
  rintro e w' ⟨rfl, hx⟩; obtain ⟨g12, rfl⟩ := hx.grow; clear hx
  have hk3 : decide (1 + (cntRows shareKind xs : Int) < 0) = false := by simp; omega
  have hk4 : ¬ (1 + (cntRows shareKind xs : Int) < 0) := by omega
  go_wp2_with fail
  refine Calls.mono (laws_toShareSS v0 d0 _ (h0.ext ExtC.ext) hl0 hm0) ?_
  rintro e w' ⟨x0d, rfl, n0d, o0d, hx⟩; obtain ⟨g13, rfl⟩ := hx.grow; clear hx
  go_wp2_with fail
  refine Calls.mono (impl_TakeBack' x0d d1 d0 _ ((o0d.s n0d).ext ExtC.ext) hsh0 hsl0.out bb hbb xs hxs) ?_
  rintro e w' ⟨r1, rfl, rp, hx⟩; obtain ⟨g14, rfl⟩ := hx.grow; clear hx
  go_wp2_with fail
  refine Calls.mono (laws_eqShareSS r1 s0 xs xs true (by simp) _ (rp.ext ExtC.ext).r (sozz.ext ExtC.ext).r hsx hsx) ?_
  rintro e w' ⟨rfl, hx⟩; obtain ⟨g15, rfl⟩ := hx.grow; clear hx
  go_wp2_with fail
  refine Calls.mono (laws_heldShareSS r0 xs 1 _ (hmr.ext ExtC.ext).r (by omega) (by omega) (by omega)) ?_
  rintro e w' ⟨rfl, hx⟩; obtain ⟨g16, rfl⟩ := hx.grow; clear hx
  go_wp2_with fail
  go_ret
  exact ⟨rfl, ExtC.ext⟩

set_option maxRecDepth 100000 in
theorem FnExactTakeBack_lifted (os : Os) (started : os.Started) (H : Type) (enc : TypeId × Value → H) :
    ReturnsInHanded {} Try.checked os 11 .any (Rows.fnExactTakeBackSpec.pre6 enc Try.prog Try.f11 Rows.fnExactTakeBackRow.domain false) (Rows.fnExactTakeBackSpec.post enc Try.prog Try.f11 false true false false) := by
  refine returnsInHanded_of_change (C := Try.checked) Try.own started (by kernel_rfl) Try.func11
    (ChangeSpec.witness6 (enc := enc) (C := Try.checked) false ⟨#[], #[.slice none 0 0, .int .i64 0], []⟩ 8 (by kernel_rfl) (by kernel_rfl) (by kernel_rfl) (by kernel_rfl)) ?_
  intro W base args ds gs before hval0 hW hcnd _
  have hval : ∀ (j : Nat) t v, Try.f11.params[j]? = some t → args[j]? = some v → Value.okWide Try.prog W .any base t v := hval0
  have hW' := hW
  obtain ⟨p, q, hA0, hV, rfl, hfz, hnd⟩ := hW
  have hA : DataW.TrodAll enc Try.prog W 0 (fun _ => true) true Try.f11.params.toList args.toList ds p := hA0
  rw [Try.params11] at hA hval
  obtain ⟨v0, v1, d0, d1, p0, p1, rfl, rfl, rfl, h0, h1⟩ := trodAll_two hA
  obtain ⟨rfl, rfl⟩ := trodVars_none hV
  obtain ⟨d0', hd0, hs0⟩ := open_shareSS (hval 0 49 v0 rfl rfl) h0
  obtain ⟨d1', rfl, rfl, rfl, wn1⟩ := open_int Try.underlying2 (hval 1 2 v1 rfl rfl) h1
  clear hA0 hval0
  refine (law_TakeBack v0 d0' d1' W hd0 hs0 (wf_i64_range wn1)).mono fun e W' ⟨he, hx⟩ => ?_
  subst he
  exact ⟨_, rfl, law_post (T := 4) Try.laidOut (by kernel_rfl) (by kernel_rfl) Try.underlying4 (by kernel_rfl) rfl hW' rfl rfl rfl hx⟩

set_option maxHeartbeats 4000000 in
set_option maxRecDepth 100000 in
theorem FnExactTakeBack_closed : joinedFacts Try.prog 11 Try.f11 Rows.fnExactTakeBackSpec Rows.fnExactTakeBackRow = true := by
  unfold joinedFacts
  simp only [Bool.and_eq_true]
  repeat' apply And.intro
  all_goals first | with_reducible exact may_enter | with_reducible exact laid_out | with_reducible exact maps_rowed | with_reducible exact stops_heard | ((with_reducible refine lifted_is lifts_final ?_); rfl) | ((with_reducible refine made_is make_is ?_); rfl) | (as_aux_lemma => kernel_rfl)

theorem FnExactTakeBack_holds : Rows.FnExactTakeBackSaid :=
  OpenClaim.holds_of_wide 11 Try.f11 rfl rfl rfl rfl rfl rfl rfl ⟨rfl, rfl, rfl, rfl, rfl⟩ rfl rfl rfl rfl rfl (by kernel_rfl) Try.func11 FnExactTakeBack_closed
    (of_decide_eq_true (by kernel_rfl)) (by unfold Func.isWrapper; first | (rw [if_pos (by decide +kernel)]; kernel_rfl) | (rw [if_neg (by decide +kernel)]; exact ⟨rfl, rfl⟩))
    (fun os started H enc _ => FnExactTakeBack_lifted os started H enc)
#print axioms FnExactTakeBack_holds
end Go.Proofs.Ytbbppkcdgcajjaa
