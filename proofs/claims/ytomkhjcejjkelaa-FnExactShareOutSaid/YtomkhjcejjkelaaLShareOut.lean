/- The law on ShareOut: for every input it returns true. No condition. -/
import Derived.Test.YtomkhjcejjkelaaInit
import Derived.Test.YtomkhjcejjkelaaArg
import Derived.Test.YtomkhjcejjkelaaOutJ
namespace Go.Proofs.Ytomkhjcejjkelaa
open Go.ChangeShapes Go.WideShapes Go.ChangeAt Go.RowKit Go.Joins

set_option maxHeartbeats 2000000 in
theorem law_ShareOut (d0 : Int) (v1 : Value) (d1 : List Int) (w : World) (_ : I64 d0) (h1 : RI w v1 d1) (hl1 : d1.length ≤ 9223372036854775807) (hb1 : ∀ n ∈ d1, I64 n) :
    Calls Try.prog 3 #[.int .i64 d0, v1] w fun e w' => e = .returned (.bool true) ∧ Ext w w' := by
  obtain ⟨q1, qc1, rfl, -, hq1⟩ := h1.form
  have HQ1 := Lib.hid hq1; clear hq1
  have HB1 := Lib.hid hb1; clear hb1
  by_cases hbig1 : 1048576 < d1.length
  · go_enter Try.func3, Try.ntmps3
    go_wp2_with fail
    go_ret
    exact ⟨rfl, ExtC.ext⟩
  go_enter Try.func3, Try.ntmps3
  obtain ⟨bb, hbb⟩ : ∃ b, outB d0 d1 = b := ⟨_, rfl⟩
  obtain ⟨xs, hxs⟩ : ∃ x, outX d0 d1 = x := ⟨_, rfl⟩
  have hxm : xs.length ≤ 20 := by rw [← hxs]; exact outX_small _ _
  go_wp2_with fail
  refine Calls.mono (laws_toInt64S _ d1 _ (h1.ext ExtC.ext) (by omega)) ?_
  rintro e w' ⟨x1a, rfl, n1a, o1a, hx⟩; obtain ⟨g1, rfl⟩ := hx.grow; clear hx
  go_wp2_with fail
  refine Calls.mono (spec_ShareOut' d0 x1a d1 _ (((o1a.is n1a).ext ExtC.ext).ri) (by omega) bb hbb xs hxs) ?_
  rintro e w' ⟨s0, rfl, so, hx⟩; obtain ⟨g2, rfl⟩ := hx.grow; clear hx
  go_wp2_with fail
  refine Calls.mono (laws_toInt64S _ d1 _ (h1.ext ExtC.ext) (by omega)) ?_
  rintro e w' ⟨x1b, rfl, n1b, o1b, hx⟩; obtain ⟨g3, rfl⟩ := hx.grow; clear hx
  go_wp2_with fail
  refine Calls.mono (impl_ShareOut' d0 x1b d1 _ (((o1b.is n1b).ext ExtC.ext).ri) (by omega) bb hbb xs hxs) ?_
  rintro e w' ⟨r0, rfl, ro, hx⟩; obtain ⟨g4, rfl⟩ := hx.grow; clear hx
  go_wp2_with fail
  refine Calls.mono (laws_eqInt64S r0 s0 xs xs true (by simp) _ (ro.ext ExtC.ext).ri (so.ext ExtC.ext).ri (by omega) (by omega)) ?_
  rintro e w' ⟨rfl, hx⟩; obtain ⟨g5, rfl⟩ := hx.grow; clear hx
  go_wp2_with fail
  refine Calls.mono (laws_toInt64S _ d1 _ (h1.ext ExtC.ext) (by omega)) ?_
  rintro e w' ⟨x1c, rfl, n1c, o1c, hx⟩; obtain ⟨g6, rfl⟩ := hx.grow; clear hx
  go_wp2_with fail
  refine Calls.mono (laws_eqInt64S x1b x1c d1 d1 true (by simp) _ (o1b.ext ExtC.ext).ri (o1c.ext ExtC.ext).ri (by omega) (by omega)) ?_
  rintro e w' ⟨rfl, hx⟩; obtain ⟨g7, rfl⟩ := hx.grow; clear hx
  have hq0 : (1 : Int) ≤ 1 := by omega
  go_wp2_with fail
  refine Calls.mono (laws_markInt64S x1b d1 (1) g7.fin _ _ (o1b.ext ExtC.ext) (by omega) (by omega) (by omega)) ?_
  rintro e w' ⟨rfl, hmk0, hr⟩
  have soz := (so.ext (ExtC.ext : Ext g2.fin g7.fin)).rng hr (.inl (ExtC.ext : Ext g2.fin g2.fin).size)
  have roz := (ro.ext (ExtC.ext : Ext g4.fin g7.fin)).rng hr (.inr (ExtC.ext : Ext g3.fin g3.fin).size)
  obtain ⟨g8, rfl⟩ := (Ext.rng (ExtC.ext : Ext w g7.fin) hr (ExtC.ext : Ext w g2.fin).size).grow
  clear hr
  have hk : decide (1 + (d1.length : Int) < 0) = false := by simp; omega
  have hk2 : ¬ (1 + (d1.length : Int) < 0) := by omega
  go_wp2_with fail
  refine Calls.mono (laws_eqInt64S r0 s0 xs xs true (by simp) _ (roz.ext ExtC.ext).ri (soz.ext ExtC.ext).ri (by omega) (by omega)) ?_
  rintro e w' ⟨rfl, hx⟩; obtain ⟨g9, rfl⟩ := hx.grow; clear hx
  have hcx : (xs.length : Int) ≤ 4194304 := by omega
  go_wp2_with fail
  refine Calls.mono (laws_markInt64S r0 xs 1 g9.fin _ _ (roz.ext ExtC.ext) (by omega) (by omega) (by omega)) ?_
  rintro e w' ⟨rfl, hmr, hr⟩
  have sozz := (soz.ext (ExtC.ext : Ext g8.fin g9.fin)).rng hr (.inl (ExtC.ext : Ext g2.fin g3.fin).size)
  obtain ⟨g10, rfl⟩ := (Ext.rng (ExtC.ext : Ext w g9.fin) hr (ExtC.ext : Ext w g3.fin).size).grow
  clear hr
  go_wp2_with fail
  refine Calls.mono (laws_heldInt64S r0 xs.length 1 _ (hmr.ext ExtC.ext).ri (by omega) (by omega) (by omega)) ?_
  rintro e w' ⟨rfl, hx⟩; obtain ⟨g11, rfl⟩ := hx.grow; clear hx
  have hk3 : decide (1 + (xs.length : Int) < 0) = false := by simp; omega
  have hk4 : ¬ (1 + (xs.length : Int) < 0) := by omega
  go_wp2_with fail
  refine Calls.mono (laws_toInt64S _ d1 _ (h1.ext ExtC.ext) (by omega)) ?_
  rintro e w' ⟨x1d, rfl, n1d, o1d, hx⟩; obtain ⟨g12, rfl⟩ := hx.grow; clear hx
  go_wp2_with fail
  refine Calls.mono (impl_ShareOut' d0 x1d d1 _ (((o1d.is n1d).ext ExtC.ext).ri) (by omega) bb hbb xs hxs) ?_
  rintro e w' ⟨r1, rfl, rp, hx⟩; obtain ⟨g13, rfl⟩ := hx.grow; clear hx
  go_wp2_with fail
  refine Calls.mono (laws_eqInt64S r1 s0 xs xs true (by simp) _ (rp.ext ExtC.ext).ri (sozz.ext ExtC.ext).ri (by omega) (by omega)) ?_
  rintro e w' ⟨rfl, hx⟩; obtain ⟨g14, rfl⟩ := hx.grow; clear hx
  go_wp2_with fail
  refine Calls.mono (laws_heldInt64S r0 xs.length 1 _ (hmr.ext ExtC.ext).ri (by omega) (by omega) (by omega)) ?_
  rintro e w' ⟨rfl, hx⟩; obtain ⟨g15, rfl⟩ := hx.grow; clear hx
  go_wp2_with fail
  go_ret
  exact ⟨rfl, ExtC.ext⟩

set_option maxRecDepth 100000 in
theorem FnExactShareOut_lifted (os : Os) (started : os.Started) (H : Type) (enc : TypeId × Value → H) :
    ReturnsInHanded {} Try.checked os 3 .any (Rows.fnExactShareOutSpec.pre6 enc Try.prog Try.f3 Rows.fnExactShareOutRow.domain false) (Rows.fnExactShareOutSpec.post enc Try.prog Try.f3 false true false false) := by
  refine returnsInHanded_of_change (C := Try.checked) Try.own started (by kernel_rfl) Try.func3
    (ChangeSpec.witness6 (enc := enc) (C := Try.checked) false ⟨#[], #[.int .i64 0, .slice none 0 0], []⟩ 8 (by kernel_rfl) (by kernel_rfl) (by kernel_rfl) (by kernel_rfl)) ?_
  intro W base args ds gs before hval0 hW hcnd _
  have hval : ∀ (j : Nat) t v, Try.f3.params[j]? = some t → args[j]? = some v → Value.okWide Try.prog W .any base t v := hval0
  have hW' := hW
  obtain ⟨p, q, hA0, hV, rfl, hfz, hnd⟩ := hW
  have hA : DataW.TrodAll enc Try.prog W 0 (fun _ => true) true Try.f3.params.toList args.toList ds p := hA0
  rw [Try.params3] at hA hval
  obtain ⟨v0, v1, d0, d1, p0, p1, rfl, rfl, rfl, h0, h1⟩ := trodAll_two hA
  obtain ⟨rfl, rfl⟩ := trodVars_none hV
  obtain ⟨d0', rfl, rfl, rfl, wn0⟩ := open_int Try.underlying2 (hval 0 2 v0 rfl rfl) h0
  obtain ⟨d1', hd1, hl1, hb1⟩ := open_i64s (hval 1 22 v1 rfl rfl) h1
  clear hA0 hval0
  refine (law_ShareOut d0' v1 d1' W (wf_i64_range wn0) hd1 hl1 hb1).mono fun e W' ⟨he, hx⟩ => ?_
  subst he
  exact ⟨_, rfl, law_post (T := 4) Try.laidOut (by kernel_rfl) (by kernel_rfl) Try.underlying4 (by kernel_rfl) rfl hW' rfl rfl rfl hx⟩

set_option maxHeartbeats 4000000 in
set_option maxRecDepth 100000 in
theorem FnExactShareOut_closed : joinedFacts Try.prog 3 Try.f3 Rows.fnExactShareOutSpec Rows.fnExactShareOutRow = true := by
  unfold joinedFacts
  simp only [Bool.and_eq_true]
  repeat' apply And.intro
  all_goals first | with_reducible exact may_enter | with_reducible exact laid_out | with_reducible exact maps_rowed | with_reducible exact stops_heard | ((with_reducible refine lifted_is lifts_final ?_); rfl) | ((with_reducible refine made_is make_is ?_); rfl) | (as_aux_lemma => kernel_rfl)

theorem FnExactShareOut_holds : Rows.FnExactShareOutSaid :=
  OpenClaim.holds_of_wide 3 Try.f3 rfl rfl rfl rfl rfl rfl rfl ⟨rfl, rfl, rfl, rfl, rfl⟩ rfl rfl rfl rfl rfl (by kernel_rfl) Try.func3 FnExactShareOut_closed
    (of_decide_eq_true (by kernel_rfl)) (by unfold Func.isWrapper; first | (rw [if_pos (by decide +kernel)]; kernel_rfl) | (rw [if_neg (by decide +kernel)]; exact ⟨rfl, rfl⟩))
    (fun os started H enc _ => FnExactShareOut_lifted os started H enc)
#print axioms FnExactShareOut_holds
end Go.Proofs.Ytomkhjcejjkelaa
