/- The law on ValidPool: for every input it returns true. No condition. -/
import Derived.Test.YtoedphgoaifojaaInit
import Derived.Test.YtoedphgoaifojaaPoolOk
import Derived.Test.YtoedphgoaifojaaPool
import Derived.Test.YtoedphgoaifojaaMk
namespace Go.Proofs.Ytoedphgoaifojaa
open Go.ChangeShapes Go.WideShapes Go.ChangeAt Go.RowKit Go.Joins

set_option maxHeartbeats 4000000 in
set_option maxRecDepth 100000 in
theorem law_ValidPool (pe sz : Int) (qv : Value) (L : List QD) (w : World) (hq : RQ w qv L) (hs : ShortQR L) :
    Calls Try.prog 3 #[.agg #[.int .i64 pe, .int .i64 sz, qv]] w fun e w' => e = .returned (.bool true) ∧ Ext w w' := by
  obtain ⟨p, c, rfl, -⟩ := hq.form
  have HQ := Lib.hid hq
  have HS := Lib.hid hs
  clear hq hs
  go_enter Try.func3, Try.ntmps3
  go_wp2_with fail
  refine Calls.mono (laws_szPool pe sz _ L _ (HQ.out.ext ExtC.ext) HS.out) ?_
  rintro e w' ⟨r, rfl, hr, hx⟩; obtain ⟨g1, rfl⟩ := hx.grow; clear hx
  rcases hr with hr | ⟨hr, n1, n2⟩
  · go_wp2_with fail
    go_ret
    exact ⟨rfl, ExtC.ext⟩
  have hsh := Lib.hid (shortQ_of n1 n2)
  go_wp2_with fail
  refine Calls.mono (laws_toPool pe sz _ L _ (HQ.out.ext ExtC.ext) n1 n2) ?_
  rintro e w' ⟨q1, c1, rfl, o1, hx⟩; obtain ⟨g2, rfl⟩ := hx.grow; clear hx
  have HO1 := Lib.hid o1.rq; clear o1
  go_wp2_with fail
  refine Calls.mono (spec_ValidPool pe sz _ L _ (HO1.out.ext ExtC.ext) hsh.out) ?_
  rintro e w' ⟨⟨b1, rfl, hb1⟩, hx⟩; obtain ⟨g3, rfl⟩ := hx.grow; clear hx
  go_wp2_with fail
  refine Calls.mono (laws_toPool pe sz _ L _ (HQ.out.ext ExtC.ext) n1 n2) ?_
  rintro e w' ⟨q2, c2, rfl, o2, hx⟩; obtain ⟨g4, rfl⟩ := hx.grow; clear hx
  have HO2 := Lib.hid o2.rq; clear o2
  go_wp2_with fail
  refine Calls.mono (impl_ValidPool pe sz _ L _ (HO2.out.ext ExtC.ext) hsh.out) ?_
  rintro e w' ⟨⟨b2, rfl, hb2⟩, hx⟩; obtain ⟨g5, rfl⟩ := hx.grow; clear hx
  have hbb : b2 = b1 := by rw [Bool.eq_iff_iff, hb1, hb2]
  subst hbb
  clear hb1 hb2
  go_wp2_with fail
  refine wp_region_mk 5 [(0, false), (1, false), (2, true), (3, true), (4, false)] (by kernel_rfl) (by kernel_rfl) ?_
  simp only [pickOps, List.getElem?_cons_succ, List.getElem?_cons_zero, List.drop_succ_cons, List.drop_zero]
  repeat (refine mks_q (fun K hK => ?_); go_simp; first | (refine hK _ ?_; clear hK K) | (apply Exists.intro; refine ⟨fun _ => ?_, hK _ ?_⟩; (fail); clear hK K))
  refine mks_m rfl (fun v => ∃ q c, v = .agg #[.int .i64 pe, .int .i64 sz, .slice (some ⟨q, 0, none⟩) L.length c]) (fun v x => Ext _ x ∧ ∃ v', v = .agg #[.int .i64 pe, .int .i64 sz, v'] ∧ RQ x v' L) (fun v x y h k => ⟨h.1.trans k, by obtain ⟨v', e, a⟩ := h.2; exact ⟨v', e, a.ext k⟩⟩) (fun v x h => h.1) (fun x hx => ?_) ?_
  · go_simp
    refine (laws_toPool pe sz _ L x (HQ.out.ext ((ExtC.ext : Ext w g5.fin).trans hx)) n1 n2).mono ?_
    rintro e y ⟨q, c, rfl, o1, hy⟩
    exact ⟨_, rfl, ⟨q, c, rfl⟩, hx.trans hy, _, rfl, o1.rq⟩
  rintro _ ⟨q, c, rfl⟩ K hK
  go_simp
  refine hK _ ?_; clear hK K
  refine mks_m rfl (fun v => v = .bool true) (fun v x => Ext _ x) (fun v x y h k => h.trans k) (fun v x h => h) (fun x hx => ?_) ?_
  · obtain ⟨hx, v', e, a⟩ := hx
    simp only [Value.agg.injEq, Array.mk.injEq, List.cons.injEq, and_true, true_and] at e
    obtain rfl := e
    go_simp
    refine (laws_eqPool pe sz _ _ L x (HO2.out.ext ((ExtC.ext : Ext g4.fin g5.fin).trans hx)) a hsh.out).mono ?_
    rintro e y ⟨rfl, hy⟩
    exact ⟨_, rfl, rfl, hx.trans hy⟩
  rintro _ rfl K hK
  go_simp
  refine hK _ ?_; clear hK K
  repeat (refine mks_q (fun K hK => ?_); go_simp; first | (refine hK _ ?_; clear hK K) | (apply Exists.intro; refine ⟨fun _ => ?_, hK _ ?_⟩; (fail); clear hK K))
  refine mks_nil ?_
  rintro x hx
  obtain ⟨g, rfl⟩ := hx.grow; clear hx
  go_wp2_with fail
  go_ret
  exact ⟨rfl, ExtC.ext⟩

set_option maxRecDepth 100000 in
theorem FnExactValidPool_lifted (os : Os) (started : os.Started) (H : Type) (enc : TypeId × Value → H) :
    ReturnsInHanded {} Try.checked os 3 .any (Rows.fnExactValidPoolSpec.pre6 enc Try.prog Try.f3 Rows.fnExactValidPoolRow.domain false) (Rows.fnExactValidPoolSpec.post enc Try.prog Try.f3 false true false false) := by
  refine returnsInHanded_of_change (C := Try.checked) Try.own started (by kernel_rfl) Try.func3
    (ChangeSpec.witness6 (enc := enc) (C := Try.checked) false ⟨#[], #[.agg #[.int .i64 0, .int .i64 0, .slice none 0 0]], []⟩ 8 (by kernel_rfl) (by kernel_rfl) (by kernel_rfl) (by kernel_rfl)) ?_
  intro W base args ds gs before hval0 hW hcnd _
  have hval : ∀ (j : Nat) t v, Try.f3.params[j]? = some t → args[j]? = some v → Value.okWide Try.prog W .any base t v := hval0
  have hW' := hW
  obtain ⟨p, q, hA0, hV, rfl, hfz, hnd⟩ := hW
  have hA : DataW.TrodAll enc Try.prog W 0 (fun _ => true) true Try.f3.params.toList args.toList ds p := hA0
  rw [Try.params3] at hA hval
  obtain ⟨v0, d0, rfl, rfl, h0⟩ := trodAll_one hA
  obtain ⟨rfl, rfl⟩ := trodVars_none hV
  obtain ⟨pe, sz, qv, L, rfl, hpe, hsz, hq, hs⟩ := open_pool (hval 0 24 v0 rfl rfl) h0
  clear hA0 hval0
  refine (law_ValidPool pe sz qv L W hq hs).mono fun e W' ⟨he, hx⟩ => ?_
  subst he
  exact ⟨_, rfl, law_post (T := 4) Try.laidOut (by kernel_rfl) (by kernel_rfl) Try.underlying4 (by kernel_rfl) rfl hW' rfl rfl rfl hx⟩

set_option maxHeartbeats 4000000 in
set_option maxRecDepth 100000 in
theorem FnExactValidPool_closed : joinedFacts Try.prog 3 Try.f3 Rows.fnExactValidPoolSpec Rows.fnExactValidPoolRow = true := by
  unfold joinedFacts
  simp only [Bool.and_eq_true]
  repeat' apply And.intro
  all_goals first | with_reducible exact may_enter | with_reducible exact laid_out | with_reducible exact maps_rowed | with_reducible exact stops_heard | ((with_reducible refine lifted_is lifts_final ?_); rfl) | ((with_reducible refine made_is make_is ?_); rfl) | (as_aux_lemma => kernel_rfl)

theorem FnExactValidPool_holds : Rows.FnExactValidPoolSaid :=
  OpenClaim.holds_of_wide 3 Try.f3 rfl rfl rfl rfl rfl rfl rfl ⟨rfl, rfl, rfl, rfl, rfl⟩ rfl rfl rfl rfl rfl (by kernel_rfl) Try.func3 FnExactValidPool_closed
    (of_decide_eq_true (by kernel_rfl)) (by unfold Func.isWrapper; first | (rw [if_pos (by decide +kernel)]; kernel_rfl) | (rw [if_neg (by decide +kernel)]; exact ⟨rfl, rfl⟩))
    (fun os started H enc _ => FnExactValidPool_lifted os started H enc)
#print axioms FnExactValidPool_holds
end Go.Proofs.Ytoedphgoaifojaa
