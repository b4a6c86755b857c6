/- The law on PanelsOf: for every input it returns true. No condition. -/
import Derived.Test.YtoedphgoaifojaaInit
import Derived.Test.YtoedphgoaifojaaPanelsOf
import Derived.Test.YtoedphgoaifojaaRowsMark
import Derived.Test.YtoedphgoaifojaaPool
import Derived.Test.YtoedphgoaifojaaQuotaMark
import Derived.Test.YtoedphgoaifojaaMk
namespace Go.Proofs.Ytoedphgoaifojaa
open Go.ChangeShapes Go.WideShapes Go.ChangeAt Go.RowKit Go.Joins

set_option maxHeartbeats 4000000 in
set_option maxRecDepth 100000 in
theorem law_PanelsOf (pe sz : Int) (qv : Value) (L : List QD) (w : World) (hq : RQ w qv L) (hs : ShortQR L) :
    Calls Try.prog 10 #[.agg #[.int .i64 pe, .int .i64 sz, qv]] w fun e w' => e = .returned (.bool true) ∧ Ext w w' := by
  obtain ⟨pp, pc, rfl, -⟩ := hq.form
  have HQ := Lib.hid hq
  have HS := Lib.hid hs
  clear hq hs
  go_enter Try.func10, Try.ntmps10
  go_wp2_with fail
  refine Calls.mono (laws_szPool pe sz _ L _ (HQ.out.ext ExtC.ext) HS.out) ?_
  rintro e w' ⟨r, rfl, hr, hx⟩; obtain ⟨g1, rfl⟩ := hx.grow; clear hx
  rcases hr with hr | ⟨hr, n1, n2⟩
  · go_wp2_with fail
    go_ret
    exact ⟨rfl, ExtC.ext⟩
  have hsh := Lib.hid (shortQ_of n1 n2)
  have hqc : qcnt L ≤ 4194304 := by rw [qcnt_sum]; omega
  obtain ⟨bb, hbb⟩ : ∃ b, okPB pe sz L = b := ⟨_, rfl⟩
  obtain ⟨xs, hxs⟩ : ∃ x, plX pe sz L = x := ⟨_, rfl⟩
  have hxm : xs.length ≤ 35 ∧ ∀ x ∈ xs, x.length ≤ 7 := by rw [← hxs]; exact plX_few
  have hsx : ShortRows xs := ⟨by omega, fun i h => by have := hxm.2 _ (List.getElem_mem h); omega⟩
  have hxc : (cntRows intKind xs : Int) ≤ 4194304 := by have := cnt_few' xs 7 hxm.2; omega
  replace hxm := hxm.1
  go_wp2_with fail
  refine Calls.mono (laws_toPool pe sz _ L _ (HQ.out.ext ExtC.ext) n1 n2) ?_
  rintro e w' ⟨qa, ca, rfl, oa, hx⟩; obtain ⟨g2, rfl⟩ := hx.grow; clear hx
  have HPa := Lib.hid oa; clear oa
  go_wp2_with fail
  refine Calls.mono (spec_PanelsOf' pe sz _ L _ (HPa.out.ext ExtC.ext).rq  hsh.out  bb hbb xs hxs) ?_
  rintro e w' ⟨s0, rfl, so, hx⟩; obtain ⟨g3, rfl⟩ := hx.grow; clear hx
  have HSo := Lib.hid so; clear so
  go_wp2_with fail
  refine Calls.mono (laws_toPool pe sz _ L _ (HQ.out.ext ExtC.ext) n1 n2) ?_
  rintro e w' ⟨qb, cb, rfl, ob, hx⟩; obtain ⟨g4, rfl⟩ := hx.grow; clear hx
  have HPb := Lib.hid ob; clear ob
  go_wp2_with fail
  refine Calls.mono (impl_PanelsOf' pe sz _ L _ (HPb.out.ext ExtC.ext).rq  hsh.out  bb hbb xs hxs) ?_
  rintro e w' ⟨r0, rfl, ro, hx⟩; obtain ⟨g5, rfl⟩ := hx.grow; clear hx
  have HRo := Lib.hid ro; clear ro
  go_wp2_with fail
  refine Calls.mono (laws_eqInt64SS r0 s0 xs xs true (by simp) _ (HRo.out.ext ExtC.ext).r (HSo.out.ext ExtC.ext).r hsx hsx) ?_
  rintro e w' ⟨rfl, hx⟩; obtain ⟨g6, rfl⟩ := hx.grow; clear hx
  go_wp2_with fail
  refine wp_region_mk 5 [(0, false), (1, false), (2, true), (3, true), (4, false)] (by kernel_rfl) (by kernel_rfl) ?_
  simp only [pickOps, List.getElem?_cons_succ, List.getElem?_cons_zero, List.drop_succ_cons, List.drop_zero]
  repeat (refine mks_q (fun K hK => ?_); go_simp; first | (refine hK _ ?_; clear hK K) | (apply Exists.intro; refine ⟨fun _ => ?_, hK _ ?_⟩; (fail); clear hK K))
  refine mks_m rfl (fun v => ∃ q c, v = .agg #[.int .i64 pe, .int .i64 sz, .slice (some ⟨q, 0, none⟩) L.length c]) (fun v x => Ext _ x ∧ ∃ v', v = .agg #[.int .i64 pe, .int .i64 sz, v'] ∧ RQ x v' L) (fun v x y h k => ⟨h.1.trans k, by obtain ⟨v', e, a⟩ := h.2; exact ⟨v', e, a.ext k⟩⟩) (fun v x h => h.1) (fun x hx => ?_) ?_
  · go_simp
    refine (laws_toPool pe sz _ L x (HQ.out.ext ((ExtC.ext : Ext w g6.fin).trans hx)) n1 n2).mono ?_
    rintro e y ⟨q, c, rfl, o1, hy⟩
    exact ⟨_, rfl, ⟨q, c, rfl⟩, hx.trans hy, _, rfl, o1.rq⟩
  rintro _ ⟨q, c, rfl⟩ K hK
  go_simp
  refine hK _ ?_; clear hK K
  refine mks_m rfl (fun v => v = .bool true) (fun v x => Ext _ x) (fun v x y h k => h.trans k) (fun v x h => h) (fun x hx => ?_) ?_
  · obtain ⟨hx, v', e, a⟩ := hx
    simp only [Value.agg.injEq, Array.mk.injEq, List.cons.injEq, and_true, true_and] at e
    obtain rfl := e
    go_simp
    refine (laws_eqPool pe sz _ _ L x (HPb.out.rq.ext ((ExtC.ext : Ext g4.fin g6.fin).trans hx)) a hsh.out).mono ?_
    rintro e y ⟨rfl, hy⟩
    exact ⟨_, rfl, rfl, hx.trans hy⟩
  rintro _ rfl K hK
  go_simp
  refine hK _ ?_; clear hK K
  repeat (refine mks_q (fun K hK => ?_); go_simp; first | (refine hK _ ?_; clear hK K) | (apply Exists.intro; refine ⟨fun _ => ?_, hK _ ?_⟩; (fail); clear hK K))
  refine mks_nil ?_
  rintro x hx
  obtain ⟨g7, rfl⟩ := hx.grow; clear hx
  have hq0 : (1 : Int) ≤ 1 := by omega
  go_wp2_with fail
  refine Calls.mono (laws_markPool pe sz _ L 1 g7.fin _ _ (HPb.out.ext ExtC.ext) (by omega) (by omega)) ?_
  rintro e w' ⟨rfl, hr⟩
  have HSoz := Lib.hid ((HSo.out.ext (ExtC.ext : Ext g3.fin g7.fin)).rng hr (.inl (by have := (ExtC.ext : Ext g3.fin g3.fin).size; (try simp only [World.size_alloc]); omega)))
  have HRoz := Lib.hid ((HRo.out.ext (ExtC.ext : Ext g5.fin g7.fin)).rng hr (.inr (by have := (ExtC.ext : Ext g4.fin g4.fin).size; (try simp only [World.size_alloc]); omega)))
  obtain ⟨g8, rfl⟩ := (Ext.rng (ExtC.ext : Ext (w.alloc (.cells #[.int .i64 pe, .int .i64 sz, .slice pp L.length pc] 24)) g7.fin) hr (by have := (ExtC.ext : Ext (w.alloc (.cells #[.int .i64 pe, .int .i64 sz, .slice pp L.length pc] 24)) g3.fin).size; (try simp only [World.size_alloc] at this ⊢); omega)).grow
  clear hr
  have hk : decide (1 + (qcnt L : Int) < 0) = false := by simp; omega
  have hk2 : ¬ (1 + (qcnt L : Int) < 0) := by omega
  go_wp2_with fail
  refine Calls.mono (laws_eqInt64SS r0 s0 xs xs true (by simp) _ (HRoz.out.ext ExtC.ext).r (HSoz.out.ext ExtC.ext).r hsx hsx) ?_
  rintro e w' ⟨rfl, hx⟩; obtain ⟨g9, rfl⟩ := hx.grow; clear hx
  have hcx : (cntRows intKind xs : Int) ≤ 4194304 := hxc
  go_wp2_with fail
  refine Calls.mono (laws_markInt64SS r0 xs 1 g9.fin _ _ (HRoz.out.ext ExtC.ext) (by omega) (by omega) (by omega)) ?_
  rintro e w' ⟨rfl, hmr, hr⟩
  have HSozz := Lib.hid ((HSoz.out.ext (ExtC.ext : Ext g8.fin g9.fin)).rng hr (.inl (by have := (ExtC.ext : Ext g3.fin g4.fin).size; (try simp only [World.size_alloc]); omega)))
  obtain ⟨g10, rfl⟩ := (Ext.rng (ExtC.ext : Ext (w.alloc (.cells #[.int .i64 pe, .int .i64 sz, .slice pp L.length pc] 24)) g9.fin) hr (by have := (ExtC.ext : Ext (w.alloc (.cells #[.int .i64 pe, .int .i64 sz, .slice pp L.length pc] 24)) g4.fin).size; (try simp only [World.size_alloc] at this ⊢); omega)).grow
  have HMr := Lib.hid hmr; clear hr hmr
  go_wp2_with fail
  refine Calls.mono (laws_heldInt64SS r0 xs 1 _ (HMr.out.ext ExtC.ext).r (by omega) (by omega) (by omega)) ?_
  rintro e w' ⟨rfl, hx⟩; obtain ⟨g11, rfl⟩ := hx.grow; clear hx
  have hk3 : decide (1 + (cntRows intKind xs : Int) < 0) = false := by simp; omega
  have hk4 : ¬ (1 + (cntRows intKind xs : Int) < 0) := by omega
  go_wp2_with fail
  refine Calls.mono (laws_toPool pe sz _ L _ (HQ.out.ext ExtC.ext) n1 n2) ?_
  rintro e w' ⟨qd, cd, rfl, od, hx⟩; obtain ⟨g12, rfl⟩ := hx.grow; clear hx
  have HPd := Lib.hid od; clear od
  go_wp2_with fail
  refine Calls.mono (impl_PanelsOf' pe sz _ L _ (HPd.out.ext ExtC.ext).rq  hsh.out  bb hbb xs hxs) ?_
  rintro e w' ⟨r1, rfl, rp, hx⟩; obtain ⟨g13, rfl⟩ := hx.grow; clear hx
  have HRp := Lib.hid rp; clear rp
  go_wp2_with fail
  refine Calls.mono (laws_eqInt64SS r1 s0 xs xs true (by simp) _ (HRp.out.ext ExtC.ext).r (HSozz.out.ext ExtC.ext).r hsx hsx) ?_
  rintro e w' ⟨rfl, hx⟩; obtain ⟨g14, rfl⟩ := hx.grow; clear hx
  go_wp2_with fail
  refine Calls.mono (laws_heldInt64SS r0 xs 1 _ (HMr.out.ext ExtC.ext).r (by omega) (by omega) (by omega)) ?_
  rintro e w' ⟨rfl, hx⟩; obtain ⟨g15, rfl⟩ := hx.grow; clear hx
  go_wp2_with fail
  go_ret
  exact ⟨rfl, ExtC.ext⟩

set_option maxRecDepth 100000 in
theorem FnExactPanelsOf_lifted (os : Os) (started : os.Started) (H : Type) (enc : TypeId × Value → H) :
    ReturnsInHanded {} Try.checked os 10 .any (Rows.fnExactPanelsOfSpec.pre6 enc Try.prog Try.f10 Rows.fnExactPanelsOfRow.domain false) (Rows.fnExactPanelsOfSpec.post enc Try.prog Try.f10 false true false false) := by
  refine returnsInHanded_of_change (C := Try.checked) Try.own started (by kernel_rfl) Try.func10
    (ChangeSpec.witness6 (enc := enc) (C := Try.checked) false ⟨#[], #[.agg #[.int .i64 0, .int .i64 0, .slice none 0 0]], []⟩ 8 (by kernel_rfl) (by kernel_rfl) (by kernel_rfl) (by kernel_rfl)) ?_
  intro W base args ds gs before hval0 hW hcnd _
  have hval : ∀ (j : Nat) t v, Try.f10.params[j]? = some t → args[j]? = some v → Value.okWide Try.prog W .any base t v := hval0
  have hW' := hW
  obtain ⟨p, q, hA0, hV, rfl, hfz, hnd⟩ := hW
  have hA : DataW.TrodAll enc Try.prog W 0 (fun _ => true) true Try.f10.params.toList args.toList ds p := hA0
  rw [Try.params10] at hA hval
  obtain ⟨v0, d0, rfl, rfl, h0⟩ := trodAll_one hA
  obtain ⟨rfl, rfl⟩ := trodVars_none hV
  obtain ⟨pe, sz, qv, L, rfl, hpe, hsz, hq, hs⟩ := open_pool (hval 0 24 v0 rfl rfl) h0
  clear hA0 hval0
  refine (law_PanelsOf pe sz qv L W hq hs).mono fun e W' ⟨he, hx⟩ => ?_
  subst he
  exact ⟨_, rfl, law_post (T := 4) Try.laidOut (by kernel_rfl) (by kernel_rfl) Try.underlying4 (by kernel_rfl) rfl hW' rfl rfl rfl hx⟩

set_option maxHeartbeats 4000000 in
set_option maxRecDepth 100000 in
theorem FnExactPanelsOf_closed : joinedFacts Try.prog 10 Try.f10 Rows.fnExactPanelsOfSpec Rows.fnExactPanelsOfRow = true := by
  unfold joinedFacts
  simp only [Bool.and_eq_true]
  repeat' apply And.intro
  all_goals first | with_reducible exact may_enter | with_reducible exact laid_out | with_reducible exact maps_rowed | with_reducible exact stops_heard | ((with_reducible refine lifted_is lifts_final ?_); rfl) | ((with_reducible refine made_is make_is ?_); rfl) | (as_aux_lemma => kernel_rfl)

theorem FnExactPanelsOf_holds : Rows.FnExactPanelsOfSaid :=
  OpenClaim.holds_of_wide 10 Try.f10 rfl rfl rfl rfl rfl rfl rfl ⟨rfl, rfl, rfl, rfl, rfl⟩ rfl rfl rfl rfl rfl (by kernel_rfl) Try.func10 FnExactPanelsOf_closed
    (of_decide_eq_true (by kernel_rfl)) (by unfold Func.isWrapper; first | (rw [if_pos (by decide +kernel)]; kernel_rfl) | (rw [if_neg (by decide +kernel)]; exact ⟨rfl, rfl⟩))
    (fun os started H enc _ => FnExactPanelsOf_lifted os started H enc)
#print axioms FnExactPanelsOf_holds
end Go.Proofs.Ytoedphgoaifojaa
