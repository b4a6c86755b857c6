/- The law on SubstitutesFor: for every input it returns true. No condition. -/
import Derived.Test.YtoedphgoaifojaaInit
import Derived.Test.YtoedphgoaifojaaSubst
import Derived.Test.YtoedphgoaifojaaPool
import Derived.Test.YtoedphgoaifojaaQuotaMark
import Derived.Test.YtoedphgoaifojaaMk
namespace Go.Proofs.Ytoedphgoaifojaa
open Go.ChangeShapes Go.WideShapes Go.ChangeAt Go.RowKit Go.Joins

set_option maxHeartbeats 4000000 in
set_option maxRecDepth 100000 in
theorem law_SubstitutesFor (pe sz : Int) (qv : Value) (L : List QD) (v1 : Value) (d1 : List Int) (d2 : Int) (w : World) (hq : RQ w qv L) (hs : ShortQR L) (h1 : RI w v1 d1) (hl1 : d1.length ≤ 9223372036854775807) (hb1 : ∀ n ∈ d1, I64 n) (hi2 : I64 d2) :
    Calls Try.prog 7 #[.agg #[.int .i64 pe, .int .i64 sz, qv], v1, .int .i64 d2] w fun e w' => e = .returned (.bool true) ∧ Ext w w' := by
  obtain ⟨pp, pc, rfl, -⟩ := hq.form
  have HQ := Lib.hid hq
  have HS := Lib.hid hs
  clear hq hs
  have HV1 := Lib.hid h1
  have HB1 := Lib.hid hb1
  obtain ⟨vp1, vc1, rfl, -, -⟩ := h1.form
  clear h1 hb1
  by_cases hbig1 : (1048576 : Int) < d1.length
  · have e1 : decide ((1048576 : Int) < d1.length) = true := by simp [hbig1]
    go_enter Try.func7, Try.ntmps7
    go_wp2_with fail
    go_ret
    exact ⟨rfl, ExtC.ext⟩
  have e1 : decide ((1048576 : Int) < d1.length) = false := by simp; omega
  have hx1 : d1.length ≤ 1048576 := by omega
  go_enter Try.func7, Try.ntmps7
  go_wp2_with fail
  refine Calls.mono (laws_szPool pe sz _ L _ (HQ.out.ext ExtC.ext) HS.out) ?_
  rintro e w' ⟨r, rfl, hr, hx⟩; obtain ⟨g1, rfl⟩ := hx.grow; clear hx
  rcases hr with hr | ⟨hr, n1, n2⟩
  · go_wp2_with fail
    go_ret
    exact ⟨rfl, ExtC.ext⟩
  have hsh := Lib.hid (shortQ_of n1 n2)
  have hqc : qcnt L ≤ 4194304 := by rw [qcnt_sum]; omega
  obtain ⟨bb, hbb⟩ := boolOf (SubP pe sz L d1 d2)
  obtain ⟨xs, hxs⟩ : ∃ x, sbX pe sz L d1 d2 = x := ⟨_, rfl⟩
  have hxm : xs.length ≤ 7 := by rw [← hxs]; exact sbX_small
  have HBB := Lib.hid (And.intro hbb hxs); clear hbb hxs
  go_wp2_with fail
  refine Calls.mono (laws_toPool pe sz _ L _ (HQ.out.ext ExtC.ext) n1 n2) ?_
  rintro e w' ⟨qa, ca, rfl, oa, hx⟩; obtain ⟨g2, rfl⟩ := hx.grow; clear hx
  have HPa := Lib.hid oa; clear oa
  go_wp2_with fail
  refine Calls.mono (laws_toInt64S _ d1 _ (HV1.out.ext ExtC.ext) hx1) ?_
  rintro e w' ⟨t1a, rfl, ht, o, hx⟩; obtain ⟨g3, rfl⟩ := hx.grow; clear hx
  obtain ⟨tq1a, tc1a, rfl⟩ := o.form ht
  have HI1a := Lib.hid o; clear o ht
  go_wp2_with fail
  refine Calls.mono (spec_SubstitutesFor' pe sz _ _ d2 L d1 _ (HPa.out.ext ExtC.ext).rq (HI1a.out.ext ExtC.ext).ri hsh.out hx1 bb HBB.out.1 xs HBB.out.2) ?_
  rintro e w' ⟨s0, rfl, so, hx⟩; obtain ⟨g4, rfl⟩ := hx.grow; clear hx
  have HSo := Lib.hid so; clear so
  go_wp2_with fail
  refine Calls.mono (laws_toPool pe sz _ L _ (HQ.out.ext ExtC.ext) n1 n2) ?_
  rintro e w' ⟨qb, cb, rfl, ob, hx⟩; obtain ⟨g5, rfl⟩ := hx.grow; clear hx
  have HPb := Lib.hid ob; clear ob
  go_wp2_with fail
  refine Calls.mono (laws_toInt64S _ d1 _ (HV1.out.ext ExtC.ext) hx1) ?_
  rintro e w' ⟨t1b, rfl, ht, o, hx⟩; obtain ⟨g6, rfl⟩ := hx.grow; clear hx
  obtain ⟨tq1b, tc1b, rfl⟩ := o.form ht
  have HI1b := Lib.hid o; clear o ht
  go_wp2_with fail
  refine Calls.mono (impl_SubstitutesFor' pe sz _ _ d2 L d1 _ (HPb.out.ext ExtC.ext).rq (HI1b.out.ext ExtC.ext).ri hsh.out hx1 bb HBB.out.1 xs HBB.out.2) ?_
  rintro e w' ⟨r0, rfl, ro, hx⟩; obtain ⟨g7, rfl⟩ := hx.grow; clear hx
  have HRo := Lib.hid ro; clear ro
  go_wp2_with fail
  refine Calls.mono (laws_eqInt64S r0 s0 xs xs true (by simp) _ (HRo.out.ext ExtC.ext).ri (HSo.out.ext ExtC.ext).ri (by omega) (by omega)) ?_
  rintro e w' ⟨rfl, hx⟩; obtain ⟨g8, rfl⟩ := hx.grow; clear hx
  go_wp2_with fail
  refine wp_region_mk 5 [(0, false), (1, false), (2, true), (3, true), (4, false)] (by kernel_rfl) (by kernel_rfl) ?_
  simp only [pickOps, List.getElem?_cons_succ, List.getElem?_cons_zero, List.drop_succ_cons, List.drop_zero]
  repeat (refine mks_q (fun K hK => ?_); go_simp; first | (refine hK _ ?_; clear hK K) | (apply Exists.intro; refine ⟨fun _ => ?_, hK _ ?_⟩; (fail); clear hK K))
  refine mks_m rfl (fun v => ∃ q c, v = .agg #[.int .i64 pe, .int .i64 sz, .slice (some ⟨q, 0, none⟩) L.length c]) (fun v x => Ext _ x ∧ ∃ v', v = .agg #[.int .i64 pe, .int .i64 sz, v'] ∧ RQ x v' L) (fun v x y h k => ⟨h.1.trans k, by obtain ⟨v', e, a⟩ := h.2; exact ⟨v', e, a.ext k⟩⟩) (fun v x h => h.1) (fun x hx => ?_) ?_
  · go_simp
    refine (laws_toPool pe sz _ L x (HQ.out.ext ((ExtC.ext : Ext w g8.fin).trans hx)) n1 n2).mono ?_
    rintro e y ⟨q, c, rfl, o1, hy⟩
    exact ⟨_, rfl, ⟨q, c, rfl⟩, hx.trans hy, _, rfl, o1.rq⟩
  rintro _ ⟨q, c, rfl⟩ K hK
  go_simp
  refine hK _ ?_; clear hK K
  refine mks_m rfl (fun v => v = .bool true) (fun v x => Ext _ x) (fun v x y h k => h.trans k) (fun v x h => h) (fun x hx => ?_) ?_
  · obtain ⟨hx, v', e, a⟩ := hx
    simp only [Value.agg.injEq, Array.mk.injEq, List.cons.injEq, and_true, true_and] at e
    obtain rfl := e
    go_simp
    refine (laws_eqPool pe sz _ _ L x (HPb.out.rq.ext ((ExtC.ext : Ext g5.fin g8.fin).trans hx)) a hsh.out).mono ?_
    rintro e y ⟨rfl, hy⟩
    exact ⟨_, rfl, rfl, hx.trans hy⟩
  rintro _ rfl K hK
  go_simp
  refine hK _ ?_; clear hK K
  repeat (refine mks_q (fun K hK => ?_); go_simp; first | (refine hK _ ?_; clear hK K) | (apply Exists.intro; refine ⟨fun _ => ?_, hK _ ?_⟩; (fail); clear hK K))
  refine mks_nil ?_
  rintro x hx
  obtain ⟨g9, rfl⟩ := hx.grow; clear hx
  go_wp2_with fail
  refine Calls.mono (laws_toInt64S _ d1 _ (HV1.out.ext ExtC.ext) hx1) ?_
  rintro e w' ⟨t1c, rfl, ht, o, hx⟩; obtain ⟨g10, rfl⟩ := hx.grow; clear hx
  obtain ⟨tq1c, tc1c, rfl⟩ := o.form ht
  have HI1c := Lib.hid o; clear o ht
  go_wp2_with fail
  refine Calls.mono (laws_eqInt64S _ _ d1 d1 true (by simp) _ (HI1b.out.ext ExtC.ext).ri (HI1c.out.ext ExtC.ext).ri (by omega) (by omega)) ?_
  rintro e w' ⟨rfl, hx⟩; obtain ⟨g11, rfl⟩ := hx.grow; clear hx
  have hq0 : (1 : Int) ≤ 1 := by omega
  go_wp2_with fail
  refine Calls.mono (laws_markPool pe sz _ L 1 g11.fin _ _ (HPb.out.ext ExtC.ext) (by omega) (by omega)) ?_
  rintro e w' ⟨rfl, hr⟩
  have HSoz := Lib.hid ((HSo.out.ext (ExtC.ext : Ext g4.fin g11.fin)).rng hr (.inl (by have := (ExtC.ext : Ext g4.fin g4.fin).size; (try simp only [World.size_alloc]); omega)))
  have HRoz := Lib.hid ((HRo.out.ext (ExtC.ext : Ext g7.fin g11.fin)).rng hr (.inr (by have := (ExtC.ext : Ext g5.fin g6.fin).size; (try simp only [World.size_alloc]); omega)))
  have HI1bz := Lib.hid ((HI1b.out.ext (ExtC.ext : Ext g6.fin g11.fin)).rng hr (.inr (by have := (ExtC.ext : Ext g5.fin g5.fin).size; (try simp only [World.size_alloc]); omega)))
  obtain ⟨g12, rfl⟩ := (Ext.rng (ExtC.ext : Ext (w.alloc (.cells #[.int .i64 pe, .int .i64 sz, .slice pp L.length pc] 24)) g11.fin) hr (by have := (ExtC.ext : Ext (w.alloc (.cells #[.int .i64 pe, .int .i64 sz, .slice pp L.length pc] 24)) g4.fin).size; (try simp only [World.size_alloc] at this ⊢); omega)).grow
  clear hr
  go_wp2_with fail
  refine Calls.mono (laws_markInt64S (.slice (some ⟨tq1b, 0, none⟩) d1.length tc1b) d1 (1 + (qcnt L : Int)) g12.fin _ _ (HI1bz.out.ext ExtC.ext) (by omega) (by omega) (by omega)) ?_
  rintro e w' ⟨rfl, hmk0, hr⟩
  have HSozz := Lib.hid ((HSoz.out.ext (ExtC.ext : Ext g12.fin g12.fin)).rng hr (.inl (by have := (ExtC.ext : Ext g4.fin g5.fin).size; (try simp only [World.size_alloc]); omega)))
  have HRozz := Lib.hid ((HRoz.out.ext (ExtC.ext : Ext g12.fin g12.fin)).rng hr (.inr (by have := (ExtC.ext : Ext g6.fin g6.fin).size; (try simp only [World.size_alloc]); omega)))
  obtain ⟨g13, rfl⟩ := (Ext.rng (ExtC.ext : Ext (w.alloc (.cells #[.int .i64 pe, .int .i64 sz, .slice pp L.length pc] 24)) g12.fin) hr (by have := (ExtC.ext : Ext (w.alloc (.cells #[.int .i64 pe, .int .i64 sz, .slice pp L.length pc] 24)) g5.fin).size; (try simp only [World.size_alloc] at this ⊢); omega)).grow
  have HMk0 := Lib.hid hmk0; clear hr hmk0
  have hk : decide (1 + (qcnt L : Int) + (d1.length : Int) < 0) = false := by simp; omega
  have hk2 : ¬ (1 + (qcnt L : Int) + (d1.length : Int) < 0) := by omega
  go_wp2_with fail
  refine Calls.mono (laws_eqInt64S r0 s0 xs xs true (by simp) _ (HRozz.out.ext ExtC.ext).ri (HSozz.out.ext ExtC.ext).ri (by omega) (by omega)) ?_
  rintro e w' ⟨rfl, hx⟩; obtain ⟨g14, rfl⟩ := hx.grow; clear hx
  have hcx : (xs.length : Int) ≤ 4194304 := by omega
  go_wp2_with fail
  refine Calls.mono (laws_markInt64S r0 xs 1 g14.fin _ _ (HRozz.out.ext ExtC.ext) (by omega) (by omega) (by omega)) ?_
  rintro e w' ⟨rfl, hmr, hr⟩
  have HSozzz := Lib.hid ((HSozz.out.ext (ExtC.ext : Ext g13.fin g14.fin)).rng hr (.inl (by have := (ExtC.ext : Ext g4.fin g6.fin).size; (try simp only [World.size_alloc]); omega)))
  obtain ⟨g15, rfl⟩ := (Ext.rng (ExtC.ext : Ext (w.alloc (.cells #[.int .i64 pe, .int .i64 sz, .slice pp L.length pc] 24)) g14.fin) hr (by have := (ExtC.ext : Ext (w.alloc (.cells #[.int .i64 pe, .int .i64 sz, .slice pp L.length pc] 24)) g6.fin).size; (try simp only [World.size_alloc] at this ⊢); omega)).grow
  have HMr := Lib.hid hmr; clear hr hmr
  go_wp2_with fail
  refine Calls.mono (laws_heldInt64S r0 xs.length 1 _ (HMr.out.ext ExtC.ext).ri (by omega) (by omega) (by omega)) ?_
  rintro e w' ⟨rfl, hx⟩; obtain ⟨g16, rfl⟩ := hx.grow; clear hx
  have hk3 : decide (1 + (xs.length : Int) < 0) = false := by simp; omega
  have hk4 : ¬ (1 + (xs.length : Int) < 0) := by omega
  go_wp2_with fail
  refine Calls.mono (laws_toPool pe sz _ L _ (HQ.out.ext ExtC.ext) n1 n2) ?_
  rintro e w' ⟨qd, cd, rfl, od, hx⟩; obtain ⟨g17, rfl⟩ := hx.grow; clear hx
  have HPd := Lib.hid od; clear od
  go_wp2_with fail
  refine Calls.mono (laws_toInt64S _ d1 _ (HV1.out.ext ExtC.ext) hx1) ?_
  rintro e w' ⟨t1d, rfl, ht, o, hx⟩; obtain ⟨g18, rfl⟩ := hx.grow; clear hx
  obtain ⟨tq1d, tc1d, rfl⟩ := o.form ht
  have HI1d := Lib.hid o; clear o ht
  go_wp2_with fail
  refine Calls.mono (impl_SubstitutesFor' pe sz _ _ d2 L d1 _ (HPd.out.ext ExtC.ext).rq (HI1d.out.ext ExtC.ext).ri hsh.out hx1 bb HBB.out.1 xs HBB.out.2) ?_
  rintro e w' ⟨r1, rfl, rp, hx⟩; obtain ⟨g19, rfl⟩ := hx.grow; clear hx
  have HRp := Lib.hid rp; clear rp
  go_wp2_with fail
  refine Calls.mono (laws_eqInt64S r1 s0 xs xs true (by simp) _ (HRp.out.ext ExtC.ext).ri (HSozzz.out.ext ExtC.ext).ri (by omega) (by omega)) ?_
  rintro e w' ⟨rfl, hx⟩; obtain ⟨g20, rfl⟩ := hx.grow; clear hx
  go_wp2_with fail
  refine Calls.mono (laws_heldInt64S r0 xs.length 1 _ (HMr.out.ext ExtC.ext).ri (by omega) (by omega) (by omega)) ?_
  rintro e w' ⟨rfl, hx⟩; obtain ⟨g21, rfl⟩ := hx.grow; clear hx
  go_wp2_with fail
  go_ret
  exact ⟨rfl, ExtC.ext⟩

set_option maxRecDepth 100000 in
theorem FnExactSubstitutesFor_lifted (os : Os) (started : os.Started) (H : Type) (enc : TypeId × Value → H) :
    ReturnsInHanded {} Try.checked os 7 .any (Rows.fnExactSubstitutesForSpec.pre6 enc Try.prog Try.f7 Rows.fnExactSubstitutesForRow.domain false) (Rows.fnExactSubstitutesForSpec.post enc Try.prog Try.f7 false true false false) := by
  refine returnsInHanded_of_change (C := Try.checked) Try.own started (by kernel_rfl) Try.func7
    (ChangeSpec.witness6 (enc := enc) (C := Try.checked) false ⟨#[], #[.agg #[.int .i64 0, .int .i64 0, .slice none 0 0], .slice none 0 0, .int .i64 0], []⟩ 8 (by kernel_rfl) (by kernel_rfl) (by kernel_rfl) (by kernel_rfl)) ?_
  intro W base args ds gs before hval0 hW hcnd _
  have hval : ∀ (j : Nat) t v, Try.f7.params[j]? = some t → args[j]? = some v → Value.okWide Try.prog W .any base t v := hval0
  have hW' := hW
  obtain ⟨p, q, hA0, hV, rfl, hfz, hnd⟩ := hW
  have hA : DataW.TrodAll enc Try.prog W 0 (fun _ => true) true Try.f7.params.toList args.toList ds p := hA0
  rw [Try.params7] at hA hval
  obtain ⟨v0, v1, v2, d0, d1, d2, p0, p1, p2, rfl, rfl, rfl, h0, h1, h2⟩ := trodAll_three hA
  obtain ⟨rfl, rfl⟩ := trodVars_none hV
  obtain ⟨pe, sz, qv, L, rfl, hpe, hsz, hq, hs⟩ := open_pool (hval 0 24 v0 rfl rfl) h0
  obtain ⟨d1', hd1, hl1, hb1⟩ := open_i64s (hval 1 33 v1 rfl rfl) h1
  obtain ⟨d2', rfl, rfl, rfl, wn2⟩ := open_int Try.underlying2 (hval 2 2 v2 rfl rfl) h2
  clear hA0 hval0
  refine (law_SubstitutesFor pe sz qv L v1 d1' d2' W hq hs hd1 hl1 hb1 (wf_i64_range wn2)).mono fun e W' ⟨he, hx⟩ => ?_
  subst he
  exact ⟨_, rfl, law_post (T := 4) Try.laidOut (by kernel_rfl) (by kernel_rfl) Try.underlying4 (by kernel_rfl) rfl hW' rfl rfl rfl hx⟩

set_option maxHeartbeats 4000000 in
set_option maxRecDepth 100000 in
theorem FnExactSubstitutesFor_closed : joinedFacts Try.prog 7 Try.f7 Rows.fnExactSubstitutesForSpec Rows.fnExactSubstitutesForRow = true := by
  unfold joinedFacts
  simp only [Bool.and_eq_true]
  repeat' apply And.intro
  all_goals first | with_reducible exact may_enter | with_reducible exact laid_out | with_reducible exact maps_rowed | with_reducible exact stops_heard | ((with_reducible refine lifted_is lifts_final ?_); rfl) | ((with_reducible refine made_is make_is ?_); rfl) | (as_aux_lemma => kernel_rfl)

theorem FnExactSubstitutesFor_holds : Rows.FnExactSubstitutesForSaid :=
  OpenClaim.holds_of_wide 7 Try.f7 rfl rfl rfl rfl rfl rfl rfl ⟨rfl, rfl, rfl, rfl, rfl⟩ rfl rfl rfl rfl rfl (by kernel_rfl) Try.func7 FnExactSubstitutesFor_closed
    (of_decide_eq_true (by kernel_rfl)) (by unfold Func.isWrapper; first | (rw [if_pos (by decide +kernel)]; kernel_rfl) | (rw [if_neg (by decide +kernel)]; exact ⟨rfl, rfl⟩))
    (fun os started H enc _ => FnExactSubstitutesFor_lifted os started H enc)
#print axioms FnExactSubstitutesFor_holds
end Go.Proofs.Ytoedphgoaifojaa
