/- The law on SupportersOf: for every input it returns true. No condition. -/
import Derived.Test.YtbbppkcdgcajjaaInit
import Derived.Test.YtbbppkcdgcajjaaSupp
import Derived.Test.YtbbppkcdgcajjaaElectMark
import Derived.Test.YtbbppkcdgcajjaaMk
import Derived.Test.YtbbppkcdgcajjaaAppV
namespace Go.Proofs.Ytbbppkcdgcajjaa
open Go.ChangeShapes Go.WideShapes Go.ChangeAt Go.RowKit Go.Joins

theorem cnt_rows (L : List (List Int)) : cntRows intKind L = rsum L := rfl

set_option maxHeartbeats 8000000 in
set_option maxRecDepth 100000 in
theorem law_SupportersOf (m : Int) (cv av : Value) (cs : List Int) (ap : List (List Int)) (p : Int) (w : World) (hc : RI w cv cs) (hl : cs.length ≤ 9223372036854775807) (ha : RowsR intKind w av ap) (hs : ShortRR ap) :
    Calls Try.prog 14 #[.agg #[.int .i64 m, cv, av], .int .i64 p] w fun e w' => e = .returned (.bool true) ∧ Ext w w' := by
  obtain ⟨cp, cc, rfl, -, -⟩ := hc.form
  obtain ⟨pp, pc, rfl, -, -⟩ := ha.form
  have HC := Lib.hid hc
  have HA := Lib.hid ha
  have HS := Lib.hid hs
  clear hc ha hs
  go_enter Try.func14, Try.ntmps14
  go_wp2_with fail
  refine Calls.mono (laws_szElection m _ _ cs ap _ _ (HC.out.ext ExtC.ext) (HA.out.ext ExtC.ext) hl HS.out (by omega) (by omega)) ?_
  rintro e w' ⟨r, rfl, hr, hx⟩; obtain ⟨g1, rfl⟩ := hx.grow; clear hx
  rcases hr with hr | ⟨hr, n1, n2, n3⟩
  · go_wp2_with fail
    go_ret
    exact ⟨rfl, ExtC.ext⟩
  have hsh := Lib.hid (And.intro (shortRows_of n2 n3) (fun i (h : i < ap.length) => (by have := rsum_get ap i h; omega : ap[i].length ≤ 1048576)))
  have hcn : cntRows intKind ap ≤ 1048576 := n3
  obtain ⟨bb, hbb⟩ : ∃ b, pjB m cs ap p = b := ⟨_, rfl⟩
  obtain ⟨xs, hxs⟩ : ∃ x, suppX m cs ap p = x := ⟨_, rfl⟩
  have hxm : xs.length ≤ 6 := by rw [← hxs]; exact suppX_small
  have HBX := Lib.hid (And.intro hbb hxs); clear hbb hxs
  go_wp2_with fail
  refine Calls.mono (laws_toElection m _ _ cs ap _ (HC.out.ext ExtC.ext) (HA.out.ext ExtC.ext) n1 n2 n3) ?_
  rintro e w' ⟨q1, c1, p1, d1, mid1, rfl, o1, o2, -, -, hx⟩; obtain ⟨g2, rfl⟩ := hx.grow; clear hx
  have HO1 := Lib.hid (And.intro o1.ri o2.r); clear o1 o2
  go_wp2_with fail
  refine Calls.mono (spec_SupportersOf' m _ _ cs ap p _ (HO1.out.1.ext ExtC.ext) (HO1.out.2.ext ExtC.ext) n1 n2 hsh.out.2 bb HBX.out.1 xs HBX.out.2) ?_
  rintro e w' ⟨s0, rfl, so, hx⟩; obtain ⟨g3, rfl⟩ := hx.grow; clear hx
  have SO := Lib.hid so; clear so
  go_wp2_with fail
  refine Calls.mono (laws_toElection m _ _ cs ap _ (HC.out.ext ExtC.ext) (HA.out.ext ExtC.ext) n1 n2 n3) ?_
  rintro e w' ⟨q2, c2, p2, d2, mid2, rfl, o1, o2, m1, m2, hx⟩; obtain ⟨g4, rfl⟩ := hx.grow; clear hx
  have HO2 := Lib.hid (And.intro o1 o2); clear o1 o2
  go_wp2_with fail
  refine Calls.mono (impl_SupportersOf' m _ _ cs ap p _ (HO2.out.1.ri.ext ExtC.ext) (HO2.out.2.r.ext ExtC.ext) n1 n2 hsh.out.2 bb HBX.out.1 xs HBX.out.2) ?_
  rintro e w' ⟨r0, rfl, ro, hx⟩; obtain ⟨g5, rfl⟩ := hx.grow; clear hx
  have RO := Lib.hid ro; clear ro
  go_wp2_with fail
  refine Calls.mono (laws_eqInt64S r0 s0 xs xs true (by simp) _ (RO.out.ri.ext ExtC.ext) (SO.out.ri.ext ExtC.ext) (by omega) (by omega)) ?_
  rintro e w' ⟨rfl, hx⟩; obtain ⟨g6, rfl⟩ := hx.grow; clear hx
  go_wp2_with fail
  refine wp_region_mk 5 [(0, false), (1, false), (2, true), (3, true), (4, false)] (by kernel_rfl) (by kernel_rfl) ?_
  simp only [pickOps, List.getElem?_cons_succ, List.getElem?_cons_zero, List.drop_succ_cons, List.drop_zero]
  repeat (refine mks_q (fun K hK => ?_); go_simp; first | (refine hK _ ?_; clear hK K) | (apply Exists.intro; refine ⟨fun _ => ?_, hK _ ?_⟩; (fail); clear hK K))
  refine mks_m rfl (fun v => ∃ q c p d, v = .agg #[.int .i64 m, .slice (some ⟨q, 0, none⟩) cs.length c, .slice (some ⟨p, 0, none⟩) ap.length d]) (fun v x => Ext _ x ∧ ∃ cv' av', v = .agg #[.int .i64 m, cv', av'] ∧ RI x cv' cs ∧ RowsR intKind x av' ap) (fun v x y h k => ⟨h.1.trans k, by obtain ⟨cv', av', e, a, b⟩ := h.2; exact ⟨cv', av', e, a.ext k, b.ext k⟩⟩) (fun v x h => h.1) (fun x hx => ?_) ?_
  · go_simp
    refine (laws_toElection m _ _ cs ap x (HC.out.ext ((ExtC.ext : Ext w g6.fin).trans hx)) (HA.out.ext ((ExtC.ext : Ext w g6.fin).trans hx)) n1 n2 n3).mono ?_
    rintro e y ⟨q, c, p, d, mid, rfl, o1, o2, -, -, hy⟩
    exact ⟨_, rfl, ⟨q, c, p, d, rfl⟩, hx.trans hy, _, _, rfl, o1.ri, o2.r⟩
  rintro _ ⟨q, c, p', d, rfl⟩ K hK
  go_simp
  refine hK _ ?_; clear hK K
  refine mks_m rfl (fun v => v = .bool true) (fun v x => Ext _ x) (fun v x y h k => h.trans k) (fun v x h => h) (fun x hx => ?_) ?_
  · obtain ⟨hx, cv', av', e, a, b⟩ := hx
    simp only [Value.agg.injEq, Array.mk.injEq, List.cons.injEq, and_true, true_and] at e
    obtain ⟨rfl, rfl⟩ := e
    go_simp
    refine (laws_eqElection m _ _ _ _ cs ap x (HO2.out.1.ri.ext ((ExtC.ext : Ext g4.fin g6.fin).trans hx)) (HO2.out.2.r.ext ((ExtC.ext : Ext g4.fin g6.fin).trans hx)) a b n1 hsh.out.1).mono ?_
    rintro e y ⟨rfl, hy⟩
    exact ⟨_, rfl, rfl, hx.trans hy⟩
  rintro _ rfl K hK
  go_simp
  refine hK _ ?_; clear hK K
  repeat (refine mks_q (fun K hK => ?_); go_simp; first | (refine hK _ ?_; clear hK K) | (apply Exists.intro; refine ⟨fun _ => ?_, hK _ ?_⟩; (fail); clear hK K))
  refine mks_nil ?_
  rintro x hx
  obtain ⟨g7, rfl⟩ := hx.grow; clear hx
  go_wp2_with fail
  have hz4 := (ExtC.ext : Ext g4.fin g7.fin).size
  refine Calls.mono (laws_markElection m q2 c2 p2 d2 cs ap 1 g7.fin g3.fin.heap.size mid2 g4.fin.heap.size (HO2.out.1.ext ExtC.ext) (HO2.out.2.ext ExtC.ext) m1 m2 hz4 n1 n2 hcn (by omega) (by omega)) ?_
  rintro e w' ⟨rfl, hr⟩
  have SOZ := Lib.hid ((SO.out.ext (ExtC.ext : Ext g3.fin g7.fin)).rng hr (.inl (Nat.le_refl _)))
  have ROZ := Lib.hid ((RO.out.ext (ExtC.ext : Ext g5.fin g7.fin)).rng hr (.inr (by simp)))
  obtain ⟨g8, rfl⟩ := (Ext.rng (ExtC.ext : Ext (w.alloc (.cells #[.int .i64 m, .slice cp cs.length cc, .slice pp ap.length pc] 38)) g7.fin) hr (ExtC.ext : Ext (w.alloc (.cells #[.int .i64 m, .slice cp cs.length cc, .slice pp ap.length pc] 38)) g3.fin).size).grow
  clear hr
  have hk : decide (1 + (cs.length : Int) + (cntRows intKind ap : Int) < 0) = false := by simp; omega
  have hk2 : ¬ (1 + (cs.length : Int) + (cntRows intKind ap : Int) < 0) := by omega
  go_wp2_with fail
  refine Calls.mono (laws_eqInt64S r0 s0 xs xs true (by simp) _ (ROZ.out.ri.ext ExtC.ext) (SOZ.out.ri.ext ExtC.ext) (by omega) (by omega)) ?_
  rintro e w' ⟨rfl, hx⟩; obtain ⟨g9, rfl⟩ := hx.grow; clear hx
  go_wp2_with fail
  refine Calls.mono (laws_markInt64S r0 xs 1 g9.fin _ _ (ROZ.out.ext ExtC.ext) (by omega) (by omega) (by omega)) ?_
  rintro e w' ⟨rfl, hmr, hr⟩
  have SOY := Lib.hid ((SOZ.out.ext (ExtC.ext : Ext g8.fin g9.fin)).rng hr (.inl (by have := (ExtC.ext : Ext g3.fin g4.fin).size; simp; omega)))
  obtain ⟨g10, rfl⟩ := (Ext.rng (ExtC.ext : Ext (w.alloc (.cells #[.int .i64 m, .slice cp cs.length cc, .slice pp ap.length pc] 38)) g9.fin) hr (by have := (ExtC.ext : Ext (w.alloc (.cells #[.int .i64 m, .slice cp cs.length cc, .slice pp ap.length pc] 38)) g4.fin).size; simp at this ⊢; omega)).grow
  have HMR := Lib.hid hmr
  clear hr hmr
  go_wp2_with fail
  refine Calls.mono (laws_heldInt64S r0 xs.length 1 _ (HMR.out.ri.ext ExtC.ext) (by omega) (by omega) (by omega)) ?_
  rintro e w' ⟨rfl, hx⟩; obtain ⟨g11, rfl⟩ := hx.grow; clear hx
  have hk3 : decide (1 + (xs.length : Int) < 0) = false := by simp; omega
  have hk4 : ¬ (1 + (xs.length : Int) < 0) := by omega
  go_wp2_with fail
  refine Calls.mono (laws_toElection m _ _ cs ap _ (HC.out.ext ExtC.ext) (HA.out.ext ExtC.ext) n1 n2 n3) ?_
  rintro e w' ⟨q3, c3, p3, d3, mid3, rfl, o1, o2, -, -, hx⟩; obtain ⟨g12, rfl⟩ := hx.grow; clear hx
  have HO3 := Lib.hid (And.intro o1.ri o2.r); clear o1 o2
  go_wp2_with fail
  refine Calls.mono (impl_SupportersOf' m _ _ cs ap p _ (HO3.out.1.ext ExtC.ext) (HO3.out.2.ext ExtC.ext) n1 n2 hsh.out.2 bb HBX.out.1 xs HBX.out.2) ?_
  rintro e w' ⟨r1, rfl, rp, hx⟩; obtain ⟨g13, rfl⟩ := hx.grow; clear hx
  have RP1 := Lib.hid rp.ri; clear rp
  go_wp2_with fail
  refine Calls.mono (laws_eqInt64S r1 s0 xs xs true (by simp) _ (RP1.out.ext ExtC.ext) (SOY.out.ri.ext ExtC.ext) (by omega) (by omega)) ?_
  rintro e w' ⟨rfl, hx⟩; obtain ⟨g14, rfl⟩ := hx.grow; clear hx
  go_wp2_with fail
  refine Calls.mono (laws_heldInt64S r0 xs.length 1 _ (HMR.out.ri.ext ExtC.ext) (by omega) (by omega) (by omega)) ?_
  rintro e w' ⟨rfl, hx⟩; obtain ⟨g15, rfl⟩ := hx.grow; clear hx
  go_wp2_with fail
  go_ret
  exact ⟨rfl, ExtC.ext⟩

set_option maxRecDepth 100000 in
theorem FnExactSupportersOf_lifted (os : Os) (started : os.Started) (H : Type) (enc : TypeId × Value → H) :
    ReturnsInHanded {} Try.checked os 14 .any (Rows.fnExactSupportersOfSpec.pre6 enc Try.prog Try.f14 Rows.fnExactSupportersOfRow.domain false) (Rows.fnExactSupportersOfSpec.post enc Try.prog Try.f14 false true false false) := by
  refine returnsInHanded_of_change (C := Try.checked) Try.own started (by kernel_rfl) Try.func14
    (ChangeSpec.witness6 (enc := enc) (C := Try.checked) false ⟨#[], #[.agg #[.int .i64 0, .slice none 0 0, .slice none 0 0], .int .i64 0], []⟩ 8 (by kernel_rfl) (by kernel_rfl) (by kernel_rfl) (by kernel_rfl)) ?_
  intro W base args ds gs before hval0 hW hcnd _
  have hval : ∀ (j : Nat) t v, Try.f14.params[j]? = some t → args[j]? = some v → Value.okWide Try.prog W .any base t v := hval0
  have hW' := hW
  obtain ⟨p, q, hA0, hV, rfl, hfz, hnd⟩ := hW
  have hA : DataW.TrodAll enc Try.prog W 0 (fun _ => true) true Try.f14.params.toList args.toList ds p := hA0
  rw [Try.params14] at hA hval
  obtain ⟨v0, v1, d0, d1, p0, p1, rfl, rfl, rfl, h0, h1⟩ := trodAll_two hA
  obtain ⟨rfl, rfl⟩ := trodVars_none hV
  obtain ⟨m, cv, av, cs, ap, rfl, hm, hc, hl, ha, hs⟩ := open_election (hval 0 38 v0 rfl rfl) h0
  obtain ⟨d1', rfl, rfl, rfl, wn1⟩ := open_int Try.underlying2 (hval 1 2 v1 rfl rfl) h1
  clear hA0 hval0
  refine (law_SupportersOf m cv av cs ap d1' W hc hl ha hs).mono fun e W' ⟨he, hx⟩ => ?_
  subst he
  exact ⟨_, rfl, law_post (T := 4) Try.laidOut (by kernel_rfl) (by kernel_rfl) Try.underlying4 (by kernel_rfl) rfl hW' rfl rfl rfl hx⟩

set_option maxHeartbeats 4000000 in
set_option maxRecDepth 100000 in
theorem FnExactSupportersOf_closed : joinedFacts Try.prog 14 Try.f14 Rows.fnExactSupportersOfSpec Rows.fnExactSupportersOfRow = true := by
  unfold joinedFacts
  simp only [Bool.and_eq_true]
  repeat' apply And.intro
  all_goals first | with_reducible exact may_enter | with_reducible exact laid_out | with_reducible exact maps_rowed | with_reducible exact stops_heard | ((with_reducible refine lifted_is lifts_final ?_); rfl) | ((with_reducible refine made_is make_is ?_); rfl) | (as_aux_lemma => kernel_rfl)

theorem FnExactSupportersOf_holds : Rows.FnExactSupportersOfSaid :=
  OpenClaim.holds_of_wide 14 Try.f14 rfl rfl rfl rfl rfl rfl rfl ⟨rfl, rfl, rfl, rfl, rfl⟩ rfl rfl rfl rfl rfl (by kernel_rfl) Try.func14 FnExactSupportersOf_closed
    (of_decide_eq_true (by kernel_rfl)) (by unfold Func.isWrapper; first | (rw [if_pos (by decide +kernel)]; kernel_rfl) | (rw [if_neg (by decide +kernel)]; exact ⟨rfl, rfl⟩))
    (fun os started H enc _ => FnExactSupportersOf_lifted os started H enc)
#print axioms FnExactSupportersOf_holds
end Go.Proofs.Ytbbppkcdgcajjaa
