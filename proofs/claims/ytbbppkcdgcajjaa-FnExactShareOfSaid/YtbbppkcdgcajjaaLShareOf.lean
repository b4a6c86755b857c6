/- The law on ShareOf: for every input it returns true. No condition. -/
import Derived.Test.YtbbppkcdgcajjaaInit
import Derived.Test.YtbbppkcdgcajjaaShareOf
import Derived.Test.YtbbppkcdgcajjaaMk
import Derived.Test.YtbbppkcdgcajjaaAppV
namespace Go.Proofs.Ytbbppkcdgcajjaa
open Go.ChangeShapes Go.WideShapes Go.ChangeAt Go.RowKit Go.Joins

set_option maxHeartbeats 400000 in
theorem laws_eqFraction (n d : Int) (w : World) :
    Calls Try.prog 58 #[.agg #[.int .i64 n, .int .i64 d], .agg #[.int .i64 n, .int .i64 d]] w fun e w' => e = .returned (.bool true) ∧ Ext w w' := by
  go_enter Try.func58, Try.ntmps58
  go_wp2
  go_ret
  exact ⟨rfl, by exact ExtC.ext⟩

set_option maxHeartbeats 4000000 in
set_option maxRecDepth 100000 in
theorem law_ShareOf (m : Int) (cv av : Value) (cs : List Int) (ap : List (List Int)) (w : World) (hc : RI w cv cs) (hl : cs.length ≤ 9223372036854775807) (ha : RowsR intKind w av ap) (hs : ShortRR ap) :
    Calls Try.prog 13 #[.agg #[.int .i64 m, cv, av]] w fun e w' => e = .returned (.bool true) ∧ Ext w w' := by
  obtain ⟨cp, cc, rfl, -, -⟩ := hc.form
  obtain ⟨pp, pc, rfl, -, -⟩ := ha.form
  have HC := Lib.hid hc
  have HA := Lib.hid ha
  have HS := Lib.hid hs
  clear hc ha hs
  go_enter Try.func13, Try.ntmps13
  go_wp2_with fail
  refine Calls.mono (laws_szElection m _ _ cs ap _ _ (HC.out.ext ExtC.ext) (HA.out.ext ExtC.ext) hl HS.out (by omega) (by omega)) ?_
  rintro e w' ⟨r, rfl, hr, hx⟩; obtain ⟨g1, rfl⟩ := hx.grow; clear hx
  rcases hr with hr | ⟨hr, n1, n2, n3⟩
  · go_wp2_with fail
    go_ret
    exact ⟨rfl, ExtC.ext⟩
  have hsh := Lib.hid (And.intro (shortRows_of n2 n3) (fun i (h : i < ap.length) => (by have := rsum_get ap i h; omega : ap[i].length ≤ 1048576)))
  obtain ⟨bb, hbb⟩ : ∃ b, okEB m cs ap = b := ⟨_, rfl⟩
  obtain ⟨fn, hfn⟩ : ∃ z, shN m cs ap = z := ⟨_, rfl⟩
  obtain ⟨fd, hfd⟩ : ∃ z, shD m cs ap = z := ⟨_, rfl⟩
  have HB := Lib.hid (And.intro hbb (And.intro hfn hfd)); clear hbb hfn hfd
  go_wp2_with fail
  refine Calls.mono (laws_toElection m _ _ cs ap _ (HC.out.ext ExtC.ext) (HA.out.ext ExtC.ext) n1 n2 n3) ?_
  rintro e w' ⟨q1, c1, p1, d1, mid1, rfl, o1, o2, -, -, hx⟩; obtain ⟨g2, rfl⟩ := hx.grow; clear hx
  have HO1 := Lib.hid (And.intro o1.ri o2.r); clear o1 o2
  go_wp2_with fail
  refine Calls.mono (spec_ShareOf' m _ _ cs ap _ (HO1.out.1.ext ExtC.ext) (HO1.out.2.ext ExtC.ext) n1 n2 hsh.out.2 bb HB.out.1 fn fd HB.out.2.1 HB.out.2.2) ?_
  rintro e w' ⟨rfl, hx⟩; obtain ⟨g3, rfl⟩ := hx.grow; clear hx
  go_wp2_with fail
  refine Calls.mono (laws_toElection m _ _ cs ap _ (HC.out.ext ExtC.ext) (HA.out.ext ExtC.ext) n1 n2 n3) ?_
  rintro e w' ⟨q2, c2, p2, d2, mid2, rfl, o1, o2, -, -, hx⟩; obtain ⟨g4, rfl⟩ := hx.grow; clear hx
  have HO2 := Lib.hid (And.intro o1.ri o2.r); clear o1 o2
  go_wp2_with fail
  refine Calls.mono (impl_ShareOf' m _ _ cs ap _ (HO2.out.1.ext ExtC.ext) (HO2.out.2.ext ExtC.ext) n1 n2 hsh.out.2 bb HB.out.1 fn fd HB.out.2.1 HB.out.2.2) ?_
  rintro e w' ⟨rfl, hx⟩; obtain ⟨g5, rfl⟩ := hx.grow; clear hx
  go_wp2_with fail
  refine Calls.mono (laws_eqFraction fn fd _) ?_
  rintro e w' ⟨rfl, hx⟩; obtain ⟨g6, rfl⟩ := hx.grow; clear hx
  go_wp2_with fail
  refine wp_region_mk 5 [(0, false), (1, false), (2, true), (3, true), (4, false)] (by kernel_rfl) (by kernel_rfl) ?_
  simp only [pickOps, List.getElem?_cons_succ, List.getElem?_cons_zero, List.drop_succ_cons, List.drop_zero]
  repeat (refine mks_q (fun K hK => ?_); go_simp; first | (refine hK _ ?_; clear hK K) | (apply Exists.intro; refine ⟨fun _ => ?_, hK _ ?_⟩; (fail); clear hK K))
  refine mks_m rfl (fun v => ∃ q c p d, v = .agg #[.int .i64 m, .slice (some ⟨q, 0, none⟩) cs.length c, .slice (some ⟨p, 0, none⟩) ap.length d]) (fun v x => Ext _ x ∧ ∃ cv' av', v = .agg #[.int .i64 m, cv', av'] ∧ RI x cv' cs ∧ RowsR intKind x av' ap) (fun v x y h k => ⟨h.1.trans k, by obtain ⟨cv', av', e, a, b⟩ := h.2; exact ⟨cv', av', e, a.ext k, b.ext k⟩⟩) (fun v x h => h.1) (fun x hx => ?_) ?_
  · go_simp
    refine (laws_toElection m _ _ cs ap x (HC.out.ext ((ExtC.ext : Ext w g6.fin).trans hx)) (HA.out.ext ((ExtC.ext : Ext w g6.fin).trans hx)) n1 n2 n3).mono ?_
    rintro e y ⟨q, c, p, d, mid, rfl, o1, o2, -, -, hy⟩
    exact ⟨_, rfl, ⟨q, c, p, d, rfl⟩, hx.trans hy, _, _, rfl, o1.ri, o2.r⟩
  rintro _ ⟨q, c, p, d, rfl⟩ K hK
  go_simp
  refine hK _ ?_; clear hK K
  refine mks_m rfl (fun v => v = .bool true) (fun v x => Ext _ x) (fun v x y h k => h.trans k) (fun v x h => h) (fun x hx => ?_) ?_
  · obtain ⟨hx, cv', av', e, a, b⟩ := hx
    simp only [Value.agg.injEq, Array.mk.injEq, List.cons.injEq, and_true, true_and] at e
    obtain ⟨rfl, rfl⟩ := e
    go_simp
    refine (laws_eqElection m _ _ _ _ cs ap x (HO2.out.1.ext ((ExtC.ext : Ext g4.fin g6.fin).trans hx)) (HO2.out.2.ext ((ExtC.ext : Ext g4.fin g6.fin).trans hx)) a b n1 hsh.out.1).mono ?_
    rintro e y ⟨rfl, hy⟩
    exact ⟨_, rfl, rfl, hx.trans hy⟩
  rintro _ rfl K hK
  go_simp
  refine hK _ ?_; clear hK K
  repeat (refine mks_q (fun K hK => ?_); go_simp; first | (refine hK _ ?_; clear hK K) | (apply Exists.intro; refine ⟨fun _ => ?_, hK _ ?_⟩; (fail); clear hK K))
  refine mks_nil ?_
  rintro x hx
  obtain ⟨g, rfl⟩ := hx.grow; clear hx
  go_wp2_with fail
  go_ret
  exact ⟨rfl, ExtC.ext⟩

set_option maxRecDepth 100000 in
theorem FnExactShareOf_lifted (os : Os) (started : os.Started) (H : Type) (enc : TypeId × Value → H) :
    ReturnsInHanded {} Try.checked os 13 .any (Rows.fnExactShareOfSpec.pre6 enc Try.prog Try.f13 Rows.fnExactShareOfRow.domain false) (Rows.fnExactShareOfSpec.post enc Try.prog Try.f13 false true false false) := by
  refine returnsInHanded_of_change (C := Try.checked) Try.own started (by kernel_rfl) Try.func13
    (ChangeSpec.witness6 (enc := enc) (C := Try.checked) false ⟨#[], #[.agg #[.int .i64 0, .slice none 0 0, .slice none 0 0]], []⟩ 8 (by kernel_rfl) (by kernel_rfl) (by kernel_rfl) (by kernel_rfl)) ?_
  intro W base args ds gs before hval0 hW hcnd _
  have hval : ∀ (j : Nat) t v, Try.f13.params[j]? = some t → args[j]? = some v → Value.okWide Try.prog W .any base t v := hval0
  have hW' := hW
  obtain ⟨p, q, hA0, hV, rfl, hfz, hnd⟩ := hW
  have hA : DataW.TrodAll enc Try.prog W 0 (fun _ => true) true Try.f13.params.toList args.toList ds p := hA0
  rw [Try.params13] at hA hval
  obtain ⟨v0, d0, rfl, rfl, h0⟩ := trodAll_one hA
  obtain ⟨rfl, rfl⟩ := trodVars_none hV
  obtain ⟨m, cv, av, cs, ap, rfl, hm, hc, hl, ha, hs⟩ := open_election (hval 0 38 v0 rfl rfl) h0
  clear hA0 hval0
  refine (law_ShareOf m cv av cs ap W hc hl ha hs).mono fun e W' ⟨he, hx⟩ => ?_
  subst he
  exact ⟨_, rfl, law_post (T := 4) Try.laidOut (by kernel_rfl) (by kernel_rfl) Try.underlying4 (by kernel_rfl) rfl hW' rfl rfl rfl hx⟩

set_option maxHeartbeats 4000000 in
set_option maxRecDepth 100000 in
theorem FnExactShareOf_closed : joinedFacts Try.prog 13 Try.f13 Rows.fnExactShareOfSpec Rows.fnExactShareOfRow = true := by
  unfold joinedFacts
  simp only [Bool.and_eq_true]
  repeat' apply And.intro
  all_goals first | with_reducible exact may_enter | with_reducible exact laid_out | with_reducible exact maps_rowed | with_reducible exact stops_heard | ((with_reducible refine lifted_is lifts_final ?_); rfl) | ((with_reducible refine made_is make_is ?_); rfl) | (as_aux_lemma => kernel_rfl)

theorem FnExactShareOf_holds : Rows.FnExactShareOfSaid :=
  OpenClaim.holds_of_wide 13 Try.f13 rfl rfl rfl rfl rfl rfl rfl ⟨rfl, rfl, rfl, rfl, rfl⟩ rfl rfl rfl rfl rfl (by kernel_rfl) Try.func13 FnExactShareOf_closed
    (of_decide_eq_true (by kernel_rfl)) (by unfold Func.isWrapper; first | (rw [if_pos (by decide +kernel)]; kernel_rfl) | (rw [if_neg (by decide +kernel)]; exact ⟨rfl, rfl⟩))
    (fun os started H enc _ => FnExactShareOf_lifted os started H enc)
#print axioms FnExactShareOf_holds
end Go.Proofs.Ytbbppkcdgcajjaa
