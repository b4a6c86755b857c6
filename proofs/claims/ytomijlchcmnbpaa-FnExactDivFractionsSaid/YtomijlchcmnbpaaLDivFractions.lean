/- The law on DivFractions: for every input it returns true. No condition. -/
import Derived.Test.YtomijlchcmnbpaaFracArg
import Derived.Test.YtomijlchcmnbpaaBox
namespace Go.Proofs.Ytomijlchcmnbpaa
open Go.ChangeShapes Go.WideShapes Go.ChangeAt Go.RowKit Go.Joins

set_option maxHeartbeats 1000000 in
theorem law_DivFractions (n d m e : Int) (w : World) :
    Calls Try.prog 12 #[.agg #[.int .i64 n, .int .i64 d], .agg #[.int .i64 m, .int .i64 e]] w fun e' w' => e' = .returned (.bool true) ∧ Ext w w' := by
  cases h1 : okF n d
  · skip
    go_enter Try.func12, Try.ntmps12
    go_wp2
    refine wp_region_box (V := .agg #[.int .i64 0, .int .i64 0]) 8 (.cells #[.int .i64 0, .int .i64 0] 27) (fun x b => ((x.setCell ⟨b, 0, none⟩ (.int .i64 0)).setCell ⟨b, 1, none⟩ (.int .i64 0))) (by kernel_rfl) (by kernel_rfl) rfl rfl (by intro a x; go_simp; rfl) rfl rfl rfl rfl ?hst (fun _ _ => ExtC.ext) ?_
    case hst => intro ev g0 g1 e1 e2; simp only [ptrTo] at e2; simp [go_sem, e1, e2]
    simp only [List.take_succ_cons, List.take_zero, List.drop_succ_cons, List.drop_zero]
    repeat (refine wpQuietE_step (fun K hK => ?_); go_simp; first | (refine hK _ ?_; clear hK K) | (apply Exists.intro; refine ⟨fun _ => ?_, hK _ ?_⟩; (first | (go_at_call 18; exact growE_of (laws_toFraction _ _ _)) | (go_at_call 33; exact growE_of (spec_DivFractions_no1 _ _ _ _ (by assumption) _); clear hK K))))
    refine wpQuietE_nil ?_
    intro b; refine ⟨rfl, rfl, ?_⟩; intro g0 g1 g hb; subst hb
    simp only [Act.put, ptrTo]
    go_wp2
    refine wp_region_box (V := .agg #[.int .i64 0, .int .i64 0]) 8 (.cells #[.int .i64 0, .int .i64 0] 27) (fun x b => ((x.setCell ⟨b, 0, none⟩ (.int .i64 0)).setCell ⟨b, 1, none⟩ (.int .i64 0))) (by kernel_rfl) (by kernel_rfl) rfl rfl (by intro a x; go_simp; rfl) rfl rfl rfl rfl ?hst (fun _ _ => ExtC.ext) ?_
    case hst => intro ev g0 g1 e1 e2; simp only [ptrTo] at e2; simp [go_sem, e1, e2]
    simp only [List.take_succ_cons, List.take_zero, List.drop_succ_cons, List.drop_zero]
    repeat (refine wpQuietE_step (fun K hK => ?_); go_simp; first | (refine hK _ ?_; clear hK K) | (apply Exists.intro; refine ⟨fun _ => ?_, hK _ ?_⟩; (first | (go_at_call 18; exact growE_of (laws_toFraction _ _ _)) | (go_at_call 34; exact growE_of (impl_DivFractions_no1 _ _ _ _ (by assumption) _); clear hK K))))
    refine wpQuietE_nil ?_
    intro b; refine ⟨rfl, rfl, ?_⟩; intro g0 g1 g hb; subst hb
    simp only [Act.put, ptrTo]
    go_wp2_with (first | (go_at_call 26; (with_reducible refine (laws_eqFraction _ _ _).mono ?_); rintro e w' ⟨rfl, hx⟩; obtain ⟨g, rfl⟩ := hx.grow; clear hx))
    go_ret
    exact ⟨rfl, ExtC.ext⟩
  cases h2 : okF m e
  · skip
    go_enter Try.func12, Try.ntmps12
    go_wp2
    refine wp_region_box (V := .agg #[.int .i64 0, .int .i64 0]) 8 (.cells #[.int .i64 0, .int .i64 0] 27) (fun x b => ((x.setCell ⟨b, 0, none⟩ (.int .i64 0)).setCell ⟨b, 1, none⟩ (.int .i64 0))) (by kernel_rfl) (by kernel_rfl) rfl rfl (by intro a x; go_simp; rfl) rfl rfl rfl rfl ?hst (fun _ _ => ExtC.ext) ?_
    case hst => intro ev g0 g1 e1 e2; simp only [ptrTo] at e2; simp [go_sem, e1, e2]
    simp only [List.take_succ_cons, List.take_zero, List.drop_succ_cons, List.drop_zero]
    repeat (refine wpQuietE_step (fun K hK => ?_); go_simp; first | (refine hK _ ?_; clear hK K) | (apply Exists.intro; refine ⟨fun _ => ?_, hK _ ?_⟩; (first | (go_at_call 18; exact growE_of (laws_toFraction _ _ _)) | (go_at_call 33; exact growE_of (spec_DivFractions_no2 _ _ _ _ (by assumption) (by assumption) _); clear hK K))))
    refine wpQuietE_nil ?_
    intro b; refine ⟨rfl, rfl, ?_⟩; intro g0 g1 g hb; subst hb
    simp only [Act.put, ptrTo]
    go_wp2
    refine wp_region_box (V := .agg #[.int .i64 0, .int .i64 0]) 8 (.cells #[.int .i64 0, .int .i64 0] 27) (fun x b => ((x.setCell ⟨b, 0, none⟩ (.int .i64 0)).setCell ⟨b, 1, none⟩ (.int .i64 0))) (by kernel_rfl) (by kernel_rfl) rfl rfl (by intro a x; go_simp; rfl) rfl rfl rfl rfl ?hst (fun _ _ => ExtC.ext) ?_
    case hst => intro ev g0 g1 e1 e2; simp only [ptrTo] at e2; simp [go_sem, e1, e2]
    simp only [List.take_succ_cons, List.take_zero, List.drop_succ_cons, List.drop_zero]
    repeat (refine wpQuietE_step (fun K hK => ?_); go_simp; first | (refine hK _ ?_; clear hK K) | (apply Exists.intro; refine ⟨fun _ => ?_, hK _ ?_⟩; (first | (go_at_call 18; exact growE_of (laws_toFraction _ _ _)) | (go_at_call 34; exact growE_of (impl_DivFractions_no2 _ _ _ _ (by assumption) (by assumption) _); clear hK K))))
    refine wpQuietE_nil ?_
    intro b; refine ⟨rfl, rfl, ?_⟩; intro g0 g1 g hb; subst hb
    simp only [Act.put, ptrTo]
    go_wp2_with (first | (go_at_call 26; (with_reducible refine (laws_eqFraction _ _ _).mono ?_); rintro e w' ⟨rfl, hx⟩; obtain ⟨g, rfl⟩ := hx.grow; clear hx))
    go_ret
    exact ⟨rfl, ExtC.ext⟩
  by_cases h3 : m = 0
  · subst h3
    go_enter Try.func12, Try.ntmps12
    go_wp2
    refine wp_region_box (V := .agg #[.int .i64 0, .int .i64 0]) 8 (.cells #[.int .i64 0, .int .i64 0] 27) (fun x b => ((x.setCell ⟨b, 0, none⟩ (.int .i64 0)).setCell ⟨b, 1, none⟩ (.int .i64 0))) (by kernel_rfl) (by kernel_rfl) rfl rfl (by intro a x; go_simp; rfl) rfl rfl rfl rfl ?hst (fun _ _ => ExtC.ext) ?_
    case hst => intro ev g0 g1 e1 e2; simp only [ptrTo] at e2; simp [go_sem, e1, e2]
    simp only [List.take_succ_cons, List.take_zero, List.drop_succ_cons, List.drop_zero]
    repeat (refine wpQuietE_step (fun K hK => ?_); go_simp; first | (refine hK _ ?_; clear hK K) | (apply Exists.intro; refine ⟨fun _ => ?_, hK _ ?_⟩; (first | (go_at_call 18; exact growE_of (laws_toFraction _ _ _)) | (go_at_call 33; exact growE_of (spec_DivFractions_zero _ _ _ (by assumption) (by assumption) _); clear hK K))))
    refine wpQuietE_nil ?_
    intro b; refine ⟨rfl, rfl, ?_⟩; intro g0 g1 g hb; subst hb
    simp only [Act.put, ptrTo]
    go_wp2
    refine wp_region_box (V := .agg #[.int .i64 0, .int .i64 0]) 8 (.cells #[.int .i64 0, .int .i64 0] 27) (fun x b => ((x.setCell ⟨b, 0, none⟩ (.int .i64 0)).setCell ⟨b, 1, none⟩ (.int .i64 0))) (by kernel_rfl) (by kernel_rfl) rfl rfl (by intro a x; go_simp; rfl) rfl rfl rfl rfl ?hst (fun _ _ => ExtC.ext) ?_
    case hst => intro ev g0 g1 e1 e2; simp only [ptrTo] at e2; simp [go_sem, e1, e2]
    simp only [List.take_succ_cons, List.take_zero, List.drop_succ_cons, List.drop_zero]
    repeat (refine wpQuietE_step (fun K hK => ?_); go_simp; first | (refine hK _ ?_; clear hK K) | (apply Exists.intro; refine ⟨fun _ => ?_, hK _ ?_⟩; (first | (go_at_call 18; exact growE_of (laws_toFraction _ _ _)) | (go_at_call 34; exact growE_of (impl_DivFractions_zero _ _ _ _ (by assumption) (by assumption) rfl _); clear hK K))))
    refine wpQuietE_nil ?_
    intro b; refine ⟨rfl, rfl, ?_⟩; intro g0 g1 g hb; subst hb
    simp only [Act.put, ptrTo]
    go_wp2_with (first | (go_at_call 26; (with_reducible refine (laws_eqFraction _ _ _).mono ?_); rintro e w' ⟨rfl, hx⟩; obtain ⟨g, rfl⟩ := hx.grow; clear hx))
    go_ret
    exact ⟨rfl, ExtC.ext⟩
  have h4 : (m == 0) = false := by simpa using h3
  by_cases h5 : 1 ≤ m
  · clear h3
    go_enter Try.func12, Try.ntmps12
    go_wp2
    refine wp_region_box (V := .agg #[.int .i64 (keepI (okF (redN (n * e) (d * m)) (redD (n * e) (d * m))) (redN (n * e) (d * m))), .int .i64 (keepI (okF (redN (n * e) (d * m)) (redD (n * e) (d * m))) (redD (n * e) (d * m)))]) 8 (.cells #[.int .i64 0, .int .i64 0] 27) (fun x b => ((x.setCell ⟨b, 0, none⟩ (.int .i64 (keepI (okF (redN (n * e) (d * m)) (redD (n * e) (d * m))) (redN (n * e) (d * m))))).setCell ⟨b, 1, none⟩ (.int .i64 (keepI (okF (redN (n * e) (d * m)) (redD (n * e) (d * m))) (redD (n * e) (d * m)))))) (by kernel_rfl) (by kernel_rfl) rfl rfl (by intro a x; go_simp; rfl) rfl rfl rfl rfl ?hst (fun _ _ => ExtC.ext) ?_
    case hst => intro ev g0 g1 e1 e2; simp only [ptrTo] at e2; simp [go_sem, e1, e2]
    simp only [List.take_succ_cons, List.take_zero, List.drop_succ_cons, List.drop_zero]
    repeat (refine wpQuietE_step (fun K hK => ?_); go_simp; first | (refine hK _ ?_; clear hK K) | (apply Exists.intro; refine ⟨fun _ => ?_, hK _ ?_⟩; (first | (go_at_call 18; exact growE_of (laws_toFraction _ _ _)) | (go_at_call 33; exact growE_of (spec_DivFractions_pos _ _ _ _ (by assumption) (by assumption) (by assumption) _); clear hK K))))
    refine wpQuietE_nil ?_
    intro b; refine ⟨rfl, rfl, ?_⟩; intro g0 g1 g hb; subst hb
    simp only [Act.put, ptrTo]
    go_wp2
    refine wp_region_box (V := .agg #[.int .i64 (keepI (okF (redN (n * e) (d * m)) (redD (n * e) (d * m))) (redN (n * e) (d * m))), .int .i64 (keepI (okF (redN (n * e) (d * m)) (redD (n * e) (d * m))) (redD (n * e) (d * m)))]) 8 (.cells #[.int .i64 0, .int .i64 0] 27) (fun x b => ((x.setCell ⟨b, 0, none⟩ (.int .i64 (keepI (okF (redN (n * e) (d * m)) (redD (n * e) (d * m))) (redN (n * e) (d * m))))).setCell ⟨b, 1, none⟩ (.int .i64 (keepI (okF (redN (n * e) (d * m)) (redD (n * e) (d * m))) (redD (n * e) (d * m)))))) (by kernel_rfl) (by kernel_rfl) rfl rfl (by intro a x; go_simp; rfl) rfl rfl rfl rfl ?hst (fun _ _ => ExtC.ext) ?_
    case hst => intro ev g0 g1 e1 e2; simp only [ptrTo] at e2; simp [go_sem, e1, e2]
    simp only [List.take_succ_cons, List.take_zero, List.drop_succ_cons, List.drop_zero]
    repeat (refine wpQuietE_step (fun K hK => ?_); go_simp; first | (refine hK _ ?_; clear hK K) | (apply Exists.intro; refine ⟨fun _ => ?_, hK _ ?_⟩; (first | (go_at_call 18; exact growE_of (laws_toFraction _ _ _)) | (go_at_call 34; exact growE_of (impl_DivFractions_pos _ _ _ _ (by assumption) (by assumption) (by assumption) (by assumption) _); clear hK K))))
    refine wpQuietE_nil ?_
    intro b; refine ⟨rfl, rfl, ?_⟩; intro g0 g1 g hb; subst hb
    simp only [Act.put, ptrTo]
    go_wp2_with (first | (go_at_call 26; (with_reducible refine (laws_eqFraction _ _ _).mono ?_); rintro e w' ⟨rfl, hx⟩; obtain ⟨g, rfl⟩ := hx.grow; clear hx))
    go_ret
    exact ⟨rfl, ExtC.ext⟩
  have h6 : m ≤ -1 := by omega
  clear h3 h5
  go_enter Try.func12, Try.ntmps12
  go_wp2
  refine wp_region_box (V := .agg #[.int .i64 (keepI (okF (redN (-n * e) (-d * m)) (redD (-n * e) (-d * m))) (redN (-n * e) (-d * m))), .int .i64 (keepI (okF (redN (-n * e) (-d * m)) (redD (-n * e) (-d * m))) (redD (-n * e) (-d * m)))]) 8 (.cells #[.int .i64 0, .int .i64 0] 27) (fun x b => ((x.setCell ⟨b, 0, none⟩ (.int .i64 (keepI (okF (redN (-n * e) (-d * m)) (redD (-n * e) (-d * m))) (redN (-n * e) (-d * m))))).setCell ⟨b, 1, none⟩ (.int .i64 (keepI (okF (redN (-n * e) (-d * m)) (redD (-n * e) (-d * m))) (redD (-n * e) (-d * m)))))) (by kernel_rfl) (by kernel_rfl) rfl rfl (by intro a x; go_simp; rfl) rfl rfl rfl rfl ?hst (fun _ _ => ExtC.ext) ?_
  case hst => intro ev g0 g1 e1 e2; simp only [ptrTo] at e2; simp [go_sem, e1, e2]
  simp only [List.take_succ_cons, List.take_zero, List.drop_succ_cons, List.drop_zero]
  repeat (refine wpQuietE_step (fun K hK => ?_); go_simp; first | (refine hK _ ?_; clear hK K) | (apply Exists.intro; refine ⟨fun _ => ?_, hK _ ?_⟩; (first | (go_at_call 18; exact growE_of (laws_toFraction _ _ _)) | (go_at_call 33; exact growE_of (spec_DivFractions_neg _ _ _ _ (by assumption) (by assumption) (by assumption) _); clear hK K))))
  refine wpQuietE_nil ?_
  intro b; refine ⟨rfl, rfl, ?_⟩; intro g0 g1 g hb; subst hb
  simp only [Act.put, ptrTo]
  go_wp2
  refine wp_region_box (V := .agg #[.int .i64 (keepI (okF (redN (-n * e) (-d * m)) (redD (-n * e) (-d * m))) (redN (-n * e) (-d * m))), .int .i64 (keepI (okF (redN (-n * e) (-d * m)) (redD (-n * e) (-d * m))) (redD (-n * e) (-d * m)))]) 8 (.cells #[.int .i64 0, .int .i64 0] 27) (fun x b => ((x.setCell ⟨b, 0, none⟩ (.int .i64 (keepI (okF (redN (-n * e) (-d * m)) (redD (-n * e) (-d * m))) (redN (-n * e) (-d * m))))).setCell ⟨b, 1, none⟩ (.int .i64 (keepI (okF (redN (-n * e) (-d * m)) (redD (-n * e) (-d * m))) (redD (-n * e) (-d * m)))))) (by kernel_rfl) (by kernel_rfl) rfl rfl (by intro a x; go_simp; rfl) rfl rfl rfl rfl ?hst (fun _ _ => ExtC.ext) ?_
  case hst => intro ev g0 g1 e1 e2; simp only [ptrTo] at e2; simp [go_sem, e1, e2]
  simp only [List.take_succ_cons, List.take_zero, List.drop_succ_cons, List.drop_zero]
  repeat (refine wpQuietE_step (fun K hK => ?_); go_simp; first | (refine hK _ ?_; clear hK K) | (apply Exists.intro; refine ⟨fun _ => ?_, hK _ ?_⟩; (first | (go_at_call 18; exact growE_of (laws_toFraction _ _ _)) | (go_at_call 34; exact growE_of (impl_DivFractions_neg _ _ _ _ (by assumption) (by assumption) (by assumption) (by assumption) _); clear hK K))))
  refine wpQuietE_nil ?_
  intro b; refine ⟨rfl, rfl, ?_⟩; intro g0 g1 g hb; subst hb
  simp only [Act.put, ptrTo]
  go_wp2_with (first | (go_at_call 26; (with_reducible refine (laws_eqFraction _ _ _).mono ?_); rintro e w' ⟨rfl, hx⟩; obtain ⟨g, rfl⟩ := hx.grow; clear hx))
  go_ret
  exact ⟨rfl, ExtC.ext⟩

set_option maxRecDepth 100000 in
theorem FnExactDivFractions_lifted (os : Os) (started : os.Started) (H : Type) (enc : TypeId × Value → H) :
    ReturnsInHanded {} Try.checked os 12 .any (Rows.fnExactDivFractionsSpec.pre6 enc Try.prog Try.f12 Rows.fnExactDivFractionsRow.domain false) (Rows.fnExactDivFractionsSpec.post enc Try.prog Try.f12 false true false false) := by
  refine returnsInHanded_of_change (C := Try.checked) Try.own started (by kernel_rfl) Try.func12
    (ChangeSpec.witness6 (enc := enc) (C := Try.checked) false ⟨#[], #[.agg #[.int .i64 0, .int .i64 0], .agg #[.int .i64 0, .int .i64 0]], []⟩ 8 (by kernel_rfl) (by kernel_rfl) (by kernel_rfl) (by kernel_rfl)) ?_
  intro W base args ds gs before hval0 hW hcnd _
  have hval : ∀ (j : Nat) t v, Try.f12.params[j]? = some t → args[j]? = some v → Value.okWide Try.prog W .any base t v := hval0
  have hW' := hW
  obtain ⟨p, q, hA0, hV, rfl, hfz, hnd⟩ := hW
  have hA : DataW.TrodAll enc Try.prog W 0 (fun _ => true) true Try.f12.params.toList args.toList ds p := hA0
  rw [Try.params12] at hA hval
  obtain ⟨v0, v1, d0, d1, p0, p1, rfl, rfl, rfl, h0, h1⟩ := trodAll_two hA
  obtain ⟨rfl, rfl⟩ := trodVars_none hV
  obtain ⟨n, d, rfl, hn, hd⟩ := open_frac (hval 0 25 v0 rfl rfl) h0
  obtain ⟨m, e', rfl, hm, he'⟩ := open_frac (hval 1 25 v1 rfl rfl) h1
  clear hA0 hval0
  refine (law_DivFractions n d m e' W).mono fun e W' ⟨he, hx⟩ => ?_
  subst he
  exact ⟨_, rfl, law_post (T := 4) Try.laidOut (by kernel_rfl) (by kernel_rfl) Try.underlying4 (by kernel_rfl) rfl hW' rfl rfl rfl hx⟩

theorem FnExactDivFractions_holds : Rows.FnExactDivFractionsSaid :=
  OpenClaim.holds_of_wide 12 Try.f12 rfl rfl rfl rfl rfl rfl rfl ⟨rfl, rfl, rfl, rfl, rfl⟩ rfl rfl rfl rfl rfl (by kernel_rfl) Try.func12 (by kernel_rfl)
    (of_decide_eq_true (by kernel_rfl)) (by unfold Func.isWrapper; first | (rw [if_pos (by decide +kernel)]; kernel_rfl) | (rw [if_neg (by decide +kernel)]; exact ⟨rfl, rfl⟩))
    (fun os started H enc _ => FnExactDivFractions_lifted os started H enc)
#print axioms FnExactDivFractions_holds
end Go.Proofs.Ytomijlchcmnbpaa
