/- The law on MulFractions: for every input it returns true. No condition. -/
import Derived.Test.YtomijlchcmnbpaaFracArg
import Derived.Test.YtomijlchcmnbpaaBox
namespace Go.Proofs.Ytomijlchcmnbpaa
open Go.ChangeShapes Go.WideShapes Go.ChangeAt Go.RowKit Go.Joins

set_option maxHeartbeats 1000000 in
theorem law_MulFractions (n d m e : Int) (w : World) :
    Calls Try.prog 9 #[.agg #[.int .i64 n, .int .i64 d], .agg #[.int .i64 m, .int .i64 e]] w fun e' w' => e' = .returned (.bool true) ∧ Ext w w' := by
  cases h1 : okF n d
  · skip
    go_enter Try.func9, Try.ntmps9
    go_wp2
    refine wp_region_box (V := .agg #[.int .i64 0, .int .i64 0]) 8 (.cells #[.int .i64 0, .int .i64 0] 27) (fun x b => ((x.setCell ⟨b, 0, none⟩ (.int .i64 0)).setCell ⟨b, 1, none⟩ (.int .i64 0))) (by kernel_rfl) (by kernel_rfl) rfl rfl (by intro a x; go_simp; rfl) rfl rfl rfl rfl ?hst (fun _ _ => ExtC.ext) ?_
    case hst => intro ev g0 g1 e1 e2; simp only [ptrTo] at e2; simp [go_sem, e1, e2]
    simp only [List.take_succ_cons, List.take_zero, List.drop_succ_cons, List.drop_zero]
    repeat (refine wpQuietE_step (fun K hK => ?_); go_simp; first | (refine hK _ ?_; clear hK K) | (apply Exists.intro; refine ⟨fun _ => ?_, hK _ ?_⟩; (first | (go_at_call 18; exact growE_of (laws_toFraction _ _ _)) | (go_at_call 27; exact growE_of (spec_MulFractions_no1 _ _ _ _ (by assumption) _); clear hK K))))
    refine wpQuietE_nil ?_
    intro b; refine ⟨rfl, rfl, ?_⟩; intro g0 g1 g hb; subst hb
    simp only [Act.put, ptrTo]
    go_wp2
    refine wp_region_box (V := .agg #[.int .i64 0, .int .i64 0]) 8 (.cells #[.int .i64 0, .int .i64 0] 27) (fun x b => ((x.setCell ⟨b, 0, none⟩ (.int .i64 0)).setCell ⟨b, 1, none⟩ (.int .i64 0))) (by kernel_rfl) (by kernel_rfl) rfl rfl (by intro a x; go_simp; rfl) rfl rfl rfl rfl ?hst (fun _ _ => ExtC.ext) ?_
    case hst => intro ev g0 g1 e1 e2; simp only [ptrTo] at e2; simp [go_sem, e1, e2]
    simp only [List.take_succ_cons, List.take_zero, List.drop_succ_cons, List.drop_zero]
    repeat (refine wpQuietE_step (fun K hK => ?_); go_simp; first | (refine hK _ ?_; clear hK K) | (apply Exists.intro; refine ⟨fun _ => ?_, hK _ ?_⟩; (first | (go_at_call 18; exact growE_of (laws_toFraction _ _ _)) | (go_at_call 28; exact growE_of (impl_MulFractions_no1 _ _ _ _ (by assumption) _); clear hK K))))
    refine wpQuietE_nil ?_
    intro b; refine ⟨rfl, rfl, ?_⟩; intro g0 g1 g hb; subst hb
    simp only [Act.put, ptrTo]
    go_wp2_with (first | (go_at_call 26; (with_reducible refine (laws_eqFraction _ _ _).mono ?_); rintro e w' ⟨rfl, hx⟩; obtain ⟨g, rfl⟩ := hx.grow; clear hx))
    go_ret
    exact ⟨rfl, ExtC.ext⟩
  cases h2 : okF m e
  · skip
    go_enter Try.func9, Try.ntmps9
    go_wp2
    refine wp_region_box (V := .agg #[.int .i64 0, .int .i64 0]) 8 (.cells #[.int .i64 0, .int .i64 0] 27) (fun x b => ((x.setCell ⟨b, 0, none⟩ (.int .i64 0)).setCell ⟨b, 1, none⟩ (.int .i64 0))) (by kernel_rfl) (by kernel_rfl) rfl rfl (by intro a x; go_simp; rfl) rfl rfl rfl rfl ?hst (fun _ _ => ExtC.ext) ?_
    case hst => intro ev g0 g1 e1 e2; simp only [ptrTo] at e2; simp [go_sem, e1, e2]
    simp only [List.take_succ_cons, List.take_zero, List.drop_succ_cons, List.drop_zero]
    repeat (refine wpQuietE_step (fun K hK => ?_); go_simp; first | (refine hK _ ?_; clear hK K) | (apply Exists.intro; refine ⟨fun _ => ?_, hK _ ?_⟩; (first | (go_at_call 18; exact growE_of (laws_toFraction _ _ _)) | (go_at_call 27; exact growE_of (spec_MulFractions_no2 _ _ _ _ (by assumption) (by assumption) _); clear hK K))))
    refine wpQuietE_nil ?_
    intro b; refine ⟨rfl, rfl, ?_⟩; intro g0 g1 g hb; subst hb
    simp only [Act.put, ptrTo]
    go_wp2
    refine wp_region_box (V := .agg #[.int .i64 0, .int .i64 0]) 8 (.cells #[.int .i64 0, .int .i64 0] 27) (fun x b => ((x.setCell ⟨b, 0, none⟩ (.int .i64 0)).setCell ⟨b, 1, none⟩ (.int .i64 0))) (by kernel_rfl) (by kernel_rfl) rfl rfl (by intro a x; go_simp; rfl) rfl rfl rfl rfl ?hst (fun _ _ => ExtC.ext) ?_
    case hst => intro ev g0 g1 e1 e2; simp only [ptrTo] at e2; simp [go_sem, e1, e2]
    simp only [List.take_succ_cons, List.take_zero, List.drop_succ_cons, List.drop_zero]
    repeat (refine wpQuietE_step (fun K hK => ?_); go_simp; first | (refine hK _ ?_; clear hK K) | (apply Exists.intro; refine ⟨fun _ => ?_, hK _ ?_⟩; (first | (go_at_call 18; exact growE_of (laws_toFraction _ _ _)) | (go_at_call 28; exact growE_of (impl_MulFractions_no2 _ _ _ _ (by assumption) (by assumption) _); clear hK K))))
    refine wpQuietE_nil ?_
    intro b; refine ⟨rfl, rfl, ?_⟩; intro g0 g1 g hb; subst hb
    simp only [Act.put, ptrTo]
    go_wp2_with (first | (go_at_call 26; (with_reducible refine (laws_eqFraction _ _ _).mono ?_); rintro e w' ⟨rfl, hx⟩; obtain ⟨g, rfl⟩ := hx.grow; clear hx))
    go_ret
    exact ⟨rfl, ExtC.ext⟩
  go_enter Try.func9, Try.ntmps9
  go_wp2
  refine wp_region_box (V := .agg #[.int .i64 (keepI (okF (redN (n * m) (d * e)) (redD (n * m) (d * e))) (redN (n * m) (d * e))), .int .i64 (keepI (okF (redN (n * m) (d * e)) (redD (n * m) (d * e))) (redD (n * m) (d * e)))]) 8 (.cells #[.int .i64 0, .int .i64 0] 27) (fun x b => ((x.setCell ⟨b, 0, none⟩ (.int .i64 (keepI (okF (redN (n * m) (d * e)) (redD (n * m) (d * e))) (redN (n * m) (d * e))))).setCell ⟨b, 1, none⟩ (.int .i64 (keepI (okF (redN (n * m) (d * e)) (redD (n * m) (d * e))) (redD (n * m) (d * e)))))) (by kernel_rfl) (by kernel_rfl) rfl rfl (by intro a x; go_simp; rfl) rfl rfl rfl rfl ?hst (fun _ _ => ExtC.ext) ?_
  case hst => intro ev g0 g1 e1 e2; simp only [ptrTo] at e2; simp [go_sem, e1, e2]
  simp only [List.take_succ_cons, List.take_zero, List.drop_succ_cons, List.drop_zero]
  repeat (refine wpQuietE_step (fun K hK => ?_); go_simp; first | (refine hK _ ?_; clear hK K) | (apply Exists.intro; refine ⟨fun _ => ?_, hK _ ?_⟩; (first | (go_at_call 18; exact growE_of (laws_toFraction _ _ _)) | (go_at_call 27; exact growE_of (spec_MulFractions_ok _ _ _ _ (by assumption) (by assumption) _); clear hK K))))
  refine wpQuietE_nil ?_
  intro b; refine ⟨rfl, rfl, ?_⟩; intro g0 g1 g hb; subst hb
  simp only [Act.put, ptrTo]
  go_wp2
  refine wp_region_box (V := .agg #[.int .i64 (keepI (okF (redN (n * m) (d * e)) (redD (n * m) (d * e))) (redN (n * m) (d * e))), .int .i64 (keepI (okF (redN (n * m) (d * e)) (redD (n * m) (d * e))) (redD (n * m) (d * e)))]) 8 (.cells #[.int .i64 0, .int .i64 0] 27) (fun x b => ((x.setCell ⟨b, 0, none⟩ (.int .i64 (keepI (okF (redN (n * m) (d * e)) (redD (n * m) (d * e))) (redN (n * m) (d * e))))).setCell ⟨b, 1, none⟩ (.int .i64 (keepI (okF (redN (n * m) (d * e)) (redD (n * m) (d * e))) (redD (n * m) (d * e)))))) (by kernel_rfl) (by kernel_rfl) rfl rfl (by intro a x; go_simp; rfl) rfl rfl rfl rfl ?hst (fun _ _ => ExtC.ext) ?_
  case hst => intro ev g0 g1 e1 e2; simp only [ptrTo] at e2; simp [go_sem, e1, e2]
  simp only [List.take_succ_cons, List.take_zero, List.drop_succ_cons, List.drop_zero]
  repeat (refine wpQuietE_step (fun K hK => ?_); go_simp; first | (refine hK _ ?_; clear hK K) | (apply Exists.intro; refine ⟨fun _ => ?_, hK _ ?_⟩; (first | (go_at_call 18; exact growE_of (laws_toFraction _ _ _)) | (go_at_call 28; exact growE_of (impl_MulFractions_ok _ _ _ _ (by assumption) (by assumption) _); clear hK K))))
  refine wpQuietE_nil ?_
  intro b; refine ⟨rfl, rfl, ?_⟩; intro g0 g1 g hb; subst hb
  simp only [Act.put, ptrTo]
  go_wp2_with (first | (go_at_call 26; (with_reducible refine (laws_eqFraction _ _ _).mono ?_); rintro e w' ⟨rfl, hx⟩; obtain ⟨g, rfl⟩ := hx.grow; clear hx))
  go_ret
  exact ⟨rfl, ExtC.ext⟩

set_option maxRecDepth 100000 in
theorem FnExactMulFractions_lifted (os : Os) (started : os.Started) (H : Type) (enc : TypeId × Value → H) :
    ReturnsInHanded {} Try.checked os 9 .any (Rows.fnExactMulFractionsSpec.pre6 enc Try.prog Try.f9 Rows.fnExactMulFractionsRow.domain false) (Rows.fnExactMulFractionsSpec.post enc Try.prog Try.f9 false true false false) := by
  refine returnsInHanded_of_change (C := Try.checked) Try.own started (by kernel_rfl) Try.func9
    (ChangeSpec.witness6 (enc := enc) (C := Try.checked) false ⟨#[], #[.agg #[.int .i64 0, .int .i64 0], .agg #[.int .i64 0, .int .i64 0]], []⟩ 8 (by kernel_rfl) (by kernel_rfl) (by kernel_rfl) (by kernel_rfl)) ?_
  intro W base args ds gs before hval0 hW hcnd _
  have hval : ∀ (j : Nat) t v, Try.f9.params[j]? = some t → args[j]? = some v → Value.okWide Try.prog W .any base t v := hval0
  have hW' := hW
  obtain ⟨p, q, hA0, hV, rfl, hfz, hnd⟩ := hW
  have hA : DataW.TrodAll enc Try.prog W 0 (fun _ => true) true Try.f9.params.toList args.toList ds p := hA0
  rw [Try.params9] at hA hval
  obtain ⟨v0, v1, d0, d1, p0, p1, rfl, rfl, rfl, h0, h1⟩ := trodAll_two hA
  obtain ⟨rfl, rfl⟩ := trodVars_none hV
  obtain ⟨n, d, rfl, hn, hd⟩ := open_frac (hval 0 25 v0 rfl rfl) h0
  obtain ⟨m, e', rfl, hm, he'⟩ := open_frac (hval 1 25 v1 rfl rfl) h1
  clear hA0 hval0
  refine (law_MulFractions n d m e' W).mono fun e W' ⟨he, hx⟩ => ?_
  subst he
  exact ⟨_, rfl, law_post (T := 4) Try.laidOut (by kernel_rfl) (by kernel_rfl) Try.underlying4 (by kernel_rfl) rfl hW' rfl rfl rfl hx⟩

theorem FnExactMulFractions_holds : Rows.FnExactMulFractionsSaid :=
  OpenClaim.holds_of_wide 9 Try.f9 rfl rfl rfl rfl rfl rfl rfl ⟨rfl, rfl, rfl, rfl, rfl⟩ rfl rfl rfl rfl rfl (by kernel_rfl) Try.func9 (by kernel_rfl)
    (of_decide_eq_true (by kernel_rfl)) (by unfold Func.isWrapper; first | (rw [if_pos (by decide +kernel)]; kernel_rfl) | (rw [if_neg (by decide +kernel)]; exact ⟨rfl, rfl⟩))
    (fun os started H enc _ => FnExactMulFractions_lifted os started H enc)
#print axioms FnExactMulFractions_holds
end Go.Proofs.Ytomijlchcmnbpaa
