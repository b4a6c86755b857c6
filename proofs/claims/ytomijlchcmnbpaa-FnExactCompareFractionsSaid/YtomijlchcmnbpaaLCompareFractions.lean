/- The law on CompareFractions: for every input it returns true. No condition. -/
import Derived.Test.YtomijlchcmnbpaaFracArg
import Derived.Test.YtomijlchcmnbpaaBox
namespace Go.Proofs.Ytomijlchcmnbpaa
open Go.ChangeShapes Go.WideShapes Go.ChangeAt Go.RowKit Go.Joins

set_option maxHeartbeats 1000000 in
theorem law_CompareFractions (n d m e : Int) (w : World) :
    Calls Try.prog 7 #[.agg #[.int .i64 n, .int .i64 d], .agg #[.int .i64 m, .int .i64 e]] w fun e' w' => e' = .returned (.bool true) ∧ Ext w w' := by
  cases h1 : okF n d
  · skip
    go_enter Try.func7, Try.ntmps7
    go_wp2
    refine wp_region_grow (by kernel_rfl) (by kernel_rfl) ?_
    repeat (go_big_quiet_step (first | (go_at_call 18; exact grow_of (laws_toFraction _ _ _)) | (go_at_call 22; exact grow_of (spec_CompareFractions_no1 _ _ _ _ (by assumption) _))))
    refine wpQuiet_nil ?_
    intro _ hw'
    obtain ⟨g, hw''⟩ := hw'
    subst hw''
    go_wp2
    refine wp_region_grow (by kernel_rfl) (by kernel_rfl) ?_
    repeat (go_big_quiet_step (first | (go_at_call 18; exact grow_of (laws_toFraction _ _ _)) | (go_at_call 23; exact grow_of (impl_CompareFractions_no1 _ _ _ _ (by assumption) _))))
    refine wpQuiet_nil ?_
    intro _ hw'
    obtain ⟨g, hw''⟩ := hw'
    subst hw''
    go_wp2
    go_ret
    exact ⟨rfl, ExtC.ext⟩
  cases h2 : okF m e
  · skip
    go_enter Try.func7, Try.ntmps7
    go_wp2
    refine wp_region_grow (by kernel_rfl) (by kernel_rfl) ?_
    repeat (go_big_quiet_step (first | (go_at_call 18; exact grow_of (laws_toFraction _ _ _)) | (go_at_call 22; exact grow_of (spec_CompareFractions_no2 _ _ _ _ (by assumption) (by assumption) _))))
    refine wpQuiet_nil ?_
    intro _ hw'
    obtain ⟨g, hw''⟩ := hw'
    subst hw''
    go_wp2
    refine wp_region_grow (by kernel_rfl) (by kernel_rfl) ?_
    repeat (go_big_quiet_step (first | (go_at_call 18; exact grow_of (laws_toFraction _ _ _)) | (go_at_call 23; exact grow_of (impl_CompareFractions_no2 _ _ _ _ (by assumption) (by assumption) _))))
    refine wpQuiet_nil ?_
    intro _ hw'
    obtain ⟨g, hw''⟩ := hw'
    subst hw''
    go_wp2
    go_ret
    exact ⟨rfl, ExtC.ext⟩
  go_enter Try.func7, Try.ntmps7
  go_wp2
  refine wp_region_grow (by kernel_rfl) (by kernel_rfl) ?_
  repeat (go_big_quiet_step (first | (go_at_call 18; exact grow_of (laws_toFraction _ _ _)) | (go_at_call 22; exact grow_of (spec_CompareFractions_ok _ _ _ _ (by assumption) (by assumption) _))))
  refine wpQuiet_nil ?_
  intro _ hw'
  obtain ⟨g, hw''⟩ := hw'
  subst hw''
  go_wp2
  refine wp_region_grow (by kernel_rfl) (by kernel_rfl) ?_
  repeat (go_big_quiet_step (first | (go_at_call 18; exact grow_of (laws_toFraction _ _ _)) | (go_at_call 23; exact grow_of (impl_CompareFractions_ok _ _ _ _ (by assumption) (by assumption) _))))
  refine wpQuiet_nil ?_
  intro _ hw'
  obtain ⟨g, hw''⟩ := hw'
  subst hw''
  go_wp2
  go_ret
  exact ⟨rfl, ExtC.ext⟩

set_option maxRecDepth 100000 in
theorem FnExactCompareFractions_lifted (os : Os) (started : os.Started) (H : Type) (enc : TypeId × Value → H) :
    ReturnsInHanded {} Try.checked os 7 .any (Rows.fnExactCompareFractionsSpec.pre6 enc Try.prog Try.f7 Rows.fnExactCompareFractionsRow.domain false) (Rows.fnExactCompareFractionsSpec.post enc Try.prog Try.f7 false true false false) := by
  refine returnsInHanded_of_change (C := Try.checked) Try.own started (by kernel_rfl) Try.func7
    (ChangeSpec.witness6 (enc := enc) (C := Try.checked) false ⟨#[], #[.agg #[.int .i64 0, .int .i64 0], .agg #[.int .i64 0, .int .i64 0]], []⟩ 8 (by kernel_rfl) (by kernel_rfl) (by kernel_rfl) (by kernel_rfl)) ?_
  intro W base args ds gs before hval0 hW hcnd _
  have hval : ∀ (j : Nat) t v, Try.f7.params[j]? = some t → args[j]? = some v → Value.okWide Try.prog W .any base t v := hval0
  have hW' := hW
  obtain ⟨p, q, hA0, hV, rfl, hfz, hnd⟩ := hW
  have hA : DataW.TrodAll enc Try.prog W 0 (fun _ => true) true Try.f7.params.toList args.toList ds p := hA0
  rw [Try.params7] at hA hval
  obtain ⟨v0, v1, d0, d1, p0, p1, rfl, rfl, rfl, h0, h1⟩ := trodAll_two hA
  obtain ⟨rfl, rfl⟩ := trodVars_none hV
  obtain ⟨n, d, rfl, hn, hd⟩ := open_frac (hval 0 25 v0 rfl rfl) h0
  obtain ⟨m, e', rfl, hm, he'⟩ := open_frac (hval 1 25 v1 rfl rfl) h1
  clear hA0 hval0
  refine (law_CompareFractions n d m e' W).mono fun e W' ⟨he, hx⟩ => ?_
  subst he
  exact ⟨_, rfl, law_post (T := 4) Try.laidOut (by kernel_rfl) (by kernel_rfl) Try.underlying4 (by kernel_rfl) rfl hW' rfl rfl rfl hx⟩

theorem FnExactCompareFractions_holds : Rows.FnExactCompareFractionsSaid :=
  OpenClaim.holds_of_wide 7 Try.f7 rfl rfl rfl rfl rfl rfl rfl ⟨rfl, rfl, rfl, rfl, rfl⟩ rfl rfl rfl rfl rfl (by kernel_rfl) Try.func7 (by kernel_rfl)
    (of_decide_eq_true (by kernel_rfl)) (by unfold Func.isWrapper; first | (rw [if_pos (by decide +kernel)]; kernel_rfl) | (rw [if_neg (by decide +kernel)]; exact ⟨rfl, rfl⟩))
    (fun os started H enc _ => FnExactCompareFractions_lifted os started H enc)
#print axioms FnExactCompareFractions_holds
end Go.Proofs.Ytomijlchcmnbpaa
