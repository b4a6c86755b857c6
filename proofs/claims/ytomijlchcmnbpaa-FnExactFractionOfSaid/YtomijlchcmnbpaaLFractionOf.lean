/- The law on FractionOf: for every input it returns true. No condition. -/
import Derived.Test.YtomijlchcmnbpaaFracArg
namespace Go.Proofs.Ytomijlchcmnbpaa
open Go.ChangeShapes Go.WideShapes Go.ChangeAt Go.RowKit Go.Joins

set_option maxHeartbeats 1000000 in
theorem law_FractionOf (n d : Int) (w : World) :
    Calls Try.prog 8 #[.int .i64 n, .int .i64 d] w fun e' w' => e' = .returned (.bool true) ∧ Ext w w' := by
  cases h1 : inB n (-1000000000000000000) 1000000000000000000
  · skip
    go_enter Try.func8, Try.ntmps8
    go_wp2_with (first | (go_at_call 26; (with_reducible refine (laws_eqFraction _ _ _).mono ?_); rintro e w' ⟨rfl, hx⟩; obtain ⟨g, rfl⟩ := hx.grow; clear hx) | (go_at_call 25; (with_reducible refine (impl_FractionOf_no1 _ _ (by assumption) _).mono ?_); rintro e w' ⟨rfl, hx⟩; obtain ⟨g, rfl⟩ := hx.grow; clear hx) | (go_at_call 24; (with_reducible refine (spec_FractionOf_no1 _ _ (by assumption) _).mono ?_); rintro e w' ⟨rfl, hx⟩; obtain ⟨g, rfl⟩ := hx.grow; clear hx))
    go_ret
    exact ⟨rfl, ExtC.ext⟩
  cases h2 : inB d (-1000000000000000000) 1000000000000000000
  · skip
    go_enter Try.func8, Try.ntmps8
    go_wp2_with (first | (go_at_call 26; (with_reducible refine (laws_eqFraction _ _ _).mono ?_); rintro e w' ⟨rfl, hx⟩; obtain ⟨g, rfl⟩ := hx.grow; clear hx) | (go_at_call 25; (with_reducible refine (impl_FractionOf_no2 _ _ (by assumption) (by assumption) _).mono ?_); rintro e w' ⟨rfl, hx⟩; obtain ⟨g, rfl⟩ := hx.grow; clear hx) | (go_at_call 24; (with_reducible refine (spec_FractionOf_no2 _ _ (by assumption) (by assumption) _).mono ?_); rintro e w' ⟨rfl, hx⟩; obtain ⟨g, rfl⟩ := hx.grow; clear hx))
    go_ret
    exact ⟨rfl, ExtC.ext⟩
  cases h4 : (d == 0)
  · have h3 : ¬ d = 0 := by simpa using h4
    by_cases h5 : 1 ≤ d
    · clear h3
      go_enter Try.func8, Try.ntmps8
      go_wp2_with (first | (go_at_call 26; (with_reducible refine (laws_eqFraction _ _ _).mono ?_); rintro e w' ⟨rfl, hx⟩; obtain ⟨g, rfl⟩ := hx.grow; clear hx) | (go_at_call 25; (with_reducible refine (impl_FractionOf_pos _ _ (by assumption) (by assumption) (by assumption) (by assumption) _).mono ?_); rintro e w' ⟨rfl, hx⟩; obtain ⟨g, rfl⟩ := hx.grow; clear hx) | (go_at_call 24; (with_reducible refine (spec_FractionOf_pos _ _ (by assumption) (by assumption) (by assumption) (by assumption) _).mono ?_); rintro e w' ⟨rfl, hx⟩; obtain ⟨g, rfl⟩ := hx.grow; clear hx))
      go_ret
      exact ⟨rfl, ExtC.ext⟩
    · have h6 : d ≤ -1 := by omega
      clear h3 h5
      go_enter Try.func8, Try.ntmps8
      go_wp2_with (first | (go_at_call 26; (with_reducible refine (laws_eqFraction _ _ _).mono ?_); rintro e w' ⟨rfl, hx⟩; obtain ⟨g, rfl⟩ := hx.grow; clear hx) | (go_at_call 25; (with_reducible refine (impl_FractionOf_neg _ _ (by assumption) (by assumption) (by assumption) (by assumption) _).mono ?_); rintro e w' ⟨rfl, hx⟩; obtain ⟨g, rfl⟩ := hx.grow; clear hx) | (go_at_call 24; (with_reducible refine (spec_FractionOf_neg _ _ (by assumption) (by assumption) (by assumption) (by assumption) _).mono ?_); rintro e w' ⟨rfl, hx⟩; obtain ⟨g, rfl⟩ := hx.grow; clear hx))
      go_ret
      exact ⟨rfl, ExtC.ext⟩
  go_enter Try.func8, Try.ntmps8
  go_wp2_with (first | (go_at_call 26; (with_reducible refine (laws_eqFraction _ _ _).mono ?_); rintro e w' ⟨rfl, hx⟩; obtain ⟨g, rfl⟩ := hx.grow; clear hx) | (go_at_call 25; (with_reducible refine (impl_FractionOf_zero _ _ (by assumption) (by assumption) (by assumption) _).mono ?_); rintro e w' ⟨rfl, hx⟩; obtain ⟨g, rfl⟩ := hx.grow; clear hx) | (go_at_call 24; (with_reducible refine (spec_FractionOf_zero _ _ (by assumption) (by assumption) (by assumption) _).mono ?_); rintro e w' ⟨rfl, hx⟩; obtain ⟨g, rfl⟩ := hx.grow; clear hx))
  go_ret
  exact ⟨rfl, ExtC.ext⟩

set_option maxRecDepth 100000 in
theorem FnExactFractionOf_lifted (os : Os) (started : os.Started) (H : Type) (enc : TypeId × Value → H) :
    ReturnsInHanded {} Try.checked os 8 .any (Rows.fnExactFractionOfSpec.pre6 enc Try.prog Try.f8 Rows.fnExactFractionOfRow.domain false) (Rows.fnExactFractionOfSpec.post enc Try.prog Try.f8 false true false false) := by
  refine returnsInHanded_of_change (C := Try.checked) Try.own started (by kernel_rfl) Try.func8
    (ChangeSpec.witness6 (enc := enc) (C := Try.checked) false ⟨#[], #[.int .i64 0, .int .i64 0], []⟩ 8 (by kernel_rfl) (by kernel_rfl) (by kernel_rfl) (by kernel_rfl)) ?_
  intro W base args ds gs before hval0 hW hcnd _
  have hval : ∀ (j : Nat) t v, Try.f8.params[j]? = some t → args[j]? = some v → Value.okWide Try.prog W .any base t v := hval0
  have hW' := hW
  obtain ⟨p, q, hA0, hV, rfl, hfz, hnd⟩ := hW
  have hA : DataW.TrodAll enc Try.prog W 0 (fun _ => true) true Try.f8.params.toList args.toList ds p := hA0
  rw [Try.params8] at hA hval
  obtain ⟨v0, v1, d0, d1, p0, p1, rfl, rfl, rfl, h0, h1⟩ := trodAll_two hA
  obtain ⟨rfl, rfl⟩ := trodVars_none hV
  obtain ⟨n, rfl, rfl, rfl, wn⟩ := open_int Try.underlying2 (hval 0 2 v0 rfl rfl) h0
  obtain ⟨d, rfl, rfl, rfl, wd⟩ := open_int Try.underlying2 (hval 1 2 v1 rfl rfl) h1
  clear hA0 hval0
  refine (law_FractionOf n d W).mono fun e W' ⟨he, hx⟩ => ?_
  subst he
  exact ⟨_, rfl, law_post (T := 4) Try.laidOut (by kernel_rfl) (by kernel_rfl) Try.underlying4 (by kernel_rfl) rfl hW' rfl rfl rfl hx⟩

theorem FnExactFractionOf_holds : Rows.FnExactFractionOfSaid :=
  OpenClaim.holds_of_wide 8 Try.f8 rfl rfl rfl rfl rfl rfl rfl ⟨rfl, rfl, rfl, rfl, rfl⟩ rfl rfl rfl rfl rfl (by kernel_rfl) Try.func8 (by kernel_rfl)
    (of_decide_eq_true (by kernel_rfl)) (by unfold Func.isWrapper; first | (rw [if_pos (by decide +kernel)]; kernel_rfl) | (rw [if_neg (by decide +kernel)]; exact ⟨rfl, rfl⟩))
    (fun os started H enc _ => FnExactFractionOf_lifted os started H enc)
#print axioms FnExactFractionOf_holds
end Go.Proofs.Ytomijlchcmnbpaa
