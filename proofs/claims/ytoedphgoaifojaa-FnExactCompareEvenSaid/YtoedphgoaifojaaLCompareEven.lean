/- The law on CompareEven: for every input it returns true. No condition. -/
import Derived.Test.YtoedphgoaifojaaInit
import Derived.Test.YtoedphgoaifojaaEvenI
import Derived.Test.YtoedphgoaifojaaFracArg
namespace Go.Proofs.Ytoedphgoaifojaa
open Go.ChangeShapes Go.WideShapes Go.ChangeAt Go.RowKit Go.Joins Go.Deep

theorem OwnF.psN {lo hi : Nat} {w : World} {v : Value} {xs : SD} (h : OwnF lo hi w v xs) (hv : v ≠ .slice none 0 0) : PS w v xs := by
  rcases h with ⟨rfl, _⟩ | ⟨g, cap, cs, rfl, ha, hb, how, hc⟩
  · exact absurd rfl hv
  · exact OwnF.ps2 (.inr ⟨g, cap, cs, rfl, ha, hb, how, hc⟩)
set_option maxHeartbeats 4000000 in
set_option maxRecDepth 100000 in
theorem law_CompareEven (v0 v1 : Value) (xs ys : SD) (w : World) (h0 : RP w v0 xs) (hl : xs.length ≤ 9223372036854775807) (h1 : RP w v1 ys) (hm : ys.length ≤ 9223372036854775807) :
    Calls Try.prog 6 #[v0, v1] w fun e w' => e = .returned (.bool true) ∧ Ext w w' := by
  have H0 := Lib.hid h0; clear h0
  have H1 := Lib.hid h1; clear h1
  go_enter Try.func6, Try.ntmps6
  go_wp2_with fail
  refine Calls.mono (laws_szFractionS v0 xs _ _ (H0.out.ext ExtC.ext) hl (by omega) (by omega)) ?_
  rintro e w' ⟨r, rfl, hr, hx⟩; obtain ⟨g1, rfl⟩ := hx.grow; clear hx
  rcases hr with ⟨hr, -⟩ | ⟨hr, hr2⟩
  · go_wp2_with fail
    go_ret
    exact ⟨rfl, ExtC.ext⟩
  have hn : xs.length ≤ 1048576 := by omega
  have e1 : decide (r < 0) = false := decide_eq_false (by omega)
  go_wp2_with fail
  refine Calls.mono (laws_szFractionS v1 ys _ _ (H1.out.ext ExtC.ext) hm (by omega) (by omega)) ?_
  rintro e w' ⟨r', rfl, hr', hx⟩; obtain ⟨g2, rfl⟩ := hx.grow; clear hx
  rcases hr' with ⟨hr', -⟩ | ⟨hr', hr2'⟩
  · go_wp2_with fail
    go_ret
    exact ⟨rfl, ExtC.ext⟩
  have hm' : ys.length ≤ 1048576 := by omega
  obtain ⟨bb, hbb⟩ : ∃ b : Bool, b = true ↔ CeP xs ys := by classical exact ⟨decide _, decide_eq_true_iff⟩
  obtain ⟨c, hc⟩ : ∃ z, ceX xs ys = z := ⟨_, rfl⟩
  have HB := Lib.hid (And.intro hbb hc); clear hbb hc
  go_wp2_with fail
  refine Calls.mono (laws_toFractionS v0 xs _ (H0.out.ext ExtC.ext) hn) ?_
  rintro e w' ⟨x1, rfl, -, o1, hx⟩; obtain ⟨g3, rfl⟩ := hx.grow; clear hx
  have O1 := Lib.hid o1.rp; clear o1
  go_wp2_with fail
  refine Calls.mono (laws_toFractionS v1 ys _ (H1.out.ext ExtC.ext) hm') ?_
  rintro e w' ⟨y1, rfl, -, o1, hx⟩; obtain ⟨g4, rfl⟩ := hx.grow; clear hx
  have P1 := Lib.hid o1.rp; clear o1
  go_wp2_with fail
  refine Calls.mono (spec_CompareEven' x1 y1 xs ys _ (O1.out.ext ExtC.ext) (P1.out.ext ExtC.ext) hn hm' bb HB.out.1 c HB.out.2) ?_
  rintro e w' ⟨rfl, hx⟩; obtain ⟨g5, rfl⟩ := hx.grow; clear hx
  go_wp2_with fail
  refine Calls.mono (laws_toFractionS v0 xs _ (H0.out.ext ExtC.ext) hn) ?_
  rintro e w' ⟨x2, rfl, hne, o2, hx⟩; obtain ⟨g6, rfl⟩ := hx.grow; clear hx
  have O2 := Lib.hid (o2.psN hne); clear o2 hne
  go_wp2_with fail
  refine Calls.mono (laws_toFractionS v1 ys _ (H1.out.ext ExtC.ext) hm') ?_
  rintro e w' ⟨y2, rfl, hne, o2, hx⟩; obtain ⟨g7, rfl⟩ := hx.grow; clear hx
  have P2 := Lib.hid (o2.psN hne); clear o2 hne
  go_wp2_with fail
  refine Calls.mono (impl_CompareEven' x2 y2 xs ys _ (O2.out.ext ExtC.ext) (P2.out.ext ExtC.ext) hn hm' bb HB.out.1 c HB.out.2) ?_
  rintro e w' ⟨rfl, hx⟩; obtain ⟨g8, rfl⟩ := hx.grow; clear hx
  go_wp2_with fail
  refine Calls.mono (laws_toFractionS v0 xs _ (H0.out.ext ExtC.ext) hn) ?_
  rintro e w' ⟨x3, rfl, -, o3, hx⟩; obtain ⟨g9, rfl⟩ := hx.grow; clear hx
  have O3 := Lib.hid o3.rp; clear o3
  go_wp2_with fail
  refine Calls.mono (laws_eqFractionS x2 x3 xs xs true (by simp) _ (.inl (O2.out.ext ExtC.ext)) (O3.out.ext ExtC.ext) (by omega) (by omega)) ?_
  rintro e w' ⟨rfl, hx⟩; obtain ⟨g10, rfl⟩ := hx.grow; clear hx
  go_wp2_with fail
  refine Calls.mono (laws_toFractionS v1 ys _ (H1.out.ext ExtC.ext) hm') ?_
  rintro e w' ⟨y3, rfl, -, o3, hx⟩; obtain ⟨g11, rfl⟩ := hx.grow; clear hx
  have P3 := Lib.hid o3.rp; clear o3
  go_wp2_with fail
  refine Calls.mono (laws_eqFractionS y2 y3 ys ys true (by simp) _ (.inl (P2.out.ext ExtC.ext)) (P3.out.ext ExtC.ext) (by omega) (by omega)) ?_
  rintro e w' ⟨rfl, hx⟩; obtain ⟨g12, rfl⟩ := hx.grow; clear hx
  go_wp2_with fail
  go_ret
  exact ⟨rfl, ExtC.ext⟩

set_option maxRecDepth 100000 in
theorem FnExactCompareEven_lifted (os : Os) (started : os.Started) (H : Type) (enc : TypeId × Value → H) :
    ReturnsInHanded {} Try.checked os 6 .any (Rows.fnExactCompareEvenSpec.pre6 enc Try.prog Try.f6 Rows.fnExactCompareEvenRow.domain false) (Rows.fnExactCompareEvenSpec.post enc Try.prog Try.f6 false true false false) := by
  refine returnsInHanded_of_change (C := Try.checked) Try.own started (by kernel_rfl) Try.func6
    (ChangeSpec.witness6 (enc := enc) (C := Try.checked) false ⟨#[], #[.slice none 0 0, .slice none 0 0], []⟩ 8 (by kernel_rfl) (by kernel_rfl) (by kernel_rfl) (by kernel_rfl)) ?_
  intro W base args ds gs before hval0 hW hcnd _
  have hval : ∀ (j : Nat) t v, Try.f6.params[j]? = some t → args[j]? = some v → Value.okWide Try.prog W .any base t v := hval0
  have hW' := hW
  obtain ⟨p, q, hA0, hV, rfl, hfz, hnd⟩ := hW
  have hA : DataW.TrodAll enc Try.prog W 0 (fun _ => true) true Try.f6.params.toList args.toList ds p := hA0
  rw [Try.params6] at hA hval
  obtain ⟨v0, v1, d0, d1, p0, p1, rfl, rfl, rfl, h0, h1⟩ := trodAll_two hA
  obtain ⟨rfl, rfl⟩ := trodVars_none hV
  obtain ⟨xs, hx, hxl⟩ := open_fracS (hval 0 40 v0 rfl rfl) h0
  obtain ⟨ys, hy, hyl⟩ := open_fracS (hval 1 40 v1 rfl rfl) h1
  clear hA0 hval0
  refine (law_CompareEven v0 v1 xs ys W hx hxl hy hyl).mono fun e W' ⟨he, hx⟩ => ?_
  subst he
  exact ⟨_, rfl, law_post (T := 4) Try.laidOut (by kernel_rfl) (by kernel_rfl) Try.underlying4 (by kernel_rfl) rfl hW' rfl rfl rfl hx⟩

set_option maxHeartbeats 4000000 in
set_option maxRecDepth 100000 in
theorem FnExactCompareEven_closed : joinedFacts Try.prog 6 Try.f6 Rows.fnExactCompareEvenSpec Rows.fnExactCompareEvenRow = true := by
  unfold joinedFacts
  simp only [Bool.and_eq_true]
  repeat' apply And.intro
  all_goals first | with_reducible exact may_enter | with_reducible exact laid_out | with_reducible exact maps_rowed | with_reducible exact stops_heard | ((with_reducible refine lifted_is lifts_final ?_); rfl) | ((with_reducible refine made_is make_is ?_); rfl) | (as_aux_lemma => kernel_rfl)

theorem FnExactCompareEven_holds : Rows.FnExactCompareEvenSaid :=
  OpenClaim.holds_of_wide 6 Try.f6 rfl rfl rfl rfl rfl rfl rfl ⟨rfl, rfl, rfl, rfl, rfl⟩ rfl rfl rfl rfl rfl (by kernel_rfl) Try.func6 FnExactCompareEven_closed
    (of_decide_eq_true (by kernel_rfl)) (by unfold Func.isWrapper; first | (rw [if_pos (by decide +kernel)]; kernel_rfl) | (rw [if_neg (by decide +kernel)]; exact ⟨rfl, rfl⟩))
    (fun os started H enc _ => FnExactCompareEven_lifted os started H enc)
#print axioms FnExactCompareEven_holds
end Go.Proofs.Ytoedphgoaifojaa
