/- The law on SumFractions: for every input it returns true. No condition. -/
import Derived.Test.YtbbppkcdgcajjaaInit
import Derived.Test.YtbbppkcdgcajjaaSum
import Derived.Test.YtbbppkcdgcajjaaShareArg
namespace Go.Proofs.Ytbbppkcdgcajjaa
open Go.ChangeShapes Go.WideShapes Go.ChangeAt Go.RowKit Go.Joins Go.Deep

theorem Try.cellsFraction : Try.prog.cellsOf 139 = 2 := by kernel_rfl
set_option maxRecDepth 100000 in
theorem open_fracS {H : Type} {enc : TypeId × Value → H} {w : World} {held : Bool} {base : Nat} {r : Reach} {b0 : Nat} {v : Value} {d : DataW H} {ps : List MemPlace} (hval : Value.okWide Try.prog w r b0 71 v)
    (h : DataW.Trod enc Try.prog w base (fun _ => true) held 71 v d ps) : ∃ xs : SD, RP w v xs ∧ xs.length ≤ 9223372036854775807 := by
  obtain ⟨a0, len0, cap0, rfl⟩ := okWide_slice Try.underlying71 hval
  obtain ⟨fuel, hf⟩ := h
  obtain ⟨p, len, cap, hcs, hlc, hle, hc⟩ := raw_pairs Try.underlying71 Try.underlying139 (by kernel_rfl) Try.cellsFraction hf
  simp only [Value.cells, List.cons.injEq, and_true, Value.slice.injEq] at hcs
  obtain ⟨rfl, rfl, rfl⟩ := hcs
  by_cases h0 : 0 < len0
  · obtain ⟨b, off, rfl, hb, hk⟩ := hc h0
    obtain ⟨L, hL, hR⟩ := choose_list len0 (fun i (e : Int × Int) => w.cell? ⟨b, off + i * 2, none⟩ = some (iv e.1) ∧ w.cell? ⟨b, off + i * 2 + 1, none⟩ = some (iv e.2)) (by
      intro i hi
      obtain ⟨v0, v1, y0, y1, n, c0, c1, k0, k1⟩ := hk i hi
      obtain ⟨m0, e0, -⟩ := DataW.trod_int Try.underlying2 k0
      obtain ⟨m1, e1, -⟩ := DataW.trod_int Try.underlying2 k1
      simp only [List.cons.injEq, and_true] at e0 e1
      subst e0 e1
      exact ⟨(m0, m1), c0, c1⟩)
    subst hL
    exact ⟨L, .inl ⟨b, off, cap0, rfl, hlc, hb, hR⟩, hle⟩
  · have : len0 = 0 := by omega
    subst this
    exact ⟨[], .inr ⟨rfl, a0, cap0, rfl⟩, by simp⟩

set_option maxHeartbeats 4000000 in
set_option maxRecDepth 100000 in
theorem law_SumFractions (v0 : Value) (xs : SD) (w : World) (h0 : RP w v0 xs) (hl : xs.length ≤ 9223372036854775807) :
    Calls Try.prog 18 #[v0] w fun e w' => e = .returned (.bool true) ∧ Ext w w' := by
  have H0 := Lib.hid h0; clear h0
  go_enter Try.func18, Try.ntmps18
  go_wp2_with fail
  refine Calls.mono (laws_szFractionS v0 xs _ _ (H0.out.ext ExtC.ext) hl (by omega) (by omega)) ?_
  rintro e w' ⟨r, rfl, hr, hx⟩; obtain ⟨g1, rfl⟩ := hx.grow; clear hx
  rcases hr with ⟨hr, -⟩ | ⟨hr, hr2⟩
  · go_wp2_with fail
    go_ret
    exact ⟨rfl, ExtC.ext⟩
  have hn : xs.length ≤ 1048576 := by omega
  obtain ⟨bb, hbb⟩ : ∃ b, sumB xs = b := ⟨_, rfl⟩
  obtain ⟨⟨pn, pd⟩, hpp⟩ : ∃ z, sumA xs = z := ⟨_, rfl⟩
  have HB := Lib.hid (And.intro hbb hpp); clear hbb hpp
  go_wp2_with fail
  refine Calls.mono (laws_toFractionS v0 xs _ (H0.out.ext ExtC.ext) hn) ?_
  rintro e w' ⟨x1, rfl, -, o1, hx⟩; obtain ⟨g2, rfl⟩ := hx.grow; clear hx
  have O1 := Lib.hid o1.rp; clear o1
  go_wp2_with fail
  refine Calls.mono (spec_SumFractions' x1 xs _ (O1.out.ext ExtC.ext) hn bb HB.out.1 pn pd HB.out.2) ?_
  rintro e w' ⟨rfl, hx⟩; obtain ⟨g3, rfl⟩ := hx.grow; clear hx
  go_wp2_with fail
  refine Calls.mono (laws_toFractionS v0 xs _ (H0.out.ext ExtC.ext) hn) ?_
  rintro e w' ⟨x2, rfl, -, o2, hx⟩; obtain ⟨g4, rfl⟩ := hx.grow; clear hx
  have O2 := Lib.hid o2.rp; clear o2
  go_wp2_with fail
  refine Calls.mono (impl_SumFractions' x2 xs _ (O2.out.ext ExtC.ext) hn bb HB.out.1 pn pd HB.out.2) ?_
  rintro e w' ⟨rfl, hx⟩; obtain ⟨g5, rfl⟩ := hx.grow; clear hx
  go_wp2_with fail
  refine Calls.mono (laws_eqFraction1 pn pd pn pd true (by simp) _) ?_
  rintro e w' ⟨rfl, hx⟩; obtain ⟨g6, rfl⟩ := hx.grow; clear hx
  go_wp2_with fail
  refine Calls.mono (laws_toFractionS v0 xs _ (H0.out.ext ExtC.ext) hn) ?_
  rintro e w' ⟨x3, rfl, -, o3, hx⟩; obtain ⟨g7, rfl⟩ := hx.grow; clear hx
  have O3 := Lib.hid o3.rp; clear o3
  go_wp2_with fail
  refine Calls.mono (laws_eqFractionS x2 x3 xs xs true (by simp) _ (O2.out.ext ExtC.ext) (O3.out.ext ExtC.ext) (by omega) (by omega)) ?_
  rintro e w' ⟨rfl, hx⟩; obtain ⟨g8, rfl⟩ := hx.grow; clear hx
  go_wp2_with fail
  go_ret
  exact ⟨rfl, ExtC.ext⟩

set_option maxRecDepth 100000 in
theorem FnExactSumFractions_lifted (os : Os) (started : os.Started) (H : Type) (enc : TypeId × Value → H) :
    ReturnsInHanded {} Try.checked os 18 .any (Rows.fnExactSumFractionsSpec.pre6 enc Try.prog Try.f18 Rows.fnExactSumFractionsRow.domain false) (Rows.fnExactSumFractionsSpec.post enc Try.prog Try.f18 false true false false) := by
  refine returnsInHanded_of_change (C := Try.checked) Try.own started (by kernel_rfl) Try.func18
    (ChangeSpec.witness6 (enc := enc) (C := Try.checked) false ⟨#[], #[.slice none 0 0], []⟩ 8 (by kernel_rfl) (by kernel_rfl) (by kernel_rfl) (by kernel_rfl)) ?_
  intro W base args ds gs before hval0 hW hcnd _
  have hval : ∀ (j : Nat) t v, Try.f18.params[j]? = some t → args[j]? = some v → Value.okWide Try.prog W .any base t v := hval0
  have hW' := hW
  obtain ⟨p, q, hA0, hV, rfl, hfz, hnd⟩ := hW
  have hA : DataW.TrodAll enc Try.prog W 0 (fun _ => true) true Try.f18.params.toList args.toList ds p := hA0
  rw [Try.params18] at hA hval
  obtain ⟨v0, d0, rfl, rfl, h0⟩ := trodAll_one hA
  obtain ⟨rfl, rfl⟩ := trodVars_none hV
  obtain ⟨xs, hx, hxl⟩ := open_fracS (hval 0 71 v0 rfl rfl) h0
  clear hA0 hval0
  refine (law_SumFractions v0 xs W hx hxl).mono fun e W' ⟨he, hx⟩ => ?_
  subst he
  exact ⟨_, rfl, law_post (T := 4) Try.laidOut (by kernel_rfl) (by kernel_rfl) Try.underlying4 (by kernel_rfl) rfl hW' rfl rfl rfl hx⟩

set_option maxHeartbeats 4000000 in
set_option maxRecDepth 100000 in
theorem FnExactSumFractions_closed : joinedFacts Try.prog 18 Try.f18 Rows.fnExactSumFractionsSpec Rows.fnExactSumFractionsRow = true := by
  unfold joinedFacts
  simp only [Bool.and_eq_true]
  repeat' apply And.intro
  all_goals first | with_reducible exact may_enter | with_reducible exact laid_out | with_reducible exact maps_rowed | with_reducible exact stops_heard | ((with_reducible refine lifted_is lifts_final ?_); rfl) | ((with_reducible refine made_is make_is ?_); rfl) | (as_aux_lemma => kernel_rfl)

theorem FnExactSumFractions_holds : Rows.FnExactSumFractionsSaid :=
  OpenClaim.holds_of_wide 18 Try.f18 rfl rfl rfl rfl rfl rfl rfl ⟨rfl, rfl, rfl, rfl, rfl⟩ rfl rfl rfl rfl rfl (by kernel_rfl) Try.func18 FnExactSumFractions_closed
    (of_decide_eq_true (by kernel_rfl)) (by unfold Func.isWrapper; first | (rw [if_pos (by decide +kernel)]; kernel_rfl) | (rw [if_neg (by decide +kernel)]; exact ⟨rfl, rfl⟩))
    (fun os started H enc _ => FnExactSumFractions_lifted os started H enc)
#print axioms FnExactSumFractions_holds
end Go.Proofs.Ytbbppkcdgcajjaa
