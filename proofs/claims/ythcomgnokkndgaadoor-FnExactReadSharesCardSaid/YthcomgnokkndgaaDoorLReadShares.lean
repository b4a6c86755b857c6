/- The law on ReadShares: for every text both sides read the same list of shares, or none. No condition; the library's tables and errors are as the program's text lays them. -/
import Derived.Test.YthcomgnokkndgaaDoorDoorR
import Derived.Test.YthcomgnokkndgaaDoorFrArg
import Derived.Test.YthcomgnokkndgaaDoorReadSS
import Derived.Test.YthcomgnokkndgaaDoorReadSI
import Derived.Test.YthcomgnokkndgaaDoorRowsMark
import Derived.Deep.DeepHandedRow
import Derived.Deep.DeepWitnessRowRef
import Derived.Lay
namespace Go.Proofs.YthcomgnokkndgaaDoor
open Go.ChangeShapes Go.WideShapes Go.ChangeAt Go.RowKit Go.Joins

theorem cntS_le {M : Nat} {L : List SD} (h : ∀ x ∈ L, x.length ≤ M) : cntRows shareKind L ≤ 2 * M * L.length := by
  unfold cntRows
  induction L with
  | nil => simp
  | cons a l ih =>
    have h1 := h a (List.mem_cons_self ..)
    have h2 := ih fun x hx => h x (List.mem_cons_of_mem _ hx)
    have h3 : shareKind.cnt a = 2 * a.length := rfl
    simp only [List.map_cons, List.sum_cons, List.length_cons, Nat.mul_add, Nat.mul_one]
    omega

set_option maxHeartbeats 2000000 in
theorem law_ReadShares (s : ByteArray) (w : World) (hs : s.size ≤ 9223372036854775807) (hp : Pow w) (he : Errs w) (hm : ML w) :
    Calls Tryd.prog 3 #[.string s] w fun e w' => e = .returned (.bool true) ∧ Ext w w' := by
  by_cases hbig : 1048576 < s.size
  · clear hp he hm
    go_enter Tryd.func3, Tryd.ntmps3
    go_wp2_with fail
    go_ret
    exact ⟨rfl, ExtC.ext⟩
  obtain ⟨xs, b, hf⟩ := shares_some s
  obtain ⟨hl0, hm0⟩ := hf.small
  have hsx : ShortRows xs := ⟨by omega, fun i hi => by have := hm0 _ (List.getElem_mem hi); omega⟩
  have hcx : (cntRows shareKind xs : Int) ≤ 4194304 := by have := cntS_le hm0; omega
  go_enter Tryd.func3, Tryd.ntmps3
  go_wp2_with fail
  refine Calls.mono (spec_ReadShares' s _ (by omega) xs b hf) ?_
  rintro e w' ⟨s0, rfl, so, hx⟩; obtain ⟨g3, rfl⟩ := hx.grow; clear hx
  go_wp2_with fail
  refine Calls.mono (impl_ReadShares' s _ (by omega) xs b hf (hp.ext ExtC.ext) (he.ext ExtC.ext) (hm.ext ExtC.ext)) ?_
  rintro e w' ⟨r0, rfl, ro, hx⟩; obtain ⟨g5, rfl⟩ := hx.grow; clear hx
  go_wp2_with fail
  refine Calls.mono (laws_eqShareSS r0 s0 xs xs true (by simp) _ (ro.ext ExtC.ext).r (so.ext ExtC.ext).r hsx hsx) ?_
  rintro e w' ⟨rfl, hx⟩; obtain ⟨g10, rfl⟩ := hx.grow; clear hx
  go_wp2_with fail
  refine Calls.mono (laws_markShareSS r0 xs 1 g10.fin _ _ (ro.ext ExtC.ext) (by omega) (by omega) (by omega)) ?_
  rintro e w' ⟨rfl, hmr, hr⟩
  have sozz := (so.ext (ExtC.ext : Ext g3.fin g10.fin)).rng hr (.inl (ExtC.ext : Ext g3.fin g3.fin).size)
  obtain ⟨g11, rfl⟩ := (Ext.rng (ExtC.ext : Ext w g10.fin) hr (ExtC.ext : Ext w g3.fin).size).grow
  clear hr
  go_wp2_with fail
  refine Calls.mono (laws_heldShareSS r0 xs 1 _ (hmr.ext ExtC.ext).r (by omega) (by omega) (by omega)) ?_
  rintro e w' ⟨rfl, hx⟩; obtain ⟨g12, rfl⟩ := hx.grow; clear hx
  have hk3 : decide (1 + (cntRows shareKind xs : Int) < 0) = false := by simp; omega
  have hk4 : ¬ (1 + (cntRows shareKind xs : Int) < 0) := by omega
  go_wp2_with fail
  refine Calls.mono (impl_ReadShares' s _ (by omega) xs b hf (hp.ext ExtC.ext) (he.ext ExtC.ext) (hm.ext ExtC.ext)) ?_
  rintro e w' ⟨r1, rfl, rp, hx⟩; obtain ⟨g14, rfl⟩ := hx.grow; clear hx
  go_wp2_with fail
  refine Calls.mono (laws_eqShareSS r1 s0 xs xs true (by simp) _ (rp.ext ExtC.ext).r (sozz.ext ExtC.ext).r hsx hsx) ?_
  rintro e w' ⟨rfl, hx⟩; obtain ⟨g15, rfl⟩ := hx.grow; clear hx
  go_wp2_with fail
  refine Calls.mono (laws_heldShareSS r0 xs 1 _ (hmr.ext ExtC.ext).r (by omega) (by omega) (by omega)) ?_
  rintro e w' ⟨rfl, hx⟩; obtain ⟨g16, rfl⟩ := hx.grow; clear hx
  go_wp2_with fail
  go_ret
  exact ⟨rfl, ExtC.ext⟩

theorem FnExactReadShares_met (os : Os) (args : Array Value) : laidMetH Tryd.prog Rows.fnExactReadSharesRow.laid ((World.laidAll Tryd.prog os Rows.fnExactReadSharesRow.laid).forCall (fun _ _ => 0) ⟨#[], args, []⟩).memory :=
  by rw [MakeChecks.laidMetH_plain _ _ _ (by kernel_rfl)]; exact laidMet_laidAll _ (by kernel_rfl) (by kernel_rfl)

theorem FnExactReadShares_reads (os : Os) {H : Type} (enc : TypeId × Value → H) : ∃ places, DataW.whole enc Tryd.prog ((World.laidAll Tryd.prog os Rows.fnExactReadSharesRow.laid).forCall (fun _ _ => 0) ⟨#[], #[.string ByteArray.empty], []⟩).memory Tryd.f3.params.toList Rows.fnExactReadSharesSpec.vars false #[.string ByteArray.empty].toList 8 = some ([.lit (.string [])], [], places) :=
  ⟨[], by kernel_rfl⟩

set_option maxRecDepth 100000 in
theorem FnExactReadShares_lifted (os : Os) (started : os.Started) (H : Type) (enc : TypeId × Value → H) (F : Stop.Interp) :
    ReturnsInHanded {} Tryd.checked os 3 .any ((OpenSpec.ofChange Rows.fnExactReadSharesSpec).preRow enc Tryd.prog Tryd.f3 Rows.fnExactReadSharesRow.domain false Rows.fnExactReadSharesRow.laid) (((OpenSpec.ofChange Rows.fnExactReadSharesSpec).at F).post enc Tryd.prog Tryd.f3 false true false false) := by
  obtain ⟨places, hx⟩ := FnExactReadShares_reads os enc
  refine returnsInHanded_of_row (C := Tryd.checked) (s := OpenSpec.ofChange Rows.fnExactReadSharesSpec) Tryd.own started (by kernel_rfl) Tryd.func3
    (witness_row_atRef (enc := enc) (C := Tryd.checked) false (World.laidAll Tryd.prog os Rows.fnExactReadSharesRow.laid) #[.string ByteArray.empty] (World.laidAll_os _ _ _) (by kernel_rfl) (by kernel_rfl) (by kernel_rfl)
      (OpenSpec.preRow_of_cond 8 hx (by kernel_rfl) (fun k hk => by cases hk) (by kernel_rfl) (FnExactReadShares_met os _))) ?_
  intro W base args ds gs before hval0 hW _ _ _ hL hsh _
  have hval : ∀ (j : Nat) t v, Tryd.f3.params[j]? = some t → args[j]? = some v → Value.okWide Tryd.prog W .any base t v := hval0
  have hW' := hW
  obtain ⟨p, q, hA0, hV, rfl, hfz, hnd⟩ := hW
  have hA : DataW.TrodAll enc Tryd.prog W 0 (fun _ => true) true Tryd.f3.params.toList args.toList ds p := hA0
  rw [Tryd.params3] at hA hval
  obtain ⟨v0, d0, rfl, rfl, h0⟩ := trodAll_one hA
  obtain ⟨rfl, rfl⟩ := trodVars_none hV
  obtain ⟨s, rfl, rfl, rfl, hs⟩ := Go.ChangeMaps.open_string Tryd.underlying9 (hval 0 9 v0 rfl rfl) h0
  unfold maxLen at hs
  clear hA0 hval0
  refine (law_ReadShares s W (by omega) (pow_of hL) (errs_of4 hL) (ml_of hsh)).mono fun e W' ⟨he, hx⟩ => ?_
  subst he
  exact ⟨_, rfl, law_post (T := 4) Tryd.laidOut (by kernel_rfl) (by kernel_rfl) Tryd.underlying4 (by kernel_rfl) rfl hW' rfl rfl rfl hx⟩

theorem FnExactReadShares_said : Rows.FnExactReadSharesSaid :=
  OpenClaim.holds_of_cond 3 Tryd.f3 rfl rfl rfl rfl rfl rfl rfl ⟨rfl, rfl, rfl, rfl, rfl⟩ rfl rfl rfl rfl rfl (by kernel_rfl) Tryd.func3 (by kernel_rfl)
    (of_decide_eq_true (by kernel_rfl)) (by unfold Func.isWrapper; first | (rw [if_pos (by decide +kernel)]; kernel_rfl) | (rw [if_neg (by decide +kernel)]; exact ⟨rfl, rfl⟩))
    (fun os started H enc _ F => by rw [OpenClaim.pre_eq_preRow]; exact FnExactReadShares_lifted os started H enc F)

theorem FnExactReadShares_holds : Rows.FnExactReadSharesCardSaid :=
  Claim7.holds_tied_plain_at .later [] _ _ _ _ FnExactReadShares_said (fun _ h => by cases h) (by kernel_rfl) (fun _ h => by cases h) fnExactReadShares_row_tie rfl ⟨rfl, rfl⟩ (by kernel_rfl) rfl
    (fun f fn hf hfn => by
      obtain rfl : f = 3 := Option.some.inj ((show Tryd.prog.funcNamed "loop.example/g01095/laws.FnExactReadShares" = some 3 by kernel_rfl).symm.trans hf) |>.symm
      obtain rfl : fn = Tryd.f3 := (Option.some.inj (Tryd.func3.symm.trans hfn)).symm
      exact ⟨by kernel_rfl, fun j t ht => by
        have hm : t ∈ Tryd.f3.params.toList := by simpa using Array.mem_of_getElem? ht
        have hall : (Tryd.f3.params.toList.all fun u => !Tryd.prog.wantsStandIn u) = true := by kernel_rfl
        exact (show Tryd.prog.wantsStandIn t = false by simpa using List.all_eq_true.1 hall t hm)⟩)
    (by kernel_rfl)
#print axioms FnExactReadShares_holds
end Go.Proofs.YthcomgnokkndgaaDoor
