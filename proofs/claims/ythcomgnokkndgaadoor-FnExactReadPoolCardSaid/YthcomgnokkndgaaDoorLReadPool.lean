/- The law on ReadPool: for every text both sides read the same pool, or none. No condition; the library's tables and errors are as the program's text lays them. -/
import Derived.Test.YthcomgnokkndgaaDoorDoorR
import Derived.Test.YthcomgnokkndgaaDoorFrArg
import Derived.Test.YthcomgnokkndgaaDoorReadPS
import Derived.Test.YthcomgnokkndgaaDoorQuotaHeld
import Derived.Deep.DeepHandedRow
import Derived.Deep.DeepWitnessRowRef
import Derived.Lay
namespace Go.Proofs.YthcomgnokkndgaaDoor
open Go.ChangeShapes Go.WideShapes Go.ChangeAt Go.RowKit Go.Joins

theorem qcnt_few {M : Nat} {L : List QD} (h : ∀ x ∈ L, x.1.length ≤ M) : qcnt L ≤ (M + 2) * L.length := by
  unfold qcnt
  induction L with
  | nil => simp
  | cons a l ih =>
    have h1 := h a (List.mem_cons_self ..)
    have h2 := ih fun x hx => h x (List.mem_cons_of_mem _ hx)
    simp only [List.map_cons, List.sum_cons, List.length_cons, Nat.mul_add, Nat.mul_one]
    omega

set_option maxHeartbeats 2000000 in
theorem law_ReadPool (s : ByteArray) (w : World) (hs : s.size ≤ 9223372036854775807) (hp : Pow w) (he : Errs w) (hm : ML w) :
    Calls Tryd.prog 4 #[.string s] w fun e w' => e = .returned (.bool true) ∧ Ext w w' := by
  by_cases hbig : 1048576 < s.size
  · clear hp he hm
    go_enter Tryd.func4, Tryd.ntmps4
    go_wp2_with fail
    go_ret
    exact ⟨rfl, ExtC.ext⟩
  obtain ⟨pe, sz, xs, b, hf⟩ := pool_some s
  obtain ⟨hl0, hm0⟩ := hf.small
  have hsx : ShortQ xs := ⟨by omega, fun i hi => by have := hm0 _ (List.getElem_mem hi); omega⟩
  have hcx : (qcnt xs : Int) ≤ 4194304 := by have := qcnt_few hm0; omega
  go_enter Tryd.func4, Tryd.ntmps4
  go_wp2_with fail
  refine Calls.mono (spec_ReadPool' s _ (by omega) pe sz xs b hf) ?_
  rintro e w' ⟨s0, rfl, so, hx⟩; obtain ⟨g3, rfl⟩ := hx.grow; clear hx
  have HSO := Lib.hid so
  obtain ⟨sp, sc, rfl, -⟩ := so.rq.form
  go_wp2_with fail
  refine Calls.mono (impl_ReadPool' s _ (by omega) pe sz xs b hf (hp.ext ExtC.ext) (he.ext ExtC.ext) (hm.ext ExtC.ext)) ?_
  rintro e w' ⟨r0, rfl, ro, hx⟩; obtain ⟨g5, rfl⟩ := hx.grow; clear hx
  obtain ⟨rp, rc, rfl, -⟩ := ro.rq.form
  go_wp2_with fail
  refine Calls.mono (laws_eqPool pe sz _ _ xs _ (ro.ext ExtC.ext).rq (so.ext ExtC.ext).rq hsx) ?_
  rintro e w' ⟨rfl, hx⟩; obtain ⟨g10, rfl⟩ := hx.grow; clear hx
  have B1 : Bx3 g3.fin.heap.size (.int .i64 pe) (.int .i64 sz) (.slice sp xs.length sc) g10.fin := ⟨inferInstance, by simp [go_sem], by simp [go_sem], by simp [go_sem], by simp [go_sem], by simp [go_sem], by simp [go_sem]⟩
  have B2 : Bx3 g5.fin.heap.size (.int .i64 pe) (.int .i64 sz) (.slice rp xs.length rc) g10.fin := ⟨inferInstance, by simp [go_sem], by simp [go_sem], by simp [go_sem], by simp [go_sem], by simp [go_sem], by simp [go_sem]⟩
  simp only [World.size_alloc] at ro
  go_wp2_with fail
  refine Calls.mono (laws_markPool2 pe sz _ xs 1 g10.fin (g3.fin.heap.size + 1) g5.fin.heap.size (ro.ext ExtC.ext) (by omega) (by omega)) ?_
  rintro e w' ⟨rfl, hmr, hr⟩
  have sozz := (so.ext (ExtC.ext : Ext g3.fin g10.fin)).rng hr (.inl (Nat.le_succ _))
  have B1' := Rng.bx3 hr B1 (.inl (Nat.lt_succ_self _))
  have B2' := Rng.bx3 hr B2 (.inr (Nat.le_refl _))
  clear B1 B2
  obtain ⟨g11, rfl⟩ := (Ext.rng (ExtC.ext : Ext w g10.fin) hr (Nat.le_trans (ExtC.ext : Ext w g3.fin).size (Nat.le_succ _))).grow
  clear hr
  obtain ⟨i1, y0, y1, y2, -, -, -⟩ := B1'
  obtain ⟨i2, z0, z1, z2, -, -, -⟩ := B2'
  go_wp2_with fail
  refine Calls.mono (laws_heldPool pe sz _ xs 1 _ (hmr.ext ExtC.ext).rq (by omega) (by omega)) ?_
  rintro e w' ⟨rfl, hx⟩; obtain ⟨g12, rfl⟩ := hx.grow; clear hx
  have hk3 : decide (1 + (qcnt xs : Int) < 0) = false := by simp; omega
  have hk4 : ¬ (1 + (qcnt xs : Int) < 0) := by omega
  go_wp2_with fail
  refine Calls.mono (impl_ReadPool' s _ (by omega) pe sz xs b hf (hp.ext ExtC.ext) (he.ext ExtC.ext) (hm.ext ExtC.ext)) ?_
  rintro e w' ⟨r1, rfl, ro1, hx⟩; obtain ⟨g14, rfl⟩ := hx.grow; clear hx
  obtain ⟨rp1, rc1, rfl, -⟩ := ro1.rq.form
  go_wp2_with fail
  refine Calls.mono (laws_eqPool pe sz _ _ xs _ (ro1.ext ExtC.ext).rq (sozz.ext ExtC.ext).rq hsx) ?_
  rintro e w' ⟨rfl, hx⟩; obtain ⟨g15, rfl⟩ := hx.grow; clear hx
  go_wp2_with fail
  refine Calls.mono (laws_heldPool pe sz _ xs 1 _ (hmr.ext ExtC.ext).rq (by omega) (by omega)) ?_
  rintro e w' ⟨rfl, hx⟩; obtain ⟨g16, rfl⟩ := hx.grow; clear hx
  go_wp2_with fail
  go_ret
  exact ⟨rfl, ExtC.ext⟩

theorem FnExactReadPool_met (os : Os) (args : Array Value) : laidMetH Tryd.prog Rows.fnExactReadPoolRow.laid ((World.laidAll Tryd.prog os Rows.fnExactReadPoolRow.laid).forCall (fun _ _ => 0) ⟨#[], args, []⟩).memory :=
  by rw [MakeChecks.laidMetH_plain _ _ _ (by kernel_rfl)]; exact laidMet_laidAll _ (by kernel_rfl) (by kernel_rfl)

theorem FnExactReadPool_reads (os : Os) {H : Type} (enc : TypeId × Value → H) : ∃ places, DataW.whole enc Tryd.prog ((World.laidAll Tryd.prog os Rows.fnExactReadPoolRow.laid).forCall (fun _ _ => 0) ⟨#[], #[.string ByteArray.empty], []⟩).memory Tryd.f4.params.toList Rows.fnExactReadPoolSpec.vars false #[.string ByteArray.empty].toList 8 = some ([.lit (.string [])], [], places) :=
  ⟨[], by kernel_rfl⟩

set_option maxRecDepth 100000 in
theorem FnExactReadPool_lifted (os : Os) (started : os.Started) (H : Type) (enc : TypeId × Value → H) (F : Stop.Interp) :
    ReturnsInHanded {} Tryd.checked os 4 .any ((OpenSpec.ofChange Rows.fnExactReadPoolSpec).preRow enc Tryd.prog Tryd.f4 Rows.fnExactReadPoolRow.domain false Rows.fnExactReadPoolRow.laid) (((OpenSpec.ofChange Rows.fnExactReadPoolSpec).at F).post enc Tryd.prog Tryd.f4 false true false false) := by
  obtain ⟨places, hx⟩ := FnExactReadPool_reads os enc
  refine returnsInHanded_of_row (C := Tryd.checked) (s := OpenSpec.ofChange Rows.fnExactReadPoolSpec) Tryd.own started (by kernel_rfl) Tryd.func4
    (witness_row_atRef (enc := enc) (C := Tryd.checked) false (World.laidAll Tryd.prog os Rows.fnExactReadPoolRow.laid) #[.string ByteArray.empty] (World.laidAll_os _ _ _) (by kernel_rfl) (by kernel_rfl) (by kernel_rfl)
      (OpenSpec.preRow_of_cond 8 hx (by kernel_rfl) (fun k hk => by cases hk) (by kernel_rfl) (FnExactReadPool_met os _))) ?_
  intro W base args ds gs before hval0 hW _ _ _ hL hsh _
  have hval : ∀ (j : Nat) t v, Tryd.f4.params[j]? = some t → args[j]? = some v → Value.okWide Tryd.prog W .any base t v := hval0
  have hW' := hW
  obtain ⟨p, q, hA0, hV, rfl, hfz, hnd⟩ := hW
  have hA : DataW.TrodAll enc Tryd.prog W 0 (fun _ => true) true Tryd.f4.params.toList args.toList ds p := hA0
  rw [Tryd.params4] at hA hval
  obtain ⟨v0, d0, rfl, rfl, h0⟩ := trodAll_one hA
  obtain ⟨rfl, rfl⟩ := trodVars_none hV
  obtain ⟨s, rfl, rfl, rfl, hs⟩ := Go.ChangeMaps.open_string Tryd.underlying9 (hval 0 9 v0 rfl rfl) h0
  unfold maxLen at hs
  clear hA0 hval0
  refine (law_ReadPool s W (by omega) (pow_of hL) (errs_of4 hL) (ml_of hsh)).mono fun e W' ⟨he, hx⟩ => ?_
  subst he
  exact ⟨_, rfl, law_post (T := 4) Tryd.laidOut (by kernel_rfl) (by kernel_rfl) Tryd.underlying4 (by kernel_rfl) rfl hW' rfl rfl rfl hx⟩

theorem FnExactReadPool_said : Rows.FnExactReadPoolSaid :=
  OpenClaim.holds_of_cond 4 Tryd.f4 rfl rfl rfl rfl rfl rfl rfl ⟨rfl, rfl, rfl, rfl, rfl⟩ rfl rfl rfl rfl rfl (by kernel_rfl) Tryd.func4 (by kernel_rfl)
    (of_decide_eq_true (by kernel_rfl)) (by unfold Func.isWrapper; first | (rw [if_pos (by decide +kernel)]; kernel_rfl) | (rw [if_neg (by decide +kernel)]; exact ⟨rfl, rfl⟩))
    (fun os started H enc _ F => by rw [OpenClaim.pre_eq_preRow]; exact FnExactReadPool_lifted os started H enc F)

theorem FnExactReadPool_holds : Rows.FnExactReadPoolCardSaid :=
  Claim7.holds_tied_plain_at .later [] _ _ _ _ FnExactReadPool_said (fun _ h => by cases h) (by kernel_rfl) (fun _ h => by cases h) fnExactReadPool_row_tie rfl ⟨rfl, rfl⟩ (by kernel_rfl) rfl
    (fun f fn hf hfn => by
      obtain rfl : f = 4 := Option.some.inj ((show Tryd.prog.funcNamed "loop.example/g01095/laws.FnExactReadPool" = some 4 by kernel_rfl).symm.trans hf) |>.symm
      obtain rfl : fn = Tryd.f4 := (Option.some.inj (Tryd.func4.symm.trans hfn)).symm
      exact ⟨by kernel_rfl, fun j t ht => by
        have hm : t ∈ Tryd.f4.params.toList := by simpa using Array.mem_of_getElem? ht
        have hall : (Tryd.f4.params.toList.all fun u => !Tryd.prog.wantsStandIn u) = true := by kernel_rfl
        exact (show Tryd.prog.wantsStandIn t = false by simpa using List.all_eq_true.1 hall t hm)⟩)
    (by kernel_rfl)
#print axioms FnExactReadPool_holds
end Go.Proofs.YthcomgnokkndgaaDoor
