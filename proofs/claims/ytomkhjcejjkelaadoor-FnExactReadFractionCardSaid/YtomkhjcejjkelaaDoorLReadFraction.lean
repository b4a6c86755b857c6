/- The law on ReadFraction: for every text both sides read the same fraction, or none. No condition; the library's tables and errors are as the program's text lays them. -/
import Derived.Test.YtomkhjcejjkelaaDoorDoorR
import Derived.Test.YtomkhjcejjkelaaDoorFrArg
import Derived.Test.YtomkhjcejjkelaaDoorReadF
import Derived.Deep.DeepHandedRow
import Derived.Deep.DeepWitnessRowRef
namespace Go.Proofs.YtomkhjcejjkelaaDoor
open Go.ChangeShapes Go.WideShapes Go.ChangeAt Go.RowKit Go.Joins

set_option maxHeartbeats 1000000 in
theorem law_ReadFraction (s : ByteArray) (w : World) (hs : s.size ≤ 9223372036854775807) (hp : Pow w) (he : Errs w) (hm : ML w) :
    Calls Tryd.prog 12 #[.string s] w fun e w' => e = .returned (.bool true) ∧ Ext w w' := by
  by_cases hbig : 1048576 < s.size
  · clear hp he hm
    go_enter Tryd.func12, Tryd.ntmps12
    go_wp2_with fail
    go_ret
    exact ⟨rfl, ExtC.ext⟩
  obtain ⟨n, d, b, hf⟩ := frac_some s
  have RI := fun y (hy : Ext w y) => impl_ReadFraction s n d b hf y (by omega) (hp.ext hy) (he.ext hy) (hm.ext hy)
  have RS := fun y => spec_ReadFraction s n d b hf y (by omega)
  clear hp he hm hf
  go_enter Tryd.func12, Tryd.ntmps12
  go_wp2_with (first | (go_at_call 47; (with_reducible refine (RS _).mono ?_); rintro e w' ⟨rfl, hx⟩; obtain ⟨g, rfl⟩ := hx.grow; clear hx) | (go_at_call 48; (with_reducible refine (RI _ ExtC.ext).mono ?_); rintro e w' ⟨rfl, hx⟩; obtain ⟨g, rfl⟩ := hx.grow; clear hx) | (go_at_call 49; (with_reducible refine (laws_eqFraction n d _).mono ?_); rintro e w' ⟨rfl, hx⟩; obtain ⟨g, rfl⟩ := hx.grow; clear hx))
  go_ret
  exact ⟨rfl, ExtC.ext⟩

theorem FnExactReadFraction_met (os : Os) (args : Array Value) : laidMetH Tryd.prog Rows.fnExactReadFractionRow.laid ((World.doorLaid Tryd.prog 72 os).forCall (fun _ _ => 0) ⟨#[], args, []⟩).memory :=
  laidMetH_of_parts3 (fuel := 8) (laidMet_of_run' 8 (by kernel_rfl) (by kernel_rfl)) (by kernel_rfl) (by kernel_rfl)

theorem FnExactReadFraction_reads (os : Os) {H : Type} (enc : TypeId × Value → H) : ∃ places, DataW.whole enc Tryd.prog ((World.doorLaid Tryd.prog 72 os).forCall (fun _ _ => 0) ⟨#[], #[.string ByteArray.empty], []⟩).memory Tryd.f12.params.toList Rows.fnExactReadFractionSpec.vars false #[.string ByteArray.empty].toList 8 = some ([.lit (.string [])], [], places) :=
  ⟨[], by kernel_rfl⟩

set_option maxRecDepth 100000 in
theorem FnExactReadFraction_lifted (os : Os) (started : os.Started) (H : Type) (enc : TypeId × Value → H) (F : Stop.Interp) :
    ReturnsInHanded {} Tryd.checked os 12 .any ((OpenSpec.ofChange Rows.fnExactReadFractionSpec).preRow enc Tryd.prog Tryd.f12 Rows.fnExactReadFractionRow.domain false Rows.fnExactReadFractionRow.laid) (((OpenSpec.ofChange Rows.fnExactReadFractionSpec).at F).post enc Tryd.prog Tryd.f12 false true false false) := by
  obtain ⟨places, hx⟩ := FnExactReadFraction_reads os enc
  refine returnsInHanded_of_row (C := Tryd.checked) (s := OpenSpec.ofChange Rows.fnExactReadFractionSpec) Tryd.own started (by kernel_rfl) Tryd.func12
    (witness_row_atRef (enc := enc) (C := Tryd.checked) false (World.doorLaid Tryd.prog 72 os) #[.string ByteArray.empty] rfl (by kernel_rfl) (by kernel_rfl) (by kernel_rfl)
      (OpenSpec.preRow_of_cond 8 hx (by kernel_rfl) (fun k hk => by cases hk) (by kernel_rfl) (FnExactReadFraction_met os _))) ?_
  intro W base args ds gs before hval0 hW _ _ _ hL hsh _
  have hval : ∀ (j : Nat) t v, Tryd.f12.params[j]? = some t → args[j]? = some v → Value.okWide Tryd.prog W .any base t v := hval0
  have hW' := hW
  obtain ⟨p, q, hA0, hV, rfl, hfz, hnd⟩ := hW
  have hA : DataW.TrodAll enc Tryd.prog W 0 (fun _ => true) true Tryd.f12.params.toList args.toList ds p := hA0
  rw [Tryd.params12] at hA hval
  obtain ⟨v0, d0, rfl, rfl, h0⟩ := trodAll_one hA
  obtain ⟨rfl, rfl⟩ := trodVars_none hV
  obtain ⟨s, rfl, rfl, rfl, hs⟩ := Go.ChangeMaps.open_string Tryd.underlying9 (hval 0 9 v0 rfl rfl) h0
  unfold maxLen at hs
  clear hA0 hval0
  refine (law_ReadFraction s W (by omega) (pow_of hL) (errs_of3 hL) (ml_of hsh)).mono fun e W' ⟨he, hx⟩ => ?_
  subst he
  exact ⟨_, rfl, law_post (T := 4) Tryd.laidOut (by kernel_rfl) (by kernel_rfl) Tryd.underlying4 (by kernel_rfl) rfl hW' rfl rfl rfl hx⟩

theorem FnExactReadFraction_said : Rows.FnExactReadFractionSaid :=
  OpenClaim.holds_of_cond 12 Tryd.f12 rfl rfl rfl rfl rfl rfl rfl ⟨rfl, rfl, rfl, rfl, rfl⟩ rfl rfl rfl rfl rfl (by kernel_rfl) Tryd.func12 (by kernel_rfl)
    (of_decide_eq_true (by kernel_rfl)) (by unfold Func.isWrapper; first | (rw [if_pos (by decide +kernel)]; kernel_rfl) | (rw [if_neg (by decide +kernel)]; exact ⟨rfl, rfl⟩))
    (fun os started H enc _ F => by rw [OpenClaim.pre_eq_preRow]; exact FnExactReadFraction_lifted os started H enc F)

theorem FnExactReadFraction_holds : Rows.FnExactReadFractionCardSaid :=
  Claim7.holds_tied_plain_at .later [] _ _ _ _ FnExactReadFraction_said (fun _ h => by cases h) (by kernel_rfl) (fun _ h => by cases h) fnExactReadFraction_row_tie rfl ⟨rfl, rfl⟩ (by kernel_rfl) rfl
    (fun f fn hf hfn => by
      obtain rfl : f = 12 := Option.some.inj ((show Tryd.prog.funcNamed "loop.example/g01095/laws.FnExactReadFraction" = some 12 by kernel_rfl).symm.trans hf) |>.symm
      obtain rfl : fn = Tryd.f12 := (Option.some.inj (Tryd.func12.symm.trans hfn)).symm
      exact ⟨by kernel_rfl, fun j t ht => by
        have hm : t ∈ Tryd.f12.params.toList := by simpa using Array.mem_of_getElem? ht
        have hall : (Tryd.f12.params.toList.all fun u => !Tryd.prog.wantsStandIn u) = true := by kernel_rfl
        exact (show Tryd.prog.wantsStandIn t = false by simpa using List.all_eq_true.1 hall t hm)⟩)
    (by kernel_rfl)
#print axioms FnExactReadFraction_holds
end Go.Proofs.YtomkhjcejjkelaaDoor
