/- The law on Decimal: for every number the program's text and the reference's are one. No condition; the library's tables are as the program's text lays them. -/
import Derived.Test.YtomkhjcejjkelaaDoorDoor
namespace Go.Proofs.YtomkhjcejjkelaaDoor
open Go.ChangeShapes Go.WideShapes Go.ChangeAt Go.RowKit Go.Joins

theorem law_Decimal (n : Int) (h : -9223372036854775808 ≤ n ∧ n ≤ 9223372036854775807) (w : World) (hp : Pow w) :
    Calls Tryd.prog 6 #[.int .i64 n] w fun e w' => e = .returned (.bool true) ∧ Ext w w' := by
  have RI := fun x (hx : Ext w x) => impl_Decimal n h.1 h.2 x (hp.ext hx)
  have RS := fun x => spec_l01Dec n h.1 h.2 x
  clear hp h
  have RD := fun x => (show Calls Tryd.prog 28 #[.int .i64 n] x fun e w' => e = .returned (.string (dec n)) ∧ Ext x w' by
    go_enter Tryd.func28, Tryd.ntmps28
    go_wp2_with (first | (go_at_call 70; (with_reducible refine (RS _).mono ?_); rintro e w' ⟨rfl, hx⟩; obtain ⟨g, rfl⟩ := hx.grow; clear hx))
    go_ret
    exact ⟨rfl, ExtC.ext⟩)
  go_enter Tryd.func6, Tryd.ntmps6
  go_wp2_with (first | (go_at_call 28; (with_reducible refine (RD _).mono ?_); rintro e w' ⟨rfl, hx⟩; obtain ⟨g, rfl⟩ := hx.grow; clear hx) | (go_at_call 29; (with_reducible refine (RI _ ExtC.ext).mono ?_); rintro e w' ⟨rfl, hx⟩; obtain ⟨g, rfl⟩ := hx.grow; clear hx))
  go_ret
  exact ⟨rfl, ExtC.ext⟩

theorem FnExactDecimal_met (os : Os) (args : Array Value) : laidMetH Tryd.prog Rows.fnExactDecimalRow.laid ((World.doorLaid Tryd.prog 72 os).forCall (fun _ _ => 0) ⟨#[], args, []⟩).memory :=
  laidMetH_of_parts3 (fuel := 8) (laidMet_of_run' 8 (by kernel_rfl) (by kernel_rfl)) (by kernel_rfl) (by kernel_rfl)

set_option maxRecDepth 100000 in
theorem FnExactDecimal_lifted (os : Os) (started : os.Started) (H : Type) (enc : TypeId × Value → H) :
    ReturnsInHanded {} Tryd.checked os 6 .any (fun w args => (Rows.fnExactDecimalSpec.pre enc Tryd.prog Tryd.f6 [] false w args ∧ laidMetH Tryd.prog Rows.fnExactDecimalRow.laid w) ∧ sizedMet enc Tryd.prog Tryd.f6 (OpenSpec.ofChange Rows.fnExactDecimalSpec) false w args)
      (Rows.fnExactDecimalSpec.post enc Tryd.prog Tryd.f6 false true false false) := by
  refine returnsInHanded_of_change_and (C := Tryd.checked) (X := fun w _ => laidMetH Tryd.prog Rows.fnExactDecimalRow.laid w) (fun _ _ _ hh h => h.of_heap hh) Tryd.own started (by kernel_rfl) Tryd.func6
    (ChangeSpec.witness_shaped (enc := enc) (C := Tryd.checked) (os := os) (X := fun w _ => laidMetH Tryd.prog Rows.fnExactDecimalRow.laid w) false (World.doorLaid Tryd.prog 72 os) #[.int .i64 0] 8 rfl (World.shaped_of_RefB (by kernel_rfl) (by kernel_rfl)) (by kernel_rfl) (by kernel_rfl) (by kernel_rfl) (FnExactDecimal_met os _)) ?_
  intro W base args ds gs before hval0 hW hcnd _ hL _
  have hval : ∀ (j : Nat) t v, Tryd.f6.params[j]? = some t → args[j]? = some v → Value.okWide Tryd.prog W .any base t v := hval0
  have hW' := hW
  obtain ⟨p, q, hA0, hV, rfl, hfz, hnd⟩ := hW
  have hA : DataW.TrodAll enc Tryd.prog W 0 (fun _ => true) true Tryd.f6.params.toList args.toList ds p := hA0
  rw [Tryd.params6] at hA hval
  obtain ⟨v0, d0, rfl, rfl, h0⟩ := trodAll_one hA
  obtain ⟨rfl, rfl⟩ := trodVars_none hV
  obtain ⟨n, rfl, rfl, rfl, wn⟩ := open_int Tryd.underlying2 (hval 0 2 v0 rfl rfl) h0
  clear hA0 hval0
  refine (law_Decimal n (wf_i64_range wn) W (pow_of hL)).mono fun e W' ⟨he, hx⟩ => ?_
  subst he
  exact ⟨_, rfl, law_post (T := 4) Tryd.laidOut (by kernel_rfl) (by kernel_rfl) Tryd.underlying4 (by kernel_rfl) rfl hW' rfl rfl rfl hx⟩

theorem FnExactDecimal_said : Rows.FnExactDecimalSaid :=
  OpenClaim.holds_of_wide 6 Tryd.f6 rfl rfl rfl rfl rfl rfl rfl ⟨rfl, rfl, rfl, rfl, rfl⟩ rfl rfl rfl rfl rfl (by kernel_rfl) Tryd.func6 (by kernel_rfl)
    (of_decide_eq_true (by kernel_rfl)) (by unfold Func.isWrapper; first | (rw [if_pos (by decide +kernel)]; kernel_rfl) | (rw [if_neg (by decide +kernel)]; exact ⟨rfl, rfl⟩))
    (fun os started H enc _ => FnExactDecimal_lifted os started H enc)

theorem FnExactDecimal_holds : Rows.FnExactDecimalCardSaid :=
  Claim7.holds_tied_plain_at .later [] _ _ _ _ FnExactDecimal_said (fun _ h => by cases h) (by kernel_rfl) (fun _ h => by cases h) fnExactDecimal_row_tie rfl ⟨rfl, rfl⟩ (by kernel_rfl) rfl
    (fun f fn hf hfn => by
      obtain rfl : f = 6 := Option.some.inj ((show Tryd.prog.funcNamed "loop.example/g01095/laws.FnExactDecimal" = some 6 by kernel_rfl).symm.trans hf) |>.symm
      obtain rfl : fn = Tryd.f6 := (Option.some.inj (Tryd.func6.symm.trans hfn)).symm
      exact ⟨by kernel_rfl, fun j t ht => by
        have hm : t ∈ Tryd.f6.params.toList := by simpa using Array.mem_of_getElem? ht
        have hall : (Tryd.f6.params.toList.all fun u => !Tryd.prog.wantsStandIn u) = true := by kernel_rfl
        exact (show Tryd.prog.wantsStandIn t = false by simpa using List.all_eq_true.1 hall t hm)⟩)
    (by kernel_rfl)
#print axioms FnExactDecimal_holds
end Go.Proofs.YtomkhjcejjkelaaDoor
