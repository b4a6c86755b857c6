/- The law on FractionText: for every fraction the program's text and the reference's are one. No condition; the library's tables are as the program's text lays them. -/
import Derived.Test.YtomkhjcejjkelaaDoorDoor
import Derived.Test.YtomkhjcejjkelaaDoorFrArg
import Derived.Test.YtomkhjcejjkelaaDoorFrText
namespace Go.Proofs.YtomkhjcejjkelaaDoor
open Go.ChangeShapes Go.WideShapes Go.ChangeAt Go.RowKit Go.Joins

set_option maxHeartbeats 1000000 in
theorem law_FractionText (n d : Int) (hn : -9223372036854775808 ≤ n ∧ n ≤ 9223372036854775807) (hd : -9223372036854775808 ≤ d ∧ d ≤ 9223372036854775807) (w : World) (hp : Pow w) :
    Calls Tryd.prog 7 #[.agg #[.int .i64 n, .int .i64 d]] w fun e w' => e = .returned (.bool true) ∧ Ext w w' := by
  obtain ⟨b, hb⟩ : ∃ b, okF n d = b := ⟨_, rfl⟩
  have RI := fun x (hx : Ext w x) => impl_FractionText n d hn hd b hb x (hp.ext hx)
  have RS := fun x => spec_FractionText n d hn hd b hb x
  obtain ⟨s, hs⟩ : ∃ s, (if b then txt n d else ⟨#[]⟩) = s := ⟨_, rfl⟩
  rw [hs] at RI RS
  clear hp hn hd hb hs
  go_enter Tryd.func7, Tryd.ntmps7
  go_wp2_with (first | (go_at_call 31; (with_reducible refine (laws_toFraction _ _ _).mono ?_); rintro e w' ⟨rfl, hx⟩; obtain ⟨g, rfl⟩ := hx.grow; clear hx) | (go_at_call 30; (with_reducible refine (RS _).mono ?_); rintro e w' ⟨rfl, hx⟩; obtain ⟨g, rfl⟩ := hx.grow; clear hx) | (go_at_call 32; (with_reducible refine (RI _ ExtC.ext).mono ?_); rintro e w' ⟨rfl, hx⟩; obtain ⟨g, rfl⟩ := hx.grow; clear hx))
  go_ret
  exact ⟨rfl, ExtC.ext⟩

theorem FnExactFractionText_met (os : Os) (args : Array Value) : laidMetH Tryd.prog Rows.fnExactFractionTextRow.laid ((World.doorLaid Tryd.prog 72 os).forCall (fun _ _ => 0) ⟨#[], args, []⟩).memory :=
  laidMetH_of_parts3 (fuel := 8) (laidMet_of_run' 8 (by kernel_rfl) (by kernel_rfl)) (by kernel_rfl) (by kernel_rfl)

set_option maxRecDepth 100000 in
theorem FnExactFractionText_lifted (os : Os) (started : os.Started) (H : Type) (enc : TypeId × Value → H) :
    ReturnsInHanded {} Tryd.checked os 7 .any (fun w args => (Rows.fnExactFractionTextSpec.pre enc Tryd.prog Tryd.f7 [] false w args ∧ laidMetH Tryd.prog Rows.fnExactFractionTextRow.laid w) ∧ sizedMet enc Tryd.prog Tryd.f7 (OpenSpec.ofChange Rows.fnExactFractionTextSpec) false w args)
      (Rows.fnExactFractionTextSpec.post enc Tryd.prog Tryd.f7 false true false false) := by
  refine returnsInHanded_of_change_and (C := Tryd.checked) (X := fun w _ => laidMetH Tryd.prog Rows.fnExactFractionTextRow.laid w) (fun _ _ _ hh h => h.of_heap hh) Tryd.own started (by kernel_rfl) Tryd.func7
    (ChangeSpec.witness_shaped (enc := enc) (C := Tryd.checked) (os := os) (X := fun w _ => laidMetH Tryd.prog Rows.fnExactFractionTextRow.laid w) false (World.doorLaid Tryd.prog 72 os) #[.agg #[.int .i64 0, .int .i64 0]] 8 rfl (World.shaped_of_RefB (by kernel_rfl) (by kernel_rfl)) (by kernel_rfl) (by kernel_rfl) (by kernel_rfl) (FnExactFractionText_met os _)) ?_
  intro W base args ds gs before hval0 hW hcnd _ hL _
  have hval : ∀ (j : Nat) t v, Tryd.f7.params[j]? = some t → args[j]? = some v → Value.okWide Tryd.prog W .any base t v := hval0
  have hW' := hW
  obtain ⟨p, q, hA0, hV, rfl, hfz, hnd⟩ := hW
  have hA : DataW.TrodAll enc Tryd.prog W 0 (fun _ => true) true Tryd.f7.params.toList args.toList ds p := hA0
  rw [Tryd.params7] at hA hval
  obtain ⟨v0, d0, rfl, rfl, h0⟩ := trodAll_one hA
  obtain ⟨rfl, rfl⟩ := trodVars_none hV
  obtain ⟨n, d, rfl, hn, hd⟩ := open_frac (hval 0 43 v0 rfl rfl) h0
  clear hA0 hval0
  refine (law_FractionText n d hn hd W (pow_of hL)).mono fun e W' ⟨he, hx⟩ => ?_
  subst he
  exact ⟨_, rfl, law_post (T := 4) Tryd.laidOut (by kernel_rfl) (by kernel_rfl) Tryd.underlying4 (by kernel_rfl) rfl hW' rfl rfl rfl hx⟩

theorem FnExactFractionText_said : Rows.FnExactFractionTextSaid :=
  OpenClaim.holds_of_wide 7 Tryd.f7 rfl rfl rfl rfl rfl rfl rfl ⟨rfl, rfl, rfl, rfl, rfl⟩ rfl rfl rfl rfl rfl (by kernel_rfl) Tryd.func7 (by kernel_rfl)
    (of_decide_eq_true (by kernel_rfl)) (by unfold Func.isWrapper; first | (rw [if_pos (by decide +kernel)]; kernel_rfl) | (rw [if_neg (by decide +kernel)]; exact ⟨rfl, rfl⟩))
    (fun os started H enc _ => FnExactFractionText_lifted os started H enc)

theorem FnExactFractionText_holds : Rows.FnExactFractionTextCardSaid :=
  Claim7.holds_tied_plain_at .later [] _ _ _ _ FnExactFractionText_said (fun _ h => by cases h) (by kernel_rfl) (fun _ h => by cases h) fnExactFractionText_row_tie rfl ⟨rfl, rfl⟩ (by kernel_rfl) rfl
    (fun f fn hf hfn => by
      obtain rfl : f = 7 := Option.some.inj ((show Tryd.prog.funcNamed "loop.example/g01095/laws.FnExactFractionText" = some 7 by kernel_rfl).symm.trans hf) |>.symm
      obtain rfl : fn = Tryd.f7 := (Option.some.inj (Tryd.func7.symm.trans hfn)).symm
      exact ⟨by kernel_rfl, fun j t ht => by
        have hm : t ∈ Tryd.f7.params.toList := by simpa using Array.mem_of_getElem? ht
        have hall : (Tryd.f7.params.toList.all fun u => !Tryd.prog.wantsStandIn u) = true := by kernel_rfl
        exact (show Tryd.prog.wantsStandIn t = false by simpa using List.all_eq_true.1 hall t hm)⟩)
    (by kernel_rfl)
#print axioms FnExactFractionText_holds
end Go.Proofs.YtomkhjcejjkelaaDoor
