/- The law on ReadDecimal: for every text both sides read the same number, or none. No condition; the library's tables and errors are as the program's text lays them. -/
import Derived.Test.YtomkhjcejjkelaaDoorDoorR
namespace Go.Proofs.YtomkhjcejjkelaaDoor
open Go.ChangeShapes Go.WideShapes Go.ChangeAt Go.RowKit Go.Joins

set_option maxHeartbeats 1000000 in
theorem law_ReadDecimal (s : ByteArray) (w : World) (hs : s.size ≤ 9223372036854775807) (hp : Pow w) (he : Errs w) :
    Calls Tryd.prog 11 #[.string s] w fun e w' => e = .returned (.bool true) ∧ Ext w w' := by
  by_cases hbig : 1048576 < s.size
  · clear hp he
    go_enter Tryd.func11, Tryd.ntmps11
    go_wp2_with fail
    go_ret
    exact ⟨rfl, ExtC.ext⟩
  obtain ⟨x, b, hn⟩ := num_some (-999999999) 999999999 s
  have RI := fun y (hy : Ext w y) => impl_readNumber s (-999999999) 999999999 x b hn y (by omega) (by omega) (by omega) (hp.ext hy) (he.ext hy)
  have RS := fun y => spec_l01Read s x b hn y (by omega)
  clear hp he hn
  have RD := fun y => (show Calls Tryd.prog 45 #[.string s] y fun e w' => e = .returned (.tuple #[.int .i64 x, .bool b]) ∧ Ext y w' by
    go_enter Tryd.func45, Tryd.ntmps45
    go_wp2_with (first | (go_at_call 89; (with_reducible refine (RS _).mono ?_); rintro e w' ⟨rfl, hx⟩; obtain ⟨g, rfl⟩ := hx.grow; clear hx))
    refine bodyPost_ret (v := .tuple #[.int .i64 x, .bool b]) (by simp [results, Tryd.results45, go_sem]) rfl ?_
    exact ⟨rfl, ExtC.ext⟩)
  have RE := fun y (hy : Ext w y) => (show Calls Tryd.prog 46 #[.string s] y fun e w' => e = .returned (.tuple #[.int .i64 x, .bool b]) ∧ Ext y w' by
    have R := fun z (hz : Ext y z) => RI z (hy.trans hz)
    clear RI RS RD
    go_enter Tryd.func46, Tryd.ntmps46
    go_wp2_with (first | (go_at_call 55; (with_reducible refine (R _ ExtC.ext).mono ?_); rintro e w' ⟨rfl, hx⟩; obtain ⟨g, rfl⟩ := hx.grow; clear hx))
    refine bodyPost_ret (v := .tuple #[.int .i64 x, .bool b]) (by simp [results, Tryd.results46, go_sem]) rfl ?_
    exact ⟨rfl, ExtC.ext⟩)
  clear RI RS
  go_enter Tryd.func11, Tryd.ntmps11
  go_wp2_with (first | (go_at_call 45; (with_reducible refine (RD _).mono ?_); rintro e w' ⟨rfl, hx⟩; obtain ⟨g, rfl⟩ := hx.grow; clear hx) | (go_at_call 46; (with_reducible refine (RE _ ExtC.ext).mono ?_); rintro e w' ⟨rfl, hx⟩; obtain ⟨g, rfl⟩ := hx.grow; clear hx))
  go_ret
  exact ⟨rfl, ExtC.ext⟩

theorem FnExactReadDecimal_met (os : Os) (args : Array Value) : laidMetH Tryd.prog Rows.fnExactReadDecimalRow.laid ((World.doorLaid Tryd.prog 72 os).forCall (fun _ _ => 0) ⟨#[], args, []⟩).memory :=
  laidMetH_of_parts3 (fuel := 8) (laidMet_of_run' 8 (by kernel_rfl) (by kernel_rfl)) (by kernel_rfl) (by kernel_rfl)

set_option maxRecDepth 100000 in
theorem FnExactReadDecimal_lifted (os : Os) (started : os.Started) (H : Type) (enc : TypeId × Value → H) :
    ReturnsInHanded {} Tryd.checked os 11 .any (fun w args => (Rows.fnExactReadDecimalSpec.pre enc Tryd.prog Tryd.f11 [] false w args ∧ laidMetH Tryd.prog Rows.fnExactReadDecimalRow.laid w) ∧ sizedMet enc Tryd.prog Tryd.f11 (OpenSpec.ofChange Rows.fnExactReadDecimalSpec) false w args)
      (Rows.fnExactReadDecimalSpec.post enc Tryd.prog Tryd.f11 false true false false) := by
  refine returnsInHanded_of_change_and (C := Tryd.checked) (X := fun w _ => laidMetH Tryd.prog Rows.fnExactReadDecimalRow.laid w) (fun _ _ _ hh h => h.of_heap hh) Tryd.own started (by kernel_rfl) Tryd.func11
    (ChangeSpec.witness_shaped (enc := enc) (C := Tryd.checked) (os := os) (X := fun w _ => laidMetH Tryd.prog Rows.fnExactReadDecimalRow.laid w) false (World.doorLaid Tryd.prog 72 os) #[.string ByteArray.empty] 8 rfl (World.shaped_of_RefB (by kernel_rfl) (by kernel_rfl)) (by kernel_rfl) (by kernel_rfl) (by kernel_rfl) (FnExactReadDecimal_met os _)) ?_
  intro W base args ds gs before hval0 hW hcnd _ hL _
  have hval : ∀ (j : Nat) t v, Tryd.f11.params[j]? = some t → args[j]? = some v → Value.okWide Tryd.prog W .any base t v := hval0
  have hW' := hW
  obtain ⟨p, q, hA0, hV, rfl, hfz, hnd⟩ := hW
  have hA : DataW.TrodAll enc Tryd.prog W 0 (fun _ => true) true Tryd.f11.params.toList args.toList ds p := hA0
  rw [Tryd.params11] at hA hval
  obtain ⟨v0, d0, rfl, rfl, h0⟩ := trodAll_one hA
  obtain ⟨rfl, rfl⟩ := trodVars_none hV
  obtain ⟨s, rfl, rfl, rfl, hs⟩ := Go.ChangeMaps.open_string Tryd.underlying9 (hval 0 9 v0 rfl rfl) h0
  unfold maxLen at hs
  clear hA0 hval0
  refine (law_ReadDecimal s W (by omega) (pow_of hL) (errs_of3 hL)).mono fun e W' ⟨he, hx⟩ => ?_
  subst he
  exact ⟨_, rfl, law_post (T := 4) Tryd.laidOut (by kernel_rfl) (by kernel_rfl) Tryd.underlying4 (by kernel_rfl) rfl hW' rfl rfl rfl hx⟩

theorem FnExactReadDecimal_said : Rows.FnExactReadDecimalSaid :=
  OpenClaim.holds_of_wide 11 Tryd.f11 rfl rfl rfl rfl rfl rfl rfl ⟨rfl, rfl, rfl, rfl, rfl⟩ rfl rfl rfl rfl rfl (by kernel_rfl) Tryd.func11 (by kernel_rfl)
    (of_decide_eq_true (by kernel_rfl)) (by unfold Func.isWrapper; first | (rw [if_pos (by decide +kernel)]; kernel_rfl) | (rw [if_neg (by decide +kernel)]; exact ⟨rfl, rfl⟩))
    (fun os started H enc _ => FnExactReadDecimal_lifted os started H enc)

theorem FnExactReadDecimal_holds : Rows.FnExactReadDecimalCardSaid :=
  Claim7.holds_tied_plain_at .later [] _ _ _ _ FnExactReadDecimal_said (fun _ h => by cases h) (by kernel_rfl) (fun _ h => by cases h) fnExactReadDecimal_row_tie rfl ⟨rfl, rfl⟩ (by kernel_rfl) rfl
    (fun f fn hf hfn => by
      obtain rfl : f = 11 := Option.some.inj ((show Tryd.prog.funcNamed "loop.example/g01095/laws.FnExactReadDecimal" = some 11 by kernel_rfl).symm.trans hf) |>.symm
      obtain rfl : fn = Tryd.f11 := (Option.some.inj (Tryd.func11.symm.trans hfn)).symm
      exact ⟨by kernel_rfl, fun j t ht => by
        have hm : t ∈ Tryd.f11.params.toList := by simpa using Array.mem_of_getElem? ht
        have hall : (Tryd.f11.params.toList.all fun u => !Tryd.prog.wantsStandIn u) = true := by kernel_rfl
        exact (show Tryd.prog.wantsStandIn t = false by simpa using List.all_eq_true.1 hall t hm)⟩)
    (by kernel_rfl)
#print axioms FnExactReadDecimal_holds
end Go.Proofs.YtomkhjcejjkelaaDoor
