/- The law on VoicesText: for every input it returns true. No condition; the library's tables are as the program's text lays them. -/
import Derived.Test.YtomkhjcejjkelaaDoorDoor
import Derived.Test.YtomkhjcejjkelaaDoorVoiceArg
import Derived.Test.YtomkhjcejjkelaaDoorVText
import Derived.Test.YtomkhjcejjkelaaDoorVoiceMark
namespace Go.Proofs.YtomkhjcejjkelaaDoor
open Go.ChangeShapes Go.WideShapes Go.ChangeAt Go.RowKit Go.Joins

set_option maxHeartbeats 2000000 in
theorem law_VoicesText (v0 : Value) (d0 : List VD) (w : World) (h0 : RV w v0 d0) (hs0 : ShortR d0) (hp : Pow w) :
    Calls Tryd.prog 9 #[v0] w fun e w' => e = .returned (.bool true) ∧ Ext w w' := by
  go_enter Tryd.func9, Tryd.ntmps9
  go_wp2_with fail
  refine Calls.mono (laws_szVoiceS v0 d0 _ (h0.ext ExtC.ext) hs0.1 hs0.2) ?_
  rintro e w' ⟨rr0, rfl, hr, hx⟩; obtain ⟨g1, rfl⟩ := hx.grow; clear hx
  rcases hr with hr | ⟨hr, hl0, hm0⟩
  · go_wp2_with fail
    go_ret
    exact ⟨rfl, ExtC.ext⟩
  have hsh0 := short_of hl0 hm0
  have hvc0 : vcnt d0 ≤ 2097152 := by rw [vcnt_sum]; omega
  obtain ⟨bb, hbb⟩ : ∃ b, vokB d0 = b := ⟨_, rfl⟩
  obtain ⟨xs, hxs⟩ : ∃ x, vtextX d0 = x := ⟨_, rfl⟩
  go_wp2_with fail
  refine Calls.mono (laws_toVoiceS v0 d0 _ (h0.ext ExtC.ext) hl0 hm0) ?_
  rintro e w' ⟨x0a, rfl, n0a, o0a, hx⟩; obtain ⟨g2, rfl⟩ := hx.grow; clear hx
  go_wp2_with fail
  refine Calls.mono (spec_VoicesText' x0a d0 _ ((o0a.vs n0a).ext ExtC.ext) hsh0 bb hbb xs hxs (hp.ext ExtC.ext)) ?_
  rintro e w' ⟨rfl, hx⟩; obtain ⟨g3, rfl⟩ := hx.grow; clear hx
  go_wp2_with fail
  refine Calls.mono (laws_toVoiceS v0 d0 _ (h0.ext ExtC.ext) hl0 hm0) ?_
  rintro e w' ⟨x0b, rfl, n0b, o0b, hx⟩; obtain ⟨g4, rfl⟩ := hx.grow; clear hx
  go_wp2_with fail
  refine Calls.mono (impl_VoicesText' x0b d0 _ ((o0b.vs n0b).ext ExtC.ext) hsh0 bb hbb xs hxs (hp.ext ExtC.ext)) ?_
  rintro e w' ⟨rfl, hx⟩; obtain ⟨g5, rfl⟩ := hx.grow; clear hx
  go_wp2_with fail
  refine Calls.mono (laws_toVoiceS v0 d0 _ (h0.ext ExtC.ext) hl0 hm0) ?_
  rintro e w' ⟨x0c, rfl, n0c, o0c, hx⟩; obtain ⟨g6, rfl⟩ := hx.grow; clear hx
  go_wp2_with fail
  refine Calls.mono (laws_eqVoiceS x0b x0c d0 d0 true (by simp) _ (o0b.ext ExtC.ext).rv (o0c.ext ExtC.ext).rv hsh0 hsh0) ?_
  rintro e w' ⟨rfl, hx⟩; obtain ⟨g7, rfl⟩ := hx.grow; clear hx
  go_wp2_with fail
  go_ret
  exact ⟨rfl, ExtC.ext⟩

theorem FnExactVoicesText_met (os : Os) (args : Array Value) : laidMetH Tryd.prog Rows.fnExactVoicesTextRow.laid ((World.doorLaid Tryd.prog 72 os).forCall (fun _ _ => 0) ⟨#[], args, []⟩).memory :=
  laidMetH_of_parts3 (fuel := 8) (laidMet_of_run' 8 (by kernel_rfl) (by kernel_rfl)) (by kernel_rfl) (by kernel_rfl)

set_option maxRecDepth 100000 in
theorem FnExactVoicesText_lifted (os : Os) (started : os.Started) (H : Type) (enc : TypeId × Value → H) :
    ReturnsInHanded {} Tryd.checked os 9 .any (fun w args => (Rows.fnExactVoicesTextSpec.pre enc Tryd.prog Tryd.f9 [] false w args ∧ laidMetH Tryd.prog Rows.fnExactVoicesTextRow.laid w) ∧ sizedMet enc Tryd.prog Tryd.f9 (OpenSpec.ofChange Rows.fnExactVoicesTextSpec) false w args)
      (Rows.fnExactVoicesTextSpec.post enc Tryd.prog Tryd.f9 false true false false) := by
  refine returnsInHanded_of_change_and (C := Tryd.checked) (X := fun w _ => laidMetH Tryd.prog Rows.fnExactVoicesTextRow.laid w) (fun _ _ _ hh h => h.of_heap hh) Tryd.own started (by kernel_rfl) Tryd.func9
    (ChangeSpec.witness_shaped (enc := enc) (C := Tryd.checked) (os := os) (X := fun w _ => laidMetH Tryd.prog Rows.fnExactVoicesTextRow.laid w) false (World.doorLaid Tryd.prog 72 os) #[.slice none 0 0] 8 rfl (World.shaped_of_RefB (by kernel_rfl) (by kernel_rfl)) (by kernel_rfl) (by kernel_rfl) (by kernel_rfl) (FnExactVoicesText_met os _)) ?_
  intro W base args ds gs before hval0 hW hcnd _ hL _
  have hval : ∀ (j : Nat) t v, Tryd.f9.params[j]? = some t → args[j]? = some v → Value.okWide Tryd.prog W .any base t v := hval0
  have hW' := hW
  obtain ⟨p, q, hA0, hV, rfl, hfz, hnd⟩ := hW
  have hA : DataW.TrodAll enc Tryd.prog W 0 (fun _ => true) true Tryd.f9.params.toList args.toList ds p := hA0
  rw [Tryd.params9] at hA hval
  obtain ⟨v0, d0, rfl, rfl, h0⟩ := trodAll_one hA
  obtain ⟨rfl, rfl⟩ := trodVars_none hV
  obtain ⟨d0', hd0, hs0⟩ := open_voices (hval 0 54 v0 rfl rfl) h0
  clear hA0 hval0
  refine (law_VoicesText v0 d0' W hd0 hs0 (pow_of hL)).mono fun e W' ⟨he, hx⟩ => ?_
  subst he
  exact ⟨_, rfl, law_post (T := 4) Tryd.laidOut (by kernel_rfl) (by kernel_rfl) Tryd.underlying4 (by kernel_rfl) rfl hW' rfl rfl rfl hx⟩

theorem FnExactVoicesText_said : Rows.FnExactVoicesTextSaid :=
  OpenClaim.holds_of_wide 9 Tryd.f9 rfl rfl rfl rfl rfl rfl rfl ⟨rfl, rfl, rfl, rfl, rfl⟩ rfl rfl rfl rfl rfl (by kernel_rfl) Tryd.func9 (by kernel_rfl)
    (of_decide_eq_true (by kernel_rfl)) (by unfold Func.isWrapper; first | (rw [if_pos (by decide +kernel)]; kernel_rfl) | (rw [if_neg (by decide +kernel)]; exact ⟨rfl, rfl⟩))
    (fun os started H enc _ => FnExactVoicesText_lifted os started H enc)

theorem FnExactVoicesText_holds : Rows.FnExactVoicesTextCardSaid :=
  Claim7.holds_tied_plain_at .later [] _ _ _ _ FnExactVoicesText_said (fun _ h => by cases h) (by kernel_rfl) (fun _ h => by cases h) fnExactVoicesText_row_tie rfl ⟨rfl, rfl⟩ (by kernel_rfl) rfl
    (fun f fn hf hfn => by
      obtain rfl : f = 9 := Option.some.inj ((show Tryd.prog.funcNamed "loop.example/g01095/laws.FnExactVoicesText" = some 9 by kernel_rfl).symm.trans hf) |>.symm
      obtain rfl : fn = Tryd.f9 := (Option.some.inj (Tryd.func9.symm.trans hfn)).symm
      exact ⟨by kernel_rfl, fun j t ht => by
        have hm : t ∈ Tryd.f9.params.toList := by simpa using Array.mem_of_getElem? ht
        have hall : (Tryd.f9.params.toList.all fun u => !Tryd.prog.wantsStandIn u) = true := by kernel_rfl
        exact (show Tryd.prog.wantsStandIn t = false by simpa using List.all_eq_true.1 hall t hm)⟩)
    (by kernel_rfl)
#print axioms FnExactVoicesText_holds
end Go.Proofs.YtomkhjcejjkelaaDoor
