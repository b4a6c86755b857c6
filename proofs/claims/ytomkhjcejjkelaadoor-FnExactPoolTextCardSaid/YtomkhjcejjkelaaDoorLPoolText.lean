/- The law on PoolText: for every input it returns true. No condition; the library's tables are as the program's text lays them. -/
import Derived.Test.YtomkhjcejjkelaaDoorDoor
import Derived.Test.YtomkhjcejjkelaaDoorPText
import Derived.Test.YtomkhjcejjkelaaDoorPool
import Derived.Test.YtomkhjcejjkelaaDoorQuotaMark
import Derived.Test.YtomkhjcejjkelaaDoorMk
namespace Go.Proofs.YtomkhjcejjkelaaDoor
open Go.ChangeShapes Go.WideShapes Go.ChangeAt Go.RowKit Go.Joins

set_option maxHeartbeats 4000000 in
set_option maxRecDepth 100000 in
theorem law_PoolText (pe sz : Int) (qv : Value) (L : List QD) (w : World) (hq : RQ w qv L) (hs : ShortQR L) (hp : Pow w) :
    Calls Tryd.prog 10 #[.agg #[.int .i64 pe, .int .i64 sz, qv]] w fun e w' => e = .returned (.bool true) ∧ Ext w w' := by
  obtain ⟨pp, pc, rfl, -⟩ := hq.form
  have HQ := Lib.hid hq
  have HS := Lib.hid hs
  clear hq hs
  go_enter Tryd.func10, Tryd.ntmps10
  go_wp2_with fail
  refine Calls.mono (laws_szPool pe sz _ L _ (HQ.out.ext ExtC.ext) HS.out) ?_
  rintro e w' ⟨r, rfl, hr, hx⟩; obtain ⟨g1, rfl⟩ := hx.grow; clear hx
  rcases hr with hr | ⟨hr, n1, n2⟩
  · go_wp2_with fail
    go_ret
    exact ⟨rfl, ExtC.ext⟩
  have hsh := Lib.hid (shortQ_of n1 n2)
  have hqc : qcnt L ≤ 4194304 := by rw [qcnt_sum]; omega
  obtain ⟨bb, hbb⟩ : ∃ b, okPB pe sz L = b := ⟨_, rfl⟩
  obtain ⟨xs, hxs⟩ : ∃ x, ptextX pe sz L = x := ⟨_, rfl⟩
  go_wp2_with fail
  refine Calls.mono (laws_toPool pe sz _ L _ (HQ.out.ext ExtC.ext) n1 n2) ?_
  rintro e w' ⟨qa, ca, rfl, oa, hx⟩; obtain ⟨g2, rfl⟩ := hx.grow; clear hx
  have HPa := Lib.hid oa; clear oa
  go_wp2_with fail
  refine Calls.mono (spec_PoolText' pe sz _ L _ (HPa.out.ext ExtC.ext).rq  hsh.out  bb hbb xs hxs (hp.ext ExtC.ext)) ?_
  rintro e w' ⟨rfl, hx⟩; obtain ⟨g3, rfl⟩ := hx.grow; clear hx
  go_wp2_with fail
  refine Calls.mono (laws_toPool pe sz _ L _ (HQ.out.ext ExtC.ext) n1 n2) ?_
  rintro e w' ⟨qb, cb, rfl, ob, hx⟩; obtain ⟨g4, rfl⟩ := hx.grow; clear hx
  have HPb := Lib.hid ob; clear ob
  go_wp2_with fail
  refine Calls.mono (impl_PoolText' pe sz _ L _ (HPb.out.ext ExtC.ext).rq  hsh.out  bb hbb xs hxs (hp.ext ExtC.ext)) ?_
  rintro e w' ⟨rfl, hx⟩; obtain ⟨g5, rfl⟩ := hx.grow; clear hx
  go_wp2_with fail
  refine wp_region_mk 5 [(0, false), (1, false), (2, true), (3, true), (4, false)] (by kernel_rfl) (by kernel_rfl) ?_
  simp only [pickOps, List.getElem?_cons_succ, List.getElem?_cons_zero, List.drop_succ_cons, List.drop_zero]
  repeat (refine mks_q (fun K hK => ?_); go_simp; first | (refine hK _ ?_; clear hK K) | (apply Exists.intro; refine ⟨fun _ => ?_, hK _ ?_⟩; (fail); clear hK K))
  refine mks_m rfl (fun v => ∃ q c, v = .agg #[.int .i64 pe, .int .i64 sz, .slice (some ⟨q, 0, none⟩) L.length c]) (fun v x => Ext _ x ∧ ∃ v', v = .agg #[.int .i64 pe, .int .i64 sz, v'] ∧ RQ x v' L) (fun v x y h k => ⟨h.1.trans k, by obtain ⟨v', e, a⟩ := h.2; exact ⟨v', e, a.ext k⟩⟩) (fun v x h => h.1) (fun x hx => ?_) ?_
  · go_simp
    refine (laws_toPool pe sz _ L x (HQ.out.ext ((ExtC.ext : Ext w g5.fin).trans hx)) n1 n2).mono ?_
    rintro e y ⟨q, c, rfl, o1, hy⟩
    exact ⟨_, rfl, ⟨q, c, rfl⟩, hx.trans hy, _, rfl, o1.rq⟩
  rintro _ ⟨q, c, rfl⟩ K hK
  go_simp
  refine hK _ ?_; clear hK K
  refine mks_m rfl (fun v => v = .bool true) (fun v x => Ext _ x) (fun v x y h k => h.trans k) (fun v x h => h) (fun x hx => ?_) ?_
  · obtain ⟨hx, v', e, a⟩ := hx
    simp only [Value.agg.injEq, Array.mk.injEq, List.cons.injEq, and_true, true_and] at e
    obtain rfl := e
    go_simp
    refine (laws_eqPool pe sz _ _ L x (HPb.out.rq.ext ((ExtC.ext : Ext g4.fin g5.fin).trans hx)) a hsh.out).mono ?_
    rintro e y ⟨rfl, hy⟩
    exact ⟨_, rfl, rfl, hx.trans hy⟩
  rintro _ rfl K hK
  go_simp
  refine hK _ ?_; clear hK K
  repeat (refine mks_q (fun K hK => ?_); go_simp; first | (refine hK _ ?_; clear hK K) | (apply Exists.intro; refine ⟨fun _ => ?_, hK _ ?_⟩; (fail); clear hK K))
  refine mks_nil ?_
  rintro x hx
  obtain ⟨g6, rfl⟩ := hx.grow; clear hx
  go_wp2_with fail
  go_ret
  exact ⟨rfl, ExtC.ext⟩

theorem FnExactPoolText_met (os : Os) (args : Array Value) : laidMetH Tryd.prog Rows.fnExactPoolTextRow.laid ((World.doorLaid Tryd.prog 72 os).forCall (fun _ _ => 0) ⟨#[], args, []⟩).memory :=
  laidMetH_of_parts3 (fuel := 8) (laidMet_of_run' 8 (by kernel_rfl) (by kernel_rfl)) (by kernel_rfl) (by kernel_rfl)

set_option maxRecDepth 100000 in
theorem FnExactPoolText_lifted (os : Os) (started : os.Started) (H : Type) (enc : TypeId × Value → H) :
    ReturnsInHanded {} Tryd.checked os 10 .any (fun w args => (Rows.fnExactPoolTextSpec.pre enc Tryd.prog Tryd.f10 [] false w args ∧ laidMetH Tryd.prog Rows.fnExactPoolTextRow.laid w) ∧ sizedMet enc Tryd.prog Tryd.f10 (OpenSpec.ofChange Rows.fnExactPoolTextSpec) false w args)
      (Rows.fnExactPoolTextSpec.post enc Tryd.prog Tryd.f10 false true false false) := by
  refine returnsInHanded_of_change_and (C := Tryd.checked) (X := fun w _ => laidMetH Tryd.prog Rows.fnExactPoolTextRow.laid w) (fun _ _ _ hh h => h.of_heap hh) Tryd.own started (by kernel_rfl) Tryd.func10
    (ChangeSpec.witness_shaped (enc := enc) (C := Tryd.checked) (os := os) (X := fun w _ => laidMetH Tryd.prog Rows.fnExactPoolTextRow.laid w) false (World.doorLaid Tryd.prog 72 os) #[.agg #[.int .i64 0, .int .i64 0, .slice none 0 0]] 8 rfl (World.shaped_of_RefB (by kernel_rfl) (by kernel_rfl)) (by kernel_rfl) (by kernel_rfl) (by kernel_rfl) (FnExactPoolText_met os _)) ?_
  intro W base args ds gs before hval0 hW hcnd _ hL _
  have hval : ∀ (j : Nat) t v, Tryd.f10.params[j]? = some t → args[j]? = some v → Value.okWide Tryd.prog W .any base t v := hval0
  have hW' := hW
  obtain ⟨p, q, hA0, hV, rfl, hfz, hnd⟩ := hW
  have hA : DataW.TrodAll enc Tryd.prog W 0 (fun _ => true) true Tryd.f10.params.toList args.toList ds p := hA0
  rw [Tryd.params10] at hA hval
  obtain ⟨v0, d0, rfl, rfl, h0⟩ := trodAll_one hA
  obtain ⟨rfl, rfl⟩ := trodVars_none hV
  obtain ⟨pe, sz, qv, L, rfl, hpe, hsz, hq, hs⟩ := open_pool (hval 0 61 v0 rfl rfl) h0
  clear hA0 hval0
  refine (law_PoolText pe sz qv L W hq hs (pow_of hL)).mono fun e W' ⟨he, hx⟩ => ?_
  subst he
  exact ⟨_, rfl, law_post (T := 4) Tryd.laidOut (by kernel_rfl) (by kernel_rfl) Tryd.underlying4 (by kernel_rfl) rfl hW' rfl rfl rfl hx⟩

theorem FnExactPoolText_said : Rows.FnExactPoolTextSaid :=
  OpenClaim.holds_of_wide 10 Tryd.f10 rfl rfl rfl rfl rfl rfl rfl ⟨rfl, rfl, rfl, rfl, rfl⟩ rfl rfl rfl rfl rfl (by kernel_rfl) Tryd.func10 (by kernel_rfl)
    (of_decide_eq_true (by kernel_rfl)) (by unfold Func.isWrapper; first | (rw [if_pos (by decide +kernel)]; kernel_rfl) | (rw [if_neg (by decide +kernel)]; exact ⟨rfl, rfl⟩))
    (fun os started H enc _ => FnExactPoolText_lifted os started H enc)

theorem FnExactPoolText_holds : Rows.FnExactPoolTextCardSaid :=
  Claim7.holds_tied_plain_at .later [] _ _ _ _ FnExactPoolText_said (fun _ h => by cases h) (by kernel_rfl) (fun _ h => by cases h) fnExactPoolText_row_tie rfl ⟨rfl, rfl⟩ (by kernel_rfl) rfl
    (fun f fn hf hfn => by
      obtain rfl : f = 10 := Option.some.inj ((show Tryd.prog.funcNamed "loop.example/g01095/laws.FnExactPoolText" = some 10 by kernel_rfl).symm.trans hf) |>.symm
      obtain rfl : fn = Tryd.f10 := (Option.some.inj (Tryd.func10.symm.trans hfn)).symm
      exact ⟨by kernel_rfl, fun j t ht => by
        have hm : t ∈ Tryd.f10.params.toList := by simpa using Array.mem_of_getElem? ht
        have hall : (Tryd.f10.params.toList.all fun u => !Tryd.prog.wantsStandIn u) = true := by kernel_rfl
        exact (show Tryd.prog.wantsStandIn t = false by simpa using List.all_eq_true.1 hall t hm)⟩)
    (by kernel_rfl)
#print axioms FnExactPoolText_holds
end Go.Proofs.YtomkhjcejjkelaaDoor
