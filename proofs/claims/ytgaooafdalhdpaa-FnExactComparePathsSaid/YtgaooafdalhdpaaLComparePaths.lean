/- The law on ComparePaths: for every input it returns true. No condition. -/
import Derived.Test.YtgaooafdalhdpaaVoiceArg
import Derived.Test.YtgaooafdalhdpaaCmpPaths2
import Derived.Test.YtgaooafdalhdpaaVoiceMark
namespace Go.Proofs.Ytgaooafdalhdpaa
open Go.ChangeShapes Go.WideShapes Go.ChangeAt Go.RowKit Go.Joins

set_option maxHeartbeats 2000000 in
theorem law_ComparePaths (v0 : Value) (d0 : List VD) (d1 : Int) (v2 : Value) (d2 : List Int) (v3 : Value) (d3 : List Int) (w : World) (h0 : RV w v0 d0) (hs0 : ShortR d0) (hr1 : I64 d1) (h2 : RI w v2 d2) (hl2 : d2.length ≤ 9223372036854775807) (hb2 : ∀ n ∈ d2, I64 n) (h3 : RI w v3 d3) (hl3 : d3.length ≤ 9223372036854775807) (hb3 : ∀ n ∈ d3, I64 n) :
    Calls Try.prog 9 #[v0, .int .i64 d1, v2, v3] w fun e w' => e = .returned (.bool true) ∧ Ext w w' := by
  obtain ⟨q2, qc2, rfl, -, hq2⟩ := h2.form
  have HQ2 := Lib.hid hq2; clear hq2
  have HB2 := Lib.hid hb2; clear hb2
  obtain ⟨q3, qc3, rfl, -, hq3⟩ := h3.form
  have HQ3 := Lib.hid hq3; clear hq3
  have HB3 := Lib.hid hb3; clear hb3
  by_cases hbig2 : 1048576 < d2.length
  · go_enter Try.func9, Try.ntmps9
    go_wp2_with fail
    go_ret
    exact ⟨rfl, ExtC.ext⟩
  by_cases hbig3 : 1048576 < d3.length
  · go_enter Try.func9, Try.ntmps9
    go_wp2_with fail
    go_ret
    exact ⟨rfl, ExtC.ext⟩
  go_enter Try.func9, Try.ntmps9
  go_wp2_with fail
  refine Calls.mono (laws_szVoiceS v0 d0 _ (h0.ext ExtC.ext) hs0.1 hs0.2) ?_
  rintro e w' ⟨rr0, rfl, hr, hx⟩; obtain ⟨g1, rfl⟩ := hx.grow; clear hx
  rcases hr with hr | ⟨hr, hl0, hm0⟩
  · go_wp2_with fail
    go_ret
    exact ⟨rfl, ExtC.ext⟩
  have hsh0 := short_of hl0 hm0
  have hvc0 : vcnt d0 ≤ 2097152 := by rw [vcnt_sum]; omega
  obtain ⟨bb, hbb⟩ : ∃ b, cmpB d0 d1 d2 d3 = b := ⟨_, rfl⟩
  obtain ⟨zz, hzz⟩ : ∃ z, cmpZ d0 d1 d2 d3 = z := ⟨_, rfl⟩
  go_wp2_with fail
  refine Calls.mono (laws_toVoiceS v0 d0 _ (h0.ext ExtC.ext) hl0 hm0) ?_
  rintro e w' ⟨x0a, rfl, n0a, o0a, hx⟩; obtain ⟨g2, rfl⟩ := hx.grow; clear hx
  go_wp2_with fail
  refine Calls.mono (laws_toInt64S _ d2 _ (h2.ext ExtC.ext) (by omega)) ?_
  rintro e w' ⟨x2a, rfl, n2a, o2a, hx⟩; obtain ⟨g3, rfl⟩ := hx.grow; clear hx
  go_wp2_with fail
  refine Calls.mono (laws_toInt64S _ d3 _ (h3.ext ExtC.ext) (by omega)) ?_
  rintro e w' ⟨x3a, rfl, n3a, o3a, hx⟩; obtain ⟨g4, rfl⟩ := hx.grow; clear hx
  go_wp2_with fail
  refine Calls.mono (spec_ComparePaths' x0a d1 x2a x3a d0 d2 d3 _ ((o0a.vs n0a).ext ExtC.ext) hsh0 ((o2a.is n2a).ext ExtC.ext) (by omega) ((o3a.is n3a).ext ExtC.ext) (by omega) bb hbb zz hzz) ?_
  rintro e w' ⟨rfl, hx⟩; obtain ⟨g5, rfl⟩ := hx.grow; clear hx
  go_wp2_with fail
  refine Calls.mono (laws_toVoiceS v0 d0 _ (h0.ext ExtC.ext) hl0 hm0) ?_
  rintro e w' ⟨x0b, rfl, n0b, o0b, hx⟩; obtain ⟨g6, rfl⟩ := hx.grow; clear hx
  go_wp2_with fail
  refine Calls.mono (laws_toInt64S _ d2 _ (h2.ext ExtC.ext) (by omega)) ?_
  rintro e w' ⟨x2b, rfl, n2b, o2b, hx⟩; obtain ⟨g7, rfl⟩ := hx.grow; clear hx
  go_wp2_with fail
  refine Calls.mono (laws_toInt64S _ d3 _ (h3.ext ExtC.ext) (by omega)) ?_
  rintro e w' ⟨x3b, rfl, n3b, o3b, hx⟩; obtain ⟨g8, rfl⟩ := hx.grow; clear hx
  go_wp2_with fail
  refine Calls.mono (impl_ComparePaths' x0b d1 x2b x3b d0 d2 d3 _ ((o0b.vs n0b).ext ExtC.ext) hsh0 ((o2b.is n2b).ext ExtC.ext) (by omega) ((o3b.is n3b).ext ExtC.ext) (by omega) bb hbb zz hzz) ?_
  rintro e w' ⟨rfl, hx⟩; obtain ⟨g9, rfl⟩ := hx.grow; clear hx
  go_wp2_with fail
  refine Calls.mono (laws_toVoiceS v0 d0 _ (h0.ext ExtC.ext) hl0 hm0) ?_
  rintro e w' ⟨x0c, rfl, n0c, o0c, hx⟩; obtain ⟨g10, rfl⟩ := hx.grow; clear hx
  go_wp2_with fail
  refine Calls.mono (laws_eqVoiceS x0b x0c d0 d0 true (by simp) _ (o0b.ext ExtC.ext).rv (o0c.ext ExtC.ext).rv hsh0 hsh0) ?_
  rintro e w' ⟨rfl, hx⟩; obtain ⟨g11, rfl⟩ := hx.grow; clear hx
  go_wp2_with fail
  refine Calls.mono (laws_toInt64S _ d2 _ (h2.ext ExtC.ext) (by omega)) ?_
  rintro e w' ⟨x2c, rfl, n2c, o2c, hx⟩; obtain ⟨g12, rfl⟩ := hx.grow; clear hx
  go_wp2_with fail
  refine Calls.mono (laws_eqInt64S x2b x2c d2 d2 true (by simp) _ (o2b.ext ExtC.ext).ri (o2c.ext ExtC.ext).ri (by omega) (by omega)) ?_
  rintro e w' ⟨rfl, hx⟩; obtain ⟨g13, rfl⟩ := hx.grow; clear hx
  go_wp2_with fail
  refine Calls.mono (laws_toInt64S _ d3 _ (h3.ext ExtC.ext) (by omega)) ?_
  rintro e w' ⟨x3c, rfl, n3c, o3c, hx⟩; obtain ⟨g14, rfl⟩ := hx.grow; clear hx
  go_wp2_with fail
  refine Calls.mono (laws_eqInt64S x3b x3c d3 d3 true (by simp) _ (o3b.ext ExtC.ext).ri (o3c.ext ExtC.ext).ri (by omega) (by omega)) ?_
  rintro e w' ⟨rfl, hx⟩; obtain ⟨g15, rfl⟩ := hx.grow; clear hx
  go_wp2_with fail
  go_ret
  exact ⟨rfl, ExtC.ext⟩

set_option maxRecDepth 100000 in
theorem FnExactComparePaths_lifted (os : Os) (started : os.Started) (H : Type) (enc : TypeId × Value → H) :
    ReturnsInHanded {} Try.checked os 9 .any (Rows.fnExactComparePathsSpec.pre6 enc Try.prog Try.f9 Rows.fnExactComparePathsRow.domain false) (Rows.fnExactComparePathsSpec.post enc Try.prog Try.f9 false true false false) := by
  refine returnsInHanded_of_change (C := Try.checked) Try.own started (by kernel_rfl) Try.func9
    (ChangeSpec.witness6 (enc := enc) (C := Try.checked) false ⟨#[], #[.slice none 0 0, .int .i64 0, .slice none 0 0, .slice none 0 0], []⟩ 8 (by kernel_rfl) (by kernel_rfl) (by kernel_rfl) (by kernel_rfl)) ?_
  intro W base args ds gs before hval0 hW hcnd _
  have hval : ∀ (j : Nat) t v, Try.f9.params[j]? = some t → args[j]? = some v → Value.okWide Try.prog W .any base t v := hval0
  have hW' := hW
  obtain ⟨p, q, hA0, hV, rfl, hfz, hnd⟩ := hW
  have hA : DataW.TrodAll enc Try.prog W 0 (fun _ => true) true Try.f9.params.toList args.toList ds p := hA0
  rw [Try.params9] at hA hval
  obtain ⟨v0, v1, v2, v3, d0, d1, d2, d3, p0, p1, p2, p3, rfl, rfl, rfl, h0, h1, h2, h3⟩ := trodAll_four hA
  obtain ⟨rfl, rfl⟩ := trodVars_none hV
  obtain ⟨d0', hd0, hs0⟩ := open_voices (hval 0 22 v0 rfl rfl) h0
  obtain ⟨d1', rfl, rfl, rfl, wn1⟩ := open_int Try.underlying2 (hval 1 2 v1 rfl rfl) h1
  obtain ⟨d2', hd2, hl2, hb2⟩ := open_i64s (hval 2 29 v2 rfl rfl) h2
  obtain ⟨d3', hd3, hl3, hb3⟩ := open_i64s (hval 3 29 v3 rfl rfl) h3
  clear hA0 hval0
  refine (law_ComparePaths v0 d0' d1' v2 d2' v3 d3' W hd0 hs0 (wf_i64_range wn1) hd2 hl2 hb2 hd3 hl3 hb3).mono fun e W' ⟨he, hx⟩ => ?_
  subst he
  exact ⟨_, rfl, law_post (T := 4) Try.laidOut (by kernel_rfl) (by kernel_rfl) Try.underlying4 (by kernel_rfl) rfl hW' rfl rfl rfl hx⟩

theorem FnExactComparePaths_holds : Rows.FnExactComparePathsSaid :=
  OpenClaim.holds_of_wide 9 Try.f9 rfl rfl rfl rfl rfl rfl rfl ⟨rfl, rfl, rfl, rfl, rfl⟩ rfl rfl rfl rfl rfl (by kernel_rfl) Try.func9 (by kernel_rfl)
    (of_decide_eq_true (by kernel_rfl)) (by unfold Func.isWrapper; first | (rw [if_pos (by decide +kernel)]; kernel_rfl) | (rw [if_neg (by decide +kernel)]; exact ⟨rfl, rfl⟩))
    (fun os started H enc _ => FnExactComparePaths_lifted os started H enc)
#print axioms FnExactComparePaths_holds
end Go.Proofs.Ytgaooafdalhdpaa
