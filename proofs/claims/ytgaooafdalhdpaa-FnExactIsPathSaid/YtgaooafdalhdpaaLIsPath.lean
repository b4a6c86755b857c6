/- The law on IsPath: for every input it returns true. No condition. -/
import Derived.Test.YtgaooafdalhdpaaVoiceArg
import Derived.Test.YtgaooafdalhdpaaPath
namespace Go.Proofs.Ytgaooafdalhdpaa
open Go.ChangeShapes Go.WideShapes Go.ChangeAt Go.RowKit Go.Joins

set_option maxHeartbeats 2000000 in
theorem law_IsPath (v u : Value) (L : List VD) (p : List Int) (w : World) (h : RV w v L) (hs : ShortR L) (hu : RI w u p) (hpl : p.length ≤ 9223372036854775807) :
    Calls Try.prog 4 #[v, u] w fun e w' => e = .returned (.bool true) ∧ Ext w w' := by
  obtain ⟨q, qc, rfl, -, hq⟩ := hu.form
  have HQ := Lib.hid hq; clear hq
  by_cases hbig : 1048576 < p.length
  · go_enter Try.func4, Try.ntmps4
    go_wp2_with fail
    go_ret
    exact ⟨rfl, ExtC.ext⟩
  go_enter Try.func4, Try.ntmps4
  go_wp2_with fail
  refine Calls.mono (laws_szVoiceS v L _ (h.ext ExtC.ext) hs.1 hs.2) ?_
  rintro e w' ⟨r, rfl, hr, hx⟩; obtain ⟨g, rfl⟩ := hx.grow; clear hx
  rcases hr with hr | ⟨hr, hl, hm⟩
  · go_wp2_with fail
    go_ret
    exact ⟨rfl, ExtC.ext⟩
  have hsh := short_of hl hm
  go_wp2_with fail
  refine Calls.mono (laws_toVoiceS v L _ (h.ext ExtC.ext) hl hm) ?_
  rintro e w' ⟨v1, rfl, n1, o1, hx⟩; obtain ⟨g1, rfl⟩ := hx.grow; clear hx
  go_wp2_with fail
  refine Calls.mono (laws_toInt64S _ p _ (hu.ext ExtC.ext) (by omega)) ?_
  rintro e w' ⟨u1, rfl, m1, p1, hx⟩; obtain ⟨g2, rfl⟩ := hx.grow; clear hx
  go_wp2_with fail
  refine Calls.mono (spec_IsPath v1 u1 L p _ ((o1.vs n1).ext ExtC.ext) hsh (p1.is m1) (by omega)) ?_
  rintro e w' ⟨⟨b1, rfl, hb1⟩, hx⟩; obtain ⟨g3, rfl⟩ := hx.grow; clear hx
  go_wp2_with fail
  refine Calls.mono (laws_toVoiceS v L _ (h.ext ExtC.ext) hl hm) ?_
  rintro e w' ⟨v2, rfl, n2, o2, hx⟩; obtain ⟨g4, rfl⟩ := hx.grow; clear hx
  go_wp2_with fail
  refine Calls.mono (laws_toInt64S _ p _ (hu.ext ExtC.ext) (by omega)) ?_
  rintro e w' ⟨u2, rfl, m2, p2, hx⟩; obtain ⟨g5, rfl⟩ := hx.grow; clear hx
  go_wp2_with fail
  refine Calls.mono (impl_IsPath v2 u2 L p _ ((o2.vs n2).ext ExtC.ext) hsh (p2.is m2) (by omega)) ?_
  rintro e w' ⟨⟨b2, rfl, hb2⟩, hx⟩; obtain ⟨g6, rfl⟩ := hx.grow; clear hx
  have hbb : b2 = b1 := by rw [Bool.eq_iff_iff, hb1, hb2]
  subst hbb
  clear hb1 hb2
  go_wp2_with fail
  refine Calls.mono (laws_toVoiceS v L _ (h.ext ExtC.ext) hl hm) ?_
  rintro e w' ⟨v3, rfl, n3, o3, hx⟩; obtain ⟨g7, rfl⟩ := hx.grow; clear hx
  go_wp2_with fail
  refine Calls.mono (laws_eqVoiceS v2 v3 L L true (by simp) _ ((o2.ext ExtC.ext).rv) o3.rv hsh hsh) ?_
  rintro e w' ⟨rfl, hx⟩; obtain ⟨g8, rfl⟩ := hx.grow; clear hx
  go_wp2_with fail
  refine Calls.mono (laws_toInt64S _ p _ (hu.ext ExtC.ext) (by omega)) ?_
  rintro e w' ⟨u3, rfl, m3, p3, hx⟩; obtain ⟨g9, rfl⟩ := hx.grow; clear hx
  go_wp2_with fail
  refine Calls.mono (laws_eqInt64S u2 u3 p p true (by simp) _ ((p2.ext ExtC.ext).ri) p3.ri (by omega) (by omega)) ?_
  rintro e w' ⟨rfl, hx⟩; obtain ⟨g10, rfl⟩ := hx.grow; clear hx
  go_wp2_with fail
  go_ret
  exact ⟨rfl, ExtC.ext⟩

set_option maxRecDepth 100000 in
theorem FnExactIsPath_lifted (os : Os) (started : os.Started) (H : Type) (enc : TypeId × Value → H) :
    ReturnsInHanded {} Try.checked os 4 .any (Rows.fnExactIsPathSpec.pre6 enc Try.prog Try.f4 Rows.fnExactIsPathRow.domain false) (Rows.fnExactIsPathSpec.post enc Try.prog Try.f4 false true false false) := by
  refine returnsInHanded_of_change (C := Try.checked) Try.own started (by kernel_rfl) Try.func4
    (ChangeSpec.witness6 (enc := enc) (C := Try.checked) false ⟨#[], #[.slice none 0 0, .slice none 0 0], []⟩ 8 (by kernel_rfl) (by kernel_rfl) (by kernel_rfl) (by kernel_rfl)) ?_
  intro W base args ds gs before hval0 hW hcnd _
  have hval : ∀ (j : Nat) t v, Try.f4.params[j]? = some t → args[j]? = some v → Value.okWide Try.prog W .any base t v := hval0
  have hW' := hW
  obtain ⟨p, q, hA0, hV, rfl, hfz, hnd⟩ := hW
  have hA : DataW.TrodAll enc Try.prog W 0 (fun _ => true) true Try.f4.params.toList args.toList ds p := hA0
  rw [Try.params4] at hA hval
  obtain ⟨v0, v1, d0, d1, p0, p1, rfl, rfl, rfl, h0, h1⟩ := trodAll_two hA
  obtain ⟨rfl, rfl⟩ := trodVars_none hV
  obtain ⟨L, hL, hs⟩ := open_voices (hval 0 22 v0 rfl rfl) h0
  obtain ⟨p, hp, hpl, -⟩ := open_i64s (hval 1 29 v1 rfl rfl) h1
  clear hA0 hval0
  refine (law_IsPath v0 v1 L p W hL hs hp hpl).mono fun e W' ⟨he, hx⟩ => ?_
  subst he
  exact ⟨_, rfl, law_post (T := 4) Try.laidOut (by kernel_rfl) (by kernel_rfl) Try.underlying4 (by kernel_rfl) rfl hW' rfl rfl rfl hx⟩

theorem FnExactIsPath_holds : Rows.FnExactIsPathSaid :=
  OpenClaim.holds_of_wide 4 Try.f4 rfl rfl rfl rfl rfl rfl rfl ⟨rfl, rfl, rfl, rfl, rfl⟩ rfl rfl rfl rfl rfl (by kernel_rfl) Try.func4 (by kernel_rfl)
    (of_decide_eq_true (by kernel_rfl)) (by unfold Func.isWrapper; first | (rw [if_pos (by decide +kernel)]; kernel_rfl) | (rw [if_neg (by decide +kernel)]; exact ⟨rfl, rfl⟩))
    (fun os started H enc _ => FnExactIsPath_lifted os started H enc)
#print axioms FnExactIsPath_holds
end Go.Proofs.Ytgaooafdalhdpaa
