/- The law on ValidVoices: for every input it returns true. No condition. -/
import Derived.Test.YtgaooafdalhdpaaVoiceArg
import Derived.Test.YtgaooafdalhdpaaVoice3
namespace Go.Proofs.Ytgaooafdalhdpaa
open Go.ChangeShapes Go.WideShapes Go.ChangeAt Go.RowKit Go.Joins

theorem short_of {L : List VD} (hl : L.length ≤ 1048576) (hm : vsum L ≤ 1048576) : Short L :=
  ⟨by omega, fun i h => by have := vsum_get L i h; omega⟩

set_option maxHeartbeats 1000000 in
theorem law_ValidVoices (v : Value) (L : List VD) (w : World) (h : RV w v L) (hs : ShortR L) :
    Calls Try.prog 3 #[v] w fun e w' => e = .returned (.bool true) ∧ Ext w w' := by
  go_enter Try.func3, Try.ntmps3
  go_wp2_with fail
  refine Calls.mono (laws_szVoiceS v L _ h hs.1 hs.2) ?_
  rintro e w' ⟨r, rfl, hr, hx⟩; obtain ⟨g, rfl⟩ := hx.grow; clear hx
  rcases hr with hr | ⟨hr, hl, hm⟩
  · go_wp2_with fail
    go_ret
    exact ⟨rfl, ExtC.ext⟩
  have hsh := short_of hl hm
  go_wp2_with fail
  refine Calls.mono (laws_toVoiceS v L _ (h.ext ExtC.ext) hl hm) ?_
  rintro e w' ⟨v1, rfl, n1, o1, hx⟩; obtain ⟨g1, rfl⟩ := hx.grow; clear hx
  go_wp2_with fail
  refine Calls.mono (spec_ValidVoices v1 L _ (o1.vs n1) hsh) ?_
  rintro e w' ⟨⟨b1, rfl, hb1⟩, hx⟩; obtain ⟨g2, rfl⟩ := hx.grow; clear hx
  go_wp2_with fail
  refine Calls.mono (laws_toVoiceS v L _ (h.ext ExtC.ext) hl hm) ?_
  rintro e w' ⟨v2, rfl, n2, o2, hx⟩; obtain ⟨g3, rfl⟩ := hx.grow; clear hx
  go_wp2_with fail
  refine Calls.mono (impl_ValidVoices v2 L _ (o2.vs n2) hsh) ?_
  rintro e w' ⟨⟨b2, rfl, hb2⟩, hx⟩; obtain ⟨g4, rfl⟩ := hx.grow; clear hx
  have hbb : b2 = b1 := by rw [Bool.eq_iff_iff, hb1, hb2]
  subst hbb
  clear hb1 hb2
  go_wp2_with fail
  refine Calls.mono (laws_toVoiceS v L _ (h.ext ExtC.ext) hl hm) ?_
  rintro e w' ⟨v3, rfl, n3, o3, hx⟩; obtain ⟨g5, rfl⟩ := hx.grow; clear hx
  go_wp2_with fail
  refine Calls.mono (laws_eqVoiceS v2 v3 L L true (by simp) _ ((o2.ext ExtC.ext).rv) o3.rv hsh hsh) ?_
  rintro e w' ⟨rfl, hx⟩; obtain ⟨g6, rfl⟩ := hx.grow; clear hx
  go_wp2_with fail
  go_ret
  exact ⟨rfl, ExtC.ext⟩

set_option maxRecDepth 100000 in
theorem FnExactValidVoices_lifted (os : Os) (started : os.Started) (H : Type) (enc : TypeId × Value → H) :
    ReturnsInHanded {} Try.checked os 3 .any (Rows.fnExactValidVoicesSpec.pre6 enc Try.prog Try.f3 Rows.fnExactValidVoicesRow.domain false) (Rows.fnExactValidVoicesSpec.post enc Try.prog Try.f3 false true false false) := by
  refine returnsInHanded_of_change (C := Try.checked) Try.own started (by kernel_rfl) Try.func3
    (ChangeSpec.witness6 (enc := enc) (C := Try.checked) false ⟨#[], #[.slice none 0 0], []⟩ 8 (by kernel_rfl) (by kernel_rfl) (by kernel_rfl) (by kernel_rfl)) ?_
  intro W base args ds gs before hval0 hW hcnd _
  have hval : ∀ (j : Nat) t v, Try.f3.params[j]? = some t → args[j]? = some v → Value.okWide Try.prog W .any base t v := hval0
  have hW' := hW
  obtain ⟨p, q, hA0, hV, rfl, hfz, hnd⟩ := hW
  have hA : DataW.TrodAll enc Try.prog W 0 (fun _ => true) true Try.f3.params.toList args.toList ds p := hA0
  rw [Try.params3] at hA hval
  obtain ⟨v0, d0, rfl, rfl, h0⟩ := trodAll_one hA
  obtain ⟨rfl, rfl⟩ := trodVars_none hV
  obtain ⟨L, hL, hs⟩ := open_voices (hval 0 22 v0 rfl rfl) h0
  clear hA0 hval0
  refine (law_ValidVoices v0 L W hL hs).mono fun e W' ⟨he, hx⟩ => ?_
  subst he
  exact ⟨_, rfl, law_post (T := 4) Try.laidOut (by kernel_rfl) (by kernel_rfl) Try.underlying4 (by kernel_rfl) rfl hW' rfl rfl rfl hx⟩

theorem FnExactValidVoices_holds : Rows.FnExactValidVoicesSaid :=
  OpenClaim.holds_of_wide 3 Try.f3 rfl rfl rfl rfl rfl rfl rfl ⟨rfl, rfl, rfl, rfl, rfl⟩ rfl rfl rfl rfl rfl (by kernel_rfl) Try.func3 (by kernel_rfl)
    (of_decide_eq_true (by kernel_rfl)) (by unfold Func.isWrapper; first | (rw [if_pos (by decide +kernel)]; kernel_rfl) | (rw [if_neg (by decide +kernel)]; exact ⟨rfl, rfl⟩))
    (fun os started H enc _ => FnExactValidVoices_lifted os started H enc)
#print axioms FnExactValidVoices_holds
end Go.Proofs.Ytgaooafdalhdpaa
