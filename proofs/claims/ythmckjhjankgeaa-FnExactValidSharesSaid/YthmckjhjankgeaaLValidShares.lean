/- The law on ValidShares: for every input it returns true. No condition. -/
import Derived.Test.YthmckjhjankgeaaShareArg
import Derived.Test.YthmckjhjankgeaaShares
namespace Go.Proofs.Ythmckjhjankgeaa
open Go.ChangeShapes Go.WideShapes Go.ChangeAt Go.RowKit Go.Joins

theorem rows_len {β : Type} {L : List (List β)} (hm : rsum L ≤ 1048576) : ∀ i (h : i < L.length), L[i].length ≤ 1048576 := fun i h => by have := rsum_get L i h; omega

set_option maxHeartbeats 1000000 in
theorem law_ValidShares (v : Value) (L : List SD) (w : World) (h : RowsR shareKind w v L) (hs : ShortRR L) :
    Calls Try.prog 3 #[v] w fun e w' => e = .returned (.bool true) ∧ Ext w w' := by
  go_enter Try.func3, Try.ntmps3
  go_wp2_with fail
  refine Calls.mono (laws_szShareSS v L _ _ (h.ext ExtC.ext) hs.1 hs.2 (by omega) (by omega)) ?_
  rintro e w' ⟨r, rfl, hr, hx⟩; obtain ⟨g, rfl⟩ := hx.grow; clear hx
  rcases hr with hr | ⟨hr, -, hl, hm⟩
  · go_wp2_with fail
    go_ret
    exact ⟨rfl, ExtC.ext⟩
  have hsh := shortRows_of hl hm
  have hsl := Lib.hid (rows_len hm)
  go_wp2_with fail
  refine Calls.mono (laws_toShareSS v L _ (h.ext ExtC.ext) hl hm) ?_
  rintro e w' ⟨v1, rfl, n1, o1, hx⟩; obtain ⟨g1, rfl⟩ := hx.grow; clear hx
  go_wp2_with fail
  refine Calls.mono (spec_ValidShares v1 L _ (o1.s n1) hsh hsl.out) ?_
  rintro e w' ⟨⟨b1, rfl, hb1⟩, hx⟩; obtain ⟨g2, rfl⟩ := hx.grow; clear hx
  go_wp2_with fail
  refine Calls.mono (laws_toShareSS v L _ (h.ext ExtC.ext) hl hm) ?_
  rintro e w' ⟨v2, rfl, n2, o2, hx⟩; obtain ⟨g3, rfl⟩ := hx.grow; clear hx
  go_wp2_with fail
  refine Calls.mono (impl_ValidShares v2 L _ (o2.s n2) hsh hsl.out) ?_
  rintro e w' ⟨⟨b2, rfl, hb2⟩, hx⟩; obtain ⟨g4, rfl⟩ := hx.grow; clear hx
  have hbb : b2 = b1 := by rw [Bool.eq_iff_iff, hb1, hb2]
  subst hbb
  clear hb1 hb2
  go_wp2_with fail
  refine Calls.mono (laws_toShareSS v L _ (h.ext ExtC.ext) hl hm) ?_
  rintro e w' ⟨v3, rfl, n3, o3, hx⟩; obtain ⟨g5, rfl⟩ := hx.grow; clear hx
  go_wp2_with fail
  refine Calls.mono (laws_eqShareSS v2 v3 L L true (by simp) _ ((o2.ext ExtC.ext).r) o3.r hsh hsh) ?_
  rintro e w' ⟨rfl, hx⟩; obtain ⟨g6, rfl⟩ := hx.grow; clear hx
  go_wp2_with fail
  go_ret
  exact ⟨rfl, ExtC.ext⟩

set_option maxRecDepth 100000 in
theorem FnExactValidShares_lifted (os : Os) (started : os.Started) (H : Type) (enc : TypeId × Value → H) :
    ReturnsInHanded {} Try.checked os 3 .any (Rows.fnExactValidSharesSpec.pre6 enc Try.prog Try.f3 Rows.fnExactValidSharesRow.domain false) (Rows.fnExactValidSharesSpec.post enc Try.prog Try.f3 false true false false) := by
  refine returnsInHanded_of_change (C := Try.checked) Try.own started (by kernel_rfl) Try.func3
    (ChangeSpec.witness6 (enc := enc) (C := Try.checked) false ⟨#[], #[.slice none 0 0], []⟩ 8 (by kernel_rfl) (by kernel_rfl) (by kernel_rfl) (by kernel_rfl)) ?_
  intro W base args ds gs before hval0 hW hcnd _
  have hval : ∀ (j : Nat) t v, Try.f3.params[j]? = some t → args[j]? = some v → Value.okWide Try.prog W .any base t v := hval0
  have hW' := hW
  obtain ⟨p, q, hA0, hV, rfl, hfz, hnd⟩ := hW
  have hA : DataW.TrodAll enc Try.prog W 0 (fun _ => true) true Try.f3.params.toList args.toList ds p := hA0
  rw [Try.params3] at hA hval
  obtain ⟨v0, d0, rfl, rfl, h0⟩ := trodAll_one hA
  obtain ⟨rfl, rfl⟩ := trodVars_none hV
  obtain ⟨L, hL, hs⟩ := open_shareSS (hval 0 22 v0 rfl rfl) h0
  clear hA0 hval0
  refine (law_ValidShares v0 L W hL hs).mono fun e W' ⟨he, hx⟩ => ?_
  subst he
  exact ⟨_, rfl, law_post (T := 4) Try.laidOut (by kernel_rfl) (by kernel_rfl) Try.underlying4 (by kernel_rfl) rfl hW' rfl rfl rfl hx⟩

theorem FnExactValidShares_holds : Rows.FnExactValidSharesSaid :=
  OpenClaim.holds_of_wide 3 Try.f3 rfl rfl rfl rfl rfl rfl rfl ⟨rfl, rfl, rfl, rfl, rfl⟩ rfl rfl rfl rfl rfl (by kernel_rfl) Try.func3 (by kernel_rfl)
    (of_decide_eq_true (by kernel_rfl)) (by unfold Func.isWrapper; first | (rw [if_pos (by decide +kernel)]; kernel_rfl) | (rw [if_neg (by decide +kernel)]; exact ⟨rfl, rfl⟩))
    (fun os started H enc _ => FnExactValidShares_lifted os started H enc)
#print axioms FnExactValidShares_holds
end Go.Proofs.Ythmckjhjankgeaa
