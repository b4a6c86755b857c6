/- The law on IsName: for every input it returns true. No condition. -/
import Derived.Test.YtomijlchcmnbpaaLaw
namespace Go.Proofs.Ytomijlchcmnbpaa
open Go.ChangeShapes Go.WideShapes Go.ChangeAt Go.RowKit Go.Joins

/-- A letter a to z. -/
def Letter (c : UInt8) : Prop := 97 ≤ (c.toNat : Int) ∧ (c.toNat : Int) ≤ 122
def IsNm (s : ByteArray) : Prop := (∀ i (h : i < s.size), Letter s[i]) ∧ 1 ≤ s.size ∧ s.size ≤ 10

set_option maxHeartbeats 1000000 in
theorem impl_IsName (s : ByteArray) (w : World) (hs : s.size ≤ 9223372036854775807) :
    Calls Try.prog 16 #[.string s] w fun e w' => RetB (IsNm s) e ∧ Ext w w' := by
  go_enter Try.func16, Try.ntmps16
  go_wp2
  go_loop [6] (fun i => ∃ k : Nat, k ≤ s.size ∧ i = .int .i64 k ∧ Hid (∀ j (h : j < s.size), j < k → Letter s[j])) (fun i => s.size - (intOf i).toNat)
  case atStart => exact ⟨0, Nat.zero_le _, rfl, Lib.hid fun j _ hj => by omega⟩
  case round =>
    obtain ⟨k, hk, rfl, hrel⟩ := hrel
    by_cases hlt : k < s.size
    · by_cases h1 : (s[k].toNat : Int) < 97
      · go_wp2
        go_ret
        exact ⟨RetB.no fun hok => by have := (hok.1 k hlt).1; omega, Ext.refl _⟩
      · by_cases h2 : 122 < (s[k].toNat : Int)
        · go_wp2
          go_ret
          exact ⟨RetB.no fun hok => by have := (hok.1 k hlt).2; omega, Ext.refl _⟩
        · have H := Lib.hid (And.intro h1 h2)
          go_wp2
          go_round
          case rel =>
            refine ⟨k + 1, by omega, by go_num, Lib.hid fun j hj hjk => ?_⟩
            by_cases e : j = k
            · subst e; have := H.out; exact ⟨by omega, by omega⟩
            · exact hrel.out j hj (by omega)
          case measure => simp [intOf]; omega
    · by_cases h1 : 1 ≤ s.size
      · go_wp2
        go_ret
        refine ⟨⟨_, rfl, ⟨fun h => (⟨fun j hj => hrel.out j hj (by omega), h1, ?_⟩ : IsNm s), fun h => ?_⟩⟩, Ext.refl _⟩
        · have := of_decide_eq_true h; omega
        · have := h.2.2; exact decide_eq_true (by omega)
      · go_wp2
        go_ret
        exact ⟨RetB.no fun hok => h1 hok.2.1, Ext.refl _⟩

set_option maxHeartbeats 1000000 in
theorem spec_l01Name (s : ByteArray) (w : World) (hs : s.size ≤ 9223372036854775807) :
    Calls Try.prog 46 #[.string s] w fun e w' => RetB (IsNm s) e ∧ Ext w w' := by
  go_enter Try.func46, Try.ntmps46
  go_wp2
  go_loop [3] (fun i => ∃ k : Nat, k ≤ s.size ∧ i = .int .i64 k ∧ Hid (∀ j (h : j < s.size), j < k → Letter s[j])) (fun i => s.size - (intOf i).toNat)
  case atStart => exact ⟨0, Nat.zero_le _, rfl, Lib.hid fun j _ hj => by omega⟩
  case round =>
    obtain ⟨k, hk, rfl, hrel⟩ := hrel
    by_cases hlt : k < s.size
    · by_cases h1 : (s[k].toNat : Int) < 97
      · go_wp2
        go_ret
        exact ⟨RetB.no fun hok => by have := (hok.1 k hlt).1; omega, Ext.refl _⟩
      · by_cases h2 : 122 < (s[k].toNat : Int)
        · go_wp2
          go_ret
          exact ⟨RetB.no fun hok => by have := (hok.1 k hlt).2; omega, Ext.refl _⟩
        · have H := Lib.hid (And.intro h1 h2)
          go_wp2
          go_round
          case rel =>
            refine ⟨k + 1, by omega, by go_num, Lib.hid fun j hj hjk => ?_⟩
            by_cases e : j = k
            · subst e; have := H.out; exact ⟨by omega, by omega⟩
            · exact hrel.out j hj (by omega)
          case measure => simp [intOf]; omega
    · by_cases h1 : 1 ≤ s.size
      · go_wp2
        go_ret
        refine ⟨⟨_, rfl, ⟨fun h => (⟨fun j hj => hrel.out j hj (by omega), h1, ?_⟩ : IsNm s), fun h => ?_⟩⟩, Ext.refl _⟩
        · have := of_decide_eq_true h; omega
        · have := h.2.2; exact decide_eq_true (by omega)
      · go_wp2
        go_ret
        exact ⟨RetB.no fun hok => h1 hok.2.1, Ext.refl _⟩


theorem spec_IsName (s : ByteArray) (w : World) (hs : s.size ≤ 9223372036854775807) :
    Calls Try.prog 15 #[.string s] w fun e w' => RetB (IsNm s) e ∧ Ext w w' := by
  go_enter Try.func15, Try.ntmps15
  go_wp2_with (first | (go_at_call 46; refine Calls.mono (spec_l01Name s _ hs) ?_; rintro e w' ⟨⟨b, rfl, hb⟩, hx⟩; obtain ⟨g, rfl⟩ := hx.grow; clear hx))
  go_ret
  exact ⟨⟨b, rfl, hb⟩, ExtC.ext⟩

set_option maxHeartbeats 1000000 in
theorem law_IsName (s : ByteArray) (w : World) (hs : s.size ≤ 9223372036854775807) :
    Calls Try.prog 4 #[.string s] w fun e w' => e = .returned (.bool true) ∧ Ext w w' := by
  by_cases h0 : 1048576 < s.size
  · go_enter Try.func4, Try.ntmps4
    go_wp2
    go_ret
    exact ⟨rfl, ExtC.ext⟩
  · go_enter Try.func4, Try.ntmps4
    go_wp2_with fail
    refine Calls.mono (spec_IsName s _ hs) ?_
    rintro e w' ⟨⟨b1, rfl, hb1⟩, hx⟩; obtain ⟨g, rfl⟩ := hx.grow; clear hx
    go_wp2_with fail
    refine Calls.mono (impl_IsName s _ hs) ?_
    rintro e w' ⟨⟨b2, rfl, hb2⟩, hx⟩; obtain ⟨g1, rfl⟩ := hx.grow; clear hx
    have hbb : b2 = b1 := by rw [Bool.eq_iff_iff, hb1, hb2]
    subst hbb
    clear hb1 hb2
    go_wp2_with fail
    go_ret
    exact ⟨rfl, ExtC.ext⟩

set_option maxRecDepth 100000 in
theorem FnExactIsName_lifted (os : Os) (started : os.Started) (H : Type) (enc : TypeId × Value → H) :
    ReturnsInHanded {} Try.checked os 4 .any (Rows.fnExactIsNameSpec.pre6 enc Try.prog Try.f4 Rows.fnExactIsNameRow.domain false) (Rows.fnExactIsNameSpec.post enc Try.prog Try.f4 false true false false) := by
  refine returnsInHanded_of_change (C := Try.checked) Try.own started (by kernel_rfl) Try.func4
    (ChangeSpec.witness6 (enc := enc) (C := Try.checked) false ⟨#[], #[.string ByteArray.empty], []⟩ 8 (by kernel_rfl) (by kernel_rfl) (by kernel_rfl) (by kernel_rfl)) ?_
  intro W base args ds gs before hval0 hW hcnd _
  have hval : ∀ (j : Nat) t v, Try.f4.params[j]? = some t → args[j]? = some v → Value.okWide Try.prog W .any base t v := hval0
  have hW' := hW
  obtain ⟨p, q, hA0, hV, rfl, hfz, hnd⟩ := hW
  have hA : DataW.TrodAll enc Try.prog W 0 (fun _ => true) true Try.f4.params.toList args.toList ds p := hA0
  rw [Try.params4] at hA hval
  obtain ⟨v0, d0, rfl, rfl, h0⟩ := trodAll_one hA
  obtain ⟨rfl, rfl⟩ := trodVars_none hV
  obtain ⟨s, rfl, rfl, rfl, hs⟩ := Go.ChangeMaps.open_string Try.underlying9 (hval 0 9 v0 rfl rfl) h0
  unfold maxLen at hs
  clear hA0 hval0
  refine (law_IsName s W (by omega)).mono fun e W' ⟨he, hx⟩ => ?_
  subst he
  exact ⟨_, rfl, law_post (T := 4) Try.laidOut (by kernel_rfl) (by kernel_rfl) Try.underlying4 (by kernel_rfl) rfl hW' rfl rfl rfl hx⟩

theorem FnExactIsName_holds : Rows.FnExactIsNameSaid :=
  OpenClaim.holds_of_wide 4 Try.f4 rfl rfl rfl rfl rfl rfl rfl ⟨rfl, rfl, rfl, rfl, rfl⟩ rfl rfl rfl rfl rfl (by kernel_rfl) Try.func4 (by kernel_rfl)
    (of_decide_eq_true (by kernel_rfl)) (by unfold Func.isWrapper; first | (rw [if_pos (by decide +kernel)]; kernel_rfl) | (rw [if_neg (by decide +kernel)]; exact ⟨rfl, rfl⟩))
    (fun os started H enc _ => FnExactIsName_lifted os started H enc)
#print axioms FnExactIsName_holds
end Go.Proofs.Ytomijlchcmnbpaa
