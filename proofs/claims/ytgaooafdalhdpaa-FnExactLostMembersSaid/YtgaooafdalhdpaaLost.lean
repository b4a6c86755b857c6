/- The members from whom no path leads to anybody: LostMembers on both sides. -/
import Derived.Test.YtgaooafdalhdpaaEnds
import Derived.Test.YtgaooafdalhdpaaCosts
namespace Go.Proofs.Ytgaooafdalhdpaa
open Go.RowKit

/-- The lost ones among the first n. -/
noncomputable def lostTo (L : List VD) (n : Nat) : List Int := by
  classical exact ((List.range n).map fun i : Nat => (i : Int)).filter fun i => decide (¬ Rch L [] i)
theorem lostTo_yes {L : List VD} {n : Nat} (h : ¬ Rch L [] (n : Int)) : lostTo L (n + 1) = lostTo L n ++ [(n : Int)] := by
  simp [lostTo, List.range_succ, List.filter_append, h]
theorem lostTo_no {L : List VD} {n : Nat} (h : Rch L [] (n : Int)) : lostTo L (n + 1) = lostTo L n := by
  simp [lostTo, List.range_succ, List.filter_append, h]
theorem lostTo_length (L : List VD) (n : Nat) : (lostTo L n).length ≤ n := by
  unfold lostTo
  refine Nat.le_trans (List.length_filter_le _ _) (by simp)
open Classical in
noncomputable def lostX (L : List VD) : List Int := if OkV L then lostTo L L.length else []
theorem lostX_small {L : List VD} : (lostX L).length ≤ 12 := by
  unfold lostX
  split
  · rename_i h; exact Nat.le_trans (lostTo_length L _) h.2.2
  · simp
/-- What the costs tell of a member. -/
theorem cost_neg {L : List VD} {c : Nat → Nat} {bar : List Int} (hok : OkV L) (hc : ∀ k, 1 ≤ c k) (hc4 : ∀ k, k < 4 → c k ≤ 4) {cs : List Int} (h : Mid L c bar LeS (SnS L c bar) BdS L.length 0 0 cs) (j : Nat) (hj : j < cs.length) : (cs[j] < 0 ↔ ¬ Rch L bar j) ∧ -1 ≤ cs[j] ∧ cs[j] ≤ 44 := by
  rcases endS hok hc hc4 h j hj with ⟨e, hn⟩ | ⟨x, e, hl, h44⟩
  · refine ⟨⟨fun _ ⟨m, x, hw⟩ => ?_, fun _ => by omega⟩, by omega, by omega⟩
    obtain ⟨y, hy⟩ := Wk.to c m x j hw
    exact hn _ _ hy
  · obtain ⟨m, hm⟩ := hl.1
    exact ⟨⟨fun h => absurd h (by omega), fun h => absurd (Rch.of hm) h⟩, by omega, by omega⟩

set_option maxHeartbeats 2000000 in
theorem impl_LostMembers' (v : Value) (L : List VD) (w : World) (h : VS w v L) (hs : Short L) (b : Bool) (hb : okB L = b) (xs : List Int) (hxs : lostX L = xs) :
    Calls Try.prog 44 #[v] w fun e w' => ∃ v', e = .returned (.tuple #[v', .bool b]) ∧ OwnI w.heap.size w'.heap.size w' v' xs ∧ Ext w w' := by
  have H1 := fun x (hx : Ext w x) => (impl_ValidVoices v L x (h.ext hx) hs).mono fun e w' (h : RetB (OkV L) e ∧ Ext x w') => (⟨h.1.told' (okB_iff hb), h.2⟩ : e = .returned (.bool b) ∧ Ext x w')
  cases b
  · have HN := Lib.hid (show xs = [] by rw [← hxs]; unfold lostX; rw [if_neg (by rw [← okB_iff hb]; simp)])
    clear hb hxs
    go_enter Try.func44, Try.ntmps44
    go_wp2_with (first | (go_at_call 20; (with_reducible refine (H1 _ ExtC.ext).mono ?_); rintro e w' ⟨rfl, hx⟩; obtain ⟨g, rfl⟩ := hx.grow; clear hx))
    refine bodyPost_ret (v := .tuple #[.slice none 0 0, .bool false]) (by simp [results, Try.results44, go_sem]) rfl ?_
    exact ⟨_, rfl, .inl ⟨rfl, HN.out⟩, ExtC.ext⟩
  have hok := (okB_iff hb).1 rfl
  have HN := Lib.hid (show lostTo L L.length = xs by rw [← hxs]; unfold lostX; rw [if_pos hok])
  have hl := hok.2
  have HK := Lib.hid hok
  have HE := fun (k : Nat) (hk : k < L.length) x (hx : Ext w x) => impl_endsFrom v (.slice none 0 0) (k : Int) L [] x (h.ext hx) hs hok (by omega) (by omega) (.inl ⟨rfl, rfl⟩) (by simp)
  obtain ⟨vb, vo, vc, rfl, -⟩ := h
  clear hb hxs hok
  go_enter Try.func44, Try.ntmps44
  go_wp2_with (first | (go_at_call 20; (with_reducible refine (H1 _ ExtC.ext).mono ?_); rintro e w' ⟨rfl, hx⟩; obtain ⟨g, rfl⟩ := hx.grow; clear hx))
  clear H1
  go_loopw [4, 12] (fun o i wr => ∃ (k og oc n : Nat) (C : List Int), k ≤ L.length ∧ i = .int .i64 k ∧ o = .slice (some ⟨og, 0, none⟩) n oc ∧ C.length ≤ k ∧ Ext w wr ∧ Hid (C = lostTo L k) ∧ Hid (OwnI w.heap.size wr.heap.size wr (.slice (some ⟨og, 0, none⟩) n oc) C)) (fun _ i _ => L.length - (intOf i).toNat)
  case atStart => exact ⟨0, _, _, _, [], Nat.zero_le _, rfl, rfl, Nat.le_refl _, ExtC.ext, Lib.hid rfl, Lib.hid ((own_empty g.fin w.heap.size (ExtC.ext : Ext w g.fin).size).mono (Nat.le_refl _) (by simp))⟩
  case round =>
    obtain ⟨k, og, oc, n, C, hk, rfl, rfl, hC, hx, HCk, HO⟩ := hrel
    obtain ⟨g0, rfl⟩ := hx.grow; clear hx
    by_cases hlt : k < L.length
    · have R := HE k hlt
      go_wp2_with fail
      refine Calls.mono (R _ ExtC.ext) ?_
      rintro e w' ⟨ge, ce, rfl, -, hx⟩; obtain ⟨g2, rfl⟩ := hx.grow; clear hx R
      have hnil := endsL_nil HK.out (bar := []) (a := (k : Int)) (by omega) (by omega)
      by_cases he : (endsL L [] (k : Int)).length = 0
      · have HL := Lib.hid (lostTo_yes (hnil.1 he))
        have hz : (((endsL L [] (k : Int)).length : Int) == 0) = true := by simp [he]
        clear hnil he
        go_wp2_with (at_builtin; refine app_int (w0 := w) (lo := w.heap.size) (hi := g0.fin.heap.size) _ _ (.slice (some ⟨og, 0, none⟩) n oc) C ⟨g2.fin.heap.size, 0, none⟩ 1 [(k : Int)] rfl rfl rfl (HO.out.ext ExtC.ext) rfl (cells_one _ _ _) (by simp; omega) ExtC.ext (Nat.le_refl _) (by have := (ExtC.ext : Ext w g2.fin).size; simp; omega) (by simp) ?_; intro g' c' w' ho hx; obtain ⟨g3, rfl⟩ := hx.grow; clear hx; have HO2 := Lib.hid ho; clear ho)
        go_roundw
        case rel => exact ⟨k + 1, g', c', _, C ++ [(k : Int)], by omega, by go_num, by simp; rfl, by simp; omega, ExtC.ext, Lib.hid (by rw [HL.out, HCk.out]), Lib.hid (by have := HO2.out; rw [List.length_append] at this; exact this)⟩
        case measure => simp [intOf]; omega
      · have HL := Lib.hid (lostTo_no (Classical.byContradiction fun hn => he (hnil.2 hn)))
        have hz : (((endsL L [] (k : Int)).length : Int) == 0) = false := by simpa using he
        clear hnil he
        go_wp2_with fail
        go_roundw
        case rel => exact ⟨k + 1, og, oc, n, C, by omega, by go_num, rfl, by omega, ExtC.ext, Lib.hid (by rw [HL.out, HCk.out]), Lib.hid ((HO.out.ext ExtC.ext).mono (Nat.le_refl _) (ExtC.ext : Ext g0.fin _).size)⟩
        case measure => simp [intOf]; omega
    · have e : k = L.length := by omega
      subst e
      go_wp2
      refine bodyPost_ret (v := .tuple #[.slice (some ⟨og, 0, none⟩) n oc, .bool true]) (by simp [results, Try.results44, go_sem]) rfl ?_
      refine ⟨_, rfl, ?_, ExtC.ext⟩
      rw [← HN.out, ← HCk.out]
      exact HO.out

set_option maxHeartbeats 2000000 in
theorem spec_LostMembers' (v : Value) (L : List VD) (w : World) (h : VS w v L) (hs : Short L) (b : Bool) (hb : okB L = b) (xs : List Int) (hxs : lostX L = xs) :
    Calls Try.prog 43 #[v] w fun e w' => ∃ v', e = .returned (.tuple #[v', .bool b]) ∧ OwnI w.heap.size w'.heap.size w' v' xs ∧ Ext w w' := by
  have H1 := fun x (hx : Ext w x) => (spec_l02Ok v L x (h.ext hx) hs).mono fun e w' (h : RetB (OkV L) e ∧ Ext x w') => (⟨h.1.told' (okB_iff hb), h.2⟩ : e = .returned (.bool b) ∧ Ext x w')
  cases b
  · have HN := Lib.hid (show xs = [] by rw [← hxs]; unfold lostX; rw [if_neg (by rw [← okB_iff hb]; simp)])
    clear hb hxs
    go_enter Try.func43, Try.ntmps43
    go_wp2_with (first | (go_at_call 58; (with_reducible refine (H1 _ ExtC.ext).mono ?_); rintro e w' ⟨rfl, hx⟩; obtain ⟨g, rfl⟩ := hx.grow; clear hx))
    refine bodyPost_ret (v := .tuple #[.slice none 0 0, .bool false]) (by simp [results, Try.results43, go_sem]) rfl ?_
    exact ⟨_, rfl, .inl ⟨rfl, HN.out⟩, ExtC.ext⟩
  have hok := (okB_iff hb).1 rfl
  have HN := Lib.hid (show lostTo L L.length = xs by rw [← hxs]; unfold lostX; rw [if_pos hok])
  have hl := hok.2
  have HK := Lib.hid hok
  have HE := fun u x (hx : Ext w x) (hu : RI x u []) => spec_l02Costs v u false L [] x (h.ext hx) hok hu (by simp)
  obtain ⟨vb, vo, vc, rfl, -⟩ := h
  clear hb hxs hok
  go_enter Try.func43, Try.ntmps43
  go_wp2_with (first | (go_at_call 58; (with_reducible refine (H1 _ ExtC.ext).mono ?_); rintro e w' ⟨rfl, hx⟩; obtain ⟨g, rfl⟩ := hx.grow; clear hx))
  clear H1
  refine Calls.mono (HE _ _ ExtC.ext (own_empty g.fin g.fin.heap.size (Nat.le_refl _)).ri) ?_
  rintro e w' ⟨cv, cs, rfl, hcs, hmid, hx⟩; obtain ⟨g2, rfl⟩ := hx.grow; clear hx HE
  obtain ⟨cb, co, cc, rfl, -, hcb, hcx⟩ := hcs
  have hcl := hmid.len
  have HM := Lib.hid (fun j hj => cost_neg HK.out (costOf_pos false) (costOf_four false) hmid j hj)
  have HX := Lib.hid hcx
  clear hmid hcx
  rw [hcl]
  go_wp2_with fail
  go_loopw [5, 6] (fun o i wr => ∃ (k og oc n : Nat) (C : List Int), k ≤ L.length ∧ i = .int .i64 k ∧ o = .slice (some ⟨og, 0, none⟩) n oc ∧ C.length ≤ k ∧ Ext g2.fin wr ∧ Hid (C = lostTo L k) ∧ Hid (OwnI g2.fin.heap.size wr.heap.size wr (.slice (some ⟨og, 0, none⟩) n oc) C)) (fun _ i _ => L.length - (intOf i).toNat)
  case atStart => exact ⟨0, _, _, _, [], Nat.zero_le _, rfl, rfl, Nat.le_refl _, ExtC.ext, Lib.hid rfl, Lib.hid ((own_empty g2.fin g2.fin.heap.size (Nat.le_refl _)).mono (Nat.le_refl _) (by simp))⟩
  case round =>
    obtain ⟨k, og, oc, n, C, hk, rfl, rfl, hC, hx, HCk, HO⟩ := hrel
    obtain ⟨g0, rfl⟩ := hx.grow; clear hx
    by_cases hlt : k < L.length
    · have d := HX.out k (by omega)
      obtain ⟨hneg, hb0, hb1⟩ := HM.out k (by omega)
      obtain ⟨y, hy⟩ : ∃ y, cs[k]'(by omega) = y := ⟨_, rfl⟩
      rw [hy] at d hneg hb0 hb1
      clear hy
      by_cases hy : y < 0
      · have HL := Lib.hid (lostTo_yes (hneg.1 hy))
        have hz : decide (y < 0) = true := by simp [hy]
        clear hneg
        go_wp2_with (at_builtin; refine app_int (w0 := g2.fin) (lo := g2.fin.heap.size) (hi := g0.fin.heap.size) _ _ (.slice (some ⟨og, 0, none⟩) n oc) C ⟨g0.fin.heap.size, 0, none⟩ 1 [(k : Int)] rfl rfl rfl (HO.out.ext ExtC.ext) rfl (cells_one _ _ _) (by simp; omega) ExtC.ext (Nat.le_refl _) (by have := (ExtC.ext : Ext g2.fin g0.fin).size; simp; omega) (by simp) ?_; intro g' c' w' ho hx; obtain ⟨g3, rfl⟩ := hx.grow; clear hx; have HO2 := Lib.hid ho; clear ho)
        go_roundw
        case rel => exact ⟨k + 1, g', c', _, C ++ [(k : Int)], by omega, by go_num, by simp; rfl, by simp; omega, ExtC.ext, Lib.hid (by rw [HL.out, HCk.out]), Lib.hid (by have := HO2.out; rw [List.length_append] at this; exact this)⟩
        case measure => simp [intOf]; omega
      · have HL := Lib.hid (lostTo_no (Classical.byContradiction fun hn => hy (hneg.2 hn)))
        have hz : decide (y < 0) = false := by simp; omega
        clear hneg
        go_wp2_with fail
        go_roundw
        case rel => exact ⟨k + 1, og, oc, n, C, by omega, by go_num, rfl, by omega, ExtC.ext, Lib.hid (by rw [HL.out, HCk.out]), HO⟩
        case measure => simp [intOf]; omega
    · have e : k = L.length := by omega
      subst e
      go_wp2
      refine bodyPost_ret (v := .tuple #[.slice (some ⟨og, 0, none⟩) n oc, .bool true]) (by simp [results, Try.results43, go_sem]) rfl ?_
      refine ⟨_, rfl, ?_, ExtC.ext⟩
      rw [← HN.out, ← HCk.out]
      exact HO.out.mono (ExtC.ext : Ext w g2.fin).size (Nat.le_refl _)
end Go.Proofs.Ytgaooafdalhdpaa
