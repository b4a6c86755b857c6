/- What members keep: KeptParts on both sides. -/
import Derived.Test.YtbbppkcdgcajjaaShares
import Derived.Test.YtbbppkcdgcajjaaEnds
namespace Go.Proofs.Ytbbppkcdgcajjaa
open Go.RowKit

/-- What the first n members keep. -/
def keptTo (L : List SD) (n : Nat) : List Int := (L.take n).map fun xs => 12 - psum xs
theorem keptTo_succ (L : List SD) (n : Nat) (h : n < L.length) : keptTo L (n + 1) = keptTo L n ++ [12 - psum L[n]] := by
  unfold keptTo
  rw [List.take_succ_eq_append_getElem h, List.map_append]; rfl
theorem keptTo_length (L : List SD) (n : Nat) (h : n ≤ L.length) : (keptTo L n).length = n := by simp [keptTo]; omega
open Classical in
noncomputable def okSB (L : List SD) : Bool := decide (OkS L)
theorem okSB_iff {L : List SD} {b : Bool} (h : okSB L = b) : b = true ↔ OkS L := by subst h; simp [okSB]
open Classical in
noncomputable def keptX (L : List SD) : List Int := if OkS L then keptTo L L.length else []
theorem keptX_small {L : List SD} : (keptX L).length ≤ 6 := by
  unfold keptX
  split
  · rename_i h; rw [keptTo_length _ _ (Nat.le_refl _)]; exact h.2.2
  · simp
theorem psum_pos (xs : SD) (h : ∀ k (h : k < xs.length), 1 ≤ xs[k].2) : ∀ j, j ≤ xs.length → (j : Int) ≤ psum (xs.take j) := by
  intro j
  induction j with
  | zero => intro _; simp [psum]
  | succ j ih =>
    intro hj
    rw [psum_take xs j (by omega)]
    have := ih (by omega)
    have := h j (by omega)
    omega
theorem psum_mono (xs : SD) (h : ∀ k (h : k < xs.length), 1 ≤ xs[k].2) (j : Nat) : psum (xs.take j) ≤ psum xs := by
  have key : ∀ (l : SD), (∀ k (h : k < l.length), 1 ≤ l[k].2) → 0 ≤ psum l := fun l hl => by
    have := psum_pos l hl l.length (Nat.le_refl _)
    rw [List.take_length] at this; omega
  have e : psum xs = psum (xs.take j) + psum (xs.drop j) := by
    conv => lhs; rw [← List.take_append_drop j xs]
    simp only [psum, List.map_append, List.sum_append]
  have := key (xs.drop j) fun k hk => by rw [List.getElem_drop]; exact h _ _
  omega
theorem OkP.part {n i : Int} {xs : SD} (h : OkP n i xs) : ∀ k (h : k < xs.length), 1 ≤ xs[k].2 := fun k hk => (h.1 k hk).2.2.2.1
theorem OkP.few {n i : Int} {xs : SD} (h : OkP n i xs) : xs.length ≤ 12 := by
  have := psum_pos xs h.part xs.length (Nat.le_refl _)
  rw [List.take_length] at this
  have := h.2
  omega

set_option maxHeartbeats 2000000 in
theorem kept_12 (v : Value) (L : List SD) (w : World) (h : RowsS shareKind w v L) (hok : OkS L) (xs : List Int) (hxs : keptTo L L.length = xs) :
    Calls Try.prog 125 #[v] w fun e w' => ∃ g c, e = .returned (.slice (some ⟨g, 0, none⟩) xs.length c) ∧ OwnI w.heap.size w'.heap.size w' (.slice (some ⟨g, 0, none⟩) xs.length c) xs ∧ Ext w w' := by
  have HN := Lib.hid hxs.symm
  have hl := hok.2
  have HK := Lib.hid hok
  obtain ⟨b, off, cap, rfl, -, hb, hc⟩ := h
  have HC := Lib.hid hc
  clear hc hok hxs
  go_enter Try.func125, Try.ntmps125
  go_wp2_with fail
  go_loopw [3, 12] (fun o i wr => ∃ (k og oc n : Nat) (C : List Int), k ≤ L.length ∧ i = .int .i64 k ∧ o = .slice (some ⟨og, 0, none⟩) n oc ∧ C.length ≤ k ∧ Ext w wr ∧ Hid (C = keptTo L k) ∧ Hid (OwnI w.heap.size wr.heap.size wr (.slice (some ⟨og, 0, none⟩) n oc) C)) (fun _ i _ => L.length - (intOf i).toNat)
  case atStart => exact ⟨0, _, _, _, [], Nat.zero_le _, rfl, rfl, Nat.le_refl _, ExtC.ext, Lib.hid rfl, Lib.hid ((own_empty w w.heap.size (Nat.le_refl _)).mono (Nat.le_refl _) (by simp))⟩
  case round =>
    obtain ⟨k, og, oc, n, C, hk, rfl, rfl, hC, hx, HCk, HO⟩ := hrel
    obtain ⟨g0, rfl⟩ := hx.grow; clear hx
    by_cases hlt : k < L.length
    · obtain ⟨t, d2, d3⟩ := HC.out k hlt
      have hp := HK.out.1 k hlt
      have hf12 := hp.few
      have HP := Lib.hid hp; clear hp
      obtain ⟨p, tc, rfl, htc, d4⟩ := RP.form d3
      have D4 := Lib.hid d4; clear d3 d4
      have HKS := Lib.hid (keptTo_succ L k hlt)
      go_wp2_with fail
      go_loopw [6, 18] (fun x q wr => ∃ (j : Nat) (m : Int), j ≤ L[k].length ∧ q = .int .i64 j ∧ x = .int .i64 m ∧ 0 ≤ m ∧ m ≤ 12 ∧ Hid (m = 12 - psum (L[k].take j)) ∧ Ext g0.fin wr) (fun _ q _ => L[k].length - (intOf q).toNat)
      case atStart => exact ⟨0, 12, Nat.zero_le _, rfl, rfl, by omega, by omega, Lib.hid (by simp [psum]), ExtC.ext⟩
      case round =>
        obtain ⟨j, m, hj, rfl, rfl, hm0, hm1, hs, hx⟩ := hrel
        obtain ⟨g1, rfl⟩ := hx.grow; clear hx
        by_cases hjl : j < L[k].length
        · obtain ⟨b', off', hp, ib', c'⟩ := D4.out (by omega)
          subst hp
          obtain ⟨d5, d6⟩ := c' j hjl
          have CC := Lib.hid c'; clear c'
          have hps := psum_take L[k] j hjl
          have hpm := psum_mono L[k] HP.out.part (j + 1)
          have hp12 := HP.out.2
          have hp1 := HP.out.part j hjl
          obtain ⟨y, hy⟩ : ∃ y, L[k][j].2 = y := ⟨_, rfl⟩
          rw [hy] at d6 hps hp1
          have hso := hs.out
          have hm2 : 0 ≤ m - y ∧ m - y ≤ 12 := by omega
          have HS2 := Lib.hid (show m - y = 12 - psum (L[k].take (j + 1)) by omega)
          have HY := Lib.hid hy
          have q1 : IntKind.i64.wrap (m - y) = m - y := IntWalk.i64_in _ (by omega)
          clear hps hpm hp12 hp1 hso hy
          go_wp2_with fail
          go_roundw
          case rel => exact ⟨j + 1, m - y, by omega, by go_num, rfl, hm2.1, hm2.2, HS2, ExtC.ext⟩
          case measure => simp [intOf]; omega
        · have e : j = L[k].length := by omega
          have hso := hs.out
          rw [e, List.take_length] at hso
          have HSO := Lib.hid hso; clear hso
          go_wp2_with (at_builtin; refine app_int (w0 := w) (lo := w.heap.size) (hi := g0.fin.heap.size) _ _ (.slice (some ⟨og, 0, none⟩) n oc) C ⟨g1.fin.heap.size, 0, none⟩ 1 [m] rfl rfl rfl (HO.out.ext ExtC.ext) rfl (cells_one _ _ _) (by simp; omega) ExtC.ext (Nat.le_refl _) (by have := (ExtC.ext : Ext w g1.fin).size; simp; omega) (by simp) ?_; intro g' c' w' ho hx; obtain ⟨g3, rfl⟩ := hx.grow; clear hx; have HO2 := Lib.hid ho; clear ho)
          go_roundw
          case rel => exact ⟨k + 1, g', c', _, C ++ [m], by omega, by go_num, by simp; rfl, by simp; omega, ExtC.ext, Lib.hid (by rw [HKS.out, HCk.out, HSO.out]), Lib.hid (by have := HO2.out; rw [List.length_append] at this; exact this)⟩
          case measure => simp [intOf]; omega
    · have e : k = L.length := by omega
      subst e
      go_wp2
      go_ret
      have hn := HO.out.len.1
      have ho := HO.out
      rw [hn] at ho ⊢
      have e2 : C = xs := by rw [HN.out, HCk.out]
      subst e2
      exact ⟨_, _, rfl, ho, ExtC.ext⟩
set_option maxHeartbeats 2000000 in
theorem kept_4 (v : Value) (L : List SD) (w : World) (h : RowsS shareKind w v L) (hok : OkS L) (xs : List Int) (hxs : keptTo L L.length = xs) :
    Calls Try.prog 123 #[v] w fun e w' => ∃ g c, e = .returned (.slice (some ⟨g, 0, none⟩) xs.length c) ∧ OwnI w.heap.size w'.heap.size w' (.slice (some ⟨g, 0, none⟩) xs.length c) xs ∧ Ext w w' := by
  have HN := Lib.hid hxs.symm
  have hl := hok.2
  have HK := Lib.hid hok
  obtain ⟨b, off, cap, rfl, -, hb, hc⟩ := h
  have HC := Lib.hid hc
  clear hc hok hxs
  go_enter Try.func123, Try.ntmps123
  go_wp2_with fail
  go_loopw [3, 4] (fun o i wr => ∃ (k og oc n : Nat) (C : List Int), k ≤ L.length ∧ i = .int .i64 k ∧ o = .slice (some ⟨og, 0, none⟩) n oc ∧ C.length ≤ k ∧ Ext w wr ∧ Hid (C = keptTo L k) ∧ Hid (OwnI w.heap.size wr.heap.size wr (.slice (some ⟨og, 0, none⟩) n oc) C)) (fun _ i _ => L.length - (intOf i).toNat)
  case atStart => exact ⟨0, _, _, _, [], Nat.zero_le _, rfl, rfl, Nat.le_refl _, ExtC.ext, Lib.hid rfl, Lib.hid ((own_empty w w.heap.size (Nat.le_refl _)).mono (Nat.le_refl _) (by simp))⟩
  case round =>
    obtain ⟨k, og, oc, n, C, hk, rfl, rfl, hC, hx, HCk, HO⟩ := hrel
    obtain ⟨g0, rfl⟩ := hx.grow; clear hx
    by_cases hlt : k < L.length
    · obtain ⟨t, d2, d3⟩ := HC.out k hlt
      have hp := HK.out.1 k hlt
      have hf12 := hp.few
      have HP := Lib.hid hp; clear hp
      obtain ⟨p, tc, rfl, htc, d4⟩ := RP.form d3
      have D4 := Lib.hid d4; clear d3 d4
      have HKS := Lib.hid (keptTo_succ L k hlt)
      go_wp2_with fail
      go_loopw [5, 6] (fun x q wr => ∃ (j : Nat) (m : Int), j ≤ L[k].length ∧ q = .int .i64 j ∧ x = .int .i64 m ∧ 0 ≤ m ∧ m ≤ 12 ∧ Hid (m = 12 - psum (L[k].take j)) ∧ Ext g0.fin wr) (fun _ q _ => L[k].length - (intOf q).toNat)
      case atStart => exact ⟨0, 12, Nat.zero_le _, rfl, rfl, by omega, by omega, Lib.hid (by simp [psum]), ExtC.ext⟩
      case round =>
        obtain ⟨j, m, hj, rfl, rfl, hm0, hm1, hs, hx⟩ := hrel
        obtain ⟨g1, rfl⟩ := hx.grow; clear hx
        by_cases hjl : j < L[k].length
        · obtain ⟨b', off', hp, ib', c'⟩ := D4.out (by omega)
          subst hp
          obtain ⟨d5, d6⟩ := c' j hjl
          have CC := Lib.hid c'; clear c'
          have hps := psum_take L[k] j hjl
          have hpm := psum_mono L[k] HP.out.part (j + 1)
          have hp12 := HP.out.2
          have hp1 := HP.out.part j hjl
          obtain ⟨y, hy⟩ : ∃ y, L[k][j].2 = y := ⟨_, rfl⟩
          rw [hy] at d6 hps hp1
          have hso := hs.out
          have hm2 : 0 ≤ m - y ∧ m - y ≤ 12 := by omega
          have HS2 := Lib.hid (show m - y = 12 - psum (L[k].take (j + 1)) by omega)
          have HY := Lib.hid hy
          have q1 : IntKind.i64.wrap (m - y) = m - y := IntWalk.i64_in _ (by omega)
          clear hps hpm hp12 hp1 hso hy
          go_wp2_with fail
          go_roundw
          case rel => exact ⟨j + 1, m - y, by omega, by go_num, rfl, hm2.1, hm2.2, HS2, ExtC.ext⟩
          case measure => simp [intOf]; omega
        · have e : j = L[k].length := by omega
          have hso := hs.out
          rw [e, List.take_length] at hso
          have HSO := Lib.hid hso; clear hso
          go_wp2_with (at_builtin; refine app_int (w0 := w) (lo := w.heap.size) (hi := g0.fin.heap.size) _ _ (.slice (some ⟨og, 0, none⟩) n oc) C ⟨g1.fin.heap.size, 0, none⟩ 1 [m] rfl rfl rfl (HO.out.ext ExtC.ext) rfl (cells_one _ _ _) (by simp; omega) ExtC.ext (Nat.le_refl _) (by have := (ExtC.ext : Ext w g1.fin).size; simp; omega) (by simp) ?_; intro g' c' w' ho hx; obtain ⟨g3, rfl⟩ := hx.grow; clear hx; have HO2 := Lib.hid ho; clear ho)
          go_roundw
          case rel => exact ⟨k + 1, g', c', _, C ++ [m], by omega, by go_num, by simp; rfl, by simp; omega, ExtC.ext, Lib.hid (by rw [HKS.out, HCk.out, HSO.out]), Lib.hid (by have := HO2.out; rw [List.length_append] at this; exact this)⟩
          case measure => simp [intOf]; omega
    · have e : k = L.length := by omega
      subst e
      go_wp2
      go_ret
      have hn := HO.out.len.1
      have ho := HO.out
      rw [hn] at ho ⊢
      have e2 : C = xs := by rw [HN.out, HCk.out]
      subst e2
      exact ⟨_, _, rfl, ho, ExtC.ext⟩

set_option maxHeartbeats 1000000 in
theorem impl_KeptParts' (v : Value) (L : List SD) (w : World) (h : RowsS shareKind w v L) (hs : ShortRows L) (hsm : ∀ i (h : i < L.length), L[i].length ≤ 1048576) (b : Bool) (hb : okSB L = b) (xs : List Int) (hxs : keptX L = xs) :
    Calls Try.prog 55 #[v] w fun e w' => ∃ v', e = .returned (.tuple #[v', .bool b]) ∧ OwnI w.heap.size w'.heap.size w' v' xs ∧ Ext w w' := by
  have H1 := fun x (hx : Ext w x) => (impl_ValidShares v L x (h.ext hx) hs hsm).mono fun e w' (h : RetB (OkS L) e ∧ Ext x w') => (⟨h.1.told' (okSB_iff hb), h.2⟩ : e = .returned (.bool b) ∧ Ext x w')
  cases b
  · have HN := Lib.hid (show xs = [] by rw [← hxs]; unfold keptX; rw [if_neg (by rw [← okSB_iff hb]; simp)])
    clear hb hxs
    go_enter Try.func55, Try.ntmps55
    go_wp2_with (first | (go_at_call 124; (with_reducible refine (H1 _ ExtC.ext).mono ?_); rintro e w' ⟨rfl, hx⟩; obtain ⟨g, rfl⟩ := hx.grow; clear hx))
    refine bodyPost_ret (v := .tuple #[.slice none 0 0, .bool false]) (by simp [results, Try.results55, go_sem]) rfl ?_
    exact ⟨_, rfl, .inl ⟨rfl, HN.out⟩, ExtC.ext⟩
  have hok := (okSB_iff hb).1 rfl
  have HB := fun x (hx : Ext w x) => kept_12 v L x (h.ext hx) hok xs (by rw [← hxs]; unfold keptX; rw [if_pos hok])
  clear hb hxs hok
  go_enter Try.func55, Try.ntmps55
  go_wp2_with (first | (go_at_call 124; (with_reducible refine (H1 _ ExtC.ext).mono ?_); rintro e w' ⟨rfl, hx⟩; obtain ⟨g, rfl⟩ := hx.grow; clear hx))
  refine Calls.mono (HB _ ExtC.ext) ?_
  rintro e w' ⟨gp, cp, rfl, ho, hx⟩; obtain ⟨g3, rfl⟩ := hx.grow; clear hx
  have HO := Lib.hid ho; clear ho HB
  go_wp2_with fail
  refine bodyPost_ret (v := .tuple #[.slice (some ⟨gp, 0, none⟩) xs.length cp, .bool true]) (by simp [results, Try.results55, go_sem]) rfl ?_
  exact ⟨_, rfl, HO.out.mono (ExtC.ext : Ext w _).size (Nat.le_refl _), ExtC.ext⟩
set_option maxHeartbeats 1000000 in
theorem spec_KeptParts' (v : Value) (L : List SD) (w : World) (h : RowsS shareKind w v L) (hs : ShortRows L) (hsm : ∀ i (h : i < L.length), L[i].length ≤ 1048576) (b : Bool) (hb : okSB L = b) (xs : List Int) (hxs : keptX L = xs) :
    Calls Try.prog 54 #[v] w fun e w' => ∃ v', e = .returned (.tuple #[v', .bool b]) ∧ OwnI w.heap.size w'.heap.size w' v' xs ∧ Ext w w' := by
  have H1 := fun x (hx : Ext w x) => (spec_l03Is v L x (h.ext hx) hs hsm).mono fun e w' (h : RetB (OkS L) e ∧ Ext x w') => (⟨h.1.told' (okSB_iff hb), h.2⟩ : e = .returned (.bool b) ∧ Ext x w')
  cases b
  · have HN := Lib.hid (show xs = [] by rw [← hxs]; unfold keptX; rw [if_neg (by rw [← okSB_iff hb]; simp)])
    clear hb hxs
    go_enter Try.func54, Try.ntmps54
    go_wp2_with (first | (go_at_call 122; (with_reducible refine (H1 _ ExtC.ext).mono ?_); rintro e w' ⟨rfl, hx⟩; obtain ⟨g, rfl⟩ := hx.grow; clear hx))
    refine bodyPost_ret (v := .tuple #[.slice none 0 0, .bool false]) (by simp [results, Try.results54, go_sem]) rfl ?_
    exact ⟨_, rfl, .inl ⟨rfl, HN.out⟩, ExtC.ext⟩
  have hok := (okSB_iff hb).1 rfl
  have HB := fun x (hx : Ext w x) => kept_4 v L x (h.ext hx) hok xs (by rw [← hxs]; unfold keptX; rw [if_pos hok])
  clear hb hxs hok
  go_enter Try.func54, Try.ntmps54
  go_wp2_with (first | (go_at_call 122; (with_reducible refine (H1 _ ExtC.ext).mono ?_); rintro e w' ⟨rfl, hx⟩; obtain ⟨g, rfl⟩ := hx.grow; clear hx))
  refine Calls.mono (HB _ ExtC.ext) ?_
  rintro e w' ⟨gp, cp, rfl, ho, hx⟩; obtain ⟨g3, rfl⟩ := hx.grow; clear hx
  have HO := Lib.hid ho; clear ho HB
  go_wp2_with fail
  refine bodyPost_ret (v := .tuple #[.slice (some ⟨gp, 0, none⟩) xs.length cp, .bool true]) (by simp [results, Try.results54, go_sem]) rfl ?_
  exact ⟨_, rfl, HO.out.mono (ExtC.ext : Ext w _).size (Nat.le_refl _), ExtC.ext⟩
end Go.Proofs.Ytbbppkcdgcajjaa
