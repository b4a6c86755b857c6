/- Shares taken back: TakeBack on both sides. -/
import Derived.Test.YtbbppkcdgcajjaaUnit
import Derived.Test.YtbbppkcdgcajjaaReachI
namespace Go.Proofs.Ytbbppkcdgcajjaa
open Go.RowKit

def pcs (ys : SD) : List Value := (List.range (ys.length * 2)).map fun j => if j % 2 = 0 then iv (ys.getD (j / 2) (0, 0)).1 else iv (ys.getD (j / 2) (0, 0)).2
theorem pcs_length (ys : SD) : (pcs ys).length = ys.length * 2 := by simp [pcs]
theorem pcs_get (ys : SD) (j : Nat) (h : j < ys.length * 2) : (pcs ys)[j]? = some (if j % 2 = 0 then iv (ys.getD (j / 2) (0, 0)).1 else iv (ys.getD (j / 2) (0, 0)).2) := by simp [pcs, h]
theorem pcs_pair (ys : SD) (i : Nat) (h : i < ys.length) : (pcs ys)[i * 2]? = some (iv ys[i].1) ∧ (pcs ys)[i * 2 + 1]? = some (iv ys[i].2) := by
  rw [pcs_get ys _ (by omega), pcs_get ys _ (by omega)]
  have e1 : i * 2 % 2 = 0 := by omega
  have e2 : i * 2 / 2 = i := by omega
  have e3 : (i * 2 + 1) % 2 = 1 := by omega
  have e4 : (i * 2 + 1) / 2 = i := by omega
  have e5 : ys.getD i (0, 0) = ys[i] := by simp [h]
  rw [e1, e2, e3, e4, e5]
  exact ⟨rfl, rfl⟩

/-- A row of shares that reads, appended to an empty one. -/
theorem app_rp {ops : Array Oper} {rest : List Oper} {o : Oper} {a : Act} {Q : Exit → Act → World → Prop} {w0 w : World} {lo hi : Nat} (s x : Operand) (g cap : Nat) (sv : Value) (ys : SD)
    (hgd : o.guard = none) (ho : o.op = .call { callee := .builtin .append, args := #[s, x], argTypes := #[116, 116] })
    (hs : a.eval s = .slice (some ⟨g, 0, none⟩) 0 cap) (hown : OwnP lo hi w (.slice (some ⟨g, 0, none⟩) 0 cap) []) (hx : a.eval x = sv) (hR : RP w sv ys) (hb : ys.length ≤ 1048576) (h0 : Ext w0 w) (hlo : w0.heap.size ≤ lo) (hl : lo ≤ w.heap.size)
    (h : ∀ g' c' w', OwnP lo w'.heap.size w' (.slice (some ⟨g', 0, none⟩) ys.length c') ys → Ext w0 w' → wpList Try.prog ops Q rest (a.put o.dst (.slice (some ⟨g', 0, none⟩) ys.length c')) w') : wpList Try.prog ops Q (o :: rest) a w := by
  obtain ⟨i0, hi0, hz0, hz1, hz2⟩ := info_parts Try.info_share
  rcases hown with ⟨e, _⟩ | ⟨g', cap', cs, e, h1, h2, how, -⟩
  · cases e
  simp only [Value.slice.injEq, Option.some.injEq, Addr.mk.injEq, and_true, true_and] at e
  obtain ⟨rfl, -, rfl⟩ := e
  have hcs : cs = [] := List.length_eq_zero_iff.1 (by rw [how.1]; simp)
  subst hcs
  obtain ⟨p, c, rfl, -, hq⟩ := hR.form
  by_cases hm : 0 < ys.length
  · obtain ⟨b, off, rfl, ib, hc⟩ := hq hm
    refine wpList_append_own2 w hgd s x _ ho lo 130 i0 (.agg #[.int .i64 0, .int .i64 0]) 2 16 Try.underlying116 hi0 hz0 hz1 hz2 rfl (by decide) _ 0 [] hs how ⟨b, off, none⟩ ys.length c (pcs ys) hx (pcs_length ys) (fun j u hj => ?_) (fun u hu => ?_) (by unfold maxLen; omega) (by omega) hl (fun v' w' h2' h3 h4 h5 => ?_)
    · have hj' : j < ys.length * 2 := by have := (List.getElem?_eq_some_iff.1 hj).1; rwa [pcs_length] at this
      obtain ⟨d1, d2⟩ := hc (j / 2) (by omega)
      obtain ⟨p1, p2⟩ := pcs_pair ys (j / 2) (by omega)
      rw [add_plain']
      by_cases e : j % 2 = 0
      · have e2 : j / 2 * 2 = j := by omega
        rw [e2] at p1 d1
        rw [← hj, p1, d1]
      · have e2 : j / 2 * 2 + 1 = j := by omega
        rw [e2] at p2
        rw [Nat.add_assoc, e2] at d2
        rw [← hj, p2, d2]
    · obtain ⟨j, hj, rfl⟩ := List.mem_map.1 hu
      split <;> rfl
    · obtain ⟨g', c', rfl, -⟩ := h5 hm
      rw [Nat.zero_add] at h2' ⊢
      refine h g' c' w' (.inr ⟨g', c', pcs ys, rfl, (h2'.lt g' rfl).1, (h2'.lt g' rfl).2, by simpa using h2', fun i hi => pcs_pair ys i hi⟩) (h0.grown h3 fun k hk => by simp [Value.ownBlock] at hk; omega)
  · have : ys = [] := List.length_eq_zero_iff.1 (by omega)
    subst this
    refine wpList_plain hgd fun K hK => ?_
    have hr := run_append_zero (P := Try.prog) (w := w) lo 116 o.type 130 i0 2 Try.underlying116 hi0 (.slice (some ⟨g, 0, none⟩) 0 cap) 0 [] how p c
    unfold Oper.wp execOp
    simp only [List.length_nil] at hx
    simp only [ho, resolve, invoke, builtin, Sem.run_bind, Sem.run_pure, Result.andThen_ok, List.map_toArray, List.map_cons, List.map_nil, hs, hx, hr]
    exact hK _ _ (h g cap w (.inr ⟨g, cap, [], rfl, h1, (how.lt g rfl).2, how, fun i hi => absurd hi (by simp)⟩) h0)

set_option maxHeartbeats 2000000 in
theorem impl_cloneShares (v : Value) (L : List SD) (w : World) (h : RowsS shareKind w v L) (hl : L.length ≤ 6) (hm : ∀ i (h : i < L.length), L[i].length ≤ 1048576) :
    Calls Try.prog 118 #[v] w fun e w' => ∃ g c, e = .returned (.slice (some ⟨g, 0, none⟩) L.length c) ∧ OwnR shareKind 116 w.heap.size w'.heap.size w' (.slice (some ⟨g, 0, none⟩) L.length c) L ∧ Ext w w' := by
  obtain ⟨b, off, cap, rfl, -, hb, hc⟩ := h
  have HC := Lib.hid hc
  have HM := Lib.hid hm
  clear hc hm
  go_enter Try.func118, Try.ntmps118
  go_wp2_with fail
  go_loopw [3, 9] (fun o i wr => ∃ (k og oc : Nat) (C : List SD), k ≤ L.length ∧ i = .int .i64 k ∧ o = .slice (some ⟨og, 0, none⟩) C.length oc ∧ C.length ≤ k ∧ Ext w wr ∧ Hid (C = L.take k) ∧ Hid (OwnR shareKind 116 w.heap.size wr.heap.size wr (.slice (some ⟨og, 0, none⟩) C.length oc) C)) (fun _ i _ => L.length - (intOf i).toNat)
  case atStart => exact ⟨0, _, _, [], Nat.zero_le _, rfl, rfl, Nat.le_refl _, ExtC.ext, Lib.hid rfl, Lib.hid ((share_rows_empty w w.heap.size (Nat.le_refl _)).mono (Nat.le_refl _) (by simp))⟩
  case round =>
    obtain ⟨k, og, oc, C, hk, rfl, rfl, hC, hx, HCk, HO⟩ := hrel
    obtain ⟨g0, rfl⟩ := hx.grow; clear hx
    have hsz := (ExtC.ext : Ext w g0.fin).size
    by_cases hlt : k < L.length
    · obtain ⟨t, d2, d3⟩ := HC.out k hlt
      have D3 : Hid (RP w t L[k]) := Lib.hid d3
      have hml := HM.out k hlt
      obtain ⟨p, tc, rfl, -, -⟩ := RP.form d3
      clear d3
      have HTK := Lib.hid (List.take_succ_eq_append_getElem hlt)
      go_wp2_with (first | (at_builtin; refine app_rp (w0 := g0.fin) (lo := g0.fin.heap.size) _ _ g0.fin.heap.size 0 (.slice p L[k].length tc) L[k] rfl rfl rfl (own_pairs_empty g0.fin) rfl (D3.out.ext ExtC.ext) hml ExtC.ext (Nat.le_refl _) (by simp) ?_; intro gr cr w' ho hx; obtain ⟨g2, rfl⟩ := hx.grow; clear hx; have HR := Lib.hid ho; clear ho) | (at_builtin; refine app_rowS (w0 := w) (lo := w.heap.size) (mid := g0.fin.heap.size) (hi := g2.fin.heap.size) _ _ og oc C _ 1 _ L[k] rfl rfl rfl (HO.out.ext ExtC.ext) rfl (cell_at _ _ rfl) rfl (HR.out.ext ExtC.ext) hsz (by simp) (by have := (ExtC.ext : Ext g0.fin g2.fin).size; simp; omega) (by omega) ExtC.ext (Nat.le_refl _) ?_; intro g' c' w' ho hx; obtain ⟨g5, rfl⟩ := hx.grow; clear hx; have HO2 := Lib.hid ho; clear ho))
      go_roundw
      case rel => exact ⟨k + 1, g', c', C ++ [L[k]], by omega, by go_num, by simp, by simp; omega, ExtC.ext, Lib.hid (by rw [HTK.out, HCk.out]), HO2⟩
      case measure => simp [intOf]; omega
    · have e : k = L.length := by omega
      subst e
      go_wp2
      go_ret
      have e2 : C = L := by rw [HCk.out, List.take_length]
      subst e2
      exact ⟨_, _, rfl, HO.out, ExtC.ext⟩

theorem OwnR.set {α : Type} {K : Kind α} {T : TypeId} {lo mid hi : Nat} {w : World} {g c : Nat} {t : Value} {x : α} {L : List α} (h : OwnR K T lo mid w (.slice (some ⟨g, 0, none⟩) L.length c) L) (hmid : lo ≤ mid) (hmh : mid ≤ hi) (ht : K.Own mid hi w t x) (m : Nat) (hm : m < L.length) :
    OwnR K T lo hi (w.setCell ⟨g, m, none⟩ t) (.slice (some ⟨g, 0, none⟩) L.length c) (L.set m x) := by
  rcases h with ⟨e, _⟩ | ⟨g0, cap, cs, a, b, e, h3, h4, how, hc, hd⟩
  · cases e
  simp only [Value.slice.injEq, Option.some.injEq, Addr.mk.injEq, and_true, true_and] at e
  obtain ⟨rfl, rfl⟩ := e
  have hl : cs.length = L.length := by rw [how.1]; omega
  have st := (how.stored m t).1
  have hr : Rng g (g + 1) w (w.setCell ⟨g, m, none⟩ t) := (Rng.refl g (g + 1) w).setCell (p := ⟨g, m, none⟩) (Nat.le_refl g) (Nat.lt_succ_self g) t
  refine .inr ⟨g, c, cs.set m t, fun i => if i = m then mid else a i, fun i => if i = m then hi else b i, by rw [List.length_set], h3, by omega, by rw [List.length_set]; exact st, fun i hi' => ?_, fun i j hij hj => ?_⟩
  · rw [List.length_set] at hi'
    by_cases e : i = m
    · subst e
      simp only [if_true]
      refine ⟨t, by rw [List.getElem?_set_self (by omega)], ?_, hmid, Nat.le_refl _, .inl h4⟩
      rw [List.getElem_set_self]
      exact K.own_rng ht hr (by omega)
    · obtain ⟨u, q1, q2, q3, q4, q5⟩ := hc i hi'
      simp only [e, if_false]
      refine ⟨u, by rw [List.getElem?_set_ne (Ne.symm e)]; exact q1, ?_, q3, by omega, q5⟩
      rw [List.getElem_set_ne (Ne.symm e)]
      exact K.own_rng q2 hr (by omega)
  · rw [List.length_set] at hj
    by_cases e : i = m
    · subst e
      obtain ⟨u, q1, q2, q3, q4, q5⟩ := hc j hj
      simp only [if_true, show ¬ j = i by omega, if_false]
      exact .inr q4
    · by_cases e2 : j = m
      · subst e2
        obtain ⟨u, q1, q2, q3, q4, q5⟩ := hc i (by omega)
        simp only [e, if_false, if_true]
        exact .inl q4
      · simp only [e, e2, if_false]
        exact hd i j hij hj
theorem OwnR.cell {α : Type} {K : Kind α} {T : TypeId} {lo mid : Nat} {w : World} {g c : Nat} {L : List α} (h : OwnR K T lo mid w (.slice (some ⟨g, 0, none⟩) L.length c) L) (m : Nat) (hm : m < L.length) : lo ≤ g ∧ InW g w ∧ (∃ u, w.cell? ⟨g, m, none⟩ = some u) ∧ w.frozen? ⟨g, m, none⟩ = false := by
  rcases h with ⟨e, _⟩ | ⟨g0, cap, cs, a, b, e, h3, h4, how, hc, hd⟩
  · cases e
  simp only [Value.slice.injEq, Option.some.injEq, Addr.mk.injEq, and_true, true_and] at e
  obtain ⟨rfl, rfl⟩ := e
  obtain ⟨t, q1, _⟩ := hc m hm
  exact ⟨h3, ⟨(how.lt g rfl).2⟩, ⟨t, by rw [how.cellAt _ (by omega)]; exact q1⟩, how.frozenAt m⟩

open Classical in
noncomputable def tkX (L : List SD) (m : Int) : List SD := if ShP L m then L.set m.toNat [] else []
theorem tk_no {L : List SD} {m : Int} {b : Bool} {xs : List SD} (h : ¬ ShP L m) (hb : shB L m = b) (hxs : tkX L m = xs) : b = false ∧ xs = [] :=
  ⟨hb.symm.trans (shB_no h), by rw [← hxs]; unfold tkX; rw [if_neg h]⟩
theorem OkS.sum {L : List SD} (hok : OkS L) : rsum L ≤ 72 := by
  have := rsum_few L 12 fun x hx => by
    obtain ⟨i, hi, rfl⟩ := List.getElem_of_mem hx
    exact (hok.1 i hi).few
  have := hok.2.2
  omega
theorem tkX_small {L : List SD} {m : Int} : (tkX L m).length ≤ 6 ∧ ∀ r ∈ tkX L m, r.length ≤ 12 := by
  unfold tkX
  split
  · rename_i h
    refine ⟨by rw [List.length_set]; exact h.1.2.2, fun r hr => ?_⟩
    rcases List.mem_or_eq_of_mem_set hr with h1 | h1
    · obtain ⟨i, hi, rfl⟩ := List.getElem_of_mem h1
      exact (h.1.1 i hi).few
    · subst h1; simp
  · simp

set_option maxHeartbeats 2000000 in
theorem impl_TakeBack' (v : Value) (m : Int) (L : List SD) (w : World) (h : RowsS shareKind w v L) (hs : ShortRows L) (hsm : ∀ i (h : i < L.length), L[i].length ≤ 1048576) (b : Bool) (hb : shB L m = b) (xs : List SD) (hxs : tkX L m = xs) :
    Calls Try.prog 50 #[v, .int .i64 m] w fun e w' => ∃ v', e = .returned (.tuple #[v', .bool b]) ∧ OwnR shareKind 116 w.heap.size w'.heap.size w' v' xs ∧ Ext w w' := by
  have H1 := fun x (hx : Ext w x) => member_impl_ValidShares v m L x (h.ext hx) hs hsm b hb
  by_cases hok : ShP L m
  · have hbt := (shB_iff hb).2 hok
    subst hbt
    have hl := hok.1.2
    have HN := Lib.hid (show xs = L.set m.toNat [] by rw [← hxs]; unfold tkX; rw [if_pos hok])
    have HC := fun x (hx : Ext w x) => impl_cloneShares v L x (h.ext hx) hl.2 hsm
    obtain ⟨mn, rfl⟩ := Int.eq_ofNat_of_zero_le hok.2.1
    have hmn : mn < L.length := by have := hok.2.2; omega
    clear hb hxs hok
    go_enter Try.func50, Try.ntmps50
    go_wp2_with (first | (go_at_call 117; (with_reducible refine (H1 _ ExtC.ext).mono ?_); rintro e w' ⟨rfl, hx⟩; obtain ⟨g, rfl⟩ := hx.grow; clear hx))
    refine Calls.mono (HC _ ExtC.ext) ?_
    rintro e w' ⟨g', c', rfl, ho, hx⟩
    obtain ⟨a1, a2, ⟨u1, a3⟩, a4⟩ := ho.cell mn hmn
    have HO := Lib.hid ho
    clear ho
    obtain ⟨g2, rfl⟩ := hx.grow; clear hx
    have hn2 : NewB w g' := ⟨Nat.le_trans (ExtC.ext : Ext w g.fin).size a1⟩
    go_wp2_with fail
    refine bodyPost_ret (v := .tuple #[.slice (some ⟨g', 0, none⟩) L.length c', .bool true]) (by simp [results, Try.results50, go_sem]) rfl ?_
    refine ⟨_, rfl, ?_, ExtC.ext⟩
    rw [HN.out]
    have h1 := (HO.out.ext (ExtC.ext : Ext g2.fin (g2.fin.alloc (.cells #[] 130))))
    have h2 := OwnR.set (x := ([] : SD)) h1 (Nat.le_trans (Nat.le_of_lt (Nat.lt_of_le_of_lt a1 a2.lt)) (Nat.le_refl _) |> fun h => by have := a2.lt; omega) (Nat.le_succ _) (own_pairs_empty g2.fin) mn hmn
    have h3 := h2.mono (ExtC.ext : Ext w g.fin).size (Nat.le_refl _)
    rw [World.setCell_alloc_past (hn := a2.lt)] at h3
    simpa using h3
  · obtain ⟨rfl, rfl⟩ := tk_no hok hb hxs
    clear hb hxs hok
    go_enter Try.func50, Try.ntmps50
    go_wp2_with (first | (go_at_call 117; (with_reducible refine (H1 _ ExtC.ext).mono ?_); rintro e w' ⟨rfl, hx⟩; obtain ⟨g, rfl⟩ := hx.grow; clear hx))
    refine bodyPost_ret (v := .tuple #[.slice none 0 0, .bool false]) (by simp [results, Try.results50, go_sem]) rfl ?_
    exact ⟨_, rfl, .inl ⟨rfl, rfl⟩, ExtC.ext⟩

set_option maxHeartbeats 2000000 in
theorem spec_TakeBack' (v : Value) (m : Int) (L : List SD) (w : World) (h : RowsS shareKind w v L) (hs : ShortRows L) (hsm : ∀ i (h : i < L.length), L[i].length ≤ 1048576) (b : Bool) (hb : shB L m = b) (xs : List SD) (hxs : tkX L m = xs) :
    Calls Try.prog 48 #[v, .int .i64 m] w fun e w' => ∃ v', e = .returned (.tuple #[v', .bool b]) ∧ OwnR shareKind 116 w.heap.size w'.heap.size w' v' xs ∧ Ext w w' := by
  have H1 := fun x (hx : Ext w x) => member_spec_l03Is v m L x (h.ext hx) hs hsm b hb
  by_cases hok : ShP L m
  · have hbt := (shB_iff hb).2 hok
    subst hbt
    have hl := hok.1.2
    obtain ⟨mn, rfl⟩ := Int.eq_ofNat_of_zero_le hok.2.1
    have hmn : mn < L.length := by have := hok.2.2; omega
    have HN := Lib.hid (show xs = L.set mn [] by rw [← hxs]; unfold tkX; rw [if_pos hok]; rfl)
    obtain ⟨b, off, cap, rfl, -, hb', hc⟩ := h
    have HC := Lib.hid hc
    have HM := Lib.hid hsm
    clear hb hxs hok hc hsm
    go_enter Try.func48, Try.ntmps48
    go_wp2_with (first | (go_at_call 115; (with_reducible refine (H1 _ ExtC.ext).mono ?_); rintro e w' ⟨rfl, hx⟩; obtain ⟨g, rfl⟩ := hx.grow; clear hx))
    clear H1
    go_loopw [6, 7] (fun o i wr => ∃ (k og oc : Nat) (C : List SD), k ≤ L.length ∧ i = .int .i64 k ∧ o = .slice (some ⟨og, 0, none⟩) C.length oc ∧ C.length ≤ k ∧ Ext w wr ∧ Hid (C = (L.set mn []).take k) ∧ Hid (OwnR shareKind 116 w.heap.size wr.heap.size wr (.slice (some ⟨og, 0, none⟩) C.length oc) C)) (fun _ i _ => L.length - (intOf i).toNat)
    case atStart => exact ⟨0, _, _, [], Nat.zero_le _, rfl, rfl, Nat.le_refl _, ExtC.ext, Lib.hid rfl, Lib.hid ((share_rows_empty g.fin w.heap.size (ExtC.ext : Ext w g.fin).size).mono (Nat.le_refl _) (by simp))⟩
    case round =>
      obtain ⟨k, og, oc, C, hk, rfl, rfl, hC, hx, HCk, HO⟩ := hrel
      obtain ⟨g0, rfl⟩ := hx.grow; clear hx
      have hsz := (ExtC.ext : Ext w g0.fin).size
      by_cases hlt : k < L.length
      · obtain ⟨t, d2, d3⟩ := HC.out k hlt
        have D3 : Hid (RP w t L[k]) := Lib.hid d3
        have hml := HM.out k hlt
        obtain ⟨p, tc, rfl, -, -⟩ := RP.form d3
        clear d3
        have HTK := Lib.hid (List.take_succ_eq_append_getElem (l := L.set mn []) (i := k) (by rw [List.length_set]; exact hlt))
        by_cases hkm : k = mn
        · have HE : Hid ((L.set mn [])[k]'(by rw [List.length_set]; exact hlt) = []) := Lib.hid (by subst hkm; rw [List.getElem_set_self])
          have hz : ((k : Int) == (mn : Int)) = true := by simp [hkm]
          clear hkm
          go_wp2_with (first | (at_builtin; refine app_rp (w0 := g0.fin) (lo := g0.fin.heap.size) _ _ g0.fin.heap.size 0 (.slice p L[k].length tc) L[k] rfl rfl rfl (own_pairs_empty g0.fin) rfl (D3.out.ext ExtC.ext) hml ExtC.ext (Nat.le_refl _) (by simp) ?_; intro gr cr w' ho hx; obtain ⟨g2, rfl⟩ := hx.grow; clear hx; clear ho) | (at_builtin; refine app_rowS (w0 := w) (lo := w.heap.size) (mid := g2.fin.heap.size) (hi := g2.fin.heap.size + 1) _ _ og oc C _ 1 _ [] rfl rfl rfl ((HO.out.ext ExtC.ext).mono (Nat.le_refl _) (ExtC.ext : Ext g0.fin g2.fin).size) rfl (cell_at _ _ (by simp)) rfl ((own_pairs_empty g2.fin).ext ExtC.ext) (ExtC.ext : Ext w g2.fin).size (by simp) (by simp; omega) (by omega) ExtC.ext (Nat.le_refl _) ?_; intro g' c' w' ho hx; obtain ⟨g5, rfl⟩ := hx.grow; clear hx; have HO2 := Lib.hid ho; clear ho))
          go_roundw
          case rel => exact ⟨k + 1, g', c', C ++ [[]], by omega, by go_num, by simp, by simp; omega, ExtC.ext, Lib.hid (by rw [HTK.out, HCk.out, HE.out]), HO2⟩
          case measure => simp [intOf]; omega
        · have HE : Hid ((L.set mn [])[k]'(by rw [List.length_set]; exact hlt) = L[k]) := Lib.hid (by rw [List.getElem_set_ne (Ne.symm hkm)])
          have hz : ((k : Int) == (mn : Int)) = false := by rw [beq_eq_false_iff_ne]; omega
          clear hkm
          go_wp2_with (first | (at_builtin; refine app_rp (w0 := g0.fin) (lo := g0.fin.heap.size) _ _ g0.fin.heap.size 0 (.slice p L[k].length tc) L[k] rfl rfl rfl (own_pairs_empty g0.fin) rfl (D3.out.ext ExtC.ext) hml ExtC.ext (Nat.le_refl _) (by simp) ?_; intro gr cr w' ho hx; obtain ⟨g2, rfl⟩ := hx.grow; clear hx; have HR := Lib.hid ho; clear ho) | (at_builtin; refine app_rowS (w0 := w) (lo := w.heap.size) (mid := g0.fin.heap.size) (hi := g2.fin.heap.size) _ _ og oc C _ 1 _ L[k] rfl rfl rfl (HO.out.ext ExtC.ext) rfl (cell_at _ _ rfl) rfl (HR.out.ext ExtC.ext) hsz (by simp) (by have := (ExtC.ext : Ext g0.fin g2.fin).size; simp; omega) (by omega) ExtC.ext (Nat.le_refl _) ?_; intro g' c' w' ho hx; obtain ⟨g5, rfl⟩ := hx.grow; clear hx; have HO2 := Lib.hid ho; clear ho))
          go_roundw
          case rel => exact ⟨k + 1, g', c', C ++ [L[k]], by omega, by go_num, by simp, by simp; omega, ExtC.ext, Lib.hid (by rw [HTK.out, HCk.out, HE.out]), HO2⟩
          case measure => simp [intOf]; omega
      · have e : k = L.length := by omega
        subst e
        go_wp2
        refine bodyPost_ret (v := .tuple #[.slice (some ⟨og, 0, none⟩) C.length oc, .bool true]) (by simp [results, Try.results48, go_sem]) rfl ?_
        refine ⟨_, rfl, ?_, ExtC.ext⟩
        have e2 : C = xs := by rw [HN.out, HCk.out]; exact List.take_of_length_le (by simp)
        rw [← e2]
        exact HO.out
  · obtain ⟨rfl, rfl⟩ := tk_no hok hb hxs
    clear hb hxs hok
    go_enter Try.func48, Try.ntmps48
    go_wp2_with (first | (go_at_call 115; (with_reducible refine (H1 _ ExtC.ext).mono ?_); rintro e w' ⟨rfl, hx⟩; obtain ⟨g, rfl⟩ := hx.grow; clear hx))
    refine bodyPost_ret (v := .tuple #[.slice none 0 0, .bool false]) (by simp [results, Try.results48, go_sem]) rfl ?_
    exact ⟨_, rfl, .inl ⟨rfl, rfl⟩, ExtC.ext⟩
end Go.Proofs.Ytbbppkcdgcajjaa
