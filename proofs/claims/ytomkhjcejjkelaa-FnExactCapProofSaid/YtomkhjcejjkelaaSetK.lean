/- Sets by the bits of a number, on both sides: impl.setOf, spec.l02Set; spec.l02Spare. -/
import Derived.Test.YtomkhjcejjkelaaCapP
import Derived.Test.YtomkhjcejjkelaaEndsS
namespace Go.Proofs.Ytomkhjcejjkelaa
open Go.RowKit

set_option maxHeartbeats 4000000 in
theorem impl_setOfK (m : Nat) (hm : m < 4096) (w : World) (xs : List Int) (hxs : bitsL m 12 = xs) :
    Calls Try.prog 35 #[.int .i64 m] w fun e w' => ∃ g c, e = .returned (.slice (some ⟨g, 0, none⟩) xs.length c) ∧ OwnI w.heap.size w'.heap.size w' (.slice (some ⟨g, 0, none⟩) xs.length c) xs ∧ Ext w w' := by
  have HN := Lib.hid hxs.symm
  clear hxs
  go_enter Try.func35, Try.ntmps35
  go_wp2_with fail
  have H00 := Lib.hid (own_empty w w.heap.size (Nat.le_refl _))
  go_loopw [3, 4] (fun o i wr => ∃ (k og oc n : Nat) (C : List Int), k ≤ 12 ∧ i = .int .i64 k ∧ o = .slice (some ⟨og, 0, none⟩) n oc ∧ C.length ≤ k ∧ Ext w wr ∧ Hid (C = bitsL m k) ∧ Hid (OwnI w.heap.size wr.heap.size wr (.slice (some ⟨og, 0, none⟩) n oc) C)) (fun _ i _ => 12 - (intOf i).toNat)
  case atStart => exact ⟨0, _, _, _, [], Nat.zero_le _, rfl, rfl, Nat.le_refl _, ExtC.ext, Lib.hid rfl, Lib.hid (by have := H00.out; simp only [World.size_alloc] at this ⊢; exact this)⟩
  case round =>
    obtain ⟨k, og, oc, n, C, hk, rfl, rfl, hC, hx, HCk, HO⟩ := hrel
    obtain ⟨g0, rfl⟩ := hx.grow; clear hx
    have hp := bit_pos m k
    by_cases h0 : (0 : Int) < (m : Int) / 2 ^ k
    · have hk7 : k ≠ 12 := fun e => by
        subst e
        exact hp.1 h0 (bit_end m hm)
      have hb := bit_and m hm k
      have hup := bitsL_succ m k
      have e0 : decide ((0 : Int) < (m : Int) / 2 ^ k) = true := decide_eq_true h0
      clear hp
      cases q : m.testBit k
      · rw [q] at hb hup
        have HU := Lib.hid hup; clear hup
        go_wp2_with fail
        go_roundw
        case rel => exact ⟨k + 1, og, oc, n, C, by omega, by go_num, rfl, by omega, ExtC.ext, Lib.hid (by rw [HU.out, HCk.out]; simp), HO⟩
        case measure => simp [intOf]; omega
      · rw [q] at hb hup
        have HU := Lib.hid hup; clear hup
        go_wp2_with (first | (at_builtin; refine app_int (w0 := w) (lo := w.heap.size) (hi := g0.fin.heap.size) _ _ (.slice (some ⟨og, 0, none⟩) n oc) C ⟨g0.fin.heap.size, 0, none⟩ 1 [(k : Int)] rfl rfl rfl (HO.out.ext ExtC.ext) rfl (cells_one _ _ _) (by simp; omega) ExtC.ext (Nat.le_refl _) (by have := (ExtC.ext : Ext w g0.fin).size; simp only [World.size_alloc]; omega) (by simp) ?_; intro g' c' w' ho hx; obtain ⟨g3, rfl⟩ := hx.grow; clear hx; have HO2 := Lib.hid ho; clear ho))
        go_roundw
        case rel => exact ⟨k + 1, g', c', _, C ++ [(k : Int)], by omega, by go_num, by simp; rfl, by simp; omega, ExtC.ext, Lib.hid (by rw [HU.out, HCk.out]; simp), Lib.hid (by have := HO2.out; rw [List.length_append] at this; exact this)⟩
        case measure => simp [intOf]; omega
    · have e0 : decide ((0 : Int) < (m : Int) / 2 ^ k) = false := decide_eq_false h0
      have hz : m >>> k = 0 := Classical.byContradiction fun h => h0 (hp.2 h)
      have hend := bitsL_end m k (by omega) hz
      clear hp hz
      go_wp2
      go_ret
      have hn := HO.out.len.1
      have ho := HO.out
      rw [hn] at ho ⊢
      have e2 : C = xs := by rw [HN.out, HCk.out, hend]
      subst e2
      exact ⟨_, _, rfl, ho, ExtC.ext⟩

set_option maxHeartbeats 4000000 in
set_option maxRecDepth 100000 in
theorem spec_l02Set (m n : Nat) (hm : m < 4096) (hn : n ≤ 12) (w : World) (xs : List Int) (hxs : bitsL m n = xs) :
    Calls Try.prog 29 #[.int .i64 m, .int .i64 n] w fun e w' => ∃ g c, e = .returned (.slice (some ⟨g, 0, none⟩) xs.length c) ∧ OwnI w.heap.size w'.heap.size w' (.slice (some ⟨g, 0, none⟩) xs.length c) xs ∧ Ext w w' := by
  have HN := Lib.hid hxs
  clear hxs
  go_enter Try.func29, Try.ntmps29
  go_wp2_with fail
  have H00 := Lib.hid (own_empty w w.heap.size (Nat.le_refl _))
  go_loopw [5, 6] (fun o i wr => ∃ (k og oc : Nat) (C : List Int), k ≤ n ∧ i = .int .i64 k ∧ o = .slice (some ⟨og, 0, none⟩) C.length oc ∧ C.length ≤ k ∧ Ext w wr ∧ Hid (C = bitsL m k) ∧ Hid (OwnI w.heap.size wr.heap.size wr (.slice (some ⟨og, 0, none⟩) C.length oc) C)) (fun _ i _ => n - (intOf i).toNat)
  case atStart => exact ⟨0, w.heap.size, 0, [], Nat.zero_le _, rfl, rfl, Nat.le_refl _, ExtC.ext, Lib.hid rfl, Lib.hid (by have := H00.out; simp only [World.size_alloc]; exact this)⟩
  case round =>
    clear H00
    obtain ⟨k, og, oc, C, hk, rfl, rfl, hC, hx, HCk, HO⟩ := hrel
    obtain ⟨g0, rfl⟩ := hx.grow; clear hx
    by_cases hlt : k < n
    · have hb := bit_and m hm k
      have hup := bitsL_succ m k
      cases q : m.testBit k
      · rw [q] at hb hup
        have HU := Lib.hid hup; clear hup
        go_wp2_with fail
        exact ⟨⟨k + 1, og, oc, C, by omega, by go_num, rfl, by omega, ExtC.ext, Lib.hid (by rw [HU.out, HCk.out]; simp), HO⟩, by simp [intOf]; omega⟩
      · rw [q] at hb hup
        have HU := Lib.hid hup; clear hup
        go_wp2_with (first | (at_builtin; refine app_int (w0 := w) (lo := w.heap.size) (hi := g0.fin.heap.size) _ _ (.slice (some ⟨og, 0, none⟩) C.length oc) C ⟨g0.fin.heap.size, 0, none⟩ 1 [(k : Int)] rfl rfl rfl (HO.out.ext ExtC.ext) rfl (cells_one _ _ _) (by simp; omega) ExtC.ext (Nat.le_refl _) (by have := (ExtC.ext : Ext w g0.fin).size; simp only [World.size_alloc]; omega) (by simp) ?_; intro g' c' w' ho hx; obtain ⟨g3, rfl⟩ := hx.grow; clear hx; have HO2 := Lib.hid ho; clear ho))
        exact ⟨⟨k + 1, g', c', C ++ [(k : Int)], by omega, by go_num, by simp, by simp; omega, ExtC.ext, Lib.hid (by rw [HU.out, HCk.out]; simp), HO2⟩, by simp [intOf]; omega⟩
    · have e : k = n := by omega
      have e2 : C = xs := by rw [HCk.out, e]; exact HN.out
      subst e2
      go_wp2_with fail
      refine bodyPost_ret (v := .slice (some ⟨og, 0, none⟩) C.length oc) (by simp [results, Try.results29, go_sem]) rfl ?_
      exact ⟨_, _, rfl, HO.out, ExtC.ext⟩

/-- A row of a list of rows. -/
theorem rows_at {w : World} {g n c : Nat} {E : List (List Int)} (h : RowsR intKind w (.slice (some ⟨g, 0, none⟩) n c) E) (hE : 0 < E.length) : InW g w ∧ ∀ k (hk : k < E.length), ∃ t, w.cell? ⟨g, k, none⟩ = some t ∧ RI w t E[k] := by
  rcases h with ⟨b, off, cap, e, -, ib, hc⟩ | ⟨rfl, _⟩
  · simp only [Value.slice.injEq, Option.some.injEq, Addr.mk.injEq, and_true] at e
    obtain ⟨⟨rfl, rfl⟩, -, -⟩ := e
    exact ⟨ib, fun k hk => by obtain ⟨t, h1, h2⟩ := hc k hk; rw [Nat.zero_add] at h1; exact ⟨t, h1, h2⟩⟩
  · simp at hE

set_option maxHeartbeats 4000000 in
set_option maxRecDepth 100000 in
theorem spec_l02Spare (eg ec sg sc : Nat) (lim : Int) (E : List (List Int)) (S : List Int) (w : World) (he : RowsR intKind w (.slice (some ⟨eg, 0, none⟩) E.length ec) E) (hs : IS w (.slice (some ⟨sg, 0, none⟩) S.length sc) S) (hE : ∀ e ∈ E, ∀ x ∈ e, 0 ≤ x ∧ x < 12) (hS : S.length ≤ 12) (hSr : ∀ k (h : k < S.length), 0 ≤ S[k] ∧ S[k] < E.length) (hEl : ∀ k (h : k < E.length), E[k].length ≤ 12) (hl : 1 ≤ lim) (hl2 : lim ≤ 12) (r : Int) (hr : spare E lim S = r) :
    Calls Try.prog 30 #[.slice (some ⟨eg, 0, none⟩) E.length ec, .slice (some ⟨sg, 0, none⟩) S.length sc, .int .i64 lim] w fun e w' => e = .returned (.int .i64 r) ∧ Ext w w' := by
  obtain ⟨b, off, cap, e, -, isg, hsc⟩ := hs
  simp only [Value.slice.injEq, Option.some.injEq, Addr.mk.injEq, and_true] at e
  obtain ⟨⟨rfl, rfl⟩, -, -⟩ := e
  have HS := Lib.hid hsc
  have HE := Lib.hid (fun h => rows_at he h)
  have HR := Lib.hid (And.intro hE (And.intro hSr hEl))
  have HN := Lib.hid hr
  have H12 := Lib.hid (fun T => put_twelve _ (endsOf_range hE T))
  clear hsc he hE hSr hEl hr
  go_enter Try.func30, Try.ntmps30
  go_wp2_with fail
  have H00 := Lib.hid (own_empty w w.heap.size (Nat.le_refl _))
  go_loopw [7, 8] (fun o i wr => ∃ (k og oc : Nat) (C : List Int), k ≤ S.length ∧ i = .int .i64 k ∧ o = .slice (some ⟨og, 0, none⟩) C.length oc ∧ C.length ≤ 12 ∧ Ext w wr ∧ Hid (C = putL [] (endsOf E (S.take k))) ∧ Hid (OwnI w.heap.size wr.heap.size wr (.slice (some ⟨og, 0, none⟩) C.length oc) C)) (fun _ i _ => S.length - (intOf i).toNat)
  case atStart => exact ⟨0, w.heap.size, 0, [], Nat.zero_le _, rfl, rfl, by simp, ExtC.ext, Lib.hid (by simp [endsOf, putL]), Lib.hid (by have := H00.out; simp only [World.size_alloc]; exact this)⟩
  case round =>
    clear H00
    obtain ⟨k, og, oc, C, hk, rfl, rfl, hC, hx, HCk, HO⟩ := hrel
    obtain ⟨g0, rfl⟩ := hx.grow; clear hx
    by_cases hlt : k < S.length
    · have d := HS.out k hlt
      rw [Nat.zero_add] at d
      obtain ⟨s0, s1⟩ := HR.out.2.1 k hlt
      obtain ⟨x, hx⟩ : ∃ x, S[k] = x := ⟨_, rfl⟩
      rw [hx] at d s0 s1
      obtain ⟨xn, hxn⟩ := Int.eq_ofNat_of_zero_le s0
      subst hxn
      have hxl : xn < E.length := by omega
      obtain ⟨ieg, hce⟩ := HE.out (by omega)
      obtain ⟨t, d2, d3⟩ := hce xn hxl
      obtain ⟨tp, tc, rfl, -, hct⟩ := d3.form
      have hel := HR.out.2.2 xn hxl
      have HSN := Lib.hid (show endsOf E (S.take (k + 1)) = endsOf E (S.take k) ++ E[xn] by rw [endsOf_snoc E S k hlt (by rw [hx]; simpa using hxl)]; simp [hx])
      obtain ⟨R, hR⟩ : ∃ R, E[xn] = R := ⟨_, rfl⟩
      rw [hR] at d2 hct hel
      have HRE := Lib.hid hR
      have HCT := Lib.hid hct
      clear d3 hce hct hx hR
      go_wp2_with fail
      go_loopw [7, 9] (fun o i wr => ∃ (j og oc : Nat) (D : List Int), j ≤ R.length ∧ i = .int .i64 j ∧ o = .slice (some ⟨og, 0, none⟩) D.length oc ∧ D.length ≤ 12 + j ∧ Ext w wr ∧ Hid (D = putL C (R.take j)) ∧ Hid (OwnI w.heap.size wr.heap.size wr (.slice (some ⟨og, 0, none⟩) D.length oc) D)) (fun _ i _ => R.length - (intOf i).toNat)
      case atStart => exact ⟨0, og, oc, C, Nat.zero_le _, rfl, rfl, by omega, ExtC.ext, Lib.hid (by simp [putL]), HO⟩
      case round =>
        clear HO
        obtain ⟨j, og', oc', D, hj, rfl, rfl, hD, hx, HDj, HO⟩ := hrel
        obtain ⟨g1, rfl⟩ := hx.grow; clear hx
        by_cases hjl : j < R.length
        · obtain ⟨tb, to, hp, itb, hcc⟩ := HCT.out (by omega)
          subst hp
          have d5 := hcc j hjl
          have HST := Lib.hid (show putL C (R.take (j + 1)) = putA false (putL C (R.take j)) R[j] by rw [List.take_succ_eq_append_getElem hjl]; unfold putL; rw [List.foldl_append]; rfl)
          obtain ⟨y, hy⟩ : ∃ y, R[j] = y := ⟨_, rfl⟩
          rw [hy] at d5
          have HY := Lib.hid hy
          clear hcc hy
          have hpl := putA_len D y
          obtain ⟨ys, hys⟩ : ∃ ys, putA false D y = ys := ⟨_, rfl⟩
          have HYS := Lib.hid hys
          rw [hys] at hpl
          clear hys
          go_wp2_with (first | (go_at_call 44; (with_reducible refine (spec_l00Put _ D y _ (HO.out.ri.ext ExtC.ext) (by omega) ys HYS.out).mono ?_); rintro e w' ⟨pg, pc, rfl, ho, hx⟩; obtain ⟨g2, rfl⟩ := hx.grow; clear hx; have HO2 := Lib.hid ho; clear ho))
          exact ⟨⟨j + 1, pg, pc, ys, by omega, by go_num, rfl, by omega, ExtC.ext, Lib.hid (by rw [HST.out, ← HDj.out, HY.out, HYS.out]), Lib.hid (HO2.out.mono (ExtC.ext : Ext w g1.fin).size (Nat.le_refl _))⟩, by simp [intOf]; omega⟩
        · have e : j = R.length := by omega
          have HF : Hid (D = putL [] (endsOf E (S.take (k + 1)))) := Lib.hid (by rw [HDj.out, HSN.out, HRE.out, e, List.take_length, HCk.out]; simp [putL, List.foldl_append])
          have h12 : D.length ≤ 12 := by rw [HF.out]; exact H12.out _
          go_wp2_with fail
          exact ⟨⟨k + 1, og', oc', D, by omega, by go_num, rfl, h12, ExtC.ext, HF, HO⟩, by simp [intOf]; omega⟩
    · have e : k = S.length := by omega
      have e2 : (S.length : Int) - lim * (C.length : Int) = r := by rw [← HN.out, HCk.out, e, List.take_length]; rfl
      have h1 : 0 ≤ lim * (C.length : Int) := Int.mul_nonneg (by omega) (by omega)
      have h2 : lim * (C.length : Int) ≤ 12 * 12 := Int.mul_le_mul hl2 (by omega) (by omega) (by omega)
      have E2 := Lib.hid e2
      clear e2
      obtain ⟨z, hz⟩ : ∃ z, lim * (C.length : Int) = z := ⟨_, rfl⟩
      rw [hz] at h1 h2
      go_wp2_with fail
      go_ret
      exact ⟨ret_int (by rw [← E2.out, hz]), ExtC.ext⟩
end Go.Proofs.Ytomkhjcejjkelaa
