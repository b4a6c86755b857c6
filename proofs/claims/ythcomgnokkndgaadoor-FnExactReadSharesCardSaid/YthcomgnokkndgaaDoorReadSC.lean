/- Two digits read: spec.l03Count. A row of shares that grows in its place. -/
import Derived.Test.YthcomgnokkndgaaDoorReadSQ
namespace Go.Proofs.YthcomgnokkndgaaDoor
open Go.RowKit

theorem tw_next {p : UInt8 → Bool} : ∀ {m : List UInt8} {j : Nat}, j ≤ (m.takeWhile p).length → (h : j < m.length) → (p m[j] = true ↔ j < (m.takeWhile p).length)
  | [], _, _, h => by simp at h
  | x :: m, j, hj, h => by
    cases hp : p x
    · rw [List.takeWhile_cons, if_neg (by simp [hp])] at hj ⊢
      have : j = 0 := by simpa using hj
      subst this
      simp [hp]
    · rw [List.takeWhile_cons, if_pos hp] at hj ⊢
      cases j with
      | zero => simp [hp]
      | succ j =>
        simp only [List.length_cons] at hj h ⊢
        rw [List.getElem_cons_succ, tw_next (m := m) (j := j) (by omega) (by omega)]
        omega
theorem tw_get {p : UInt8 → Bool} : ∀ {m : List UInt8} {j : Nat} (h : j < (m.takeWhile p).length) (h' : j < m.length), (m.takeWhile p)[j] = m[j]
  | [], _, h, _ => by simp at h
  | x :: m, j, h, h' => by
    cases hp : p x
    · rw [List.takeWhile_cons, if_neg (by simp [hp])] at h; simp at h
    · simp only [List.takeWhile_cons, hp, if_true] at h ⊢
      cases j with
      | zero => rfl
      | succ j => simp only [List.getElem_cons_succ]; exact tw_get (by simpa using h) (by simpa using h')
/-- The byte at a place that may be behind the end. -/
theorem dg2_step {s : ByteArray} {a j : Nat} (hj : j < 2) (h : a + j < s.size) (hle : j ≤ (dg2 (s.data.toList.drop a)).length) :
    (isD s[a + j] = true → j + 1 ≤ (dg2 (s.data.toList.drop a)).length ∧ valD ((dg2 (s.data.toList.drop a)).take (j + 1)) = 10 * valD ((dg2 (s.data.toList.drop a)).take j) + (s[a + j].toNat - 48)) ∧ (isD s[a + j] = false → j = (dg2 (s.data.toList.drop a)).length) := by
  have hl : j < ((s.data.toList.drop a).take 2).length := by rw [List.length_take, List.length_drop, size_list]; omega
  have hg : ((s.data.toList.drop a).take 2)[j] = s[a + j] := by
    rw [List.getElem_take, List.getElem_drop, get_list s (a + j) h]
  have key := tw_next (p := isD) hle hl
  rw [hg] at key
  refine ⟨fun hd => ?_, fun hd => ?_⟩
  · have hlt : j < (dg2 (s.data.toList.drop a)).length := key.1 hd
    refine ⟨hlt, ?_⟩
    rw [List.take_succ_eq_append_getElem hlt, valD_snoc]
    have : (dg2 (s.data.toList.drop a))[j] = s[a + j] := by rw [← hg]; exact tw_get hlt hl
    rw [this]
    unfold stepD
    rw [if_pos (of_decide_eq_true hd)]
  · rcases Nat.lt_or_ge j (dg2 (s.data.toList.drop a)).length with q | q
    · rw [key.2 q] at hd; cases hd
    · omega
theorem dg2_end {s : ByteArray} {a j : Nat} (h : ¬ (j < 2 ∧ a + j < s.size)) (hle : j ≤ (dg2 (s.data.toList.drop a)).length) : j = (dg2 (s.data.toList.drop a)).length := by
  have := dg2_le (s.data.toList.drop a)
  rw [List.length_drop, size_list] at this
  omega
theorem dg2_val {s : ByteArray} {a j : Nat} : valD ((dg2 (s.data.toList.drop a)).take j) < 100 := by
  have h := valD_lt ((dg2 (s.data.toList.drop a)).take j)
  have h2 := (dg2_le (s.data.toList.drop a)).1
  refine Nat.lt_of_lt_of_le h (Nat.le_trans (Nat.pow_le_pow_right (n := 10) (by decide) (show _ ≤ 2 by rw [List.length_take]; omega)) (by decide))

set_option maxHeartbeats 4000000 in
set_option maxRecDepth 100000 in
theorem spec_l03Count (s : ByteArray) (a : Nat) (w : World) (hs : s.size ≤ 1048576) (_ : a ≤ 1048600) (n m : Nat) (hn : valD (dg2 (s.data.toList.drop a)) = n) (hm : a + (dg2 (s.data.toList.drop a)).length = m) :
    Calls Tryd.prog 21 #[.string s, .int .i64 a] w fun e w' => e = .returned (.tuple #[.int .i64 n, .int .i64 m]) ∧ Ext w w' := by
  have HN := Lib.hid hn
  have HM := Lib.hid hm
  clear hn hm
  go_enter Tryd.func21, Tryd.ntmps21
  go_wp2_with fail
  go_loopw [1, 6, 7] (fun av nv kv wr => ∃ (j z : Nat), j ≤ 2 ∧ kv = .int .i64 j ∧ av = .int .i64 ((a + j : Nat) : Int) ∧ nv = .int .i64 z ∧ z < 100 ∧ Ext w wr ∧ Hid (j ≤ (dg2 (s.data.toList.drop a)).length) ∧ Hid (z = valD ((dg2 (s.data.toList.drop a)).take j))) (fun _ _ k _ => 2 - (intOf k).toNat)
  case atStart => exact ⟨0, 0, Nat.zero_le _, rfl, rfl, rfl, by omega, ExtC.ext, Lib.hid (Nat.zero_le _), Lib.hid rfl⟩
  case round =>
    obtain ⟨j, z, hj, rfl, rfl, rfl, hz, hx, HJ, HZ⟩ := hrel
    obtain ⟨g0, rfl⟩ := hx.grow; clear hx
    obtain ⟨p, hp⟩ : ∃ p, a + j = p := ⟨_, rfl⟩
    have HPJ := Lib.hid hp
    rw [hp]
    clear hp
    by_cases hin : j < 2 ∧ p < s.size
    · obtain ⟨hj2, hps⟩ := hin
      have HST := Lib.hid (show (isD s[p] = true → j + 1 ≤ (dg2 (s.data.toList.drop a)).length ∧ valD ((dg2 (s.data.toList.drop a)).take (j + 1)) = 10 * valD ((dg2 (s.data.toList.drop a)).take j) + (s[p].toNat - 48)) ∧ (isD s[p] = false → j = (dg2 (s.data.toList.drop a)).length) by
        have := HPJ.out
        subst this
        exact dg2_step hj2 hps HJ.out)
      obtain ⟨c, hc⟩ : ∃ c, s[p].toNat = c := ⟨_, rfl⟩
      have hc256 : c < 256 := by rw [← hc]; exact s[p].toNat_lt
      have HC := Lib.hid (show isD s[p] = decide (48 ≤ c ∧ c ≤ 57) by unfold isD; rw [hc])
      have HC2 := Lib.hid hc
      by_cases h1 : (c : Int) < 48
      · have HF := Lib.hid (HST.out.2 (by rw [HC.out]; exact decide_eq_false (by omega)))
        have HE := Lib.hid (show n = z by rw [← HN.out, HZ.out, List.take_of_length_le (by rw [← HF.out]; exact Nat.le_refl _)])
        have HE2 := Lib.hid (show m = p by rw [← HM.out, ← HF.out, HPJ.out])
        have d1 : decide (48 ≤ (c : Int)) = false := by simp; omega
        go_wp2_with fail
        refine bodyPost_ret (v := .tuple #[.int .i64 z, .int .i64 p]) (by simp [results, Tryd.results21, go_sem]) rfl ?_
        exact ⟨by rw [HE.out, HE2.out], ExtC.ext⟩
      · by_cases h2 : 57 < (c : Int)
        · have HF := Lib.hid (HST.out.2 (by rw [HC.out]; exact decide_eq_false (by omega)))
          have HE := Lib.hid (show n = z by rw [← HN.out, HZ.out, List.take_of_length_le (by rw [← HF.out]; exact Nat.le_refl _)])
          have HE2 := Lib.hid (show m = p by rw [← HM.out, ← HF.out, HPJ.out])
          go_wp2_with fail
          refine bodyPost_ret (v := .tuple #[.int .i64 z, .int .i64 p]) (by simp [results, Tryd.results21, go_sem]) rfl ?_
          exact ⟨by rw [HE.out, HE2.out], ExtC.ext⟩
        · have HS := Lib.hid (HST.out.1 (by rw [HC.out]; exact decide_eq_true (by omega)))
          have HZ2 := Lib.hid (show 10 * z + (c - 48) < 100 by
            have h3 := dg2_val (s := s) (a := a) (j := j + 1)
            rw [HS.out.2, ← HZ.out, HC2.out] at h3; exact h3)
          go_wp2_with fail
          go_roundw
          case rel => exact ⟨j + 1, 10 * z + (c - 48), by omega, by go_num, by have := HPJ.out; congr 1; omega, by congr 1; omega, HZ2.out, ExtC.ext, Lib.hid HS.out.1, Lib.hid (by rw [HS.out.2, ← HZ.out, HC2.out])⟩
          case measure => simp [intOf]; omega
    · have HF := Lib.hid (dg2_end (by rw [HPJ.out]; exact hin) HJ.out)
      have HE := Lib.hid (show n = z by rw [← HN.out, HZ.out, List.take_of_length_le (by rw [← HF.out]; exact Nat.le_refl _)])
      have HE2 := Lib.hid (show m = p by rw [← HM.out, ← HF.out, HPJ.out])
      by_cases hj2 : j < 2
      · have hps : ¬ p < s.size := fun q => hin ⟨hj2, q⟩
        clear hin
        go_wp2_with fail
        refine bodyPost_ret (v := .tuple #[.int .i64 z, .int .i64 p]) (by simp [results, Tryd.results21, go_sem]) rfl ?_
        exact ⟨by rw [HE.out, HE2.out], ExtC.ext⟩
      · clear hin
        go_wp2_with fail
        refine bodyPost_ret (v := .tuple #[.int .i64 z, .int .i64 p]) (by simp [results, Tryd.results21, go_sem]) rfl ?_
        exact ⟨by rw [HE.out, HE2.out], ExtC.ext⟩
theorem ownsRow_narrow {base g n cap : Nat} {e : TypeId} {size : Nat} {w : World} {xs : List Value} (h : w.ownsRow base e size (.slice (some ⟨g, 0, none⟩) n cap) n xs) : w.ownsRow g e size (.slice (some ⟨g, 0, none⟩) n cap) n xs := by
  obtain ⟨h1, h2⟩ := h
  refine ⟨h1, ?_⟩
  rcases h2 with h2 | ⟨g', cap', cur, e1, e2, e3, r⟩
  · exact .inl h2
  · have e1' := e1
    simp only [Value.slice.injEq, Option.some.injEq, Addr.mk.injEq, and_true, true_and] at e1
    obtain ⟨rfl, rfl⟩ := e1
    exact .inr ⟨_, _, cur, e1', Nat.le_refl _, e3, r⟩
/-- One share appended to a row, nil or not, that a function owns. -/
theorem app_pairR {ops : Array Oper} {rest : List Oper} {o : Oper} {a : Act} {Q : Exit → Act → World → Prop} {w0 w : World} {lo hi : Nat} (s x : Operand) (v : Value) (xs : SD) (ad : Addr) (c : Nat) (y z : Int)
    (hgd : o.guard = none) (ho : o.op = .call { callee := .builtin .append, args := #[s, x], argTypes := #[40, 40] })
    (hs : a.eval s = v) (hown : OwnP lo hi w v xs) (hx : a.eval x = .slice (some ad) 1 c)
    (hy0 : w.cell? (ad.add 0) = some (iv y)) (hy1 : w.cell? (ad.add 1) = some (iv z)) (hb : xs.length ≤ 1099511627776) (h0 : Ext w0 w) (hlo : w0.heap.size ≤ lo) (hlw : lo ≤ w.heap.size)
    (h : ∀ gb g' c' w', OwnP g' (g' + 1) w' (.slice (some ⟨g', 0, none⟩) (xs.length + 1) c') (xs ++ [(y, z)]) → Rng gb (gb + 1) w w' → ((lo ≤ gb ∧ gb < hi) ∨ w.heap.size ≤ gb) → ((g' = gb ∧ lo ≤ gb ∧ gb < hi) ∨ w.heap.size ≤ g') → g' < w'.heap.size → Ext w0 w' → wpList Tryd.prog ops Q rest (a.put o.dst (.slice (some ⟨g', 0, none⟩) (xs.length + 1) c')) w') : wpList Tryd.prog ops Q (o :: rest) a w := by
  obtain ⟨i0, hi0, hz0, hz1, hz2⟩ := info_parts Tryd.info_share
  have hnews : ∀ (j : Nat) (u : Value), [iv y, iv z][j]? = some u → w.cell? (ad.add j) = some u := fun j u hj => by
    have hj2 : j < 2 := by have := (List.getElem?_eq_some_iff.1 hj).1; simpa using this
    have : j = 0 ∨ j = 1 := by omega
    rcases this with rfl | rfl
    · simp at hj; subst hj; exact hy0
    · simp at hj; subst hj; exact hy1
  have h1c : ∀ u ∈ [iv y, iv z], u.oneCell' = true := fun u hu => by simp at hu; rcases hu with rfl | rfl <;> rfl
  rcases hown with ⟨rfl, rfl⟩ | ⟨g', cap', cs, rfl, h1, h2, how, hc⟩
  · refine wpList_append_own2 w hgd s x _ ho lo 44 i0 (.agg #[.int .i64 0, .int .i64 0]) 2 16 Tryd.underlying40 hi0 hz0 hz1 hz2 rfl (by decide) _ 0 [] hs (World.ownsRow_nil w lo _ _) ad 1 c [iv y, iv z] hx (by simp) hnews h1c (by unfold maxLen; omega) (by omega) hlw (fun v' w' h2' h3 h4 h5 => ?_)
    obtain ⟨g', c', rfl, hg'⟩ := h5 (by omega)
    have hlt := h2'.lt g' rfl
    have hgs : w.heap.size ≤ g' := by
      rcases hg' with e | e
      · omega
      · simp [Value.ownBlock] at e
    have h6 : w'.ownsRow g' 44 2 (.slice (some ⟨g', 0, none⟩) 1 c') 1 [iv y, iv z] := ownsRow_narrow h2'
    refine h w.heap.size g' c' w' (.inr ⟨g', c', _, rfl, Nat.le_refl _, by omega, h6, fun i hi => ?_⟩) ⟨h3.os, h3.tape, h3.output, h3.size, fun k hk _ => h3.block k hk (by simp [Value.ownBlock])⟩ (.inr (Nat.le_refl _)) (.inr hgs) hlt.2 (h0.grown h3 fun k hk => by simp [Value.ownBlock] at hk)
    have : i = 0 := by simpa using hi
    subst this
    exact ⟨rfl, rfl⟩
  · have hgl := how.lt g' rfl
    have hcl : cs.length = xs.length * 2 := how.1
    refine wpList_append_own2 w hgd s x _ ho lo 44 i0 (.agg #[.int .i64 0, .int .i64 0]) 2 16 Tryd.underlying40 hi0 hz0 hz1 hz2 rfl (by decide) _ xs.length cs hs how ad 1 c [iv y, iv z] hx (by simp) hnews h1c (by unfold maxLen; omega) (by omega) hlw (fun v' w' h2' h3 h4 h5 => ?_)
    obtain ⟨g2, c', rfl, hg'⟩ := h5 (by omega)
    have hlt := h2'.lt g2 rfl
    have h6 := ownsRow_narrow h2'
    refine h g' g2 c' w' (.inr ⟨g2, c', _, by simp, Nat.le_refl _, by omega, by simpa using h6, fun i hi => ?_⟩) (rng_of_grown h3) (.inl ⟨h1, h2⟩) ?_ hlt.2 (h0.grown h3 fun k hk => by simp [Value.ownBlock] at hk; omega)
    · by_cases hix : i < xs.length
      · rw [List.getElem?_append_left (by omega), List.getElem?_append_left (by omega), List.getElem_append_left hix]
        exact hc i hix
      · have e : i = xs.length := by simp at hi; omega
        subst e
        rw [List.getElem?_append_right (by omega), List.getElem?_append_right (by omega), List.getElem_append_right (by omega), hcl]
        simp
    · rcases hg' with e | e
      · exact .inr (by omega)
      · simp [Value.ownBlock] at e; exact .inl ⟨e.symm, h1, h2⟩

/-- A row of a list of rows, and the list when that row has turned. -/
theorem OwnR.turnRow {lo hi g n c : Nat} {w : World} {L : List SD} (h : OwnR shareKind 40 lo hi w (.slice (some ⟨g, 0, none⟩) n c) L) (m : Nat) (hm : m < L.length) (hhi : hi ≤ w.heap.size) :
    ∃ t a b, w.cell? ⟨g, m, none⟩ = some t ∧ OwnP a b w t L[m] ∧ lo ≤ a ∧ b ≤ hi ∧ g < hi ∧ w.frozen? ⟨g, m, none⟩ = false ∧ ∀ w1 gb g' t' ys, Rng gb (gb + 1) w w1 → ((a ≤ gb ∧ gb < b) ∨ w.heap.size ≤ gb) → OwnP g' (g' + 1) w1 t' ys → ((g' = gb ∧ a ≤ gb ∧ gb < b) ∨ w.heap.size ≤ g') → g' < w1.heap.size →
      w1.cell? ⟨g, m, none⟩ = some t ∧ w1.frozen? ⟨g, m, none⟩ = false ∧ InW g w1 ∧ OwnR shareKind 40 lo w1.heap.size (w1.setCell ⟨g, m, none⟩ t') (.slice (some ⟨g, 0, none⟩) n c) (L.set m ys) := by
  obtain ⟨rfl, -⟩ := h.at0
  rcases h with ⟨e, _⟩ | ⟨g0, cap, cs, a, b, e, h3, h4, how, hc, hd⟩
  · simp at e
  simp only [Value.slice.injEq, Option.some.injEq, Addr.mk.injEq, and_true, true_and] at e
  obtain ⟨rfl, rfl⟩ := e
  obtain ⟨t, q1, q2, q3, q4, q5⟩ := hc m hm
  have hl : cs.length = L.length := by rw [how.1]; omega
  refine ⟨t, a m, b m, by rw [how.cellAt m (by omega)]; exact q1, q2, q3, q4, h4, how.frozenAt m, fun w1 gb g' t' ys hr hgb hp hg' hlt => ?_⟩
  have hgg : g ≠ gb := by omega
  have how1 : w1.ownsRow lo 40 1 (.slice (some ⟨g, 0, none⟩) L.length c) L.length cs := ownsRow_rng how hr (by omega)
  have s1 := (how1.stored m t').1
  have hlw := (how1.lt g rfl)
  refine ⟨by rw [how1.cellAt m (by omega)]; exact q1, how1.frozenAt m, ⟨hlw.2⟩, .inr ⟨g, c, _, fun i => if i = m then g' else a i, fun i => if i = m then g' + 1 else b i, by simp, h3, hlw.2, by simpa using s1, fun i hi' => ?_, fun i j hij hj => ?_⟩⟩
  · have hi2 : i < L.length := by simpa using hi'
    by_cases him : i = m
    · subst him
      refine ⟨t', by simp [hl, hi2], ?_, ?_⟩
      · simp only [if_true, List.getElem_set_self]
        exact OwnP.rng hp (lo' := g) (hi' := g + 1) ((Rng.refl g (g + 1) w1).setCell (p := ⟨g, i, none⟩) (Nat.le_refl g) (Nat.lt_succ_self g) _) (by omega)
      · simp only [if_true]; omega
    · obtain ⟨u, r1, r2, r3, r4, r5⟩ := hc i hi2
      refine ⟨u, by rw [List.getElem?_set_ne (Ne.symm him)]; exact r1, ?_, ?_⟩
      · simp only [him, if_false]
        rw [List.getElem_set_ne (Ne.symm him)]
        have hdj : b i ≤ a m ∨ b m ≤ a i := by
          rcases Nat.lt_or_ge i m with q | q
          · exact hd i m q hm
          · exact (hd m i (by omega) hi2).symm
        have e1 : OwnP (a i) (b i) w1 u L[i] := OwnP.rng r2 hr (by omega)
        exact OwnP.rng e1 (lo' := g) (hi' := g + 1) ((Rng.refl g (g + 1) w1).setCell (p := ⟨g, m, none⟩) (Nat.le_refl g) (Nat.lt_succ_self g) _) (by omega)
      · simp only [him, if_false]
        have hs2 : w1.heap.size ≤ w1.heap.size := Nat.le_refl _
        have := hr.size
        omega
  · have hj2 : j < L.length := by simpa using hj
    have hi2 : i < L.length := by omega
    obtain ⟨ui, ri1, ri2, ri3, ri4, ri5⟩ := hc i hi2
    obtain ⟨uj, rj1, rj2, rj3, rj4, rj5⟩ := hc j hj2
    have hij2 := hd i j hij hj2
    by_cases him : i = m
    · subst him
      have hjm : j ≠ i := by omega
      simp only [if_true, hjm, if_false]; omega
    · by_cases hjm : j = m
      · subst hjm
        simp only [him, if_true, if_false]; omega
      · simp only [him, hjm, if_false]; exact hij2
end Go.Proofs.YthcomgnokkndgaaDoor
