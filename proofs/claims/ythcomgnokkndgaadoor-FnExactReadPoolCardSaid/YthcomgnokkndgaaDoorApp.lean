/- Appending to what a function owns: one law for a list of numbers, one for a list of rows. -/
import Derived.Test.YthcomgnokkndgaaDoorNest
namespace Go.Proofs.YthcomgnokkndgaaDoor
open Go.RowKit

section
variable {P : Program} (w : World)
/-- Where the value of an append lies: in its old block, or in the newest one. -/
theorem run_append_block (base : Nat) (t ty e : TypeId) (i : TypeInfo) (z : Value) (size bytes : Nat) (ht : P.underlying t = some (.slice e)) (hi : P.info? e = some i) (hz : i.zero = some z)
    (hsize : i.size = size) (hby : i.bytes = bytes)
    (v : Value) (n : Nat) (xs : List Value) (hown : w.ownsRow base e size v n xs)
    (a : Addr) (m c : Nat) (news : List Value) (hl : news.length = m * size) (hnews : ∀ j u, news[j]? = some u → w.cell? (a.add j) = some u) (h1 : ∀ u ∈ news, u.oneCell' = true)
    (h63 : n + m ≤ maxLen) (hbytes : (n + m) * bytes ≤ 140737488355328) (v' : Value) (w' : World)
    (hr : (Builtin.append_ #[t, t] ty #[v, .slice (some a) m c]).run P w = .ok v' w') (hm : 0 < m) : ∃ g' c', v' = .slice (some ⟨g', 0, none⟩) (n + m) c' ∧ (g' = w.heap.size ∨ v.ownBlock = some g') := by
  subst hsize
  subst hby
  have hsmall : n + m ≤ 9223372036854775807 := by simp only [maxLen] at h63; omega
  rcases hown.2 with ⟨rfl, rfl⟩ | ⟨g, cap, cur, rfl, hbg, hg, hnc, hcm, hcs, htake⟩
  · have h := run_append_nil (P := P) w t ty e i z ht hi hz a m c news hl hnews (by omega) (by omega) (by have hb := hbytes; simp only [Nat.zero_add] at hb; omega)
    rw [hr] at h
    simp only [Result.ok.injEq] at h
    obtain ⟨rfl, -⟩ := h
    exact ⟨_, _, by rw [Nat.zero_add], .inl rfl⟩
  · by_cases hroom : n + m ≤ cap
    · have hfit : n * i.size + news.length ≤ cur.size := by rw [hl, hcs, ← Nat.add_mul]; exact Nat.mul_le_mul_right _ hroom
      have h := run_append_room (P := P) w t ty e i ht hi g n cap cur hg a m c news hl hnews h1 hroom hfit
      rw [hr] at h
      simp only [Result.ok.injEq] at h
      obtain ⟨rfl, -⟩ := h
      exact ⟨_, _, rfl, .inr rfl⟩
    · have holds : ∀ j u, xs[j]? = some u → w.cell? ((⟨g, 0, none⟩ : Addr).add j) = some u := hown.cells (g := g) rfl
      have h := run_append_grow (P := P) w t ty e i z ht hi hz ⟨g, 0, none⟩ n cap xs hown.1 holds a m c news hl hnews (by omega) (by omega) (growslice_fits (by omega) hbytes)
      rw [hr] at h
      simp only [Result.ok.injEq] at h
      obtain ⟨rfl, -⟩ := h
      exact ⟨_, _, rfl, .inl rfl⟩

/-- The append as the walk meets it, with the place of its value. -/
theorem wpList_append_own2 {ops : Array Oper} {rest : List Oper} {o : Oper} {a : Act} {Q : Exit → Act → World → Prop} (hgd : o.guard = none) (s x : Operand) (t : TypeId)
    (ho : o.op = .call { callee := .builtin .append, args := #[s, x], argTypes := #[t, t] })
    (base : Nat) (e : TypeId) (i : TypeInfo) (z : Value) (size bytes : Nat) (ht : P.underlying t = some (.slice e)) (hi : P.info? e = some i) (hz : i.zero = some z)
    (hsize : i.size = size) (hby : i.bytes = bytes) (hzs : z.cells.size = size) (hsz : 0 < size)
    (v : Value) (n : Nat) (xs : List Value) (hs : a.eval s = v) (hown : w.ownsRow base e size v n xs)
    (ad : Addr) (m c : Nat) (news : List Value) (hx : a.eval x = .slice (some ad) m c) (hl : news.length = m * size) (hnews : ∀ j u, news[j]? = some u → w.cell? (ad.add j) = some u) (h1 : ∀ u ∈ news, u.oneCell' = true)
    (h63 : n + m ≤ maxLen) (hbytes : (n + m) * bytes ≤ 140737488355328) (hbase : base ≤ w.heap.size)
    (h : ∀ v' w', w'.ownsRow base e size v' (n + m) (xs ++ news) → w.grownBy w' v.ownBlock → (v' = .slice none 0 0 ↔ v = .slice none 0 0 ∧ m = 0) →
      (0 < m → ∃ g' c', v' = .slice (some ⟨g', 0, none⟩) (n + m) c' ∧ (g' = w.heap.size ∨ v.ownBlock = some g')) → wpList P ops Q rest (a.put o.dst v') w') : wpList P ops Q (o :: rest) a w := by
  refine wpList_plain hgd fun K hK => ?_
  obtain ⟨v', w', hr, h2, h3, h4⟩ := run_append_own (P := P) w base t o.type e i z size bytes ht hi hz hsize hby hzs hsz v n xs hown ad m c news hl hnews h1 h63 hbytes hbase
  have h5 := fun hm => run_append_block (P := P) w base t o.type e i z size bytes ht hi hz hsize hby v n xs hown ad m c news hl hnews h1 h63 hbytes v' w' hr hm
  unfold Oper.wp execOp
  simp only [ho, resolve, invoke, builtin, Sem.run_bind, Sem.run_pure, Result.andThen_ok, List.map_toArray, List.map_cons, List.map_nil, hs, hx, hr]
  exact hK _ _ (h v' w' h2 h3 h4 h5)
end

theorem Ext.grown {a w w' : World} {row : Option Nat} (h : Ext a w) (hg : w.grownBy w' row) (hr : ∀ k, row = some k → a.heap.size ≤ k) : Ext a w' := Below.grown h hg h.size hr
theorem OwnI.row {lo hi : Nat} {w : World} {v : Value} {xs : List Int} (h : OwnI lo hi w v xs) : w.ownsRow lo 2 1 v xs.length (xs.map iv) := by
  rcases h with ⟨rfl, rfl⟩ | ⟨g, cap, rfl, _, _, h⟩
  · exact World.ownsRow_nil w lo _ _
  · exact h
theorem OwnI.of_row {lo : Nat} {w : World} {v : Value} {xs : List Int} (h : w.ownsRow lo 2 1 v xs.length (xs.map iv)) : OwnI lo w.heap.size w v xs := by
  have h' := h
  rcases h.2 with ⟨rfl, hn⟩ | ⟨g, cap, cur, rfl, h1, _⟩
  · exact .inl ⟨rfl, List.length_eq_zero_iff.1 hn⟩
  · exact .inr ⟨g, cap, rfl, h1, (h.lt g rfl).2, h'⟩
theorem OwnI.block {lo hi : Nat} {w : World} {v : Value} {xs : List Int} (h : OwnI lo hi w v xs) : ∀ k, v.ownBlock = some k → lo ≤ k ∧ k < hi := by
  rcases h with ⟨rfl, rfl⟩ | ⟨g, cap, rfl, h1, h2, h⟩
  · intro k hk; simp [Value.ownBlock] at hk
  · intro k hk; simp [Value.ownBlock] at hk; subst hk; exact ⟨h1, h2⟩

/-- Numbers appended to a list of numbers that a function owns. -/
theorem app_int {ops : Array Oper} {rest : List Oper} {o : Oper} {a : Act} {Q : Exit → Act → World → Prop} {w0 w : World} {lo hi : Nat} (s x : Operand) (v : Value) (xs : List Int) (ad : Addr) (c : Nat) (ys : List Int)
    (hgd : o.guard = none) (ho : o.op = .call { callee := .builtin .append, args := #[s, x], argTypes := #[58, 58] })
    (hs : a.eval s = v) (hown : OwnI lo hi w v xs) (hx : a.eval x = .slice (some ad) ys.length c)
    (hy : ∀ j (h : j < ys.length), w.cell? (ad.add j) = some (iv ys[j])) (hb : xs.length + ys.length ≤ 1099511627776) (h0 : Ext w0 w) (hlo : w0.heap.size ≤ lo) (hl : lo ≤ w.heap.size) (hm : 0 < ys.length)
    (h : ∀ g' c' w', OwnI lo w'.heap.size w' (.slice (some ⟨g', 0, none⟩) (xs ++ ys).length c') (xs ++ ys) → Ext w0 w' → wpList Tryd.prog ops Q rest (a.put o.dst (.slice (some ⟨g', 0, none⟩) (xs.length + ys.length) c')) w') : wpList Tryd.prog ops Q (o :: rest) a w := by
  obtain ⟨i0, hi0, hz0, hz1, hz2⟩ := info_parts Tryd.info_i64
  refine wpList_append_own2 w hgd s x _ ho lo 2 i0 (.int .i64 0) 1 8 Tryd.underlying58 hi0 hz0 hz1 hz2 rfl (by decide) v xs.length (xs.map iv) hs hown.row ad ys.length c (ys.map iv) hx (by simp) (fun j u hj => ?_) (fun u hu => ?_) (by unfold maxLen; omega) (by omega) hl (fun v' w' h2 h3 h4 h5 => ?_)
  · have hj' : j < ys.length := by have := (List.getElem?_eq_some_iff.1 hj).1; simpa using this
    rw [hy j hj']; simp [hj'] at hj; exact congrArg some hj
  · obtain ⟨n, _, rfl⟩ := List.mem_map.1 hu; rfl
  · obtain ⟨g', c', rfl, -⟩ := h5 hm
    refine h g' c' w' ?_ (h0.grown h3 fun k hk => by have := (hown.block k hk).1; omega)
    refine OwnI.of_row ?_
    rw [List.length_append, List.map_append]
    exact h2

section
variable {α : Type} {K : Kind α}
/-- A list of rows in the making: what it is made of lies behind lo. -/
theorem OwnR.row {T : TypeId} {lo hi : Nat} {w : World} {v : Value} {L : List α} (h : OwnR K T lo hi w v L) : ∃ cs : List Value, w.ownsRow lo T 1 v L.length cs := by
  rcases h with ⟨rfl, rfl⟩ | ⟨g, cap, cs, a, b, rfl, _, _, how, _⟩
  · exact ⟨[], World.ownsRow_nil w lo _ _⟩
  · exact ⟨cs, how⟩
theorem OwnR.made {T : TypeId} {lo : Nat} {w : World} {g c : Nat} (h : w.ownsRow lo T 1 (.slice (some ⟨g, 0, none⟩) 0 c) 0 []) : OwnR K T lo w.heap.size w (.slice (some ⟨g, 0, none⟩) 0 c) [] :=
  .inr ⟨g, c, [], fun _ => 0, fun _ => 0, rfl, (h.lt g rfl).1, (h.lt g rfl).2, h, fun i hi => absurd hi (by simp), fun i j _ hj => absurd hj (by simp)⟩
/-- One row more: the row lies behind mid, all that was there before it. -/
theorem OwnR.snoc {T : TypeId} {lo mid hi : Nat} {w w' : World} {g c g' c' : Nat} {t : Value} {x : α} {cs : List Value} {L : List α} (hmid : lo ≤ mid)
    (h : OwnR K T lo mid w (.slice (some ⟨g, 0, none⟩) L.length c) L) (ht : K.Own mid hi w t x) (hhi : hi ≤ w.heap.size) (hmw : mid ≤ w.heap.size)
    (hcs : w.ownsRow lo T 1 (.slice (some ⟨g, 0, none⟩) L.length c) L.length cs) (h2 : w'.ownsRow lo T 1 (.slice (some ⟨g', 0, none⟩) (L.length + 1) c') (L.length + 1) (cs ++ [t]))
    (hg : w.grownBy w' (some g)) (hw : g' = w.heap.size ∨ g = g') : OwnR K T lo w'.heap.size w' (.slice (some ⟨g', 0, none⟩) (L ++ [x]).length c') (L ++ [x]) := by
  rcases h with ⟨e, _⟩ | ⟨g0, cap, cs0, a, b, e, h3, h4, how, hc, hd⟩
  · simp at e
  simp only [Value.slice.injEq, Option.some.injEq, Addr.mk.injEq, and_true, true_and] at e
  obtain ⟨rfl, rfl⟩ := e
  have hsz := hg.size
  have hcc : cs0 = cs := by
    apply List.ext_getElem?
    intro j
    by_cases hj : j < L.length
    · have e1 := how.cellAt j (by omega)
      have e2 := hcs.cellAt j (by omega)
      rw [← e1, ← e2]
    · have l1 : cs0.length = L.length := by rw [how.1]; omega
      have l2 : cs.length = L.length := by rw [hcs.1]; omega
      rw [List.getElem?_eq_none (by omega), List.getElem?_eq_none (by omega)]
  subst hcc
  have l1 : cs0.length = L.length := by rw [how.1]; omega
  have hlt' := (h2.lt g' rfl)
  have hr : Rng g (g + 1) w w' := ⟨hg.os, hg.tape, hg.output, hg.size, fun k hk hne => hg.block k hk (by intro e; simp at e; omega)⟩
  refine .inr ⟨g', c', cs0 ++ [t], fun i => if i < L.length then a i else mid, fun i => if i < L.length then b i else hi, rfl, hlt'.1, hlt'.2, by rw [List.length_append]; exact h2, fun i hi' => ?_, fun i j hij hj => ?_⟩
  · by_cases hil : i < L.length
    · obtain ⟨u, q1, q2, q3, q4, q5⟩ := hc i hil
      simp only [hil, if_true]
      refine ⟨u, by rw [List.getElem?_append_left (by omega)]; exact q1, ?_, q3, by omega, by omega⟩
      rw [List.getElem_append_left hil]
      exact K.own_rng q2 hr (by omega)
    · have : i = L.length := by simp at hi'; omega
      subst this
      simp only [Nat.lt_irrefl, if_false]
      refine ⟨t, by rw [List.getElem?_append_right (by omega)]; simp [l1], ?_, hmid, by omega, by omega⟩
      rw [List.getElem_append_right (Nat.le_refl _)]
      simp only [Nat.sub_self, List.getElem_cons_zero]
      exact K.own_rng ht hr (by omega)
  · simp only [List.length_append, List.length_cons, List.length_nil] at hj
    by_cases hjl : j < L.length
    · simp only [show i < L.length by omega, hjl, if_true]; exact hd i j hij hjl
    · have : j = L.length := by omega
      subst this
      obtain ⟨u, q1, q2, q3, q4, q5⟩ := hc i hij
      simp only [hij, if_true, Nat.lt_irrefl, if_false]
      left; exact q4
end

theorem Tryd.info_rowApp : (Tryd.prog.info? 58).map (fun i => (i.zero, i.size, i.bytes)) = some (some (.slice none 0 0), 1, 24) := by kernel_rfl
/-- A row of numbers appended to a list of rows that a function owns. -/
theorem app_row {ops : Array Oper} {rest : List Oper} {o : Oper} {a : Act} {Q : Exit → Act → World → Prop} {w0 w : World} {lo mid hi : Nat} (s x : Operand) (g cap : Nat) (L : List (List Int)) (ad : Addr) (c : Nat) (t : Value) (ys : List Int)
    (hgd : o.guard = none) (ho : o.op = .call { callee := .builtin .append, args := #[s, x], argTypes := #[174, 174] })
    (hs : a.eval s = .slice (some ⟨g, 0, none⟩) L.length cap) (hown : OwnR intKind 58 lo mid w (.slice (some ⟨g, 0, none⟩) L.length cap) L) (hx : a.eval x = .slice (some ad) 1 c)
    (hy : w.cell? (ad.add 0) = some t) (ht1 : t.oneCell' = true) (ht : OwnI mid hi w t ys) (hmid : lo ≤ mid) (hhi : hi ≤ w.heap.size) (hmw : mid ≤ w.heap.size) (hb : L.length ≤ 1099511627776) (h0 : Ext w0 w) (hlo : w0.heap.size ≤ lo)
    (h : ∀ g' c' w', OwnR intKind 58 lo w'.heap.size w' (.slice (some ⟨g', 0, none⟩) (L ++ [ys]).length c') (L ++ [ys]) → Ext w0 w' → wpList Tryd.prog ops Q rest (a.put o.dst (.slice (some ⟨g', 0, none⟩) (L.length + 1) c')) w') : wpList Tryd.prog ops Q (o :: rest) a w := by
  obtain ⟨i0, hi0, hz0, hz1, hz2⟩ := info_parts Tryd.info_rowApp
  obtain ⟨cs, hcs⟩ := hown.row
  have hgl := hcs.lt g rfl
  refine wpList_append_own2 w hgd s x _ ho lo 58 i0 (.slice none 0 0) 1 24 Tryd.underlying174 hi0 hz0 hz1 hz2 rfl (by decide) _ L.length cs hs hcs ad 1 c [t] hx (by simp) (fun j u hj => ?_) (fun u hu => ?_) (by unfold maxLen; omega) (by omega) (by omega) (fun v' w' h2 h3 h4 h5 => ?_)
  · have : j = 0 := by have := (List.getElem?_eq_some_iff.1 hj).1; simpa using this
    subst this
    simp at hj; subst hj; exact hy
  · simp at hu; subst hu; exact ht1
  · obtain ⟨g', c', rfl, hw⟩ := h5 (by omega)
    refine h g' c' w' ?_ (h0.grown h3 fun k hk => by simp [Value.ownBlock] at hk; omega)
    exact OwnR.snoc hmid hown ht hhi hmw hcs h2 h3 (by simpa [Value.ownBlock] using hw)
end Go.Proofs.YthcomgnokkndgaaDoor
