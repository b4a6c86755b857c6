/- Slices of numbers that a function owns, at an offset too: appends that tell what they leave alone. -/
import Derived.Test.YthcomgnokkndgaaApp2
import Derived.Deep.MidRow
namespace Go.Proofs.Ythcomgnokkndgaa
open Go.RowKit

/-- v lies in a block of its own, from a on, below b, at whatever offset; what it could grow into is there. -/
def OwnQ (a b : Nat) (w : World) (v : Value) (xs : List Int) : Prop :=
  ∃ g off cap, v = .slice (some ⟨g, off, none⟩) xs.length cap ∧ xs.length ≤ cap ∧ a ≤ g ∧ g < b ∧ g < w.heap.size ∧ (∀ i (h : i < xs.length), w.cell? ⟨g, off + i, none⟩ = some (.int .i64 xs[i])) ∧
    ∀ j, j < cap → (w.cell? ⟨g, off + j, none⟩).isSome = true ∧ w.frozen? ⟨g, off + j, none⟩ = false
theorem OwnQ.is {a b : Nat} {w : World} {v : Value} {xs : List Int} (h : OwnQ a b w v xs) : IS w v xs := by
  obtain ⟨g, off, cap, hv, h1, h2, h3, h4, h5, h6⟩ := h
  exact ⟨g, off, cap, hv, h1, ⟨h4⟩, h5⟩
theorem OwnQ.of_own {a b : Nat} {w : World} {v : Value} {xs : List Int} (h : OwnI a b w v xs) (hn : v ≠ .slice none 0 0) : OwnQ a b w v xs := by
  rcases h with ⟨rfl, _⟩ | ⟨g, cap, rfl, h1, h2, h⟩
  · exact absurd rfl hn
  have hlt := (h.lt g rfl).2
  rcases h.2 with ⟨e, _⟩ | ⟨g', cap', cur, e, h3, h4, h5, h6, h7, h8⟩
  · cases e
  simp only [Value.slice.injEq, Option.some.injEq, Addr.mk.injEq, and_true, true_and] at e
  obtain ⟨rfl, rfl⟩ := e
  refine ⟨g, 0, cap, rfl, h5, h1, h2, hlt, fun i hi => ?_, fun j hj => ⟨?_, ?_⟩⟩
  · rw [Nat.zero_add, h.cellAt i (by omega)]; simp [hi]
  · rw [Nat.zero_add, cell_of_row w g j cur _ (0, 0) h4]
    rw [Array.getElem?_eq_getElem (by omega)]; rfl
  · exact h.frozenAt _
theorem Rng.cell {lo hi : Nat} {a b : World} (h : Rng lo hi a b) {g o : Nat} (hg : g < a.heap.size) (hr : g < lo ∨ hi ≤ g) : b.cell? ⟨g, o, none⟩ = a.cell? ⟨g, o, none⟩ := World.cell?_of_block (a := ⟨g, o, none⟩) (h.block g hg hr)
theorem Rng.frozen {lo hi : Nat} {a b : World} (h : Rng lo hi a b) {g o : Nat} (hg : g < a.heap.size) (hr : g < lo ∨ hi ≤ g) : b.frozen? ⟨g, o, none⟩ = a.frozen? ⟨g, o, none⟩ := World.frozen?_of_block (a := ⟨g, o, none⟩) (h.block g hg hr)
theorem OwnQ.rng {a b lo hi : Nat} {w w' : World} {v : Value} {xs : List Int} (h : OwnQ a b w v xs) (hx : Rng lo hi w w') (hd : b ≤ lo ∨ hi ≤ a) : OwnQ a b w' v xs := by
  obtain ⟨g, off, cap, hv, h1, h2, h3, h4, h5, h6⟩ := h
  have hr : g < lo ∨ hi ≤ g := by omega
  refine ⟨g, off, cap, hv, h1, h2, h3, Nat.lt_of_lt_of_le h4 hx.size, fun i hi => ?_, fun j hj => ?_⟩
  · rw [hx.cell h4 hr]; exact h5 i hi
  · rw [hx.cell h4 hr, hx.frozen h4 hr]; exact h6 j hj
theorem OwnQ.ext {a b : Nat} {w w' : World} {v : Value} {xs : List Int} (h : OwnQ a b w v xs) (hx : Ext w w') : OwnQ a b w' v xs :=
  h.rng (lo := b) (hi := b) (Rng.of_ext hx) (.inl (Nat.le_refl _))
theorem OwnQ.tail {a b : Nat} {w : World} {g off cap : Nat} {x : Int} {xs : List Int} (h : OwnQ a b w (.slice (some ⟨g, off, none⟩) (xs.length + 1) cap) (x :: xs)) :
    (cap = 1 → OwnQ a b w (.slice (some ⟨g, off, none⟩) xs.length 0) xs) ∧ OwnQ a b w (.slice (some ⟨g, off + 1, none⟩) xs.length (cap - 1)) xs := by
  obtain ⟨g', off', cap', hv, h1, h2, h3, h4, h5, h6⟩ := h
  simp only [Value.slice.injEq, Option.some.injEq, Addr.mk.injEq, and_true] at hv
  obtain ⟨⟨rfl, rfl⟩, -, rfl⟩ := hv
  simp only [List.length_cons] at h1
  refine ⟨fun e => ?_, g, off + 1, cap - 1, rfl, by omega, h2, h3, h4, fun i hi => ?_, fun j hj => ?_⟩
  · have : xs = [] := List.length_eq_zero_iff.1 (by omega)
    subst this
    exact ⟨g, off, 0, rfl, Nat.le_refl _, h2, h3, h4, fun i hi => absurd hi (by simp), fun j hj => absurd hj (by omega)⟩
  · have := h5 (i + 1) (by simp; omega)
    rw [show off + 1 + i = off + (i + 1) by omega, this]; rfl
  · have := h6 (j + 1) (by omega)
    rw [show off + 1 + j = off + (j + 1) by omega]; exact this

theorem heap_setCells (w : World) (g o : Nat) (vs : List Value) : ∀ k, k ≠ g → (w.setCells g o vs).heap[k]? = w.heap[k]? := by
  induction vs generalizing w o with
  | nil => intro k _; rfl
  | cons v vs ih => intro k hk; rw [World.setCells, ih _ _ k hk]; exact Below.heap_setCell _ _ _ _ hk
theorem rng_setCells (w : World) (g o : Nat) (vs : List Value) : Rng g (g + 1) w (w.setCells g o vs) ∧ (w.setCells g o vs).heap.size = w.heap.size := by
  induction vs generalizing w o with
  | nil => exact ⟨Rng.refl _ _ _, rfl⟩
  | cons v vs ih =>
    obtain ⟨h1, h2⟩ := ih (w.setCell ⟨g, o, none⟩ v) (o + 1)
    rw [World.setCells]
    exact ⟨((Rng.refl g (g + 1) w).setCell (p := ⟨g, o, none⟩) (Nat.le_refl _) (Nat.lt_succ_self _) v).trans h1, by rw [h2]; exact World.size_setCell _ _ _⟩

/-- What an append leaves: the place of its value against what was there. -/
def Near (a b : Nat) (w : World) (a' b' : Nat) (w' : World) : Prop := ((a ≤ a' ∧ b' ≤ b) ∨ (w.heap.size ≤ a' ∧ b' ≤ w'.heap.size)) ∧ Rng a b w w'

theorem run_app_q {w : World} {a b : Nat} {ty : TypeId} (v sv : Value) (xs ys : List Int) (hv : OwnQ a b w v xs ∨ (v = .slice none 0 0 ∧ xs = [] ∧ ys ≠ [])) (hR : RI w sv ys) (hb : xs.length + ys.length ≤ 1099511627776) :
    ∃ v' w' a' b', (Builtin.append_ #[24, 24] ty #[v, sv]).run Try.prog w = .ok v' w' ∧ OwnQ a' b' w' v' (xs ++ ys) ∧ Near a b w a' b' w' := by
  obtain ⟨i0, hi0, hz0, hz1, hz2⟩ := info_parts Try.info_i64
  have h1 : ∀ u ∈ ys.map iv, u.oneCell' = true := by
    intro u hu; obtain ⟨n, _, rfl⟩ := List.mem_map.1 hu; rfl
  have made : ∀ (v' : Value) (w' : World) (row : Option Nat) (n : Nat) (zs : List Int), n = zs.length → w'.ownsRow w.heap.size 2 1 v' n (zs.map iv) → v' ≠ .slice none 0 0 → w.grownBy w' row → (∀ k, row = some k → a ≤ k ∧ k < b) → OwnQ w.heap.size w'.heap.size w' v' zs ∧ Near a b w w.heap.size w'.heap.size w' := by
    intro v' w' row n zs hn h2 hne h3 hrow
    subst hn
    exact ⟨OwnQ.of_own (OwnI.of_row h2) hne, .inr ⟨Nat.le_refl _, Nat.le_refl _⟩, h3.os, h3.tape, h3.output, h3.size, fun k hk hr => h3.block k hk (fun e => by have := hrow k e.symm; omega)⟩
  by_cases hm : 0 < ys.length
  · obtain ⟨sb, so, sc, rfl, -, hb', hc⟩ := hR.is hm
    have hy : ∀ j u, (ys.map iv)[j]? = some u → w.cell? ((⟨sb, so, none⟩ : Addr).add j) = some u := by
      intro j u hj
      have hj' : j < ys.length := by have := (List.getElem?_eq_some_iff.1 hj).1; simpa using this
      rw [add_plain', hc j hj']; simp [hj'] at hj; exact congrArg some hj
    rcases hv with ⟨g, off, cap, rfl, q1, q2, q3, q4, q5, q6⟩ | ⟨rfl, rfl, -⟩
    · by_cases hroom : xs.length + ys.length ≤ cap
      · have hr := run_append_room_cells (P := Try.prog) w 24 ty 2 i0 Try.underlying24 hi0 g off xs.length cap ⟨sb, so, none⟩ ys.length sc (ys.map iv) (by rw [hz1]; simp) hy h1 hroom
          (fun j hj => by rw [hz1, Nat.mul_one, Nat.add_assoc]; exact (q6 _ (by simp at hj; omega)).1) (fun j hj => by rw [hz1, Nat.mul_one, Nat.add_assoc]; exact (q6 _ (by simp at hj; omega)).2)
        rw [hz1, Nat.mul_one] at hr
        obtain ⟨k1, k2⟩ := rng_setCells w g (off + xs.length) (ys.map iv)
        refine ⟨_, _, a, b, hr, ⟨g, off, cap, by rw [List.length_append], by rw [List.length_append]; exact hroom, q2, q3, by rw [k2]; exact q4, fun i hi => ?_, fun j hj => ⟨?_, ?_⟩⟩, .inl ⟨Nat.le_refl _, Nat.le_refl _⟩, k1.mono q2 q3⟩
        · by_cases hil : i < xs.length
          · rw [World.cell?_setCells_out g _ _ _ _ (fun _ _ => .inl (by simp; omega)), q5 i hil, List.getElem_append_left hil]
          · have hi2 : i - xs.length < ys.length := by simp at hi; omega
            have := World.cell?_setCells_in g (ys.map iv) (off + xs.length) w (fun j hj => by rw [Nat.add_assoc]; exact (q6 _ (by simp at hj; omega)).1) (i - xs.length) (by simpa using hi2)
            rw [show off + xs.length + (i - xs.length) = off + i by omega] at this
            rw [this, List.getElem_append_right (by omega)]; simp
        · exact World.isSome_setCells g _ _ _ _ (q6 j hj).1
        · rw [World.frozen?_setCells]; exact (q6 j hj).2
      · obtain ⟨v', w', hr, h2, h3⟩ := run_append_arg_grows (P := Try.prog) w 24 ty 2 i0 (.int .i64 0) 1 8 Try.underlying24 hi0 hz0 hz1 hz2 rfl (by decide) ⟨g, off, none⟩ xs.length cap (xs.map iv) (by simp) (fun j u hj => by
            have hj' : j < xs.length := by have := (List.getElem?_eq_some_iff.1 hj).1; simpa using this
            rw [add_plain', q5 j hj']; simp [hj'] at hj; exact congrArg some hj) ⟨sb, so, none⟩ ys.length sc (ys.map iv) (by simp) hy (by omega) (by unfold maxLen; omega) (by omega)
        have hne : v' ≠ .slice none 0 0 := by
          rintro rfl
          have := h2.2
          rcases this with ⟨_, e⟩ | ⟨g', cap', cur, e, _⟩
          · omega
          · cases e
        obtain ⟨m1, m2⟩ := made v' w' none _ (xs ++ ys) (by rw [List.length_append]) (by rw [List.map_append]; exact h2) hne h3 (fun k e => by cases e)
        exact ⟨v', w', _, _, hr, m1, m2⟩
    · obtain ⟨v', w', hr, h2, h3, h4⟩ := run_append_own (P := Try.prog) w w.heap.size 24 ty 2 i0 (.int .i64 0) 1 8 Try.underlying24 hi0 hz0 hz1 hz2 rfl (by decide) (.slice none 0 0) 0 [] (World.ownsRow_nil w _ _ _) ⟨sb, so, none⟩ ys.length sc (ys.map iv) (by simp) hy h1 (by unfold maxLen; omega) (by omega) (Nat.le_refl _)
      have hne : v' ≠ .slice none 0 0 := fun e => by have := (h4.1 e).2; omega
      rw [List.nil_append] at h2
      obtain ⟨m1, m2⟩ := made v' w' none (0 + ys.length) ys (by omega) h2 hne (by simpa [Value.ownBlock] using h3) (fun k e => by cases e)
      exact ⟨v', w', _, _, hr, m1, m2⟩
  · have hys : ys = [] := List.length_eq_zero_iff.1 (by omega)
    subst hys
    rcases hv with hq | ⟨_, _, h⟩
    · have hq' := hq
      obtain ⟨g, off, cap, rfl, q1, q2, q3, q4, q5, q6⟩ := hq
      have hsv : ∃ p c, sv = .slice p 0 c := by
        obtain ⟨p, c, e, -⟩ := hR.form; exact ⟨p, c, e⟩
      obtain ⟨p, c, rfl⟩ := hsv
      have hr : (Builtin.append_ #[24, 24] ty #[.slice (some ⟨g, off, none⟩) xs.length cap, .slice p 0 c]).run Try.prog w = .ok (.slice (some ⟨g, off, none⟩) xs.length cap) w := by
        cases p
        · simp [Builtin.append_, run_underlying Try.underlying24, sizeOf, typeInfo, hi0, Builtin.lenOf, Builtin.firstCells, q1, storeCells]
        · simp [Builtin.append_, run_underlying Try.underlying24, sizeOf, typeInfo, hi0, Builtin.lenOf, Builtin.firstCells, q1, storeCells, loadCells, loadCellsFrom]
      exact ⟨_, w, a, b, hr, by rw [List.append_nil]; exact hq', .inl ⟨Nat.le_refl _, Nat.le_refl _⟩, Rng.refl _ _ _⟩
    · exact absurd rfl h

theorem app_q {ops : Array Oper} {rest : List Oper} {o : Oper} {a : Act} {Q : Exit → Act → World → Prop} {w : World} {lo hi : Nat} (s x : Operand) (v sv : Value) (xs ys : List Int)
    (hgd : o.guard = none) (ho : o.op = .call { callee := .builtin .append, args := #[s, x], argTypes := #[24, 24] })
    (hs : a.eval s = v) (hv : OwnQ lo hi w v xs ∨ (v = .slice none 0 0 ∧ xs = [] ∧ ys ≠ [])) (hx : a.eval x = sv) (hR : RI w sv ys) (hb : xs.length + ys.length ≤ 1099511627776)
    (h : ∀ v' lo' hi' w', OwnQ lo' hi' w' v' (xs ++ ys) → Near lo hi w lo' hi' w' → wpList Try.prog ops Q rest (a.put o.dst v') w') : wpList Try.prog ops Q (o :: rest) a w := by
  refine wpList_plain hgd fun K hK => ?_
  obtain ⟨v', w', a', b', hr, h2, h3⟩ := run_app_q (ty := o.type) v sv xs ys hv hR hb
  unfold Oper.wp execOp
  simp only [ho, resolve, invoke, builtin, Sem.run_bind, Sem.run_pure, Result.andThen_ok, List.map_toArray, List.map_cons, List.map_nil, hs, hx, hr]
  exact hK _ _ (h v' a' b' w' h2 h3)

/-- The same for a list that lies at the head of its block, and is one still. -/
theorem app_o {ops : Array Oper} {rest : List Oper} {o : Oper} {a : Act} {Q : Exit → Act → World → Prop} {w : World} {lo hi : Nat} (s x : Operand) (v sv : Value) (xs ys : List Int)
    (hgd : o.guard = none) (ho : o.op = .call { callee := .builtin .append, args := #[s, x], argTypes := #[24, 24] })
    (hs : a.eval s = v) (hv : OwnI lo hi w v xs) (hn : v ≠ .slice none 0 0) (hx : a.eval x = sv) (hR : RI w sv ys) (hm : 0 < ys.length) (hb : xs.length + ys.length ≤ 1099511627776)
    (h : ∀ g c lo' hi' w', OwnI lo' hi' w' (.slice (some ⟨g, 0, none⟩) (xs.length + ys.length) c) (xs ++ ys) → Near lo hi w lo' hi' w' → wpList Try.prog ops Q rest (a.put o.dst (.slice (some ⟨g, 0, none⟩) (xs.length + ys.length) c)) w') : wpList Try.prog ops Q (o :: rest) a w := by
  obtain ⟨i0, hi0, hz0, hz1, hz2⟩ := info_parts Try.info_i64
  obtain ⟨sb, so, sc, rfl, -, hb', hc⟩ := hR.is hm
  have hvb := hv.block
  have hlw : lo ≤ w.heap.size := by
    rcases hv with ⟨rfl, _⟩ | ⟨g, cap, rfl, h1, h2, h⟩
    · exact absurd rfl hn
    · have := (h.lt g rfl).2; omega
  refine wpList_append_own2 w hgd s x _ ho lo 2 i0 (.int .i64 0) 1 8 Try.underlying24 hi0 hz0 hz1 hz2 rfl (by decide) v xs.length (xs.map iv) hs hv.row ⟨sb, so, none⟩ ys.length sc (ys.map iv) hx (by simp) (fun j u hj => ?_) (fun u hu => ?_) (by unfold maxLen; omega) (by omega) hlw (fun v' w' h2 h3 h4 h5 => ?_)
  · have hj' : j < ys.length := by have := (List.getElem?_eq_some_iff.1 hj).1; simpa using this
    rw [add_plain', hc j hj']; simp [hj'] at hj; exact congrArg some hj
  · obtain ⟨n, _, rfl⟩ := List.mem_map.1 hu; rfl
  · obtain ⟨g', c', rfl, hw⟩ := h5 hm
    have hrow : w'.ownsRow g' 2 1 (.slice (some ⟨g', 0, none⟩) (xs.length + ys.length) c') (xs.length + ys.length) ((xs ++ ys).map iv) := by
      obtain ⟨r1, r2⟩ := h2
      refine ⟨by rw [List.map_append]; exact r1, ?_⟩
      rcases r2 with ⟨e, _⟩ | ⟨g0, c0, cur, e, r3, r4⟩
      · cases e
      · simp only [Value.slice.injEq, Option.some.injEq, Addr.mk.injEq, and_true, true_and] at e
        obtain ⟨rfl, rfl⟩ := e
        exact .inr ⟨_, _, cur, rfl, Nat.le_refl _, by rw [List.map_append]; exact r4⟩
    have hlt := (h2.lt g' rfl).2
    refine h g' c' g' (g' + 1) w' (.inr ⟨g', c', by rw [List.length_append], Nat.le_refl _, Nat.lt_succ_self _, by rw [List.length_append]; exact hrow⟩) ⟨?_, h3.os, h3.tape, h3.output, h3.size, fun k hk hr => h3.block k hk (fun e => by have := hvb k e.symm; omega)⟩
    rcases hw with e | e
    · right; omega
    · left; have := hvb g' e; omega
end Go.Proofs.Ythcomgnokkndgaa
