/- Appending a slice that reads to a list that a function owns; copies. -/
import Derived.Test.YthcomgnokkndgaaDoorApp
import Derived.Test.YthcomgnokkndgaaDoorMk
import Derived.Laws.OwnMore
namespace Go.Proofs.YthcomgnokkndgaaDoor
open Go.RowKit

section
variable {P : Program} {w : World}
theorem run_append_zero (base : Nat) (t ty e : TypeId) (i : TypeInfo) (size : Nat) (ht : P.underlying t = some (.slice e)) (hi : P.info? e = some i)
    (v : Value) (n : Nat) (xs : List Value) (hown : w.ownsRow base e size v n xs) (p : Option Addr) (c : Nat) :
    (Builtin.append_ #[t, t] ty #[v, .slice p 0 c]).run P w = .ok v w := by
  rcases hown.2 with ⟨rfl, rfl⟩ | ⟨g, cap, cur, rfl, _, _, hnc, _⟩
  · cases p
    · simp [Builtin.append_, run_underlying ht, sizeOf, typeInfo, hi, Builtin.lenOf, Builtin.firstCells]
    · simp [Builtin.append_, run_underlying ht, sizeOf, typeInfo, hi, Builtin.lenOf, Builtin.firstCells, loadCells, loadCellsFrom]
  · cases p
    · simp [Builtin.append_, run_underlying ht, sizeOf, typeInfo, hi, Builtin.lenOf, Builtin.firstCells, hnc, storeCells]
    · simp [Builtin.append_, run_underlying ht, sizeOf, typeInfo, hi, Builtin.lenOf, Builtin.firstCells, hnc, storeCells, loadCells, loadCellsFrom]
end

theorem add_plain' (b off j : Nat) : (⟨b, off, none⟩ : Addr).add j = ⟨b, off + j, none⟩ := by unfold Addr.add; split <;> simp_all

/-- A slice of numbers that reads, appended to a list of numbers that a function owns. -/
theorem run_app_ri {w0 w : World} {lo hi : Nat} {ty : TypeId} (v sv : Value) (xs ys : List Int) (hown : OwnI lo hi w v xs) (hR : RI w sv ys) (hb : xs.length + ys.length ≤ 1099511627776) (h0 : Ext w0 w) (hlo : w0.heap.size ≤ lo) (hl : lo ≤ w.heap.size) :
    ∃ v' w', (Builtin.append_ #[58, 58] ty #[v, sv]).run Tryd.prog w = .ok v' w' ∧ OwnI lo w'.heap.size w' v' (xs ++ ys) ∧ Ext w0 w' ∧ (v ≠ .slice none 0 0 → ∃ g c, v' = .slice (some ⟨g, 0, none⟩) (xs ++ ys).length c) ∧ w.grownBy w' v.ownBlock := by
  obtain ⟨i0, hi0, hz0, hz1, hz2⟩ := info_parts Tryd.info_i64
  have zero : ∀ p c, sv = .slice p 0 c → ys = [] → ∃ v' w', (Builtin.append_ #[58, 58] ty #[v, sv]).run Tryd.prog w = .ok v' w' ∧ OwnI lo w'.heap.size w' v' (xs ++ ys) ∧ Ext w0 w' ∧ (v ≠ .slice none 0 0 → ∃ g c, v' = .slice (some ⟨g, 0, none⟩) (xs ++ ys).length c) ∧ w.grownBy w' v.ownBlock := by
    rintro p c rfl rfl
    refine ⟨v, w, run_append_zero lo _ ty 2 i0 1 Tryd.underlying58 hi0 v xs.length (xs.map iv) hown.row p c, by rw [List.append_nil]; exact OwnI.of_row hown.row, h0, fun hn => ?_, ⟨rfl, rfl, rfl, Nat.le_refl _, fun _ _ _ => rfl⟩⟩
    rw [List.append_nil]
    exact hown.form hn
  by_cases hm : 0 < ys.length
  · obtain ⟨b, off, cap, rfl, -, hb', hc⟩ := hR.is hm
    have hy : ∀ j u, (ys.map iv)[j]? = some u → w.cell? ((⟨b, off, none⟩ : Addr).add j) = some u := by
      intro j u hj
      have hj' : j < ys.length := by have := (List.getElem?_eq_some_iff.1 hj).1; simpa using this
      rw [add_plain', hc j hj']; simp [hj'] at hj; exact congrArg some hj
    have h1 : ∀ u ∈ ys.map iv, u.oneCell' = true := by
      intro u hu; obtain ⟨n, _, rfl⟩ := List.mem_map.1 hu; rfl
    obtain ⟨v', w', hr, h2, h3, h4⟩ := run_append_own (P := Tryd.prog) w lo 58 ty 2 i0 (.int .i64 0) 1 8 Tryd.underlying58 hi0 hz0 hz1 hz2 rfl (by decide) v xs.length (xs.map iv) hown.row ⟨b, off, none⟩ ys.length cap (ys.map iv) (by simp) hy h1 (by unfold maxLen; omega) (by omega) hl
    obtain ⟨g', c', rfl, -⟩ := run_append_block (P := Tryd.prog) w lo 58 ty 2 i0 (.int .i64 0) 1 8 Tryd.underlying58 hi0 hz0 hz1 hz2 v xs.length (xs.map iv) hown.row ⟨b, off, none⟩ ys.length cap (ys.map iv) (by simp) hy h1 (by unfold maxLen; omega) (by omega) _ _ hr hm
    refine ⟨_, w', hr, ?_, h0.grown h3 fun k hk => by have := (hown.block k hk).1; omega, fun _ => ⟨g', c', by rw [List.length_append]⟩, h3⟩
    refine OwnI.of_row ?_
    rw [List.length_append, List.map_append]
    exact h2
  · rcases hR with ⟨b, off, cap, rfl, -, hb', hc⟩ | ⟨rfl, p, cap, rfl⟩
    · have : ys = [] := List.length_eq_zero_iff.1 (by omega)
      subst this
      exact zero _ _ rfl rfl
    · exact zero _ _ rfl rfl

theorem app_ri {ops : Array Oper} {rest : List Oper} {o : Oper} {a : Act} {Q : Exit → Act → World → Prop} {w0 w : World} {lo hi : Nat} (s x : Operand) (v sv : Value) (xs ys : List Int)
    (hgd : o.guard = none) (ho : o.op = .call { callee := .builtin .append, args := #[s, x], argTypes := #[58, 58] })
    (hs : a.eval s = v) (hown : OwnI lo hi w v xs) (hx : a.eval x = sv) (hR : RI w sv ys) (hb : xs.length + ys.length ≤ 1099511627776) (h0 : Ext w0 w) (hlo : w0.heap.size ≤ lo) (hl : lo ≤ w.heap.size) (hv : v ≠ .slice none 0 0)
    (h : ∀ g c w', OwnI lo w'.heap.size w' (.slice (some ⟨g, 0, none⟩) (xs ++ ys).length c) (xs ++ ys) → Ext w0 w' → wpList Tryd.prog ops Q rest (a.put o.dst (.slice (some ⟨g, 0, none⟩) (xs ++ ys).length c)) w') : wpList Tryd.prog ops Q (o :: rest) a w := by
  refine wpList_plain hgd fun K hK => ?_
  obtain ⟨v', w', hr, h2, h3, h4, -⟩ := run_app_ri (w0 := w0) (ty := o.type) v sv xs ys hown hR hb h0 hlo hl
  obtain ⟨g, c, rfl⟩ := h4 hv
  unfold Oper.wp execOp
  simp only [ho, resolve, invoke, builtin, Sem.run_bind, Sem.run_pure, Result.andThen_ok, List.map_toArray, List.map_cons, List.map_nil, hs, hx, hr]
  exact hK _ _ (h g c w' h2 h3)
/-- The same inside a region with makers. -/
theorem makes_app_ri {o : Oper} {a : Act} {w0 w : World} {lo hi : Nat} (s x : Operand) (v sv : Value) (xs ys : List Int)
    (ho : o.op = .call { callee := .builtin .append, args := #[s, x], argTypes := #[58, 58] })
    (hs : a.eval s = v) (hown : OwnI lo hi w v xs) (hx : a.eval x = sv) (hR : RI w sv ys) (hb : xs.length + ys.length ≤ 1099511627776) (h0 : Ext w0 w) (hlo : w0.heap.size ≤ lo) (hl : lo ≤ w.heap.size) (hv : v ≠ .slice none 0 0) :
    opMakes Tryd.prog o a w fun v' w' => ∃ g c, v' = .slice (some ⟨g, 0, none⟩) (xs ++ ys).length c ∧ OwnI lo w'.heap.size w' v' (xs ++ ys) ∧ Ext w0 w' := by
  obtain ⟨v', w', hr, h2, h3, h4, -⟩ := run_app_ri (w0 := w0) (ty := o.type) v sv xs ys hown hR hb h0 hlo hl
  obtain ⟨g, c, rfl⟩ := h4 hv
  unfold opMakes execOp
  simp only [ho, resolve, invoke, builtin, Sem.run_bind, Sem.run_pure, Result.andThen_ok, List.map_toArray, List.map_cons, List.map_nil, hs, hx, hr]
  exact ⟨g, c, rfl, h2, h3⟩

/-- An empty list, just made. -/
theorem own_empty (w : World) (lo : Nat) (hl : lo ≤ w.heap.size) : OwnI lo (w.heap.size + 1) (w.alloc (.cells #[] 2)) (.slice (some ⟨w.heap.size, 0, none⟩) 0 0) [] :=
  .inr ⟨_, _, rfl, hl, by omega, World.ownsRow_made w _ 0 hl (by unfold maxLen; omega) (by rfl)⟩
theorem Ext.lift {w0 w w' : World} (h : Ext w0 w) (g : Grow w) (e : w' = g.fin) : Ext w0 w' := e ▸ h.fin g

end Go.Proofs.YthcomgnokkndgaaDoor
