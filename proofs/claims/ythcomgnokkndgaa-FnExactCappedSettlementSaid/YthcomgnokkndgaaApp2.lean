/- Appending a slice that reads to a list that a function owns; copies. -/
import Derived.Test.YthcomgnokkndgaaApp
import Derived.Test.YthcomgnokkndgaaMk
import Derived.Laws.OwnMore
namespace Go.Proofs.Ythcomgnokkndgaa
open Go.RowKit

section
variable {P : Program} {w : World}
theorem run_append_zero (base : Nat) (t ty e : TypeId) (i : TypeInfo) (size : Nat) (ht : P.underlying t = some (.slice e)) (hi : P.info? e = some i)
    (v : Value) (n : Nat) (xs : List Value) (hown : w.ownsRow base e size v n xs) (p : Option Addr) (c : Nat) :
    (Builtin.append_ #[t, t] ty #[v, .slice p 0 c]).run P w = .ok v w := by
  rcases hown.2 with ⟨rfl, rfl⟩ | ⟨g, cap, cur, rfl, _, _, hnc, _⟩
  · cases p
    · simp [Builtin.append_, run_underlying ht, sizeOf, typeInfo, hi, Builtin.lenOf, Builtin.firstCells]
    · simp [Builtin.append_, run_underlying ht, sizeOf, typeInfo, hi, Builtin.lenOf, Builtin.firstCells, loadCells, loadCellsFrom]
  · cases p
    · simp [Builtin.append_, run_underlying ht, sizeOf, typeInfo, hi, Builtin.lenOf, Builtin.firstCells, hnc, storeCells]
    · simp [Builtin.append_, run_underlying ht, sizeOf, typeInfo, hi, Builtin.lenOf, Builtin.firstCells, hnc, storeCells, loadCells, loadCellsFrom]
end

theorem add_plain' (b off j : Nat) : (⟨b, off, none⟩ : Addr).add j = ⟨b, off + j, none⟩ := by unfold Addr.add; split <;> simp_all

/-- A slice of numbers that reads, appended to a list of numbers that a function owns. -/
theorem run_app_ri {w0 w : World} {lo hi : Nat} {ty : TypeId} (v sv : Value) (xs ys : List Int) (hown : OwnI lo hi w v xs) (hR : RI w sv ys) (hb : xs.length + ys.length ≤ 1099511627776) (h0 : Ext w0 w) (hlo : w0.heap.size ≤ lo) (hl : lo ≤ w.heap.size) :
    ∃ v' w', (Builtin.append_ #[24, 24] ty #[v, sv]).run Try.prog w = .ok v' w' ∧ OwnI lo w'.heap.size w' v' (xs ++ ys) ∧ Ext w0 w' ∧ (v ≠ .slice none 0 0 → ∃ g c, v' = .slice (some ⟨g, 0, none⟩) (xs ++ ys).length c) ∧ w.grownBy w' v.ownBlock := by
  obtain ⟨i0, hi0, hz0, hz1, hz2⟩ := info_parts Try.info_i64
  have zero : ∀ p c, sv = .slice p 0 c → ys = [] → ∃ v' w', (Builtin.append_ #[24, 24] ty #[v, sv]).run Try.prog w = .ok v' w' ∧ OwnI lo w'.heap.size w' v' (xs ++ ys) ∧ Ext w0 w' ∧ (v ≠ .slice none 0 0 → ∃ g c, v' = .slice (some ⟨g, 0, none⟩) (xs ++ ys).length c) ∧ w.grownBy w' v.ownBlock := by
    rintro p c rfl rfl
    refine ⟨v, w, run_append_zero lo _ ty 2 i0 1 Try.underlying24 hi0 v xs.length (xs.map iv) hown.row p c, by rw [List.append_nil]; exact OwnI.of_row hown.row, h0, fun hn => ?_, ⟨rfl, rfl, rfl, Nat.le_refl _, fun _ _ _ => rfl⟩⟩
    rw [List.append_nil]
    exact hown.form hn
  by_cases hm : 0 < ys.length
  · obtain ⟨b, off, cap, rfl, -, hb', hc⟩ := hR.is hm
    have hy : ∀ j u, (ys.map iv)[j]? = some u → w.cell? ((⟨b, off, none⟩ : Addr).add j) = some u := by
      intro j u hj
      have hj' : j < ys.length := by have := (List.getElem?_eq_some_iff.1 hj).1; simpa using this
      rw [add_plain', hc j hj']; simp [hj'] at hj; exact congrArg some hj
    have h1 : ∀ u ∈ ys.map iv, u.oneCell' = true := by
      intro u hu; obtain ⟨n, _, rfl⟩ := List.mem_map.1 hu; rfl
    obtain ⟨v', w', hr, h2, h3, h4⟩ := run_append_own (P := Try.prog) w lo 24 ty 2 i0 (.int .i64 0) 1 8 Try.underlying24 hi0 hz0 hz1 hz2 rfl (by decide) v xs.length (xs.map iv) hown.row ⟨b, off, none⟩ ys.length cap (ys.map iv) (by simp) hy h1 (by unfold maxLen; omega) (by omega) hl
    obtain ⟨g', c', rfl, -⟩ := run_append_block (P := Try.prog) w lo 24 ty 2 i0 (.int .i64 0) 1 8 Try.underlying24 hi0 hz0 hz1 hz2 v xs.length (xs.map iv) hown.row ⟨b, off, none⟩ ys.length cap (ys.map iv) (by simp) hy h1 (by unfold maxLen; omega) (by omega) _ _ hr hm
    refine ⟨_, w', hr, ?_, h0.grown h3 fun k hk => by have := (hown.block k hk).1; omega, fun _ => ⟨g', c', by rw [List.length_append]⟩, h3⟩
    refine OwnI.of_row ?_
    rw [List.length_append, List.map_append]
    exact h2
  · rcases hR with ⟨b, off, cap, rfl, -, hb', hc⟩ | ⟨rfl, p, cap, rfl⟩
    · have : ys = [] := List.length_eq_zero_iff.1 (by omega)
      subst this
      exact zero _ _ rfl rfl
    · exact zero _ _ rfl rfl

theorem app_ri {ops : Array Oper} {rest : List Oper} {o : Oper} {a : Act} {Q : Exit → Act → World → Prop} {w0 w : World} {lo hi : Nat} (s x : Operand) (v sv : Value) (xs ys : List Int)
    (hgd : o.guard = none) (ho : o.op = .call { callee := .builtin .append, args := #[s, x], argTypes := #[24, 24] })
    (hs : a.eval s = v) (hown : OwnI lo hi w v xs) (hx : a.eval x = sv) (hR : RI w sv ys) (hb : xs.length + ys.length ≤ 1099511627776) (h0 : Ext w0 w) (hlo : w0.heap.size ≤ lo) (hl : lo ≤ w.heap.size) (hv : v ≠ .slice none 0 0)
    (h : ∀ g c w', OwnI lo w'.heap.size w' (.slice (some ⟨g, 0, none⟩) (xs ++ ys).length c) (xs ++ ys) → Ext w0 w' → wpList Try.prog ops Q rest (a.put o.dst (.slice (some ⟨g, 0, none⟩) (xs ++ ys).length c)) w') : wpList Try.prog ops Q (o :: rest) a w := by
  refine wpList_plain hgd fun K hK => ?_
  obtain ⟨v', w', hr, h2, h3, h4, -⟩ := run_app_ri (w0 := w0) (ty := o.type) v sv xs ys hown hR hb h0 hlo hl
  obtain ⟨g, c, rfl⟩ := h4 hv
  unfold Oper.wp execOp
  simp only [ho, resolve, invoke, builtin, Sem.run_bind, Sem.run_pure, Result.andThen_ok, List.map_toArray, List.map_cons, List.map_nil, hs, hx, hr]
  exact hK _ _ (h g c w' h2 h3)
/-- The same inside a region with makers. -/
theorem makes_app_ri {o : Oper} {a : Act} {w0 w : World} {lo hi : Nat} (s x : Operand) (v sv : Value) (xs ys : List Int)
    (ho : o.op = .call { callee := .builtin .append, args := #[s, x], argTypes := #[24, 24] })
    (hs : a.eval s = v) (hown : OwnI lo hi w v xs) (hx : a.eval x = sv) (hR : RI w sv ys) (hb : xs.length + ys.length ≤ 1099511627776) (h0 : Ext w0 w) (hlo : w0.heap.size ≤ lo) (hl : lo ≤ w.heap.size) (hv : v ≠ .slice none 0 0) :
    opMakes Try.prog o a w fun v' w' => ∃ g c, v' = .slice (some ⟨g, 0, none⟩) (xs ++ ys).length c ∧ OwnI lo w'.heap.size w' v' (xs ++ ys) ∧ Ext w0 w' := by
  obtain ⟨v', w', hr, h2, h3, h4, -⟩ := run_app_ri (w0 := w0) (ty := o.type) v sv xs ys hown hR hb h0 hlo hl
  obtain ⟨g, c, rfl⟩ := h4 hv
  unfold opMakes execOp
  simp only [ho, resolve, invoke, builtin, Sem.run_bind, Sem.run_pure, Result.andThen_ok, List.map_toArray, List.map_cons, List.map_nil, hs, hx, hr]
  exact ⟨g, c, rfl, h2, h3⟩

/-- An empty list, just made. -/
theorem own_empty (w : World) (lo : Nat) (hl : lo ≤ w.heap.size) : OwnI lo (w.heap.size + 1) (w.alloc (.cells #[] 2)) (.slice (some ⟨w.heap.size, 0, none⟩) 0 0) [] :=
  .inr ⟨_, _, rfl, hl, by omega, World.ownsRow_made w _ 0 hl (by unfold maxLen; omega) (by rfl)⟩
theorem Ext.lift {w0 w w' : World} (h : Ext w0 w) (g : Grow w) (e : w' = g.fin) : Ext w0 w' := e ▸ h.fin g

theorem slices_Clone (v : Value) (xs : List Int) (w : World) (h : IS w v xs) (hn : xs.length ≤ 1073741824) :
    Calls Try.prog 36 #[v] w fun e w' => ∃ g c, e = .returned (.slice (some ⟨g, 0, none⟩) xs.length c) ∧ OwnI w.heap.size w'.heap.size w' (.slice (some ⟨g, 0, none⟩) xs.length c) xs ∧ Ext w w' := by
  have H := Lib.hid h.ri
  obtain ⟨b, off, cap, rfl, hc, hb, hx⟩ := h
  clear hx
  have q22 : ∀ (w : World) (a : Option Addr) (n c n' c' : Nat), (binOp .eql 24 (.slice a n c) (.slice none n' c')).run Try.prog w = .ok (.bool a.isNone) w := fun w a n c n' c' => Lib.run_eql_slice_nil w _ _ a n c n' c' Try.underlying24
  go_enter Try.func36, Try.ntmps36
  go_wp2_with (at_builtin; refine app_ri (w0 := w) (lo := w.heap.size) _ _ (.slice (some ⟨w.heap.size, 0, none⟩) 0 0) _ [] xs rfl rfl rfl (own_empty w _ (Nat.le_refl _)) rfl (H.out.ext ExtC.ext) (by simp; omega) ExtC.ext (Nat.le_refl _) (by simp) (by simp) ?_; intro g c w' ho hx)
  go_wp2
  go_ret
  exact ⟨g, c, rfl, ho, hx⟩
end Go.Proofs.Ythcomgnokkndgaa
