/- Arguments from outside: slices of numbers, and slices of pairs of cells. -/
import Derived.Test.YthcomgnokkndgaaDoorLaw
import Derived.Test.YthcomgnokkndgaaDoorSlice
namespace Go.Proofs.YthcomgnokkndgaaDoor
open Go.ChangeShapes Go.WideShapes Go.ChangeAt Go.RowKit Go.Joins Go.Deep

theorem wf_i64_range {n : Int} (h : (Lit.int .i64 n).wf = true) : -9223372036854775808 ≤ n ∧ n ≤ 9223372036854775807 := by
  simp [Lit.wf, IntKind.min, IntKind.max, IntKind.signed, IntKind.bits] at h
  exact h

section
variable {H : Type} {enc : TypeId × Value → H} {w : World} {spare : Nat → Bool} {held : Bool} {base : Nat}

/-- A number in its range. -/
def I64 (n : Int) : Prop := -9223372036854775808 ≤ n ∧ n ≤ 9223372036854775807

theorem raw_ints {P : Program} {t e : TypeId} {fuel : Nat} {cs : List Value} {x : DataW H × List MemPlace} (ht : P.underlying t = some (.slice e)) (he : P.underlying e = some (.int .i64)) (hc : P.cellsOf e = 1)
    (h : DataW.trod enc P w base (fun _ => true) held fuel t cs = some x) : ∃ v xs, cs = [v] ∧ RI w v xs ∧ xs.length ≤ 9223372036854775807 ∧ ∀ n ∈ xs, I64 n := by
  rcases open_ints ht he hc h with ⟨rfl, -⟩ | ⟨a, len, cap, zs, rfl, -, h1, h2, h3, -, h4, h5⟩
  · exact ⟨_, [], rfl, RI.nil w, by simp, by simp⟩
  · simp only [if_true] at h3
    have hl : (zs.take len).length = len := by simp; omega
    unfold maxLen at h2
    refine ⟨_, zs.take len, rfl, ?_, by omega, fun n hn => wf_i64_range (h5 n (List.mem_of_mem_take hn))⟩
    by_cases h0 : len = 0
    · subst h0
      exact .inr ⟨by simp, some a, cap, rfl⟩
    · obtain ⟨b, off, rfl, hcell⟩ := Go.ints_at h4 (by omega)
      refine .inl ⟨b, off, cap, by rw [hl], by omega, ?_, fun i hi => ?_⟩
      · exact InW.of_cell (hcell 0 (by omega))
      · rw [hl] at hi
        rw [hcell i (by omega)]
        congr 2
        simp only [List.getElem_take]
        rw [List.getD_eq_getElem?_getD, List.getElem?_eq_getElem (by omega)]; rfl

theorem raw_pairs {P : Program} {t e : TypeId} {f0 f1 : Field} {fuel : Nat} {cs : List Value} {x : DataW H × List MemPlace} (ht : P.underlying t = some (.slice e)) (hs : P.underlying e = some (.struct #[f0, f1])) (hone : oneCellFields P #[f0, f1] = true) (hC : P.cellsOf e = 2)
    (h : DataW.trod enc P w base (fun _ => true) held fuel t cs = some x) : ∃ p len cap, cs = [.slice p len cap] ∧ len ≤ cap ∧ len ≤ 9223372036854775807 ∧ (0 < len → ∃ b off, p = some ⟨b, off, none⟩ ∧ InW b w ∧
      ∀ i, i < len → ∃ (v0 v1 : Value) (y0 y1 : DataW H × List MemPlace) (n : Nat), w.cell? ⟨b, off + i * 2, none⟩ = some v0 ∧ w.cell? ⟨b, off + i * 2 + 1, none⟩ = some v1 ∧
        DataW.trod enc P w base (fun _ => true) held n f0.type [v0] = some y0 ∧ DataW.trod enc P w base (fun _ => true) held n f1.type [v1] = some y1) := by
  rcases open_slice ht h with ⟨rfl, -⟩ | ⟨a, len, cap, m, n, D, Pl, rfl, -, h1, h2, h3, -, h4⟩
  · exact ⟨none, 0, 0, rfl, Nat.le_refl _, by simp, fun h => absurd h (by simp)⟩
  · simp only [if_true] at h3
    subst h3
    unfold maxLen at h2
    rw [hC] at h4
    refine ⟨some a, len, m, rfl, h1, by omega, fun h0 => ?_⟩
    have key : ∀ i, i < m → ∃ v0 v1, w.cell? ((a.add (i * 2)).add 0) = some v0 ∧ w.cell? ((a.add (i * 2)).add 1) = some v1 ∧ DataW.trod enc P w base (fun _ => true) held n e [v0, v1] = some (D i, Pl i) := by
      intro i hi
      obtain ⟨cs', hcs, htr⟩ := h4 i hi
      unfold World.cells? at hcs
      split at hcs
      · simp only [List.range_succ_eq_map, List.range_zero, List.map_nil, List.map_cons, List.mapM_cons, List.mapM_nil, Option.bind_eq_bind, Option.bind_eq_some_iff, Option.pure_def] at hcs
        obtain ⟨v0, e0, _, ⟨v1, e1, _, e2, e4⟩, e3⟩ := hcs
        simp only [Option.some.injEq] at e2 e3 e4
        subst e2
        subst e4
        subst e3
        exact ⟨v0, v1, e0, e1, htr⟩
      · cases hcs
    obtain ⟨b, off, spot⟩ := a
    obtain ⟨v0, _, c0, _, _⟩ := key 0 (by omega)
    have hspot : spot = none := by simpa [Addr.add] using World.cell?_spot c0
    subst hspot
    have hin : InW b w := by
      have : (⟨b, off, none⟩ : Addr).add (0 * 2) = ⟨b, off, none⟩ := by simp [Addr.add]
      rw [this, add_plain] at c0
      exact InW.of_cell c0
    refine ⟨b, off, rfl, hin, fun i hi => ?_⟩
    obtain ⟨v0, v1, c0, c1, htr⟩ := key i (by omega)
    rw [add_plain, add_plain] at c0 c1
    obtain ⟨y0, y1, n', -, -, k0, k1⟩ := trod_struct2 hs htr
    obtain ⟨o0, q0⟩ := hone_of hone 0 f0 rfl
    obtain ⟨o1, q1⟩ := hone_of hone 1 f1 rfl
    exact ⟨v0, v1, y0, y1, n', c0, c1, by simpa [o0, q0] using k0, by simpa [o1, q1] using k1⟩
end

theorem Tryd.cellsI64 : Tryd.prog.cellsOf 2 = 1 := by kernel_rfl
set_option maxRecDepth 100000 in
theorem open_i64s {H : Type} {enc : TypeId × Value → H} {w : World} {held : Bool} {base : Nat} {r : Reach} {b0 : Nat} {v : Value} {d : DataW H} {ps : List MemPlace} (hval : Value.okWide Tryd.prog w r b0 58 v)
    (h : DataW.Trod enc Tryd.prog w base (fun _ => true) held 58 v d ps) : ∃ xs : List Int, RI w v xs ∧ xs.length ≤ 9223372036854775807 ∧ ∀ n ∈ xs, I64 n := by
  obtain ⟨a0, len0, cap0, rfl⟩ := okWide_slice Tryd.underlying58 hval
  obtain ⟨fuel, hf⟩ := h
  obtain ⟨v, xs, e, h1, h2, h3⟩ := raw_ints Tryd.underlying58 Tryd.underlying2 Tryd.cellsI64 hf
  simp only [Value.cells, List.cons.injEq, and_true] at e
  subst e
  exact ⟨xs, h1, h2, h3⟩
end Go.Proofs.YthcomgnokkndgaaDoor
