/- Pools: the contracts of the laws' helpers, and what comes in from outside. -/
import Derived.Test.YthcomgnokkndgaaDoorArg
import Derived.Test.YthcomgnokkndgaaDoorQuota
namespace Go.Proofs.YthcomgnokkndgaaDoor
open Go.ChangeShapes Go.WideShapes Go.ChangeAt Go.RowKit Go.Joins Go.Deep

theorem choose_list' {α : Type} (n : Nat) (R : Nat → α → Prop) (h : ∀ i, i < n → ∃ a, R i a) : ∃ L : List α, L.length = n ∧ ∀ i (hi : i < L.length), R i L[i] := by
  induction n with
  | zero => exact ⟨[], rfl, fun i hi => absurd hi (by simp)⟩
  | succ n ih =>
    obtain ⟨L, hl, hL⟩ := ih (fun i hi => h i (by omega))
    obtain ⟨a, ha⟩ := h n (by omega)
    refine ⟨L ++ [a], by simp [hl], fun i hi => ?_⟩
    by_cases hin : i < L.length
    · rw [List.getElem_append_left hin]; exact hL i hin
    · have : i = L.length := by simp at hi; omega
      subst this
      simp; rw [hl]; exact ha

section
variable {H : Type} {enc : TypeId × Value → H} {w : World} {held : Bool} {base : Nat}
/-- A slice of three-cell elements. -/
theorem raw_triples {P : Program} {t e : TypeId} {f0 f1 f2 : Field} {fuel : Nat} {cs : List Value} {x : DataW H × List MemPlace} (ht : P.underlying t = some (.slice e)) (hs : P.underlying e = some (.struct #[f0, f1, f2])) (hone : oneCellFields P #[f0, f1, f2] = true) (hC : P.cellsOf e = 3)
    (h : DataW.trod enc P w base (fun _ => true) held fuel t cs = some x) : ∃ p len cap, cs = [.slice p len cap] ∧ len ≤ cap ∧ len ≤ 9223372036854775807 ∧ (0 < len → ∃ b off, p = some ⟨b, off, none⟩ ∧ InW b w ∧
      ∀ i, i < len → ∃ (v0 v1 v2 : Value) (y0 y1 y2 : DataW H × List MemPlace) (n : Nat), w.cell? ⟨b, off + i * 3, none⟩ = some v0 ∧ w.cell? ⟨b, off + i * 3 + 1, none⟩ = some v1 ∧ w.cell? ⟨b, off + i * 3 + 2, none⟩ = some v2 ∧
        DataW.trod enc P w base (fun _ => true) held n f0.type [v0] = some y0 ∧ DataW.trod enc P w base (fun _ => true) held n f1.type [v1] = some y1 ∧ DataW.trod enc P w base (fun _ => true) held n f2.type [v2] = some y2) := by
  rcases open_slice ht h with ⟨rfl, -⟩ | ⟨a, len, cap, m, n, D, Pl, rfl, -, h1, h2, h3, -, h4⟩
  · exact ⟨none, 0, 0, rfl, Nat.le_refl _, by simp, fun h => absurd h (by simp)⟩
  · simp only [if_true] at h3
    subst h3
    unfold maxLen at h2
    rw [hC] at h4
    refine ⟨some a, len, m, rfl, h1, by omega, fun h0 => ?_⟩
    have key : ∀ i, i < m → ∃ v0 v1 v2, w.cell? ((a.add (i * 3)).add 0) = some v0 ∧ w.cell? ((a.add (i * 3)).add 1) = some v1 ∧ w.cell? ((a.add (i * 3)).add 2) = some v2 ∧ DataW.trod enc P w base (fun _ => true) held n e [v0, v1, v2] = some (D i, Pl i) := by
      intro i hi
      obtain ⟨cs', hcs, htr⟩ := h4 i hi
      unfold World.cells? at hcs
      split at hcs
      · simp only [List.range_succ_eq_map, List.range_zero, List.map_nil, List.map_cons, List.mapM_cons, List.mapM_nil, Option.bind_eq_bind, Option.bind_eq_some_iff, Option.pure_def] at hcs
        obtain ⟨v0, e0, _, ⟨v1, e1, _, ⟨v2, e5, _, e6, e7⟩, e4⟩, e3⟩ := hcs
        simp only [Option.some.injEq] at e3 e4 e6 e7
        subst e6
        subst e7
        subst e4
        subst e3
        exact ⟨v0, v1, v2, e0, e1, e5, htr⟩
      · cases hcs
    obtain ⟨b, off, spot⟩ := a
    obtain ⟨v0, _, _, c0, _, _⟩ := key 0 (by omega)
    have hspot : spot = none := by simpa [Addr.add] using World.cell?_spot c0
    subst hspot
    have hin : InW b w := by
      have : (⟨b, off, none⟩ : Addr).add (0 * 3) = ⟨b, off, none⟩ := by simp [Addr.add]
      rw [this, add_plain] at c0
      exact InW.of_cell c0
    refine ⟨b, off, rfl, hin, fun i hi => ?_⟩
    obtain ⟨v0, v1, v2, c0, c1, c2, htr⟩ := key i (by omega)
    rw [add_plain, add_plain] at c0 c1 c2
    obtain ⟨y0, y1, y2, n', -, -, k0, k1, k2⟩ := trod_struct3 hs htr
    obtain ⟨o0, q0⟩ := hone_of hone 0 f0 rfl
    obtain ⟨o1, q1⟩ := hone_of hone 1 f1 rfl
    obtain ⟨o2, q2⟩ := hone_of hone 2 f2 rfl
    exact ⟨v0, v1, v2, y0, y1, y2, n', c0, c1, c2, by simpa [o0, q0] using k0, by simpa [o1, q1] using k1, by simpa [o2, q2] using k2⟩
end




set_option maxHeartbeats 1000000 in
theorem laws_eqPool (pe sz : Int) (qv qv' : Value) (L : List QD) (w : World) (hq : RQ w qv L) (hq' : RQ w qv' L) (hs : ShortQ L) :
    Calls Tryd.prog 13 #[.agg #[.int .i64 pe, .int .i64 sz, qv], .agg #[.int .i64 pe, .int .i64 sz, qv']] w fun e w' => e = .returned (.bool true) ∧ Ext w w' := by
  obtain ⟨p, c, rfl, -⟩ := hq.form
  obtain ⟨p', c', rfl, -⟩ := hq'.form
  have HQ := Lib.hid (And.intro hq hq')
  have hz : (pe != pe) = false := by simp
  have hz2 : (sz != sz) = false := by simp
  clear hq hq'
  go_enter Tryd.func13, Tryd.ntmps13
  go_wp2_with (first | (go_at_call 36; refine Calls.mono (laws_eqQuotaS _ _ L _ (HQ.out.1.ext ExtC.ext) (HQ.out.2.ext ExtC.ext) hs) ?_; rintro e w' ⟨rfl, hx⟩; obtain ⟨g1, rfl⟩ := hx.grow; clear hx))
  go_ret
  exact ⟨rfl, ExtC.ext⟩
end Go.Proofs.YthcomgnokkndgaaDoor
