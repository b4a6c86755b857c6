/- Lists of lists of shares that come in as an argument of a law. -/
import Derived.Test.YtomkhjcejjkelaaDoorArg
import Derived.Test.YtomkhjcejjkelaaDoorRowsEq
namespace Go.Proofs.YtomkhjcejjkelaaDoor
open Go.ChangeShapes Go.WideShapes Go.ChangeAt Go.RowKit Go.Joins Go.Deep

theorem choose_list {α : Type} (n : Nat) (R : Nat → α → Prop) (h : ∀ i, i < n → ∃ a, R i a) : ∃ L : List α, L.length = n ∧ ∀ i (hi : i < L.length), R i L[i] := by
  induction n with
  | zero => exact ⟨[], rfl, fun i hi => absurd hi (by simp)⟩
  | succ n ih =>
    obtain ⟨L, hl, hL⟩ := ih (fun i hi => h i (by omega))
    obtain ⟨a, ha⟩ := h n (by omega)
    refine ⟨L ++ [a], by simp [hl], fun i hi => ?_⟩
    by_cases hin : i < L.length
    · rw [List.getElem_append_left hin]; exact hL i hin
    · have : i = L.length := by simp at hi; omega
      subst this
      simp; rw [hl]; exact ha

section
variable {H : Type} {enc : TypeId × Value → H} {w : World} {held : Bool} {base : Nat}

/-- A slice of one-cell elements. -/
theorem raw_singles {P : Program} {t e : TypeId} {fuel : Nat} {cs : List Value} {x : DataW H × List MemPlace} (ht : P.underlying t = some (.slice e)) (hC : P.cellsOf e = 1)
    (h : DataW.trod enc P w base (fun _ => true) held fuel t cs = some x) : ∃ p len cap, cs = [.slice p len cap] ∧ len ≤ cap ∧ len ≤ 9223372036854775807 ∧ (0 < len → ∃ b off, p = some ⟨b, off, none⟩ ∧ InW b w ∧
      ∀ i, i < len → ∃ (v0 : Value) (y0 : DataW H × List MemPlace) (n : Nat), w.cell? ⟨b, off + i, none⟩ = some v0 ∧ DataW.trod enc P w base (fun _ => true) held n e [v0] = some y0) := by
  rcases open_slice ht h with ⟨rfl, -⟩ | ⟨a, len, cap, m, n, D, Pl, rfl, -, h1, h2, h3, -, h4⟩
  · exact ⟨none, 0, 0, rfl, Nat.le_refl _, by simp, fun h => absurd h (by simp)⟩
  · simp only [if_true] at h3
    subst h3
    unfold maxLen at h2
    rw [hC] at h4
    refine ⟨some a, len, m, rfl, h1, by omega, fun h0 => ?_⟩
    have key : ∀ i, i < m → ∃ v0, w.cell? ((a.add (i * 1)).add 0) = some v0 ∧ DataW.trod enc P w base (fun _ => true) held n e [v0] = some (D i, Pl i) := by
      intro i hi
      obtain ⟨cs', hcs, htr⟩ := h4 i hi
      unfold World.cells? at hcs
      split at hcs
      · simp only [List.range_succ_eq_map, List.range_zero, List.map_nil, List.mapM_cons, List.mapM_nil, Option.bind_eq_bind, Option.bind_eq_some_iff, Option.pure_def] at hcs
        obtain ⟨v0, e0, _, e2, e3⟩ := hcs
        simp only [Option.some.injEq] at e2 e3
        subst e2
        subst e3
        exact ⟨v0, e0, htr⟩
      · cases hcs
    obtain ⟨b, off, spot⟩ := a
    obtain ⟨v0, c0, _⟩ := key 0 (by omega)
    have hspot : spot = none := by simpa [Addr.add] using World.cell?_spot c0
    subst hspot
    have hin : InW b w := by
      have : (⟨b, off, none⟩ : Addr).add (0 * 1) = ⟨b, off, none⟩ := by simp [Addr.add]
      rw [this, add_plain] at c0
      exact InW.of_cell c0
    refine ⟨b, off, rfl, hin, fun i hi => ?_⟩
    obtain ⟨v0, c0, htr⟩ := key i (by omega)
    rw [add_plain, add_plain, Nat.mul_one] at c0
    exact ⟨v0, _, n, c0, htr⟩
end

theorem cnt_share (L : List SD) : cntRows shareKind L = 2 * rsum L := by
  unfold cntRows rsum
  induction L with
  | nil => rfl
  | cons a l ih => simp only [List.map_cons, List.sum_cons, ih]; show 2 * a.length + _ = _; omega
theorem Tryd.cellsShare : Tryd.prog.cellsOf 132 = 2 := by kernel_rfl
theorem Tryd.cellsShareS : Tryd.prog.cellsOf 104 = 1 := by kernel_rfl
set_option maxRecDepth 100000 in
theorem open_shareS {H : Type} {enc : TypeId × Value → H} {w : World} {held : Bool} {base n : Nat} {v : Value} {y : DataW H × List MemPlace} (h : DataW.trod enc Tryd.prog w base (fun _ => true) held n 104 [v] = some y) : ∃ xs : SD, RP w v xs ∧ xs.length ≤ 9223372036854775807 := by
  obtain ⟨p, len, cap, hcs, hlc, hle, hc⟩ := raw_pairs Tryd.underlying104 Tryd.underlying132 (by kernel_rfl) Tryd.cellsShare h
  simp only [List.cons.injEq, and_true] at hcs
  subst hcs
  by_cases h0 : 0 < len
  · obtain ⟨b, off, rfl, hb, hk⟩ := hc h0
    obtain ⟨L, hL, hR⟩ := choose_list len (fun i (e : Int × Int) => w.cell? ⟨b, off + i * 2, none⟩ = some (iv e.1) ∧ w.cell? ⟨b, off + i * 2 + 1, none⟩ = some (iv e.2)) (by
      intro i hi
      obtain ⟨v0, v1, y0, y1, n, c0, c1, k0, k1⟩ := hk i hi
      obtain ⟨m0, e0, -⟩ := DataW.trod_int Tryd.underlying2 k0
      obtain ⟨m1, e1, -⟩ := DataW.trod_int Tryd.underlying2 k1
      simp only [List.cons.injEq, and_true] at e0 e1
      subst e0 e1
      exact ⟨(m0, m1), c0, c1⟩)
    subst hL
    exact ⟨L, .inl ⟨b, off, cap, rfl, hlc, hb, hR⟩, hle⟩
  · have : len = 0 := by omega
    subst this
    exact ⟨[], .inr ⟨rfl, p, cap, rfl⟩, by simp⟩

/-- A bound that every list of lists from outside meets. -/
def ShortRR {β : Type} (L : List (List β)) : Prop := L.length ≤ 9223372036854775807 ∧ ∀ i (h : i < L.length), L[i].length ≤ 9223372036854775807

set_option maxRecDepth 100000 in
theorem open_shareSS {H : Type} {enc : TypeId × Value → H} {w : World} {held : Bool} {base : Nat} {r : Reach} {b0 : Nat} {v : Value} {d : DataW H} {ps : List MemPlace} (hval : Value.okWide Tryd.prog w r b0 49 v)
    (h : DataW.Trod enc Tryd.prog w base (fun _ => true) held 49 v d ps) : ∃ L : List SD, RowsR shareKind w v L ∧ ShortRR L := by
  obtain ⟨a0, len0, cap0, rfl⟩ := okWide_slice Tryd.underlying49 hval
  obtain ⟨fuel, hf⟩ := h
  obtain ⟨p, len, cap, hcs, hlc, hle, hc⟩ := raw_singles Tryd.underlying49 Tryd.cellsShareS hf
  simp only [Value.cells, List.cons.injEq, and_true, Value.slice.injEq] at hcs
  obtain ⟨rfl, rfl, rfl⟩ := hcs
  by_cases h0 : 0 < len0
  · obtain ⟨b, off, rfl, hb, hk⟩ := hc h0
    obtain ⟨L, hL, hR⟩ := choose_list len0 (fun i (e : SD) => (∃ t, w.cell? ⟨b, off + i, none⟩ = some t ∧ RP w t e) ∧ e.length ≤ 9223372036854775807) (by
      intro i hi
      obtain ⟨v0, y0, n, c0, k0⟩ := hk i hi
      obtain ⟨xs, hx, hxl⟩ := open_shareS k0
      exact ⟨xs, ⟨_, c0, hx⟩, hxl⟩)
    subst hL
    exact ⟨L, .inl ⟨b, off, cap0, rfl, hlc, hb, fun i hi => (hR i hi).1⟩, hle, fun i hi => (hR i hi).2⟩
  · have : len0 = 0 := by omega
    subst this
    exact ⟨[], .inr ⟨rfl, a0, cap0, rfl⟩, by simp, fun i hi => absurd hi (by simp)⟩
end Go.Proofs.YtomkhjcejjkelaaDoor
