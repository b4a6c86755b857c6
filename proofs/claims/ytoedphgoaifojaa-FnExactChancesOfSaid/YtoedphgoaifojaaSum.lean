/- The sum of fractions: SumFractions on both sides. -/
import Derived.Test.YtoedphgoaifojaaFracS
import Derived.Test.YtoedphgoaifojaaFrac3
import Derived.Test.YtoedphgoaifojaaBox
namespace Go.Proofs.Ytoedphgoaifojaa
open Go.RowKit

def stN (s f : Int × Int) : Int := redN (s.1 * f.2 + f.1 * s.2) (s.2 * f.2)
def stD (s f : Int × Int) : Int := redD (s.1 * f.2 + f.1 * s.2) (s.2 * f.2)
/-- The sum of the first k, if it stays within bounds. -/
def sumF (xs : SD) : Nat → Option (Int × Int)
  | 0 => some (0, 1)
  | k + 1 => match sumF xs k with
    | none => none
    | some s => if okF (stN s (xs.getD k (0, 1))) (stD s (xs.getD k (0, 1))) then some (stN s (xs.getD k (0, 1)), stD s (xs.getD k (0, 1))) else none
theorem sumF_yes {xs : SD} {k : Nat} {s : Int × Int} (h : sumF xs k = some s) (hk : k < xs.length) (ho : okF (stN s xs[k]) (stD s xs[k]) = true) : sumF xs (k + 1) = some (stN s xs[k], stD s xs[k]) := by
  have e : xs.getD k (0, 1) = xs[k] := by simp [hk]
  rw [sumF, h]; simp only [e, ho, if_true]
theorem sumF_no {xs : SD} {k : Nat} {s : Int × Int} (h : sumF xs k = some s) (hk : k < xs.length) (ho : okF (stN s xs[k]) (stD s xs[k]) = false) : sumF xs (k + 1) = none := by
  have e : xs.getD k (0, 1) = xs[k] := by simp [hk]
  rw [sumF, h]; simp only [e, ho, Bool.false_eq_true, if_false]
theorem sumF_none {xs : SD} {k : Nat} (h : sumF xs k = none) : ∀ n, k ≤ n → sumF xs n = none := by
  intro n hn
  induction n with
  | zero => rw [show 0 = k by omega]; exact h
  | succ n ih =>
    by_cases e : n + 1 = k
    · rw [e]; exact h
    · rw [sumF, ih (by omega)]
theorem sumF_ok {xs : SD} : ∀ (k : Nat) (s : Int × Int), sumF xs k = some s → okF s.1 s.2 = true := by
  intro k
  induction k with
  | zero => intro s h; simp only [sumF, Option.some.injEq] at h; subst h; decide +kernel
  | succ k ih =>
    intro s h
    rw [sumF] at h
    split at h
    · cases h
    · split at h
      · rename_i ho; simp only [Option.some.injEq] at h; subst h; exact ho
      · cases h
def FsP (xs : SD) : Prop := xs.length ≤ 20 ∧ ∀ k (h : k < xs.length), okF xs[k].1 xs[k].2 = true
open Classical in
noncomputable def sumB (xs : SD) : Bool := decide (FsP xs ∧ ∃ s, sumF xs xs.length = some s)
open Classical in
noncomputable def sumA (xs : SD) : Int × Int := if FsP xs then (sumF xs xs.length).getD (0, 0) else (0, 0)
open Classical in
theorem sum_no {xs : SD} (h : ¬ FsP xs) : sumB xs = false ∧ sumA xs = (0, 0) := by
  unfold sumB sumA; rw [if_neg h]; exact ⟨decide_eq_false fun hh => h hh.1, rfl⟩
open Classical in
theorem sum_over {xs : SD} (h : sumF xs xs.length = none) : sumB xs = false ∧ sumA xs = (0, 0) := by
  unfold sumB sumA
  refine ⟨decide_eq_false fun ⟨_, s, hs⟩ => (by rw [h] at hs; cases hs), ?_⟩
  split
  · rw [h]; rfl
  · rfl
open Classical in
theorem sum_yes {xs : SD} (h : FsP xs) {s : Int × Int} (hs : sumF xs xs.length = some s) : sumB xs = true ∧ sumA xs = s := by
  unfold sumB sumA; rw [if_pos h, hs]; exact ⟨decide_eq_true ⟨h, s, rfl⟩, rfl⟩

/-- A box with a fraction in it. -/
structure BxF (B : Nat) (s : Int × Int) (x : World) : Prop where
  inw : InW B x
  c0 : x.cell? ⟨B, 0, none⟩ = some (.int .i64 s.1)
  c1 : x.cell? ⟨B, 1, none⟩ = some (.int .i64 s.2)
  f0 : x.frozen? ⟨B, 0, none⟩ = false
  f1 : x.frozen? ⟨B, 1, none⟩ = false
theorem BxF.ext {B : Nat} {s : Int × Int} {x y : World} (h : BxF B s x) (hx : Ext x y) : BxF B s y :=
  ⟨⟨Nat.lt_of_lt_of_le h.inw.lt hx.size⟩, by rw [Below.cell hx h.inw.lt]; exact h.c0, by rw [Below.cell hx h.inw.lt]; exact h.c1, by rw [Below.frozen hx h.inw.lt]; exact h.f0, by rw [Below.frozen hx h.inw.lt]; exact h.f1⟩
theorem BxF.store {B : Nat} {s : Int × Int} {x : World} (h : BxF B s x) (t : Int × Int) : BxF B t ((x.setCell ⟨B, 0, none⟩ (.int .i64 t.1)).setCell ⟨B, 1, none⟩ (.int .i64 t.2)) := by
  have e1 : (x.setCell ⟨B, 0, none⟩ (.int .i64 t.1)).cell? ⟨B, 1, none⟩ = some (.int .i64 s.2) := by rw [World.cell?_setCell_other (h := by simp)]; exact h.c1
  refine ⟨⟨by simp only [World.size_setCell]; exact h.inw.lt⟩, ?_, ?_, by rw [World.frozen?_setCell, World.frozen?_setCell]; exact h.f0, by rw [World.frozen?_setCell, World.frozen?_setCell]; exact h.f1⟩
  · rw [World.cell?_setCell_other (h := by simp), World.cell?_setCell_same (h := h.c0)]
  · rw [World.cell?_setCell_same (h := e1)]
theorem box_frac (w : World) (s : Int × Int) (T : TypeId) : BxF w.heap.size s (w.alloc (.cells #[.int .i64 s.1, .int .i64 s.2] T)) :=
  ⟨⟨by simp⟩, by rw [World.cell?_alloc_at _ _ _ _ rfl]; rfl, by rw [World.cell?_alloc_at _ _ _ _ rfl]; rfl, by simp [go_sem], by simp [go_sem]⟩





end Go.Proofs.Ytoedphgoaifojaa
