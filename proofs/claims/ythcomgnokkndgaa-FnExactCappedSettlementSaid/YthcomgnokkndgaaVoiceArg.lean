/- A list of voices that comes in as an argument of a law. -/
import Derived.Test.YthcomgnokkndgaaArg
import Derived.Test.YthcomgnokkndgaaVoice2
namespace Go.Proofs.Ythcomgnokkndgaa
open Go.ChangeShapes Go.WideShapes Go.ChangeAt Go.RowKit Go.Joins Go.Deep

theorem Try.cellsVoice : Try.prog.cellsOf 36 = 2 := by kernel_rfl

theorem short_of {L : List VD} (hl : L.length ≤ 1048576) (hm : vsum L ≤ 1048576) : Short L :=
  ⟨by omega, fun i h => by have := vsum_get L i h; omega⟩

/-- A bound that every list from outside meets. -/
def ShortR (L : List VD) : Prop := L.length ≤ 9223372036854775807 ∧ ∀ i (h : i < L.length), L[i].2.length ≤ 9223372036854775807

theorem choose_list {α : Type} (n : Nat) (R : Nat → α → Prop) (h : ∀ i, i < n → ∃ a, R i a) : ∃ L : List α, L.length = n ∧ ∀ i (hi : i < L.length), R i L[i] := by
  induction n with
  | zero => exact ⟨[], rfl, fun i hi => absurd hi (by simp)⟩
  | succ n ih =>
    obtain ⟨L, hl, hL⟩ := ih (fun i hi => h i (by omega))
    obtain ⟨a, ha⟩ := h n (by omega)
    refine ⟨L ++ [a], by simp [hl], fun i hi => ?_⟩
    by_cases hin : i < L.length
    · rw [List.getElem_append_left hin]; exact hL i hin
    · have : i = L.length := by simp at hi; omega
      subst this
      simp; rw [hl]; exact ha

set_option maxRecDepth 100000 in
theorem open_voices {H : Type} {enc : TypeId × Value → H} {w : World} {held : Bool} {base : Nat} {r : Reach} {b0 : Nat} {v : Value} {d : DataW H} {ps : List MemPlace} (hval : Value.okWide Try.prog w r b0 22 v)
    (h : DataW.Trod enc Try.prog w base (fun _ => true) held 22 v d ps) : ∃ L : List VD, RV w v L ∧ ShortR L := by
  obtain ⟨a0, len0, cap0, rfl⟩ := okWide_slice Try.underlying22 hval
  obtain ⟨fuel, hf⟩ := h
  obtain ⟨p, len, cap, hcs, -, hle, hc⟩ := raw_pairs Try.underlying22 Try.underlying36 (by kernel_rfl) Try.cellsVoice hf
  simp only [Value.cells, List.cons.injEq, and_true, Value.slice.injEq] at hcs
  obtain ⟨rfl, rfl, rfl⟩ := hcs
  by_cases h0 : 0 < len0
  · obtain ⟨b, off, rfl, hb, hk⟩ := hc h0
    obtain ⟨L, hL, hR⟩ := choose_list len0 (fun i (e : VD) => w.cell? ⟨b, off + i * 2, none⟩ = some (.bool e.1) ∧ (∃ t, w.cell? ⟨b, off + i * 2 + 1, none⟩ = some t ∧ RI w t e.2) ∧ e.2.length ≤ 9223372036854775807) (by
      intro i hi
      obtain ⟨v0, v1, y0, y1, n, c0, c1, k0, k1⟩ := hk i hi
      obtain ⟨s, e0, -⟩ := DataW.trod_bool Try.underlying4 k0
      obtain ⟨t, xs, e1, ht, hx, -⟩ := raw_ints Try.underlying24 Try.underlying2 Try.cellsI64 k1
      simp only [List.cons.injEq, and_true] at e0 e1
      subst e0 e1
      exact ⟨(s, xs), c0, ⟨_, c1, ht⟩, hx⟩)
    subst hL
    exact ⟨L, .inl ⟨b, off, cap0, rfl, hb, fun i hi => ⟨(hR i hi).1, (hR i hi).2.1⟩⟩, hle, fun i hi => (hR i hi).2.2⟩
  · have : len0 = 0 := by omega
    subst this
    exact ⟨[], .inr ⟨rfl, a0, cap0, rfl⟩, by simp, fun i hi => absurd hi (by simp)⟩
end Go.Proofs.Ythcomgnokkndgaa
