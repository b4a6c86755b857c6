/- Paths: the contracts of IsPath on both sides. -/
import Derived.Test.YthcomgnokkndgaaDoorVoice3
namespace Go.Proofs.YthcomgnokkndgaaDoor
open Go.RowKit

/-- A member's voice. -/
def At (L : List VD) (m : Int) : VD := L[m.toNat]?.getD (false, [])
theorem At_eq (L : List VD) (m : Int) (h : m.toNat < L.length) : At L m = L[m.toNat] := by simp [At, h]
/-- What holds of a path's place k. -/
def StepP (L : List VD) (p : List Int) (k : Nat) (h : k < p.length) : Prop :=
  (0 ≤ p[k] ∧ p[k] ≤ L.length - 1) ∧ p[k] ∉ p.take k ∧ ((At L p[k]).1 = true ↔ k + 1 = p.length) ∧ (0 < k → p[k] ∈ (At L p[k - 1]).2)
def PathP (L : List VD) (p : List Int) : Prop := 0 < p.length ∧ ∀ k (h : k < p.length), StepP L p k h

theorem VS.at {w : World} {v : Value} {L : List VD} (h : VS w v L) : ∃ b off cap, v = .slice (some ⟨b, off, none⟩) L.length cap ∧ InW b w ∧
    ∀ m : Int, 0 ≤ m → m ≤ L.length - 1 → w.cell? ⟨b, off + m.toNat * 2, none⟩ = some (.bool (At L m).1) ∧ ∃ t, w.cell? ⟨b, off + m.toNat * 2 + 1, none⟩ = some t ∧ RI w t (At L m).2 := by
  obtain ⟨b, off, cap, rfl, hb, hc⟩ := h
  refine ⟨b, off, cap, rfl, hb, fun m h0 h1 => ?_⟩
  have hm : m.toNat < L.length := by omega
  rw [At_eq L m hm]
  exact hc m.toNat hm
theorem Short.at {L : List VD} (h : Short L) (m : Int) (h0 : 0 ≤ m) (h1 : m ≤ L.length - 1) : (At L m).2.length ≤ 1152921504606846976 := by
  have hm : m.toNat < L.length := by omega
  rw [At_eq L m hm]; exact h.2 _ hm

theorem At_nat {L : List VD} {k : Nat} (h : k < L.length) : At L (k : Int) = L[k] := by simp [At, h]



/-- Different numbers from 0 to n - 1: n of them at most. -/
theorem nodup_length (n : Nat) : ∀ (p : List Int), (∀ k (h : k < p.length), 0 ≤ p[k] ∧ p[k] < n ∧ p[k] ∉ p.take k) → p.length ≤ n := by
  induction n with
  | zero =>
    intro p h
    by_cases h0 : 0 < p.length
    · have := h 0 h0; omega
    · omega
  | succ n ih =>
    intro p h
    have hnd : p.Nodup := by
      rw [List.nodup_iff_pairwise_ne, List.pairwise_iff_getElem]
      intro i j hi hj hij e
      exact (h j hj).2.2 (by rw [← e, List.mem_take_iff_getElem]; exact ⟨i, by omega, rfl⟩)
    have h1 : (p.erase (n : Int)).length ≤ n := by
      refine ih _ fun k hk => ?_
      have hnd' := hnd.erase (n : Int)
      have hm : (p.erase (n : Int))[k] ∈ p.erase (n : Int) := List.getElem_mem _
      have hm2 := (hnd.mem_erase_iff).1 hm
      obtain ⟨i, hi, e⟩ := List.getElem_of_mem hm2.2
      have hb := h i hi
      refine ⟨by rw [← e]; exact hb.1, by have := hm2.1; rw [← e] at this ⊢; omega, fun hin => ?_⟩
      rw [List.mem_take_iff_getElem] at hin
      obtain ⟨i', hi', e'⟩ := hin
      rw [List.nodup_iff_pairwise_ne, List.pairwise_iff_getElem] at hnd'
      exact hnd' i' k (by omega) hk (by omega) e'
    have h2 : p.length ≤ (p.erase (n : Int)).length + 1 := by
      rw [List.length_erase]; split <;> omega
    omega


end Go.Proofs.YthcomgnokkndgaaDoor
