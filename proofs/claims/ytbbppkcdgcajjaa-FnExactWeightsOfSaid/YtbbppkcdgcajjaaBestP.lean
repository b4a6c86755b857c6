/- What is told of the best paths. Plain. -/
import Derived.Test.YtbbppkcdgcajjaaBestJ
import Derived.Test.YtbbppkcdgcajjaaBetter2
import Derived.Test.YtbbppkcdgcajjaaSilence
namespace Go.Proofs.Ytbbppkcdgcajjaa
open Go.RowKit

section
variable {L : List VD}
theorem firstK_mem {xs : List Int} {good : Nat → Int → Prop} {t : Int} (h : firstK xs good = some t) : t ∈ xs := by
  unfold firstK at h
  rw [Option.map_eq_some_iff] at h
  obtain ⟨k, h1, rfl⟩ := h
  have := List.mem_of_find?_eq_some h1
  have hk : k < xs.length := by simpa using this
  have e : xs.getD k 0 = xs[k] := by simp [hk]
  rw [e]; exact List.getElem_mem hk
theorem pathBy_range (hok : OkV L) {next : List Int → Int → Option Int} (hn : ∀ p a t, next p a = some t → t ∈ (At L a).2) : ∀ (f : Nat) (p : List Int), (∀ x ∈ p, 0 ≤ x ∧ x < L.length) → ∀ x ∈ pathBy L next f p, 0 ≤ x ∧ x < L.length := by
  intro f
  induction f with
  | zero => intro p hp; exact hp
  | succ f ih =>
    intro p hp
    rw [pathBy]
    split
    · exact hp
    · split
      · exact hp
      · rename_i t ht
        refine ih _ fun x hx => ?_
        rcases List.mem_append.1 hx with hx | hx
        · exact hp x hx
        · rw [List.mem_singleton.1 hx]; exact mem_range hok (hn _ _ _ ht)
theorem best_range (hok : OkV L) {rule m : Int} (h0 : 0 ≤ m) (h1 : m < L.length) : ∀ x ∈ best L rule m, 0 ≤ x ∧ x < L.length := by
  unfold best
  have h : ∀ x ∈ [m], 0 ≤ x ∧ x < L.length := fun x hx => by rw [List.mem_singleton.1 hx]; exact ⟨h0, h1⟩
  split
  · split
    · exact pathBy_range hok (fun p a t ht => firstK_mem ht) 48 _ h
    · exact pathBy_range hok (fun p a t ht => firstK_mem ht) 48 _ h
  · intro x hx; cases hx
theorem PathR.yes {R : List Int} {m : Int} {w w' : World} {e : Ending} (h : PathR L R m w e w') (hr : Rch L [] m) : ∃ g c, e = .returned (.slice (some ⟨g, 0, none⟩) R.length c) ∧ OwnI w.heap.size w'.heap.size w' (.slice (some ⟨g, 0, none⟩) R.length c) R ∧ Ext w w' := by
  obtain ⟨⟨hn, _⟩ | ⟨_, g, c, he, ho⟩, hx⟩ := h
  · exact absurd hr hn
  · exact ⟨g, c, he, ho, hx⟩
theorem PathR.no {R : List Int} {m : Int} {w w' : World} {e : Ending} (h : PathR L R m w e w') (hr : ¬ Rch L [] m) : e = .returned (.slice none 0 0) ∧ R = [] ∧ Ext w w' := by
  obtain ⟨⟨_, he, hR⟩ | ⟨hn, _⟩, hx⟩ := h
  · exact ⟨he, hR, hx⟩
  · exact absurd hn hr
theorem PathR.any {R : List Int} {m : Int} {w w' : World} {e : Ending} (h : PathR L R m w e w') : ∃ p c, e = .returned (.slice p R.length c) ∧ RI w' (.slice p R.length c) R ∧ Ext w w' := by
  by_cases hr : Rch L [] m
  · obtain ⟨g, c, he, ho, hx⟩ := h.yes hr; exact ⟨_, c, he, ho.ri, hx⟩
  · obtain ⟨he, rfl, hx⟩ := h.no hr; exact ⟨none, 0, he, RI.nil _, hx⟩
end
theorem impl_bestPath (v : Value) (rule m : Int) (L : List VD) (R : List Int) (hR : best L rule m = R) (w : World) (h : VS w v L) (hs : Short L) (hok : OkV L) (hr : 0 ≤ rule ∧ rule ≤ 2) (h0 : 0 ≤ m) (h1 : m < L.length) :
    Calls Try.prog 83 #[v, .int .i64 rule, .int .i64 m] w (PathR L R m w) := by
  subst hR
  have hcase : rule = 0 ∨ rule = 1 ∨ rule = 2 := by omega
  rcases hcase with rfl | rfl | rfl
  · exact impl_bestPath_0 v m L _ w h hs hok h0 h1 best_no (fun h => wayC_start (rule := 0) hok h0 h1 h (by decide))
  · exact impl_bestPath_1 v m L _ w h hs hok h0 h1 best_no (fun h => wayC_start (rule := 1) hok h0 h1 h (by decide))
  · exact impl_bestPath_2 v m L _ w h hs hok h0 h1 best_no (fun h => wayD_start hok h0 h1 h)
theorem spec_bestPath (v : Value) (rule m : Int) (L : List VD) (R : List Int) (hR : best L rule m = R) (w : World) (h : VS w v L) (hok : OkV L) (hr : 0 ≤ rule ∧ rule ≤ 2) (h0 : 0 ≤ m) (h1 : m < L.length) :
    Calls Try.prog 79 #[v, .int .i64 rule, .int .i64 m] w (PathR L R m w) := by
  subst hR
  exact spec_l02Best v rule m L w h hok hr h0 h1

def PV (L : List VD) (rule m : Int) : Prop := MemP L m ∧ 0 ≤ rule ∧ rule ≤ 2
def SV (L : List VD) (rule : Int) : Prop := OkV L ∧ 0 ≤ rule ∧ rule ≤ 2
open Classical in
noncomputable def pofB (L : List VD) (rule m : Int) : Bool := decide (PV L rule m ∧ Rch L [] m)
open Classical in
noncomputable def pofX (L : List VD) (rule m : Int) : List Int := if PV L rule m then best L rule m else []
open Classical in
theorem pof_no {L : List VD} {rule m : Int} (h : ¬ PV L rule m) : pofB L rule m = false ∧ pofX L rule m = [] := by
  unfold pofB pofX; rw [if_neg h]; exact ⟨decide_eq_false fun hh => h hh.1, rfl⟩
open Classical in
theorem pof_yes {L : List VD} {rule m : Int} (h : PV L rule m) (hr : Rch L [] m) : pofB L rule m = true ∧ pofX L rule m = best L rule m := by
  unfold pofB pofX; rw [if_pos h]; exact ⟨decide_eq_true ⟨h, hr⟩, rfl⟩
open Classical in
theorem pof_nil {L : List VD} {rule m : Int} (hr : ¬ Rch L [] m) : pofB L rule m = false ∧ pofX L rule m = [] := by
  unfold pofB pofX
  refine ⟨decide_eq_false fun hh => hr hh.2, ?_⟩
  split
  · exact best_no hr
  · rfl
theorem pofX_small {L : List VD} {rule m : Int} : (pofX L rule m).length ≤ 49 := by
  unfold pofX; split
  · exact best_len.1
  · simp
/-- Who passes. -/
noncomputable def passTo (L : List VD) (rule m : Int) (n : Nat) : List Int := ((List.range n).filter fun i : Nat => decide (m ∈ best L rule i)).map fun i : Nat => (i : Int)
theorem passTo_yes {L : List VD} {rule m : Int} {n : Nat} (h : m ∈ best L rule n) : passTo L rule m (n + 1) = passTo L rule m n ++ [(n : Int)] := by
  simp [passTo, List.range_succ, List.filter_append, h]
theorem passTo_no {L : List VD} {rule m : Int} {n : Nat} (h : m ∉ best L rule n) : passTo L rule m (n + 1) = passTo L rule m n := by
  simp [passTo, List.range_succ, List.filter_append, h]
theorem passTo_length (L : List VD) (rule m : Int) (n : Nat) : (passTo L rule m n).length ≤ n := by
  unfold passTo
  rw [List.length_map]
  exact Nat.le_trans (List.length_filter_le _ _) (by simp)
open Classical in
noncomputable def passB (L : List VD) (rule m : Int) : Bool := decide (PV L rule m)
open Classical in
noncomputable def passX (L : List VD) (rule m : Int) : List Int := if PV L rule m then passTo L rule m L.length else []
open Classical in
theorem pass_no {L : List VD} {rule m : Int} (h : ¬ PV L rule m) : passB L rule m = false ∧ passX L rule m = [] := by
  unfold passB passX; rw [if_neg h]; exact ⟨decide_eq_false h, rfl⟩
open Classical in
theorem pass_yes {L : List VD} {rule m : Int} (h : PV L rule m) : passB L rule m = true ∧ passX L rule m = passTo L rule m L.length := by
  unfold passB passX; rw [if_pos h]; exact ⟨decide_eq_true h, rfl⟩
theorem passX_small {L : List VD} {rule m : Int} : (passX L rule m).length ≤ 12 := by
  unfold passX; split
  · rename_i h; exact Nat.le_trans (passTo_length L rule m _) h.1.1.2.2
  · simp
/-- With whom a ballot is settled. -/
noncomputable def endOf (L : List VD) (rule i : Int) : Int := ((best L rule i).getLast?).getD (-1)
theorem endOf_yes {L : List VD} {rule i : Int} {R : List Int} (hR : best L rule i = R) (h : R.length - 1 < R.length) : endOf L rule i = R[R.length - 1] := by
  unfold endOf; rw [hR, List.getLast?_eq_getElem?, List.getElem?_eq_getElem h]; rfl
theorem endOf_no {L : List VD} {rule i : Int} (h : ¬ Rch L [] i) : endOf L rule i = -1 := by
  unfold endOf; rw [best_no h]; rfl
theorem endOf_range {L : List VD} (hok : OkV L) {rule i : Int} (h0 : 0 ≤ i) (h1 : i < L.length) : -1 ≤ endOf L rule i ∧ endOf L rule i < L.length := by
  unfold endOf
  cases h : (best L rule i).getLast? with
  | none => simp; omega
  | some a =>
    have := best_range hok h0 h1 (rule := rule) a (List.mem_of_getLast? h)
    simp; omega
noncomputable def settTo (L : List VD) (rule : Int) (n : Nat) : List Int := (List.range n).map fun i : Nat => endOf L rule i
theorem settTo_succ (L : List VD) (rule : Int) (n : Nat) : settTo L rule (n + 1) = settTo L rule n ++ [endOf L rule n] := by simp [settTo, List.range_succ]
theorem settTo_length (L : List VD) (rule : Int) (n : Nat) : (settTo L rule n).length = n := by simp [settTo]
open Classical in
noncomputable def settB (L : List VD) (rule : Int) : Bool := decide (SV L rule)
open Classical in
noncomputable def settX (L : List VD) (rule : Int) : List Int := if SV L rule then settTo L rule L.length else []
open Classical in
theorem sett_no {L : List VD} {rule : Int} (h : ¬ SV L rule) : settB L rule = false ∧ settX L rule = [] := by
  unfold settB settX; rw [if_neg h]; exact ⟨decide_eq_false h, rfl⟩
open Classical in
theorem sett_yes {L : List VD} {rule : Int} (h : SV L rule) : settB L rule = true ∧ settX L rule = settTo L rule L.length := by
  unfold settB settX; rw [if_pos h]; exact ⟨decide_eq_true h, rfl⟩
theorem settX_small {L : List VD} {rule : Int} : (settX L rule).length ≤ 12 := by
  unfold settX; split
  · rename_i h; rw [settTo_length]; exact h.1.2.2
  · simp
/-- How many are settled with each. -/
def cntTo (E : List Int) (n k : Nat) : List Int := (List.range n).map fun j : Nat => ((E.take k).count (j : Int) : Int)
theorem cntTo_length (E : List Int) (n k : Nat) : (cntTo E n k).length = n := by simp [cntTo]
theorem cntTo_zero (E : List Int) (n : Nat) : cntTo E n 0 = List.replicate n 0 := by
  apply List.ext_getElem <;> simp [cntTo]
theorem cntTo_get (E : List Int) (n k j : Nat) (h : j < n) : (cntTo E n k)[j]'(by rw [cntTo_length]; exact h) = ((E.take k).count (j : Int) : Int) := by simp [cntTo]
theorem cntTo_neg {E : List Int} {n k : Nat} (hk : k < E.length) (h : E[k] < 0) : cntTo E n (k + 1) = cntTo E n k := by
  apply List.ext_getElem
  · simp [cntTo]
  · intro j h1 h2
    have hj : j < n := by simpa [cntTo] using h1
    rw [cntTo_get _ _ _ _ hj, cntTo_get _ _ _ _ hj, List.take_succ_eq_append_getElem hk, List.count_append]
    have : List.count (j : Int) [E[k]] = 0 := List.count_eq_zero_of_not_mem fun hm => by have := List.mem_singleton.1 hm; omega
    omega
theorem cntTo_add {E : List Int} {n k t : Nat} (hk : k < E.length) (h : E[k] = (t : Int)) (ht : t < n) : cntTo E n (k + 1) = (cntTo E n k).set t (((E.take k).count (t : Int) : Int) + 1) := by
  apply List.ext_getElem
  · simp [cntTo]
  · intro j h1 h2
    have hj : j < n := by simpa [cntTo] using h1
    rw [cntTo_get _ _ _ _ hj, List.getElem_set, List.take_succ_eq_append_getElem hk, List.count_append, h]
    split
    · rename_i e; subst e; simp
    · rename_i e
      rw [cntTo_get _ _ _ _ hj]
      have : List.count (j : Int) [(t : Int)] = 0 := List.count_eq_zero_of_not_mem fun hm => by have := List.mem_singleton.1 hm; omega
      omega
noncomputable def wgtX (L : List VD) (rule : Int) : List Int := by
  classical exact if SV L rule then cntTo (settTo L rule L.length) L.length L.length else []
open Classical in
theorem wgt_no {L : List VD} {rule : Int} (h : ¬ SV L rule) : settB L rule = false ∧ wgtX L rule = [] := by
  unfold settB wgtX; rw [if_neg h]; exact ⟨decide_eq_false h, rfl⟩
open Classical in
theorem wgt_yes {L : List VD} {rule : Int} (h : SV L rule) : settB L rule = true ∧ wgtX L rule = cntTo (settTo L rule L.length) L.length L.length := by
  unfold settB wgtX; rw [if_pos h]; exact ⟨decide_eq_true h, rfl⟩
theorem wgtX_small {L : List VD} {rule : Int} : (wgtX L rule).length ≤ 12 := by
  unfold wgtX; split
  · rename_i h; rw [cntTo_length]; exact h.1.2.2
  · simp
end Go.Proofs.Ytbbppkcdgcajjaa
