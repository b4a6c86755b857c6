/- The shortfall of a set, counted from either side: plain lists. -/
import Derived.Test.YthcomgnokkndgaaDoorSets
import Derived.Test.YthcomgnokkndgaaDoorQuota
namespace Go.Proofs.YthcomgnokkndgaaDoor
open Go.RowKit

theorem setP_lt {xs : List Int} {lo hi : Int} (h : SetP xs lo hi) : ∀ j (hj : j < xs.length) i (hij : i < j), xs[i] < xs[j]
  | 0, _, _, hij => absurd hij (by omega)
  | j + 1, hj, i, hij => by
    have h1 := (h (j + 1) hj).2 (by omega)
    simp only [Nat.add_sub_cancel] at h1
    by_cases e : i = j
    · subst e; omega
    · have := setP_lt h j (by omega) i (by omega); omega
theorem setP_pair {xs : List Int} {lo hi : Int} (h : SetP xs lo hi) : xs.Pairwise (· < ·) := by
  rw [List.pairwise_iff_getElem]; intro i j hi hj hij; exact setP_lt h j hj i hij
theorem setP_nodup {xs : List Int} {lo hi : Int} (h : SetP xs lo hi) : xs.Nodup := (setP_pair h).imp (fun h e => by omega)
theorem setP_mem {xs : List Int} {lo hi : Int} (h : SetP xs lo hi) {x : Int} (hx : x ∈ xs) : lo ≤ x ∧ x ≤ hi := by
  obtain ⟨i, hi, rfl⟩ := List.getElem_of_mem hx
  exact (h i hi).1
theorem setP_ge {xs : List Int} {hi : Int} (h : SetP xs 0 hi) : ∀ j (hj : j < xs.length), (j : Int) ≤ xs[j]
  | 0, hj => (h 0 hj).1.1
  | j + 1, hj => by
    have h1 := setP_ge h j (by omega)
    have h2 := setP_lt h (j + 1) hj j (by omega)
    omega
theorem setP_len {xs : List Int} {hi : Int} (h : SetP xs 0 hi) (h0 : -1 ≤ hi) : (xs.length : Int) ≤ hi + 1 := by
  by_cases e : 0 < xs.length
  · have h1 := setP_ge h (xs.length - 1) (by omega)
    have h2 := (h (xs.length - 1) (by omega)).1.2
    omega
  · omega
theorem setP_of {xs : List Int} {lo hi : Int} (h1 : xs.Pairwise (· < ·)) (h2 : ∀ x ∈ xs, lo ≤ x ∧ x ≤ hi) : SetP xs lo hi := by
  intro k hk
  refine ⟨h2 _ (List.getElem_mem hk), fun h0 => ?_⟩
  have := (List.pairwise_iff_getElem.1 h1) (k - 1) k (by omega) hk (by omega)
  omega

/-- How many of a list lie in a set. -/
def cntI (set q : List Int) : Nat := (q.filter fun m => decide (m ∈ set)).length
theorem cntI_le (set q : List Int) : cntI set q ≤ q.length := List.length_filter_le _ _
theorem cntI_take (set q : List Int) (k : Nat) (h : k < q.length) : cntI set (q.take (k + 1)) = if decide (q[k] ∈ set) then cntI set (q.take k) + 1 else cntI set (q.take k) := by
  unfold cntI
  rw [List.take_succ_eq_append_getElem h, List.filter_append]
  by_cases e : q[k] ∈ set <;> simp [e]
theorem cnt_swap {a b : List Int} (ha : a.Nodup) (hb : b.Nodup) : cntI a b = cntI b a := by
  unfold cntI
  apply List.Perm.length_eq
  refine (List.perm_ext_iff_of_nodup (hb.filter _) (ha.filter _)).2 fun x => ?_
  simp only [List.mem_filter, decide_eq_true_eq]
  exact And.comm

/-- What a quota misses at n members. -/
def missQ (n : Int) (q : QD) : Int := max (max (q.2.1 - n) (n - q.2.2)) 0
def missed (L : List QD) (set : List Int) : Int := (L.map fun q => missQ (cntI set q.1) q).sum
theorem missed_take (L : List QD) (set : List Int) (k : Nat) (h : k < L.length) : missed (L.take (k + 1)) set = missed (L.take k) set + missQ (cntI set L[k].1) L[k] := by
  unfold missed
  rw [List.take_succ_eq_append_getElem h, List.map_append, List.sum_append]
  simp

/-- A quota over a pool whose greatest member is m. -/
def OkQ (m : Int) (q : QD) : Prop := 0 < q.1.length ∧ SetP q.1 0 m ∧ 0 ≤ q.2.1 ∧ q.2.1 ≤ q.2.2 ∧ q.2.2 ≤ 7
/-- Whether a pool is valid. -/
def OkP (pe sz : Int) (L : List QD) : Prop := (1 ≤ pe ∧ pe ≤ 7) ∧ (1 ≤ sz ∧ sz ≤ pe) ∧ L.length ≤ 6 ∧ ∀ k (h : k < L.length), OkQ (pe - 1) L[k]
open Classical in
noncomputable def okPB (pe sz : Int) (L : List QD) : Bool := decide (OkP pe sz L)
theorem okPB_iff {pe sz : Int} {L : List QD} {b : Bool} (h : okPB pe sz L = b) : b = true ↔ OkP pe sz L := by subst h; simp [okPB]

/-- What both sides count with: quotas of at most 7 members each, within bounds. -/
def CntQ (L : List QD) : Prop := L.length ≤ 6 ∧ ∀ k (h : k < L.length), L[k].1.length ≤ 7 ∧ L[k].1.Nodup ∧ 0 ≤ L[k].2.1 ∧ L[k].2.1 ≤ L[k].2.2 ∧ L[k].2.2 ≤ 7
theorem OkP.cnt {pe sz : Int} {L : List QD} (h : OkP pe sz L) : CntQ L := by
  obtain ⟨h1, h2, h3, h4⟩ := h
  refine ⟨h3, fun k hk => ?_⟩
  obtain ⟨a, b, c, d, e⟩ := h4 k hk
  have := setP_len b (by omega)
  exact ⟨by omega, setP_nodup b, c, d, e⟩
theorem missQ_bound {n : Int} {q : QD} (h0 : 0 ≤ n) (h1 : n ≤ 7) (h2 : 0 ≤ q.2.1) (h3 : q.2.2 ≤ 7) (h4 : q.2.1 ≤ q.2.2) : 0 ≤ missQ n q ∧ missQ n q ≤ 7 := by
  unfold missQ; omega
theorem missQ_two {n : Int} {q : QD} (h4 : q.2.1 ≤ q.2.2) : missQ n q = max 0 (q.2.1 - n) + max 0 (n - q.2.2) := by
  unfold missQ; omega
theorem missed_bound {L : List QD} (h : CntQ L) (set : List Int) : ∀ k, k ≤ L.length → 0 ≤ missed (L.take k) set ∧ missed (L.take k) set ≤ 7 * k
  | 0, _ => by simp [missed]
  | k + 1, hk => by
    have ih := missed_bound h set k (by omega)
    obtain ⟨a, b, c, d, e⟩ := h.2 k (by omega)
    have h1 := cntI_le set L[k].1
    have := missQ_bound (n := (cntI set L[k].1 : Int)) (q := L[k]) (by omega) (by omega) c e d
    rw [missed_take L set k (by omega)]
    omega
theorem missed_all {L : List QD} (h : CntQ L) (set : List Int) : 0 ≤ missed L set ∧ missed L set ≤ 42 := by
  have := missed_bound h set L.length (Nat.le_refl _)
  rw [List.take_length] at this
  have := h.1
  omega
end Go.Proofs.YthcomgnokkndgaaDoor
