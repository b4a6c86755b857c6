/- Whom something of a ballot comes to. Plain. -/
import Derived.Test.YtbbppkcdgcajjaaShares
import Derived.Test.YtbbppkcdgcajjaaBfs
namespace Go.Proofs.Ytbbppkcdgcajjaa
open Go.RowKit

/-- a passes a part to b. -/
def Edge (L : List SD) (a b : Int) : Prop := ∃ i, ∃ h : i < L.length, a = (i : Int) ∧ ∃ k, ∃ hk : k < L[i].length, L[i][k].1 = b
inductive Gets (L : List SD) (m : Int) : Int → Prop
  | here : Gets L m m
  | step {b c : Int} : Gets L m b → Edge L b c → Gets L m c
section
variable {L : List SD} {m : Int}
theorem Edge.range (hok : OkS L) {a b : Int} (h : Edge L a b) : 0 ≤ b ∧ b < L.length := by
  obtain ⟨i, hi, _, k, hk, rfl⟩ := h
  have := ((hok.1 i hi).1 k hk).1
  omega
theorem Edge.at {i : Nat} (hi : i < L.length) {b : Int} : Edge L (i : Int) b ↔ ∃ k, ∃ hk : k < L[i].length, L[i][k].1 = b := by
  constructor
  · rintro ⟨j, hj, e, k, hk, h⟩
    have : i = j := by omega
    subst this
    exact ⟨k, hk, h⟩
  · rintro ⟨k, hk, h⟩; exact ⟨i, hi, rfl, k, hk, h⟩
theorem Gets.range (hok : OkS L) (h0 : 0 ≤ m) (h1 : m < L.length) {b : Int} (h : Gets L m b) : 0 ≤ b ∧ b < L.length := by
  cases h with
  | here => exact ⟨h0, h1⟩
  | step _ he => exact he.range hok
end
noncomputable def getsL (L : List SD) (m : Int) : List Int := by
  classical exact ((List.range L.length).map fun i : Nat => (i : Int)).filter fun b => decide (Gets L m b)
theorem getsL_rising (L : List SD) (m : Int) : (getsL L m).Pairwise (· < ·) := by
  unfold getsL; exact (range_rising _).filter _
theorem mem_getsL {L : List SD} (hok : OkS L) {m : Int} (h0 : 0 ≤ m) (h1 : m < L.length) (b : Int) : b ∈ getsL L m ↔ Gets L m b := by
  unfold getsL
  simp only [List.mem_filter, List.mem_map, List.mem_range, decide_eq_true_eq]
  refine ⟨fun h => h.2, fun h => ⟨?_, h⟩⟩
  have := h.range hok h0 h1
  exact ⟨b.toNat, by omega, by omega⟩
theorem getsL_few (L : List SD) (m : Int) : (getsL L m).length ≤ L.length := by
  unfold getsL
  refine Nat.le_trans (List.length_filter_le _ _) (by simp)

/-- The search by breadth: V has been found, the rows before i have been looked at, and k items of row i. -/
structure Fnd (L : List SD) (m : Int) (V : List Int) (i k : Nat) : Prop where
  rt : ∀ x ∈ V, Gets L m x
  nd : ∀ k (h : k < V.length), 0 ≤ V[k] ∧ V[k] < L.length ∧ V[k] ∉ V.take k
  start : m ∈ V
  clos : ∀ j (h : j < V.length), j < i → ∀ c, Edge L V[j] c → c ∈ V
  cur : ∀ (h : i < V.length) (h2 : V[i].toNat < L.length) j (hj : j < L[V[i].toNat].length), j < k → L[V[i].toNat][j].1 ∈ V
section
variable {L : List SD} {m : Int}
theorem Fnd.first (h0 : 0 ≤ m) (h1 : m < L.length) : Fnd L m [m] 0 0 :=
  ⟨fun x h => (by rw [List.mem_singleton.1 h]; exact .here), fun k h => (by have e : k = 0 := by simpa using h
                                                                            subst e; simpa using ⟨h0, h1⟩), List.mem_singleton.2 rfl, fun j _ hj => absurd hj (by omega), fun _ _ j _ hj => absurd hj (by omega)⟩
theorem Fnd.few {V : List Int} {i k : Nat} (h : Fnd L m V i k) : V.length ≤ L.length := nodup_length L.length V h.nd
theorem Fnd.skip {V : List Int} {i k : Nat} (h : Fnd L m V i k) (hi : i < V.length) (h2 : V[i].toNat < L.length) (hk : k < L[V[i].toNat].length) (hx : L[V[i].toNat][k].1 ∈ V) : Fnd L m V i (k + 1) :=
  ⟨h.rt, h.nd, h.start, h.clos, fun hi' h2' j hj hjk => by
    by_cases e : j = k
    · subst e; exact hx
    · exact h.cur hi' h2' j hj (by omega)⟩
theorem Fnd.add (hok : OkS L) {V : List Int} {i k : Nat} (h : Fnd L m V i k) (hi : i < V.length) (h2 : V[i].toNat < L.length) (hk : k < L[V[i].toNat].length) (hx : L[V[i].toNat][k].1 ∉ V) : Fnd L m (V ++ [L[V[i].toNat][k].1]) i (k + 1) := by
  have hr := h.nd i hi
  have he : Edge L V[i] L[V[i].toNat][k].1 := ⟨V[i].toNat, h2, by omega, k, hk, rfl⟩
  have her := he.range hok
  refine ⟨fun x hx' => ?_, fun j hj => ?_, List.mem_append_left _ h.start, fun j hj hji c hc => ?_, fun hi' h2' j hj hjk => ?_⟩
  · rcases List.mem_append.1 hx' with hx' | hx'
    · exact h.rt x hx'
    · rw [List.mem_singleton.1 hx']; exact (h.rt _ (List.getElem_mem hi)).step he
  · by_cases e : j < V.length
    · rw [List.getElem_append_left e, List.take_append_of_le_length (by omega)]; exact h.nd j e
    · have e2 : j = V.length := by simp at hj; omega
      subst e2
      simp only [List.getElem_concat_length, List.take_left']
      exact ⟨her.1, her.2, hx⟩
  · have e : j < V.length := by omega
    rw [List.getElem_append_left e] at hc
    exact List.mem_append_left _ (h.clos j e hji c hc)
  · have ev : (V ++ [L[V[i].toNat][k].1])[i] = V[i] := List.getElem_append_left hi
    by_cases e : j = k
    · subst e; simp only [ev]; exact List.mem_append_right _ (List.mem_singleton.2 rfl)
    · simp only [ev] at hj ⊢
      exact List.mem_append_left _ (h.cur hi h2 j hj (by omega))
theorem Fnd.next {V : List Int} {i k : Nat} (h : Fnd L m V i k) (hi : i < V.length) (h2 : V[i].toNat < L.length) (hk : L[V[i].toNat].length ≤ k) : Fnd L m V (i + 1) 0 :=
  ⟨h.rt, h.nd, h.start, fun j hj hji c hc => by
    by_cases e : j = i
    · subst e
      obtain ⟨n, hn, e, q, hq, rfl⟩ := hc
      have e2 : V[j].toNat = n := by omega
      subst e2
      exact h.cur hi h2 q hq (by omega)
    · exact h.clos j hj (by omega) c hc, fun _ _ j _ hj => absurd hj (by omega)⟩
theorem Fnd.all {V : List Int} {i k : Nat} (h : Fnd L m V i k) (hi : V.length ≤ i) (x : Int) : x ∈ V ↔ Gets L m x := by
  refine ⟨h.rt x, fun hx => ?_⟩
  induction hx with
  | here => exact h.start
  | @step b c hb he ih =>
    obtain ⟨j, hj, e⟩ := List.getElem_of_mem ih
    rw [← e] at he
    exact h.clos j hj (by omega) c he
theorem Fnd.sorted (hok : OkS L) (h0 : 0 ≤ m) (h1 : m < L.length) {V : List Int} {i k : Nat} (h : Fnd L m V i k) (hi : V.length ≤ i) : sortI V = getsL L m := by
  refine rising_unique _ _ (sortI_rising (nodup_of_take fun k hk => (h.nd k hk).2.2)) (getsL_rising L m) fun x => ?_
  rw [(sortI_perm V).mem_iff, mem_getsL hok h0 h1, h.all hi]
end

/-- The reference's rounds: before item k of row i in round r. -/
def ShutB (L : List SD) (bs : List Bool) : Prop := ∀ a b : Nat, bs[a]? = some true → Edge L (a : Int) (b : Int) → bs[b]? = some true
structure Spr (L : List SD) (m : Int) (r i k : Nat) (bs : List Bool) : Prop where
  len : bs.length = L.length
  snd : ∀ j : Nat, bs[j]? = some true → Gets L m j
  st : bs[m.toNat]? = some true
  prog : ShutB L bs ∨ r + 2 ≤ bs.count true ∨ (r + 1 ≤ bs.count true ∧ ∀ a b : Nat, (a < i ∨ (a = i ∧ b < k)) → bs[a]? = some true → Edge L (a : Int) (b : Int) → bs[b]? = some true)
section
variable {L : List SD} {m : Int}
theorem Spr.first {bs : List Bool} (h0 : 0 ≤ m) (hl : bs.length = L.length) (h : ∀ j : Nat, bs[j]? = some true ↔ j = m.toNat) : Spr L m 0 0 0 bs := by
  refine ⟨hl, fun j hj => ?_, (h _).2 rfl, .inr (.inr ⟨?_, fun a b hab => by omega⟩)⟩
  · have := (h j).1 hj
    subst this
    rw [Int.toNat_of_nonneg h0]; exact .here
  · have := List.mem_of_getElem? ((h m.toNat).2 rfl)
    exact List.count_pos_iff.2 this
theorem Spr.stay {r i k : Nat} {bs : List Bool} (h : Spr L m r i k bs) (hn : bs[i]? ≠ some true ∨ ¬ Edge L (i : Int) (k : Int)) : Spr L m r i (k + 1) bs := by
  refine ⟨h.len, h.snd, h.st, ?_⟩
  rcases h.prog with h1 | h1 | ⟨h1, h2⟩
  · exact .inl h1
  · exact .inr (.inl h1)
  · refine .inr (.inr ⟨h1, fun a b hab ha he => ?_⟩)
    by_cases e : a = i ∧ b = k
    · obtain ⟨rfl, rfl⟩ := e
      rcases hn with hn | hn
      · exact absurd ha hn
      · exact absurd he hn
    · exact h2 a b (by omega) ha he
theorem Spr.set {r i k : Nat} {bs : List Bool} (h : Spr L m r i k bs) (hk : k < bs.length) (hi : bs[i]? = some true) (he : Edge L (i : Int) (k : Int)) : Spr L m r i (k + 1) (bs.set k true) := by
  by_cases hb : bs[k] = true
  · have e : bs.set k true = bs := by rw [← hb]; exact List.set_getElem_self hk
    rw [e]
    refine ⟨h.len, h.snd, h.st, ?_⟩
    rcases h.prog with h1 | h1 | ⟨h1, h2⟩
    · exact .inl h1
    · exact .inr (.inl h1)
    · refine .inr (.inr ⟨h1, fun a b hab ha he' => ?_⟩)
      by_cases e : b = k
      · subst e; rw [List.getElem?_eq_getElem hk, hb]
      · exact h2 a b (by omega) ha he'
  · have hbf : bs[k] = false := by simpa using hb
    have hc : (bs.set k true).count true = bs.count true + 1 := by
      rw [List.count_set hk, hbf]; simp
    have hup : ∀ j : Nat, bs[j]? = some true → (bs.set k true)[j]? = some true := by
      intro j hj
      rw [List.getElem?_set]; split
      · rename_i e; subst e; simp [hk]
      · exact hj
    refine ⟨by rw [List.length_set]; exact h.len, fun j hj => ?_, hup _ h.st, ?_⟩
    · rw [List.getElem?_set] at hj
      split at hj
      · rename_i e; subst e; exact (h.snd i hi).step he
      · exact h.snd j hj
    · rcases h.prog with h1 | h1 | ⟨h1, h2⟩
      · have := h1 i k hi he
        rw [List.getElem?_eq_getElem hk, hbf] at this; simp at this
      · exact .inr (.inl (by omega))
      · exact .inr (.inl (by omega))
theorem Spr.next (hok : OkS L) {r i k : Nat} {bs : List Bool} (h : Spr L m r i k bs) (hk : L.length ≤ k) : Spr L m r (i + 1) 0 bs := by
  refine ⟨h.len, h.snd, h.st, ?_⟩
  rcases h.prog with h1 | h1 | ⟨h1, h2⟩
  · exact .inl h1
  · exact .inr (.inl h1)
  · refine .inr (.inr ⟨h1, fun a b hab ha he => h2 a b ?_ ha he⟩)
    have := he.range hok
    omega
theorem Spr.round {r i k : Nat} {bs : List Bool} (h : Spr L m r i k bs) (hi : L.length ≤ i) : Spr L m (r + 1) 0 0 bs := by
  refine ⟨h.len, h.snd, h.st, ?_⟩
  rcases h.prog with h1 | h1 | ⟨h1, h2⟩
  · exact .inl h1
  · exact .inr (.inr ⟨by omega, fun a b hab => by omega⟩)
  · refine .inl fun a b ha he => h2 a b (.inl ?_) ha he
    obtain ⟨j, hj, e, _⟩ := he
    omega
theorem Spr.final (h0 : 0 ≤ m) {bs : List Bool} (h : Spr L m L.length 0 0 bs) (j : Nat) : bs[j]? = some true ↔ Gets L m j := by
  refine ⟨h.snd j, fun hg => ?_⟩
  have hs : ShutB L bs := by
    have hc : bs.count true ≤ bs.length := List.count_le_length
    have := h.len
    rcases h.prog with h1 | h1 | ⟨h1, h2⟩
    · exact h1
    · omega
    · omega
  have key : ∀ x : Int, Gets L m x → 0 ≤ x → bs[x.toNat]? = some true := by
    intro x hx
    induction hx with
    | here => exact fun _ => h.st
    | @step b c hb he ih =>
      intro hc
      obtain ⟨i, hi, rfl, hr⟩ := he
      have h1 := ih (by omega)
      rw [Int.toNat_natCast] at h1
      refine hs i c.toNat h1 ?_
      rw [Int.toNat_of_nonneg hc]
      exact ⟨i, hi, rfl, hr⟩
  have := key j hg (by omega)
  rwa [Int.toNat_natCast] at this
end
/-- The set of the indices that are true. -/
def setB (bs : List Bool) (n : Nat) : List Int := ((List.range n).filter fun j => bs.getD j false).map fun j : Nat => (j : Int)
theorem setB_succ (bs : List Bool) (n : Nat) : setB bs (n + 1) = setB bs n ++ (if bs.getD n false then [(n : Int)] else []) := by
  simp only [setB, List.range_succ, List.filter_append, List.map_append]
  congr 1
  rw [List.getD_eq_getElem?_getD]
  cases h : bs[n]?.getD false <;> simp [List.filter, h]
theorem setB_length (bs : List Bool) (n : Nat) : (setB bs n).length ≤ n := by
  unfold setB
  rw [List.length_map]
  exact Nat.le_trans (List.length_filter_le _ _) (by simp)
theorem setB_gets {L : List SD} {m : Int} {bs : List Bool} (h : ∀ j : Nat, bs[j]? = some true ↔ Gets L m j) : setB bs L.length = getsL L m := by
  unfold setB getsL
  rw [List.filter_map]
  congr 1
  refine List.filter_congr fun j _ => ?_
  have := h j
  simp only [Function.comp, List.getD_eq_getElem?_getD]
  by_cases hg : Gets L m j
  · simp [this.2 hg, hg]
  · have hn : bs[j]? ≠ some true := fun e => hg (this.1 e)
    simp only [hg, decide_false]
    cases hb : bs[j]? with
    | none => rfl
    | some b => cases b <;> simp_all
end Go.Proofs.Ytbbppkcdgcajjaa
