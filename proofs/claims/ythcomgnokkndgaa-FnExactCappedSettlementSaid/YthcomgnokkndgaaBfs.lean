/- Whom a path leads to: the set that a search by breadth finds. Plain. -/
import Derived.Test.YthcomgnokkndgaaGraph
import Derived.Test.YthcomgnokkndgaaSortI
namespace Go.Proofs.Ythcomgnokkndgaa
open Go.RowKit

/-- Whom a way leads to from a, without the barred, through those who do not speak. -/
inductive Rt (L : List VD) (bar : List Int) (a : Int) : Int → Prop
  | here : a ∉ bar → Rt L bar a a
  | step {b c : Int} : Rt L bar a b → (At L b).1 = false → c ∈ (At L b).2 → c ∉ bar → Rt L bar a c

section
variable {L : List VD} {bar : List Int} {a : Int}
theorem Rt.notin {b : Int} (h : Rt L bar a b) : b ∉ bar := by cases h <;> assumption
theorem mem_range {t b : Int} (hok : OkV L) (h : t ∈ (At L b).2) : 0 ≤ t ∧ t < L.length := by
  obtain ⟨k, hk, e⟩ := List.getElem_of_mem h
  have := hok.range hk
  rw [e] at this; exact this
theorem Rt.range (hok : OkV L) (h0 : 0 ≤ a) (h1 : a < L.length) {b : Int} (h : Rt L bar a b) : 0 ≤ b ∧ b < L.length := by
  cases h with
  | here => exact ⟨h0, h1⟩
  | step _ _ hc _ => exact mem_range hok hc
theorem rch_iff : Rch L bar a ↔ ∃ s, Rt L bar a s ∧ (At L s).1 = true := by
  constructor
  · rintro ⟨m, x, h⟩
    have key : ∀ (m x : Nat) (b : Int), Rt L bar a b → Wk L (fun _ => 1) bar m x b → ∃ s, Rt L bar a s ∧ (At L s).1 = true := by
      intro m
      induction m with
      | zero => intro x b hb h; exact ⟨b, hb, h.2.1⟩
      | succ m ih =>
        intro x b hb h
        obtain ⟨_, h2, k, hk, h3, h4⟩ := h
        exact ih _ _ (hb.step h2 (List.getElem_mem _) h4.notin) h4
    exact key m x a (.here h.notin) h
  · rintro ⟨s, h, hs⟩
    have key : ∀ b, Rt L bar a b → Rch L bar b → Rch L bar a := by
      intro b hb
      induction hb with
      | here _ => exact id
      | @step b c hb h1 h2 h3 ih =>
        rintro ⟨m, x, hw⟩
        obtain ⟨k, hk, e⟩ := List.getElem_of_mem h2
        refine ih ⟨m + 1, 1 + x, hb.notin, h1, k, hk, Nat.le_add_right 1 x, ?_⟩
        rw [e]; simpa using hw
    exact key s h ⟨0, 0, h.notin, hs, rfl⟩

/-- The search: V has been seen, Q is open. -/
structure Bfs (L : List VD) (bar : List Int) (a : Int) (V Q : List Int) : Prop where
  vrt : ∀ x ∈ V, Rt L bar a x
  qok : ∀ x ∈ Q, (x ∈ bar ∨ Rt L bar a x) ∧ 0 ≤ x ∧ x < L.length
  start : a ∈ bar ∨ a ∈ V ∨ a ∈ Q
  clos : ∀ b ∈ V, (At L b).1 = false → ∀ c ∈ (At L b).2, c ∈ bar ∨ c ∈ V ∨ c ∈ Q
  nd : ∀ k (h : k < V.length), 0 ≤ V[k] ∧ V[k] < L.length ∧ V[k] ∉ V.take k
theorem Bfs.first (h0 : 0 ≤ a) (h1 : a < L.length) : Bfs L bar a [] [a] :=
  ⟨fun x h => (by cases h), fun x h => (by
    have e := List.mem_singleton.1 h
    subst e
    refine ⟨?_, h0, h1⟩
    by_cases hb : x ∈ bar
    · exact .inl hb
    · exact .inr (.here hb)), .inr (.inr (List.mem_singleton.2 rfl)), fun b h => (by cases h), fun k h => (by simp at h)⟩
theorem Bfs.skip {V Q : List Int} {x : Int} (h : Bfs L bar a V (x :: Q)) (hx : x ∈ bar ++ V) : Bfs L bar a V Q := by
  have hx' := List.mem_append.1 hx
  have go : ∀ c, c ∈ bar ∨ c ∈ V ∨ c ∈ x :: Q → c ∈ bar ∨ c ∈ V ∨ c ∈ Q := by
    rintro c (h | h | h)
    · exact .inl h
    · exact .inr (.inl h)
    · rcases List.mem_cons.1 h with e | h
      · subst e; rcases hx' with h | h
        · exact .inl h
        · exact .inr (.inl h)
      · exact .inr (.inr h)
  exact ⟨h.vrt, fun y hy => h.qok y (List.mem_cons_of_mem _ hy), go _ h.start, fun b hb hs c hc => go _ (h.clos b hb hs c hc), h.nd⟩
theorem Bfs.snoc_nd {V Q : List Int} {x : Int} (h : Bfs L bar a V (x :: Q)) (hx : x ∉ bar ++ V) : ∀ k (hk : k < (V ++ [x]).length), 0 ≤ (V ++ [x])[k] ∧ (V ++ [x])[k] < L.length ∧ (V ++ [x])[k] ∉ (V ++ [x]).take k := by
  intro k hk
  by_cases hkp : k < V.length
  · rw [List.getElem_append_left hkp, List.take_append_of_le_length (by omega)]; exact h.nd k hkp
  · have : k = V.length := by simp at hk; omega
    subst this
    rw [List.getElem_append_right (Nat.le_refl _)]
    simp only [Nat.sub_self, List.getElem_cons_zero]
    have hq := (h.qok x (List.mem_cons_self ..)).2
    exact ⟨hq.1, hq.2, by rw [List.take_append_of_le_length (Nat.le_refl _), List.take_length]; exact fun e => hx (List.mem_append_right _ e)⟩
theorem Bfs.few {V Q : List Int} (h : Bfs L bar a V Q) : V.length ≤ L.length := nodup_length L.length V h.nd
theorem Bfs.visit (hok : OkV L) {V Q : List Int} {x : Int} (h : Bfs L bar a V (x :: Q)) (hx : x ∉ bar ++ V) (R : List Int) (hR : ((At L x).1 = true ∧ R = []) ∨ ((At L x).1 = false ∧ R = (At L x).2)) : Bfs L bar a (V ++ [x]) (Q ++ R) := by
  have hxb : x ∉ bar := fun e => hx (List.mem_append_left _ e)
  have hrt : Rt L bar a x := by
    rcases (h.qok x (List.mem_cons_self ..)).1 with e | e
    · exact absurd e hxb
    · exact e
  have go : ∀ c, c ∈ bar ∨ c ∈ V ∨ c ∈ x :: Q → c ∈ bar ∨ c ∈ V ++ [x] ∨ c ∈ Q ++ R := by
    rintro c (h | h | h)
    · exact .inl h
    · exact .inr (.inl (List.mem_append_left _ h))
    · rcases List.mem_cons.1 h with e | h
      · subst e; exact .inr (.inl (List.mem_append_right _ (List.mem_singleton.2 rfl)))
      · exact .inr (.inr (List.mem_append_left _ h))
  refine ⟨fun y hy => ?_, fun y hy => ?_, go _ h.start, fun b hb hs c hc => ?_, h.snoc_nd hx⟩
  · rcases List.mem_append.1 hy with e | e
    · exact h.vrt y e
    · rw [List.mem_singleton.1 e]; exact hrt
  · rcases List.mem_append.1 hy with e | e
    · exact h.qok y (List.mem_cons_of_mem _ e)
    · rcases hR with ⟨_, rfl⟩ | ⟨hs, rfl⟩
      · cases e
      · refine ⟨?_, mem_range hok e⟩
        by_cases hb : y ∈ bar
        · exact .inl hb
        · exact .inr (hrt.step hs e hb)
  · rcases List.mem_append.1 hb with e | e
    · exact go _ (h.clos b e hs c hc)
    · have := List.mem_singleton.1 e
      subst this
      rcases hR with ⟨hs', rfl⟩ | ⟨_, rfl⟩
      · rw [hs] at hs'; cases hs'
      · exact .inr (.inr (List.mem_append_right _ hc))
theorem Bfs.all {V : List Int} (h : Bfs L bar a V []) (x : Int) : x ∈ V ↔ Rt L bar a x := by
  refine ⟨h.vrt x, fun hx => ?_⟩
  induction hx with
  | here hn =>
    rcases h.start with e | e | e
    · exact absurd e hn
    · exact e
    · cases e
  | step _ hs hc hn ih =>
    rcases h.clos _ ih hs _ hc with e | e | e
    · exact absurd e hn
    · exact e
    · cases e
end

/-- The members who speak to whom a way leads, rising. -/
noncomputable def endsL (L : List VD) (bar : List Int) (a : Int) : List Int := by
  classical exact ((List.range L.length).map fun i : Nat => (i : Int)).filter fun s => decide ((At L s).1 = true ∧ Rt L bar a s)
theorem range_rising (n : Nat) : ((List.range n).map fun i : Nat => (i : Int)).Pairwise (· < ·) := by
  rw [List.pairwise_map]
  exact List.pairwise_lt_range.imp fun h => by omega
theorem endsL_rising (L : List VD) (bar : List Int) (a : Int) : (endsL L bar a).Pairwise (· < ·) := by
  unfold endsL; exact (range_rising _).filter _
theorem mem_endsL {L : List VD} (hok : OkV L) {bar : List Int} {a : Int} (h0 : 0 ≤ a) (h1 : a < L.length) (s : Int) : s ∈ endsL L bar a ↔ (At L s).1 = true ∧ Rt L bar a s := by
  unfold endsL
  rw [List.mem_filter]
  simp only [decide_eq_true_eq, List.mem_map, List.mem_range, and_iff_right_iff_imp]
  rintro ⟨_, h⟩
  have := h.range hok h0 h1
  exact ⟨s.toNat, by omega, by omega⟩
theorem endsL_nil {L : List VD} (hok : OkV L) {bar : List Int} {a : Int} (h0 : 0 ≤ a) (h1 : a < L.length) : (endsL L bar a).length = 0 ↔ ¬ Rch L bar a := by
  rw [rch_iff, List.length_eq_zero_iff]
  constructor
  · rintro e ⟨s, h, hs⟩
    have := (mem_endsL hok h0 h1 s).2 ⟨hs, h⟩
    rw [e] at this; cases this
  · intro h
    rcases hE : endsL L bar a with _ | ⟨s, l⟩
    · rfl
    · have := (mem_endsL hok h0 h1 s).1 (by rw [hE]; exact List.mem_cons_self ..)
      exact absurd ⟨s, this.2, this.1⟩ h
theorem Bfs.ends {L : List VD} {bar : List Int} {a : Int} (hok : OkV L) (h0 : 0 ≤ a) (h1 : a < L.length) {V : List Int} (h : Bfs L bar a V []) : sortI (V.filter fun s => (At L s).1) = endsL L bar a := by
  refine rising_unique _ _ (sortI_rising ?_) (endsL_rising _ _ _) fun x => ?_
  · exact (nodup_of_take fun k hk => (h.nd k hk).2.2).filter _
  · rw [(sortI_perm _).mem_iff, List.mem_filter, mem_endsL hok h0 h1, h.all]
    constructor
    · rintro ⟨p, q⟩; exact ⟨q, p⟩
    · rintro ⟨p, q⟩; exact ⟨q, p⟩
end Go.Proofs.Ythcomgnokkndgaa
