/- A text cut at each place of a byte: plain lists, and strings.Split by the kit's contract. -/
import Derived.Test.YthcomgnokkndgaaDoorReadF
import Derived.Test.YthcomgnokkndgaaDoorStr
import Derived.Test.YthcomgnokkndgaaDoorShS
import Derived.Lib.SplitLaws
import Derived.Lib.CountLaws
namespace Go.Proofs.YthcomgnokkndgaaDoor
open Go.RowKit

def splitL (c : UInt8) : List UInt8 → List (List UInt8)
  | [] => [[]]
  | x :: l => if x = c then [] :: splitL c l else match splitL c l with | [] => [[x]] | w :: r => (x :: w) :: r
theorem splitL_ne (c : UInt8) : ∀ l, splitL c l ≠ []
  | [] => by simp [splitL]
  | x :: l => by
    unfold splitL
    split
    · simp
    · split <;> simp
theorem splitL_none {c : UInt8} : ∀ {l : List UInt8}, c ∉ l → splitL c l = [l]
  | [], _ => rfl
  | x :: l, h => by
    simp only [List.mem_cons, not_or] at h
    unfold splitL
    rw [if_neg (fun e => h.1 e.symm), splitL_none h.2]
theorem splitL_some {c : UInt8} : ∀ {a b : List UInt8}, c ∉ a → splitL c (a ++ c :: b) = a :: splitL c b
  | [], b, _ => by
    rw [List.nil_append]
    unfold splitL
    rw [if_pos rfl]
    cases b <;> rfl
  | x :: a, b, h => by
    simp only [List.mem_cons, not_or] at h
    rw [List.cons_append]
    unfold splitL
    rw [if_neg (fun e => h.1 e.symm), splitL_some h.2]
    cases b <;> rfl
theorem splitL_join {c : UInt8} : ∀ {X : List (List UInt8)}, X ≠ [] → (∀ x ∈ X, c ∉ x) → splitL c (Lib.join X [c]) = X
  | [], h, _ => absurd rfl h
  | [x], _, h => by rw [Lib.join_one]; exact splitL_none (h x (List.mem_singleton.2 rfl))
  | x :: y :: r, _, h => by
    have e : Lib.join (x :: y :: r) [c] = x ++ c :: Lib.join (y :: r) [c] := by
      rw [Lib.join_cons, Lib.join_cons]
      simp [Lib.joinTail]
    rw [e, splitL_some (h x (List.mem_cons_self ..)), splitL_join (by simp) fun z hz => h z (List.mem_cons_of_mem _ hz)]
theorem join_splitL (c : UInt8) : ∀ l, Lib.join (splitL c l) [c] = l
  | [] => by simp [splitL, Lib.join_one]
  | x :: l => by
    have ih := join_splitL c l
    unfold splitL
    cases hs : splitL c l with
    | nil => exact absurd hs (splitL_ne c l)
    | cons w r =>
      rw [hs, Lib.join_cons] at ih
      split
      · rename_i e
        subst e
        rw [Lib.join_cons]
        have e2 : Lib.joinTail [x] (w :: r) = x :: (w ++ Lib.joinTail [x] r) := by simp [Lib.joinTail]
        rw [e2, ih]; rfl
      · rw [Lib.join_cons, List.cons_append, ih]
theorem splitL_le (c : UInt8) : ∀ (l : List UInt8) x, x ∈ splitL c l → x.length ≤ l.length := by
  intro l
  induction l with
  | nil => intro x hx; simp [splitL] at hx; subst hx; simp
  | cons d l ih =>
    intro x hx
    unfold splitL at hx
    split at hx
    · rcases List.mem_cons.1 hx with e | e
      · subst e; simp
      · exact Nat.le_trans (ih x e) (by simp)
    · cases hs : splitL c l with
      | nil => exact absurd hs (splitL_ne c l)
      | cons u r =>
        rw [hs] at hx
        rcases List.mem_cons.1 hx with e | e
        · subst e
          have := ih u (by rw [hs]; exact List.mem_cons_self ..)
          simp; omega
        · exact Nat.le_trans (ih x (by rw [hs]; exact List.mem_cons_of_mem _ e)) (by simp)
theorem splitK_eq (c : UInt8) : ∀ (n : Nat) (l : List UInt8), l.length ≤ n → Lib.splitK [c] 0 (Lib.count l [c]) l = splitL c l := by
  intro n
  induction n with
  | zero =>
    intro l h
    have : l = [] := List.length_eq_zero_iff.1 (by omega)
    subst this
    rw [Lib.count_miss ((index_sep c []).1 (by simp))]; rfl
  | succ n ih =>
    intro l h
    by_cases hm : c ∈ l
    · obtain ⟨a, b, rfl, ha⟩ : ∃ a b, l = a ++ c :: b ∧ c ∉ a := by
        clear h ih
        induction l with
        | nil => cases hm
        | cons x l ih =>
          by_cases e : c = x
          · subst e; exact ⟨[], l, rfl, by simp⟩
          · rcases List.mem_cons.1 hm with e' | e'
            · exact absurd e' e
            · obtain ⟨a, b, rfl, ha⟩ := ih e'
              exact ⟨x :: a, b, rfl, by simp only [List.mem_cons, not_or]; exact ⟨e, ha⟩⟩
      have hi := (index_sep c (a ++ c :: b)).2 a b rfl ha
      have hd : (a ++ c :: b).drop (a.length + [c].length) = b := by simp
      have hc : Lib.count (a ++ c :: b) [c] = Lib.count b [c] + 1 := by
        have := Lib.count_hit (s := a ++ c :: b) (sub := [c]) (i := a.length) (by simp) hi
        rw [hd] at this
        omega
      rw [hc]
      show (if Lib.index (a ++ c :: b) [c] == -1 then _ else _) = _
      rw [hi, if_neg (by simp), Int.toNat_natCast, hd, ih b (by simp at h; omega), splitL_some ha]
      simp
    · rw [Lib.count_miss ((index_sep c l).1 hm), splitL_none hm]; rfl

/-- strings.Split at one byte: the words lie in a new block. -/
theorem split_call (t : ByteArray) (c : UInt8) (ht : t.size ≤ 1048576) : ∃ W : List ByteArray, W.map (·.data.toList) = splitL c t.data.toList ∧ W.length ≤ t.size + 1 ∧ ∀ w, ML w →
    Calls Tryd.prog 24 #[.string t, .string ⟨#[c]⟩] w fun e w' => e = .returned (.slice (some ⟨w.heap.size, 0, none⟩) W.length W.length) ∧ (InW w.heap.size w' ∧ ∀ j (h : j < W.length), w'.cell? ⟨w.heap.size, j, none⟩ = some (.string W[j])) ∧ Ext w w' := by
  have hl : (Lib.splitB ⟨#[c]⟩ 0 (Lib.countB t ⟨#[c]⟩) t).length = Lib.countB t ⟨#[c]⟩ + 1 := Lib.splitB_all ⟨#[c]⟩ (Nat.le_refl 1) 0 _ t rfl
  refine ⟨Lib.splitB ⟨#[c]⟩ 0 (Lib.countB t ⟨#[c]⟩) t, ?_, ?_, fun w hm => ?_⟩
  · rw [Lib.splitB_data]
    exact splitK_eq c _ t.data.toList (Nat.le_refl _)
  · have := Lib.countB_le ⟨#[c]⟩ (Nat.le_refl 1) t.size t (Nat.le_refl _)
    omega
  · obtain ⟨m, hm⟩ := hm
    refine (Tryd.strings_Split t ⟨#[c]⟩ m w (by omega) hm (Nat.le_refl 1)).mono fun e w' h => ?_
    obtain ⟨rfl, rfl⟩ := h
    refine ⟨by rw [hl], ⟨⟨by simp⟩, fun j hj => ?_⟩, (Ext.refl _).alloc _⟩
    rw [World.cell?_alloc_at _ _ _ _ rfl]
    simp [hj]
end Go.Proofs.YthcomgnokkndgaaDoor
