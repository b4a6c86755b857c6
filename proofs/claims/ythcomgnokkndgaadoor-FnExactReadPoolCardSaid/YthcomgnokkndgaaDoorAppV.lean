/- Appending a voice to a list of voices that a function owns; copies of lists of voices on both sides. -/
import Derived.Test.YthcomgnokkndgaaDoorApp2
import Derived.Test.YthcomgnokkndgaaDoorVoice3
namespace Go.Proofs.YthcomgnokkndgaaDoor
open Go.RowKit

theorem OwnV.row {lo hi : Nat} {w : World} {v : Value} {L : List VD} (h : OwnV lo hi w v L) : ∃ cs : List Value, w.ownsRow lo 70 2 v L.length cs := by
  rcases h with ⟨rfl, rfl⟩ | ⟨g, cap, cs, ts, a, b, rfl, _, _, how, _⟩
  · exact ⟨[], World.ownsRow_nil w lo _ _⟩
  · exact ⟨cs, how⟩
theorem OwnV.made {lo : Nat} {w : World} {g c : Nat} (h : w.ownsRow lo 70 2 (.slice (some ⟨g, 0, none⟩) 0 c) 0 []) : OwnV lo w.heap.size w (.slice (some ⟨g, 0, none⟩) 0 c) [] :=
  .inr ⟨g, c, [], fun _ => undef, fun _ => 0, fun _ => 0, rfl, (h.lt g rfl).1, (h.lt g rfl).2, h, fun i hi => absurd hi (by simp), fun i j _ hj => absurd hj (by simp)⟩
theorem OwnV.snoc {lo mid mid0 hi : Nat} {w w' : World} {g c g' c' : Nat} {s : Bool} {t : Value} {x : List Int} {cs : List Value} {L : List VD} (hmid' : mid0 ≤ mid)
    (h : OwnV lo mid0 w (.slice (some ⟨g, 0, none⟩) L.length c) L) (ht : OwnI mid hi w t x) (hhi : hi ≤ w.heap.size) (hmw : mid ≤ w.heap.size)
    (hcs : w.ownsRow lo 70 2 (.slice (some ⟨g, 0, none⟩) L.length c) L.length cs) (h2 : w'.ownsRow lo 70 2 (.slice (some ⟨g', 0, none⟩) (L.length + 1) c') (L.length + 1) (cs ++ [.bool s, t]))
    (hg : w.grownBy w' (some g)) (hw : g' = w.heap.size ∨ g = g') : OwnV lo w'.heap.size w' (.slice (some ⟨g', 0, none⟩) (L ++ [(s, x)]).length c') (L ++ [(s, x)]) := by
  rcases h with ⟨e, _⟩ | ⟨g0, cap, cs0, ts, a, b, e, h3, h4, how, hc, hd⟩
  · simp at e
  simp only [Value.slice.injEq, Option.some.injEq, Addr.mk.injEq, and_true, true_and] at e
  obtain ⟨rfl, rfl⟩ := e
  have hsz := hg.size
  have hcc : cs0 = cs := by
    apply List.ext_getElem?
    intro j
    by_cases hj : j < L.length * 2
    · have e1 := how.cellAt j (by omega)
      have e2 := hcs.cellAt j (by omega)
      rw [← e1, ← e2]
    · have l1 : cs0.length = L.length * 2 := how.1
      have l2 : cs.length = L.length * 2 := hcs.1
      rw [List.getElem?_eq_none (by omega), List.getElem?_eq_none (by omega)]
  subst hcc
  have l1 : cs0.length = L.length * 2 := how.1
  have hlt' := (h2.lt g' rfl)
  have hr : Rng g (g + 1) w w' := ⟨hg.os, hg.tape, hg.output, hg.size, fun k hk hne => hg.block k hk (by intro e; simp at e; omega)⟩
  refine .inr ⟨g', c', cs0 ++ [.bool s, t], fun i => if i < L.length then ts i else t, fun i => if i < L.length then a i else mid, fun i => if i < L.length then b i else hi, rfl, hlt'.1, hlt'.2, by rw [List.length_append]; exact h2, fun i hi' => ?_, fun i j hij hj => ?_⟩
  · by_cases hil : i < L.length
    · obtain ⟨q0, q1, q2, q3, q4, q5⟩ := hc i hil
      simp only [hil, if_true]
      rw [List.getElem_append_left hil]
      refine ⟨by rw [List.getElem?_append_left (by omega)]; exact q0, by rw [List.getElem?_append_left (by omega)]; exact q1, q2.rng hr (by omega), q3, by omega, by omega⟩
    · have : i = L.length := by simp at hi'; omega
      subst this
      simp only [Nat.lt_irrefl, if_false]
      rw [List.getElem_append_right (Nat.le_refl _)]
      simp only [Nat.sub_self, List.getElem_cons_zero]
      refine ⟨by rw [List.getElem?_append_right (by omega)]; simp [l1], by rw [List.getElem?_append_right (by omega)]; simp [l1], ht.rng hr (by omega), by omega, by omega, by omega⟩
  · simp only [List.length_append, List.length_cons, List.length_nil] at hj
    by_cases hjl : j < L.length
    · simp only [show i < L.length by omega, hjl, if_true]; exact hd i j hij hjl
    · have : j = L.length := by omega
      subst this
      obtain ⟨q0, q1, q2, q3, q4, q5⟩ := hc i hij
      simp only [hij, if_true, Nat.lt_irrefl, if_false]
      left; omega

theorem OwnI.one {lo hi : Nat} {w : World} {v : Value} {xs : List Int} (h : OwnI lo hi w v xs) : v.oneCell' = true := by
  rcases h with ⟨rfl, _⟩ | ⟨g, cap, rfl, _⟩ <;> rfl

theorem app_voice {ops : Array Oper} {rest : List Oper} {o : Oper} {a : Act} {Q : Exit → Act → World → Prop} {w0 w : World} {lo mid0 mid hi : Nat} (s x : Operand) (g cap n : Nat) (L : List VD) (ad : Addr) (c : Nat) (b : Bool) (t : Value) (ys : List Int)
    (hgd : o.guard = none) (ho : o.op = .call { callee := .builtin .append, args := #[s, x], argTypes := #[35, 35] })
    (hn : L.length = n) (hs : a.eval s = .slice (some ⟨g, 0, none⟩) n cap) (hown : OwnV lo mid0 w (.slice (some ⟨g, 0, none⟩) L.length cap) L) (hx : a.eval x = .slice (some ad) 1 c)
    (hy0 : w.cell? (ad.add 0) = some (.bool b)) (hy1 : w.cell? (ad.add 1) = some t) (ht : OwnI mid hi w t ys) (hmid' : mid0 ≤ mid) (hhi : hi ≤ w.heap.size) (hmw : mid ≤ w.heap.size) (hb : L.length ≤ 1099511627776) (h0 : Ext w0 w) (hlo : w0.heap.size ≤ lo)
    (h : ∀ g' c' w', OwnV lo w'.heap.size w' (.slice (some ⟨g', 0, none⟩) (L ++ [(b, ys)]).length c') (L ++ [(b, ys)]) → Ext w0 w' → wpList Tryd.prog ops Q rest (a.put o.dst (.slice (some ⟨g', 0, none⟩) (n + 1) c')) w') : wpList Tryd.prog ops Q (o :: rest) a w := by
  subst hn
  obtain ⟨i0, hi0, hz0, hz1, hz2⟩ := info_parts Tryd.info_voice
  obtain ⟨cs, hcs⟩ := hown.row
  have hgl := hcs.lt g rfl
  refine wpList_append_own2 w hgd s x _ ho lo 70 i0 (.agg #[.bool false, .slice none 0 0]) 2 32 Tryd.underlying35 hi0 hz0 hz1 hz2 rfl (by decide) _ L.length cs hs hcs ad 1 c [.bool b, t] hx (by simp) (fun j u hj => ?_) (fun u hu => ?_) (by unfold maxLen; omega) (by omega) (by omega) (fun v' w' h2 h3 h4 h5 => ?_)
  · have hj2 : j < 2 := by have := (List.getElem?_eq_some_iff.1 hj).1; simpa using this
    have : j = 0 ∨ j = 1 := by omega
    rcases this with rfl | rfl
    · simp at hj; subst hj; exact hy0
    · simp at hj; subst hj; exact hy1
  · simp at hu; rcases hu with rfl | rfl
    · rfl
    · exact ht.one
  · obtain ⟨g', c', rfl, hw⟩ := h5 (by omega)
    refine h g' c' w' ?_ (h0.grown h3 fun k hk => by simp [Value.ownBlock] at hk; omega)
    exact OwnV.snoc hmid' hown ht hhi hmw hcs h2 h3 (by simpa [Value.ownBlock] using hw)

/-- The form of a slice of n elements. -/
def IsSl (n : Nat) (v : Value) : Prop := ∃ b c, v = .slice (some ⟨b, 0, none⟩) n c
theorem take_succ_pair {L : List VD} {k : Nat} (h : k < L.length) : L.take (k + 1) = L.take k ++ [(L[k].1, L[k].2)] := List.take_succ_eq_append_getElem h

/-- A row of two cells. -/
def Two (v : Value) (x : World) (c0 c1 : Value) : Prop := ∃ b c, v = .slice (some ⟨b, 0, none⟩) 1 c ∧ InW b x ∧ x.cell? ⟨b, 0, none⟩ = some c0 ∧ x.cell? ⟨b, 1, none⟩ = some c1
theorem Two.ext {v : Value} {x y : World} {c0 c1 : Value} (h : Two v x c0 c1) (k : Ext x y) : Two v y c0 c1 := by
  obtain ⟨b, c, hv, hb, h0, h1⟩ := h
  exact ⟨b, c, hv, ⟨Nat.lt_of_lt_of_le hb.lt k.size⟩, by rw [Below.cell k hb.lt]; exact h0, by rw [Below.cell k hb.lt]; exact h1⟩
theorem Two.made (x : World) (c0 c1 : Value) (T : TypeId) (c : Nat) : Two (.slice (some ⟨x.heap.size, 0, none⟩) 1 c) (x.alloc (.cells #[c0, c1] T)) c0 c1 :=
  ⟨_, _, rfl, ⟨by simp⟩, by rw [World.cell?_alloc_at _ _ _ _ rfl]; rfl, by rw [World.cell?_alloc_at _ _ _ _ rfl]; rfl⟩
theorem Two.cells {b n c : Nat} {x : World} {c0 c1 : Value} (h : Two (.slice (some ⟨b, 0, none⟩) n c) x c0 c1) : InW b x ∧ x.cell? ((⟨b, 0, none⟩ : Addr).add 0) = some c0 ∧ x.cell? ((⟨b, 0, none⟩ : Addr).add 1) = some c1 := by
  obtain ⟨b', c', hv, hb, h0, h1⟩ := h
  simp only [Value.slice.injEq, Option.some.injEq, Addr.mk.injEq, and_true] at hv
  obtain ⟨rfl, -, -⟩ := hv
  rw [add_plain', add_plain']
  exact ⟨hb, h0, h1⟩

end Go.Proofs.YthcomgnokkndgaaDoor
