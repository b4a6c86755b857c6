/- Appends to a list that a function owns, told by the one block that they touch. -/
import Derived.Test.YthcomgnokkndgaaDoorAppV
import Derived.Test.YthcomgnokkndgaaDoorAppR
import Derived.Test.YthcomgnokkndgaaDoorSplit
namespace Go.Proofs.YthcomgnokkndgaaDoor
open Go.RowKit

theorem rng_cell {lo hi : Nat} {w w' : World} (h : Rng lo hi w w') {b o : Nat} {s : Option Nat} {v : Value} (hc : w.cell? ⟨b, o, s⟩ = some v) (hb : b < w.heap.size) (hd : b < lo ∨ hi ≤ b) : w'.cell? ⟨b, o, s⟩ = some v := by
  have e := h.block b hb hd
  unfold World.cell? at *
  simp only [e]
  exact hc
/-- The words of a split text, in a block of their own. -/
def WS (w : World) (sb : Nat) (W : List ByteArray) : Prop := InW sb w ∧ ∀ j (h : j < W.length), w.cell? ⟨sb, j, none⟩ = some (.string W[j])
theorem WS.ext {w w' : World} {sb : Nat} {W : List ByteArray} (h : WS w sb W) (hx : Ext w w') : WS w' sb W :=
  ⟨⟨Nat.lt_of_lt_of_le h.1.lt hx.size⟩, fun j hj => by rw [Below.cell hx h.1.lt]; exact h.2 j hj⟩
theorem WS.rng {w w' : World} {sb lo hi : Nat} {W : List ByteArray} (h : WS w sb W) (hx : Rng lo hi w w') (hd : sb < lo ∨ hi ≤ sb) : WS w' sb W :=
  ⟨⟨Nat.lt_of_lt_of_le h.1.lt hx.size⟩, fun j hj => rng_cell hx (h.2 j hj) h.1.lt hd⟩

theorem app_int2 {ops : Array Oper} {rest : List Oper} {o : Oper} {a : Act} {Q : Exit → Act → World → Prop} {w0 w : World} {lo hi : Nat} (s x : Operand) (g cap n : Nat) (xs : List Int) (ad : Addr) (c : Nat) (ys : List Int)
    (hgd : o.guard = none) (ho : o.op = .call { callee := .builtin .append, args := #[s, x], argTypes := #[58, 58] })
    (hs : a.eval s = .slice (some ⟨g, 0, none⟩) n cap) (hown : OwnI lo hi w (.slice (some ⟨g, 0, none⟩) n cap) xs) (hx : a.eval x = .slice (some ad) ys.length c)
    (hy : ∀ j (h : j < ys.length), w.cell? (ad.add j) = some (iv ys[j])) (hb : xs.length + ys.length ≤ 1099511627776) (h0 : Ext w0 w) (hlo : w0.heap.size ≤ lo) (hm : 0 < ys.length)
    (h : ∀ g' c' w', OwnI lo w'.heap.size w' (.slice (some ⟨g', 0, none⟩) (xs ++ ys).length c') (xs ++ ys) → Rng g (g + 1) w w' → (g' = w.heap.size ∨ g' = g) → Ext w0 w' → wpList Tryd.prog ops Q rest (a.put o.dst (.slice (some ⟨g', 0, none⟩) (xs.length + ys.length) c')) w') : wpList Tryd.prog ops Q (o :: rest) a w := by
  obtain ⟨i0, hi0, hz0, hz1, hz2⟩ := info_parts Tryd.info_i64
  have hll := hown.len
  have hlw := (hown.row).lt g rfl
  refine wpList_append_own2 w hgd s x _ ho lo 2 i0 (.int .i64 0) 1 8 Tryd.underlying58 hi0 hz0 hz1 hz2 rfl (by decide) _ xs.length (xs.map iv) hs hown.row ad ys.length c (ys.map iv) hx (by simp) (fun j u hj => ?_) (fun u hu => ?_) (by unfold maxLen; omega) (by omega) (by omega) (fun v' w' h2 h3 h4 h5 => ?_)
  · have hj' : j < ys.length := by have := (List.getElem?_eq_some_iff.1 hj).1; simpa using this
    rw [hy j hj']; simp [hj'] at hj; exact congrArg some hj
  · obtain ⟨n, _, rfl⟩ := List.mem_map.1 hu; rfl
  · obtain ⟨g', c', rfl, hg'⟩ := h5 hm
    refine h g' c' w' ?_ (rng_of_grown h3) ?_ (h0.grown h3 fun k hk => by simp [Value.ownBlock] at hk; omega)
    · refine OwnI.of_row ?_
      rw [List.length_append, List.map_append]
      exact h2
    · rcases hg' with e | e
      · exact .inl e
      · simp [Value.ownBlock] at e; exact .inr e.symm

theorem app_voice2 {ops : Array Oper} {rest : List Oper} {o : Oper} {a : Act} {Q : Exit → Act → World → Prop} {w0 w : World} {lo mid0 mid hi : Nat} (s x : Operand) (g cap n : Nat) (L : List VD) (ad : Addr) (c : Nat) (b : Bool) (t : Value) (ys : List Int)
    (hgd : o.guard = none) (ho : o.op = .call { callee := .builtin .append, args := #[s, x], argTypes := #[35, 35] })
    (hn : L.length = n) (hs : a.eval s = .slice (some ⟨g, 0, none⟩) n cap) (hown : OwnV lo mid0 w (.slice (some ⟨g, 0, none⟩) L.length cap) L) (hx : a.eval x = .slice (some ad) 1 c)
    (hy0 : w.cell? (ad.add 0) = some (.bool b)) (hy1 : w.cell? (ad.add 1) = some t) (ht : OwnI mid hi w t ys) (hmid' : mid0 ≤ mid) (hhi : hi ≤ w.heap.size) (hmw : mid ≤ w.heap.size) (hb : L.length ≤ 1099511627776) (h0 : Ext w0 w) (hlo : w0.heap.size ≤ lo)
    (h : ∀ g' c' w', OwnV lo w'.heap.size w' (.slice (some ⟨g', 0, none⟩) (L ++ [(b, ys)]).length c') (L ++ [(b, ys)]) → Rng g (g + 1) w w' → (g' = w.heap.size ∨ g' = g) → Ext w0 w' → wpList Tryd.prog ops Q rest (a.put o.dst (.slice (some ⟨g', 0, none⟩) (n + 1) c')) w') : wpList Tryd.prog ops Q (o :: rest) a w := by
  subst hn
  obtain ⟨i0, hi0, hz0, hz1, hz2⟩ := info_parts Tryd.info_voice
  obtain ⟨cs, hcs⟩ := hown.row
  have hgl := hcs.lt g rfl
  refine wpList_append_own2 w hgd s x _ ho lo 70 i0 (.agg #[.bool false, .slice none 0 0]) 2 32 Tryd.underlying35 hi0 hz0 hz1 hz2 rfl (by decide) _ L.length cs hs hcs ad 1 c [.bool b, t] hx (by simp) (fun j u hj => ?_) (fun u hu => ?_) (by unfold maxLen; omega) (by omega) (by omega) (fun v' w' h2 h3 h4 h5 => ?_)
  · have hj2 : j < 2 := by have := (List.getElem?_eq_some_iff.1 hj).1; simpa using this
    have : j = 0 ∨ j = 1 := by omega
    rcases this with rfl | rfl
    · simp at hj; subst hj; exact hy0
    · simp at hj; subst hj; exact hy1
  · simp at hu; rcases hu with rfl | rfl
    · rfl
    · exact ht.one
  · obtain ⟨g', c', rfl, hw⟩ := h5 (by omega)
    have hw' : g' = w.heap.size ∨ g' = g := by
      rcases hw with e | e
      · exact .inl e
      · simp [Value.ownBlock] at e; exact .inr e.symm
    refine h g' c' w' ?_ (rng_of_grown h3) hw' (h0.grown h3 fun k hk => by simp [Value.ownBlock] at hk; omega)
    exact OwnV.snoc hmid' hown ht hhi hmw hcs h2 h3 (hw'.imp id Eq.symm)
end Go.Proofs.YthcomgnokkndgaaDoor
