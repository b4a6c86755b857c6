/- A list of shares read from its text, in plain Lean; appends to lists of shares. -/
import Derived.Test.YthcomgnokkndgaaDoorNums
import Derived.Test.YthcomgnokkndgaaDoorSText
namespace Go.Proofs.YthcomgnokkndgaaDoor
open Go.RowKit

/-- L, b: the valid list of shares whose text s is, and whether there is one. -/
def SharesIs (s : ByteArray) (L : List SD) (b : Bool) : Prop := (b = true ∧ OkS L ∧ stexts L = s.data.toList) ∨ (b = false ∧ L = [] ∧ ∀ M, OkS M → stexts M ≠ s.data.toList)
theorem shares_some (s : ByteArray) : ∃ L b, SharesIs s L b := by
  by_cases h : ∃ L, OkS L ∧ stexts L = s.data.toList
  · obtain ⟨L, h⟩ := h; exact ⟨L, true, .inl ⟨rfl, h.1, h.2⟩⟩
  · exact ⟨[], false, .inr ⟨rfl, rfl, fun M h1 h2 => h ⟨M, h1, h2⟩⟩⟩
theorem SharesIs.small {s : ByteArray} {L : List SD} {b : Bool} (h : SharesIs s L b) : L.length ≤ 6 ∧ ∀ x ∈ L, x.length ≤ 12 := by
  rcases h with ⟨-, h, -⟩ | ⟨-, rfl, -⟩
  · refine ⟨h.2.2, fun x hx => ?_⟩
    obtain ⟨k, hk, rfl⟩ := List.getElem_of_mem hx
    exact (h.row hk).2
  · exact ⟨by simp, fun x hx => by cases hx⟩
theorem join_no' {c : UInt8} {X : List (List UInt8)} {d : UInt8} (h : ∀ x ∈ X, c ∉ x) (hd : c ≠ d) : c ∉ Lib.join X [d] := by
  cases X with
  | nil => simp [Lib.join_nil]
  | cons x r =>
    rw [Lib.join_cons]
    intro hm
    rcases List.mem_append.1 hm with e | e
    · exact h x (List.mem_cons_self ..) e
    · unfold Lib.joinTail at e
      obtain ⟨y, hy, hc⟩ := List.mem_flatten.1 e
      obtain ⟨z, hz, rfl⟩ := List.mem_map.1 hy
      rcases List.mem_append.1 hc with e | e
      · exact hd (List.mem_singleton.1 e)
      · exact h z (List.mem_cons_of_mem _ hz) e
theorem itoa_no58 (n : Int) : (58 : UInt8) ∉ Lib.itoa n := itoa_no (by decide) (by decide) n
theorem ptxt_no {c : UInt8} (h1 : c ≠ 58) (h2 : ∀ n, c ∉ Lib.itoa n) (x : Int × Int) : c ∉ ptxt x := by
  unfold ptxt
  intro h
  rcases List.mem_append.1 h with e | e
  · exact h2 _ e
  · rcases List.mem_cons.1 e with e | e
    · exact h1 e
    · exact h2 _ e
theorem ptxt_no44 (x : Int × Int) : (44 : UInt8) ∉ ptxt x := ptxt_no (by decide) (fun n => itoa_no (by decide) (by decide) n) x
theorem ptxt_no59 (x : Int × Int) : (59 : UInt8) ∉ ptxt x := ptxt_no (by decide) (fun n => itoa_no (by decide) (by decide) n) x
theorem stxt_no59 (xs : SD) : (59 : UInt8) ∉ stxt xs := by
  unfold stxt
  exact join_no' (fun y hy => by obtain ⟨x, -, rfl⟩ := List.mem_map.1 hy; exact ptxt_no59 x) (by decide)
theorem shares_split {L : List SD} (h : L ≠ []) : splitL 59 (stexts L) = L.map stxt := by
  unfold stexts
  exact splitL_join (by simpa using h) fun x hx => by obtain ⟨y, -, rfl⟩ := List.mem_map.1 hx; exact stxt_no59 y
theorem stxt_split {xs : SD} (h : xs ≠ []) : splitL 44 (stxt xs) = xs.map ptxt := by
  unfold stxt
  exact splitL_join (by simpa using h) fun x hx => by obtain ⟨y, -, rfl⟩ := List.mem_map.1 hx; exact ptxt_no44 y
theorem ptxt_ne (x : Int × Int) : ptxt x ≠ [] := by unfold ptxt; simp
theorem stxt_nil : stxt [] = [] := rfl
theorem stxt_empty {xs : SD} (h : stxt xs = []) : xs = [] := by
  cases xs with
  | nil => rfl
  | cons x r =>
    have := stxt_split (xs := x :: r) (by simp)
    rw [h] at this
    simp [splitL] at this
    exact absurd this.1 (ptxt_ne x)
theorem ptxt_cut (x : Int × Int) : Lib.cut (ptxt x) [58] = (Lib.itoa x.1, Lib.itoa x.2, true) := by
  unfold ptxt; exact cut_some (itoa_no58 x.1)
theorem ptxt_inj {x y : Int × Int} (h : ptxt x = ptxt y) : x = y := by
  have e := congrArg (fun l => Lib.cut l [58]) h
  simp only [ptxt_cut, Prod.mk.injEq] at e
  have a : x.1 = y.1 := by rw [← valI_itoa x.1, e.1, valI_itoa]
  have b : x.2 = y.2 := by rw [← valI_itoa x.2, e.2.1, valI_itoa]
  exact Prod.ext a b
theorem map_inj {α β : Type} {f : α → β} (hf : ∀ a b, f a = f b → a = b) : ∀ {xs ys : List α}, xs.map f = ys.map f → xs = ys
  | [], [], _ => rfl
  | [], _ :: _, h => by simp at h
  | _ :: _, [], h => by simp at h
  | x :: xs, y :: ys, h => by
    simp only [List.map_cons, List.cons.injEq] at h
    rw [hf _ _ h.1, map_inj hf h.2]
theorem stxt_inj (xs ys : SD) (h : stxt xs = stxt ys) : xs = ys := by
  by_cases hx : xs = []
  · subst hx; exact (stxt_empty h.symm).symm
  · by_cases hy : ys = []
    · subst hy; exact stxt_empty h
    · have := congrArg (splitL 44) h
      rw [stxt_split hx, stxt_split hy] at this
      exact map_inj (fun a b => ptxt_inj) this
theorem stexts_inj {L M : List SD} (hL : L ≠ []) (hM : M ≠ []) (h : stexts L = stexts M) : L = M := by
  have := congrArg (splitL 59) h
  rw [shares_split hL, shares_split hM] at this
  exact map_inj stxt_inj this
/-- What a word of two numbers says of their texts. -/
theorem word_pair {w : ByteArray} {x y : Int} (hx : NumIs 0 6 ⟨(Lib.cut w.data.toList [58]).1.toArray⟩ x true) (hy : NumIs 1 12 ⟨(Lib.cut w.data.toList [58]).2.1.toArray⟩ y true) : ptxt (x, y) = w.data.toList ∧ 0 ≤ x ∧ x ≤ 6 ∧ 1 ≤ y ∧ y ≤ 12 := by
  rcases hx with ⟨-, a1, a2, a3⟩ | ⟨q, -⟩
  · rcases hy with ⟨-, b1, b2, b3⟩ | ⟨q, -⟩
    · refine ⟨?_, a1, a2, b1, b2⟩
      have a4 := congrArg (fun s => s.data.toList) a3
      have b4 := congrArg (fun s => s.data.toList) b3
      simp only [dec_bytes] at a4 b4
      by_cases hm : (58 : UInt8) ∈ w.data.toList
      · obtain ⟨p, q, e, hp⟩ := List.eq_append_cons_of_mem hm
        rw [e, cut_some hp] at a4 b4
        unfold ptxt
        rw [a4, b4, e]
      · rw [cut_none hm] at b4
        exact absurd b4 (itoa_ne y)
    · cases q
  · cases q
theorem word_told {w : ByteArray} {z : Int × Int} (hw : w.data.toList = ptxt z) (h0 : 0 ≤ z.1) (h1 : z.1 ≤ 6) (h2 : 1 ≤ z.2) (h3 : z.2 ≤ 12) {x y : Int} {bx yb : Bool} (hx : NumIs 0 6 ⟨(Lib.cut w.data.toList [58]).1.toArray⟩ x bx) (hy : NumIs 1 12 ⟨(Lib.cut w.data.toList [58]).2.1.toArray⟩ y yb) : bx = true ∧ yb = true := by
  rw [hw, ptxt_cut] at hx hy
  exact ⟨(num_of hx h0 h1 rfl).1, (num_of hy h2 h3 rfl).1⟩
theorem OkS.told {L : List SD} (hok : OkS L) {k : Nat} (hk : k < L.length) {j : Nat} (hj : j < L[k].length) : 0 ≤ L[k][j].1 ∧ L[k][j].1 ≤ 6 ∧ 1 ≤ L[k][j].2 ∧ L[k][j].2 ≤ 12 := by
  have h := (hok.1 k hk).1 j hj
  have hl := hok.2
  have := h.1
  have := h.2.2.2
  omega

/-- One share appended to a list that a function owns. -/
theorem app_pair2 {ops : Array Oper} {rest : List Oper} {o : Oper} {a : Act} {Q : Exit → Act → World → Prop} {w0 w : World} {lo hi : Nat} (s x : Operand) (g cap n : Nat) (xs : SD) (ad : Addr) (c : Nat) (y z : Int)
    (hgd : o.guard = none) (ho : o.op = .call { callee := .builtin .append, args := #[s, x], argTypes := #[40, 40] }) (hn : xs.length = n)
    (hs : a.eval s = .slice (some ⟨g, 0, none⟩) n cap) (hown : OwnP lo hi w (.slice (some ⟨g, 0, none⟩) n cap) xs) (hx : a.eval x = .slice (some ad) 1 c)
    (hy0 : w.cell? (ad.add 0) = some (iv y)) (hy1 : w.cell? (ad.add 1) = some (iv z)) (hb : xs.length ≤ 1099511627776) (h0 : Ext w0 w) (hlo : w0.heap.size ≤ lo)
    (h : ∀ g' c' w', OwnP lo w'.heap.size w' (.slice (some ⟨g', 0, none⟩) (n + 1) c') (xs ++ [(y, z)]) → Rng g (g + 1) w w' → (g' = w.heap.size ∨ g' = g) → Ext w0 w' → wpList Tryd.prog ops Q rest (a.put o.dst (.slice (some ⟨g', 0, none⟩) (n + 1) c')) w') : wpList Tryd.prog ops Q (o :: rest) a w := by
  subst hn
  obtain ⟨i0, hi0, hz0, hz1, hz2⟩ := info_parts Tryd.info_share
  rcases hown with ⟨e, _⟩ | ⟨g', cap', cs, e, h1, h2, how, hc⟩
  · cases e
  simp only [Value.slice.injEq, Option.some.injEq, Addr.mk.injEq, and_true, true_and] at e
  obtain ⟨rfl, rfl⟩ := e
  have hgl := how.lt g rfl
  have hcl : cs.length = xs.length * 2 := how.1
  refine wpList_append_own2 w hgd s x _ ho lo 44 i0 (.agg #[.int .i64 0, .int .i64 0]) 2 16 Tryd.underlying40 hi0 hz0 hz1 hz2 rfl (by decide) _ xs.length cs hs how ad 1 c [iv y, iv z] hx (by simp) (fun j u hj => ?_) (fun u hu => ?_) (by unfold maxLen; omega) (by omega) (by omega) (fun v' w' h2' h3 h4 h5 => ?_)
  · have hj2 : j < 2 := by have := (List.getElem?_eq_some_iff.1 hj).1; simpa using this
    have : j = 0 ∨ j = 1 := by omega
    rcases this with rfl | rfl
    · simp at hj; subst hj; exact hy0
    · simp at hj; subst hj; exact hy1
  · simp at hu; rcases hu with rfl | rfl <;> rfl
  · obtain ⟨g', c', rfl, hg'⟩ := h5 (by omega)
    have hw' : g' = w.heap.size ∨ g' = g := by
      rcases hg' with e | e
      · exact .inl e
      · simp [Value.ownBlock] at e; exact .inr e.symm
    have hlt := h2'.lt g' rfl
    refine h g' c' w' (.inr ⟨g', c', _, by simp, hlt.1, hlt.2, by simpa using h2', fun i hi => ?_⟩) (rng_of_grown h3) hw' (h0.grown h3 fun k hk => by simp [Value.ownBlock] at hk; omega)
    by_cases hix : i < xs.length
    · rw [List.getElem?_append_left (by omega), List.getElem?_append_left (by omega), List.getElem_append_left hix]
      exact hc i hix
    · have e : i = xs.length := by simp at hi; omega
      subst e
      rw [List.getElem?_append_right (by omega), List.getElem?_append_right (by omega), List.getElem_append_right (by omega), hcl]
      simp
theorem Tryd.info_rowAppS2 : (Tryd.prog.info? 40).map (fun i => (i.zero, i.size, i.bytes)) = some (some (.slice none 0 0), 1, 24) := by kernel_rfl
/-- A row of shares appended to a list of rows, told by the one block that it touches. -/
theorem app_rowS2 {ops : Array Oper} {rest : List Oper} {o : Oper} {a : Act} {Q : Exit → Act → World → Prop} {w0 w : World} {lo mid hi : Nat} (s x : Operand) (g cap n : Nat) (L : List SD) (ad : Addr) (c : Nat) (t : Value) (ys : SD)
    (hgd : o.guard = none) (ho : o.op = .call { callee := .builtin .append, args := #[s, x], argTypes := #[22, 22] }) (hn : L.length = n)
    (hs : a.eval s = .slice (some ⟨g, 0, none⟩) n cap) (hown : OwnR shareKind 40 lo mid w (.slice (some ⟨g, 0, none⟩) n cap) L) (hx : a.eval x = .slice (some ad) 1 c)
    (hy : w.cell? (ad.add 0) = some t) (ht1 : t.oneCell' = true) (ht : OwnP mid hi w t ys) (hmid : lo ≤ mid) (hhi : hi ≤ w.heap.size) (hmw : mid ≤ w.heap.size) (hb : L.length ≤ 1099511627776) (h0 : Ext w0 w) (hlo : w0.heap.size ≤ lo)
    (h : ∀ g' c' w', OwnR shareKind 40 lo w'.heap.size w' (.slice (some ⟨g', 0, none⟩) (n + 1) c') (L ++ [ys]) → Rng g (g + 1) w w' → (g' = w.heap.size ∨ g' = g) → Ext w0 w' → wpList Tryd.prog ops Q rest (a.put o.dst (.slice (some ⟨g', 0, none⟩) (n + 1) c')) w') : wpList Tryd.prog ops Q (o :: rest) a w := by
  subst hn
  obtain ⟨i0, hi0, hz0, hz1, hz2⟩ := info_parts Tryd.info_rowAppS2
  obtain ⟨cs, hcs⟩ := hown.row
  have hgl := hcs.lt g rfl
  refine wpList_append_own2 w hgd s x _ ho lo 40 i0 (.slice none 0 0) 1 24 Tryd.underlying22 hi0 hz0 hz1 hz2 rfl (by decide) _ L.length cs hs hcs ad 1 c [t] hx (by simp) (fun j u hj => ?_) (fun u hu => ?_) (by unfold maxLen; omega) (by omega) (by omega) (fun v' w' h2 h3 h4 h5 => ?_)
  · have : j = 0 := by have := (List.getElem?_eq_some_iff.1 hj).1; simpa using this
    subst this
    simp at hj; subst hj; exact hy
  · simp at hu; subst hu; exact ht1
  · obtain ⟨g', c', rfl, hw⟩ := h5 (by omega)
    have hw' : g' = w.heap.size ∨ g = g' := by simpa [Value.ownBlock] using hw
    have := OwnR.snoc hmid hown ht hhi hmw hcs h2 h3 hw'
    rw [List.length_append] at this
    exact h g' c' w' this (rng_of_grown h3) (hw'.imp id Eq.symm) (h0.grown h3 fun k hk => by simp [Value.ownBlock] at hk; omega)
end Go.Proofs.YthcomgnokkndgaaDoor
