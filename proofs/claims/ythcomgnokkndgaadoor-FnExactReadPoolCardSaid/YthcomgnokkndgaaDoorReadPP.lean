/- A pool read from its text: plain laws, and the append of a quota. -/
import Derived.Test.YthcomgnokkndgaaDoorNums
import Derived.Test.YthcomgnokkndgaaDoorPText
namespace Go.Proofs.YthcomgnokkndgaaDoor
open Go.RowKit

/-- The valid pool whose text s is, and whether there is one. -/
def PoolIs (s : ByteArray) (pe sz : Int) (L : List QD) (b : Bool) : Prop :=
  (b = true ∧ OkP pe sz L ∧ ptexts pe sz L = s.data.toList) ∨ (b = false ∧ (pe = 0 ∧ sz = 0 ∧ L = []) ∧ ∀ p z M, OkP p z M → ptexts p z M ≠ s.data.toList)
theorem pool_some (s : ByteArray) : ∃ pe sz L b, PoolIs s pe sz L b := by
  by_cases h : ∃ pe sz L, OkP pe sz L ∧ ptexts pe sz L = s.data.toList
  · obtain ⟨pe, sz, L, h⟩ := h; exact ⟨pe, sz, L, true, .inl ⟨rfl, h.1, h.2⟩⟩
  · exact ⟨0, 0, [], false, .inr ⟨rfl, ⟨rfl, rfl, rfl⟩, fun p z M h1 h2 => h ⟨p, z, M, h1, h2⟩⟩⟩
theorem OkQ.mem {m : Int} {q : QD} (hm : m ≤ 6) (h : OkQ m q) : (∀ x ∈ q.1, 0 ≤ x ∧ x ≤ 6) ∧ q.1.length ≤ 7 ∧ 0 < q.1.length ∧ 0 ≤ q.2.1 ∧ q.2.1 ≤ 7 ∧ 0 ≤ q.2.2 ∧ q.2.2 ≤ 7 := by
  obtain ⟨h0, h1, h2, h3, h4⟩ := h
  have hr : ∀ k (hk : k < q.1.length), 0 ≤ q.1[k] ∧ q.1[k] ≤ m ∧ (k : Int) ≤ q.1[k] := by
    intro k
    induction k with
    | zero => intro hk; have := (h1 0 hk).1; omega
    | succ k ih =>
      intro hk
      have a := (h1 (k + 1) hk).1
      have b := (h1 (k + 1) hk).2 (by omega)
      have c := ih (by omega)
      simp only [Nat.add_sub_cancel] at b
      omega
  refine ⟨fun x hx => ?_, ?_, h0, by omega, by omega, by omega, by omega⟩
  · obtain ⟨k, hk, rfl⟩ := List.getElem_of_mem hx
    have := hr k hk
    exact ⟨by omega, by omega⟩
  · have := hr (q.1.length - 1) (by omega)
    omega
theorem PoolIs.small {s : ByteArray} {pe sz : Int} {L : List QD} {b : Bool} (h : PoolIs s pe sz L b) : L.length ≤ 6 ∧ ∀ x ∈ L, x.1.length ≤ 7 := by
  rcases h with ⟨-, h, -⟩ | ⟨-, ⟨-, -, rfl⟩, -⟩
  · refine ⟨h.2.2.1, fun x hx => ?_⟩
    obtain ⟨k, hk, rfl⟩ := List.getElem_of_mem hx
    have hp := h.1
    exact ((h.2.2.2 k hk).mem (by omega)).2.1
  · exact ⟨by simp, fun x hx => by cases hx⟩

/-! ### The two dots -/
theorem index_dots : ∀ (a b : List UInt8), (46 : UInt8) ∉ a → Lib.index (a ++ 46 :: 46 :: b) [46, 46] = a.length
  | [], b, _ => by
    show Lib.index (46 :: 46 :: b) [46, 46] = 0
    unfold Lib.index
    rw [if_pos (by simp [List.isPrefixOf])]
  | x :: a, b, h => by
    simp only [List.mem_cons, not_or] at h
    have := index_dots a b h.2
    rw [List.cons_append]
    unfold Lib.index
    rw [if_neg (by simp [List.isPrefixOf]; intro e; exact absurd e h.1), this, if_neg (by simp)]
    simp
theorem cut_dots {a b : List UInt8} (h : (46 : UInt8) ∉ a) : Lib.cut (a ++ 46 :: 46 :: b) [46, 46] = (a, b, true) := by
  unfold Lib.cut
  rw [index_dots a b h, if_pos (by omega), Int.toNat_natCast]
  simp
theorem cut_len2 (l c : List UInt8) : (Lib.cut l c).1.length ≤ l.length ∧ (Lib.cut l c).2.1.length ≤ l.length := by
  unfold Lib.cut
  split
  · exact ⟨by rw [List.length_take]; omega, by rw [List.length_drop]; omega⟩
  · exact ⟨Nat.le_refl _, by simp⟩
theorem dots_call (s : ByteArray) (w : World) (hs : s.size ≤ 1048576) (hm : ML w) (A B : ByteArray) (has : Bool) (hA : ⟨(Lib.cut s.data.toList [46, 46]).1.toArray⟩ = A) (hB : ⟨(Lib.cut s.data.toList [46, 46]).2.1.toArray⟩ = B) (hh : (Lib.cut s.data.toList [46, 46]).2.2 = has) :
    Calls Tryd.prog 25 #[.string s, .string ⟨#[46, 46]⟩] w fun e w' => e = .returned (.tuple #[.string A, .string B, .bool has]) ∧ Ext w w' := by
  obtain ⟨m, hm⟩ := hm
  subst hA hB hh
  exact (Tryd.strings_Cut s ⟨#[46, 46]⟩ m w (by omega) hm).mono fun e w' h => ⟨h.1, by obtain ⟨n, rfl⟩ := h.2; exact (Ext.refl _).drewN n⟩

/-! ### The words of a pool's text -/
def qt (q : QD) : List UInt8 := decs 44 q.1 ++ 61 :: (Lib.itoa q.2.1 ++ 46 :: 46 :: Lib.itoa q.2.2)
def hd (pe sz : Int) : List UInt8 := Lib.itoa pe ++ 47 :: Lib.itoa sz
theorem decs_no {c : UInt8} (h1 : c ≠ 45) (h2 : c.toNat < 48 ∨ 57 < c.toNat) (h3 : c ≠ 44) (xs : List Int) : c ∉ decs 44 xs := by
  unfold decs
  cases hx : xs.map Lib.itoa with
  | nil => simp [Lib.join_nil]
  | cons x r =>
    have ha : ∀ y ∈ x :: r, c ∉ y := fun y hy => by
      rw [← hx] at hy
      obtain ⟨n, -, rfl⟩ := List.mem_map.1 hy
      exact itoa_no h1 h2 n
    rw [Lib.join_cons]
    intro hm
    rcases List.mem_append.1 hm with e | e
    · exact ha x (List.mem_cons_self ..) e
    · unfold Lib.joinTail at e
      obtain ⟨y, hy, hc⟩ := List.mem_flatten.1 e
      obtain ⟨z, hz, rfl⟩ := List.mem_map.1 hy
      rcases List.mem_append.1 hc with e | e
      · exact h3 (List.mem_singleton.1 e)
      · exact ha z (List.mem_cons_of_mem _ hz) e
theorem hd_no59 (pe sz : Int) : (59 : UInt8) ∉ hd pe sz := by
  unfold hd
  simp only [List.mem_append, List.mem_cons, not_or]
  exact ⟨itoa_no (by decide) (by decide) _, by decide, itoa_no (by decide) (by decide) _⟩
theorem qt_no59 (q : QD) : (59 : UInt8) ∉ qt q := by
  unfold qt
  simp only [List.mem_append, List.mem_cons, not_or]
  exact ⟨decs_no (by decide) (by decide) (by decide) _, by decide, itoa_no (by decide) (by decide) _, by decide, by decide, itoa_no (by decide) (by decide) _⟩
theorem ptexts_join (pe sz : Int) (L : List QD) : ptexts pe sz L = Lib.join (hd pe sz :: L.map qt) [59] := by
  rw [Lib.join_cons]
  unfold ptexts hd Lib.joinTail
  rw [List.append_assoc, List.cons_append, List.map_map]
  rfl
theorem ptexts_split (pe sz : Int) (L : List QD) : splitL 59 (ptexts pe sz L) = hd pe sz :: L.map qt := by
  rw [ptexts_join]
  refine splitL_join (by simp) fun x hx => ?_
  rcases List.mem_cons.1 hx with rfl | hx
  · exact hd_no59 _ _
  · obtain ⟨q, -, rfl⟩ := List.mem_map.1 hx; exact qt_no59 q
theorem hd_cut (pe sz : Int) : Lib.cut (hd pe sz) [47] = (Lib.itoa pe, Lib.itoa sz, true) := cut_some (itoa_no47 pe)
theorem qt_cut (q : QD) : Lib.cut (qt q) [61] = (decs 44 q.1, Lib.itoa q.2.1 ++ 46 :: 46 :: Lib.itoa q.2.2, true) := cut_some (decs_no (by decide) (by decide) (by decide) _)
theorem num_is {lo hi n x : Int} {s : ByteArray} {b : Bool} (h : NumIs lo hi s x b) (h0 : lo ≤ n) (h1 : n ≤ hi) (he : s.data.toList = Lib.itoa n) : x = n := by
  have e : dec n = s := bytes_eq (by rw [dec_list, he])
  rcases h with ⟨-, -, -, h⟩ | ⟨-, -, h⟩
  · have := congrArg (fun s => s.data.toList) (h.trans e.symm)
    simp only [dec_list] at this
    rw [← valI_itoa x, this, valI_itoa]
  · exact absurd e (h n h0 h1)
theorem nums_is {t : ByteArray} {xs ys : List Int} {b : Bool} (h : NumsIs 0 7 t xs b) (h0 : ∀ y ∈ ys, 0 ≤ y ∧ y ≤ 7) (hl : ys.length ≤ 101) (he : t.data.toList = decs 44 ys) : xs = ys := by
  have hy : NumsOf 0 7 t ys := ⟨h0, hl, he.symm⟩
  rcases h with ⟨-, h⟩ | ⟨-, -, h⟩
  · exact h.uniq hy
  · exact absurd hy (h ys)
theorem nums_few {t : ByteArray} {xs : List Int} {b : Bool} (h : NumsIs 0 7 t xs b) : xs.length ≤ 101 := by
  rcases h with ⟨-, h⟩ | ⟨-, rfl, -⟩
  · exact h.2.1
  · simp
theorem num_range {lo hi x : Int} {s : ByteArray} {b : Bool} (h : NumIs lo hi s x b) (h0 : 0 ≤ lo) (h1 : hi ≤ 7) : 0 ≤ x ∧ x ≤ 7 := by
  rcases h with ⟨-, a, c, -⟩ | ⟨-, rfl, -⟩ <;> omega

theorem itoa_one {n : Int} (h0 : 0 ≤ n) (h1 : n ≤ 9) : (Lib.itoa n).length ≤ 1 := by
  unfold Lib.itoa
  rw [if_neg (by omega), Lib.decDigits_length]
  exact nDigits_le 0 n.toNat (by omega)
theorem ptexts_short {pe sz : Int} {L : List QD} (hok : OkP pe sz L) : (ptexts pe sz L).length ≤ 1000 := by
  have hp := hok.1
  have hz := hok.2.1
  have hl := hok.2.2.1
  rw [ptexts_join]
  have := join_len (M := 20) 59 (L := hd pe sz :: L.map qt) (fun y hy => by
    rcases List.mem_cons.1 hy with rfl | hy
    · have a := itoa_one (n := pe) (by omega) (by omega)
      have b := itoa_one (n := sz) (by omega) (by omega)
      unfold hd
      simp only [List.length_append, List.length_cons]; omega
    · obtain ⟨q, hq, rfl⟩ := List.mem_map.1 hy
      obtain ⟨k, hk, rfl⟩ := List.getElem_of_mem hq
      obtain ⟨m1, m2, m3, m4, m5, m6, m7⟩ := (hok.2.2.2 k hk).mem (by omega)
      have a := itoa_one (n := L[k].2.1) (by omega) (by omega)
      have b := itoa_one (n := L[k].2.2) (by omega) (by omega)
      have c := join_len (M := 1) 44 (L := L[k].1.map Lib.itoa) (fun y hy => by
        obtain ⟨x, hx, rfl⟩ := List.mem_map.1 hy
        have := m1 x hx
        exact itoa_one (by omega) (by omega))
      rw [List.length_map] at c
      unfold qt decs
      simp only [List.length_append, List.length_cons]; omega)
  simp only [List.length_cons, List.length_map] at this
  omega

/-! ### One quota more -/
theorem OwnQt.row {lo hi : Nat} {w : World} {v : Value} {L : List QD} (h : OwnQt lo hi w v L) : ∃ cs : List Value, w.ownsRow lo 60 3 v L.length cs := by
  rcases h with ⟨rfl, rfl⟩ | ⟨g, cap, cs, ts, a, b, rfl, _, _, how, _⟩
  · exact ⟨[], World.ownsRow_nil w lo _ _⟩
  · exact ⟨cs, how⟩
theorem OwnQt.snoc {lo mid mid0 hi : Nat} {w w' : World} {v : Value} {g' c' : Nat} {x y : Int} {t : Value} {ys : List Int} {cs : List Value} {L : List QD} (hmid' : mid0 ≤ mid) (hlm : lo ≤ mid)
    (h : OwnQt lo mid0 w v L) (ht : OwnI mid hi w t ys) (hhi : hi ≤ w.heap.size) (hmw : mid ≤ w.heap.size)
    (hcs : w.ownsRow lo 60 3 v L.length cs) (h2 : w'.ownsRow lo 60 3 (.slice (some ⟨g', 0, none⟩) (L.length + 1) c') (L.length + 1) (cs ++ [t, .int .i64 x, .int .i64 y]))
    (hg : w.grownBy w' v.ownBlock) (hw : g' = w.heap.size ∨ v.ownBlock = some g') : OwnQt lo w'.heap.size w' (.slice (some ⟨g', 0, none⟩) (L.length + 1) c') (L ++ [(ys, x, y)]) := by
  have hsz := hg.size
  have hlt' := (h2.lt g' rfl)
  rcases h with ⟨rfl, rfl⟩ | ⟨g, cap, cs0, ts, a, b, rfl, h3, h4, how, hc, hd⟩
  · have hl : cs = [] := List.length_eq_zero_iff.1 (by have := hcs.1; simpa using this)
    subst hl
    have hg2 : g' = w.heap.size := by
      rcases hw with e | e
      · exact e
      · simp [Value.ownBlock] at e
    have hr : Rng w.heap.size (w.heap.size + 1) w w' := ⟨hg.os, hg.tape, hg.output, hg.size, fun k hk _ => hg.block k hk (by simp [Value.ownBlock])⟩
    refine .inr ⟨g', c', _, fun _ => t, fun _ => mid, fun _ => hi, rfl, hlt'.1, hlt'.2, h2, fun i hi' => ?_, fun i j hij hj => ?_⟩
    · have : i = 0 := by simpa using hi'
      subst this
      exact ⟨⟨rfl, rfl, rfl⟩, ht.rng hr (by omega), hlm, by show hi ≤ _; omega, by show g' < mid ∨ hi ≤ g'; omega⟩
    · simp at hj; omega
  · have hcc : cs0 = cs := by
      apply List.ext_getElem?
      intro j
      by_cases hj : j < L.length * 3
      · have e1 := how.cellAt j (by omega)
        have e2 := hcs.cellAt j (by omega)
        rw [← e1, ← e2]
      · have l1 : cs0.length = L.length * 3 := how.1
        have l2 : cs.length = L.length * 3 := hcs.1
        rw [List.getElem?_eq_none (by omega), List.getElem?_eq_none (by omega)]
    subst hcc
    have l1 : cs0.length = L.length * 3 := how.1
    have hr : Rng g (g + 1) w w' := ⟨hg.os, hg.tape, hg.output, hg.size, fun k hk hne => hg.block k hk (by simp [Value.ownBlock]; omega)⟩
    have hw' : g' = w.heap.size ∨ g' = g := by
      rcases hw with e | e
      · exact .inl e
      · simp [Value.ownBlock] at e; exact .inr e.symm
    clear hw
    refine .inr ⟨g', c', cs0 ++ [t, .int .i64 x, .int .i64 y], fun i => if i < L.length then ts i else t, fun i => if i < L.length then a i else mid, fun i => if i < L.length then b i else hi, by simp, hlt'.1, hlt'.2, by rw [List.length_append]; exact h2, fun i hi' => ?_, fun i j hij hj => ?_⟩
    · by_cases hil : i < L.length
      · obtain ⟨⟨q0, q1, q6⟩, q2, q3, q4, q5⟩ := hc i hil
        simp only [hil, if_true]
        rw [List.getElem_append_left hil]
        refine ⟨⟨by rw [List.getElem?_append_left (by omega)]; exact q0, by rw [List.getElem?_append_left (by omega)]; exact q1, by rw [List.getElem?_append_left (by omega)]; exact q6⟩, q2.rng hr (by omega), q3, by omega, by omega⟩
      · have : i = L.length := by simp at hi'; omega
        subst this
        simp only [Nat.lt_irrefl, if_false]
        rw [List.getElem_append_right (Nat.le_refl _)]
        simp only [Nat.sub_self, List.getElem_cons_zero]
        refine ⟨⟨by rw [List.getElem?_append_right (by omega)]; simp [l1], by rw [List.getElem?_append_right (by omega)]; simp [l1], by rw [List.getElem?_append_right (by omega)]; simp [l1]⟩, ht.rng hr (by omega), by omega, by omega, by omega⟩
    · simp only [List.length_append, List.length_cons, List.length_nil] at hj
      by_cases hjl : j < L.length
      · simp only [show i < L.length by omega, hjl, if_true]; exact hd i j hij hjl
      · have : j = L.length := by omega
        subst this
        obtain ⟨-, q2, q3, q4, q5⟩ := hc i hij
        simp only [hij, if_true, Nat.lt_irrefl, if_false]
        left; omega

theorem app_quota {ops : Array Oper} {rest : List Oper} {o : Oper} {a : Act} {Q : Exit → Act → World → Prop} {w0 w : World} {lo mid0 mid hi : Nat} (s x : Operand) (n : Nat) (v : Value) (L : List QD) (ad : Addr) (c : Nat) (t : Value) (ys : List Int) (y z : Int)
    (hgd : o.guard = none) (ho : o.op = .call { callee := .builtin .append, args := #[s, x], argTypes := #[28, 28] })
    (hn : L.length = n) (hs : a.eval s = v) (hown : OwnQt lo mid0 w v L) (hx : a.eval x = .slice (some ad) 1 c)
    (hy0 : w.cell? (ad.add 0) = some t) (hy1 : w.cell? (ad.add 1) = some (.int .i64 y)) (hy2 : w.cell? (ad.add 2) = some (.int .i64 z)) (ht : OwnI mid hi w t ys) (hmid' : mid0 ≤ mid) (hlm : lo ≤ mid) (hhi : hi ≤ w.heap.size) (hmw : mid ≤ w.heap.size) (hb : L.length ≤ 1099511627776) (h0 : Ext w0 w) (hlo : w0.heap.size ≤ lo)
    (h : ∀ g' c' w', OwnQt lo w'.heap.size w' (.slice (some ⟨g', 0, none⟩) (n + 1) c') (L ++ [(ys, y, z)]) → Rng lo (w.heap.size + 1) w w' → Ext w0 w' → wpList Tryd.prog ops Q rest (a.put o.dst (.slice (some ⟨g', 0, none⟩) (n + 1) c')) w') : wpList Tryd.prog ops Q (o :: rest) a w := by
  subst hn
  obtain ⟨i0, hi0, hz0, hz1, hz2⟩ := info_parts Tryd.info_quota
  obtain ⟨cs, hcs⟩ := hown.row
  have hbl : ∀ k, v.ownBlock = some k → lo ≤ k := fun k hk => by
    rcases hown with ⟨rfl, -⟩ | ⟨g, cap, cs, ts, a, b, rfl, h1, -⟩
    · simp [Value.ownBlock] at hk
    · simp [Value.ownBlock] at hk; omega
  refine wpList_append_own2 w hgd s x _ ho lo 60 i0 (.agg #[.slice none 0 0, .int .i64 0, .int .i64 0]) 3 40 Tryd.underlying28 hi0 hz0 hz1 hz2 rfl (by decide) _ L.length cs hs hcs ad 1 c [t, .int .i64 y, .int .i64 z] hx (by simp) (fun j u hj => ?_) (fun u hu => ?_) (by unfold maxLen; omega) (by omega) (by omega) (fun v' w' h2 h3 h4 h5 => ?_)
  · have hj2 : j < 3 := by have := (List.getElem?_eq_some_iff.1 hj).1; simpa using this
    have : j = 0 ∨ j = 1 ∨ j = 2 := by omega
    rcases this with rfl | rfl | rfl
    · simp at hj; subst hj; exact hy0
    · simp at hj; subst hj; exact hy1
    · simp at hj; subst hj; exact hy2
  · simp at hu; rcases hu with rfl | rfl | rfl
    · exact ht.one
    · rfl
    · rfl
  · obtain ⟨g', c', rfl, hw⟩ := h5 (by omega)
    exact h g' c' w' (OwnQt.snoc hmid' hlm hown ht hhi hmw hcs h2 h3 hw) ⟨h3.os, h3.tape, h3.output, h3.size, fun k hk hr => h3.block k hk (fun e => by have := hbl k e.symm; omega)⟩ (h0.grown h3 fun k hk => by have := hbl k hk; omega)
end Go.Proofs.YthcomgnokkndgaaDoor
