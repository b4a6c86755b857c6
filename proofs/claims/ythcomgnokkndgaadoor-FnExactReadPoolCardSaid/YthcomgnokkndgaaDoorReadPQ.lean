/- A pool read from its text: how the reference reads, in plain Lean; a row of quotas beside a box. -/
import Derived.Test.YthcomgnokkndgaaDoorReadPI
namespace Go.Proofs.YthcomgnokkndgaaDoor
open Go.RowKit

def dch (n : Int) : UInt8 := UInt8.ofNat (48 + n.toNat)
def dgC (c : UInt8) : Int := if 48 ≤ c.toNat ∧ c.toNat ≤ 57 then (c.toNat : Int) - 48 else -1
def dgL (l : List UInt8) (a : Nat) : Int := match l[a]? with | some c => dgC c | none => -1
theorem digit_ten {n : Int} (h0 : 0 ≤ n) (h1 : n ≤ 9) : Lib.itoa n = [dch n] ∧ dgC (dch n) = n := by
  constructor
  · unfold Lib.itoa dch
    rw [if_neg (by omega)]
    unfold Lib.decDigits
    rw [dif_pos (by omega)]
  · have : n = 0 ∨ n = 1 ∨ n = 2 ∨ n = 3 ∨ n = 4 ∨ n = 5 ∨ n = 6 ∨ n = 7 ∨ n = 8 ∨ n = 9 := by omega
    rcases this with rfl | rfl | rfl | rfl | rfl | rfl | rfl | rfl | rfl | rfl <;> rfl
theorem dgL_range (l : List UInt8) (a : Nat) : -1 ≤ dgL l a ∧ dgL l a ≤ 9 := by
  unfold dgL
  split
  · unfold dgC; split <;> omega
  · omega
theorem dgL_drop {l r : List UInt8} {k j : Nat} {n : Int} (h : l.drop k = r) (hr : r[j]? = some (dch n)) (h0 : 0 ≤ n) (h1 : n ≤ 9) : dgL l (k + j) = n := by
  unfold dgL
  rw [← List.getElem?_drop, h, hr]
  exact (digit_ten h0 h1).2

def mt (E : List Int) : List UInt8 := (E.map fun x => [44, dch x]).flatten
def sepE (c : UInt8) : List Int → List UInt8
  | [] => []
  | e :: E => c :: dch e :: mt E
theorem mt_sep (E : List Int) : mt E = sepE 44 E := by cases E <;> rfl
theorem decs_mt : ∀ {xs : List Int}, (∀ x ∈ xs, 0 ≤ x ∧ x ≤ 9) → ∀ {x}, 0 ≤ x → x ≤ 9 → decs 44 (x :: xs) = dch x :: mt xs := by
  intro xs h x h0 h1
  unfold decs mt
  rw [List.map_cons, Lib.join_cons, (digit_ten h0 h1).1, List.singleton_append]
  congr 1
  unfold Lib.joinTail
  congr 1
  rw [List.map_map]
  refine List.map_congr_left fun y hy => ?_
  show [44] ++ Lib.itoa y = _
  rw [(digit_ten (h y hy).1 (h y hy).2).1]; rfl
def qrest (lo hi : Int) (R : List QD) : List UInt8 := 61 :: dch lo :: 46 :: 46 :: dch hi :: (R.map qtxt).flatten
theorem qtxt_sep {m : Int} {q : QD} (hm : m ≤ 6) (h : OkQ m q) (R : List QD) : ((q :: R).map qtxt).flatten = sepE 59 q.1 ++ qrest q.2.1 q.2.2 R := by
  obtain ⟨m1, m2, m3, m4, m5, m6, m7⟩ := h.mem hm
  obtain ⟨ms, lo, hi⟩ := q
  cases ms with
  | nil => simp at m3
  | cons x xs =>
    have hx := m1 x (List.mem_cons_self ..)
    have e := decs_mt (xs := xs) (fun y hy => by have := m1 y (List.mem_cons_of_mem _ hy); omega) hx.1 (show x ≤ 9 by omega)
    simp only at m4 m5 m6 m7
    rw [List.map_cons, List.flatten_cons]
    show (59 :: (decs 44 (x :: xs) ++ 61 :: (Lib.itoa lo ++ 46 :: 46 :: Lib.itoa hi))) ++ (R.map qtxt).flatten = (59 :: dch x :: mt xs) ++ qrest lo hi R
    rw [e, (digit_ten m4 (show lo ≤ 9 by omega)).1, (digit_ten m6 (show hi ≤ 9 by omega)).1]
    unfold qrest
    simp
/-- C has been read of M at place k. -/
def Po (T : List UInt8) (M C : List QD) (k : Nat) : Prop := ∃ R, M = C ++ R ∧ T.drop k = (R.map qtxt).flatten
/-- And D of the next quota's members. -/
def Pi (T : List UInt8) (M C : List QD) (D : List Int) (k : Nat) : Prop := ∃ E lo hi R c, c ≠ 61 ∧ M = C ++ (D ++ E, lo, hi) :: R ∧ T.drop k = sepE c E ++ qrest lo hi R
def NiceQ (M : List QD) : Prop := ∀ q ∈ M, OkQ 6 q
theorem OkP.niceQ {p z : Int} {M : List QD} (h : OkP p z M) : NiceQ M := fun q hq => by
  obtain ⟨k, hk, rfl⟩ := List.getElem_of_mem hq
  have hp := h.1
  obtain ⟨a, b, c, d, e⟩ := h.2.2.2 k hk
  exact ⟨a, fun i hi => by have t1 := (b i hi).1; exact ⟨by omega, (b i hi).2⟩, c, d, e⟩
theorem Po.start {T : List UInt8} {p z : Int} {M : List QD} (hok : OkP p z M) (h : ptexts p z M = T) : dgL T 0 = p ∧ dgL T 2 = z ∧ Po T M [] 3 := by
  have h1 := hok.1
  have h2 := hok.2.1
  have e : T = dch p :: 47 :: dch z :: (M.map qtxt).flatten := by
    rw [← h]; unfold ptexts
    rw [(digit_ten (show 0 ≤ p by omega) (by omega)).1, (digit_ten (show 0 ≤ z by omega) (by omega)).1]; rfl
  subst e
  exact ⟨(digit_ten (show 0 ≤ p by omega) (by omega)).2, (digit_ten (show 0 ≤ z by omega) (by omega)).2, M, rfl, rfl⟩
theorem Po.quota {T : List UInt8} {M C : List QD} {k : Nat} (hn : NiceQ M) (h : Po T M C k) (hc : (T.drop k).head? = some 59) : Pi T M C [] k := by
  obtain ⟨R, rfl, hd⟩ := h
  cases R with
  | nil => rw [hd] at hc; simp at hc
  | cons q R =>
    obtain ⟨ms, lo, hi⟩ := q
    have ho := hn (ms, lo, hi) (by simp)
    exact ⟨ms, lo, hi, R, 59, by decide, rfl, by rw [hd, qtxt_sep (by omega) ho]⟩
theorem Pi.member {T : List UInt8} {M C : List QD} {D : List Int} {k : Nat} (hn : NiceQ M) (h : Pi T M C D k) (hc : (T.drop k).head? ≠ some 61) : Pi T M C (D ++ [dgL T (k + 1)]) (k + 2) := by
  obtain ⟨E, lo, hi, R, c, hc61, rfl, hd⟩ := h
  cases E with
  | nil => rw [hd] at hc; exact absurd rfl hc
  | cons e E =>
    have ho := (hn (D ++ e :: E, lo, hi) (by simp)).mem (by omega)
    have he := ho.1 e (by simp)
    have h1 : dgL T (k + 1) = e := dgL_drop hd rfl he.1 (by omega)
    refine ⟨E, lo, hi, R, 44, by decide, by rw [h1]; simp, ?_⟩
    rw [← List.drop_drop, hd, ← mt_sep]; rfl
theorem Pi.done {T : List UInt8} {M C : List QD} {D : List Int} {k : Nat} (hn : NiceQ M) (h : Pi T M C D k) (hc : ¬ (k < T.length ∧ (T.drop k).head? ≠ some 61)) : Po T M (C ++ [(D, dgL T (k + 1), dgL T (k + 4))]) (k + 5) := by
  obtain ⟨E, lo, hi, R, c, hc61, rfl, hd⟩ := h
  cases E with
  | cons e E =>
    refine absurd ⟨?_, ?_⟩ hc
    · rcases Nat.lt_or_ge k T.length with q | q
      · exact q
      · rw [List.drop_of_length_le q] at hd; simp [sepE] at hd
    · rw [hd]; simp [sepE]; exact hc61
  | nil =>
    have ho := (hn (D ++ [], lo, hi) (by simp)).mem (by omega)
    simp only at ho
    have h1 : dgL T (k + 1) = lo := dgL_drop hd rfl ho.2.2.2.1 (by omega)
    have h2 : dgL T (k + 4) = hi := dgL_drop hd rfl ho.2.2.2.2.2.1 (by omega)
    refine ⟨R, by rw [h1, h2]; simp, ?_⟩
    rw [← List.drop_drop, hd]; rfl
theorem Po.done {T : List UInt8} {M C : List QD} {k : Nat} (hn : NiceQ M) (h : Po T M C k) (hc : ¬ (k < T.length ∧ (T.drop k).head? = some 59)) : M = C := by
  obtain ⟨R, rfl, hd⟩ := h
  cases R with
  | nil => simp
  | cons q R =>
    have ho := hn q (by simp)
    rw [qtxt_sep (by omega) ho] at hd
    have hq := (ho.mem (by omega)).2.2.1
    cases hm : q.1 with
    | nil => rw [hm] at hq; simp at hq
    | cons x xs =>
      rw [hm] at hd
      refine absurd ⟨?_, by rw [hd]; rfl⟩ hc
      rcases Nat.lt_or_ge k T.length with q | q
      · exact q
      · rw [List.drop_of_length_le q] at hd; simp [sepE] at hd
theorem Po.le {T : List UInt8} {M C : List QD} {k : Nat} (h : Po T M C k) : C.length ≤ M.length := by
  obtain ⟨R, rfl, -⟩ := h; simp

/-! ### A row of quotas beside a box -/
/-- The quotas L in a row at g, not in the box pb; their members behind the box. -/
def OwnQh (pb lo hi : Nat) (w : World) (g n cap : Nat) (L : List QD) : Prop :=
  L.length = n ∧ lo ≤ g ∧ g < hi ∧ g ≠ pb ∧ ∃ (cs : List Value) (ts : Nat → Value) (a b : Nat → Nat), w.ownsRow lo 60 3 (.slice (some ⟨g, 0, none⟩) n cap) n cs ∧
    (∀ i (h : i < L.length), (cs[i * 3]? = some (ts i) ∧ cs[i * 3 + 1]? = some (.int .i64 L[i].2.1) ∧ cs[i * 3 + 2]? = some (.int .i64 L[i].2.2)) ∧ OwnI (a i) (b i) w (ts i) L[i].1 ∧ pb < a i ∧ b i ≤ hi ∧ (g < a i ∨ b i ≤ g)) ∧
    (∀ i j, i < j → j < L.length → b i ≤ a j ∨ b j ≤ a i)
theorem OwnQh.qt {pb lo hi : Nat} {w : World} {g n cap : Nat} {L : List QD} (h : OwnQh pb lo hi w g n cap L) (hl : lo ≤ pb + 1) : OwnQt lo hi w (.slice (some ⟨g, 0, none⟩) n cap) L := by
  obtain ⟨rfl, h1, h2, h3, cs, ts, a, b, how, hc, hd⟩ := h
  exact .inr ⟨g, cap, cs, ts, a, b, rfl, h1, h2, how, fun i hi => ⟨(hc i hi).1, (hc i hi).2.1, by have := (hc i hi).2.2.1; omega, (hc i hi).2.2.2⟩, hd⟩
theorem OwnQh.rng {pb lo hi lo' hi' : Nat} {w w' : World} {g n cap : Nat} {L : List QD} (h : OwnQh pb lo hi w g n cap L) (hx : Rng lo' hi' w w') (hg : g < lo' ∨ hi' ≤ g) (hd : hi ≤ lo' ∨ hi' ≤ pb + 1) : OwnQh pb lo hi w' g n cap L := by
  obtain ⟨rfl, h1, h2, h3, cs, ts, a, b, how, hc, hdj⟩ := h
  refine ⟨rfl, h1, h2, h3, cs, ts, a, b, ownsRow_rng how hx hg, fun i hi => ?_, hdj⟩
  obtain ⟨c1, c3, c4, c5, c6⟩ := hc i hi
  exact ⟨c1, c3.rng hx (by omega), c4, c5, c6⟩
theorem OwnQh.ext {pb lo hi : Nat} {w w' : World} {g n cap : Nat} {L : List QD} (h : OwnQh pb lo hi w g n cap L) (hx : Ext w w') : OwnQh pb lo hi w' g n cap L := by
  obtain ⟨rfl, h1, h2, h3, cs, ts, a, b, how, hc, hdj⟩ := h
  exact ⟨rfl, h1, h2, h3, cs, ts, a, b, ownsRow_ext how hx, fun i hi => ⟨(hc i hi).1, (hc i hi).2.1.ext hx, (hc i hi).2.2⟩, hdj⟩
theorem OwnQh.setBox {pb lo hi o : Nat} {w : World} {g n cap : Nat} {L : List QD} (h : OwnQh pb lo hi w g n cap L) (u : Value) : OwnQh pb lo hi (w.setCell ⟨pb, o, none⟩ u) g n cap L :=
  h.rng (lo' := pb) (hi' := pb + 1) ((Rng.refl _ _ w).setCell (p := ⟨pb, o, none⟩) (Nat.le_refl _) (Nat.lt_succ_self _) u) (by have := h.2.2.2.1; omega) (.inr (Nat.le_refl _))
theorem OwnQh.snoc {pb lo mid mid0 hi : Nat} {w w' : World} {g n cap g' c' : Nat} {x y : Int} {t : Value} {ys : List Int} {cs : List Value} {L : List QD} (hmid' : mid0 ≤ mid) (hlm : pb < mid)
    (h : OwnQh pb lo mid0 w g n cap L) (ht : OwnI mid hi w t ys) (hhi : hi ≤ w.heap.size) (hmw : mid ≤ w.heap.size) (hpw : pb < w.heap.size)
    (hcs : w.ownsRow lo 60 3 (.slice (some ⟨g, 0, none⟩) n cap) n cs) (h2 : w'.ownsRow lo 60 3 (.slice (some ⟨g', 0, none⟩) (n + 1) c') (n + 1) (cs ++ [t, .int .i64 x, .int .i64 y]))
    (hg : w.grownBy w' (some g)) (hw : g' = w.heap.size ∨ g' = g) : OwnQh pb lo w'.heap.size w' g' (n + 1) c' (L ++ [(ys, x, y)]) := by
  have hsz := hg.size
  have hlt' := (h2.lt g' rfl)
  obtain ⟨rfl, h3, h4, h5, cs0, ts, a, b, how, hc, hd⟩ := h
  have hcc : cs0 = cs := by
    apply List.ext_getElem?
    intro j
    by_cases hj : j < L.length * 3
    · have e1 := how.cellAt j (by omega)
      have e2 := hcs.cellAt j (by omega)
      rw [← e1, ← e2]
    · have l1 : cs0.length = L.length * 3 := how.1
      have l2 : cs.length = L.length * 3 := hcs.1
      rw [List.getElem?_eq_none (by omega), List.getElem?_eq_none (by omega)]
  subst hcc
  have l1 : cs0.length = L.length * 3 := how.1
  have hr : Rng g (g + 1) w w' := ⟨hg.os, hg.tape, hg.output, hg.size, fun k hk hne => hg.block k hk (by intro e; simp at e; omega)⟩
  refine ⟨by simp, hlt'.1, hlt'.2, by omega, cs0 ++ [t, .int .i64 x, .int .i64 y], fun i => if i < L.length then ts i else t, fun i => if i < L.length then a i else mid, fun i => if i < L.length then b i else hi, h2, fun i hi' => ?_, fun i j hij hj => ?_⟩
  · by_cases hil : i < L.length
    · obtain ⟨⟨q0, q1, q6⟩, q2, q3, q4, q5⟩ := hc i hil
      simp only [hil, if_true]
      rw [List.getElem_append_left hil]
      refine ⟨⟨by rw [List.getElem?_append_left (by omega)]; exact q0, by rw [List.getElem?_append_left (by omega)]; exact q1, by rw [List.getElem?_append_left (by omega)]; exact q6⟩, q2.rng hr (by omega), q3, by omega, by omega⟩
    · have : i = L.length := by simp at hi'; omega
      subst this
      simp only [Nat.lt_irrefl, if_false]
      rw [List.getElem_append_right (Nat.le_refl _)]
      simp only [Nat.sub_self, List.getElem_cons_zero]
      refine ⟨⟨by rw [List.getElem?_append_right (by omega)]; simp [l1], by rw [List.getElem?_append_right (by omega)]; simp [l1], by rw [List.getElem?_append_right (by omega)]; simp [l1]⟩, ht.rng hr (by omega), by omega, by omega, by omega⟩
  · simp only [List.length_append, List.length_cons, List.length_nil] at hj
    by_cases hjl : j < L.length
    · simp only [show i < L.length by omega, hjl, if_true]; exact hd i j hij hjl
    · have : j = L.length := by omega
      subst this
      obtain ⟨-, q2, q3, q4, q5⟩ := hc i hij
      simp only [hij, if_true, Nat.lt_irrefl, if_false]
      left; omega
theorem app_quotaH {ops : Array Oper} {rest : List Oper} {o : Oper} {a : Act} {Q : Exit → Act → World → Prop} {w0 w : World} {pb lo mid0 mid hi : Nat} (s x : Operand) (g cap n : Nat) (L : List QD) (ad : Addr) (c : Nat) (t : Value) (ys : List Int) (y z : Int)
    (hgd : o.guard = none) (ho : o.op = .call { callee := .builtin .append, args := #[s, x], argTypes := #[28, 28] })
    (hs : a.eval s = .slice (some ⟨g, 0, none⟩) n cap) (hown : OwnQh pb lo mid0 w g n cap L) (hx : a.eval x = .slice (some ad) 1 c)
    (hy0 : w.cell? (ad.add 0) = some t) (hy1 : w.cell? (ad.add 1) = some (.int .i64 y)) (hy2 : w.cell? (ad.add 2) = some (.int .i64 z)) (ht : OwnI mid hi w t ys) (hmid' : mid0 ≤ mid) (hlm : pb < mid) (hhi : hi ≤ w.heap.size) (hmw : mid ≤ w.heap.size) (hpw : pb < w.heap.size) (hb : n ≤ 1099511627776) (h0 : Ext w0 w) (hlo : w0.heap.size ≤ lo)
    (h : ∀ g' c' w', OwnQh pb lo w'.heap.size w' g' (n + 1) c' (L ++ [(ys, y, z)]) → Rng g (g + 1) w w' → Ext w0 w' → wpList Tryd.prog ops Q rest (a.put o.dst (.slice (some ⟨g', 0, none⟩) (n + 1) c')) w') : wpList Tryd.prog ops Q (o :: rest) a w := by
  obtain ⟨i0, hi0, hz0, hz1, hz2⟩ := info_parts Tryd.info_quota
  have hown2 := hown
  obtain ⟨hn, -, -, -, cs, -, -, -, hcs, -⟩ := hown2
  have hgl := hcs.lt g rfl
  refine wpList_append_own2 w hgd s x _ ho lo 60 i0 (.agg #[.slice none 0 0, .int .i64 0, .int .i64 0]) 3 40 Tryd.underlying28 hi0 hz0 hz1 hz2 rfl (by decide) _ n cs hs hcs ad 1 c [t, .int .i64 y, .int .i64 z] hx (by simp) (fun j u hj => ?_) (fun u hu => ?_) (by unfold maxLen; omega) (by omega) (by omega) (fun v' w' h2 h3 h4 h5 => ?_)
  · have hj2 : j < 3 := by have := (List.getElem?_eq_some_iff.1 hj).1; simpa using this
    have : j = 0 ∨ j = 1 ∨ j = 2 := by omega
    rcases this with rfl | rfl | rfl
    · simp at hj; subst hj; exact hy0
    · simp at hj; subst hj; exact hy1
    · simp at hj; subst hj; exact hy2
  · simp at hu; rcases hu with rfl | rfl | rfl
    · exact ht.one
    · rfl
    · rfl
  · obtain ⟨g', c', rfl, hw⟩ := h5 (by omega)
    have hw' : g' = w.heap.size ∨ g' = g := by
      rcases hw with e | e
      · exact .inl e
      · simp [Value.ownBlock] at e; exact .inr e.symm
    exact h g' c' w' (OwnQh.snoc hmid' hlm hown ht hhi hmw hpw hcs h2 h3 hw') (rng_of_grown h3) (h0.grown h3 fun k hk => by simp [Value.ownBlock] at hk; omega)

/-! ### A digit at a place -/
set_option maxHeartbeats 1000000 in
theorem spec_l04Digit (s : ByteArray) (a : Nat) (w : World) (_ : s.size ≤ 1048576) (_ : a ≤ 1048700) (x : Int) (hx : dgL s.data.toList a = x) :
    Calls Tryd.prog 31 #[.string s, .int .i64 a] w fun e w' => e = .returned (.int .i64 x) ∧ Ext w w' := by
  by_cases has : a < s.size
  · obtain ⟨c, hc⟩ : ∃ c, s[a].toNat = c := ⟨_, rfl⟩
    have hc256 : c < 256 := by rw [← hc]; exact s[a].toNat_lt
    have HX := Lib.hid (show x = if 48 ≤ c ∧ c ≤ 57 then (c : Int) - 48 else -1 by
      rw [← hx]; unfold dgL
      rw [List.getElem?_eq_getElem (by rw [size_list]; exact has)]
      simp only [get_list s a has]
      unfold dgC
      rw [hc])
    have HC := Lib.hid hc
    clear hx
    by_cases h1 : (c : Int) < 48
    · have HE := Lib.hid (show x = -1 by rw [HX.out, if_neg (by omega)])
      go_enter Tryd.func31, Tryd.ntmps31
      go_wp2_with fail
      refine bodyPost_ret (v := .int .i64 (-1)) (by simp [results, Tryd.results31, go_sem]) rfl ?_
      exact ⟨by rw [HE.out], ExtC.ext⟩
    · by_cases h2 : 57 < (c : Int)
      · have HE := Lib.hid (show x = -1 by rw [HX.out, if_neg (by omega)])
        have d2 : decide (57 < (c : Int)) = true := by simp [h2]
        go_enter Tryd.func31, Tryd.ntmps31
        go_wp2_with fail
        refine bodyPost_ret (v := .int .i64 (-1)) (by simp [results, Tryd.results31, go_sem]) rfl ?_
        exact ⟨by rw [HE.out], ExtC.ext⟩
      · have HE := Lib.hid (show x = (c : Int) - 48 by rw [HX.out, if_pos (by omega)])
        have d2 : decide (57 < (c : Int)) = false := by simpa using h2
        go_enter Tryd.func31, Tryd.ntmps31
        go_wp2_with fail
        refine bodyPost_ret (v := .int .i64 ((c : Int) - 48)) (by simp [results, Tryd.results31, go_sem]) rfl ?_
        exact ⟨by rw [HE.out], ExtC.ext⟩
  · have HE := Lib.hid (show x = -1 by
      rw [← hx]; unfold dgL
      rw [List.getElem?_eq_none (by rw [size_list]; omega)])
    clear hx
    go_enter Tryd.func31, Tryd.ntmps31
    go_wp2_with fail
    refine bodyPost_ret (v := .int .i64 (-1)) (by simp [results, Tryd.results31, go_sem]) rfl ?_
    exact ⟨by rw [HE.out], ExtC.ext⟩
end Go.Proofs.YthcomgnokkndgaaDoor
