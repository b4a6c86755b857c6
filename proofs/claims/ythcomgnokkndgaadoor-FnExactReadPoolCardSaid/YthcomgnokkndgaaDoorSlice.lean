/- Slices of numbers: what reads, what a function owns, and the contracts of the laws' helpers on []int64. -/
import Derived.Test.YthcomgnokkndgaaDoorKit
import Derived.Test.YthcomgnokkndgaaDoorTail
namespace Go.Proofs.YthcomgnokkndgaaDoor
open Go.RowKit

theorem Tryd.info_i64 : (Tryd.prog.info? 2).map (fun i => (i.zero, i.size, i.bytes)) = some (some (.int .i64 0), 1, 8) := by kernel_rfl

/-- A number as a value. -/
abbrev iv (n : Int) : Value := .int .i64 n

/-- v reads as the numbers xs: at an address with its cells. -/
def IS (w : World) (v : Value) (xs : List Int) : Prop :=
  ∃ b off cap, v = .slice (some ⟨b, off, none⟩) xs.length cap ∧ xs.length ≤ cap ∧ InW b w ∧ ∀ i (h : i < xs.length), w.cell? ⟨b, off + i, none⟩ = some (.int .i64 xs[i])
/-- v, that came in from outside, reads as xs: without elements it may be anything. -/
def RI (w : World) (v : Value) (xs : List Int) : Prop := IS w v xs ∨ (xs = [] ∧ ∃ p cap, v = .slice p 0 cap)
/-- v is nil, or lies in a block of its own, from lo on, below hi. -/
def OwnI (lo hi : Nat) (w : World) (v : Value) (xs : List Int) : Prop :=
  (v = .slice none 0 0 ∧ xs = []) ∨ ∃ g cap, v = .slice (some ⟨g, 0, none⟩) xs.length cap ∧ lo ≤ g ∧ g < hi ∧ w.ownsRow lo 2 1 v xs.length (xs.map iv)

theorem IS.ext {w w' : World} {v : Value} {xs : List Int} (h : IS w v xs) (hx : Ext w w') : IS w' v xs := by
  obtain ⟨b, off, cap, hv, hlc, hb, hc⟩ := h
  refine ⟨b, off, cap, hv, hlc, ⟨Nat.lt_of_lt_of_le hb.lt hx.size⟩, fun i hi => ?_⟩
  rw [Below.cell hx hb.lt]; exact hc i hi
theorem IS.ri {w : World} {v : Value} {xs : List Int} (h : IS w v xs) : RI w v xs := .inl h
theorem RI.ext {w w' : World} {v : Value} {xs : List Int} (h : RI w v xs) (hx : Ext w w') : RI w' v xs := by
  rcases h with h | h
  · exact .inl (h.ext hx)
  · exact .inr h
theorem RI.nil (w : World) : RI w (.slice none 0 0) [] := .inr ⟨rfl, none, 0, rfl⟩
/-- The form of a value that reads; its cells where there is an element. -/
theorem RI.form {w : World} {v : Value} {xs : List Int} (h : RI w v xs) : ∃ p cap, v = .slice p xs.length cap ∧ xs.length ≤ cap ∧
    (0 < xs.length → ∃ b off, p = some ⟨b, off, none⟩ ∧ InW b w ∧ ∀ i (h : i < xs.length), w.cell? ⟨b, off + i, none⟩ = some (.int .i64 xs[i])) := by
  rcases h with ⟨b, off, cap, rfl, hlc, hb, hc⟩ | ⟨rfl, p, cap, rfl⟩
  · exact ⟨_, _, rfl, hlc, fun _ => ⟨b, off, rfl, hb, hc⟩⟩
  · exact ⟨_, _, rfl, Nat.zero_le _, fun h => absurd h (by simp)⟩
theorem RI.is {w : World} {v : Value} {xs : List Int} (h : RI w v xs) (hn : 0 < xs.length) : IS w v xs := by
  rcases h with h | ⟨rfl, _⟩
  · exact h
  · simp at hn

theorem ownsRow_ext {base : Nat} {e : TypeId} {size : Nat} {w w' : World} {v : Value} {n : Nat} {xs : List Value} (h : w.ownsRow base e size v n xs) (hx : Ext w w') : w'.ownsRow base e size v n xs := by
  obtain ⟨h1, h2⟩ := h
  refine ⟨h1, ?_⟩
  rcases h2 with h2 | ⟨g', cap', cur, e1, e2, e3, r⟩
  · exact .inl h2
  · refine .inr ⟨g', cap', cur, e1, e2, ?_, r⟩
    rw [hx.block g' (Array.getElem?_eq_some_iff.1 e3).1]; exact e3
theorem ownsRow_mono {base base' : Nat} {e : TypeId} {size : Nat} {w : World} {v : Value} {n : Nat} {xs : List Value} (h : w.ownsRow base e size v n xs) (hb : base' ≤ base) : w.ownsRow base' e size v n xs := by
  obtain ⟨h1, h2⟩ := h
  refine ⟨h1, ?_⟩
  rcases h2 with h2 | ⟨g', cap', cur, e1, e2, r⟩
  · exact .inl h2
  · exact .inr ⟨g', cap', cur, e1, Nat.le_trans hb e2, r⟩

theorem OwnI.is {lo hi : Nat} {w : World} {v : Value} {xs : List Int} (h : OwnI lo hi w v xs) (hn : v ≠ .slice none 0 0) : IS w v xs := by
  rcases h with ⟨rfl, _⟩ | ⟨g, cap, rfl, _, _, h⟩
  · exact absurd rfl hn
  have hlc : xs.length ≤ cap := by
    rcases h.2 with ⟨h1, _⟩ | ⟨g', cap', cur, h1, _, _, h2, _⟩
    · cases h1
    · simp only [Value.slice.injEq, true_and] at h1; omega
  refine ⟨g, 0, cap, rfl, hlc, ⟨(h.lt g rfl).2⟩, fun i hi => ?_⟩
  rw [Nat.zero_add, h.cellAt i (by omega)]
  simp [hi]
theorem OwnI.ri {lo hi : Nat} {w : World} {v : Value} {xs : List Int} (h : OwnI lo hi w v xs) : RI w v xs := by
  rcases h with ⟨rfl, rfl⟩ | h'
  · exact RI.nil w
  · exact .inl (OwnI.is (.inr h') (by obtain ⟨g, cap, rfl, _⟩ := h'; simp))
theorem OwnI.form {lo hi : Nat} {w : World} {v : Value} {xs : List Int} (h : OwnI lo hi w v xs) (hn : v ≠ .slice none 0 0) : ∃ g cap, v = .slice (some ⟨g, 0, none⟩) xs.length cap := by
  rcases h with ⟨rfl, _⟩ | ⟨g, cap, rfl, _, _, h⟩
  · exact absurd rfl hn
  · exact ⟨g, cap, rfl⟩
theorem OwnI.mono {lo hi lo' hi' : Nat} {w : World} {v : Value} {xs : List Int} (h : OwnI lo hi w v xs) (h1 : lo' ≤ lo) (h2 : hi ≤ hi') : OwnI lo' hi' w v xs := by
  rcases h with h | ⟨g, cap, hv, a, b, h⟩
  · exact .inl h
  · exact .inr ⟨g, cap, hv, by omega, by omega, ownsRow_mono h h1⟩
theorem OwnI.ext {lo hi : Nat} {w w' : World} {v : Value} {xs : List Int} (h : OwnI lo hi w v xs) (hx : Ext w w') : OwnI lo hi w' v xs := by
  rcases h with h | ⟨g, cap, hv, a, b, h⟩
  · exact .inl h
  · exact .inr ⟨g, cap, hv, a, b, ownsRow_ext h hx⟩

theorem grownBy_ext {w w' : World} {row : Option Nat} (h : w.grownBy w' row) (hr : ∀ k, row = some k → w.heap.size ≤ k) : Ext w w' :=
  ⟨h.os, h.tape, h.output, h.size, fun k hk => h.block k hk (fun e => by have := hr k e.symm; omega)⟩

/-- Nothing outside the blocks from lo on, below hi, has turned. -/
structure Rng (lo hi : Nat) (w w' : World) : Prop where
  os : w'.os = w.os
  tape : w'.tape = w.tape
  output : w'.output = w.output
  size : w.heap.size ≤ w'.heap.size
  block : ∀ k, k < w.heap.size → (k < lo ∨ hi ≤ k) → w'.heap[k]? = w.heap[k]?
theorem Rng.refl (lo hi : Nat) (w : World) : Rng lo hi w w := ⟨rfl, rfl, rfl, Nat.le_refl _, fun _ _ _ => rfl⟩
theorem Rng.trans {lo hi : Nat} {a b c : World} (h : Rng lo hi a b) (k : Rng lo hi b c) : Rng lo hi a c :=
  ⟨k.os.trans h.os, k.tape.trans h.tape, k.output.trans h.output, Nat.le_trans h.size k.size, fun i hi' hr => (k.block i (Nat.lt_of_lt_of_le hi' h.size) hr).trans (h.block i hi' hr)⟩
theorem Rng.of_ext {lo hi : Nat} {a b : World} (h : Ext a b) : Rng lo hi a b := ⟨h.os, h.tape, h.output, h.size, fun k hk _ => h.block k hk⟩
theorem Rng.setCell {lo hi : Nat} {a b : World} (h : Rng lo hi a b) {p : Addr} (h1 : lo ≤ p.block) (h2 : p.block < hi) (u : Value) : Rng lo hi a (b.setCell p u) :=
  h.trans ⟨rfl, rfl, rfl, by simp [World.setCell], fun k _ hr => Below.heap_setCell _ _ _ _ (by omega)⟩
theorem Rng.mono {lo hi lo' hi' : Nat} {a b : World} (h : Rng lo hi a b) (h1 : lo' ≤ lo) (h2 : hi ≤ hi') : Rng lo' hi' a b :=
  ⟨h.os, h.tape, h.output, h.size, fun k hk hr => h.block k hk (by omega)⟩
theorem Rng.below {lo hi B : Nat} {a b : World} (h : Rng lo hi a b) (hB : B ≤ a.heap.size) (hl : B ≤ lo) : Below B a b :=
  ⟨h.os, h.tape, h.output, h.size, fun k hk => h.block k (by omega) (.inl (by omega))⟩
/-- What was made behind a world and then changed leaves that world as it was. -/
theorem Ext.rng {lo hi : Nat} {a b c : World} (h : Ext a b) (k : Rng lo hi b c) (hl : a.heap.size ≤ lo) : Ext a c :=
  ⟨k.os.trans h.os, k.tape.trans h.tape, k.output.trans h.output, Nat.le_trans h.size k.size, fun i hi => (k.block i (Nat.lt_of_lt_of_le hi h.size) (.inl (by omega))).trans (h.block i hi)⟩
theorem ownsRow_rng {base lo hi : Nat} {e : TypeId} {size : Nat} {w w' : World} {g n cap : Nat} {xs : List Value} (h : w.ownsRow base e size (.slice (some ⟨g, 0, none⟩) n cap) n xs) (hx : Rng lo hi w w') (hr : g < lo ∨ hi ≤ g) :
    w'.ownsRow base e size (.slice (some ⟨g, 0, none⟩) n cap) n xs := by
  obtain ⟨h1, h2⟩ := h
  refine ⟨h1, ?_⟩
  rcases h2 with h2 | ⟨g', cap', cur, e1, e2, e3, r⟩
  · exact .inl h2
  · simp only [Value.slice.injEq, Option.some.injEq, Addr.mk.injEq, and_true, true_and] at e1
    obtain ⟨rfl, rfl⟩ := e1
    refine .inr ⟨g, cap, cur, rfl, e2, ?_, r⟩
    rw [hx.block g (Array.getElem?_eq_some_iff.1 e3).1 hr]; exact e3
theorem OwnI.rng {lo hi lo' hi' : Nat} {w w' : World} {v : Value} {xs : List Int} (h : OwnI lo hi w v xs) (hx : Rng lo' hi' w w') (hd : hi ≤ lo' ∨ hi' ≤ lo) : OwnI lo hi w' v xs := by
  rcases h with h | ⟨g, cap, rfl, a, b, h⟩
  · exact .inl h
  · exact .inr ⟨g, cap, rfl, a, b, ownsRow_rng h hx (by omega)⟩

theorem OwnI.setCell {lo hi n o : Nat} {s : Option Nat} {w : World} {v u : Value} {xs : List Int} (h : OwnI lo hi w v xs) (hb : n < lo ∨ hi ≤ n) : OwnI lo hi (w.setCell ⟨n, o, s⟩ u) v xs :=
  h.rng (lo' := n) (hi' := n + 1) ((Rng.refl n (n + 1) w).setCell (p := ⟨n, o, s⟩) (Nat.le_refl n) (Nat.lt_succ_self n) u) (by omega)

theorem own_full {w : World} {lo : Nat} {xs : List Int} {v : Value} {cs : List Value} (how : w.ownsRow lo 2 1 v xs.length cs) (hcs : ∀ j, (hj : j < xs.length) → cs[j]? = some (iv xs[j])) : w.ownsRow lo 2 1 v xs.length (xs.map iv) := by
  have hl : cs.length = xs.length := by rw [how.1]; omega
  have e : cs = xs.map iv := by
    apply List.ext_getElem?
    intro j
    by_cases hj : j < xs.length
    · rw [hcs j hj]; simp [hj]
    · rw [List.getElem?_eq_none (by omega), List.getElem?_eq_none (by simp; omega)]
  rw [← e]; exact how


theorem getElem_lit {l : List Int} {i : Nat} (h : i < l.length) : l[i]? = some l[i] := by simp [h]

set_option maxHeartbeats 400000 in
theorem laws_eqInt64S (v u : Value) (xs ys : List Int) (b : Bool) (hb : decide (xs = ys) = b) (w : World) (h : RI w v xs) (h' : RI w u ys) (hn : xs.length ≤ 1152921504606846976) (hn' : ys.length ≤ 1152921504606846976) :
    Calls Tryd.prog 62 #[v, u] w fun e w' => e = .returned (.bool b) ∧ Ext w w' := by
  obtain ⟨p, cap, rfl, -, hc⟩ := h.form
  obtain ⟨q, cap', rfl, -, hc'⟩ := h'.form
  clear h h'
  by_cases hl : xs.length = ys.length
  · by_cases h0 : 0 < xs.length
    · obtain ⟨b1, off, rfl, i1, c1⟩ := hc h0
      obtain ⟨b2, off', rfl, i2, c2⟩ := hc' (by omega)
      clear hc hc'
      have HL := Lib.hid hl
      rw [← hl]
      clear hl
      go_enter Tryd.func62, Tryd.ntmps62
      go_wp2
      go_loopw [5] (fun i wr => ∃ k : Nat, k ≤ xs.length ∧ i = .int .i64 k ∧ Hid (∀ j, j < k → xs[j]? = ys[j]?) ∧ Ext w wr) (fun i _ => xs.length - (intOf i).toNat)
      case atStart => exact ⟨0, Nat.zero_le _, rfl, Lib.hid (fun j hj => by omega), Ext.refl _⟩
      case round =>
        obtain ⟨k, hk, rfl, hrel, hx⟩ := hrel
        obtain ⟨g0, rfl⟩ := hx.grow; clear hx
        by_cases hlt : k < xs.length
        · have d1 := c1 k hlt
          have hlt' : k < ys.length := by rw [← HL.out]; exact hlt
          have d2 := c2 k hlt'
          have C := Lib.hid (And.intro c1 c2); clear c1 c2
          by_cases he : xs[k] = ys[k]
          · have hb' : (xs[k] != ys[k]) = false := by simp [he]
            have HE := Lib.hid he; clear he
            go_wp2
            refine wp_region_grow (by kernel_rfl) (by kernel_rfl) ?_
            repeat (go_big_quiet_step (fail))
            refine wpQuiet_nil ?_
            intro _ hw'
            obtain ⟨g, hw''⟩ := hw'
            subst hw''
            go_wp2
            go_roundw
            case rel =>
              refine ⟨k + 1, by omega, by go_num, Lib.hid (fun j hj => ?_), ExtC.ext⟩
              by_cases hjk : j = k
              · subst hjk; rw [List.getElem?_eq_getElem hlt, List.getElem?_eq_getElem hlt', HE.out]
              · exact hrel.out j (by omega)
            case measure => simp [intOf]; omega
          · have hb' : (xs[k] != ys[k]) = true := by simp [he]
            have HE := Lib.hid he; clear he
            go_wp2
            refine wp_region_grow (by kernel_rfl) (by kernel_rfl) ?_
            repeat (go_big_quiet_step (fail))
            refine wpQuiet_nil ?_
            intro _ hw'
            obtain ⟨g, hw''⟩ := hw'
            subst hw''
            go_wp2
            go_ret
            refine ⟨ret_bool ?_, ExtC.ext⟩
            rw [← hb]; symm; rw [decide_eq_false_iff_not]; intro e
            exact HE.out (by subst e; rfl)
        · have C := Lib.hid (And.intro c1 c2); clear c1 c2
          go_wp2
          go_ret
          refine ⟨ret_bool ?_, ExtC.ext⟩
          rw [← hb]; symm; rw [decide_eq_true_eq]
          apply List.ext_getElem?
          intro j
          by_cases hj : j < xs.length
          · exact hrel.out j (by omega)
          · have := HL.out
            rw [List.getElem?_eq_none (by omega), List.getElem?_eq_none (by omega)]
    · have e1 : xs = [] := List.length_eq_zero_iff.1 (by omega)
      have e2 : ys = [] := List.length_eq_zero_iff.1 (by omega)
      subst e1 e2
      clear hc hc'
      go_enter Tryd.func62, Tryd.ntmps62
      go_wp2
      refine wp_loop_rounds 1 ?_; rw [rounds_succ]
      go_wp2
      go_ret
      exact ⟨ret_bool (by rw [← hb]; rfl), Ext.refl _⟩
  · have hb' : ((xs.length : Int) != (ys.length : Int)) = true := by simp; omega
    have hne : b = false := by rw [← hb, decide_eq_false_iff_not]; intro e; exact hl (by rw [e])
    have HL := Lib.hid hl; clear hl hc hc'
    subst hne
    go_enter Tryd.func62, Tryd.ntmps62
    go_wp2
    go_ret
    exact ⟨rfl, Ext.refl _⟩


/-- The marks from k on. -/
def marks (k : Int) (n : Nat) : List Int := (List.range n).map fun i : Nat => k + (i : Int)
theorem marks_length (k : Int) (n : Nat) : (marks k n).length = n := by simp [marks]
theorem marks_get (k : Int) (n i : Nat) (h : i < (marks k n).length) : (marks k n)[i] = k + i := by simp [marks]

set_option maxHeartbeats 400000 in
theorem laws_markInt64S (v : Value) (xs : List Int) (k0 : Int) (w : World) (lo hi : Nat) (h : OwnI lo hi w v xs) (hn : xs.length ≤ 1152921504606846976) (h1 : 0 ≤ k0) (h2 : k0 ≤ 1152921504606846976) :
    Calls Tryd.prog 42 #[v, .int .i64 k0] w fun e w' => e = .returned (.int .i64 (k0 + xs.length)) ∧ OwnI lo hi w' v (marks k0 xs.length) ∧ Rng lo hi w w' := by
  rcases h with ⟨rfl, rfl⟩ | ⟨g, cap, rfl, ha, hb, how⟩
  · go_enter Tryd.func42, Tryd.ntmps42
    go_wp2
    refine wp_loop_rounds 1 ?_; rw [rounds_succ]
    go_wp2
    go_ret
    exact ⟨ret_int (by simp), .inl ⟨rfl, rfl⟩, Rng.refl _ _ _⟩
  · go_enter Tryd.func42, Tryd.ntmps42
    go_wp2
    go_loopw [1, 5] (fun q i wr => ∃ k : Nat, k ≤ xs.length ∧ i = .int .i64 k ∧ q = .int .i64 (k0 + k) ∧ Rng lo hi w wr ∧ ∃ cs : List Value, wr.ownsRow lo 2 1 (.slice (some ⟨g, 0, none⟩) xs.length cap) xs.length cs ∧ ∀ j, j < k → cs[j]? = some (iv (k0 + j))) (fun _ i _ => xs.length - (intOf i).toNat)
    case atStart => exact ⟨0, Nat.zero_le _, rfl, by simp, Rng.refl _ _ _, _, how, fun j hj => by omega⟩
    case round =>
      obtain ⟨k, hk, rfl, rfl, hx, cs, how', hcs⟩ := hrel
      have H0 := Lib.hid how; clear how
      by_cases hlt : k < xs.length
      · have hl : cs.length = xs.length := by rw [how'.1]; omega
        obtain ⟨u, c2⟩ : ∃ u, wr.cell? ⟨g, k, none⟩ = some u := ⟨cs[k], by rw [how'.cellAt k (by omega)]; simp [hl, hlt]⟩
        have c3 := how'.frozenAt k
        have st := how'.stored k (iv (k0 + k))
        have H := Lib.hid (And.intro st (And.intro hcs hl)); clear st hcs hl
        go_wp2
        go_roundw
        case rel =>
          obtain ⟨st, hcs, hl⟩ := H.out
          refine ⟨k + 1, by omega, by go_num, by simp; omega, hx.setCell ha hb _, _, st.1, fun j hj => ?_⟩
          rw [List.getElem?_set]
          by_cases hjk' : k = j
          · subst hjk'; simp [hl, hlt]
          · rw [if_neg hjk']; exact hcs j (by omega)
        case measure => simp [intOf]; omega
      · have hkn : k = xs.length := by omega
        have H := Lib.hid hcs; clear hcs
        go_wp2
        go_ret
        refine ⟨ret_int (by rw [hkn]), .inr ⟨g, cap, by rw [marks_length], ha, hb, ?_⟩, hx⟩
        refine own_full (xs := marks k0 xs.length) (cs := cs) (by rw [marks_length]; exact how') fun j hj => ?_
        rw [marks_get]; exact H.out j (by rw [marks_length] at hj; omega)

set_option maxHeartbeats 400000 in
theorem laws_heldInt64S (v : Value) (n : Nat) (k0 : Int) (w : World) (h : RI w v (marks k0 n)) (hn : n ≤ 1152921504606846976) (h1 : 0 ≤ k0) (h2 : k0 ≤ 1152921504606846976) :
    Calls Tryd.prog 43 #[v, .int .i64 k0] w fun e w' => e = .returned (.int .i64 (k0 + n)) ∧ Ext w w' := by
  obtain ⟨p, cap, rfl, -, hc⟩ := h.form
  clear h
  simp only [marks_length] at hc ⊢
  by_cases h0 : 0 < n
  · obtain ⟨b, off, rfl, hb, c⟩ := hc h0
    clear hc
    simp only [marks_get] at c
    go_enter Tryd.func43, Tryd.ntmps43
    go_wp2
    go_loop [1, 5] (fun q i => ∃ k : Nat, k ≤ n ∧ i = .int .i64 k ∧ q = .int .i64 (k0 + k)) (fun _ i => n - (intOf i).toNat)
    case atStart => exact ⟨0, Nat.zero_le _, rfl, by simp⟩
    case round =>
      obtain ⟨k, hk, rfl, rfl⟩ := hrel
      by_cases hlt : k < n
      · have d := c k hlt
        have C := Lib.hid c; clear c
        go_wp2
        go_round
        case rel => exact ⟨k + 1, by omega, by go_num, by simp; omega⟩
        case measure => simp [intOf]; omega
      · have C := Lib.hid c; clear c
        go_wp2
        go_ret
        exact ⟨ret_int (by omega), Ext.refl _⟩
  · have e : n = 0 := by omega
    subst e
    clear hc
    go_enter Tryd.func43, Tryd.ntmps43
    go_wp2
    refine wp_loop_rounds 1 ?_; rw [rounds_succ]
    go_wp2
    go_ret
    exact ⟨ret_int (by simp), Ext.refl _⟩
end Go.Proofs.YthcomgnokkndgaaDoor
