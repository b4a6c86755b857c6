/- Marks over slices of fractions, and appends to them. -/
import Derived.Test.YtoedphgoaifojaaFracS
import Derived.Test.YtoedphgoaifojaaCells
namespace Go.Proofs.Ytoedphgoaifojaa
open Go.RowKit

theorem OwnF.ext {lo hi : Nat} {w w' : World} {v : Value} {xs : SD} (h : OwnF lo hi w v xs) (hx : Ext w w') : OwnF lo hi w' v xs := by
  rcases h with h | ⟨g, cap, cs, hv, a, b, how, hc⟩
  · exact .inl h
  · exact .inr ⟨g, cap, cs, hv, a, b, ownsRow_ext how hx, hc⟩
theorem OwnF.rng {lo hi lo' hi' : Nat} {w w' : World} {v : Value} {xs : SD} (h : OwnF lo hi w v xs) (hx : Rng lo' hi' w w') (hd : hi ≤ lo' ∨ hi' ≤ lo) : OwnF lo hi w' v xs := by
  rcases h with h | ⟨g, cap, cs, rfl, a, b, how, hc⟩
  · exact .inl h
  · exact .inr ⟨g, cap, cs, rfl, a, b, ownsRow_rng how hx (by omega), hc⟩
theorem OwnF.mono {lo hi lo' hi' : Nat} {w : World} {v : Value} {xs : SD} (h : OwnF lo hi w v xs) (h1 : lo' ≤ lo) (h2 : hi ≤ hi') : OwnF lo' hi' w v xs := by
  rcases h with h | ⟨g, cap, cs, hv, a, b, how, hc⟩
  · exact .inl h
  · exact .inr ⟨g, cap, cs, hv, by omega, by omega, ownsRow_mono how h1, hc⟩

theorem OwnF.full {lo : Nat} {w : World} {g cap n : Nat} {k0 : Int} {cs : List Value} {hi : Nat} (how : w.ownsRow lo 60 2 (.slice (some ⟨g, 0, none⟩) n cap) n cs) (ha : lo ≤ g) (hb : g < hi)
    (hc : ∀ j, j < n → cs[j * 2]? = some (iv (k0 + 2 * j)) ∧ cs[j * 2 + 1]? = some (iv (k0 + 2 * j + 1))) : OwnF lo hi w (.slice (some ⟨g, 0, none⟩) n cap) (pmarks k0 n) := by
  refine .inr ⟨g, cap, cs, by rw [pmarks_length], ha, hb, by rw [pmarks_length]; exact how, fun i hi => ?_⟩
  rw [pmarks_get]
  exact hc i (by rwa [pmarks_length] at hi)
set_option maxHeartbeats 1000000 in
theorem laws_markFractionS (v : Value) (xs : SD) (k0 : Int) (w : World) (lo hi : Nat) (h : OwnF lo hi w v xs) (hn : xs.length ≤ 1152921504606846976) (h1 : 0 ≤ k0) (h2 : k0 ≤ 1152921504606846976) :
    Calls Try.prog 51 #[v, .int .i64 k0] w fun e w' => e = .returned (.int .i64 (k0 + 2 * xs.length)) ∧ OwnF lo hi w' v (pmarks k0 xs.length) ∧ Rng lo hi w w' := by
  rcases h with ⟨rfl, rfl⟩ | ⟨g, cap, cs0, rfl, ha, hb, how, -⟩
  · go_enter Try.func51, Try.ntmps51
    go_wp2
    refine wp_loop_rounds 1 ?_; rw [rounds_succ]
    go_wp2
    go_ret
    exact ⟨ret_int (by simp), .inl ⟨rfl, rfl⟩, Rng.refl _ _ _⟩
  · go_enter Try.func51, Try.ntmps51
    go_wp2
    go_loopw [1, 5] (fun q i wr => ∃ k : Nat, k ≤ xs.length ∧ i = .int .i64 k ∧ q = .int .i64 (k0 + 2 * k) ∧ Rng lo hi w wr ∧ ∃ cs : List Value, wr.ownsRow lo 60 2 (.slice (some ⟨g, 0, none⟩) xs.length cap) xs.length cs ∧ Hid (∀ j, j < k → cs[j * 2]? = some (iv (k0 + 2 * j)) ∧ cs[j * 2 + 1]? = some (iv (k0 + 2 * j + 1)))) (fun _ i _ => xs.length - (intOf i).toNat)
    case atStart => exact ⟨0, Nat.zero_le _, rfl, by simp, Rng.refl _ _ _, _, how, Lib.hid fun j hj => by omega⟩
    case round =>
      obtain ⟨k, hk, rfl, rfl, hx, cs, how', hcs⟩ := hrel
      have H0 := Lib.hid how; clear how
      by_cases hlt : k < xs.length
      · have hl : cs.length = xs.length * 2 := how'.1
        obtain ⟨u, c2⟩ : ∃ u, wr.cell? ⟨g, k * 2, none⟩ = some u := ⟨cs[k * 2], by rw [how'.cellAt _ (by omega)]; simp⟩
        have c3 := how'.frozenAt (k * 2)
        have st := how'.stored (k * 2) (iv (k0 + 2 * k))
        have st2 := st.1.stored (k * 2 + 1) (iv (k0 + 2 * k + 1))
        obtain ⟨u2, c4⟩ : ∃ u, (wr.setCell ⟨g, k * 2, none⟩ (iv (k0 + 2 * k))).cell? ⟨g, k * 2 + 1, none⟩ = some u := ⟨(cs.set (k * 2) (iv (k0 + 2 * k)))[k * 2 + 1]'(by simp; omega), by rw [st.1.cellAt _ (by omega)]; simp⟩
        have c5 := st.1.frozenAt (k * 2 + 1)
        have HP := Lib.hid (set_pair hl hlt (iv (k0 + 2 * k)) (iv (k0 + 2 * k + 1)))
        have H := Lib.hid st2; clear st st2 hl
        go_wp2
        go_roundw
        case rel =>
          obtain ⟨p1, p2, p3, p4⟩ := HP.out
          refine ⟨k + 1, by omega, by go_num, by congr 1; omega, (hx.setCell ha hb _).setCell ha hb _, _, H.out.1, Lib.hid fun j hj => ?_⟩
          by_cases hjk : j = k
          · subst hjk; exact ⟨p2, p3⟩
          · rw [(p4 j hjk).1, (p4 j hjk).2]; exact hcs.out j (by omega)
        case measure => simp [intOf]; omega
      · have hkn : k = xs.length := by omega
        go_wp2
        go_ret
        exact ⟨ret_int (by rw [hkn]), OwnF.full how' ha hb fun j hj => hcs.out j (by omega), hx⟩

set_option maxHeartbeats 1000000 in
theorem laws_heldFractionS (v : Value) (n : Nat) (k0 : Int) (w : World) (h : RP w v (pmarks k0 n)) (hn : n ≤ 1152921504606846976) (h1 : 0 ≤ k0) (h2 : k0 ≤ 1152921504606846976) :
    Calls Try.prog 52 #[v, .int .i64 k0] w fun e w' => e = .returned (.int .i64 (k0 + 2 * n)) ∧ Ext w w' := by
  obtain ⟨p, cap, rfl, -, hc⟩ := h.form
  by_cases h0 : 0 < n
  · obtain ⟨b, off, rfl, hb, hcc⟩ := hc (by rw [pmarks_length]; exact h0)
    rw [pmarks_length]
    have HC := Lib.hid hcc; clear hcc hc h
    go_enter Try.func52, Try.ntmps52
    go_wp2
    go_loopw [1, 5] (fun q i wr => ∃ k : Nat, k ≤ n ∧ i = .int .i64 k ∧ q = .int .i64 (k0 + 2 * k) ∧ Ext w wr) (fun _ i _ => n - (intOf i).toNat)
    case atStart => exact ⟨0, Nat.zero_le _, rfl, by simp, Ext.refl _⟩
    case round =>
      obtain ⟨k, hk, rfl, rfl, hx⟩ := hrel
      obtain ⟨g0, rfl⟩ := hx.grow; clear hx
      by_cases hlt : k < n
      · obtain ⟨d1, d2⟩ := HC.out k (by rw [pmarks_length]; exact hlt)
        rw [pmarks_get] at d1 d2
        have z1 : ((k0 + 2 * (k : Int)) != (k0 + 2 * (k : Int))) = false := by simp
        have z2 : ((k0 + 2 * (k : Int) + 1) != (k0 + 2 * (k : Int) + 1)) = false := by simp
        go_wp2_with fail
        go_roundw
        case rel => exact ⟨k + 1, by omega, by go_num, by congr 1; omega, ExtC.ext⟩
        case measure => simp [intOf]; omega
      · have hkn : k = n := by omega
        go_wp2
        go_ret
        exact ⟨ret_int (by rw [hkn]), ExtC.ext⟩
  · have e : n = 0 := by omega
    subst e
    rw [pmarks_length]
    clear hc
    go_enter Try.func52, Try.ntmps52
    go_wp2
    refine wp_loop_rounds 1 ?_; rw [rounds_succ]
    go_wp2
    go_ret
    exact ⟨ret_int (by simp), Ext.refl _⟩

theorem OwnF.made {lo : Nat} {w : World} {g c : Nat} (h : w.ownsRow lo 60 2 (.slice (some ⟨g, 0, none⟩) 0 c) 0 []) : OwnF lo w.heap.size w (.slice (some ⟨g, 0, none⟩) 0 c) [] :=
  .inr ⟨g, c, [], rfl, (h.lt g rfl).1, (h.lt g rfl).2, h, fun i hi => absurd hi (by simp)⟩
/-- One fraction appended to a list that a function owns. -/
theorem app_frac {ops : Array Oper} {rest : List Oper} {o : Oper} {a : Act} {Q : Exit → Act → World → Prop} {w0 w : World} {lo mid : Nat} (s x : Operand) (g cap n : Nat) (L : SD) (ad : Addr) (c : Nat) (y z : Int)
    (hgd : o.guard = none) (ho : o.op = .call { callee := .builtin .append, args := #[s, x], argTypes := #[43, 43] })
    (hn : L.length = n) (hs : a.eval s = .slice (some ⟨g, 0, none⟩) n cap) (hown : OwnF lo mid w (.slice (some ⟨g, 0, none⟩) n cap) L) (hx : a.eval x = .slice (some ad) 1 c)
    (hy0 : w.cell? (ad.add 0) = some (iv y)) (hy1 : w.cell? (ad.add 1) = some (iv z)) (hb : n ≤ 1099511627776) (h0 : Ext w0 w) (hlo : w0.heap.size ≤ lo)
    (h : ∀ g' c' w', OwnF lo w'.heap.size w' (.slice (some ⟨g', 0, none⟩) (n + 1) c') (L ++ [(y, z)]) → Ext w0 w' → wpList Try.prog ops Q rest (a.put o.dst (.slice (some ⟨g', 0, none⟩) (n + 1) c')) w') : wpList Try.prog ops Q (o :: rest) a w := by
  subst hn
  obtain ⟨i0, hi0, hz0, hz1, hz2⟩ := info_parts Try.info_fracS
  rcases hown with ⟨e, _⟩ | ⟨g0, cap0, cs, e, ha, hb', hcs, hc⟩
  · cases e
  simp only [Value.slice.injEq, Option.some.injEq, Addr.mk.injEq, and_true, true_and] at e
  obtain ⟨rfl, rfl⟩ := e
  have hgl := hcs.lt g rfl
  have hl : cs.length = L.length * 2 := hcs.1
  refine wpList_append_own2 w hgd s x _ ho lo 60 i0 (.agg #[.int .i64 0, .int .i64 0]) 2 16 Try.underlying43 hi0 hz0 hz1 hz2 rfl (by decide) _ L.length cs hs hcs ad 1 c [iv y, iv z] hx (by simp) (fun j u hj => ?_) (fun u hu => ?_) (by unfold maxLen; omega) (by omega) (by omega) (fun v' w' h2 h3 h4 h5 => ?_)
  · have hj2 : j < 2 := by have := (List.getElem?_eq_some_iff.1 hj).1; simpa using this
    have : j = 0 ∨ j = 1 := by omega
    rcases this with rfl | rfl
    · simp at hj; subst hj; exact hy0
    · simp at hj; subst hj; exact hy1
  · simp at hu; rcases hu with rfl | rfl <;> rfl
  · obtain ⟨g', c', rfl, hw⟩ := h5 (by omega)
    refine h g' c' w' ?_ (h0.grown h3 fun k hk => by simp [Value.ownBlock] at hk; omega)
    have hlt' := h2.lt g' rfl
    refine .inr ⟨g', c', cs ++ [iv y, iv z], by simp, hlt'.1, hlt'.2, by simpa using h2, fun i hi => ?_⟩
    simp only [List.length_append, List.length_cons, List.length_nil] at hi
    by_cases hil : i < L.length
    · rw [List.getElem?_append_left (by omega), List.getElem?_append_left (by omega), List.getElem_append_left hil]
      exact hc i hil
    · have : i = L.length := by omega
      subst this
      rw [List.getElem?_append_right (by omega), List.getElem?_append_right (by omega), List.getElem_append_right (Nat.le_refl _), hl]
      simp
end Go.Proofs.Ytoedphgoaifojaa
