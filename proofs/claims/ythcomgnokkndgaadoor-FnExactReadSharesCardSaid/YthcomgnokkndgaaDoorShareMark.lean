/- The laws' marks over slices of pairs of numbers, and over rows of them. -/
import Derived.Test.YthcomgnokkndgaaDoorShare
namespace Go.Proofs.YthcomgnokkndgaaDoor
open Go.RowKit

theorem OwnP.full {lo : Nat} {w : World} {g cap n : Nat} {k0 : Int} {cs : List Value} {hi : Nat} (how : w.ownsRow lo 44 2 (.slice (some ⟨g, 0, none⟩) n cap) n cs) (ha : lo ≤ g) (hb : g < hi)
    (hc : ∀ j, j < n → cs[j * 2]? = some (iv (k0 + 2 * j)) ∧ cs[j * 2 + 1]? = some (iv (k0 + 2 * j + 1))) : OwnP lo hi w (.slice (some ⟨g, 0, none⟩) n cap) (pmarks k0 n) := by
  refine .inr ⟨g, cap, cs, by rw [pmarks_length], ha, hb, by rw [pmarks_length]; exact how, fun i hi => ?_⟩
  rw [pmarks_get]
  exact hc i (by rwa [pmarks_length] at hi)
set_option maxHeartbeats 1000000 in
theorem laws_markShareS (v : Value) (xs : SD) (k0 : Int) (w : World) (lo hi : Nat) (h : OwnP lo hi w v xs) (hn : xs.length ≤ 1152921504606846976) (h1 : 0 ≤ k0) (h2 : k0 ≤ 1152921504606846976) :
    Calls Tryd.prog 29 #[v, .int .i64 k0] w fun e w' => e = .returned (.int .i64 (k0 + 2 * xs.length)) ∧ OwnP lo hi w' v (pmarks k0 xs.length) ∧ Rng lo hi w w' := by
  rcases h with ⟨rfl, rfl⟩ | ⟨g, cap, cs0, rfl, ha, hb, how, -⟩
  · go_enter Tryd.func29, Tryd.ntmps29
    go_wp2
    refine wp_loop_rounds 1 ?_; rw [rounds_succ]
    go_wp2
    go_ret
    exact ⟨ret_int (by simp), .inl ⟨rfl, rfl⟩, Rng.refl _ _ _⟩
  · go_enter Tryd.func29, Tryd.ntmps29
    go_wp2
    go_loopw [1, 5] (fun q i wr => ∃ k : Nat, k ≤ xs.length ∧ i = .int .i64 k ∧ q = .int .i64 (k0 + 2 * k) ∧ Rng lo hi w wr ∧ ∃ cs : List Value, wr.ownsRow lo 44 2 (.slice (some ⟨g, 0, none⟩) xs.length cap) xs.length cs ∧ Hid (∀ j, j < k → cs[j * 2]? = some (iv (k0 + 2 * j)) ∧ cs[j * 2 + 1]? = some (iv (k0 + 2 * j + 1)))) (fun _ i _ => xs.length - (intOf i).toNat)
    case atStart => exact ⟨0, Nat.zero_le _, rfl, by simp, Rng.refl _ _ _, _, how, Lib.hid fun j hj => by omega⟩
    case round =>
      obtain ⟨k, hk, rfl, rfl, hx, cs, how', hcs⟩ := hrel
      have H0 := Lib.hid how; clear how
      by_cases hlt : k < xs.length
      · have hl : cs.length = xs.length * 2 := how'.1
        obtain ⟨u, c2⟩ : ∃ u, wr.cell? ⟨g, k * 2, none⟩ = some u := ⟨cs[k * 2], by rw [how'.cellAt _ (by omega)]; simp⟩
        have c3 := how'.frozenAt (k * 2)
        have st := how'.stored (k * 2) (iv (k0 + 2 * k))
        have st2 := st.1.stored (k * 2 + 1) (iv (k0 + 2 * k + 1))
        obtain ⟨u2, c4⟩ : ∃ u, (wr.setCell ⟨g, k * 2, none⟩ (iv (k0 + 2 * k))).cell? ⟨g, k * 2 + 1, none⟩ = some u := ⟨(cs.set (k * 2) (iv (k0 + 2 * k)))[k * 2 + 1]'(by simp; omega), by rw [st.1.cellAt _ (by omega)]; simp⟩
        have c5 := st.1.frozenAt (k * 2 + 1)
        have HP := Lib.hid (set_pair hl hlt (iv (k0 + 2 * k)) (iv (k0 + 2 * k + 1)))
        have H := Lib.hid st2; clear st st2 hl
        go_wp2
        go_roundw
        case rel =>
          obtain ⟨p1, p2, p3, p4⟩ := HP.out
          refine ⟨k + 1, by omega, by go_num, by congr 1; omega, (hx.setCell ha hb _).setCell ha hb _, _, H.out.1, Lib.hid fun j hj => ?_⟩
          by_cases hjk : j = k
          · subst hjk; exact ⟨p2, p3⟩
          · rw [(p4 j hjk).1, (p4 j hjk).2]; exact hcs.out j (by omega)
        case measure => simp [intOf]; omega
      · have hkn : k = xs.length := by omega
        go_wp2
        go_ret
        exact ⟨ret_int (by rw [hkn]), OwnP.full how' ha hb fun j hj => hcs.out j (by omega), hx⟩

set_option maxHeartbeats 1000000 in
theorem laws_heldShareS (v : Value) (n : Nat) (k0 : Int) (w : World) (h : RP w v (pmarks k0 n)) (hn : n ≤ 1152921504606846976) (h1 : 0 ≤ k0) (h2 : k0 ≤ 1152921504606846976) :
    Calls Tryd.prog 30 #[v, .int .i64 k0] w fun e w' => e = .returned (.int .i64 (k0 + 2 * n)) ∧ Ext w w' := by
  obtain ⟨p, cap, rfl, -, hc⟩ := h.form
  by_cases h0 : 0 < n
  · obtain ⟨b, off, rfl, hb, hcc⟩ := hc (by rw [pmarks_length]; exact h0)
    rw [pmarks_length]
    have HC := Lib.hid hcc; clear hcc hc h
    go_enter Tryd.func30, Tryd.ntmps30
    go_wp2
    go_loopw [1, 5] (fun q i wr => ∃ k : Nat, k ≤ n ∧ i = .int .i64 k ∧ q = .int .i64 (k0 + 2 * k) ∧ Ext w wr) (fun _ i _ => n - (intOf i).toNat)
    case atStart => exact ⟨0, Nat.zero_le _, rfl, by simp, Ext.refl _⟩
    case round =>
      obtain ⟨k, hk, rfl, rfl, hx⟩ := hrel
      obtain ⟨g0, rfl⟩ := hx.grow; clear hx
      by_cases hlt : k < n
      · obtain ⟨d1, d2⟩ := HC.out k (by rw [pmarks_length]; exact hlt)
        rw [pmarks_get] at d1 d2
        have z1 : ((k0 + 2 * (k : Int)) != (k0 + 2 * (k : Int))) = false := by simp
        have z2 : ((k0 + 2 * (k : Int) + 1) != (k0 + 2 * (k : Int) + 1)) = false := by simp
        go_wp2_with fail
        go_roundw
        case rel => exact ⟨k + 1, by omega, by go_num, by congr 1; omega, ExtC.ext⟩
        case measure => simp [intOf]; omega
      · have hkn : k = n := by omega
        go_wp2
        go_ret
        exact ⟨ret_int (by rw [hkn]), ExtC.ext⟩
  · have e : n = 0 := by omega
    subst e
    rw [pmarks_length]
    clear hc
    go_enter Tryd.func30, Tryd.ntmps30
    go_wp2
    refine wp_loop_rounds 1 ?_; rw [rounds_succ]
    go_wp2
    go_ret
    exact ⟨ret_int (by simp), Ext.refl _⟩
end Go.Proofs.YthcomgnokkndgaaDoor
