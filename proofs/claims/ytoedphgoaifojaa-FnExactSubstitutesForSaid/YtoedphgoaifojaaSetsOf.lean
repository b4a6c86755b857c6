/- The sets of a pool in order: impl.setOf, (impl.Pool).sets. -/
import Derived.Test.YtoedphgoaifojaaSortRows
import Derived.Test.YtoedphgoaifojaaShort
import Derived.Test.YtoedphgoaifojaaAppR
import Derived.Test.YtoedphgoaifojaaCells
namespace Go.Proofs.Ytoedphgoaifojaa
open Go.RowKit

set_option maxRecDepth 100000 in
theorem bits_and : ∀ m : Nat, m < 128 → ∀ k : Nat, k < 8 → (bits BinOp.and IntKind.i64 ((m : Int) / 2 ^ k) 1 == 1) = m.testBit k := by decide +kernel
set_option maxRecDepth 100000 in
theorem shr_pos : ∀ m : Nat, m < 128 → ∀ k : Nat, k < 8 → ((0 : Int) < (m : Int) / 2 ^ k ↔ m >>> k ≠ 0) := by decide +kernel
set_option maxHeartbeats 4000000 in
theorem impl_setOf (m : Nat) (hm : m < 128) (w : World) (xs : List Int) (hxs : bitsOf m = xs) :
    Calls Try.prog 106 #[.int .i64 m] w fun e w' => ∃ g c, e = .returned (.slice (some ⟨g, 0, none⟩) xs.length c) ∧ OwnI w.heap.size w'.heap.size w' (.slice (some ⟨g, 0, none⟩) xs.length c) xs ∧ Ext w w' := by
  have HN := Lib.hid hxs.symm
  clear hxs
  go_enter Try.func106, Try.ntmps106
  go_wp2_with fail
  have H00 := Lib.hid (own_empty w w.heap.size (Nat.le_refl _))
  go_loopw [3, 4] (fun o i wr => ∃ (k og oc n : Nat) (C : List Int), k ≤ 7 ∧ i = .int .i64 k ∧ o = .slice (some ⟨og, 0, none⟩) n oc ∧ C.length ≤ k ∧ Ext w wr ∧ Hid (C = bitsUp m k) ∧ Hid (OwnI w.heap.size wr.heap.size wr (.slice (some ⟨og, 0, none⟩) n oc) C)) (fun _ i _ => 7 - (intOf i).toNat)
  case atStart => exact ⟨0, _, _, _, [], Nat.zero_le _, rfl, rfl, Nat.le_refl _, ExtC.ext, Lib.hid rfl, Lib.hid (by have := H00.out; simp only [World.size_alloc] at this ⊢; exact this)⟩
  case round =>
    obtain ⟨k, og, oc, n, C, hk, rfl, rfl, hC, hx, HCk, HO⟩ := hrel
    obtain ⟨g0, rfl⟩ := hx.grow; clear hx
    have hp := shr_pos m hm k (by omega)
    by_cases h0 : (0 : Int) < (m : Int) / 2 ^ k
    · have hk7 : k ≠ 7 := fun e => by
        subst e
        exact hp.1 h0 (bits_lt7 m hm)
      have hb := bits_and m hm k (by omega)
      have hup := bitsUp_succ m k
      have e0 : decide ((0 : Int) < (m : Int) / 2 ^ k) = true := decide_eq_true h0
      clear hp
      cases q : m.testBit k
      · rw [q] at hb hup
        have HU := Lib.hid hup; clear hup
        go_wp2_with fail
        go_roundw
        case rel => exact ⟨k + 1, og, oc, n, C, by omega, by go_num, rfl, by omega, ExtC.ext, Lib.hid (by rw [HU.out, HCk.out]; simp), HO⟩
        case measure => simp [intOf]; omega
      · rw [q] at hb hup
        have HU := Lib.hid hup; clear hup
        go_wp2_with (first | (at_builtin; refine app_int (w0 := w) (lo := w.heap.size) (hi := g0.fin.heap.size) _ _ (.slice (some ⟨og, 0, none⟩) n oc) C ⟨g0.fin.heap.size, 0, none⟩ 1 [(k : Int)] rfl rfl rfl (HO.out.ext ExtC.ext) rfl (cells_one _ _ _) (by simp; omega) ExtC.ext (Nat.le_refl _) (by have := (ExtC.ext : Ext w g0.fin).size; simp only [World.size_alloc]; omega) (by simp) ?_; intro g' c' w' ho hx; obtain ⟨g3, rfl⟩ := hx.grow; clear hx; have HO2 := Lib.hid ho; clear ho))
        go_roundw
        case rel => exact ⟨k + 1, g', c', _, C ++ [(k : Int)], by omega, by go_num, by simp; rfl, by simp; omega, ExtC.ext, Lib.hid (by rw [HU.out, HCk.out]; simp), Lib.hid (by have := HO2.out; rw [List.length_append] at this; exact this)⟩
        case measure => simp [intOf]; omega
    · have e0 : decide ((0 : Int) < (m : Int) / 2 ^ k) = false := decide_eq_false h0
      have hz : m >>> k = 0 := Classical.byContradiction fun h => h0 (hp.2 h)
      have hend := bits_end m hm k (by omega) hz
      clear hp hz
      go_wp2
      go_ret
      have hn := HO.out.len.1
      have ho := HO.out
      rw [hn] at ho ⊢
      have e2 : C = xs := by rw [HN.out, HCk.out, hend]
      subst e2
      exact ⟨_, _, rfl, ho, ExtC.ext⟩
def masksTo (k m : Nat) : List (List Int) := ((List.range m).map bitsOf).filter fun s => s.length == k
theorem masksTo_yes {k m : Nat} (h : (bitsOf m).length = k) : masksTo k (m + 1) = masksTo k m ++ [bitsOf m] := by
  simp only [masksTo, List.range_succ, List.map_append, List.filter_append]
  simp [h]
theorem masksTo_no {k m : Nat} (h : (bitsOf m).length ≠ k) : masksTo k (m + 1) = masksTo k m := by
  simp only [masksTo, List.range_succ, List.map_append, List.filter_append]
  simp [h]
theorem bitsOf_len (m : Nat) : (bitsOf m).length ≤ 7 := bitsUp_len m 7

set_option maxHeartbeats 8000000 in
set_option maxRecDepth 100000 in
theorem impl_sets (n k : Nat) (qv : Value) (w : World) (h1 : 1 ≤ k) (h2 : k ≤ n) (h3 : n ≤ 7) (hq : ∃ p l c, qv = .slice p l c) (T : List (List Int)) (hT : teams n k = T) :
    Calls Try.prog 80 #[.agg #[.int .i64 (n : Int), .int .i64 (k : Int), qv]] w fun e w' => ∃ g c, e = .returned (.slice (some ⟨g, 0, none⟩) T.length c) ∧ OwnR intKind 33 w.heap.size w'.heap.size w' (.slice (some ⟨g, 0, none⟩) T.length c) T ∧ Ext w w' := by
  obtain ⟨qp, ql, qc, rfl⟩ := hq
  have HT := Lib.hid hT
  have HBX := Lib.hid (box_pool w n k (.slice qp ql qc) 29)
  have HE := Lib.hid ((own_rows_empty (w.alloc (.cells #[.int .i64 (n : Int), .int .i64 (k : Int), .slice qp ql qc] 29)) (w.heap.size + 1) (by simp)))
  obtain ⟨M, hM⟩ : ∃ M : Nat, 2 ^ n = M := ⟨_, rfl⟩
  have hM2 : M ≤ 128 := by rw [← hM]; exact Nat.pow_le_pow_right (n := 2) (by decide) h3
  clear hT
  go_enter Try.func80, Try.ntmps80
  go_wp2_with fail
  have hsh : wrap64 (2 ^ n) = (M : Int) := by
    have e : (2 : Int) ^ n = (M : Int) := by rw [← hM]; simp
    rw [e]; unfold wrap64; omega
  simp only [hsh]
  have HMM := Lib.hid hM
  clear hsh hM
  go_loopw [3, 10] (fun o i wr => ∃ (m og oc : Nat) (C : List (List Int)), m ≤ M ∧ i = .int .i64 m ∧ o = .slice (some ⟨og, 0, none⟩) C.length oc ∧ C.length ≤ m ∧ Ext (w.alloc (.cells #[.int .i64 (n : Int), .int .i64 (k : Int), .slice qp ql qc] 29)) wr ∧ Hid (C = masksTo k m) ∧ Hid (OwnR intKind 33 (w.heap.size + 1) wr.heap.size wr (.slice (some ⟨og, 0, none⟩) C.length oc) C)) (fun _ i _ => M - (intOf i).toNat)
  case atStart => exact ⟨0, _, _, [], Nat.zero_le _, rfl, rfl, by simp, ExtC.ext, Lib.hid rfl, Lib.hid (by have := HE.out; simp only [World.size_alloc] at this ⊢; exact this)⟩
  case round =>
    clear HE
    obtain ⟨m, og, oc, C, hm, rfl, rfl, hC, hx, HCk, HO⟩ := hrel
    obtain ⟨g0, rfl⟩ := hx.grow; clear hx
    obtain ⟨ib, b0, b1, b2⟩ := HBX.out.ext (ExtC.ext : Ext _ g0.fin)
    have hs0 := (ExtC.ext : Ext (w.alloc (.cells #[.int .i64 (n : Int), .int .i64 (k : Int), .slice qp ql qc] 29)) g0.fin).size
    simp only [World.size_alloc] at hs0
    by_cases hlt : m < M
    · obtain ⟨xs, hxs⟩ : ∃ xs, bitsOf m = xs := ⟨_, rfl⟩
      have hxl : xs.length ≤ 7 := by rw [← hxs]; exact bitsOf_len m
      have hso := fun x => impl_setOf m (by omega) x xs hxs
      by_cases hk : xs.length = k
      · have hst := masksTo_yes (k := k) (m := m) (by rw [hxs]; exact hk)
        rw [hxs, ← HCk.out] at hst
        have HST := Lib.hid hst
        have e1 : ((xs.length : Int) == (k : Int)) = true := by simp [hk]
        clear hst hxs hk
        go_wp2_with (first | (go_at_call 106; (with_reducible refine (hso _).mono ?_); rintro e w' ⟨sg, sc, rfl, ho, hx⟩; obtain ⟨g1, rfl⟩ := hx.grow; clear hx; have HS := Lib.hid ho; clear ho) | (at_builtin; refine app_row (w0 := (w.alloc (.cells #[.int .i64 (n : Int), .int .i64 (k : Int), .slice qp ql qc] 29))) (lo := w.heap.size + 1) (mid := g0.fin.heap.size) (hi := g1.fin.heap.size) _ _ og oc C ⟨g1.fin.heap.size, 0, none⟩ 1 (.slice (some ⟨sg, 0, none⟩) xs.length sc) xs rfl rfl rfl (HO.out.ext ExtC.ext) rfl (cell_new _ _ _) rfl (HS.out.ext ExtC.ext) hs0 (by simp) (by have := (ExtC.ext : Ext g0.fin g1.fin).size; simp; omega) (by omega) ExtC.ext (by simp) ?_; intro g' c' w' ho hx; obtain ⟨g3, rfl⟩ := hx.grow; clear hx; have HO2 := Lib.hid ho; clear ho))
        exact ⟨⟨m + 1, g', c', C ++ [xs], by omega, by go_num, by simp, by simp; omega, ExtC.ext, Lib.hid HST.out.symm, HO2⟩, by simp [intOf]; omega⟩
      · have hst := masksTo_no (k := k) (m := m) (by rw [hxs]; exact hk)
        rw [← HCk.out] at hst
        have HST := Lib.hid hst
        have e1 : ((xs.length : Int) == (k : Int)) = false := by simp; omega
        clear hst hxs hk
        go_wp2_with (first | (go_at_call 106; (with_reducible refine (hso _).mono ?_); rintro e w' ⟨sg, sc, rfl, ho, hx⟩; obtain ⟨g1, rfl⟩ := hx.grow; clear hx; have HS := Lib.hid ho; clear ho))
        exact ⟨⟨m + 1, og, oc, C, by omega, by go_num, rfl, by omega, ExtC.ext, Lib.hid HST.out.symm, Lib.hid ((HO.out.ext ExtC.ext).mono (Nat.le_refl _) (ExtC.ext : Ext g0.fin _).size)⟩, by simp [intOf]; omega⟩
    · have hmM : m = M := by omega
      have hCm : C = maskSets n k := by rw [HCk.out, hmM, ← HMM.out]; rfl
      have HF := Lib.hid (teamsF n k h1 h2 h3)
      have hCt : ∀ x ∈ C, x.length ≤ 7 := fun x hx => by
        rw [hCm] at hx
        have := HF.out.team x (HF.out.perm.subset hx)
        omega
      have hsort := sort_rows C g0.fin HO.out (by omega) (fun i h => by have := hCt _ (List.getElem_mem h); omega)
      have HCM := Lib.hid hCm
      clear hCm hCt
      go_wp2_with fail
      refine hsort.mono ?_
      rintro e w' ⟨rfl, L', hp, hso, ho, hr⟩
      have hog := HO.out.at0
      have hL : L' = T := by
        rw [← HT.out]
        exact teams_unique HF.out L' (by rw [← HCM.out]; exact hp) (fun i j a b => by have := hso i j a b; omega)
      have hlen : C.length = T.length := by rw [← hL]; exact hp.length_eq.symm
      subst hL
      have hx : Ext w w' := Ext.rng (ExtC.ext : Ext w g0.fin) hr (by omega)
      have ho2 : OwnR intKind 33 w.heap.size w'.heap.size w' (.slice (some ⟨og, 0, none⟩) L'.length oc) L' := by
        rw [hlen] at ho
        exact ho.mono (by omega) hr.size
      rw [hlen]
      have HO2 := Lib.hid ho2
      clear hsort hp hso ho hr ho2 hog hlen
      obtain ⟨g3, rfl⟩ := hx.grow; clear hx
      go_wp2_with fail
      refine bodyPost_ret (v := .slice (some ⟨og, 0, none⟩) L'.length oc) (by simp [results, Try.results80, go_sem]) rfl ?_
      exact ⟨_, _, rfl, HO2.out, ExtC.ext⟩
end Go.Proofs.Ytoedphgoaifojaa
