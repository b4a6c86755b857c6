/- A number put to its place among rising ones: spec.l00Put, and what it is in plain lists. -/
import Derived.Test.YtomkhjcejjkelaaCells
import Derived.Test.YtomkhjcejjkelaaLib
import Derived.Test.YtomkhjcejjkelaaSortI
namespace Go.Proofs.Ytomkhjcejjkelaa
open Go.RowKit

def putA : Bool → List Int → Int → List Int
  | false, [], n => [n]
  | true, [], _ => []
  | false, x :: l, n => if n ≤ x then (if n < x then [n] else []) ++ x :: putA true l n else x :: putA false l n
  | true, x :: l, n => x :: putA true l n
theorem putA_true : ∀ (l : List Int) (n : Int), putA true l n = l
  | [], _ => rfl
  | x :: l, n => by rw [putA, putA_true l n]
theorem putA_mem {n y : Int} : ∀ (l : List Int), y ∈ putA false l n ↔ y ∈ l ∨ y = n
  | [] => by simp [putA]
  | x :: l => by
    unfold putA
    split
    · rename_i h
      rw [putA_true]
      by_cases h2 : n < x
      · simp only [h2, if_true, List.cons_append, List.nil_append, List.mem_cons]
        exact ⟨fun h => by rcases h with h | h | h; exact .inr h; exact .inl (.inl h); exact .inl (.inr h), fun h => by rcases h with (h | h) | h; exact .inr (.inl h); exact .inr (.inr h); exact .inl h⟩
      · have : n = x := by omega
        subst this
        simp only [Int.lt_irrefl, if_false, List.nil_append, List.mem_cons]
        exact ⟨.inl, fun h => h.elim id .inl⟩
    · rw [List.mem_cons, putA_mem l, List.mem_cons]; exact or_assoc.symm
theorem putA_rising {n : Int} : ∀ (l : List Int), l.Pairwise (· < ·) → (putA false l n).Pairwise (· < ·)
  | [], _ => by simp [putA]
  | x :: l, h => by
    rw [List.pairwise_cons] at h
    unfold putA
    split
    · rename_i h1
      rw [putA_true]
      by_cases h2 : n < x
      · simp only [h2, if_true, List.cons_append, List.nil_append, List.pairwise_cons]
        exact ⟨fun y hy => by rcases List.mem_cons.1 hy with e | e; omega; have := h.1 y e; omega, h.1, h.2⟩
      · simp only [h2, if_false, List.nil_append, List.pairwise_cons]; exact h
    · rename_i h1
      rw [List.pairwise_cons]
      refine ⟨fun y hy => ?_, putA_rising l h.2⟩
      rcases (putA_mem l).1 hy with e | e
      · exact h.1 y e
      · omega
theorem putA_len : ∀ (l : List Int) (n : Int), (putA false l n).length ≤ l.length + 1
  | [], _ => by simp [putA]
  | x :: l, n => by
    unfold putA
    have := putA_len l n
    split
    · rw [putA_true]; split <;> simp
    · simp; omega
theorem putA_step {xs : List Int} {k : Nat} (h : k < xs.length) (n : Int) (d : Bool) : putA d (xs.drop k) n = if d then xs[k] :: putA true (xs.drop (k + 1)) n else if n ≤ xs[k] then (if n < xs[k] then [n] else []) ++ xs[k] :: putA true (xs.drop (k + 1)) n else xs[k] :: putA false (xs.drop (k + 1)) n := by
  rw [List.drop_eq_getElem_cons h]
  cases d <;> rfl

set_option maxHeartbeats 8000000 in
set_option maxRecDepth 100000 in
theorem spec_l00Put (v : Value) (xs : List Int) (n : Int) (w : World) (h : RI w v xs) (hn : xs.length ≤ 1048576) (ys : List Int) (hys : putA false xs n = ys) :
    Calls Try.prog 44 #[v, .int .i64 n] w fun e w' => ∃ g c, e = .returned (.slice (some ⟨g, 0, none⟩) ys.length c) ∧ OwnI w.heap.size w'.heap.size w' (.slice (some ⟨g, 0, none⟩) ys.length c) ys ∧ Ext w w' := by
  obtain ⟨p, c, rfl, -, hq⟩ := h.form
  have HQ := Lib.hid hq
  have HY := Lib.hid hys
  clear hq h hys
  go_enter Try.func44, Try.ntmps44
  go_wp2_with fail
  have H00 := Lib.hid (own_empty w w.heap.size (Nat.le_refl _))
  go_loopw [5, 6, 7] (fun o d i wr => ∃ (k og oc : Nat) (q : Bool) (C : List Int), k ≤ xs.length ∧ i = .int .i64 k ∧ d = .bool q ∧ o = .slice (some ⟨og, 0, none⟩) C.length oc ∧ C.length ≤ 2 * k ∧ Ext w wr ∧ Hid (C ++ putA q (xs.drop k) n = ys) ∧ Hid (OwnI w.heap.size wr.heap.size wr (.slice (some ⟨og, 0, none⟩) C.length oc) C)) (fun _ _ i _ => xs.length - (intOf i).toNat)
  case atStart => exact ⟨0, _, _, false, [], Nat.zero_le _, rfl, rfl, rfl, by simp, ExtC.ext, HY, Lib.hid (by have := H00.out; simp only [World.size_alloc] at this ⊢; exact this)⟩
  case round =>
    clear H00
    obtain ⟨k, og, oc, q, C, hk, rfl, rfl, rfl, hC, hx, HCk, HO⟩ := hrel
    obtain ⟨g0, rfl⟩ := hx.grow; clear hx
    by_cases hlt : k < xs.length
    · obtain ⟨b, off, hp, ib, hc⟩ := HQ.out (by omega)
      subst hp
      have d := hc k hlt
      have hst := putA_step hlt n q
      obtain ⟨y, hy⟩ : ∃ y, xs[k] = y := ⟨_, rfl⟩
      rw [hy] at d hst
      have hcr := HCk.out
      rw [hst] at hcr
      have HCR := Lib.hid hcr
      clear hc hy hst hcr
      cases q
      · by_cases h1 : n ≤ y
        · by_cases h2 : n < y
          · have HCS : Hid ((C ++ [n] ++ [y]) ++ putA true (xs.drop (k + 1)) n = ys) := Lib.hid (by
              have := HCR.out
              simp only [h1, h2, if_true, Bool.false_eq_true, if_false] at this
              rw [← this]; simp)
            clear HCR
            go_wp2_with (first | (at_builtin; refine app_int (w0 := w) (lo := w.heap.size) (hi := g0.fin.heap.size) _ _ (.slice (some ⟨og, 0, none⟩) C.length oc) C ⟨g0.fin.heap.size, 0, none⟩ 1 [n] rfl rfl (by first | rfl | (simp; rfl)) (HO.out.ext ExtC.ext) rfl (cells_one _ _ _) (by simp only [List.length_append, List.length_cons, List.length_nil]; omega) ExtC.ext (Nat.le_refl _) (by have := (ExtC.ext : Ext w g0.fin).size; simp only [World.size_alloc]; omega) (by simp) ?_; intro g' c' w' ho hx; obtain ⟨g3, rfl⟩ := hx.grow; clear hx; have HO2 := Lib.hid ho; clear ho) | (at_builtin; refine app_int (w0 := w) (lo := w.heap.size) (hi := g3.fin.heap.size) _ _ (.slice (some ⟨g', 0, none⟩) (C ++ [n]).length c') (C ++ [n]) ⟨g3.fin.heap.size, 0, none⟩ 1 [y] rfl rfl (by first | rfl | (simp; rfl)) (HO2.out.ext ExtC.ext) rfl (cells_one _ _ _) (by simp only [List.length_append, List.length_cons, List.length_nil]; omega) ExtC.ext (Nat.le_refl _) (by have := (ExtC.ext : Ext w g3.fin).size; simp only [World.size_alloc]; omega) (by simp) ?_; intro g4' c4' w' ho hx; obtain ⟨g4, rfl⟩ := hx.grow; clear hx; have HO4 := Lib.hid ho; clear ho))
            exact ⟨⟨k + 1, g4', c4', true, C ++ [n] ++ [y], by omega, by go_num, rfl, by simp, by simp; omega, ExtC.ext, HCS, HO4⟩, by simp [intOf]; omega⟩
          · have HCS : Hid ((C ++ [y]) ++ putA true (xs.drop (k + 1)) n = ys) := Lib.hid (by
              have := HCR.out
              simp only [h1, h2, if_true, Bool.false_eq_true, if_false] at this
              rw [← this]; simp)
            clear HCR
            go_wp2_with (first | (at_builtin; refine app_int (w0 := w) (lo := w.heap.size) (hi := g0.fin.heap.size) _ _ (.slice (some ⟨og, 0, none⟩) C.length oc) C ⟨g0.fin.heap.size, 0, none⟩ 1 [y] rfl rfl (by first | rfl | (simp; rfl)) (HO.out.ext ExtC.ext) rfl (cells_one _ _ _) (by simp only [List.length_append, List.length_cons, List.length_nil]; omega) ExtC.ext (Nat.le_refl _) (by have := (ExtC.ext : Ext w g0.fin).size; simp only [World.size_alloc]; omega) (by simp) ?_; intro g' c' w' ho hx; obtain ⟨g3, rfl⟩ := hx.grow; clear hx; have HO2 := Lib.hid ho; clear ho))
            exact ⟨⟨k + 1, g', c', true, C ++ [y], by omega, by go_num, rfl, by simp, by simp; omega, ExtC.ext, HCS, HO2⟩, by simp [intOf]; omega⟩
        · have HCS : Hid ((C ++ [y]) ++ putA false (xs.drop (k + 1)) n = ys) := Lib.hid (by
            have := HCR.out
            simp only [h1, Bool.false_eq_true, if_false] at this
            rw [← this]; simp)
          clear HCR
          go_wp2_with (first | (at_builtin; refine app_int (w0 := w) (lo := w.heap.size) (hi := g0.fin.heap.size) _ _ (.slice (some ⟨og, 0, none⟩) C.length oc) C ⟨g0.fin.heap.size, 0, none⟩ 1 [y] rfl rfl (by first | rfl | (simp; rfl)) (HO.out.ext ExtC.ext) rfl (cells_one _ _ _) (by simp only [List.length_append, List.length_cons, List.length_nil]; omega) ExtC.ext (Nat.le_refl _) (by have := (ExtC.ext : Ext w g0.fin).size; simp only [World.size_alloc]; omega) (by simp) ?_; intro g' c' w' ho hx; obtain ⟨g3, rfl⟩ := hx.grow; clear hx; have HO2 := Lib.hid ho; clear ho))
          exact ⟨⟨k + 1, g', c', false, C ++ [y], by omega, by go_num, rfl, by simp, by simp; omega, ExtC.ext, HCS, HO2⟩, by simp [intOf]; omega⟩
      · have HCS : Hid ((C ++ [y]) ++ putA true (xs.drop (k + 1)) n = ys) := Lib.hid (by
          have := HCR.out
          simp only [if_true] at this
          rw [← this]; simp)
        clear HCR
        go_wp2_with (first | (at_builtin; refine app_int (w0 := w) (lo := w.heap.size) (hi := g0.fin.heap.size) _ _ (.slice (some ⟨og, 0, none⟩) C.length oc) C ⟨g0.fin.heap.size, 0, none⟩ 1 [y] rfl rfl (by first | rfl | (simp; rfl)) (HO.out.ext ExtC.ext) rfl (cells_one _ _ _) (by simp only [List.length_append, List.length_cons, List.length_nil]; omega) ExtC.ext (Nat.le_refl _) (by have := (ExtC.ext : Ext w g0.fin).size; simp only [World.size_alloc]; omega) (by simp) ?_; intro g' c' w' ho hx; obtain ⟨g3, rfl⟩ := hx.grow; clear hx; have HO2 := Lib.hid ho; clear ho))
        exact ⟨⟨k + 1, g', c', true, C ++ [y], by omega, by go_num, rfl, by simp, by simp; omega, ExtC.ext, HCS, HO2⟩, by simp [intOf]; omega⟩
    · have hkn : k = xs.length := by omega
      cases q
      · have HCS : Hid (C ++ [n] = ys) := Lib.hid (by have := HCk.out; rw [List.drop_of_length_le (by omega)] at this; exact this)
        go_wp2_with (first | (at_builtin; refine app_int (w0 := w) (lo := w.heap.size) (hi := g0.fin.heap.size) _ _ (.slice (some ⟨og, 0, none⟩) C.length oc) C ⟨g0.fin.heap.size, 0, none⟩ 1 [n] rfl rfl (by first | rfl | (simp; rfl)) (HO.out.ext ExtC.ext) rfl (cells_one _ _ _) (by simp only [List.length_append, List.length_cons, List.length_nil]; omega) ExtC.ext (Nat.le_refl _) (by have := (ExtC.ext : Ext w g0.fin).size; simp only [World.size_alloc]; omega) (by simp) ?_; intro g' c' w' ho hx; obtain ⟨g3, rfl⟩ := hx.grow; clear hx; have HO2 := Lib.hid ho; clear ho))
        refine bodyPost_ret (v := .slice (some ⟨g', 0, none⟩) (C.length + 1) c') (by simp [results, Try.results44, go_sem]) rfl ?_
        have := HO2.out
        rw [HCS.out] at this
        have hl : C.length + 1 = ys.length := by rw [← HCS.out]; simp
        rw [hl]
        exact ⟨_, _, rfl, this, ExtC.ext⟩
      · have HCS : Hid (C = ys) := Lib.hid (by have := HCk.out; rw [List.drop_of_length_le (by omega)] at this; simpa [putA] using this)
        go_wp2_with fail
        refine bodyPost_ret (v := .slice (some ⟨og, 0, none⟩) C.length oc) (by simp [results, Try.results44, go_sem]) rfl ?_
        rw [← HCS.out]
        exact ⟨_, _, rfl, HO.out, ExtC.ext⟩
end Go.Proofs.Ytomkhjcejjkelaa
