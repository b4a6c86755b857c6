/- Numbers with a comma between two of them, read: impl.readDecimals. -/
import Derived.Test.YthcomgnokkndgaaDoorAppG
namespace Go.Proofs.YthcomgnokkndgaaDoor
open Go.RowKit

/-- xs: at most 101 numbers of a range, whose text t is. -/
def NumsOf (lo hi : Int) (t : ByteArray) (xs : List Int) : Prop := (∀ x ∈ xs, lo ≤ x ∧ x ≤ hi) ∧ xs.length ≤ 101 ∧ decs 44 xs = t.data.toList
def NumsIs (lo hi : Int) (t : ByteArray) (xs : List Int) (b : Bool) : Prop := (b = true ∧ NumsOf lo hi t xs) ∨ (b = false ∧ xs = [] ∧ ∀ ys, ¬ NumsOf lo hi t ys)
theorem nums_some (lo hi : Int) (t : ByteArray) : ∃ xs b, NumsIs lo hi t xs b := by
  by_cases h : ∃ xs, NumsOf lo hi t xs
  · obtain ⟨xs, h⟩ := h; exact ⟨xs, true, .inl ⟨rfl, h⟩⟩
  · exact ⟨[], false, .inr ⟨rfl, rfl, fun ys hy => h ⟨ys, hy⟩⟩⟩
theorem itoa_no44 (n : Int) : (44 : UInt8) ∉ Lib.itoa n := itoa_no (by decide) (by decide) n
theorem decs_split {xs : List Int} (h : xs ≠ []) : splitL 44 (decs 44 xs) = xs.map Lib.itoa := by
  unfold decs
  exact splitL_join (by simpa using h) fun x hx => by obtain ⟨n, -, rfl⟩ := List.mem_map.1 hx; exact itoa_no44 n
theorem itoa_ne (n : Int) : Lib.itoa n ≠ [] := by
  unfold Lib.itoa
  split
  · simp
  · exact decDigits_ne _
theorem decs_empty {xs : List Int} (h : decs 44 xs = []) : xs = [] := by
  cases xs with
  | nil => rfl
  | cons x r =>
    have := decs_split (xs := x :: r) (by simp)
    rw [h] at this
    simp [splitL] at this
    exact absurd this.1 (itoa_ne x)
theorem map_itoa_inj : ∀ {xs ys : List Int}, xs.map Lib.itoa = ys.map Lib.itoa → xs = ys
  | [], [], _ => rfl
  | [], _ :: _, h => by simp at h
  | _ :: _, [], h => by simp at h
  | x :: xs, y :: ys, h => by
    simp only [List.map_cons, List.cons.injEq] at h
    have e : x = y := by rw [← valI_itoa x, h.1, valI_itoa]
    rw [e, map_itoa_inj h.2]
theorem decs_inj {xs ys : List Int} (h : decs 44 xs = decs 44 ys) : xs = ys := by
  by_cases hx : xs = []
  · subst hx; exact (decs_empty h.symm).symm
  · by_cases hy : ys = []
    · subst hy; exact decs_empty h
    · have := congrArg (splitL 44) h
      rw [decs_split hx, decs_split hy] at this
      exact map_itoa_inj this
theorem NumsOf.uniq {lo hi : Int} {t : ByteArray} {xs ys : List Int} (h : NumsOf lo hi t xs) (k : NumsOf lo hi t ys) : xs = ys := decs_inj (h.2.2.trans k.2.2.symm)

set_option maxHeartbeats 8000000 in
set_option maxRecDepth 100000 in
theorem impl_readDecimals (t : ByteArray) (lo hi : Int) (xs : List Int) (b : Bool) (hn : NumsIs lo hi t xs b) (w : World) (ht : t.size ≤ 1048576) (h0 : -9223372036854775808 ≤ lo) (h1 : hi ≤ 9223372036854775807) (hp : Pow w) (he : Errs w) (hm : ML w) :
    Calls Tryd.prog 34 #[.string t, .string ⟨#[44]⟩, .int .i64 lo, .int .i64 hi] w fun e w' => ∃ v', e = .returned (.tuple #[v', .bool b]) ∧ OwnI w.heap.size w'.heap.size w' v' xs ∧ (b = true → ∃ g c, v' = .slice (some ⟨g, 0, none⟩) xs.length c) ∧ Ext w w' := by
  by_cases h00 : t.size = 0
  · have htl : t.data.toList = [] := List.length_eq_zero_iff.1 (by rw [size_list]; exact h00)
    have hx : xs = [] ∧ b = true := by
      rcases hn with ⟨k0, k1⟩ | ⟨-, -, k3⟩
      · exact ⟨decs_empty (by rw [k1.2.2, htl]), k0⟩
      · exact (k3 [] ⟨fun x hx => (by cases hx), by simp, by rw [htl]; rfl⟩).elim
    obtain ⟨rfl, rfl⟩ := hx
    obtain rfl : t = ⟨#[]⟩ := bytes_eq htl
    clear hn hp he hm
    go_enter Tryd.func34, Tryd.ntmps34
    go_wp2_with fail
    refine bodyPost_ret (v := .tuple #[.slice (some ⟨w.heap.size, 0, none⟩) 0 0, .bool true]) (by simp [results, Tryd.results34, go_sem]) rfl ?_
    exact ⟨_, rfl, ((own_empty w w.heap.size (Nat.le_refl _)).ext ExtC.ext).mono (Nat.le_refl _) (by simp), ⟨_, _, rfl⟩, ExtC.ext⟩
  have htl : t.data.toList ≠ [] := fun e => h00 (by rw [← size_list, e]; rfl)
  have d1 : ¬ t.toList = [] := by rw [ByteArray.toList_eq]; exact htl
  have d2 : (t.toList == []) = false := by simpa using d1
  have d3 : t.toList.isEmpty = false := by simpa using d1
  obtain ⟨W, hW, hWl, RW⟩ := split_call t 44 ht
  have HW := Lib.hid hW
  have RS := fun y (hy : Ext w y) => RW y (hm.ext hy)
  have RN := fun (s : ByteArray) (hs : s.size ≤ 1048576) x bx (h : NumIs lo hi s x bx) y (hy : Ext w y) => impl_readNumber s lo hi x bx h y hs h0 h1 (hp.ext hy) (he.ext hy)
  -- what a list that is told says of the words
  have HT := Lib.hid (fun ys (h : NumsOf lo hi t ys) => (by
    have hne : ys ≠ [] := fun e => by rw [e] at h; exact htl h.2.2.symm
    have := decs_split hne
    rw [h.2.2, ← hW] at this
    refine ⟨by have := congrArg List.length this; simpa using this, fun j hj hj' => ?_⟩
    have h2 := congrArg (fun l => l[j]?) this
    simp only [List.getElem?_map, List.getElem?_eq_getElem hj, List.getElem?_eq_getElem hj', Option.map_some, Option.some.injEq] at h2
    rw [bytes_eq h2]; rfl : W.length = ys.length ∧ ∀ j (hj : j < W.length) (hj' : j < ys.length), W[j] = dec ys[j]))
  have HWS := Lib.hid (fun j (hj : j < W.length) => (by
    have h2 : W[j].data.toList ∈ splitL 44 t.data.toList := by rw [← hW]; exact List.mem_map.2 ⟨W[j], List.getElem_mem hj, rfl⟩
    have key : ∀ (l : List UInt8) x, x ∈ splitL 44 l → x.length ≤ l.length := by
      intro l
      induction l with
      | nil => intro x hx; simp [splitL] at hx; subst hx; simp
      | cons c l ih =>
        intro x hx
        unfold splitL at hx
        split at hx
        · rcases List.mem_cons.1 hx with e | e
          · subst e; simp
          · exact Nat.le_trans (ih x e) (by simp)
        · cases hs : splitL 44 l with
          | nil => exact absurd hs (splitL_ne 44 l)
          | cons u r =>
            rw [hs] at hx
            rcases List.mem_cons.1 hx with e | e
            · subst e
              have := ih u (by rw [hs]; exact List.mem_cons_self ..)
              simp; omega
            · exact Nat.le_trans (ih x (by rw [hs]; exact List.mem_cons_of_mem _ e)) (by simp)
    have := key _ _ h2
    rw [size_list, size_list] at this
    omega : W[j].size ≤ 1048576))
  have HN := Lib.hid hn
  clear hn hm hp he hW RW htl h00
  go_enter Tryd.func34, Tryd.ntmps34
  go_wp2_with (first | (go_at_call 24; (with_reducible refine (RS _ ExtC.ext).mono ?_); rintro e w' ⟨rfl, hws, hx⟩; obtain ⟨g1, rfl⟩ := hx.grow; clear hx RS; have HS := Lib.hid hws; clear hws))
  go_loopw [10, 23] (fun o i wr => ∃ (k og oc : Nat) (C : List Int), k ≤ W.length ∧ i = .int .i64 k ∧ o = .slice (some ⟨og, 0, none⟩) C.length oc ∧ C.length ≤ 101 ∧ Ext w wr ∧ Hid (C.length = k) ∧ Hid (∀ j (h : j < C.length), (lo ≤ C[j] ∧ C[j] ≤ hi) ∧ W[j]? = some (dec C[j])) ∧ Hid (OwnI w.heap.size wr.heap.size wr (.slice (some ⟨og, 0, none⟩) C.length oc) C) ∧ Hid (WS wr (w.heap.size + 1) W) ∧ Hid (og ≠ w.heap.size + 1)) (fun _ i _ => W.length - (intOf i).toNat)
  case atStart =>
    have z := (ExtC.ext : Ext (w.alloc (.cells #[] 2)) g1.fin).size
    simp only [World.size_alloc] at z
    exact ⟨0, w.heap.size, 0, [], Nat.zero_le _, rfl, rfl, by simp, ExtC.ext, Lib.hid rfl, Lib.hid (fun j h => by simp at h), Lib.hid (((own_empty w w.heap.size (Nat.le_refl _)).ext ExtC.ext).mono (Nat.le_refl _) z), Lib.hid (by have := HS.out; simp only [World.size_alloc] at this; exact this), Lib.hid (by omega)⟩
  case round =>
    clear HS
    obtain ⟨k, og, oc, C, hk, rfl, rfl, hC, hx, HCk, HCC, HO, HWS2, HD⟩ := hrel
    obtain ⟨g0, rfl⟩ := hx.grow; clear hx
    by_cases hlt : k < W.length
    · obtain ⟨isb, hcells⟩ := HWS2.out
      have d := hcells k hlt
      have hws := HWS.out k hlt
      obtain ⟨s, hs⟩ : ∃ s, W[k] = s := ⟨_, rfl⟩
      rw [hs] at d hws
      have HWK := Lib.hid hs
      clear hs hcells
      obtain ⟨x, bx, hx⟩ := num_some lo hi s
      have R := RN s hws x bx hx
      have HX := Lib.hid hx
      clear hx
      -- where a list is told, the word is its number
      have HTK := Lib.hid (fun ys (h : NumsOf lo hi t ys) => (by
        obtain ⟨e1, e2⟩ := HT.out ys h
        have hky : k < ys.length := by omega
        have e3 := e2 k hlt hky
        rw [HWK.out] at e3
        have hr := h.1 ys[k] (List.getElem_mem hky)
        exact ⟨(num_of HX.out hr.1 hr.2 e3.symm).1, by have := h.2.1; omega⟩ : bx = true ∧ k ≤ 100))
      cases bx
      · have HF := Lib.hid (show b = false ∧ xs = [] by
          rcases HN.out with ⟨-, k1⟩ | ⟨k0, k1, -⟩
          · have := (HTK.out xs k1).1; cases this
          · exact ⟨k0, k1⟩)
        clear HTK RN
        go_wp2_with (first | (go_at_call 26; (with_reducible refine (R _ ExtC.ext).mono ?_); rintro e w' ⟨rfl, hx⟩; obtain ⟨g, rfl⟩ := hx.grow; clear hx))
        refine bodyPost_ret (v := .tuple #[.slice none 0 0, .bool false]) (by simp [results, Tryd.results34, go_sem]) rfl ?_
        exact ⟨_, by rw [HF.out.1], .inl ⟨rfl, HF.out.2⟩, fun h => (by rw [HF.out.1] at h; cases h), ExtC.ext⟩
      by_cases h100 : 100 < C.length
      · have HF := Lib.hid (show b = false ∧ xs = [] by
          rcases HN.out with ⟨-, k1⟩ | ⟨k0, k1, -⟩
          · have := (HTK.out xs k1).2; have := HCk.out; omega
          · exact ⟨k0, k1⟩)
        clear HTK RN
        go_wp2_with (first | (go_at_call 26; (with_reducible refine (R _ ExtC.ext).mono ?_); rintro e w' ⟨rfl, hx⟩; obtain ⟨g, rfl⟩ := hx.grow; clear hx))
        refine bodyPost_ret (v := .tuple #[.slice none 0 0, .bool false]) (by simp [results, Tryd.results34, go_sem]) rfl ?_
        exact ⟨_, by rw [HF.out.1], .inl ⟨rfl, HF.out.2⟩, fun h => (by rw [HF.out.1] at h; cases h), ExtC.ext⟩
      · have HXR := Lib.hid (show (lo ≤ x ∧ x ≤ hi) ∧ W[k]? = some (dec x) by
          rcases HX.out with ⟨-, k1, k2, k3⟩ | ⟨k0, -, -⟩
          · exact ⟨⟨k1, k2⟩, by rw [List.getElem?_eq_getElem hlt, HWK.out, k3]⟩
          · cases k0)
        clear HTK RN
        go_wp2_with (first | (go_at_call 26; (with_reducible refine (R _ ExtC.ext).mono ?_); rintro e w' ⟨rfl, hx⟩; obtain ⟨g, rfl⟩ := hx.grow; clear hx) | (at_builtin; refine app_int2 (w0 := w) (lo := w.heap.size) (hi := g0.fin.heap.size) _ _ og oc C.length C ⟨g.fin.heap.size, 0, none⟩ 1 [x] rfl rfl rfl (HO.out.ext ExtC.ext) rfl (cells_one _ _ _) (by simp; omega) ExtC.ext (Nat.le_refl _) (by simp) ?_; intro g' c' w1 ho hr hg' hx; obtain ⟨g3, rfl⟩ := hx.grow; clear hx; have HO2 := Lib.hid (And.intro ho (And.intro hr hg')); clear ho hr hg'))
        go_roundw
        case rel =>
          obtain ⟨ho, hr, hg'⟩ := HO2.out
          have z0 := HWS2.out.1.lt
          have zg := (ExtC.ext : Ext g0.fin g.fin).size
          have hlen : (C ++ [x]).length = k + 1 := by rw [List.length_append, HCk.out]; rfl
          simp only [World.size_alloc] at hg'
          refine ⟨k + 1, g', c', C ++ [x], by omega, by go_num, by simp, by simp; omega, ExtC.ext, Lib.hid hlen, Lib.hid (fun j h => ?_), Lib.hid ho, Lib.hid ((HWS2.out.ext ExtC.ext).rng hr (by have := HD.out; omega)), Lib.hid (by have := HD.out; omega)⟩
          by_cases hj : j < C.length
          · rw [List.getElem_append_left hj]; exact HCC.out j hj
          · have : j = C.length := by rw [hlen] at h; have := HCk.out; omega
            subst this
            rw [List.getElem_append_right (Nat.le_refl _)]
            simp only [Nat.sub_self, List.getElem_cons_zero]
            rw [HCk.out]
            exact HXR.out
        case measure => simp [intOf]; omega
    · have HF := Lib.hid (show b = true ∧ xs = C by
        have hmap : W.map (·.data.toList) = C.map Lib.itoa := by
          refine List.ext_getElem? fun j => ?_
          rw [List.getElem?_map, List.getElem?_map]
          by_cases hj : j < C.length
          · rw [(HCC.out j hj).2, List.getElem?_eq_getElem hj]
            simp [dec_bytes]
          · rw [List.getElem?_eq_none (by have := HCk.out; omega), List.getElem?_eq_none (by omega)]; rfl
        have hof : NumsOf lo hi t C := by
          refine ⟨fun y hy => ?_, hC, ?_⟩
          · obtain ⟨j, hj, rfl⟩ := List.getElem_of_mem hy
            exact (HCC.out j hj).1
          · unfold decs
            rw [← hmap, HW.out, join_splitL]
        rcases HN.out with ⟨k0, k1⟩ | ⟨-, -, k3⟩
        · exact ⟨k0, k1.uniq hof⟩
        · exact absurd hof (k3 C))
      clear RN
      go_wp2_with fail
      refine bodyPost_ret (v := .tuple #[.slice (some ⟨og, 0, none⟩) C.length oc, .bool true]) (by simp [results, Tryd.results34, go_sem]) rfl ?_
      obtain ⟨h5, h6⟩ := HF.out
      exact ⟨_, by rw [h5], by rw [h6]; exact HO.out, fun _ => ⟨og, oc, by rw [h6]⟩, ExtC.ext⟩
end Go.Proofs.YthcomgnokkndgaaDoor
