/- A list of voices read from its text: the program's side. -/
import Derived.Test.YthcomgnokkndgaaDoorNums
import Derived.Test.YthcomgnokkndgaaDoorVText
namespace Go.Proofs.YthcomgnokkndgaaDoor
open Go.RowKit

/-- L, b: the valid list of voices whose text s is, and whether there is one. -/
def VoicesIs (s : ByteArray) (L : List VD) (b : Bool) : Prop := (b = true ∧ OkV L ∧ vtexts L = s.data.toList) ∨ (b = false ∧ L = [] ∧ ∀ M, OkV M → vtexts M ≠ s.data.toList)
theorem voices_some (s : ByteArray) : ∃ L b, VoicesIs s L b := by
  by_cases h : ∃ L, OkV L ∧ vtexts L = s.data.toList
  · obtain ⟨L, h⟩ := h; exact ⟨L, true, .inl ⟨rfl, h.1, h.2⟩⟩
  · exact ⟨[], false, .inr ⟨rfl, rfl, fun M h1 h2 => h ⟨M, h1, h2⟩⟩⟩
theorem VoicesIs.small {s : ByteArray} {L : List VD} {b : Bool} (h : VoicesIs s L b) : L.length ≤ 12 ∧ ∀ x ∈ L, x.2.length ≤ 4 := by
  rcases h with ⟨-, h, -⟩ | ⟨-, rfl, -⟩
  · refine ⟨h.2.2, fun x hx => ?_⟩
    obtain ⟨k, hk, rfl⟩ := List.getElem_of_mem hx
    exact (h.i64 hk).2
  · exact ⟨by simp, fun x hx => by cases hx⟩
theorem join_no {c : UInt8} {X : List (List UInt8)} {d : UInt8} (h : ∀ x ∈ X, c ∉ x) (hd : c ≠ d) : c ∉ Lib.join X [d] := by
  cases X with
  | nil => simp [Lib.join_nil]
  | cons x r =>
    rw [Lib.join_cons]
    intro hm
    rcases List.mem_append.1 hm with e | e
    · exact h x (List.mem_cons_self ..) e
    · unfold Lib.joinTail at e
      obtain ⟨y, hy, hc⟩ := List.mem_flatten.1 e
      obtain ⟨z, hz, rfl⟩ := List.mem_map.1 hy
      rcases List.mem_append.1 hc with e | e
      · exact hd (List.mem_singleton.1 e)
      · exact h z (List.mem_cons_of_mem _ hz) e
theorem vtxt_no32 (x : VD) : (32 : UInt8) ∉ vtxt x := by
  unfold vtxt
  intro h
  rcases List.mem_cons.1 h with e | e
  · split at e <;> revert e <;> decide
  · exact join_no (fun y hy => by obtain ⟨n, -, rfl⟩ := List.mem_map.1 hy; exact itoa_no (by decide) (by decide) n) (by decide) e
theorem voices_split {L : List VD} (h : L ≠ []) : splitL 32 (vtexts L) = L.map vtxt := by
  unfold vtexts
  exact splitL_join (by simpa using h) fun x hx => by obtain ⟨y, -, rfl⟩ := List.mem_map.1 hx; exact vtxt_no32 y
/-- What a word of a told list is. -/
theorem word_nums {w : ByteArray} {x : VD} (h : w.data.toList = vtxt x) (h4 : x.2.length ≤ 4) (hr : ∀ n ∈ x.2, 0 ≤ n ∧ n ≤ 12) : NumsOf 0 12 (w.extract 1 w.size) x.2 := by
  refine ⟨hr, by omega, ?_⟩
  rw [extract_list, h]
  have : w.size = (vtxt x).length := by rw [← h, size_list]
  rw [this]
  simp [vtxt]
theorem OkV.nums {L : List VD} (hok : OkV L) {k : Nat} (hk : k < L.length) : ∀ n ∈ L[k].2, 0 ≤ n ∧ n ≤ 12 := by
  intro n hn
  obtain ⟨j, hj, rfl⟩ := List.getElem_of_mem hn
  have := ((hok.1 k hk).1 j hj).1
  have := hok.2
  omega
theorem OwnV.mono2 {lo hi lo' hi' : Nat} {w : World} {v : Value} {L : List VD} (h : OwnV lo hi w v L) (h1 : lo' ≤ lo) (h2 : hi ≤ hi') : OwnV lo' hi' w v L := by
  rcases h with h | ⟨g, cap, cs, ts, a, b, hv, h3, h4, how, hc, hd⟩
  · exact .inl h
  · exact .inr ⟨g, cap, cs, ts, a, b, hv, by omega, by omega, ownsRow_mono how h1, fun i hi => by obtain ⟨q1, q2, q3, q4, q5, q6⟩ := hc i hi; exact ⟨q1, q2, q3, by omega, by omega, q6⟩, hd⟩
theorem cell_two0 (x : World) (u v : Value) (T : TypeId) : (x.alloc (.cells #[u, v] T)).cell? ((⟨x.heap.size, 0, none⟩ : Addr).add 0) = some u := by
  rw [add_plain', World.cell?_alloc_at _ _ _ _ rfl]; rfl
theorem cell_two1 (x : World) (u v : Value) (T : TypeId) : (x.alloc (.cells #[u, v] T)).cell? ((⟨x.heap.size, 0, none⟩ : Addr).add 1) = some v := by
  rw [add_plain', World.cell?_alloc_at _ _ _ _ rfl]; rfl
theorem itoa_two {n : Int} (h0 : 0 ≤ n) (h1 : n ≤ 12) : (Lib.itoa n).length ≤ 2 := by
  unfold Lib.itoa
  rw [if_neg (by omega), Lib.decDigits_length]
  exact nDigits_le 1 n.toNat (by omega)
theorem vtexts_168 {L : List VD} (hok : OkV L) : (vtexts L).length ≤ 168 := by
  have hl := hok.2
  have h1 : ∀ k (hk : k < L.length), (vtxt L[k]).length ≤ 13 := fun k hk => by
    have h4 := (hok.i64 hk).2
    have := join_len (M := 2) 44 (L := L[k].2.map Lib.itoa) (fun y hy => by
      obtain ⟨n, hn, rfl⟩ := List.mem_map.1 hy
      have := hok.nums hk n hn
      exact itoa_two this.1 this.2)
    rw [List.length_map] at this
    simp only [vtxt, decs, List.length_cons]; omega
  have := join_len (M := 13) 32 (L := L.map vtxt) (fun y hy => by
    obtain ⟨x, hx, rfl⟩ := List.mem_map.1 hy
    obtain ⟨k, hk, rfl⟩ := List.getElem_of_mem hx
    exact h1 k hk)
  rw [List.length_map] at this
  unfold vtexts; omega
/-- What the program has read out of a word. -/
def PW (w : ByteArray) (x : VD) : Prop := ∃ h : 0 < w.size, (x.1 = decide (w[0].toNat = 43)) ∧ NumsOf 0 12 (w.extract 1 w.size) x.2
theorem PW.told {w : ByteArray} {x y : VD} (h : PW w x) (hw : w.data.toList = vtxt y) (h4 : y.2.length ≤ 4) (hr : ∀ n ∈ y.2, 0 ≤ n ∧ n ≤ 12) : x = y := by
  obtain ⟨h0, h1, h2⟩ := h
  have e2 := h2.uniq (word_nums hw h4 hr)
  have e0 : w[0] = if y.1 then 43 else 45 := by
    rw [← get_list w 0 h0]
    have : w.data.toList[0]? = some (if y.1 then 43 else 45) := by rw [hw]; rfl
    rw [List.getElem?_eq_getElem (by rw [size_list]; exact h0)] at this
    exact Option.some.inj this
  have e1 : x.1 = y.1 := by
    rw [h1, e0]
    cases y.1 <;> decide
  exact Prod.ext e1 e2

set_option maxHeartbeats 8000000 in
set_option maxRecDepth 100000 in
theorem impl_ReadVoices' (s : ByteArray) (w : World) (hs : s.size ≤ 1048576) (L : List VD) (b : Bool) (hv : VoicesIs s L b) (hp : Pow w) (he : Errs w) (hm : ML w) :
    Calls Tryd.prog 17 #[.string s] w fun e w' => ∃ v', e = .returned (.tuple #[v', .bool b]) ∧ OwnV w.heap.size w'.heap.size w' v' L ∧ Ext w w' := by
  have RET : ∀ (P : b = true → False), b = false ∧ L = [] := fun P => by
    rcases hv with ⟨k0, -, -⟩ | ⟨k0, k1, -⟩
    · exact absurd k0 P
    · exact ⟨k0, k1⟩
  have HRET := Lib.hid RET
  clear RET
  by_cases h1000 : 1000 < s.size
  · have HF := Lib.hid (HRET.out fun e => by
      rcases hv with ⟨-, k1, k2⟩ | ⟨k0, -, -⟩
      · have := vtexts_168 k1; rw [k2, size_list] at this; omega
      · rw [e] at k0; cases k0)
    clear hp he hm hv
    go_enter Tryd.func17, Tryd.ntmps17
    go_wp2_with fail
    refine bodyPost_ret (v := .tuple #[.slice none 0 0, .bool false]) (by simp [results, Tryd.results17, go_sem]) rfl ?_
    exact ⟨_, by rw [HF.out.1], .inl ⟨rfl, HF.out.2⟩, ExtC.ext⟩
  obtain ⟨W, hW, hWl, RW⟩ := split_call s 32 hs
  have hW1 : W.length ≤ 1001 := by omega
  -- what a told list says of the words
  have HT := Lib.hid (fun M (hok : OkV M) (ht : vtexts M = s.data.toList) => (by
    have hne : M ≠ [] := fun e => by have := hok.2.1; rw [e] at this; simp at this
    have := voices_split hne
    rw [ht, ← hW] at this
    refine ⟨by have := congrArg List.length this; simpa using this, fun j hj hj' => ?_⟩
    have h2 := congrArg (fun l => l[j]?) this
    simp only [List.getElem?_map, List.getElem?_eq_getElem hj, List.getElem?_eq_getElem hj', Option.map_some, Option.some.injEq] at h2
    exact h2 : W.length = M.length ∧ ∀ j (hj : j < W.length) (hj' : j < M.length), W[j].data.toList = vtxt M[j]))
  have HWS := Lib.hid (fun j (hj : j < W.length) => (by
    have h2 : W[j].data.toList ∈ splitL 32 s.data.toList := by rw [← hW]; exact List.mem_map.2 ⟨W[j], List.getElem_mem hj, rfl⟩
    have := splitL_le 32 _ _ h2
    rw [size_list, size_list] at this
    omega : W[j].size ≤ 1048576))
  have RS := fun y (hy : Ext w y) => RW y (hm.ext hy)
  have RD := fun (t : ByteArray) (ht : t.size ≤ 1048576) xs bx (h : NumsIs 0 12 t xs bx) y (hy : Ext w y) => impl_readDecimals t 0 12 xs bx h y ht (by decide) (by decide) (hp.ext hy) (he.ext hy) (hm.ext hy)
  have RV := fun v C b' (hb' : vokB C = b') s' (hs' : vtextX C = s') y (hy : Ext w y) (hv : VS y v C) (hsh : Short C) => impl_VoicesText' v C y hv hsh b' hb' s' hs' (hp.ext hy)
  have HV := Lib.hid hv
  clear hv hm hp he hW RW
  go_enter Tryd.func17, Tryd.ntmps17
  go_wp2_with (first | (go_at_call 24; (with_reducible refine (RS _ ExtC.ext).mono ?_); rintro e w' ⟨rfl, hws, hx⟩; obtain ⟨g1, rfl⟩ := hx.grow; clear hx RS; have HS := Lib.hid hws; clear hws))
  go_loopw [4, 18] (fun o i wr => ∃ (k og oc : Nat) (C : List VD), k ≤ W.length ∧ i = .int .i64 k ∧ o = .slice (some ⟨og, 0, none⟩) C.length oc ∧ C.length ≤ 1001 ∧ Ext w wr ∧ Hid (C.length = k) ∧ Hid (∀ j (h : j < C.length) (h' : j < W.length), PW W[j] C[j]) ∧ Hid (OwnV w.heap.size wr.heap.size wr (.slice (some ⟨og, 0, none⟩) C.length oc) C) ∧ Hid (WS wr (w.heap.size + 1) W) ∧ Hid (og ≠ w.heap.size + 1)) (fun _ i _ => W.length - (intOf i).toNat)
  case atStart =>
    have z := (ExtC.ext : Ext (w.alloc (.cells #[] 70)) g1.fin).size
    simp only [World.size_alloc] at z
    exact ⟨0, w.heap.size, 0, [], Nat.zero_le _, rfl, rfl, by simp, ExtC.ext, Lib.hid rfl, Lib.hid (fun j h => by simp at h), Lib.hid (((OwnV.made (World.ownsRow_made (e := 70) (size := 2) (base := w.heap.size) w #[] 0 (Nat.le_refl _) (by unfold maxLen; omega) (by rfl))).ext ExtC.ext).mono2 (Nat.le_refl _) (by simpa using z)), Lib.hid (by have := HS.out; simp only [World.size_alloc] at this; exact this), Lib.hid (by omega)⟩
  case round =>
    clear HS
    obtain ⟨k, og, oc, C, hk, rfl, rfl, hC, hx, HCk, HCC, HO, HWS2, HD⟩ := hrel
    obtain ⟨g0, rfl⟩ := hx.grow; clear hx
    by_cases hlt : k < W.length
    · obtain ⟨isb, hcells⟩ := HWS2.out
      have d := hcells k hlt
      have hws := HWS.out k hlt
      obtain ⟨t, hs⟩ : ∃ t, W[k] = t := ⟨_, rfl⟩
      rw [hs] at d hws
      have HWK := Lib.hid hs
      clear hs hcells
      have HTK := Lib.hid (fun M (hok : OkV M) (ht : vtexts M = s.data.toList) => (by
        obtain ⟨e1, e2⟩ := HT.out M hok ht
        have hky : k < M.length := by omega
        have e3 := e2 k hlt hky
        rw [HWK.out] at e3
        exact ⟨M[k], e3, (hok.i64 hky).2, hok.nums hky⟩ : ∃ x : VD, t.data.toList = vtxt x ∧ x.2.length ≤ 4 ∧ ∀ n ∈ x.2, 0 ≤ n ∧ n ≤ 12))
      by_cases ht0 : t.size = 0
      · have htl : t.data.toList = [] := List.length_eq_zero_iff.1 (by rw [size_list]; exact ht0)
        have HF := Lib.hid (HRET.out fun e => by
          rcases HV.out with ⟨-, k1, k2⟩ | ⟨k0, -, -⟩
          · obtain ⟨x, hx, -⟩ := HTK.out L k1 k2
            rw [htl] at hx; cases hx
          · rw [e] at k0; cases k0)
        obtain rfl : t = ⟨#[]⟩ := bytes_eq htl
        clear HTK RD RV ht0
        go_wp2_with fail
        refine bodyPost_ret (v := .tuple #[.slice none 0 0, .bool false]) (by simp [results, Tryd.results17, go_sem]) rfl ?_
        exact ⟨_, by rw [HF.out.1], .inl ⟨rfl, HF.out.2⟩, ExtC.ext⟩
      have htp : 0 < t.size := by omega
      have d1 : ¬ t.toList = [] := by rw [ByteArray.toList_eq]; exact fun e => ht0 (by rw [← size_list, e]; rfl)
      have d2 : (t.toList == []) = false := by simpa using d1
      have d3 : t.toList.isEmpty = false := by simpa using d1
      obtain ⟨ys, bx, hys⟩ := nums_some 0 12 (t.extract 1 t.size)
      have R := RD (t.extract 1 t.size) (Nat.le_trans (size_extract' _ _ _) hws) ys bx hys
      have HYS := Lib.hid hys
      clear hys ht0 RD
      cases bx
      · have HF := Lib.hid (HRET.out fun e => by
          rcases HV.out with ⟨-, k1, k2⟩ | ⟨k0, -, -⟩
          · obtain ⟨x, hx, h4, hr⟩ := HTK.out L k1 k2
            rcases HYS.out with ⟨q, -⟩ | ⟨-, -, q⟩
            · cases q
            · exact q _ (word_nums hx h4 hr)
          · rw [e] at k0; cases k0)
        clear HTK RV
        go_wp2_with (first | (go_at_call 34; (with_reducible refine (R _ ExtC.ext).mono ?_); rintro e w' ⟨v1, rfl, -, -, hx⟩; obtain ⟨g2, rfl⟩ := hx.grow; clear hx))
        refine bodyPost_ret (v := .tuple #[.slice none 0 0, .bool false]) (by simp [results, Tryd.results17, go_sem]) rfl ?_
        exact ⟨_, by rw [HF.out.1], .inl ⟨rfl, HF.out.2⟩, ExtC.ext⟩
      obtain ⟨sg, hsg⟩ : ∃ sg, decide (t[0].toNat = 43) = sg := ⟨_, rfl⟩
      have HPW := Lib.hid (show PW W[k] (sg, ys) by
        rw [HWK.out]
        refine ⟨htp, hsg.symm, ?_⟩
        rcases HYS.out with ⟨-, q⟩ | ⟨q, -, -⟩
        · exact q
        · cases q)
      clear HTK RV
      cases sg
      · have hc : ((t[0].toNat : Int) == 43) = false := by simp; have := of_decide_eq_false hsg; omega
        clear hsg
        go_wp2_with (first | (go_at_call 34; (with_reducible refine (R _ ExtC.ext).mono ?_); rintro e w' ⟨v1, rfl, hv1, hf1, hx⟩; obtain ⟨tg, tc, rfl⟩ := hf1 rfl; obtain ⟨g2, rfl⟩ := hx.grow; clear hx hf1; have HT1 := Lib.hid hv1; clear hv1) | (at_builtin; refine app_voice2 (w0 := w) (lo := w.heap.size) (mid0 := g0.fin.heap.size) (mid := g0.fin.heap.size) (hi := g2.fin.heap.size) _ _ og oc C.length C ⟨g2.fin.heap.size, 0, none⟩ 1 false (.slice (some ⟨tg, 0, none⟩) ys.length tc) ys rfl rfl rfl rfl (HO.out.ext ExtC.ext) rfl (cell_two0 _ _ _ _) (cell_two1 _ _ _ _) (HT1.out.ext ExtC.ext) (Nat.le_refl _) (by simp) (by have := (ExtC.ext : Ext g0.fin g2.fin).size; simp only [World.size_alloc]; omega) (by omega) ExtC.ext (Nat.le_refl _) ?_; intro g' c' w1 ho hr hg' hx; obtain ⟨g3, rfl⟩ := hx.grow; clear hx; have HO2 := Lib.hid (And.intro ho (And.intro hr hg')); clear ho hr hg'))
        go_roundw
        case rel =>
          obtain ⟨ho, hr, hg'⟩ := HO2.out
          have z0 := HWS2.out.1.lt
          have zg := (ExtC.ext : Ext g0.fin g2.fin).size
          have hlen : (C ++ [(false, ys)]).length = k + 1 := by rw [List.length_append, HCk.out]; rfl
          simp only [World.size_alloc] at hg'
          refine ⟨k + 1, g', c', C ++ [(false, ys)], by omega, by go_num, by simp, by have := HCk.out; omega, ExtC.ext, Lib.hid hlen, Lib.hid (fun j h h' => ?_), Lib.hid ho, Lib.hid ((HWS2.out.ext ExtC.ext).rng hr (by have := HD.out; omega)), Lib.hid (by have := HD.out; omega)⟩
          by_cases hj : j < C.length
          · rw [List.getElem_append_left hj]; exact HCC.out j hj h'
          · have hjk : j = k := by rw [hlen] at h; have := HCk.out; omega
            have hjc : j = C.length := by have := HCk.out; omega
            have e1 : (C ++ [(false, ys)])[j]'h = (false, ys) := by
              rw [List.getElem_append_right (by omega)]
              simp [hjc]
            rw [e1]
            have e2 : W[j] = W[k] := by congr 1
            rw [e2]; exact HPW.out
        case measure => simp [intOf]; omega
      · have hc : ((t[0].toNat : Int) == 43) = true := by simp; have := of_decide_eq_true hsg; omega
        clear hsg
        go_wp2_with (first | (go_at_call 34; (with_reducible refine (R _ ExtC.ext).mono ?_); rintro e w' ⟨v1, rfl, hv1, hf1, hx⟩; obtain ⟨tg, tc, rfl⟩ := hf1 rfl; obtain ⟨g2, rfl⟩ := hx.grow; clear hx hf1; have HT1 := Lib.hid hv1; clear hv1) | (at_builtin; refine app_voice2 (w0 := w) (lo := w.heap.size) (mid0 := g0.fin.heap.size) (mid := g0.fin.heap.size) (hi := g2.fin.heap.size) _ _ og oc C.length C ⟨g2.fin.heap.size, 0, none⟩ 1 true (.slice (some ⟨tg, 0, none⟩) ys.length tc) ys rfl rfl rfl rfl (HO.out.ext ExtC.ext) rfl (cell_two0 _ _ _ _) (cell_two1 _ _ _ _) (HT1.out.ext ExtC.ext) (Nat.le_refl _) (by simp) (by have := (ExtC.ext : Ext g0.fin g2.fin).size; simp only [World.size_alloc]; omega) (by omega) ExtC.ext (Nat.le_refl _) ?_; intro g' c' w1 ho hr hg' hx; obtain ⟨g3, rfl⟩ := hx.grow; clear hx; have HO2 := Lib.hid (And.intro ho (And.intro hr hg')); clear ho hr hg'))
        go_roundw
        case rel =>
          obtain ⟨ho, hr, hg'⟩ := HO2.out
          have z0 := HWS2.out.1.lt
          have zg := (ExtC.ext : Ext g0.fin g2.fin).size
          have hlen : (C ++ [(true, ys)]).length = k + 1 := by rw [List.length_append, HCk.out]; rfl
          simp only [World.size_alloc] at hg'
          refine ⟨k + 1, g', c', C ++ [(true, ys)], by omega, by go_num, by simp, by have := HCk.out; omega, ExtC.ext, Lib.hid hlen, Lib.hid (fun j h h' => ?_), Lib.hid ho, Lib.hid ((HWS2.out.ext ExtC.ext).rng hr (by have := HD.out; omega)), Lib.hid (by have := HD.out; omega)⟩
          by_cases hj : j < C.length
          · rw [List.getElem_append_left hj]; exact HCC.out j hj h'
          · have hjk : j = k := by rw [hlen] at h; have := HCk.out; omega
            have hjc : j = C.length := by have := HCk.out; omega
            have e1 : (C ++ [(true, ys)])[j]'h = (true, ys) := by
              rw [List.getElem_append_right (by omega)]
              simp [hjc]
            rw [e1]
            have e2 : W[j] = W[k] := by congr 1
            rw [e2]; exact HPW.out
        case measure => simp [intOf]; omega
    · have HCL := Lib.hid (fun M (hok : OkV M) (ht : vtexts M = s.data.toList) => (by
        obtain ⟨e1, e2⟩ := HT.out M hok ht
        refine List.ext_getElem (by have := HCk.out; omega) fun j h1 h2 => ?_
        exact (HCC.out j h1 (by omega)).told (e2 j (by omega) h2) (hok.i64 h2).2 (hok.nums h2) : C = M))
      have hsh : Short C := ⟨by omega, fun i hi => by
        have hiW : i < W.length := by have := HCk.out; omega
        obtain ⟨-, -, q⟩ := HCC.out i hi hiW
        have := q.2.1
        omega⟩
      have hvs := HO.out.vs (by simp)
      by_cases hgood : OkV C ∧ vtexts C = s.data.toList
      · have HF := Lib.hid (show b = true ∧ L = C by
          rcases HV.out with ⟨k0, k1, k2⟩ | ⟨-, -, k3⟩
          · exact ⟨k0, (HCL.out L k1 k2).symm⟩
          · exact absurd hgood.2 (k3 C hgood.1))
        have R := fun y (hy : Ext g0.fin y) => RV _ C true ((vokB_iff rfl).2 hgood.1) s (by unfold vtextX; rw [if_pos hgood.1]; exact (bytes_eq hgood.2.symm).symm) y ((ExtC.ext : Ext w g0.fin).trans hy) (hvs.ext hy) hsh
        clear HCL hsh hvs hgood RD RV
        go_wp2_with (first | (go_at_call 40; (with_reducible refine (R _ ExtC.ext).mono ?_); rintro e w' ⟨rfl, hx⟩; obtain ⟨g, rfl⟩ := hx.grow; clear hx))
        refine bodyPost_ret (v := .tuple #[.slice (some ⟨og, 0, none⟩) C.length oc, .bool true]) (by simp [results, Tryd.results17, go_sem]) rfl ?_
        obtain ⟨h5, h6⟩ := HF.out
        exact ⟨_, by rw [h5], by rw [h6]; exact (HO.out.ext ExtC.ext).mono2 (Nat.le_refl _) (ExtC.ext : Ext g0.fin _).size, ExtC.ext⟩
      have HF := Lib.hid (HRET.out fun e => by
        rcases HV.out with ⟨-, k1, k2⟩ | ⟨k0, -, -⟩
        · have := HCL.out L k1 k2; subst this; exact hgood ⟨k1, k2⟩
        · rw [e] at k0; cases k0)
      cases hb' : vokB C
      · have R := fun y (hy : Ext g0.fin y) => RV _ C false hb' _ rfl y ((ExtC.ext : Ext w g0.fin).trans hy) (hvs.ext hy) hsh
        obtain ⟨s', hs'⟩ : ∃ s', vtextX C = s' := ⟨_, rfl⟩
        rw [hs'] at R
        clear HCL hsh hvs hgood hb' hs' RD RV
        go_wp2_with (first | (go_at_call 40; (with_reducible refine (R _ ExtC.ext).mono ?_); rintro e w' ⟨rfl, hx⟩; obtain ⟨g, rfl⟩ := hx.grow; clear hx))
        refine bodyPost_ret (v := .tuple #[.slice none 0 0, .bool false]) (by simp [results, Tryd.results17, go_sem]) rfl ?_
        exact ⟨_, by rw [HF.out.1], .inl ⟨rfl, HF.out.2⟩, ExtC.ext⟩
      · have R := fun y (hy : Ext g0.fin y) => RV _ C true hb' _ rfl y ((ExtC.ext : Ext w g0.fin).trans hy) (hvs.ext hy) hsh
        have hok := (vokB_iff hb').1 rfl
        have hne : ¬ vtextX C = s := fun e => hgood ⟨hok, by rw [← e]; unfold vtextX; rw [if_pos hok]⟩
        have d1 := ne_list hne
        have d2 : ((vtextX C).toList == s.toList) = false := by simp [d1]
        obtain ⟨s', hs'⟩ : ∃ s', vtextX C = s' := ⟨_, rfl⟩
        rw [hs'] at R d1 d2
        clear HCL hsh hvs hgood hb' hs' hok hne RD RV
        go_wp2_with (first | (go_at_call 40; (with_reducible refine (R _ ExtC.ext).mono ?_); rintro e w' ⟨rfl, hx⟩; obtain ⟨g, rfl⟩ := hx.grow; clear hx))
        refine bodyPost_ret (v := .tuple #[.slice none 0 0, .bool false]) (by simp [results, Tryd.results17, go_sem]) rfl ?_
        exact ⟨_, by rw [HF.out.1], .inl ⟨rfl, HF.out.2⟩, ExtC.ext⟩
end Go.Proofs.YthcomgnokkndgaaDoor
