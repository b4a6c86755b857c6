/- A list of shares read from its text: the program's side. -/
import Derived.Test.YthcomgnokkndgaaDoorReadSP
import Derived.Test.YthcomgnokkndgaaDoorReadF
namespace Go.Proofs.YthcomgnokkndgaaDoor
open Go.RowKit

theorem itoa_two' {n : Int} (h0 : 0 ≤ n) (h1 : n ≤ 12) : (Lib.itoa n).length ≤ 2 := by
  unfold Lib.itoa
  rw [if_neg (by omega), Lib.decDigits_length]
  exact nDigits_le 1 n.toNat (by omega)
theorem stexts_438 {L : List SD} (hok : OkS L) : (stexts L).length ≤ 438 := by
  have hl := hok.2
  have h1 : ∀ k (hk : k < L.length), (stxt L[k]).length ≤ 72 := fun k hk => by
    have h12 := (hok.row hk).2
    have := join_len (M := 5) 44 (L := L[k].map ptxt) (fun y hy => by
      obtain ⟨x, hx, rfl⟩ := List.mem_map.1 hy
      obtain ⟨j, hj, rfl⟩ := List.getElem_of_mem hx
      obtain ⟨a, b, c, d⟩ := hok.told hk hj
      have e1 := itoa_two' a (by omega)
      have e2 := itoa_two' (n := L[k][j].2) (by omega) d
      unfold ptxt
      simp only [List.length_append, List.length_cons]; omega)
    rw [List.length_map] at this
    unfold stxt; omega
  have := join_len (M := 72) 59 (L := L.map stxt) (fun y hy => by
    obtain ⟨x, hx, rfl⟩ := List.mem_map.1 hy
    obtain ⟨k, hk, rfl⟩ := List.getElem_of_mem hx
    exact h1 k hk)
  rw [List.length_map] at this
  unfold stexts; omega

theorem cell_two0' (x : World) (u v : Value) (T : TypeId) : (x.alloc (.cells #[u, v] T)).cell? ((⟨x.heap.size, 0, none⟩ : Addr).add 0) = some u := by
  rw [add_plain', World.cell?_alloc_at _ _ _ _ rfl]; rfl
theorem cell_two1' (x : World) (u v : Value) (T : TypeId) : (x.alloc (.cells #[u, v] T)).cell? ((⟨x.heap.size, 0, none⟩ : Addr).add 1) = some v := by
  rw [add_plain', World.cell?_alloc_at _ _ _ _ rfl]; rfl

set_option maxHeartbeats 16000000 in
set_option maxRecDepth 100000 in
theorem impl_ReadShares' (s : ByteArray) (w : World) (hs : s.size ≤ 1048576) (L : List SD) (b : Bool) (hv : SharesIs s L b) (hp : Pow w) (he : Errs w) (hm : ML w) :
    Calls Tryd.prog 7 #[.string s] w fun e w' => ∃ v', e = .returned (.tuple #[v', .bool b]) ∧ OwnR shareKind 40 w.heap.size w'.heap.size w' v' L ∧ Ext w w' := by
  have HRET := Lib.hid (fun (P : b = true → False) => (by
    rcases hv with ⟨k0, -, -⟩ | ⟨k0, k1, -⟩
    · exact absurd k0 P
    · exact ⟨k0, k1⟩ : b = false ∧ L = []))
  have HV := Lib.hid hv
  by_cases h1000 : 1000 < s.size
  · have HF := Lib.hid (HRET.out fun e => by
      rcases HV.out with ⟨-, k1, k2⟩ | ⟨k0, -, -⟩
      · have := stexts_438 k1; rw [k2, size_list] at this; omega
      · rw [e] at k0; cases k0)
    clear hp he hm hv
    go_enter Tryd.func7, Tryd.ntmps7
    go_wp2_with fail
    refine bodyPost_ret (v := .tuple #[.slice none 0 0, .bool false]) (by simp [results, Tryd.results7, go_sem]) rfl ?_
    exact ⟨_, by rw [HF.out.1], .inl ⟨rfl, HF.out.2⟩, ExtC.ext⟩
  obtain ⟨W, hW, hWl, RW⟩ := split_call s 59 hs
  have hW1 : W.length ≤ 1001 := by omega
  have HWJ := Lib.hid hW
  -- what a told list says of the texts
  have HT := Lib.hid (fun M (hok : OkS M) (ht : stexts M = s.data.toList) => (by
    have hne : M ≠ [] := fun e => by have := hok.2.1; rw [e] at this; simp at this
    have := shares_split hne
    rw [ht, ← hW] at this
    refine ⟨by have := congrArg List.length this; simpa using this, fun j hj hj' => ?_⟩
    have h2 := congrArg (fun l => l[j]?) this
    simp only [List.getElem?_map, List.getElem?_eq_getElem hj, List.getElem?_eq_getElem hj', Option.map_some, Option.some.injEq] at h2
    exact h2 : W.length = M.length ∧ ∀ j (hj : j < W.length) (hj' : j < M.length), W[j].data.toList = stxt M[j]))
  have HWS := Lib.hid (fun j (hj : j < W.length) => (by
    have h2 : W[j].data.toList ∈ splitL 59 s.data.toList := by rw [← hW]; exact List.mem_map.2 ⟨W[j], List.getElem_mem hj, rfl⟩
    have := splitL_le 59 _ _ h2
    rw [size_list, size_list] at this
    omega : W[j].size ≤ 1000))
  have RS := fun y (hy : Ext w y) => RW y (hm.ext hy)
  have RN := fun (t : ByteArray) (ht : t.size ≤ 1048576) lo hi x bx (h : NumIs lo hi t x bx) (h0 : -9223372036854775808 ≤ lo) (h1 : hi ≤ 9223372036854775807) y (hy : Ext w y) => impl_readNumber t lo hi x bx h y ht h0 h1 (hp.ext hy) (he.ext hy)
  have HML := Lib.hid hm
  have RT := fun v C b' (hb' : sokB C = b') s' (hs' : stextX C = s') y (hy : Ext w y) (hv : RowsS shareKind y v C) (hsh : ShortRows C) (hsm : ∀ i (h : i < C.length), C[i].length ≤ 1048576) => impl_SharesText' v C y hv hsh hsm b' hb' s' hs' (hp.ext hy)
  clear hv hm hp he hW RW
  go_enter Tryd.func7, Tryd.ntmps7
  go_wp2_with (first | (go_at_call 24; (with_reducible refine (RS _ ExtC.ext).mono ?_); rintro e w' ⟨rfl, hws, hx⟩; obtain ⟨g1, rfl⟩ := hx.grow; clear hx RS; have HS := Lib.hid hws; clear hws))
  go_loopw [4, 26] (fun o i wr => ∃ (k og oc : Nat) (C : List SD), k ≤ W.length ∧ i = .int .i64 k ∧ o = .slice (some ⟨og, 0, none⟩) k oc ∧ Ext w wr ∧ Hid (C.length = k) ∧ Hid (∀ j (h : j < C.length) (h' : j < W.length), stxt C[j] = W[j].data.toList ∧ C[j].length ≤ 1001) ∧ Hid (OwnR shareKind 40 w.heap.size wr.heap.size wr (.slice (some ⟨og, 0, none⟩) k oc) C) ∧ Hid (WS wr (w.heap.size + 1) W) ∧ Hid (og ≠ w.heap.size + 1)) (fun _ i _ => W.length - (intOf i).toNat)
  case atStart =>
    have z := (ExtC.ext : Ext (w.alloc (.cells #[] 40)) g1.fin).size
    simp only [World.size_alloc] at z
    refine ⟨0, w.heap.size, 0, [], Nat.zero_le _, rfl, rfl, ExtC.ext, Lib.hid rfl, Lib.hid (fun j h => by simp at h), Lib.hid ?_, Lib.hid (by have := HS.out; simp only [World.size_alloc] at this; exact this), Lib.hid (by omega)⟩
    have h := World.ownsRow_made (e := 40) (size := 1) (base := w.heap.size) w #[] 0 (Nat.le_refl _) (by unfold maxLen; omega) (by rfl)
    have := OwnR.made (K := shareKind) h
    exact ((by simpa using this : OwnR shareKind 40 w.heap.size (w.heap.size + 1) (w.alloc (.cells #[] 40)) (.slice (some ⟨w.heap.size, 0, none⟩) 0 0) []).ext ExtC.ext).mono (Nat.le_refl _) z
  case round =>
    clear HS
    obtain ⟨k, og, oc, C, hk, rfl, rfl, hx, HCk, HCC, HO, HWS2, HD⟩ := hrel
    obtain ⟨g0, rfl⟩ := hx.grow; clear hx
    by_cases hlt : k < W.length
    · obtain ⟨isb, hcells⟩ := HWS2.out
      have d := hcells k hlt
      have hws := HWS.out k hlt
      obtain ⟨t, hs⟩ : ∃ t, W[k] = t := ⟨_, rfl⟩
      rw [hs] at d hws
      have HWK := Lib.hid hs
      clear hs hcells
      have HTK := Lib.hid (fun M (hok : OkS M) (ht : stexts M = s.data.toList) => (by
        obtain ⟨e1, e2⟩ := HT.out M hok ht
        have hky : k < M.length := by omega
        have e3 := e2 k hlt hky
        rw [HWK.out] at e3
        exact ⟨M[k], e3, fun j hj => hok.told hky hj⟩ : ∃ xs : SD, t.data.toList = stxt xs ∧ ∀ j (hj : j < xs.length), 0 ≤ xs[j].1 ∧ xs[j].1 ≤ 6 ∧ 1 ≤ xs[j].2 ∧ xs[j].2 ≤ 12))
      obtain ⟨U, hU, hUl, RU⟩ := split_call t 44 (by omega)
      have RSU := fun y (hy : Ext w y) => RU y (HML.out.ext hy)
      by_cases ht0 : t.size = 0
      · have htl : t.data.toList = [] := List.length_eq_zero_iff.1 (by rw [size_list]; exact ht0)
        obtain rfl : t = ⟨#[]⟩ := bytes_eq htl
        obtain ⟨u, rfl⟩ : ∃ u, U = [u] := by
          have hl := congrArg List.length hU
          rw [List.length_map] at hl
          have hl2 : U.length = 1 := hl
          match U, hl2 with
          | [u], _ => exact ⟨u, rfl⟩
        have HD2 := Lib.hid (show OwnP g0.fin.heap.size (g0.fin.heap.size + 1) (g0.fin.alloc (.cells #[] 44)) (.slice (some ⟨g0.fin.heap.size, 0, none⟩) 0 0) [] from
          .inr ⟨_, _, [], rfl, Nat.le_refl _, by omega, World.ownsRow_made g0.fin _ 0 (Nat.le_refl _) (by unfold maxLen; omega) (by rfl), fun i h => absurd h (by simp)⟩)
        clear HTK RT ht0 htl RN
        go_wp2_with (first | (go_at_call 24; (with_reducible refine (RSU _ ExtC.ext).mono ?_); rintro e w' ⟨rfl, hus, hx⟩; obtain ⟨g2, rfl⟩ := hx.grow; clear hx RSU; have HU := Lib.hid hus; clear hus))
        have hu0 := HU.out.2 0 (by simp)
        have iu0 := HU.out.1
        simp only [List.getElem_cons_zero, World.size_alloc] at hu0 iu0
        refine wp_loop_rounds 1 ?_; rw [rounds_succ]
        go_wp2_with (first | (at_builtin; refine app_rowS2 (w0 := w) (lo := w.heap.size) (mid := g0.fin.heap.size) (hi := g2.fin.heap.size) _ _ og oc k C ⟨g2.fin.heap.size, 0, none⟩ 1 (.slice (some ⟨g0.fin.heap.size, 0, none⟩) 0 0) [] rfl rfl HCk.out rfl (HO.out.ext ExtC.ext) rfl (by rw [add_plain', World.cell?_alloc_at _ _ _ _ rfl]; rfl) rfl ((HD2.out.ext (ExtC.ext : Ext _ g2.fin)).mono (Nat.le_refl _) (by have := (ExtC.ext : Ext (g0.fin.alloc (.cells #[] 44)) g2.fin).size; simpa using this) |>.ext ExtC.ext) (ExtC.ext : Ext w g0.fin).size (by simp) (by have := (ExtC.ext : Ext g0.fin g2.fin).size; simp only [World.size_alloc]; omega) (by have := HCk.out; omega) ExtC.ext (Nat.le_refl _) ?_; intro g' c' w1 ho hr hg' hx; obtain ⟨g9, rfl⟩ := hx.grow; clear hx; have HO2 := Lib.hid (And.intro ho (And.intro hr hg')); clear ho hr hg'))
        go_roundw
        case rel =>
          obtain ⟨ho, hr, hg'⟩ := HO2.out
          have z0 := HWS2.out.1.lt
          have zg := (ExtC.ext : Ext g0.fin g2.fin).size
          have hlen : (C ++ [[]]).length = k + 1 := by rw [List.length_append, HCk.out]; rfl
          simp only [World.size_alloc] at hg'
          refine ⟨k + 1, g', c', C ++ [[]], by omega, by go_num, rfl, ExtC.ext, Lib.hid hlen, Lib.hid (fun j h h' => ?_), Lib.hid ho, Lib.hid ((HWS2.out.ext ExtC.ext).rng hr (by have := HD.out; omega)), Lib.hid (by have := HD.out; omega)⟩
          by_cases hj : j < C.length
          · rw [List.getElem_append_left hj]; exact HCC.out j hj h'
          · have hjk : j = k := by rw [hlen] at h; have := HCk.out; omega
            have hjc : j = C.length := by have := HCk.out; omega
            have e1 : (C ++ [[]])[j]'h = [] := by
              rw [List.getElem_append_right (by omega)]
              simp [hjc]
            rw [e1]
            have e2 : W[j] = W[k] := by congr 1
            rw [e2, HWK.out]; exact ⟨rfl, by simp⟩
        case measure => simp [intOf]; omega
      · have htl : t.data.toList ≠ [] := fun e => ht0 (by rw [← size_list, e]; rfl)
        have d1 : ¬ t.toList = [] := by rw [ByteArray.toList_eq]; exact htl
        have d2 : (t.toList == []) = false := by simpa using d1
        have d3 : t.toList.isEmpty = false := by simpa using d1
        have HUJ := Lib.hid hU
        have HUS := Lib.hid (fun j (hj : j < U.length) => (by
          have h2 : U[j].data.toList ∈ splitL 44 t.data.toList := by rw [← hU]; exact List.mem_map.2 ⟨U[j], List.getElem_mem hj, rfl⟩
          have := splitL_le 44 _ _ h2
          rw [size_list, size_list] at this
          omega : U[j].size ≤ 1000))
        have HTU := Lib.hid (fun M (hok : OkS M) (ht : stexts M = s.data.toList) z (hz : z < U.length) => (by
          obtain ⟨xs, e1, e2⟩ := HTK.out M hok ht
          have hne : xs ≠ [] := fun e => htl (by rw [e1, e]; rfl)
          have h2 := congrArg (fun l => l[z]?) (hU.trans (by rw [e1, stxt_split hne]))
          have hzx : z < xs.length := by
            have := congrArg List.length (hU.trans (by rw [e1, stxt_split hne]))
            simp at this; omega
          simp only [List.getElem?_map, List.getElem?_eq_getElem hz, List.getElem?_eq_getElem hzx, Option.map_some, Option.some.injEq] at h2
          exact ⟨xs[z], h2, e2 z hzx⟩ : ∃ q : Int × Int, U[z].data.toList = ptxt q ∧ 0 ≤ q.1 ∧ q.1 ≤ 6 ∧ 1 ≤ q.2 ∧ q.2 ≤ 12))
        have hUl1 : U.length ≤ 1001 := by omega
        clear HTK RT ht0 htl hU
        go_wp2_with (first | (go_at_call 24; (with_reducible refine (RSU _ ExtC.ext).mono ?_); rintro e w' ⟨rfl, hus, hx⟩; obtain ⟨g2, rfl⟩ := hx.grow; clear hx RSU; have HU := Lib.hid hus; clear hus))
        go_loopw [7, 34] (fun o i wr => ∃ (z tg tc : Nat) (D : SD), z ≤ U.length ∧ i = .int .i64 z ∧ o = .slice (some ⟨tg, 0, none⟩) z tc ∧ Ext g0.fin wr ∧ Hid (D.length = z) ∧ Hid (∀ j (h : j < D.length) (h' : j < U.length), ptxt D[j] = U[j].data.toList) ∧ Hid (OwnP g0.fin.heap.size wr.heap.size wr (.slice (some ⟨tg, 0, none⟩) z tc) D) ∧ Hid (WS wr (g0.fin.heap.size + 1) U) ∧ Hid (tg ≠ g0.fin.heap.size + 1)) (fun _ i _ => U.length - (intOf i).toNat)
        case atStart =>
          have z := (ExtC.ext : Ext (g0.fin.alloc (.cells #[] 44)) g2.fin).size
          simp only [World.size_alloc] at z
          have h0 : OwnP g0.fin.heap.size (g0.fin.heap.size + 1) (g0.fin.alloc (.cells #[] 44)) (.slice (some ⟨g0.fin.heap.size, 0, none⟩) 0 0) [] :=
            .inr ⟨_, _, [], rfl, Nat.le_refl _, by omega, World.ownsRow_made g0.fin _ 0 (Nat.le_refl _) (by unfold maxLen; omega) (by rfl), fun i h => absurd h (by simp)⟩
          exact ⟨0, g0.fin.heap.size, 0, [], Nat.zero_le _, rfl, rfl, ExtC.ext, Lib.hid rfl, Lib.hid (fun j h => by simp at h), Lib.hid ((h0.ext ExtC.ext).mono (Nat.le_refl _) z), Lib.hid (by have := HU.out; simp only [World.size_alloc] at this; exact this), Lib.hid (by omega)⟩
        case round =>
          clear HU
          obtain ⟨z, tg, tc, D, hz, rfl, rfl, hx, HDz, HDD, HO3, HUS2, HTG⟩ := hrel
          obtain ⟨g3, rfl⟩ := hx.grow; clear hx
          by_cases hzl : z < U.length
          · obtain ⟨isu, hucells⟩ := HUS2.out
            have du := hucells z hzl
            have hus := HUS.out z hzl
            have HTUz := Lib.hid (fun M hok ht => HTU.out M hok ht z hzl)
            obtain ⟨u, hu⟩ : ∃ u, U[z] = u := ⟨_, rfl⟩
            rw [hu] at du hus HTUz
            have HUK := Lib.hid hu
            clear hu hucells
            obtain ⟨A, hA⟩ : ∃ A : ByteArray, ⟨(Lib.cut u.data.toList [58]).1.toArray⟩ = A := ⟨_, rfl⟩
            obtain ⟨B, hB⟩ : ∃ B : ByteArray, ⟨(Lib.cut u.data.toList [58]).2.1.toArray⟩ = B := ⟨_, rfl⟩
            obtain ⟨has, hh⟩ : ∃ has, (Lib.cut u.data.toList [58]).2.2 = has := ⟨_, rfl⟩
            obtain ⟨x, bx, hx⟩ := num_some 0 6 A
            obtain ⟨y, yb, hy⟩ := num_some 1 12 B
            have hAs : A.size ≤ 1048576 := by rw [← hA]; have := (cut_len u.data.toList 58).1; rw [size_list] at this; exact Nat.le_trans this (by omega)
            have hBs : B.size ≤ 1048576 := by rw [← hB]; have := (cut_len u.data.toList 58).2; rw [size_list] at this; exact Nat.le_trans this (by omega)
            have R0 := fun y (hy : Ext w y) => cut_call u 58 y (by omega) (HML.out.ext hy) A B has hA hB hh
            have R1 := RN A hAs 0 6 x bx hx (by omega) (by omega)
            have R2 := RN B hBs 1 12 y yb hy (by omega) (by omega)
            have HXY := Lib.hid (And.intro (hA ▸ hx) (hB ▸ hy))
            clear hx hy hA hB hh hAs hBs
            have HBT := Lib.hid (fun (P : ¬ (bx = true ∧ yb = true)) => HRET.out fun e => (by
              rcases HV.out with ⟨-, k1, k2⟩ | ⟨k0, -, -⟩
              · obtain ⟨q, e1, e2, e3, e4, e5⟩ := HTUz.out L k1 k2
                exact P (word_told e1 e2 e3 e4 e5 HXY.out.1 HXY.out.2)
              · rw [e] at k0; cases k0))
            clear RN
            cases bx
            · have HF := Lib.hid (HBT.out (fun h => by cases h.1))
              go_wp2_with (first | (go_at_call 25; (with_reducible refine (R0 _ ExtC.ext).mono ?_); rintro e w' ⟨rfl, hx⟩; obtain ⟨g, rfl⟩ := hx.grow; clear hx) | (go_at_call 26; (with_reducible refine Calls.mono (by first | exact R1 _ ExtC.ext | exact R2 _ ExtC.ext) ?_); rintro e w' ⟨rfl, hx⟩; obtain ⟨g, rfl⟩ := hx.grow; clear hx))
              refine bodyPost_ret (v := .tuple #[.slice none 0 0, .bool false]) (by simp [results, Tryd.results7, go_sem]) rfl ?_
              exact ⟨_, by rw [HF.out.1], .inl ⟨rfl, HF.out.2⟩, ExtC.ext⟩
            cases yb
            · have HF := Lib.hid (HBT.out (fun h => by cases h.2))
              go_wp2_with (first | (go_at_call 25; (with_reducible refine (R0 _ ExtC.ext).mono ?_); rintro e w' ⟨rfl, hx⟩; obtain ⟨g, rfl⟩ := hx.grow; clear hx) | (go_at_call 26; (with_reducible refine Calls.mono (by first | exact R1 _ ExtC.ext | exact R2 _ ExtC.ext) ?_); rintro e w' ⟨rfl, hx⟩; obtain ⟨g, rfl⟩ := hx.grow; clear hx))
              refine bodyPost_ret (v := .tuple #[.slice none 0 0, .bool false]) (by simp [results, Tryd.results7, go_sem]) rfl ?_
              exact ⟨_, by rw [HF.out.1], .inl ⟨rfl, HF.out.2⟩, ExtC.ext⟩
            have HWP := Lib.hid (word_pair HXY.out.1 HXY.out.2)
            go_wp2_with (first | (go_at_call 25; (with_reducible refine (R0 _ ExtC.ext).mono ?_); rintro e w' ⟨rfl, hx⟩; obtain ⟨g, rfl⟩ := hx.grow; clear hx) | (go_at_call 26; (with_reducible refine Calls.mono (by first | exact R1 _ ExtC.ext | exact R2 _ ExtC.ext) ?_); rintro e w' ⟨rfl, hx⟩; obtain ⟨g, rfl⟩ := hx.grow; clear hx) | (at_builtin; refine app_pair2 (w0 := g0.fin) (lo := g0.fin.heap.size) (hi := g3.fin.heap.size) _ _ tg tc z D ⟨g.fin.heap.size, 0, none⟩ 1 x y rfl rfl HDz.out rfl (HO3.out.ext ExtC.ext) rfl (cell_two0' _ _ _ _) (cell_two1' _ _ _ _) (by have := HDz.out; omega) ExtC.ext (Nat.le_refl _) ?_; intro tg' tc' w1 ho hr hg' hx; obtain ⟨g5, rfl⟩ := hx.grow; clear hx; have HO4 := Lib.hid (And.intro ho (And.intro hr hg')); clear ho hr hg'))
            go_roundw
            case rel =>
              obtain ⟨ho, hr, hg'⟩ := HO4.out
              have z0 := HUS2.out.1.lt
              have zg := (ExtC.ext : Ext g3.fin g.fin).size
              have hlen : (D ++ [(x, y)]).length = z + 1 := by rw [List.length_append, HDz.out]; rfl
              simp only [World.size_alloc] at hg'
              refine ⟨z + 1, tg', tc', D ++ [(x, y)], by omega, by go_num, rfl, ExtC.ext, Lib.hid hlen, Lib.hid (fun j h h' => ?_), Lib.hid ho, Lib.hid ((HUS2.out.ext ExtC.ext).rng hr (by have := HTG.out; omega)), Lib.hid (by have := HTG.out; omega)⟩
              by_cases hj : j < D.length
              · rw [List.getElem_append_left hj]; exact HDD.out j hj h'
              · have hjk : j = z := by rw [hlen] at h; have := HDz.out; omega
                have hjc : j = D.length := by have := HDz.out; omega
                have e1 : (D ++ [(x, y)])[j]'h = (x, y) := by
                  rw [List.getElem_append_right (by omega)]
                  simp [hjc]
                rw [e1]
                have e2 : U[j] = U[z] := by congr 1
                rw [e2, HUK.out]; exact HWP.out.1
            case measure => simp [intOf]; omega
          · have HSD := Lib.hid (show stxt D = t.data.toList by
              have hmap : D.map ptxt = U.map (·.data.toList) := by
                refine List.ext_getElem (by simp; have := HDz.out; omega) fun j h1 h2 => ?_
                rw [List.getElem_map, List.getElem_map]
                exact HDD.out j (by simpa using h1) (by simpa using h2)
              unfold stxt
              rw [hmap, HUJ.out, join_splitL])
            have HDL := Lib.hid (show D.length ≤ 1001 by have := HDz.out; omega)
            have HD2 := HO3
            clear RN
            go_wp2_with (first | (at_builtin; refine app_rowS2 (w0 := w) (lo := w.heap.size) (mid := g0.fin.heap.size) (hi := g3.fin.heap.size) _ _ og oc k C ⟨g3.fin.heap.size, 0, none⟩ 1 (.slice (some ⟨tg, 0, none⟩) z tc) D rfl rfl HCk.out rfl (HO.out.ext ExtC.ext) rfl (by rw [add_plain', World.cell?_alloc_at _ _ _ _ rfl]; rfl) rfl (HD2.out.ext ExtC.ext) (ExtC.ext : Ext w g0.fin).size (by simp) (by have := (ExtC.ext : Ext g0.fin g3.fin).size; simp only [World.size_alloc]; omega) (by have := HCk.out; omega) ExtC.ext (Nat.le_refl _) ?_; intro g' c' w1 ho hr hg' hx; obtain ⟨g9, rfl⟩ := hx.grow; clear hx; have HO2 := Lib.hid (And.intro ho (And.intro hr hg')); clear ho hr hg'))
            go_roundw
            case rel =>
              obtain ⟨ho, hr, hg'⟩ := HO2.out
              have z0 := HWS2.out.1.lt
              have zg := (ExtC.ext : Ext g0.fin g3.fin).size
              have hlen : (C ++ [D]).length = k + 1 := by rw [List.length_append, HCk.out]; rfl
              simp only [World.size_alloc] at hg'
              refine ⟨k + 1, g', c', C ++ [D], by omega, by go_num, rfl, ExtC.ext, Lib.hid hlen, Lib.hid (fun j h h' => ?_), Lib.hid ho, Lib.hid ((HWS2.out.ext ExtC.ext).rng hr (by have := HD.out; omega)), Lib.hid (by have := HD.out; omega)⟩
              by_cases hj : j < C.length
              · rw [List.getElem_append_left hj]; exact HCC.out j hj h'
              · have hjk : j = k := by rw [hlen] at h; have := HCk.out; omega
                have hjc : j = C.length := by have := HCk.out; omega
                have e1 : (C ++ [D])[j]'h = D := by
                  rw [List.getElem_append_right (by omega)]
                  simp [hjc]
                rw [e1]
                have e2 : W[j] = W[k] := by congr 1
                rw [e2, HWK.out]; exact ⟨HSD.out, HDL.out⟩
            case measure => simp [intOf]; omega
    · have HCW := Lib.hid (show stexts C = s.data.toList by
        have hmap : C.map stxt = W.map (·.data.toList) := by
          refine List.ext_getElem (by simp; have := HCk.out; omega) fun j h1 h2 => ?_
          rw [List.getElem_map, List.getElem_map]
          exact (HCC.out j (by simpa using h1) (by simpa using h2)).1
        unfold stexts
        rw [hmap, HWJ.out, join_splitL])
      have HCN := Lib.hid (show C ≠ [] by
        intro e
        have h1 := HCk.out
        rw [e] at h1
        have h2 := congrArg List.length HWJ.out
        rw [List.length_map] at h2
        have h3 : 0 < (splitL 59 s.data.toList).length := List.length_pos_iff.2 (splitL_ne 59 _)
        simp at h1; omega)
      have hsh : ShortRows C := ⟨by have := HCk.out; omega, fun i hi => by
        have hiW : i < W.length := by have := HCk.out; omega
        have := (HCC.out i hi hiW).2; omega⟩
      have hsm : ∀ i (h : i < C.length), C[i].length ≤ 1048576 := fun i hi => by
        have hiW : i < W.length := by have := HCk.out; omega
        have := (HCC.out i hi hiW).2; omega
      have hvs := HO.out.s (by simp)
      have HUQ := Lib.hid (fun (h : b = true) => (show L = C ∧ OkS L by
        rcases HV.out with ⟨k0, k1, k2⟩ | ⟨k0, -, -⟩
        · exact ⟨stexts_inj (fun e => by have := k1.2.1; rw [e] at this; simp at this) HCN.out (k2.trans HCW.out.symm), k1⟩
        · rw [h] at k0; cases k0))
      cases hb' : sokB C
      · have HF := Lib.hid (HRET.out fun e => by
          obtain ⟨e1, e2⟩ := HUQ.out e
          subst e1
          have := (sokB_iff hb').2 e2; cases this)
        have R := fun y (hy : Ext g0.fin y) => RT _ C false hb' _ rfl y ((ExtC.ext : Ext w g0.fin).trans hy) (hvs.ext hy) hsh hsm
        obtain ⟨s', hs'⟩ : ∃ s', stextX C = s' := ⟨_, rfl⟩
        rw [hs'] at R
        clear hsh hsm hvs hb' hs' RT RN
        go_wp2_with (first | (go_at_call 27; (with_reducible refine (R _ ExtC.ext).mono ?_); rintro e w' ⟨rfl, hx⟩; obtain ⟨g, rfl⟩ := hx.grow; clear hx))
        refine bodyPost_ret (v := .tuple #[.slice none 0 0, .bool false]) (by simp [results, Tryd.results7, go_sem]) rfl ?_
        exact ⟨_, by rw [HF.out.1], .inl ⟨rfl, HF.out.2⟩, ExtC.ext⟩
      · have hok := (sokB_iff hb').1 rfl
        have HF := Lib.hid (show b = true ∧ L = C by
          rcases HV.out with ⟨k0, k1, k2⟩ | ⟨-, -, k3⟩
          · exact ⟨k0, (HUQ.out k0).1⟩
          · exact absurd HCW.out (k3 C hok))
        have R := fun y (hy : Ext g0.fin y) => RT _ C true hb' s (by unfold stextX; rw [if_pos hok]; exact (bytes_eq HCW.out.symm).symm) y ((ExtC.ext : Ext w g0.fin).trans hy) (hvs.ext hy) hsh hsm
        clear hsh hsm hvs hb' hok RT RN
        go_wp2_with (first | (go_at_call 27; (with_reducible refine (R _ ExtC.ext).mono ?_); rintro e w' ⟨rfl, hx⟩; obtain ⟨g, rfl⟩ := hx.grow; clear hx))
        refine bodyPost_ret (v := .tuple #[.slice (some ⟨og, 0, none⟩) k oc, .bool true]) (by simp [results, Tryd.results7, go_sem]) rfl ?_
        obtain ⟨h5, h6⟩ := HF.out
        exact ⟨_, by rw [h5], by rw [h6]; exact (HO.out.ext ExtC.ext).mono (Nat.le_refl _) (ExtC.ext : Ext g0.fin _).size, ExtC.ext⟩
end Go.Proofs.YthcomgnokkndgaaDoor
