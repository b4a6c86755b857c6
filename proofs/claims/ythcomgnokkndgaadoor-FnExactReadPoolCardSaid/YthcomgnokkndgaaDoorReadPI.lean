/- A pool read from its text: the program's side. -/
import Derived.Test.YthcomgnokkndgaaDoorReadPP
namespace Go.Proofs.YthcomgnokkndgaaDoor
open Go.RowKit

/-- A box with a pool in it, that may be written. -/
structure BxF (b : Nat) (pe sz : Int) (qv : Value) (x : World) : Prop where
  inw : InW b x
  c0 : x.cell? ⟨b, 0, none⟩ = some (.int .i64 pe)
  c1 : x.cell? ⟨b, 1, none⟩ = some (.int .i64 sz)
  c2 : x.cell? ⟨b, 2, none⟩ = some qv
  f0 : x.frozen? ⟨b, 0, none⟩ = false
  f1 : x.frozen? ⟨b, 1, none⟩ = false
  f2 : x.frozen? ⟨b, 2, none⟩ = false
theorem rng_frozen {lo hi : Nat} {a b : World} (h : Rng lo hi a b) {g o : Nat} (hg : g < a.heap.size) (hr : g < lo ∨ hi ≤ g) : b.frozen? ⟨g, o, none⟩ = a.frozen? ⟨g, o, none⟩ := World.frozen?_of_block (a := ⟨g, o, none⟩) (h.block g hg hr)
theorem BxF.ext {b : Nat} {pe sz : Int} {qv : Value} {x y : World} (h : BxF b pe sz qv x) (hx : Ext x y) : BxF b pe sz qv y :=
  ⟨⟨Nat.lt_of_lt_of_le h.inw.lt hx.size⟩, by rw [Below.cell hx h.inw.lt]; exact h.c0, by rw [Below.cell hx h.inw.lt]; exact h.c1, by rw [Below.cell hx h.inw.lt]; exact h.c2, by rw [Below.frozen hx h.inw.lt]; exact h.f0, by rw [Below.frozen hx h.inw.lt]; exact h.f1, by rw [Below.frozen hx h.inw.lt]; exact h.f2⟩
theorem BxF.store {b : Nat} {pe sz : Int} {qv : Value} {x : World} (h : BxF b pe sz qv x) (v : Value) : BxF b pe sz v (x.setCell ⟨b, 2, none⟩ v) :=
  ⟨⟨by rw [World.size_setCell]; exact h.inw.lt⟩, by rw [World.cell?_setCell_other _ _ _ _ (by simp)]; exact h.c0, by rw [World.cell?_setCell_other _ _ _ _ (by simp)]; exact h.c1, World.cell?_setCell_same _ _ _ h.c2, by rw [World.frozen?_setCell]; exact h.f0, by rw [World.frozen?_setCell]; exact h.f1, by rw [World.frozen?_setCell]; exact h.f2⟩
theorem BxF.rng {b lo hi : Nat} {pe sz : Int} {qv : Value} {x y : World} (h : BxF b pe sz qv x) (hr : Rng lo hi x y) (hd : b < lo ∨ hi ≤ b) : BxF b pe sz qv y :=
  ⟨⟨Nat.lt_of_lt_of_le h.inw.lt hr.size⟩, rng_cell hr h.c0 h.inw.lt hd, rng_cell hr h.c1 h.inw.lt hd, rng_cell hr h.c2 h.inw.lt hd, by rw [rng_frozen hr h.inw.lt hd]; exact h.f0, by rw [rng_frozen hr h.inw.lt hd]; exact h.f1, by rw [rng_frozen hr h.inw.lt hd]; exact h.f2⟩
theorem BxF.far {b p o : Nat} {pe sz : Int} {qv : Value} {x : World} (h : BxF b pe sz qv x) (hd : b ≠ p) (v : Value) : BxF b pe sz qv (x.setCell ⟨p, o, none⟩ v) :=
  h.rng (lo := p) (hi := p + 1) ((Rng.refl p (p + 1) x).setCell (p := ⟨p, o, none⟩) (Nat.le_refl p) (Nat.lt_succ_self p) v) (by omega)
theorem Rng.bxf {b lo hi : Nat} {pe sz : Int} {qv : Value} {x y : World} (hr : Rng lo hi x y) (h : BxF b pe sz qv x) (hd : b < lo ∨ hi ≤ b) : BxF b pe sz qv y := h.rng hr hd
theorem Rng.ws {sb lo hi : Nat} {W : List ByteArray} {x y : World} (hr : Rng lo hi x y) (h : WS x sb W) (hd : sb < lo ∨ hi ≤ sb) : WS y sb W := h.rng hr hd
theorem WS.far {sb p o : Nat} {W : List ByteArray} {x : World} (h : WS x sb W) (hd : sb ≠ p) (v : Value) : WS (x.setCell ⟨p, o, none⟩ v) sb W :=
  h.rng (lo := p) (hi := p + 1) ((Rng.refl p (p + 1) x).setCell (p := ⟨p, o, none⟩) (Nat.le_refl p) (Nat.lt_succ_self p) v) (by omega)
theorem cell_three0 (x : World) (u v z : Value) (T : TypeId) : (x.alloc (.cells #[u, v, z] T)).cell? ((⟨x.heap.size, 0, none⟩ : Addr).add 0) = some u := by
  rw [add_plain', World.cell?_alloc_at _ _ _ _ rfl]; rfl
theorem cell_three1 (x : World) (u v z : Value) (T : TypeId) : (x.alloc (.cells #[u, v, z] T)).cell? ((⟨x.heap.size, 0, none⟩ : Addr).add 1) = some v := by
  rw [add_plain', World.cell?_alloc_at _ _ _ _ rfl]; rfl
theorem cell_three2 (x : World) (u v z : Value) (T : TypeId) : (x.alloc (.cells #[u, v, z] T)).cell? ((⟨x.heap.size, 0, none⟩ : Addr).add 2) = some z := by
  rw [add_plain', World.cell?_alloc_at _ _ _ _ rfl]; rfl
theorem OwnQt.setBox {lo hi : Nat} {w : World} {v : Value} {L : List QD} (h : OwnQt lo hi w v L) {p : Addr} (hp : p.block < lo) (u : Value) : OwnQt lo hi (w.setCell p u) v L :=
  h.rng (lo' := p.block) (hi' := p.block + 1) ((Rng.refl _ _ w).setCell (p := p) (Nat.le_refl _) (Nat.lt_succ_self _) u) (.inr (by omega))
theorem take_last {α : Type} {M C : List α} {k : Nat} {q : α} (h : C = M.take k) (hk : k < M.length) (e : q = M[k]) : C ++ [q] = M.take (k + 1) := by
  rw [List.take_succ_eq_append_getElem hk, h, e]

set_option maxHeartbeats 16000000 in
set_option maxRecDepth 100000 in
theorem impl_ReadPool' (s : ByteArray) (w : World) (hs : s.size ≤ 1048576) (pe sz : Int) (L : List QD) (b : Bool) (hv : PoolIs s pe sz L b) (hp : Pow w) (he : Errs w) (hm : ML w) :
    Calls Tryd.prog 12 #[.string s] w fun e w' => ∃ qv, e = .returned (.tuple #[.agg #[.int .i64 pe, .int .i64 sz, qv], .bool b]) ∧ OwnQt w.heap.size w'.heap.size w' qv L ∧ Ext w w' := by
  have HRET := Lib.hid (fun (P : b = true → False) => (by
    rcases hv with ⟨k0, -, -⟩ | ⟨k0, k1, -⟩
    · exact absurd k0 P
    · exact ⟨k0, k1⟩ : b = false ∧ pe = 0 ∧ sz = 0 ∧ L = []))
  have HV := Lib.hid hv
  by_cases h1000 : 1000 < s.size
  · have HF := Lib.hid (HRET.out fun e => by
      rcases HV.out with ⟨-, k1, k2⟩ | ⟨k0, -, -⟩
      · have := ptexts_short k1; rw [k2, size_list] at this; omega
      · rw [e] at k0; cases k0)
    clear hp he hm hv
    go_enter Tryd.func12, Tryd.ntmps12
    go_wp2_with fail
    refine bodyPost_ret (v := .tuple #[.agg #[.int .i64 0, .int .i64 0, .slice none 0 0], .bool false]) (by simp [results, Tryd.results12, go_sem]) rfl ?_
    obtain ⟨e0, e1, e2, e3⟩ := HF.out
    exact ⟨_, by rw [e0, e1, e2], .inl ⟨rfl, e3⟩, ExtC.ext⟩
  obtain ⟨W, hW, hWl, RW⟩ := split_call s 59 hs
  have hW0 : 0 < W.length := by
    have := congrArg List.length hW
    rw [List.length_map] at this
    have h2 := List.length_pos_iff.2 (splitL_ne 59 s.data.toList)
    omega
  have HT := Lib.hid (fun p z M (hok : OkP p z M) (ht : ptexts p z M = s.data.toList) => (by
    have h0 := ptexts_split p z M
    rw [ht, ← hW] at h0
    refine ⟨by have := congrArg List.length h0; simpa using this, ?_, fun j hj hj' => ?_⟩
    · have h2 := congrArg (fun l => l[0]?) h0
      simp only [List.getElem?_map, List.getElem?_eq_getElem hW0, Option.map_some, List.getElem?_cons_zero, Option.some.injEq] at h2
      exact h2
    · have h2 := congrArg (fun l => l[j + 1]?) h0
      simp only [List.getElem?_map, List.getElem?_eq_getElem hj', List.getElem?_eq_getElem hj, Option.map_some, List.getElem?_cons_succ, Option.some.injEq] at h2
      exact h2 : W.length = M.length + 1 ∧ W[0].data.toList = hd p z ∧ ∀ j (hj : j < M.length) (hj' : j + 1 < W.length), W[j + 1].data.toList = qt M[j]))
  have HWS := Lib.hid (fun j (hj : j < W.length) => (by
    have h2 : W[j].data.toList ∈ splitL 59 s.data.toList := by rw [← hW]; exact List.mem_map.2 ⟨W[j], List.getElem_mem hj, rfl⟩
    have := splitL_le 59 _ _ h2
    rw [size_list, size_list] at this
    omega : W[j].size ≤ 1000))
  have RS := fun y (hy : Ext w y) => RW y (hm.ext hy)
  obtain ⟨t0, ht0⟩ : ∃ t, W[0] = t := ⟨_, rfl⟩
  have HT0 := Lib.hid ht0
  have hts0 : t0.size ≤ 1000 := by rw [← ht0]; exact HWS.out 0 hW0
  obtain ⟨A, hA⟩ : ∃ A : ByteArray, ⟨(Lib.cut t0.data.toList [47]).1.toArray⟩ = A := ⟨_, rfl⟩
  obtain ⟨B, hB⟩ : ∃ B : ByteArray, ⟨(Lib.cut t0.data.toList [47]).2.1.toArray⟩ = B := ⟨_, rfl⟩
  obtain ⟨has, hhas⟩ : ∃ h, (Lib.cut t0.data.toList [47]).2.2 = h := ⟨_, rfl⟩
  have cl := cut_len2 t0.data.toList [47]
  rw [size_list] at cl
  have hAs : A.size ≤ 1000 := by rw [← hA, ← size_list]; simp only []; omega
  have hBs : B.size ≤ 1000 := by rw [← hB, ← size_list]; simp only []; omega
  obtain ⟨pe0, b1, n1⟩ := num_some 1 7 A
  obtain ⟨sz0, b2, n2⟩ := num_some 1 7 B
  have q1 := num_range n1 (by omega) (by omega)
  have q2 := num_range n2 (by omega) (by omega)
  have HPS := Lib.hid (fun p z M (hok : OkP p z M) (ht : ptexts p z M = s.data.toList) => (by
    have h0 := (HT.out p z M hok ht).2.1
    rw [HT0.out] at h0
    have h1 := hok.1
    have h2 := hok.2.1
    rw [h0, hd_cut] at hA hB
    exact ⟨num_is n1 (by omega) (by omega) (by rw [← hA]), num_is n2 (by omega) (by omega) (by rw [← hB])⟩ : pe0 = p ∧ sz0 = z))
  have RN := fun (t : ByteArray) (ht : t.size ≤ 1048576) lo hi x bx (h : NumIs lo hi t x bx) (h0 : -9223372036854775808 ≤ lo) (h1 : hi ≤ 9223372036854775807) y (hy : Ext w y) => impl_readNumber t lo hi x bx h y ht h0 h1 (hp.ext hy) (he.ext hy)
  have RM := fun (t : ByteArray) (ht : t.size ≤ 1048576) xs bx (h : NumsIs 0 7 t xs bx) y (hy : Ext w y) => impl_readDecimals t 0 7 xs bx h y ht (by omega) (by omega) (hp.ext hy) (he.ext hy) (hm.ext hy)
  have R1 := RN A (by omega) 1 7 pe0 b1 n1 (by omega) (by omega)
  have R2 := RN B (by omega) 1 7 sz0 b2 n2 (by omega) (by omega)
  have RC := fun y (hy : Ext w y) => cut_call t0 47 y (by omega) (hm.ext hy) A B has hA hB hhas
  have RD := fun (t : ByteArray) (c : UInt8) (ht : t.size ≤ 1048576) X Y h (hX : ⟨(Lib.cut t.data.toList [c]).1.toArray⟩ = X) (hY : ⟨(Lib.cut t.data.toList [c]).2.1.toArray⟩ = Y) (hh : (Lib.cut t.data.toList [c]).2.2 = h) y (hy : Ext w y) => cut_call t c y ht (hm.ext hy) X Y h hX hY hh
  have RE := fun (t : ByteArray) (ht : t.size ≤ 1048576) X Y h (hX : ⟨(Lib.cut t.data.toList [46, 46]).1.toArray⟩ = X) (hY : ⟨(Lib.cut t.data.toList [46, 46]).2.1.toArray⟩ = Y) (hh : (Lib.cut t.data.toList [46, 46]).2.2 = h) y (hy : Ext w y) => dots_call t y ht (hm.ext hy) X Y h hX hY hh
  have RT := fun qv C b' (hb' : okPB pe0 sz0 C = b') s' (hs' : ptextX pe0 sz0 C = s') y (hy : Ext w y) (hq : RQ y qv C) (hsh : ShortQ C) => impl_PoolText' pe0 sz0 qv C y hq hsh b' hb' s' hs' (hp.ext hy)
  clear hv hm hp he hW RW hA hB hhas n1 n2 cl ht0
  go_enter Tryd.func12, Tryd.ntmps12
  go_wp2_with (first | (go_at_call 24; (with_reducible refine (RS _ ExtC.ext).mono ?_); rintro e w' ⟨rfl, hws, hx⟩; obtain ⟨g1, rfl⟩ := hx.grow; clear hx RS; obtain ⟨isb, hcells⟩ := hws; have hc0 := hcells 0 hW0; rw [HT0.out] at hc0; have HS := Lib.hid hcells; clear hcells; simp only [World.size_alloc] at isb hc0 HS) | (go_at_call 25; (with_reducible refine (RC _ ExtC.ext).mono ?_); rintro e w' ⟨rfl, hx⟩; obtain ⟨g, rfl⟩ := hx.grow; clear hx) | (go_at_call 26; (with_reducible refine (R1 _ ExtC.ext).mono ?_); rintro e w' ⟨rfl, hx⟩; obtain ⟨g3, rfl⟩ := hx.grow; clear hx R1) | (go_at_call 26; (with_reducible refine (R2 _ ExtC.ext).mono ?_); rintro e w' ⟨rfl, hx⟩; obtain ⟨g4, rfl⟩ := hx.grow; clear hx))
  · rename_i hW1
    have HTL := Lib.hid (fun p z M (hok : OkP p z M) (ht : ptexts p z M = s.data.toList) => (by
      obtain ⟨e1, e2⟩ := HPS.out p z M hok ht
      have := (HT.out p z M hok ht).1
      exact ⟨e1, e2, List.length_eq_zero_iff.1 (by omega)⟩ : pe0 = p ∧ sz0 = z ∧ M = []))
    have HN := Lib.hid (show OwnQt (g.fin.heap.size + 1) g4.fin.heap.size (g4.fin.setCell ⟨g.fin.heap.size, 1, none⟩ (.int .i64 sz0)) (.slice none 0 0) [] from .inl ⟨rfl, rfl⟩)
    have hsh : ShortQ [] := ⟨by simp, fun i hi => by simp at hi⟩
    obtain ⟨b', hb'⟩ : ∃ x, okPB pe0 sz0 [] = x := ⟨_, rfl⟩
    obtain ⟨s', hs'⟩ : ∃ x, ptextX pe0 sz0 [] = x := ⟨_, rfl⟩
    have R := RT (.slice none 0 0) [] b' hb' s' hs'
    cases b'
    · have HF := Lib.hid (HRET.out fun e => by
        rcases HV.out with ⟨-, k1, k2⟩ | ⟨k0, -, -⟩
        · obtain ⟨e1, e2, e3⟩ := HTL.out pe sz L k1 k2
          subst e1 e2 e3
          have := (okPB_iff hb').2 k1
          cases this
        · rw [e] at k0; cases k0)
      clear hb' hs'
      refine wp_loop_rounds 1 ?_; rw [rounds_succ]
      go_wp2_with (first | (go_at_call 35; (with_reducible refine (R _ ExtC.ext (HN.out.ext ExtC.ext).rq hsh).mono ?_); rintro e w' ⟨rfl, hx⟩; obtain ⟨g8, rfl⟩ := hx.grow; clear hx))
      refine bodyPost_ret (v := .tuple #[.agg #[.int .i64 0, .int .i64 0, .slice none 0 0], .bool false]) (by simp [results, Tryd.results12, go_sem]) rfl ?_
      obtain ⟨e0, e1, e2, e3⟩ := HF.out
      exact ⟨_, by rw [e0, e1, e2], .inl ⟨rfl, e3⟩, ExtC.ext⟩
    · have hok := (okPB_iff hb').1 rfl
      have hse : s' = ⟨(ptexts pe0 sz0 []).toArray⟩ := by rw [← hs']; unfold ptextX; rw [if_pos hok]
      by_cases hss : s' = s
      · have HF := Lib.hid (show b = true ∧ pe0 = pe ∧ sz0 = sz ∧ L = [] by
          rcases HV.out with ⟨k0, k1, k2⟩ | ⟨-, -, k3⟩
          · obtain ⟨e1, e2, e3⟩ := HTL.out pe sz L k1 k2
            exact ⟨k0, e1, e2, e3⟩
          · exact absurd (by rw [← hss, hse]) (k3 pe0 sz0 [] hok))
        clear hb' hs' hok hse
        subst hss
        refine wp_loop_rounds 1 ?_; rw [rounds_succ]
        go_wp2_with (first | (go_at_call 35; (with_reducible refine (R _ ExtC.ext (HN.out.ext ExtC.ext).rq hsh).mono ?_); rintro e w' ⟨rfl, hx⟩; obtain ⟨g8, rfl⟩ := hx.grow; clear hx))
        refine bodyPost_ret (v := .tuple #[.agg #[.int .i64 pe0, .int .i64 sz0, (.slice none 0 0)], .bool true]) (by simp [results, Tryd.results12, go_sem]) rfl ?_
        obtain ⟨e0, e1, e2, e3⟩ := HF.out
        refine ⟨_, by rw [e0, e1, e2], ?_, ExtC.ext⟩
        rw [e3]
        have z1 := (ExtC.ext : Ext w g.fin).size
        have z2 := (ExtC.ext : Ext g.fin g8.fin).size
        have key : ∀ {x : World} {o : Nat} {u : Value}, OwnQt (g.fin.heap.size + 1) g8.fin.heap.size x (.slice none 0 0) [] → OwnQt (g.fin.heap.size + 1) g8.fin.heap.size (x.setCell ⟨w.heap.size, o, none⟩ u) (.slice none 0 0) [] := fun {x o u} h => h.setBox (by show w.heap.size < _; omega) u
        have fin : OwnQt (g.fin.heap.size + 1) g8.fin.heap.size g8.fin (.slice none 0 0) [] := (HN.out.ext ExtC.ext).mono (Nat.le_refl _) (by have := (ExtC.ext : Ext (g4.fin.setCell ⟨g.fin.heap.size, 1, none⟩ (.int .i64 sz0)) g8.fin).size; simpa only [World.size_setCell] using this)
        simp only [World.size_setCell]
        refine OwnQt.mono (lo := g.fin.heap.size + 1) (hi := g8.fin.heap.size) ?_ (by omega) (Nat.le_refl _)
        repeat (first | with_reducible exact fin | with_reducible refine key ?_)
      · have d1 := ne_list hss
        have d2 : (s'.toList == s.toList) = false := by simp [d1]
        have HF := Lib.hid (HRET.out fun e => by
          rcases HV.out with ⟨-, k1, k2⟩ | ⟨k0, -, -⟩
          · obtain ⟨e1, e2, e3⟩ := HTL.out pe sz L k1 k2
            subst e1 e2 e3
            exact hss (bytes_eq (by rw [hse, ← k2]))
          · rw [e] at k0; cases k0)
        clear hb' hs' hok hse hss
        refine wp_loop_rounds 1 ?_; rw [rounds_succ]
        go_wp2_with (first | (go_at_call 35; (with_reducible refine (R _ ExtC.ext (HN.out.ext ExtC.ext).rq hsh).mono ?_); rintro e w' ⟨rfl, hx⟩; obtain ⟨g8, rfl⟩ := hx.grow; clear hx))
        refine bodyPost_ret (v := .tuple #[.agg #[.int .i64 0, .int .i64 0, .slice none 0 0], .bool false]) (by simp [results, Tryd.results12, go_sem]) rfl ?_
        obtain ⟨e0, e1, e2, e3⟩ := HF.out
        exact ⟨_, by rw [e0, e1, e2], .inl ⟨rfl, e3⟩, ExtC.ext⟩
  · rename_i hW1
    have HSB := Lib.hid (show w.heap.size + 1 < g.fin.heap.size from Nat.lt_of_lt_of_le isb.lt (ExtC.ext : Ext g1.fin g.fin).size)
    go_loopw [50] (fun i wr => ∃ (k : Nat) (qp : Option Addr) (qc : Nat) (C : List QD), k + 1 ≤ W.length ∧ i = .int .i64 k ∧ Ext w wr ∧ BxF g.fin.heap.size pe0 sz0 (.slice qp k qc) wr ∧ BxF w.heap.size 0 0 (.slice none 0 0) wr ∧ Hid (C.length = k) ∧ Hid (OwnQt (g.fin.heap.size + 1) wr.heap.size wr (.slice qp k qc) C) ∧ Hid (WS wr (w.heap.size + 1) W) ∧ Hid (∀ p z M, OkP p z M → ptexts p z M = s.data.toList → C = M.take k) ∧ Hid (∀ q ∈ C, q.1.length ≤ 101)) (fun i _ => W.length - (intOf i).toNat)
    case atStart =>
      refine ⟨0, none, 0, [], by omega, rfl, ExtC.ext, ?_, ?_, Lib.hid rfl, Lib.hid (.inl ⟨rfl, rfl⟩), Lib.hid ?_, Lib.hid (fun p z M _ _ => rfl), Lib.hid (by simp)⟩
      · exact ⟨inferInstance, by simp [go_sem], by simp [go_sem], by simp [go_sem], by simp [go_sem], by simp [go_sem], by simp [go_sem]⟩
      · exact ⟨inferInstance, by simp [go_sem], by simp [go_sem], by simp [go_sem], by simp [go_sem], by simp [go_sem], by simp [go_sem]⟩
      · exact WS.ext ⟨isb, HS.out⟩ ExtC.ext
    case round =>
      obtain ⟨k, qp, qc, C, hk, rfl, hx, hB1, hB2, HCL, HO, HWS2, HTK, HFW⟩ := hrel
      obtain ⟨g0, rfl⟩ := hx.grow; clear hx
      have HB := Lib.hid (And.intro hB1 hB2)
      obtain ⟨ib, c0, c1, c2, f0, f1, f2⟩ := hB1
      obtain ⟨jb, x0, x1, x2, h0, h1, h2⟩ := hB2
      by_cases hlt : k + 1 < W.length
      · obtain ⟨isb, hcells⟩ := HWS2.out
        have dt := hcells (k + 1) hlt
        have hws := HWS.out (k + 1) hlt
        obtain ⟨t, ht⟩ : ∃ t, W[k + 1] = t := ⟨_, rfl⟩
        rw [ht] at dt hws
        rw [Nat.add_comm k 1] at dt
        obtain ⟨X, hX⟩ : ∃ A : ByteArray, ⟨(Lib.cut t.data.toList [61]).1.toArray⟩ = A := ⟨_, rfl⟩
        obtain ⟨Y, hY⟩ : ∃ A : ByteArray, ⟨(Lib.cut t.data.toList [61]).2.1.toArray⟩ = A := ⟨_, rfl⟩
        obtain ⟨hXY, hhXY⟩ : ∃ h, (Lib.cut t.data.toList [61]).2.2 = h := ⟨_, rfl⟩
        obtain ⟨U, hU⟩ : ∃ A : ByteArray, ⟨(Lib.cut Y.data.toList [46, 46]).1.toArray⟩ = A := ⟨_, rfl⟩
        obtain ⟨V, hV⟩ : ∃ A : ByteArray, ⟨(Lib.cut Y.data.toList [46, 46]).2.1.toArray⟩ = A := ⟨_, rfl⟩
        obtain ⟨hUV, hhUV⟩ : ∃ h, (Lib.cut Y.data.toList [46, 46]).2.2 = h := ⟨_, rfl⟩
        have cl := cut_len2 t.data.toList [61]
        rw [size_list] at cl
        have hXs : X.size ≤ 1000 := by rw [← hX, ← size_list]; simp only []; omega
        have hYs : Y.size ≤ 1000 := by rw [← hY, ← size_list]; simp only []; omega
        have cl2 := cut_len2 Y.data.toList [46, 46]
        rw [size_list] at cl2
        have hUs : U.size ≤ 1000 := by rw [← hU, ← size_list]; simp only []; omega
        have hVs : V.size ≤ 1000 := by rw [← hV, ← size_list]; simp only []; omega
        obtain ⟨ms, mb, nm⟩ := nums_some 0 7 X
        obtain ⟨lo, lb, nl⟩ := num_some 0 7 U
        obtain ⟨hi, hb, nh⟩ := num_some 0 7 V
        have qm := nums_few nm
        have ql := num_range nl (by omega) (by omega)
        have qh := num_range nh (by omega) (by omega)
        have HQ := Lib.hid (fun p z M (hok : OkP p z M) (hte : ptexts p z M = s.data.toList) => (by
          obtain ⟨e1, e2, e3⟩ := HT.out p z M hok hte
          have h4 := HTK.out p z M hok hte
          have hkM : k < M.length := by omega
          have h5 := e3 k hkM hlt
          rw [ht] at h5
          have hp1 := hok.1
          obtain ⟨m1, m2, m3, m4, m5, m6, m7⟩ := (hok.2.2.2 k hkM).mem (by omega)
          rw [h5, qt_cut] at hX hY
          have hYl : Y.data.toList = Lib.itoa M[k].2.1 ++ 46 :: 46 :: Lib.itoa M[k].2.2 := by rw [← hY]
          rw [hYl, cut_dots (itoa_no (by decide) (by decide) _)] at hU hV
          have a1 := nums_is nm (fun y hy => by have := m1 y hy; omega) (by omega) (by rw [← hX])
          have a2 := num_is nl m4 m5 (by rw [← hU])
          have a3 := num_is nh m6 m7 (by rw [← hV])
          exact take_last h4 hkM (by rw [a1, a2, a3]) : C ++ [(ms, lo, hi)] = M.take (k + 1)))
        have S1 := RD t 61 (by omega) X Y hXY hX hY hhXY
        have S2 := RE Y (by omega) U V hUV hU hV hhUV
        have S3 := RM X (by omega) ms mb nm
        have S4 := RN U (by omega) 0 7 lo lb nl (by omega) (by omega)
        have S5 := RN V (by omega) 0 7 hi hb nh (by omega) (by omega)
        clear RD RE RM RN RT hX hY hU hV hhXY hhUV nm nl nh cl cl2 ht hcells
        go_wp2_with (first | (go_at_call 25; (with_reducible refine (S1 _ ExtC.ext).mono ?_); rintro e w' ⟨rfl, hx⟩; obtain ⟨g3, rfl⟩ := hx.grow; clear hx) | (go_at_call 25; (with_reducible refine (S2 _ ExtC.ext).mono ?_); rintro e w' ⟨rfl, hx⟩; obtain ⟨g4, rfl⟩ := hx.grow; clear hx) | (go_at_call 34; (with_reducible refine (S3 _ ExtC.ext).mono ?_); rintro e w' ⟨mv, rfl, hmo, -, hx⟩; obtain ⟨mp, mc, rfl, -⟩ := hmo.ri.form; obtain ⟨g5, rfl⟩ := hx.grow; clear hx; have HM := Lib.hid hmo; clear hmo; simp only [World.size_alloc] at HM) | (go_at_call 26; (with_reducible refine (S4 _ ExtC.ext).mono ?_); rintro e w' ⟨rfl, hx⟩; obtain ⟨g6, rfl⟩ := hx.grow; clear hx S4) | (go_at_call 26; (with_reducible refine (S5 _ ExtC.ext).mono ?_); rintro e w' ⟨rfl, hx⟩; obtain ⟨g7, rfl⟩ := hx.grow; clear hx; have HSZ := Lib.hid (And.intro (ExtC.ext : Ext (g5.fin.setCell ⟨g4.fin.heap.size, 0, none⟩ (.slice mp ms.length mc)) g6.fin).size (And.intro (ExtC.ext : Ext (g6.fin.setCell ⟨g4.fin.heap.size, 1, none⟩ (.int .i64 lo)) g7.fin).size (ExtC.ext : Ext (g4.fin.alloc (.cells #[.slice none 0 0, .int .i64 0, .int .i64 0] 60)) g5.fin).size)); simp only [World.size_alloc, World.size_setCell] at HSZ) | (at_builtin; refine app_quota (w0 := w) (lo := g.fin.heap.size + 1) (mid0 := g0.fin.heap.size) (mid := g4.fin.heap.size + 1) (hi := g5.fin.heap.size) _ _ k (.slice qp k qc) C ⟨g7.fin.heap.size, 0, none⟩ 1 (.slice mp ms.length mc) ms lo hi rfl rfl HCL.out rfl (HO.out.ext ExtC.ext) rfl (by rw [add_plain', World.cell?_alloc_at _ _ _ _ (by simp)]; rfl) (by rw [add_plain', World.cell?_alloc_at _ _ _ _ (by simp)]; rfl) (by rw [add_plain', World.cell?_alloc_at _ _ _ _ (by simp)]; rfl) (OwnI.ext (OwnI.setCell (n := g4.fin.heap.size) (o := 2) (s := none) (u := .int .i64 hi) (OwnI.ext (OwnI.setCell (n := g4.fin.heap.size) (o := 1) (s := none) (u := .int .i64 lo) (OwnI.ext (OwnI.setCell (n := g4.fin.heap.size) (o := 0) (s := none) (u := .slice mp ms.length mc) HM.out (.inl (Nat.lt_succ_self _))) (ExtC.ext : Ext (g5.fin.setCell ⟨g4.fin.heap.size, 0, none⟩ (.slice mp ms.length mc)) g6.fin)) (.inl (Nat.lt_succ_self _))) (ExtC.ext : Ext (g6.fin.setCell ⟨g4.fin.heap.size, 1, none⟩ (.int .i64 lo)) g7.fin)) (.inl (Nat.lt_succ_self _))) ExtC.ext) (Nat.le_trans (ExtC.ext : Ext g0.fin g4.fin).size (Nat.le_succ _)) (Nat.succ_le_succ (Nat.le_trans (Nat.le_of_lt ib.lt) (ExtC.ext : Ext g0.fin g4.fin).size)) (by have h := HSZ.out; simp only [World.size_alloc, World.size_setCell]; omega) (by have h := HSZ.out; simp only [World.size_alloc, World.size_setCell]; omega) (by have := HCL.out; omega) ExtC.ext (Nat.le_trans (ExtC.ext : Ext w g.fin).size (Nat.le_succ _)) ?_; intro g' c' w1 ho hr hx; obtain ⟨g9, rfl⟩ := hx.grow; clear hx; have HO2 := Lib.hid ho; clear ho; have HB9 := Lib.hid (And.intro (Rng.bxf hr (HB.out.1.ext ExtC.ext) (.inl (Nat.lt_succ_self _))) (And.intro (Rng.bxf hr (HB.out.2.ext ExtC.ext) (.inl (Nat.lt_succ_of_le (ExtC.ext : Ext w g.fin).size))) (Rng.ws hr (HWS2.out.ext ExtC.ext) (.inl (Nat.lt_succ_of_le (Nat.le_of_lt HSB.out)))))); clear hr; obtain ⟨ib9, y0, y1, y2, z0, z1, z2⟩ := HB9.out.1))
        go_roundw
        case rel =>
          obtain ⟨hB1, hB2, hB3⟩ := HB9.out
          exact ⟨k + 1, some ⟨g', 0, none⟩, c', C ++ [(ms, lo, hi)], by omega, by go_num, ExtC.ext, hB1.store _, hB2.far (by have := HSB.out; omega) _, Lib.hid (by rw [List.length_append, HCL.out]; rfl), Lib.hid (by rw [World.size_setCell]; exact HO2.out.setBox (Nat.lt_succ_self _) _), Lib.hid (hB3.far (by have := HSB.out; omega) _), HQ, Lib.hid (fun q hq => by
            rcases List.mem_append.1 hq with e | e
            · exact HFW.out q e
            · rw [List.mem_singleton.1 e]; exact qm)⟩
        case measure => simp [intOf]; omega
      · have HTL := Lib.hid (fun p z M (hok : OkP p z M) (ht : ptexts p z M = s.data.toList) => (by
          obtain ⟨e1, e2⟩ := HPS.out p z M hok ht
          have h1 := (HT.out p z M hok ht).1
          have h2 := HTK.out p z M hok ht
          rw [List.take_of_length_le (by omega)] at h2
          exact ⟨e1, e2, h2.symm⟩ : pe0 = p ∧ sz0 = z ∧ M = C))
        have hsh : ShortQ C := ⟨by have := HCL.out; omega, fun i hi => by have := HFW.out C[i] (List.getElem_mem hi); omega⟩
        obtain ⟨b', hb'⟩ : ∃ x, okPB pe0 sz0 C = x := ⟨_, rfl⟩
        obtain ⟨s', hs'⟩ : ∃ x, ptextX pe0 sz0 C = x := ⟨_, rfl⟩
        have R := RT (.slice qp k qc) C b' hb' s' hs'
        cases b'
        · have HF := Lib.hid (HRET.out fun e => by
            rcases HV.out with ⟨-, k1, k2⟩ | ⟨k0, -, -⟩
            · obtain ⟨e1, e2, e3⟩ := HTL.out pe sz L k1 k2
              subst e1 e2 e3
              have := (okPB_iff hb').2 k1
              cases this
            · rw [e] at k0; cases k0)
          clear hb' hs'
          go_wp2_with (first | (go_at_call 35; (with_reducible refine (R _ ExtC.ext (HO.out.ext ExtC.ext).rq hsh).mono ?_); rintro e w' ⟨rfl, hx⟩; obtain ⟨g8, rfl⟩ := hx.grow; clear hx))
          refine bodyPost_ret (v := .tuple #[.agg #[.int .i64 0, .int .i64 0, .slice none 0 0], .bool false]) (by simp [results, Tryd.results12, go_sem, x0, x1, x2]) rfl ?_
          obtain ⟨e0, e1, e2, e3⟩ := HF.out
          exact ⟨_, by rw [e0, e1, e2], .inl ⟨rfl, e3⟩, ExtC.ext⟩
        · have hok := (okPB_iff hb').1 rfl
          have hse : s' = ⟨(ptexts pe0 sz0 C).toArray⟩ := by rw [← hs']; unfold ptextX; rw [if_pos hok]
          by_cases hss : s' = s
          · have HF := Lib.hid (show b = true ∧ pe0 = pe ∧ sz0 = sz ∧ L = C by
              rcases HV.out with ⟨k0, k1, k2⟩ | ⟨-, -, k3⟩
              · obtain ⟨e1, e2, e3⟩ := HTL.out pe sz L k1 k2
                exact ⟨k0, e1, e2, e3⟩
              · exact absurd (by rw [← hss, hse]) (k3 pe0 sz0 C hok))
            clear hb' hs' hok hse
            subst hss
            go_wp2_with (first | (go_at_call 35; (with_reducible refine (R _ ExtC.ext (HO.out.ext ExtC.ext).rq hsh).mono ?_); rintro e w' ⟨rfl, hx⟩; obtain ⟨g8, rfl⟩ := hx.grow; clear hx))
            refine bodyPost_ret (v := .tuple #[.agg #[.int .i64 pe0, .int .i64 sz0, (.slice qp k qc)], .bool true]) (by simp [results, Tryd.results12, go_sem, x0, x1, x2]) rfl ?_
            obtain ⟨e0, e1, e2, e3⟩ := HF.out
            refine ⟨_, by rw [e0, e1, e2], ?_, ExtC.ext⟩
            rw [e3]
            have z1 := (ExtC.ext : Ext w g.fin).size
            have key : ∀ {x : World} {o : Nat} {u : Value}, OwnQt (g.fin.heap.size + 1) g8.fin.heap.size x (.slice qp k qc) C → OwnQt (g.fin.heap.size + 1) g8.fin.heap.size (x.setCell ⟨w.heap.size, o, none⟩ u) (.slice qp k qc) C := fun {x o u} h => h.setBox (by show w.heap.size < _; omega) u
            have fin : OwnQt (g.fin.heap.size + 1) g8.fin.heap.size g8.fin (.slice qp k qc) C := (HO.out.ext ExtC.ext).mono (Nat.le_refl _) (ExtC.ext : Ext g0.fin g8.fin).size
            simp only [World.size_setCell]
            refine OwnQt.mono (lo := g.fin.heap.size + 1) (hi := g8.fin.heap.size) ?_ (by omega) (Nat.le_refl _)
            repeat (first | with_reducible exact fin | with_reducible refine key ?_)
          · have d1 := ne_list hss
            have d2 : (s'.toList == s.toList) = false := by simp [d1]
            have HF := Lib.hid (HRET.out fun e => by
              rcases HV.out with ⟨-, k1, k2⟩ | ⟨k0, -, -⟩
              · obtain ⟨e1, e2, e3⟩ := HTL.out pe sz L k1 k2
                subst e1 e2 e3
                exact hss (bytes_eq (by rw [hse, ← k2]))
              · rw [e] at k0; cases k0)
            clear hb' hs' hok hse hss
            go_wp2_with (first | (go_at_call 35; (with_reducible refine (R _ ExtC.ext (HO.out.ext ExtC.ext).rq hsh).mono ?_); rintro e w' ⟨rfl, hx⟩; obtain ⟨g8, rfl⟩ := hx.grow; clear hx))
            refine bodyPost_ret (v := .tuple #[.agg #[.int .i64 0, .int .i64 0, .slice none 0 0], .bool false]) (by simp [results, Tryd.results12, go_sem, x0, x1, x2]) rfl ?_
            obtain ⟨e0, e1, e2, e3⟩ := HF.out
            exact ⟨_, by rw [e0, e1, e2], .inl ⟨rfl, e3⟩, ExtC.ext⟩
end Go.Proofs.YthcomgnokkndgaaDoor
