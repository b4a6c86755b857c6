/- Giving out by greatest rests, on the program's side: the stable sort of the places. -/
import Derived.Test.YtomkhjcejjkelaaOutS
import Derived.Test.YtomkhjcejjkelaaBox
import Derived.Test.YtomkhjcejjkelaaQueue
import Derived.Shelf.SlSortCmp.Insertion1
namespace Go.Proofs.Ytomkhjcejjkelaa
open Go.Shelf Go.RowKit Go.Sort

def laysOut_ren : Go.Shelf.Ren := ⟨fun | 20 => 50 | n => n, fun | 0 => 0 | 3 => 3 | 4 => 4 | 22 => 40 | 24 => 3 | 25 => 42 | n => n, fun | n => n⟩
theorem laysOut : Go.Proofs.SlLaysF.n20 Try.prog laysOut_ren := {
  mixed := by kernel_rfl
  f20 := ⟨Try.f50.name, by decide, Try.func50.trans (congrArg some (by kernel_rfl))⟩
  t0 := Try.underlying0
  a0 := Try.isAgg0
  z0 := Try.sizeOf0
  v0 := Try.zeroValue0
  t3 := Try.underlying3
  a3 := Try.isAgg3
  z3 := Try.sizeOf3
  v3 := Try.zeroValue3
  t4 := Try.underlying4
  a4 := Try.isAgg4
  z4 := Try.sizeOf4
  v4 := Try.zeroValue4
  t22 := Try.underlying40
  a22 := Try.isAgg40
  z22 := Try.sizeOf40
  v22 := Try.zeroValue40
  a24 := Try.isAgg3
  z24 := Try.sizeOf3
  t25 := Try.underlying42
  a25 := Try.isAgg42
  z25 := Try.sizeOf42
  v25 := Try.zeroValue42 }

/-- What the comparison reads. -/
structure OutW (t s : Int) (ws : List Int) (bt bw bs b off c : Nat) (w : World) : Prop where
  it : bt < w.heap.size
  iw : bw < w.heap.size
  is : bs < w.heap.size
  ib : b < w.heap.size
  ct : w.cell? ⟨bt, 0, none⟩ = some (.int .i64 t)
  cw : w.cell? ⟨bw, 0, none⟩ = some (.slice (some ⟨b, off, none⟩) ws.length c)
  cs : w.cell? ⟨bs, 0, none⟩ = some (.int .i64 s)
  cb : ∀ i (h : i < ws.length), w.cell? ⟨b, off + i, none⟩ = some (.int .i64 ws[i])
theorem OutW.rng {t s : Int} {ws : List Int} {bt bw bs b off c lo hi : Nat} {w w' : World} (h : OutW t s ws bt bw bs b off c w) (hx : Rng lo hi w w') (h1 : bt < lo) (h2 : bw < lo) (h3 : bs < lo) (h4 : b < lo) : OutW t s ws bt bw bs b off c w' :=
  ⟨Nat.lt_of_lt_of_le h.it hx.size, Nat.lt_of_lt_of_le h.iw hx.size, Nat.lt_of_lt_of_le h.is hx.size, Nat.lt_of_lt_of_le h.ib hx.size,
   by rw [hx.cell h.it (.inl h1)]; exact h.ct, by rw [hx.cell h.iw (.inl h2)]; exact h.cw, by rw [hx.cell h.is (.inl h3)]; exact h.cs, fun i hi => by rw [hx.cell h.ib (.inl h4)]; exact h.cb i hi⟩

set_option maxHeartbeats 4000000 in
theorem impl_out1 (t s : Int) (ws : List Int) (bt bw bs b off c x y : Nat) (w : World) (h : OutW t s ws bt bw bs b off c w) (ht : 0 ≤ t ∧ t ≤ 1000000000) (hs : 1 ≤ s ∧ s ≤ 1000000000) (hss : s = ws.sum) (hw : ∀ k (h : k < ws.length), 0 ≤ ws[k] ∧ ws[k] ≤ 1000000000) (hx : x < ws.length) (hy : y < ws.length) :
    Calls Try.prog 24 #[.int .i64 x, .int .i64 y, .pointer (some ⟨bt, 0, none⟩), .pointer (some ⟨bw, 0, none⟩), .pointer (some ⟨bs, 0, none⟩)] w fun e w' => e = .returned (.int .i64 (cmR (rOf t ws) x y)) ∧ ∃ q os, w' = grow (w.drewN q) os := by
  have w1 := hw x hx
  have w2 := hw y hy
  have r1 : rOf t ws x = (t * ws[x]).tmod ws.sum := by unfold rOf; rw [ixN_in hx]; simp [hx]
  have r2 : rOf t ws y = (t * ws[y]).tmod ws.sum := by unfold rOf; rw [ixN_in hy]; simp [hy]
  rw [← hss] at r1 r2
  have d1 := h.cb x hx
  have d2 := h.cb y hy
  obtain ⟨y1, hy1⟩ : ∃ z, ws[x] = z := ⟨_, rfl⟩
  obtain ⟨y2, hy2⟩ : ∃ z, ws[y] = z := ⟨_, rfl⟩
  rw [hy1] at d1 w1 r1
  rw [hy2] at d2 w2 r2
  have m1 := so_mul ht.1 ht.2 w1.1 w1.2
  have m2 := so_mul ht.1 ht.2 w2.1 w2.2
  have n1 := so_mod m1.1 hs.1 hs.2
  have n2 := so_mod m2.1 hs.1 hs.2
  have z1 : IntKind.i64.wrap (t * y1) = t * y1 := IntWalk.i64_in _ (by omega)
  have z2 : IntKind.i64.wrap (t * y2) = t * y2 := IntWalk.i64_in _ (by omega)
  have z3 : IntKind.i64.wrap ((t * y1).tmod s) = (t * y1).tmod s := IntWalk.i64_in _ (by omega)
  have z4 : IntKind.i64.wrap ((t * y2).tmod s) = (t * y2).tmod s := IntWalk.i64_in _ (by omega)
  have hsz : s ≠ 0 := by omega
  have hsz2 : (s == 0) = false := by simpa using hsz
  have f1 := cell_grown h.it h.ct
  have f2 := cell_grown h.iw h.cw
  have f3 := cell_grown h.is h.cs
  have f4 := cell_grown h.ib d1
  have f5 := cell_grown h.ib d2
  have mixed : Try.prog.follows .mixedOrders = true := by kernel_rfl
  have hz1 : (x : Int).toNat = x := by omega
  have hcm : ∃ z, cmR (rOf t ws) x y = z ∧ z = if (t * y2).tmod s < (t * y1).tmod s then -1 else if (t * y1).tmod s < (t * y2).tmod s then 1 else 0 := ⟨_, rfl, by unfold cmR; rw [r1, r2]⟩
  obtain ⟨z, e1, e2⟩ := hcm
  rw [e1]
  have HX := Lib.hid (And.intro hx hy)
  clear h d1 d2 w1 w2 r1 r2 hy1 hy2 m1 m2 hw hss e1
  obtain ⟨A, hA⟩ : ∃ A, (t * y1).tmod s = A := ⟨_, rfl⟩
  obtain ⟨B, hB⟩ : ∃ B, (t * y2).tmod s = B := ⟨_, rfl⟩
  rw [hA] at n1 z3 e2
  rw [hB] at n2 z4 e2
  by_cases c1 : B < A
  · rw [if_pos c1] at e2
    subst e2
    go_enter Try.func24, Try.ntmps24
    go_wp2_with fail
    go_quiet_grown (fail)
    go_wp2_with fail
    go_ret
    exact ⟨rfl, nq, osq, rfl⟩
  · by_cases c2 : A < B
    · rw [if_neg c1, if_pos c2] at e2
      subst e2
      go_enter Try.func24, Try.ntmps24
      go_wp2_with fail
      go_quiet_grown (fail)
      go_wp2_with fail
      go_ret
      exact ⟨rfl, nq, osq, rfl⟩
    · rw [if_neg c1, if_neg c2] at e2
      subst e2
      go_enter Try.func24, Try.ntmps24
      go_wp2_with fail
      go_quiet_grown (fail)
      go_wp2_with fail
      go_ret
      exact ⟨rfl, nq, osq, rfl⟩

/-- Places in a block of its own. -/
def OwnN (lo hi : Nat) (w : World) (g c : Nat) (xs : List Nat) : Prop := lo ≤ g ∧ g < hi ∧ w.ownsRow lo 3 1 (.slice (some ⟨g, 0, none⟩) xs.length c) xs.length (xs.map fun (x : Nat) => iv (x : Int))
def encN (n x : Nat) : Value := .int .i64 (ixN n x : Nat)
theorem rOf_ix (t : Int) (ws : List Int) (h : 0 < ws.length) (x : Nat) : rOf t ws (ixN ws.length x) = rOf t ws x := by
  unfold rOf; rw [ixN_in (ixN_lt h x)]
theorem rng_sortedN (enc : Nat → Value) (w : World) (g off n : Nat) (d : Array Nat) (os : Array Obj) : Rng g (g + 1) w (sortWorld enc w g off n d os) := by
  refine ⟨rfl, rfl, rfl, ?_, fun k hk hr => ?_⟩
  · simp [sortWorld, grow, putRow, mapBlock, Sort.ahead]
  · simp only [sortWorld, grow, putRow, mapBlock, Sort.ahead]
    rw [Array.getElem?_append_left (by simpa using hk), Array.getElem?_modify, if_neg (by omega)]
theorem own_sortedN {enc : Nat → Value} {lo hi g c : Nat} {w : World} {xs ys : List Nat} (h : OwnN lo hi w g c xs) (hl : ys.length = xs.length) (he : ∀ y ∈ ys, enc y = iv (y : Int)) (m : Nat) (os : Array Obj) : OwnN lo hi (sortWorld enc w g 0 m ys.toArray os) g c ys := by
  obtain ⟨h1, h2, h3⟩ := h
  refine ⟨h1, h2, by simp, ?_⟩
  rcases h3.2 with ⟨e, _⟩ | ⟨g', cap', cur, e, q1, q2, q3, q4, q5, q6⟩
  · cases e
  simp only [Value.slice.injEq, Option.some.injEq, Addr.mk.injEq, and_true, true_and] at e
  obtain ⟨rfl, rfl⟩ := e
  refine .inr ⟨g, c, putCells enc 0 ys.toArray cur, rfl, q1, ?_, by omega, q4, by simpa [putCells] using q5, ?_⟩
  · have hgs := (Array.getElem?_eq_some_iff.1 q2).1
    simp only [sortWorld, grow, putRow, mapBlock, Sort.ahead]
    rw [Array.getElem?_append_left (by simpa using hgs), Array.getElem?_modify, if_pos rfl, q2]
    rfl
  · apply List.ext_getElem?
    intro j
    rw [List.getElem?_take]
    by_cases hj : j < ys.length
    · have hjc : j < cur.size := by omega
      rw [if_pos (by simpa using hj)]
      have := he _ (List.getElem_mem hj)
      simp [putCells, hj, hjc, this]
    · rw [if_neg (by simpa using hj)]
      simp [hj]

theorem insertionSort_size (lt : Nat → Nat → Bool) (d : Array Nat) (n : Nat) : (insertionSort lt d n n) = d := by
  unfold insertionSort; exact insOuter_stop _ _ _ _ _ (by omega)

set_option maxHeartbeats 4000000 in
theorem stable_out (t s : Int) (ws : List Int) (bt bw bs b off c lo hi g cap : Nat) (w : World) (h : OutW t s ws bt bw bs b off c w) (hown : OwnN lo hi w g cap (List.range ws.length)) (h1 : bt < lo) (h2 : bw < lo) (h3 : bs < lo) (h4 : b < lo)
    (hn : 1 ≤ ws.length ∧ ws.length ≤ 20) (ht : 0 ≤ t ∧ t ≤ 1000000000) (hs : 1 ≤ s ∧ s ≤ 1000000000) (hss : s = ws.sum) (hw : ∀ k (h : k < ws.length), 0 ≤ ws[k] ∧ ws[k] ≤ 1000000000) :
    Calls Try.prog 40 #[.slice (some ⟨g, 0, none⟩) ws.length cap, .int .i64 ws.length, .func (.func 24) #[] #[.pointer (some ⟨bt, 0, none⟩), .pointer (some ⟨bw, 0, none⟩), .pointer (some ⟨bs, 0, none⟩)]] w fun e w' => e = .returned (.tuple #[]) ∧ OwnN lo hi w' g cap (ordL (rOf t ws) ws.length) ∧ Rng g (g + 1) w w' := by
  have hlg := hown.1
  have hgw : g < w.heap.size := (hown.2.2.lt g rfl).2
  have hcmp : Go.Proofs.CmpLays1 Try.prog 24 #[.pointer (some ⟨bt, 0, none⟩), .pointer (some ⟨bw, 0, none⟩), .pointer (some ⟨bs, 0, none⟩)] (encN ws.length) (cmR (rOf t ws)) g 0 (Array.range ws.length).size w := by
    intro m os dk _ x y
    have hh := impl_out1 t s ws bt bw bs b off c (ixN ws.length x) (ixN ws.length y) _ (h.rng (rng_sortedN (encN ws.length) w g 0 m dk os) (by omega) (by omega) (by omega) (by omega)) ht hs hss hw (ixN_lt (by omega) x) (ixN_lt (by omega) y)
    have e : cmR (rOf t ws) (ixN ws.length x) (ixN ws.length y) = cmR (rOf t ws) x y := by unfold cmR; rw [rOf_ix t ws (by omega), rOf_ix t ws (by omega)]
    rw [e] at hh
    exact hh
  have hH : Holds (encN ws.length) w g 0 (Array.range ws.length) := by
    intro j hj
    have hj' : j < ws.length := by simpa using hj
    have e1 : (Array.range ws.length)[j]! = j := by simp [hj']
    have hc := hown.2.2.cellAt j (by simpa using hj')
    refine ⟨?_, hown.2.2.frozenAt _⟩
    rw [Nat.zero_add, hc, e1]
    simp [encN, ixN_in hj']
    exact ⟨j, by simp [hj'], rfl⟩
  have R : Go.Proofs.Row1 (encN ws.length) w g 0 (Array.range ws.length) := ⟨fun x => rfl, hH, hgw⟩
  have S0 : Go.Proofs.SW (encN ws.length) w g 0 (Array.range ws.length) w := Go.Proofs.SW.start hH
  have hlt : Go.Proofs.ltOf (cmR (rOf t ws)) = gtB (rOf t ws) := by funext x y; exact cmR_lt _ x y
  have INS := fun (a z : Nat) (d : Array Nat) (x : World) (hd : d.size = ws.length) (S : Go.Proofs.SW (encN ws.length) w g 0 d x) (haz : a ≤ z) (hz : z ≤ ws.length) => Go.Proofs.Any.insertionSortCmpFunc_s laysOut (encN ws.length) (cmR (rOf t ws)) 24 #[.pointer (some ⟨bt, 0, none⟩), .pointer (some ⟨bw, 0, none⟩), .pointer (some ⟨bs, 0, none⟩)] g 0 cap a z (Array.range ws.length) d w x (fun args w => by kernel_rfl) hcmp R (by rw [hd]; simp) S haz (by omega) (by omega)
  rw [hlt] at INS
  obtain ⟨n, hnn⟩ : ∃ n, ws.length = n := ⟨_, rfl⟩
  obtain ⟨D, hD⟩ : ∃ D, insertionSort (gtB (rOf t ws)) (Array.range ws.length) 0 ws.length = D := ⟨_, rfl⟩
  have hDs : D.size = ws.length := by rw [← hD]; have := ordL_length (rOf t ws) ws.length; unfold ordL at this; simpa using this
  have hDe : D = (ordL (rOf t ws) ws.length).toArray := by rw [← hD]; unfold ordL; simp
  have J1 := INS 0 ws.length (Array.range ws.length) w (by simp) S0 (Nat.zero_le _) (Nat.le_refl _)
  rw [hD, Array.size_range] at J1
  have J2 := fun x (S : Go.Proofs.SW (encN ws.length) w g 0 D x) => INS ws.length ws.length D x hDs S (Nat.le_refl _) (Nat.le_refl _)
  rw [hDs, insertionSort_size] at J2
  have FIN : ∀ (x : World), Go.Proofs.SW (encN ws.length) w g 0 D x → OwnN lo hi x g cap (ordL (rOf t ws) ws.length) ∧ Rng g (g + 1) w x := by
    rintro x ⟨m, os, rfl⟩
    rw [hDe]
    exact ⟨own_sortedN hown (by rw [ordL_length]; simp) (fun y hy => by unfold encN; rw [ixN_in (ordL_lt _ hy)]) m os, rng_sortedN _ _ _ _ _ _ _⟩
  have HF := Lib.hid FIN
  clear INS FIN S0 hcmp hH R hlt h hown hw hss hDs hDe hD
  rw [hnn] at HF J1 J2 hn ⊢
  clear hnn
  change Calls Try.prog 50 _ _ _ at J1
  change ∀ x, _ → Calls Try.prog 50 _ _ _ at J2
  by_cases h20 : n = 20
  · have hn20 : (n : Int) = 20 := by omega
    rw [hn20] at J1 J2
    have hd1 : decide ((20 : Int) ≤ (n : Int)) = true := decide_eq_true (by omega)
    have hd2 : decide ((40 : Int) ≤ (n : Int)) = false := decide_eq_false (by omega)
    have hd3 : decide ((20 : Int) < (n : Int)) = false := decide_eq_false (by omega)
    clear h20
    go_enter Try.func40, Try.ntmps40
    go_wp2_with fail
    refine wp_loop_rounds 2 ?_; rw [rounds_succ]
    go_wp2_with fail
    refine Calls.mono J1 ?_
    rintro e w1 ⟨rfl, hs1⟩
    have HS1 := Lib.hid hs1; clear hs1
    go_wp2_with fail
    rw [rounds_succ]
    go_wp2_with fail
    refine Calls.mono (J2 _ HS1.out) ?_
    rintro e w2 ⟨rfl, hs2⟩
    have HS2 := Lib.hid hs2; clear hs2
    go_wp2_with fail
    refine wp_loop_rounds 1 ?_; rw [rounds_succ]
    go_wp2_with fail
    go_end0
    exact ⟨rfl, HF.out _ HS2.out⟩
  · have h20' : decide ((20 : Int) ≤ (n : Int)) = false := decide_eq_false (by omega)
    have h21 : ¬ ((20 : Int) ≤ (n : Int)) := by omega
    have h22 : decide ((20 : Int) < (n : Int)) = false := decide_eq_false (by omega)
    go_enter Try.func40, Try.ntmps40
    go_wp2_with fail
    refine wp_loop_rounds 1 ?_; rw [rounds_succ]
    go_wp2_with fail
    refine Calls.mono J1 ?_
    rintro e w1 ⟨rfl, hs1⟩
    have HS1 := Lib.hid hs1; clear hs1
    go_wp2_with fail
    refine wp_loop_rounds 1 ?_; rw [rounds_succ]
    go_wp2_with fail
    go_end0
    exact ⟨rfl, HF.out _ HS1.out⟩
end Go.Proofs.Ytomkhjcejjkelaa
