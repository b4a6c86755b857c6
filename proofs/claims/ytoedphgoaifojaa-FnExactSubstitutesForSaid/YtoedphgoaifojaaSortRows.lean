/- slices.SortFunc at rows: the library's contract laid at this program, and what it says of rows that a function owns. -/
import Derived.Test.YtoedphgoaifojaaSort
import Derived.Test.YtoedphgoaifojaaNest
import Derived.Test.YtoedphgoaifojaaTeams
import Derived.Shelf.SlSortCmp.Whole1
namespace Go.Proofs.Ytoedphgoaifojaa
open Go.Shelf Go.RowKit Go.Sort

def laysSortRows_ren : Go.Shelf.Ren := ⟨fun | 6 => 107 | 14 => 138 | 15 => 102 | 20 => 150 | 21 => 151 | 22 => 152 | 23 => 153 | 24 => 154 | 25 => 155 | 26 => 156 | 27 => 157 | 28 => 127 | 29 => 128 | 46 => 160 | 47 => 142 | 48 => 143 | 49 => 161 | 50 => 162 | 57 => 163 | n => n, fun | 0 => 0 | 3 => 3 | 4 => 4 | 5 => 5 | 9 => 9 | 22 => 54 | 24 => 33 | 25 => 116 | 39 => 111 | 45 => 123 | 46 => 124 | 50 => 128 | 53 => 131 | 55 => 133 | 66 => 143 | 70 => 147 | 76 => 156 | 77 => 157 | n => n, fun | n => n⟩
theorem laysSortRows : Go.Proofs.SlLaysF.n6 Try.prog laysSortRows_ren := {
  mixed := by kernel_rfl
  f6 := ⟨Try.f107.name, by decide, Try.func107.trans (congrArg some (by kernel_rfl))⟩
  f14 := ⟨Try.f138.name, by decide, Try.func138.trans (congrArg some (by kernel_rfl))⟩
  f15 := Try.func102.trans (congrArg some (by kernel_rfl))
  f20 := ⟨Try.f150.name, by decide, Try.func150.trans (congrArg some (by kernel_rfl))⟩
  f21 := ⟨Try.f151.name, by decide, Try.func151.trans (congrArg some (by kernel_rfl))⟩
  f22 := ⟨Try.f152.name, by decide, Try.func152.trans (congrArg some (by kernel_rfl))⟩
  f23 := ⟨Try.f153.name, by decide, Try.func153.trans (congrArg some (by kernel_rfl))⟩
  f24 := ⟨Try.f154.name, by decide, Try.func154.trans (congrArg some (by kernel_rfl))⟩
  f25 := ⟨Try.f155.name, by decide, Try.func155.trans (congrArg some (by kernel_rfl))⟩
  f26 := ⟨Try.f156.name, by decide, Try.func156.trans (congrArg some (by kernel_rfl))⟩
  f27 := ⟨Try.f157.name, by decide, Try.func157.trans (congrArg some (by kernel_rfl))⟩
  f28 := Try.func127.trans (congrArg some (by kernel_rfl))
  f29 := Try.func128.trans (congrArg some (by kernel_rfl))
  f46 := ⟨Try.f160.name, by decide, Try.func160.trans (congrArg some (by kernel_rfl))⟩
  f47 := Try.func142.trans (congrArg some (by kernel_rfl))
  f48 := Try.func143.trans (congrArg some (by kernel_rfl))
  f49 := ⟨Try.f161.name, by decide, Try.func161.trans (congrArg some (by kernel_rfl))⟩
  f50 := ⟨Try.f162.name, by decide, Try.func162.trans (congrArg some (by kernel_rfl))⟩
  f57 := ⟨Try.f163.name, by decide, Try.func163.trans (congrArg some (by kernel_rfl))⟩
  t0 := Try.underlying0
  a0 := Try.isAgg0
  z0 := Try.sizeOf0
  v0 := Try.zeroValue0
  t3 := Try.underlying3
  a3 := Try.isAgg3
  z3 := Try.sizeOf3
  v3 := Try.zeroValue3
  t4 := Try.underlying4
  a4 := Try.isAgg4
  z4 := Try.sizeOf4
  v4 := Try.zeroValue4
  t5 := Try.underlying5
  a5 := Try.isAgg5
  z5 := Try.sizeOf5
  v5 := Try.zeroValue5
  t9 := Try.underlying9
  a9 := Try.isAgg9
  z9 := Try.sizeOf9
  v9 := Try.zeroValue9
  t22 := Try.underlying54
  a22 := Try.isAgg54
  z22 := Try.sizeOf54
  v22 := Try.zeroValue54
  a24 := Try.isAgg33
  z24 := Try.sizeOf33
  t25 := Try.underlying116
  a25 := Try.isAgg116
  z25 := Try.sizeOf116
  v25 := Try.zeroValue116
  t39 := Try.underlying111
  a39 := Try.isAgg111
  z39 := Try.sizeOf111
  v39 := Try.zeroValue111
  t45 := Try.underlying123
  a45 := Try.isAgg123
  z45 := Try.sizeOf123
  v45 := Try.zeroValue123
  t46 := Try.underlying124
  a46 := Try.isAgg124
  z46 := Try.sizeOf124
  v46 := Try.zeroValue124
  t50 := Try.underlying128
  a50 := Try.isAgg128
  z50 := Try.sizeOf128
  v50 := Try.zeroValue128
  t53 := Try.underlying131
  a53 := Try.isAgg131
  z53 := Try.sizeOf131
  v53 := Try.zeroValue131
  t55 := Try.underlying133
  a55 := Try.isAgg133
  z55 := Try.sizeOf133
  v55 := Try.zeroValue133
  t66 := Try.underlying143
  a66 := Try.isAgg143
  z66 := Try.sizeOf143
  v66 := Try.zeroValue143
  t70 := Try.underlying147
  a70 := Try.isAgg147
  z70 := Try.sizeOf147
  v70 := Try.zeroValue147
  t76 := Try.underlying156
  a76 := Try.isAgg156
  z76 := Try.sizeOf156
  v76 := Try.zeroValue156
  t77 := Try.underlying157
  a77 := Try.isAgg157
  z77 := Try.sizeOf157
  v77 := Try.zeroValue157 }

/-- What a function owns, permuted within its block. -/
theorem rng_sortedR {α : Type} [Inhabited α] (enc : α → Value) (w : World) (g off n : Nat) (d : Array α) (os : Array Obj) : Rng g (g + 1) w (sortWorld enc w g off n d os) := by
  refine ⟨rfl, rfl, rfl, ?_, fun k hk hr => ?_⟩
  · simp [sortWorld, grow, putRow, mapBlock, Sort.ahead]
  · simp only [sortWorld, grow, putRow, mapBlock, Sort.ahead]
    rw [Array.getElem?_append_left (by simpa using hk), Array.getElem?_modify, if_neg (by omega)]
theorem row_sorted {T : TypeId} {lo g n c : Nat} {w : World} {cs : List Value} (h : w.ownsRow lo T 1 (.slice (some ⟨g, 0, none⟩) n c) n cs) (enc : Nat → Value) (d : Array Nat) (hd : d.size = n) (m : Nat) (os : Array Obj) :
    (sortWorld enc w g 0 m d os).ownsRow lo T 1 (.slice (some ⟨g, 0, none⟩) n c) n (d.toList.map enc) := by
  refine ⟨by simp [hd], ?_⟩
  rcases h.2 with ⟨e, _⟩ | ⟨g', cap', cur, e, q1, q2, q3, q4, q5, q6⟩
  · cases e
  simp only [Value.slice.injEq, Option.some.injEq, Addr.mk.injEq, and_true, true_and] at e
  obtain ⟨rfl, rfl⟩ := e
  refine .inr ⟨g, c, putCells enc 0 d cur, rfl, q1, ?_, by omega, q4, by simpa [putCells] using q5, ?_⟩
  · have hgs := (Array.getElem?_eq_some_iff.1 q2).1
    simp only [sortWorld, grow, putRow, mapBlock, Sort.ahead]
    rw [Array.getElem?_append_left (by simpa using hgs), Array.getElem?_modify, if_pos rfl, q2]
    rfl
  · apply List.ext_getElem?
    intro j
    rw [List.getElem?_take]
    by_cases hj : j < d.size
    · have hjc : j < cur.size := by omega
      rw [if_pos (by omega)]
      simp [putCells, hj, hjc]
    · rw [if_neg (by omega)]
      simp [hj]
theorem own_sortedR {T : TypeId} {lo hi g n c : Nat} {w : World} {L : List (List Int)} {cs : List Value} {a b : Nat → Nat} (hn : L.length = n) (h1 : lo ≤ g) (h2 : g < hi) (how : w.ownsRow lo T 1 (.slice (some ⟨g, 0, none⟩) n c) n cs)
    (hc : ∀ i (h : i < L.length), ∃ t, cs[i]? = some t ∧ OwnI (a i) (b i) w t L[i] ∧ lo ≤ a i ∧ b i ≤ hi ∧ (g < a i ∨ b i ≤ g)) (hd : ∀ i j, i < j → j < L.length → b i ≤ a j ∨ b j ≤ a i)
    (d : Array Nat) (hp : d.toList.Perm (List.range n)) (m : Nat) (os : Array Obj) :
    OwnR intKind T lo hi (sortWorld (fun i => cs.getD i (.slice none 0 0)) w g 0 m d os) (.slice (some ⟨g, 0, none⟩) n c) (d.toList.map fun i => L.getD i []) := by
  have hs : d.size = n := by have := hp.length_eq; simpa using this
  have hmem : ∀ j (hj : j < d.size), d[j] < n := fun j hj => by
    have : d[j] ∈ d.toList := by simp
    simpa using hp.subset this
  have hnd : d.toList.Nodup := hp.nodup_iff.2 List.nodup_range
  have hR := rng_sortedR (fun i => cs.getD i (.slice none 0 0)) w g 0 m d os
  refine .inr ⟨g, c, d.toList.map fun i => cs.getD i (.slice none 0 0), fun j => a (d.getD j 0), fun j => b (d.getD j 0), by simp [hs], h1, h2, ?_, fun j hj => ?_, fun i j hij hj => ?_⟩
  · have := row_sorted how (fun i => cs.getD i (.slice none 0 0)) d hs m os
    simpa [hs] using this
  · have hj' : j < d.size := by simpa using hj
    obtain ⟨t, q1, q2, q3, q4, q5⟩ := hc d[j] (by have := hmem j hj'; omega)
    refine ⟨t, ?_, ?_, ?_⟩
    · simp [hj', q1]
    · have e : d.getD j 0 = d[j] := by simp [Array.getD, hj']
      have hl : d[j] < L.length := by have := hmem j hj'; omega
      simp only [e]
      have e2 : (d.toList.map fun i => L.getD i [])[j] = L[d[j]] := by simp [hl]
      rw [e2]
      exact q2.rng hR (by omega)
    · have e : d.getD j 0 = d[j] := by simp [Array.getD, hj']
      simp only [e]
      exact ⟨q3, q4, q5⟩
  · have hj' : j < d.size := by simpa using hj
    have hi' : i < d.size := by omega
    have e1 : d.getD j 0 = d[j] := by simp [Array.getD, hj']
    have e2 : d.getD i 0 = d[i] := by simp [Array.getD, hi']
    simp only [e1, e2]
    have hne : d[i] ≠ d[j] := fun e => by
      exact List.pairwise_iff_getElem.1 hnd i j (by simpa using hi') (by simpa using hj') hij (by simpa using e)
    have m1 := hmem i hi'
    have m2 := hmem j hj'
    rcases Nat.lt_or_gt_of_ne hne with h | h
    · exact hd _ _ h (by omega)
    · exact (hd _ _ h (by omega)).symm

set_option maxHeartbeats 400000 in
theorem cmp_isNaN (x : Int) (w : World) : Calls Try.prog 149 #[.int .i64 x] w fun e w' => e = .returned (.bool false) ∧ w' = w := by
  go_enter Try.func149, Try.ntmps149
  go_wp2
  go_ret
  exact ⟨by simp, rfl⟩
set_option maxHeartbeats 1000000 in
theorem cmp_Compare (x y : Int) (w : World) : Calls Try.prog 139 #[.int .i64 x, .int .i64 y] w fun e w' => e = .returned (.int .i64 (if x < y then -1 else if y < x then 1 else 0)) ∧ w' = w := by
  by_cases h1 : x < y
  · rw [if_pos h1]
    go_enter Try.func139, Try.ntmps139
    go_wp2_with (first | (go_at_call 149; refine (cmp_isNaN _ _).mono ?_; rintro e w' ⟨rfl, rfl⟩))
    go_ret
    exact ⟨rfl, rfl⟩
  · rw [if_neg h1]
    by_cases h2 : y < x
    · rw [if_pos h2]
      go_enter Try.func139, Try.ntmps139
      go_wp2_with (first | (go_at_call 149; refine (cmp_isNaN _ _).mono ?_; rintro e w' ⟨rfl, rfl⟩))
      go_ret
      exact ⟨rfl, rfl⟩
    · rw [if_neg h2]
      go_enter Try.func139, Try.ntmps139
      go_wp2_with (first | (go_at_call 149; refine (cmp_isNaN _ _).mono ?_; rintro e w' ⟨rfl, rfl⟩))
      go_ret
      exact ⟨rfl, rfl⟩
theorem lexC_step {xs ys : List Int} {k : Nat} (h1 : k < xs.length) (h2 : k < ys.length) : lexC (xs.drop k) (ys.drop k) = if xs[k] < ys[k] then -1 else if ys[k] < xs[k] then 1 else lexC (xs.drop (k + 1)) (ys.drop (k + 1)) := by
  rw [List.drop_eq_getElem_cons h1, List.drop_eq_getElem_cons h2]; rfl
set_option maxHeartbeats 2000000 in
theorem slices_CompareI (v u : Value) (xs ys : List Int) (w : World) (h : RI w v xs) (h' : RI w u ys) (hn : xs.length ≤ 1152921504606846976) (hn' : ys.length ≤ 1152921504606846976) :
    Calls Try.prog 109 #[v, u] w fun e w' => e = .returned (.int .i64 (lexC xs ys)) ∧ w' = w := by
  obtain ⟨p, cap, rfl, -, hc⟩ := h.form
  obtain ⟨q, cap', rfl, -, hc'⟩ := h'.form
  have HC := Lib.hid (And.intro hc hc')
  clear h h' hc hc'
  go_enter Try.func109, Try.ntmps109
  go_wp2
  go_loop [4, 11] (fun _ i => ∃ k : Nat, k ≤ xs.length ∧ k ≤ ys.length ∧ i = .int .i64 k ∧ Hid (lexC xs ys = lexC (xs.drop k) (ys.drop k))) (fun _ i => xs.length - (intOf i).toNat)
  case atStart => exact ⟨0, Nat.zero_le _, Nat.zero_le _, rfl, Lib.hid rfl⟩
  case round =>
    obtain ⟨k, hk, hk', rfl, HX⟩ := hrel
    by_cases hlt : k < xs.length
    · obtain ⟨b1, o1, hp, -, c1⟩ := HC.out.1 (by omega)
      subst hp
      have d1 := c1 k hlt
      clear c1
      by_cases hlt' : k < ys.length
      · obtain ⟨b2, o2, hp, -, c2⟩ := HC.out.2 (by omega)
        subst hp
        have d2 := c2 k hlt'
        clear c2
        have hst := lexC_step hlt hlt'
        rw [← HX.out] at hst
        obtain ⟨x, hx⟩ : ∃ x, xs[k] = x := ⟨_, rfl⟩
        obtain ⟨y, hy⟩ : ∃ y, ys[k] = y := ⟨_, rfl⟩
        rw [hx] at d1 hst
        rw [hy] at d2 hst
        clear hx hy
        have HS := Lib.hid hst; clear hst
        by_cases h1 : x < y
        · have f := fun z => cmp_Compare x y z
          simp only [h1, if_true] at f
          have HR := HS.out
          rw [if_pos h1] at HR
          have HR2 := Lib.hid HR; clear HR
          clear h1
          go_wp2_with (first | (go_at_call 139; refine (f _).mono ?_; rintro e w' ⟨rfl, rfl⟩))
          go_ret
          exact ⟨ret_int HR2.out.symm, rfl⟩
        · by_cases h2 : y < x
          · have f := fun z => cmp_Compare x y z
            simp only [h1, h2, if_true, if_false] at f
            have HR := HS.out
            rw [if_neg h1, if_pos h2] at HR
            have HR2 := Lib.hid HR; clear HR
            clear h1 h2
            go_wp2_with (first | (go_at_call 139; refine (f _).mono ?_; rintro e w' ⟨rfl, rfl⟩))
            go_ret
            exact ⟨ret_int HR2.out.symm, rfl⟩
          · have f := fun z => cmp_Compare x y z
            simp only [h1, h2, if_false] at f
            have HR := HS.out
            rw [if_neg h1, if_neg h2] at HR
            have HR2 := Lib.hid HR; clear HR
            clear h1 h2
            go_wp2_with (first | (go_at_call 139; refine (f _).mono ?_; rintro e w' ⟨rfl, rfl⟩))
            exact ⟨⟨k + 1, by omega, by omega, by go_num, HR2⟩, by simp [intOf]; omega⟩
      · have hky : k = ys.length := by omega
        have hr : lexC xs ys = 1 := by
          rw [HX.out, List.drop_eq_getElem_cons hlt, List.drop_of_length_le (show ys.length ≤ k by omega)]; rfl
        have HR := Lib.hid hr; clear hr
        have hge : ys.length ≤ k := by omega
        clear hky
        go_wp2
        go_ret
        exact ⟨ret_int HR.out.symm, rfl⟩
    · have hkx : k = xs.length := by omega
      by_cases hl : xs.length < ys.length
      · have hr : lexC xs ys = -1 := by
          rw [HX.out, hkx, List.drop_length, List.drop_eq_getElem_cons hl]; rfl
        have HR := Lib.hid hr; clear hr
        go_wp2
        go_ret
        exact ⟨ret_int HR.out.symm, rfl⟩
      · have hr : lexC xs ys = 0 := by
          have : xs.length = ys.length := by omega
          rw [HX.out, hkx, List.drop_length, this, List.drop_length]; rfl
        have HR := Lib.hid hr; clear hr
        go_wp2
        go_ret
        exact ⟨ret_int HR.out.symm, rfl⟩
set_option maxHeartbeats 1000000 in
theorem impl_sets1 (v u : Value) (xs ys : List Int) (w : World) (h : RI w v xs) (h' : RI w u ys) (hn : xs.length ≤ 1152921504606846976) (hn' : ys.length ≤ 1152921504606846976) :
    Calls Try.prog 108 #[v, u] w fun e w' => e = .returned (.int .i64 (lexC xs ys)) ∧ w' = w := by
  obtain ⟨p, cap, rfl, -, -⟩ := h.form
  obtain ⟨q, cap', rfl, -, -⟩ := h'.form
  have f := slices_CompareI _ _ xs ys w h h' hn hn'
  clear h h'
  go_enter Try.func108, Try.ntmps108
  go_wp2_with (first | (go_at_call 109; refine f.mono ?_; rintro e w' ⟨rfl, rfl⟩))
  go_ret
  exact ⟨rfl, rfl⟩

/-- What the rows hold after the sort. -/
theorem sort_rows {lo hi g n c : Nat} (L : List (List Int)) (w : World) (h : OwnR intKind 33 lo hi w (.slice (some ⟨g, 0, none⟩) n c) L) (hn : L.length ≤ 1099511627776) (hm : ∀ i (h : i < L.length), L[i].length ≤ 1152921504606846976) :
    Calls Try.prog 107 #[.slice (some ⟨g, 0, none⟩) n c, .func (.func 108) #[] #[]] w fun e w' => e = .returned (.tuple #[]) ∧
      ∃ L' : List (List Int), L'.Perm L ∧ (∀ i j, i < j → j < L'.length → ¬ lexC (L'.getD j []) (L'.getD i []) < 0) ∧ OwnR intKind 33 lo hi w' (.slice (some ⟨g, 0, none⟩) n c) L' ∧ Rng g (g + 1) w w' := by
  have hs := h.s (by simp)
  rcases h with ⟨e, _⟩ | ⟨g', cap, cs, a, b, e, h1, h2, how, hc, hd⟩
  · cases e
  simp only [Value.slice.injEq, Option.some.injEq, Addr.mk.injEq, and_true, true_and] at e
  obtain ⟨rfl, rfl, rfl⟩ := e
  have hlt := (how.lt g rfl).2
  have hcl : cs.length = L.length := by rw [how.1]; omega
  let enc : Nat → Value := fun i => cs.getD i (.slice none 0 0)
  let cf : Nat → Nat → Int := fun x y => lexC (L.getD x []) (L.getD y [])
  have hri : ∀ (m : Nat) (os : Array Obj) (dk : Array Nat) (x : Nat), RI (sortWorld enc w g 0 m dk os) (enc x) (L.getD x []) := by
    intro m os dk x
    by_cases hx : x < L.length
    · obtain ⟨t, q1, q2, q3, q4, q5⟩ := hc x hx
      have e1 : enc x = t := by simp [enc, q1]
      have e2 : L.getD x [] = L[x] := by simp [hx]
      rw [e1, e2]
      exact (OwnI.rng q2 (rng_sortedR enc w g 0 m dk os) (by omega)).ri
    · have e1 : enc x = .slice none 0 0 := by simp [enc, List.getElem?_eq_none (show cs.length ≤ x by omega)]
      have e2 : L.getD x [] = [] := by simp [List.getElem?_eq_none (show L.length ≤ x by omega)]
      rw [e1, e2]
      exact RI.nil _
  have hml : ∀ x, (L.getD x []).length ≤ 1152921504606846976 := by
    intro x
    by_cases hx : x < L.length
    · have e2 : L.getD x [] = L[x] := by simp [hx]
      rw [e2]; exact hm x hx
    · have e2 : L.getD x [] = [] := by simp [List.getElem?_eq_none (show L.length ≤ x by omega)]
      rw [e2]; simp
  have hcmp : Go.Proofs.CmpLays1 Try.prog 108 #[] enc cf g 0 (Array.range L.length).size w := by
    intro m os dk _ x y
    refine (impl_sets1 (enc x) (enc y) _ _ _ (hri m os dk x) (hri m os dk y) (hml x) (hml y)).mono ?_
    rintro e w' ⟨rfl, rfl⟩
    exact ⟨rfl, 0, #[], by simp [grow, World.drewN]⟩
  have hone : OneCell enc := by
    intro x
    by_cases hx : x < L.length
    · obtain ⟨t, q1, q2, q3, q4, q5⟩ := hc x hx
      have e1 : enc x = t := by simp [enc, q1]
      rw [e1]
      rcases q2 with ⟨rfl, _⟩ | ⟨g', c', rfl, _⟩ <;> rfl
    · have e1 : enc x = .slice none 0 0 := by simp [enc, List.getElem?_eq_none (show cs.length ≤ x by omega)]
      rw [e1]; rfl
  have hH : Holds enc w g 0 (Array.range L.length) := by
    intro j hj
    have hj' : j < L.length := by simpa using hj
    refine ⟨?_, how.frozenAt _⟩
    rw [Nat.zero_add, how.cellAt j (by omega)]
    simp [enc, hj', show j < cs.length by omega]
  have hcon := Go.Proofs.Any.slices_SortFunc laysSortRows enc hone cf (lexC_swo fun x => L.getD x []) 108 #[] g 0 c (Array.range L.length) w (fun args w => by kernel_rfl) hcmp hH hlt (by simp; omega)
  rw [Array.size_range] at hcon
  change Calls Try.prog 107 _ _ _ at hcon
  refine hcon.mono ?_
  rintro e w' ⟨rfl, d', k, os, hp, hso, rfl⟩
  obtain ⟨p1, p2, p3⟩ := hp
  have hds : d'.size = L.length := by simpa using p1
  have hperm : d'.toList.Perm (List.range L.length) := by
    have e1 : d'.extract 0 L.length = d' := by rw [← hds]; exact Array.extract_size
    have e2 : (Array.range L.length).extract 0 L.length = Array.range L.length := by
      conv => lhs; arg 3; rw [← Array.size_range (n := L.length)]
      exact Array.extract_size
    rw [e1, e2] at p3
    simpa using p3
  refine ⟨rfl, d'.toList.map fun i => L.getD i [], ?_, fun i j hij hj => ?_, own_sortedR rfl h1 h2 how hc hd d' hperm k os, rng_sortedR _ _ _ _ _ _ _⟩
  · have := hperm.map fun i => L.getD i []
    refine this.trans ?_
    have e3 : (List.range L.length).map (fun i => L.getD i []) = L := by
      apply List.ext_getElem?
      intro j
      by_cases hj : j < L.length
      · simp [hj]
      · simp [List.getElem?_eq_none (show L.length ≤ j by omega)]; omega
    rw [e3]
  · have hj' : j < d'.size := by simpa using hj
    have := hso i j (Nat.zero_le _) hij (by omega)
    simp only [Go.Proofs.ltOf, decide_eq_false_iff_not, cf] at this
    have e1 : (d'.toList.map fun i => L.getD i []).getD j [] = L.getD d'[j]! [] := by simp [hj']
    have e2 : (d'.toList.map fun i => L.getD i []).getD i [] = L.getD d'[i]! [] := by simp [show i < d'.size by omega]
    rw [e1, e2]
    exact this
end Go.Proofs.Ytoedphgoaifojaa
