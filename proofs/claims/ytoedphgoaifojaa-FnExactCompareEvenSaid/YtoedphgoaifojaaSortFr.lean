/- slices.SortFunc at fractions: the library's contract laid at this program; the comparison, to the world. -/
import Derived.Test.YtoedphgoaifojaaFracMark
import Derived.Test.YtoedphgoaifojaaFrac5
import Derived.Test.YtoedphgoaifojaaTeams
import Derived.Test.YtoedphgoaifojaaSort
import Derived.Shelf.SlSortCmp.WholeK
namespace Go.Proofs.Ytoedphgoaifojaa
open Go.Shelf Go.RowKit Go.Sort

def laysSortFr_ren : Go.Shelf.Ren := ⟨fun | 6 => 71 | 14 => 101 | 15 => 102 | 20 => 119 | 21 => 120 | 22 => 121 | 23 => 122 | 24 => 123 | 25 => 124 | 26 => 125 | 27 => 126 | 28 => 127 | 29 => 128 | 46 => 141 | 47 => 142 | 48 => 143 | 49 => 144 | 50 => 145 | 57 => 158 | n => n, fun | 0 => 0 | 3 => 3 | 4 => 4 | 5 => 5 | 9 => 9 | 22 => 43 | 24 => 60 | 25 => 86 | 39 => 111 | 45 => 123 | 46 => 124 | 50 => 128 | 53 => 131 | 55 => 133 | 66 => 143 | 70 => 147 | 76 => 156 | 77 => 157 | n => n, fun | n => n⟩
theorem laysSortFr : Go.Proofs.SlLaysF0.n6 Try.prog laysSortFr_ren := {
  mixed := by kernel_rfl
  f6 := ⟨Try.f71.name, by decide, Try.func71.trans (congrArg some (by kernel_rfl))⟩
  f14 := ⟨Try.f101.name, by decide, Try.func101.trans (congrArg some (by kernel_rfl))⟩
  f15 := Try.func102.trans (congrArg some (by kernel_rfl))
  f20 := ⟨Try.f119.name, by decide, Try.func119.trans (congrArg some (by kernel_rfl))⟩
  f21 := ⟨Try.f120.name, by decide, Try.func120.trans (congrArg some (by kernel_rfl))⟩
  f22 := ⟨Try.f121.name, by decide, Try.func121.trans (congrArg some (by kernel_rfl))⟩
  f23 := ⟨Try.f122.name, by decide, Try.func122.trans (congrArg some (by kernel_rfl))⟩
  f24 := ⟨Try.f123.name, by decide, Try.func123.trans (congrArg some (by kernel_rfl))⟩
  f25 := ⟨Try.f124.name, by decide, Try.func124.trans (congrArg some (by kernel_rfl))⟩
  f26 := ⟨Try.f125.name, by decide, Try.func125.trans (congrArg some (by kernel_rfl))⟩
  f27 := ⟨Try.f126.name, by decide, Try.func126.trans (congrArg some (by kernel_rfl))⟩
  f28 := Try.func127.trans (congrArg some (by kernel_rfl))
  f29 := Try.func128.trans (congrArg some (by kernel_rfl))
  f46 := ⟨Try.f141.name, by decide, Try.func141.trans (congrArg some (by kernel_rfl))⟩
  f47 := Try.func142.trans (congrArg some (by kernel_rfl))
  f48 := Try.func143.trans (congrArg some (by kernel_rfl))
  f49 := ⟨Try.f144.name, by decide, Try.func144.trans (congrArg some (by kernel_rfl))⟩
  f50 := ⟨Try.f145.name, by decide, Try.func145.trans (congrArg some (by kernel_rfl))⟩
  f57 := ⟨Try.f158.name, by decide, Try.func158.trans (congrArg some (by kernel_rfl))⟩
  t0 := Try.underlying0
  a0 := Try.isAgg0
  z0 := Try.sizeOf0
  v0 := Try.zeroValue0
  t3 := Try.underlying3
  a3 := Try.isAgg3
  z3 := Try.sizeOf3
  v3 := Try.zeroValue3
  t4 := Try.underlying4
  a4 := Try.isAgg4
  z4 := Try.sizeOf4
  v4 := Try.zeroValue4
  t5 := Try.underlying5
  a5 := Try.isAgg5
  z5 := Try.sizeOf5
  v5 := Try.zeroValue5
  t9 := Try.underlying9
  a9 := Try.isAgg9
  z9 := Try.sizeOf9
  v9 := Try.zeroValue9
  t22 := Try.underlying43
  a22 := Try.isAgg43
  z22 := Try.sizeOf43
  v22 := Try.zeroValue43
  t25 := Try.underlying86
  a25 := Try.isAgg86
  z25 := Try.sizeOf86
  v25 := Try.zeroValue86
  t39 := Try.underlying111
  a39 := Try.isAgg111
  z39 := Try.sizeOf111
  v39 := Try.zeroValue111
  t45 := Try.underlying123
  a45 := Try.isAgg123
  z45 := Try.sizeOf123
  v45 := Try.zeroValue123
  t46 := Try.underlying124
  a46 := Try.isAgg124
  z46 := Try.sizeOf124
  v46 := Try.zeroValue124
  t50 := Try.underlying128
  a50 := Try.isAgg128
  z50 := Try.sizeOf128
  v50 := Try.zeroValue128
  t53 := Try.underlying131
  a53 := Try.isAgg131
  z53 := Try.sizeOf131
  v53 := Try.zeroValue131
  t55 := Try.underlying133
  a55 := Try.isAgg133
  z55 := Try.sizeOf133
  v55 := Try.zeroValue133
  t66 := Try.underlying143
  a66 := Try.isAgg143
  z66 := Try.sizeOf143
  v66 := Try.zeroValue143
  t70 := Try.underlying147
  a70 := Try.isAgg147
  z70 := Try.sizeOf147
  v70 := Try.zeroValue147
  t76 := Try.underlying156
  a76 := Try.isAgg156
  z76 := Try.sizeOf156
  v76 := Try.zeroValue156
  t77 := Try.underlying157
  a77 := Try.isAgg157
  z77 := Try.sizeOf157
  v77 := Try.zeroValue157 }

/-- The same world with more blocks, some draws on. -/
def More (w w' : World) : Prop := ∃ q os, w' = grow (w.drewN q) os
theorem More.ext {w w' : World} (h : More w w') : Ext w w' := by
  obtain ⟨q, os, rfl⟩ := h
  refine ⟨rfl, rfl, rfl, by simp [grow, World.drewN], fun k hk => ?_⟩
  simp only [grow, World.drewN]
  rw [Array.getElem?_append_left hk]
theorem More.two {w w' : World} {o1 o2 : Obj} (h : More ((w.alloc o1).alloc o2) w') : More w w' := by
  obtain ⟨q, os, rfl⟩ := h
  refine ⟨q, (#[o1] ++ #[o2]) ++ os, ?_⟩
  rw [alloc_eq_grow, alloc_eq_grow]
  show grow (grow (grow (w.drewN q) #[o1]) #[o2]) os = _
  rw [grow_grow, grow_grow, Array.append_assoc]
theorem More.drew (w : World) : More w w.drew := ⟨1, #[], by rw [grow_empty]; rfl⟩

set_option maxHeartbeats 1000000 in
theorem impl_compare_more (n d m e : Int) (h1 : okF n d = true) (h2 : okF m e = true) (w : World) :
    Calls Try.prog 70 #[.agg #[.int .i64 n, .int .i64 d], .agg #[.int .i64 m, .int .i64 e]] w fun e' w' => e' = .returned (.int .i64 (cmpI (n * e) (m * d))) ∧ More w w' := by
  obtain ⟨a1, a2⟩ := okF_bd h1
  obtain ⟨b1, b2⟩ := okF_bd h2
  have m1 := mul_bd n e a2 (by omega)
  have m2 := mul_bd m d b2 (by omega)
  clear h1 h2
  by_cases c1 : n * e < m * d
  · rw [show cmpI (n * e) (m * d) = -1 from if_pos c1]
    go_enter Try.func70, Try.ntmps70
    go_wp2
    go_region
    go_wp2
    go_ret
    exact ⟨rfl, More.two (More.drew _)⟩
  · by_cases c2 : m * d < n * e
    · rw [show cmpI (n * e) (m * d) = 1 by rw [cmpI, if_neg c1, if_pos c2]]
      go_enter Try.func70, Try.ntmps70
      go_wp2
      go_region
      go_wp2
      go_ret
      exact ⟨rfl, More.two (More.drew _)⟩
    · rw [show cmpI (n * e) (m * d) = 0 by rw [cmpI, if_neg c1, if_neg c2]]
      go_enter Try.func70, Try.ntmps70
      go_wp2
      go_region
      go_wp2
      go_ret
      exact ⟨rfl, More.two (More.drew _)⟩
theorem cmpI_r (x y : Int) : -1 ≤ cmpI x y ∧ cmpI x y ≤ 1 := by unfold cmpI; split <;> (try split) <;> omega
set_option maxHeartbeats 1000000 in
theorem impl_CompareEven1 (n d m e : Int) (h1 : okF n d = true) (h2 : okF m e = true) (w : World) :
    Calls Try.prog 69 #[.agg #[.int .i64 n, .int .i64 d], .agg #[.int .i64 m, .int .i64 e]] w fun e' w' => e' = .returned (.int .i64 (cmpI (n * e) (m * d))) ∧ More w w' := by
  have hc := fun x => impl_compare_more n d m e h1 h2 x
  have hr := cmpI_r (n * e) (m * d)
  obtain ⟨z, hz⟩ : ∃ z, cmpI (n * e) (m * d) = z := ⟨_, rfl⟩
  rw [hz] at hc hr ⊢
  clear hz
  go_enter Try.func69, Try.ntmps69
  go_wp2_with fail
  refine Calls.mono (hc _) ?_
  rintro e' w' ⟨rfl, hm⟩
  have hm2 := hm.two
  clear hm
  go_wp2_with fail
  go_ret
  exact ⟨rfl, hm2⟩

/-- One fraction is less than another. -/
def ltF (a b : Int × Int) : Prop := a.1 * b.2 < b.1 * a.2
def cmpF (a b : Int × Int) : Int := cmpI (a.1 * b.2) (b.1 * a.2)
theorem cmpF_neg (a b : Int × Int) : cmpF a b < 0 ↔ ltF a b := by
  unfold cmpF cmpI ltF
  by_cases h : a.1 * b.2 < b.1 * a.2
  · simp [h]
  · rw [if_neg h]; split <;> simp [h]
theorem leF_trans {a b c : Int × Int} (hb : 1 ≤ b.2) (ha : 1 ≤ a.2) (hc : 1 ≤ c.2) (h1 : ¬ ltF b a) (h2 : ¬ ltF c b) : ¬ ltF c a := by
  unfold ltF at *
  have e1 : a.1 * b.2 ≤ b.1 * a.2 := by omega
  have e2 : b.1 * c.2 ≤ c.1 * b.2 := by omega
  have f1 := Int.mul_le_mul_of_nonneg_right e1 (show 0 ≤ c.2 by omega)
  have f2 := Int.mul_le_mul_of_nonneg_right e2 (show 0 ≤ a.2 by omega)
  have g1 : a.1 * b.2 * c.2 = (a.1 * c.2) * b.2 := by rw [Int.mul_assoc, Int.mul_comm b.2, ← Int.mul_assoc]
  have g2 : b.1 * a.2 * c.2 = b.1 * c.2 * a.2 := by rw [Int.mul_assoc, Int.mul_comm a.2, ← Int.mul_assoc]
  have g3 : c.1 * b.2 * a.2 = (c.1 * a.2) * b.2 := by rw [Int.mul_assoc, Int.mul_comm b.2, ← Int.mul_assoc]
  have f3 : (a.1 * c.2) * b.2 ≤ (c.1 * a.2) * b.2 := by rw [← g1, ← g3]; omega
  have := Int.le_of_mul_le_mul_right f3 (by omega)
  omega
theorem ltF_trans {a b c : Int × Int} (hb : 1 ≤ b.2) (ha : 1 ≤ a.2) (hc : 1 ≤ c.2) (h1 : ltF a b) (h2 : ltF b c) : ltF a c := by
  unfold ltF at *
  have f1 := Int.mul_lt_mul_of_pos_right h1 (show 0 < c.2 by omega)
  have f2 := Int.mul_lt_mul_of_pos_right h2 (show 0 < a.2 by omega)
  have g1 : a.1 * b.2 * c.2 = (a.1 * c.2) * b.2 := by rw [Int.mul_assoc, Int.mul_comm b.2, ← Int.mul_assoc]
  have g2 : b.1 * a.2 * c.2 = b.1 * c.2 * a.2 := by rw [Int.mul_assoc, Int.mul_comm a.2, ← Int.mul_assoc]
  have g3 : c.1 * b.2 * a.2 = (c.1 * a.2) * b.2 := by rw [Int.mul_assoc, Int.mul_comm b.2, ← Int.mul_assoc]
  have f3 : (a.1 * c.2) * b.2 < (c.1 * a.2) * b.2 := by rw [← g1, ← g3]; omega
  exact Int.lt_of_mul_lt_mul_right f3 (by omega)
theorem cmpF_swo {α : Type} (f : α → Int × Int) (hf : ∀ x, 1 ≤ (f x).2) : SWO (Go.Proofs.ltOf fun x y => cmpF (f x) (f y)) := by
  refine ⟨fun x => ?_, fun x y z h1 h2 => ?_, fun x y z h1 h2 => ?_⟩
  · simp only [Go.Proofs.ltOf, decide_eq_false_iff_not, cmpF_neg]; unfold ltF; omega
  · simp only [Go.Proofs.ltOf, decide_eq_true_eq, cmpF_neg] at *
    exact ltF_trans (hf y) (hf x) (hf z) h1 h2
  · simp only [Go.Proofs.ltOf, decide_eq_false_iff_not, cmpF_neg] at *
    exact leF_trans (hf y) (hf z) (hf x) h2 h1

theorem row_sorted2 {T : TypeId} {lo g n c : Nat} {w : World} {cs : List Value} (h : w.ownsRow lo T 2 (.slice (some ⟨g, 0, none⟩) n c) n cs) (F : Array Value) (hF : F.size = n * 2) (m : Nat) (os : Array Obj) :
    (grow (putRow id (Sort.ahead w m) g 0 F) os).ownsRow lo T 2 (.slice (some ⟨g, 0, none⟩) n c) n F.toList := by
  refine ⟨by simp [hF], ?_⟩
  rcases h.2 with ⟨e, _⟩ | ⟨g', cap', cur, e, q1, q2, q3, q4, q5, q6⟩
  · cases e
  simp only [Value.slice.injEq, Option.some.injEq, Addr.mk.injEq, and_true, true_and] at e
  obtain ⟨rfl, rfl⟩ := e
  refine .inr ⟨g, c, putCells id 0 F cur, rfl, q1, ?_, by omega, q4, by simpa [putCells] using q5, ?_⟩
  · have hgs := (Array.getElem?_eq_some_iff.1 q2).1
    simp only [grow, putRow, mapBlock, Sort.ahead]
    rw [Array.getElem?_append_left (by simpa using hgs), Array.getElem?_modify, if_pos rfl, q2]
    rfl
  · apply List.ext_getElem?
    intro j
    rw [List.getElem?_take]
    by_cases hj : j < F.size
    · have hjc : j < cur.size := by omega
      rw [if_pos (by omega)]
      simp [putCells, hj, hjc]
    · rw [if_neg (by omega)]
      simp [hj]

theorem rng_sortedV {α : Type} [Inhabited α] (enc : α → List Value) (w : World) (g n : Nat) (d : Array α) (os : Array Obj) : Rng g (g + 1) w (Go.Proofs.sortWorldK enc 2 w g 0 n d os) := by
  refine ⟨rfl, rfl, rfl, ?_, fun k hk hr => ?_⟩
  · simp [Go.Proofs.sortWorldK, putRowK, grow, putRow, mapBlock, Sort.ahead]
  · simp only [Go.Proofs.sortWorldK, putRowK, grow, putRow, mapBlock, Sort.ahead]
    rw [Array.getElem?_append_left (by simpa using hk), Array.getElem?_modify, if_neg (by omega)]
/-- What the fractions are after the sort. -/
theorem sort_fr {lo hi g n c : Nat} (xs : SD) (w : World) (h : OwnF lo hi w (.slice (some ⟨g, 0, none⟩) n c) xs) (hn : xs.length ≤ 1048576) (hv : ∀ f ∈ xs, okF f.1 f.2 = true) :
    Calls Try.prog 71 #[.slice (some ⟨g, 0, none⟩) n c, .func (.func 69) #[] #[]] w fun e w' => e = .returned (.tuple #[]) ∧
      ∃ ys : SD, ys.Perm xs ∧ (∀ i j, i < j → j < ys.length → ¬ ltF (ys.getD j (0, 1)) (ys.getD i (0, 1))) ∧ OwnF lo hi w' (.slice (some ⟨g, 0, none⟩) n c) ys ∧ Rng g (g + 1) w w' := by
  rcases h with ⟨e, _⟩ | ⟨g', cap, cs, e, h1, h2, how, hc⟩
  · cases e
  simp only [Value.slice.injEq, Option.some.injEq, Addr.mk.injEq, and_true] at e
  obtain ⟨rfl, rfl, rfl⟩ := e
  have hlt := (how.lt g rfl).2
  have hcl : cs.length = xs.length * 2 := how.1
  let f : Nat → Int × Int := fun i => xs.getD i (0, 1)
  let enc : Nat → List Value := fun i => [iv (f i).1, iv (f i).2]
  have hok : ∀ i, okF (f i).1 (f i).2 = true := by
    intro i
    by_cases hi : i < xs.length
    · have e2 : f i = xs[i] := by simp [f, hi]
      rw [e2]; exact hv _ (List.getElem_mem hi)
    · have e2 : f i = (0, 1) := by simp [f, List.getElem?_eq_none (show xs.length ≤ i by omega)]
      rw [e2]; decide
  have hcmp : Go.Proofs.CmpLays Try.prog 69 #[] enc 2 (fun x y => cmpF (f x) (f y)) g 0 (Array.range xs.length).size w := by
    intro m os dk _ x y
    exact impl_CompareEven1 (f x).1 (f x).2 (f y).1 (f y).2 (hok x) (hok y) _
  have hH : HoldsK enc 2 w g 0 (Array.range xs.length) := by
    intro j hj
    rw [size_flatK, Array.size_range] at hj
    refine ⟨?_, how.frozenAt _⟩
    rw [Nat.zero_add, how.cellAt j (by omega), get_flatK _ _ _ _ (by simpa using hj)]
    have hj2 : j / 2 < xs.length := by omega
    have e1 : (Array.range xs.length)[j / 2]! = j / 2 := by simp [hj2]
    have e2 : f (j / 2) = xs[j / 2] := by simp [f, hj2]
    obtain ⟨c1, c2⟩ := hc (j / 2) hj2
    rw [e1]
    simp only [enc, e2]
    rcases Nat.mod_two_eq_zero_or_one j with hm | hm
    · rw [hm]
      have hjj : cs[j]? = cs[j / 2 * 2]? := by congr 1; omega
      rw [hjj, c1]; rfl
    · rw [hm]
      have hjj : cs[j]? = cs[j / 2 * 2 + 1]? := by congr 1; omega
      rw [hjj, c2]; rfl
  have hcon := Go.Proofs.AnyQ.slices_SortFunc laysSortFr 2 (fun w => Try.isAgg60 w) (fun w => Try.sizeOf60 w) enc (fun _ => rfl) (fun x v hv => by simp only [enc, List.mem_cons, List.not_mem_nil, or_false] at hv; rcases hv with rfl | rfl <;> rfl) (fun x y => cmpF (f x) (f y)) (cmpF_swo f fun i => (okF_bd (hok i)).1.1) 69 #[] g 0 c (Array.range xs.length) w (fun args w => by kernel_rfl) hcmp hH hlt (by simp; omega)
  rw [Array.size_range] at hcon
  change Calls Try.prog 71 _ _ _ at hcon
  refine hcon.mono ?_
  rintro e w' ⟨rfl, d', k, os, hp, hso, rfl⟩
  obtain ⟨p1, p2, p3⟩ := hp
  have hds : d'.size = xs.length := by simpa using p1
  have hperm : d'.toList.Perm (List.range xs.length) := by
    have e1 : d'.extract 0 xs.length = d' := by rw [← hds]; exact Array.extract_size
    have e2 : (Array.range xs.length).extract 0 xs.length = Array.range xs.length := by
      conv => lhs; arg 3; rw [← Array.size_range (n := xs.length)]
      exact Array.extract_size
    rw [e1, e2] at p3
    simpa using p3
  have hw : Rng g (g + 1) w (Go.Proofs.sortWorldK enc 2 w g 0 k d' os) := rng_sortedV _ _ _ _ _ _
  refine ⟨rfl, d'.toList.map f, ?_, fun i j hij hj => ?_, ?_, hw⟩
  · refine (hperm.map f).trans ?_
    have e3 : (List.range xs.length).map f = xs := by
      apply List.ext_getElem?
      intro j
      by_cases hj : j < xs.length
      · simp [f, hj]
      · simp [List.getElem?_eq_none (show xs.length ≤ j by omega)]; omega
    rw [e3]
  · have hj' : j < d'.size := by simpa using hj
    have := hso i j (Nat.zero_le _) hij (by omega)
    simp only [Go.Proofs.ltOf, decide_eq_false_iff_not, cmpF_neg] at this
    have e1 : (d'.toList.map f).getD j (0, 1) = f d'[j]! := by simp [hj']
    have e2 : (d'.toList.map f).getD i (0, 1) = f d'[i]! := by simp [show i < d'.size by omega]
    rw [e1, e2]
    exact this
  · refine .inr ⟨g, c, (flatK enc 2 d').toList, by simp [hds], h1, h2, ?_, fun i hi => ?_⟩
    · have := row_sorted2 how (flatK enc 2 d') (by simp [hds]) k os
      simp only [List.length_map, Array.length_toList, hds]
      exact this
    · have hi' : i < d'.size := by simpa using hi
      have e1 : (d'.toList.map f)[i] = f d'[i] := by simp
      rw [e1]
      have s1 : i * 2 < (flatK enc 2 d').size := by simp; omega
      have s2 : i * 2 + 1 < (flatK enc 2 d').size := by simp; omega
      have g1 := get_flatK enc 2 d' (i * 2) (by omega)
      have g2 := get_flatK enc 2 d' (i * 2 + 1) (by omega)
      rw [show i * 2 / 2 = i by omega, show i * 2 % 2 = 0 by omega] at g1
      rw [show (i * 2 + 1) / 2 = i by omega, show (i * 2 + 1) % 2 = 1 by omega] at g2
      rw [getElem!_pos (flatK enc 2 d') (i * 2) s1, getElem!_pos d' i hi'] at g1
      rw [getElem!_pos (flatK enc 2 d') (i * 2 + 1) s2, getElem!_pos d' i hi'] at g2
      refine ⟨?_, ?_⟩
      · rw [Array.getElem?_toList, Array.getElem?_eq_getElem s1, g1]; rfl
      · rw [Array.getElem?_toList, Array.getElem?_eq_getElem s2, g2]; rfl
end Go.Proofs.Ytoedphgoaifojaa
