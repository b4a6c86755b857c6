/- slices.Sort at []int64: the library's contract laid at this program, and what it says of a list that a function owns. -/
import Derived.Test.YtoedphgoaifojaaQueue
import Derived.Test.YtoedphgoaifojaaSortI
import Derived.Shelf.SortM.Plain
import Derived.Shelf.SortM.SortNone
namespace Go.Proofs.Ytoedphgoaifojaa
open Go.Shelf Go.RowKit Go.Sort

def laysSort_ren : Go.Shelf.Ren := ⟨fun | 5 => 76 | 8 => 102 | 7 => 103 | 19 => 127 | 20 => 128 | 10 => 129 | 11 => 130 | 12 => 131 | 13 => 132 | 14 => 133 | 15 => 134 | 16 => 135 | 17 => 136 | 18 => 137 | 30 => 146 | 31 => 142 | 32 => 143 | 33 => 147 | 34 => 148 | 35 => 149 | 40 => 159 | n => n, fun | 23 => 33 | 25 => 2 | 3 => 3 | 32 => 111 | 22 => 33 | 0 => 0 | 44 => 131 | 46 => 133 | 4 => 4 | 36 => 124 | 35 => 123 | 41 => 128 | 5 => 5 | 9 => 9 | 53 => 143 | 57 => 147 | 63 => 156 | 64 => 157 | n => n, fun | n => n⟩
theorem laysSort : Go.Proofs.SlLaysM.n5 Try.prog laysSort_ren := {
  mixed := by kernel_rfl
  f5 := ⟨Try.f76.name, by decide, Try.func76.trans (congrArg some (by kernel_rfl))⟩
  f7 := ⟨Try.f103.name, by decide, Try.func103.trans (congrArg some (by kernel_rfl))⟩
  f8 := Try.func102.trans (congrArg some (by kernel_rfl))
  f10 := ⟨Try.f129.name, by decide, Try.func129.trans (congrArg some (by kernel_rfl))⟩
  f11 := ⟨Try.f130.name, by decide, Try.func130.trans (congrArg some (by kernel_rfl))⟩
  f12 := ⟨Try.f131.name, by decide, Try.func131.trans (congrArg some (by kernel_rfl))⟩
  f13 := ⟨Try.f132.name, by decide, Try.func132.trans (congrArg some (by kernel_rfl))⟩
  f14 := ⟨Try.f133.name, by decide, Try.func133.trans (congrArg some (by kernel_rfl))⟩
  f15 := ⟨Try.f134.name, by decide, Try.func134.trans (congrArg some (by kernel_rfl))⟩
  f16 := ⟨Try.f135.name, by decide, Try.func135.trans (congrArg some (by kernel_rfl))⟩
  f17 := ⟨Try.f136.name, by decide, Try.func136.trans (congrArg some (by kernel_rfl))⟩
  f18 := ⟨Try.f137.name, by decide, Try.func137.trans (congrArg some (by kernel_rfl))⟩
  f19 := Try.func127.trans (congrArg some (by kernel_rfl))
  f20 := Try.func128.trans (congrArg some (by kernel_rfl))
  f30 := ⟨Try.f146.name, by decide, Try.func146.trans (congrArg some (by kernel_rfl))⟩
  f31 := Try.func142.trans (congrArg some (by kernel_rfl))
  f32 := Try.func143.trans (congrArg some (by kernel_rfl))
  f33 := ⟨Try.f147.name, by decide, Try.func147.trans (congrArg some (by kernel_rfl))⟩
  f34 := ⟨Try.f148.name, by decide, Try.func148.trans (congrArg some (by kernel_rfl))⟩
  f35 := ⟨Try.f149.name, by decide, Try.func149.trans (congrArg some (by kernel_rfl))⟩
  f40 := ⟨Try.f159.name, by decide, Try.func159.trans (congrArg some (by kernel_rfl))⟩
  t0 := Try.underlying0
  a0 := Try.isAgg0
  z0 := Try.sizeOf0
  v0 := Try.zeroValue0
  t3 := Try.underlying3
  a3 := Try.isAgg3
  z3 := Try.sizeOf3
  v3 := Try.zeroValue3
  t4 := Try.underlying4
  a4 := Try.isAgg4
  z4 := Try.sizeOf4
  v4 := Try.zeroValue4
  t5 := Try.underlying5
  a5 := Try.isAgg5
  z5 := Try.sizeOf5
  v5 := Try.zeroValue5
  t9 := Try.underlying9
  a9 := Try.isAgg9
  z9 := Try.sizeOf9
  v9 := Try.zeroValue9
  t22 := Try.underlying33
  a22 := Try.isAgg33
  z22 := Try.sizeOf33
  v22 := Try.zeroValue33
  t23 := Try.underlying33
  a23 := Try.isAgg33
  z23 := Try.sizeOf33
  v23 := Try.zeroValue33
  t25 := Try.underlying2
  a25 := Try.isAgg2
  z25 := Try.sizeOf2
  v25 := Try.zeroValue2
  t32 := Try.underlying111
  a32 := Try.isAgg111
  z32 := Try.sizeOf111
  v32 := Try.zeroValue111
  t35 := Try.underlying123
  a35 := Try.isAgg123
  z35 := Try.sizeOf123
  v35 := Try.zeroValue123
  t36 := Try.underlying124
  a36 := Try.isAgg124
  z36 := Try.sizeOf124
  v36 := Try.zeroValue124
  t41 := Try.underlying128
  a41 := Try.isAgg128
  z41 := Try.sizeOf128
  v41 := Try.zeroValue128
  t44 := Try.underlying131
  a44 := Try.isAgg131
  z44 := Try.sizeOf131
  v44 := Try.zeroValue131
  t46 := Try.underlying133
  a46 := Try.isAgg133
  z46 := Try.sizeOf133
  v46 := Try.zeroValue133
  t53 := Try.underlying143
  a53 := Try.isAgg143
  z53 := Try.sizeOf143
  v53 := Try.zeroValue143
  t57 := Try.underlying147
  a57 := Try.isAgg147
  z57 := Try.sizeOf147
  v57 := Try.zeroValue147
  t63 := Try.underlying156
  a63 := Try.isAgg156
  z63 := Try.sizeOf156
  v63 := Try.zeroValue156
  t64 := Try.underlying157
  a64 := Try.isAgg157
  z64 := Try.sizeOf157
  v64 := Try.zeroValue157 }

theorem rng_sorted (enc : Int → Value) (w : World) (g off n : Nat) (d : Array Int) (os : Array Obj) : Rng g (g + 1) w (grow (putRow enc (Sort.ahead w n) g off d) os) := by
  refine ⟨rfl, rfl, rfl, ?_, fun k hk hr => ?_⟩
  · simp [grow, putRow, mapBlock, Sort.ahead]
  · simp only [grow, putRow, mapBlock, Sort.ahead]
    rw [Array.getElem?_append_left (by simpa using hk), Array.getElem?_modify, if_neg (by omega)]
theorem own_sorted {lo hi g n c : Nat} {w : World} {xs ys : List Int} (h : OwnI lo hi w (.slice (some ⟨g, 0, none⟩) n c) xs) (hl : ys.length = xs.length) (m : Nat) (os : Array Obj) : OwnI lo hi (grow (putRow (Value.int .i64) (Sort.ahead w m) g 0 ys.toArray) os) (.slice (some ⟨g, 0, none⟩) n c) ys := by
  rcases h with ⟨e, _⟩ | ⟨g', cap, e, h1, h2, h3⟩
  · cases e
  simp only [Value.slice.injEq, Option.some.injEq, Addr.mk.injEq, and_true] at e
  obtain ⟨rfl, rfl, rfl⟩ := e
  refine .inr ⟨g, c, by rw [hl], h1, h2, by simp, ?_⟩
  rcases h3.2 with ⟨e, _⟩ | ⟨g', cap', cur, e, q1, q2, q3, q4, q5, q6⟩
  · cases e
  simp only [Value.slice.injEq, Option.some.injEq, Addr.mk.injEq, and_true, true_and] at e
  obtain ⟨rfl, rfl⟩ := e
  refine .inr ⟨g, c, putCells (Value.int .i64) 0 ys.toArray cur, by rw [hl], q1, ?_, by omega, q4, by simpa [putCells] using q5, ?_⟩
  · have hgs := (Array.getElem?_eq_some_iff.1 q2).1
    simp only [grow, putRow, mapBlock, Sort.ahead]
    rw [Array.getElem?_append_left (by simpa using hgs), Array.getElem?_modify, if_pos rfl, q2]
    rfl
  · apply List.ext_getElem?
    intro j
    rw [List.getElem?_take]
    by_cases hj : j < ys.length
    · have hjc : j < cur.size := by omega
      rw [if_pos (by simpa using hj)]
      simp [putCells, hj, hjc]
    · rw [if_neg (by simpa using hj)]
      simp [hj]

theorem slices_Sort {lo hi g n c : Nat} (xs : List Int) (w : World) (h : OwnI lo hi w (.slice (some ⟨g, 0, none⟩) n c) xs) (hn : xs.length ≤ 1099511627776) :
    Calls Try.prog 76 #[.slice (some ⟨g, 0, none⟩) n c] w fun e w' => e = .returned (.tuple #[]) ∧ OwnI lo hi w' (.slice (some ⟨g, 0, none⟩) n c) (sortI xs) ∧ Rng g (g + 1) w w' := by
  have hlen : n = xs.length := by
    rcases h with ⟨e, _⟩ | ⟨g', cap, e, h1, h2, h3⟩
    · cases e
    · simp only [Value.slice.injEq] at e; exact e.2.1
  subst hlen
  have hi' := OwnI.is h (by simp)
  obtain ⟨g', off, cap, e, hlc, hb, hc⟩ := hi'
  simp only [Value.slice.injEq, Option.some.injEq, Addr.mk.injEq, and_true, true_and] at e
  obtain ⟨⟨rfl, rfl⟩, rfl⟩ := e
  have hF : ∀ j, w.frozen? ⟨g, j, none⟩ = false := by
    rcases h with ⟨e, _⟩ | ⟨g', cap, e, h1, h2, h3⟩
    · cases e
    · simp only [Value.slice.injEq, Option.some.injEq, Addr.mk.injEq, and_true, true_and] at e
      obtain ⟨rfl, rfl⟩ := e
      exact fun j => h3.frozenAt j
  have hH : Holds (Value.int .i64) w g 0 xs.toArray := by
    intro j hj
    have hj' : j < xs.length := by simpa using hj
    exact ⟨by rw [hc j hj']; simp [hj'], hF _⟩
  have hcon := Go.Proofs.AnyM.slices_Sort_int laysSort g 0 c xs w hH hb.lt (by omega)
  change Calls Try.prog 76 _ _ _ at hcon
  refine hcon.mono ?_
  rintro e w' ⟨rfl, m, os, rfl⟩
  exact ⟨rfl, own_sorted h (sortI_perm xs).length_eq m os, rng_sorted _ _ _ _ _ _ _⟩
end Go.Proofs.Ytoedphgoaifojaa
