/- slices.Sort at []int64: the library's contract laid at this program, and what it says of a list that a function owns. -/
import Derived.Test.YtomkhjcejjkelaaQueue
import Derived.Test.YtomkhjcejjkelaaSortI
import Derived.Shelf.SortM.Plain
import Derived.Shelf.SortM.SortNone
namespace Go.Proofs.Ytomkhjcejjkelaa
open Go.Shelf Go.RowKit Go.Sort

def laysSort_ren : Go.Shelf.Ren := ⟨fun | 5 => 55 | 8 => 62 | 7 => 61 | 19 => 73 | 20 => 74 | 10 => 64 | 11 => 65 | 12 => 66 | 13 => 67 | 14 => 68 | 15 => 69 | 16 => 70 | 17 => 71 | 18 => 72 | 30 => 75 | 31 => 76 | 32 => 77 | 33 => 78 | 34 => 79 | 35 => 56 | 40 => 80 | n => n, fun | 23 => 22 | 25 => 2 | 3 => 3 | 32 => 50 | 22 => 22 | 0 => 0 | 44 => 89 | 46 => 91 | 4 => 4 | 36 => 81 | 35 => 80 | 41 => 86 | 5 => 5 | 9 => 9 | 53 => 92 | 57 => 96 | 63 => 98 | 64 => 99 | n => n, fun | n => n⟩
theorem laysSort : Go.Proofs.SlLaysM.n5 Try.prog laysSort_ren := {
  mixed := by kernel_rfl
  f5 := ⟨Try.f55.name, by decide, Try.func55.trans (congrArg some (by kernel_rfl))⟩
  f7 := ⟨Try.f61.name, by decide, Try.func61.trans (congrArg some (by kernel_rfl))⟩
  f8 := Try.func62.trans (congrArg some (by kernel_rfl))
  f10 := ⟨Try.f64.name, by decide, Try.func64.trans (congrArg some (by kernel_rfl))⟩
  f11 := ⟨Try.f65.name, by decide, Try.func65.trans (congrArg some (by kernel_rfl))⟩
  f12 := ⟨Try.f66.name, by decide, Try.func66.trans (congrArg some (by kernel_rfl))⟩
  f13 := ⟨Try.f67.name, by decide, Try.func67.trans (congrArg some (by kernel_rfl))⟩
  f14 := ⟨Try.f68.name, by decide, Try.func68.trans (congrArg some (by kernel_rfl))⟩
  f15 := ⟨Try.f69.name, by decide, Try.func69.trans (congrArg some (by kernel_rfl))⟩
  f16 := ⟨Try.f70.name, by decide, Try.func70.trans (congrArg some (by kernel_rfl))⟩
  f17 := ⟨Try.f71.name, by decide, Try.func71.trans (congrArg some (by kernel_rfl))⟩
  f18 := ⟨Try.f72.name, by decide, Try.func72.trans (congrArg some (by kernel_rfl))⟩
  f19 := Try.func73.trans (congrArg some (by kernel_rfl))
  f20 := Try.func74.trans (congrArg some (by kernel_rfl))
  f30 := ⟨Try.f75.name, by decide, Try.func75.trans (congrArg some (by kernel_rfl))⟩
  f31 := Try.func76.trans (congrArg some (by kernel_rfl))
  f32 := Try.func77.trans (congrArg some (by kernel_rfl))
  f33 := ⟨Try.f78.name, by decide, Try.func78.trans (congrArg some (by kernel_rfl))⟩
  f34 := ⟨Try.f79.name, by decide, Try.func79.trans (congrArg some (by kernel_rfl))⟩
  f35 := ⟨Try.f56.name, by decide, Try.func56.trans (congrArg some (by kernel_rfl))⟩
  f40 := ⟨Try.f80.name, by decide, Try.func80.trans (congrArg some (by kernel_rfl))⟩
  t0 := Try.underlying0
  a0 := Try.isAgg0
  z0 := Try.sizeOf0
  v0 := Try.zeroValue0
  t3 := Try.underlying3
  a3 := Try.isAgg3
  z3 := Try.sizeOf3
  v3 := Try.zeroValue3
  t4 := Try.underlying4
  a4 := Try.isAgg4
  z4 := Try.sizeOf4
  v4 := Try.zeroValue4
  t5 := Try.underlying5
  a5 := Try.isAgg5
  z5 := Try.sizeOf5
  v5 := Try.zeroValue5
  t9 := Try.underlying9
  a9 := Try.isAgg9
  z9 := Try.sizeOf9
  v9 := Try.zeroValue9
  t22 := Try.underlying22
  a22 := Try.isAgg22
  z22 := Try.sizeOf22
  v22 := Try.zeroValue22
  t23 := Try.underlying22
  a23 := Try.isAgg22
  z23 := Try.sizeOf22
  v23 := Try.zeroValue22
  t25 := Try.underlying2
  a25 := Try.isAgg2
  z25 := Try.sizeOf2
  v25 := Try.zeroValue2
  t32 := Try.underlying50
  a32 := Try.isAgg50
  z32 := Try.sizeOf50
  v32 := Try.zeroValue50
  t35 := Try.underlying80
  a35 := Try.isAgg80
  z35 := Try.sizeOf80
  v35 := Try.zeroValue80
  t36 := Try.underlying81
  a36 := Try.isAgg81
  z36 := Try.sizeOf81
  v36 := Try.zeroValue81
  t41 := Try.underlying86
  a41 := Try.isAgg86
  z41 := Try.sizeOf86
  v41 := Try.zeroValue86
  t44 := Try.underlying89
  a44 := Try.isAgg89
  z44 := Try.sizeOf89
  v44 := Try.zeroValue89
  t46 := Try.underlying91
  a46 := Try.isAgg91
  z46 := Try.sizeOf91
  v46 := Try.zeroValue91
  t53 := Try.underlying92
  a53 := Try.isAgg92
  z53 := Try.sizeOf92
  v53 := Try.zeroValue92
  t57 := Try.underlying96
  a57 := Try.isAgg96
  z57 := Try.sizeOf96
  v57 := Try.zeroValue96
  t63 := Try.underlying98
  a63 := Try.isAgg98
  z63 := Try.sizeOf98
  v63 := Try.zeroValue98
  t64 := Try.underlying99
  a64 := Try.isAgg99
  z64 := Try.sizeOf99
  v64 := Try.zeroValue99 }

theorem rng_sorted (enc : Int → Value) (w : World) (g off n : Nat) (d : Array Int) (os : Array Obj) : Rng g (g + 1) w (grow (putRow enc (Sort.ahead w n) g off d) os) := by
  refine ⟨rfl, rfl, rfl, ?_, fun k hk hr => ?_⟩
  · simp [grow, putRow, mapBlock, Sort.ahead]
  · simp only [grow, putRow, mapBlock, Sort.ahead]
    rw [Array.getElem?_append_left (by simpa using hk), Array.getElem?_modify, if_neg (by omega)]
theorem own_sorted {lo hi g n c : Nat} {w : World} {xs ys : List Int} (h : OwnI lo hi w (.slice (some ⟨g, 0, none⟩) n c) xs) (hl : ys.length = xs.length) (m : Nat) (os : Array Obj) : OwnI lo hi (grow (putRow (Value.int .i64) (Sort.ahead w m) g 0 ys.toArray) os) (.slice (some ⟨g, 0, none⟩) n c) ys := by
  rcases h with ⟨e, _⟩ | ⟨g', cap, e, h1, h2, h3⟩
  · cases e
  simp only [Value.slice.injEq, Option.some.injEq, Addr.mk.injEq, and_true] at e
  obtain ⟨rfl, rfl, rfl⟩ := e
  refine .inr ⟨g, c, by rw [hl], h1, h2, by simp, ?_⟩
  rcases h3.2 with ⟨e, _⟩ | ⟨g', cap', cur, e, q1, q2, q3, q4, q5, q6⟩
  · cases e
  simp only [Value.slice.injEq, Option.some.injEq, Addr.mk.injEq, and_true, true_and] at e
  obtain ⟨rfl, rfl⟩ := e
  refine .inr ⟨g, c, putCells (Value.int .i64) 0 ys.toArray cur, by rw [hl], q1, ?_, by omega, q4, by simpa [putCells] using q5, ?_⟩
  · have hgs := (Array.getElem?_eq_some_iff.1 q2).1
    simp only [grow, putRow, mapBlock, Sort.ahead]
    rw [Array.getElem?_append_left (by simpa using hgs), Array.getElem?_modify, if_pos rfl, q2]
    rfl
  · apply List.ext_getElem?
    intro j
    rw [List.getElem?_take]
    by_cases hj : j < ys.length
    · have hjc : j < cur.size := by omega
      rw [if_pos (by simpa using hj)]
      simp [putCells, hj, hjc]
    · rw [if_neg (by simpa using hj)]
      simp [hj]

theorem slices_Sort {lo hi g n c : Nat} (xs : List Int) (w : World) (h : OwnI lo hi w (.slice (some ⟨g, 0, none⟩) n c) xs) (hn : xs.length ≤ 1099511627776) :
    Calls Try.prog 55 #[.slice (some ⟨g, 0, none⟩) n c] w fun e w' => e = .returned (.tuple #[]) ∧ OwnI lo hi w' (.slice (some ⟨g, 0, none⟩) n c) (sortI xs) ∧ Rng g (g + 1) w w' := by
  have hlen : n = xs.length := by
    rcases h with ⟨e, _⟩ | ⟨g', cap, e, h1, h2, h3⟩
    · cases e
    · simp only [Value.slice.injEq] at e; exact e.2.1
  subst hlen
  have hi' := OwnI.is h (by simp)
  obtain ⟨g', off, cap, e, hlc, hb, hc⟩ := hi'
  simp only [Value.slice.injEq, Option.some.injEq, Addr.mk.injEq, and_true, true_and] at e
  obtain ⟨⟨rfl, rfl⟩, rfl⟩ := e
  have hF : ∀ j, w.frozen? ⟨g, j, none⟩ = false := by
    rcases h with ⟨e, _⟩ | ⟨g', cap, e, h1, h2, h3⟩
    · cases e
    · simp only [Value.slice.injEq, Option.some.injEq, Addr.mk.injEq, and_true, true_and] at e
      obtain ⟨rfl, rfl⟩ := e
      exact fun j => h3.frozenAt j
  have hH : Holds (Value.int .i64) w g 0 xs.toArray := by
    intro j hj
    have hj' : j < xs.length := by simpa using hj
    exact ⟨by rw [hc j hj']; simp [hj'], hF _⟩
  have hcon := Go.Proofs.AnyM.slices_Sort_int laysSort g 0 c xs w hH hb.lt (by omega)
  change Calls Try.prog 55 _ _ _ at hcon
  refine hcon.mono ?_
  rintro e w' ⟨rfl, m, os, rfl⟩
  exact ⟨rfl, own_sorted h (sortI_perm xs).length_eq m os, rng_sorted _ _ _ _ _ _ _⟩
end Go.Proofs.Ytomkhjcejjkelaa
