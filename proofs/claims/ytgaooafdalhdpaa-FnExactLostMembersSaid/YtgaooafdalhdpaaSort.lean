/- slices.Sort at []int64: the library's contract laid at this program, and what it says of a list that a function owns. -/
import Derived.Test.YtgaooafdalhdpaaQueue
import Derived.Test.YtgaooafdalhdpaaBfs
import Derived.Shelf.SortM.Plain
import Derived.Shelf.SortM.SortNone
namespace Go.Proofs.Ytgaooafdalhdpaa
open Go.Shelf Go.RowKit Go.Sort

def laysSort_ren : Go.Shelf.Ren := ⟨fun | 5 => 104 | 8 => 116 | 7 => 115 | 19 => 129 | 20 => 130 | 10 => 120 | 11 => 121 | 12 => 122 | 13 => 123 | 14 => 124 | 15 => 125 | 16 => 126 | 17 => 127 | 18 => 128 | 30 => 131 | 31 => 132 | 32 => 133 | 33 => 134 | 34 => 135 | 35 => 114 | 40 => 136 | n => n, fun | 23 => 29 | 25 => 2 | 3 => 3 | 32 => 78 | 22 => 29 | 0 => 0 | 44 => 112 | 46 => 114 | 4 => 4 | 36 => 104 | 35 => 103 | 41 => 109 | 5 => 5 | 9 => 9 | 53 => 115 | 57 => 119 | 63 => 121 | 64 => 122 | n => n, fun | n => n⟩
theorem laysSort : Go.Proofs.SlLaysM.n5 Try.prog laysSort_ren := {
  mixed := by kernel_rfl
  f5 := ⟨Try.f104.name, by decide, Try.func104.trans (congrArg some (by kernel_rfl))⟩
  f7 := ⟨Try.f115.name, by decide, Try.func115.trans (congrArg some (by kernel_rfl))⟩
  f8 := Try.func116.trans (congrArg some (by kernel_rfl))
  f10 := ⟨Try.f120.name, by decide, Try.func120.trans (congrArg some (by kernel_rfl))⟩
  f11 := ⟨Try.f121.name, by decide, Try.func121.trans (congrArg some (by kernel_rfl))⟩
  f12 := ⟨Try.f122.name, by decide, Try.func122.trans (congrArg some (by kernel_rfl))⟩
  f13 := ⟨Try.f123.name, by decide, Try.func123.trans (congrArg some (by kernel_rfl))⟩
  f14 := ⟨Try.f124.name, by decide, Try.func124.trans (congrArg some (by kernel_rfl))⟩
  f15 := ⟨Try.f125.name, by decide, Try.func125.trans (congrArg some (by kernel_rfl))⟩
  f16 := ⟨Try.f126.name, by decide, Try.func126.trans (congrArg some (by kernel_rfl))⟩
  f17 := ⟨Try.f127.name, by decide, Try.func127.trans (congrArg some (by kernel_rfl))⟩
  f18 := ⟨Try.f128.name, by decide, Try.func128.trans (congrArg some (by kernel_rfl))⟩
  f19 := Try.func129.trans (congrArg some (by kernel_rfl))
  f20 := Try.func130.trans (congrArg some (by kernel_rfl))
  f30 := ⟨Try.f131.name, by decide, Try.func131.trans (congrArg some (by kernel_rfl))⟩
  f31 := Try.func132.trans (congrArg some (by kernel_rfl))
  f32 := Try.func133.trans (congrArg some (by kernel_rfl))
  f33 := ⟨Try.f134.name, by decide, Try.func134.trans (congrArg some (by kernel_rfl))⟩
  f34 := ⟨Try.f135.name, by decide, Try.func135.trans (congrArg some (by kernel_rfl))⟩
  f35 := ⟨Try.f114.name, by decide, Try.func114.trans (congrArg some (by kernel_rfl))⟩
  f40 := ⟨Try.f136.name, by decide, Try.func136.trans (congrArg some (by kernel_rfl))⟩
  t0 := Try.underlying0
  a0 := Try.isAgg0
  z0 := Try.sizeOf0
  v0 := Try.zeroValue0
  t3 := Try.underlying3
  a3 := Try.isAgg3
  z3 := Try.sizeOf3
  v3 := Try.zeroValue3
  t4 := Try.underlying4
  a4 := Try.isAgg4
  z4 := Try.sizeOf4
  v4 := Try.zeroValue4
  t5 := Try.underlying5
  a5 := Try.isAgg5
  z5 := Try.sizeOf5
  v5 := Try.zeroValue5
  t9 := Try.underlying9
  a9 := Try.isAgg9
  z9 := Try.sizeOf9
  v9 := Try.zeroValue9
  t22 := Try.underlying29
  a22 := Try.isAgg29
  z22 := Try.sizeOf29
  v22 := Try.zeroValue29
  t23 := Try.underlying29
  a23 := Try.isAgg29
  z23 := Try.sizeOf29
  v23 := Try.zeroValue29
  t25 := Try.underlying2
  a25 := Try.isAgg2
  z25 := Try.sizeOf2
  v25 := Try.zeroValue2
  t32 := Try.underlying78
  a32 := Try.isAgg78
  z32 := Try.sizeOf78
  v32 := Try.zeroValue78
  t35 := Try.underlying103
  a35 := Try.isAgg103
  z35 := Try.sizeOf103
  v35 := Try.zeroValue103
  t36 := Try.underlying104
  a36 := Try.isAgg104
  z36 := Try.sizeOf104
  v36 := Try.zeroValue104
  t41 := Try.underlying109
  a41 := Try.isAgg109
  z41 := Try.sizeOf109
  v41 := Try.zeroValue109
  t44 := Try.underlying112
  a44 := Try.isAgg112
  z44 := Try.sizeOf112
  v44 := Try.zeroValue112
  t46 := Try.underlying114
  a46 := Try.isAgg114
  z46 := Try.sizeOf114
  v46 := Try.zeroValue114
  t53 := Try.underlying115
  a53 := Try.isAgg115
  z53 := Try.sizeOf115
  v53 := Try.zeroValue115
  t57 := Try.underlying119
  a57 := Try.isAgg119
  z57 := Try.sizeOf119
  v57 := Try.zeroValue119
  t63 := Try.underlying121
  a63 := Try.isAgg121
  z63 := Try.sizeOf121
  v63 := Try.zeroValue121
  t64 := Try.underlying122
  a64 := Try.isAgg122
  z64 := Try.sizeOf122
  v64 := Try.zeroValue122 }

theorem rng_sorted (enc : Int → Value) (w : World) (g off n : Nat) (d : Array Int) (os : Array Obj) : Rng g (g + 1) w (grow (putRow enc (Sort.ahead w n) g off d) os) := by
  refine ⟨rfl, rfl, rfl, ?_, fun k hk hr => ?_⟩
  · simp [grow, putRow, mapBlock, Sort.ahead]
  · simp only [grow, putRow, mapBlock, Sort.ahead]
    rw [Array.getElem?_append_left (by simpa using hk), Array.getElem?_modify, if_neg (by omega)]
theorem own_sorted {lo hi g n c : Nat} {w : World} {xs ys : List Int} (h : OwnI lo hi w (.slice (some ⟨g, 0, none⟩) n c) xs) (hl : ys.length = xs.length) (m : Nat) (os : Array Obj) : OwnI lo hi (grow (putRow (Value.int .i64) (Sort.ahead w m) g 0 ys.toArray) os) (.slice (some ⟨g, 0, none⟩) n c) ys := by
  rcases h with ⟨e, _⟩ | ⟨g', cap, e, h1, h2, h3⟩
  · cases e
  simp only [Value.slice.injEq, Option.some.injEq, Addr.mk.injEq, and_true] at e
  obtain ⟨rfl, rfl, rfl⟩ := e
  refine .inr ⟨g, c, by rw [hl], h1, h2, by simp, ?_⟩
  rcases h3.2 with ⟨e, _⟩ | ⟨g', cap', cur, e, q1, q2, q3, q4, q5, q6⟩
  · cases e
  simp only [Value.slice.injEq, Option.some.injEq, Addr.mk.injEq, and_true, true_and] at e
  obtain ⟨rfl, rfl⟩ := e
  refine .inr ⟨g, c, putCells (Value.int .i64) 0 ys.toArray cur, by rw [hl], q1, ?_, by omega, q4, by simpa [putCells] using q5, ?_⟩
  · have hgs := (Array.getElem?_eq_some_iff.1 q2).1
    simp only [grow, putRow, mapBlock, Sort.ahead]
    rw [Array.getElem?_append_left (by simpa using hgs), Array.getElem?_modify, if_pos rfl, q2]
    rfl
  · apply List.ext_getElem?
    intro j
    rw [List.getElem?_take]
    by_cases hj : j < ys.length
    · have hjc : j < cur.size := by omega
      rw [if_pos (by simpa using hj)]
      simp [putCells, hj, hjc]
    · rw [if_neg (by simpa using hj)]
      simp [hj]

theorem slices_Sort {lo hi g n c : Nat} (xs : List Int) (w : World) (h : OwnI lo hi w (.slice (some ⟨g, 0, none⟩) n c) xs) (hn : xs.length ≤ 1099511627776) :
    Calls Try.prog 104 #[.slice (some ⟨g, 0, none⟩) n c] w fun e w' => e = .returned (.tuple #[]) ∧ OwnI lo hi w' (.slice (some ⟨g, 0, none⟩) n c) (sortI xs) ∧ Rng g (g + 1) w w' := by
  have hlen : n = xs.length := by
    rcases h with ⟨e, _⟩ | ⟨g', cap, e, h1, h2, h3⟩
    · cases e
    · simp only [Value.slice.injEq] at e; exact e.2.1
  subst hlen
  have hi' := OwnI.is h (by simp)
  obtain ⟨g', off, cap, e, hlc, hb, hc⟩ := hi'
  simp only [Value.slice.injEq, Option.some.injEq, Addr.mk.injEq, and_true, true_and] at e
  obtain ⟨⟨rfl, rfl⟩, rfl⟩ := e
  have hF : ∀ j, w.frozen? ⟨g, j, none⟩ = false := by
    rcases h with ⟨e, _⟩ | ⟨g', cap, e, h1, h2, h3⟩
    · cases e
    · simp only [Value.slice.injEq, Option.some.injEq, Addr.mk.injEq, and_true, true_and] at e
      obtain ⟨rfl, rfl⟩ := e
      exact fun j => h3.frozenAt j
  have hH : Holds (Value.int .i64) w g 0 xs.toArray := by
    intro j hj
    have hj' : j < xs.length := by simpa using hj
    exact ⟨by rw [hc j hj']; simp [hj'], hF _⟩
  have hcon := Go.Proofs.AnyM.slices_Sort_int laysSort g 0 c xs w hH hb.lt (by omega)
  change Calls Try.prog 104 _ _ _ at hcon
  refine hcon.mono ?_
  rintro e w' ⟨rfl, m, os, rfl⟩
  exact ⟨rfl, own_sorted h (sortI_perm xs).length_eq m os, rng_sorted _ _ _ _ _ _ _⟩
end Go.Proofs.Ytgaooafdalhdpaa
