/- slices.Sort at []int64: the library's contract laid at this program, and what it says of a list that a function owns. -/
import Derived.Test.YthcomgnokkndgaaQueue
import Derived.Test.YthcomgnokkndgaaSortI
import Derived.Shelf.SortM.Plain
import Derived.Shelf.SortM.SortNone
namespace Go.Proofs.Ythcomgnokkndgaa
open Go.Shelf Go.RowKit Go.Sort

def laysSort_ren : Go.Shelf.Ren := ⟨fun | 5 => 37 | 8 => 41 | 7 => 40 | 19 => 51 | 20 => 52 | 10 => 42 | 11 => 43 | 12 => 44 | 13 => 45 | 14 => 46 | 15 => 47 | 16 => 48 | 17 => 49 | 18 => 50 | 30 => 53 | 31 => 54 | 32 => 55 | 33 => 56 | 34 => 57 | 35 => 58 | 40 => 59 | n => n, fun | 23 => 24 | 25 => 2 | 3 => 3 | 32 => 64 | 22 => 24 | 0 => 0 | 44 => 75 | 46 => 77 | 4 => 4 | 36 => 67 | 35 => 66 | 41 => 72 | 5 => 5 | 9 => 9 | 53 => 78 | 57 => 82 | 63 => 84 | 64 => 85 | n => n, fun | n => n⟩
theorem laysSort : Go.Proofs.SlLaysM.n5 Try.prog laysSort_ren := {
  mixed := by kernel_rfl
  f5 := ⟨Try.f37.name, by decide, Try.func37.trans (congrArg some (by kernel_rfl))⟩
  f7 := ⟨Try.f40.name, by decide, Try.func40.trans (congrArg some (by kernel_rfl))⟩
  f8 := Try.func41.trans (congrArg some (by kernel_rfl))
  f10 := ⟨Try.f42.name, by decide, Try.func42.trans (congrArg some (by kernel_rfl))⟩
  f11 := ⟨Try.f43.name, by decide, Try.func43.trans (congrArg some (by kernel_rfl))⟩
  f12 := ⟨Try.f44.name, by decide, Try.func44.trans (congrArg some (by kernel_rfl))⟩
  f13 := ⟨Try.f45.name, by decide, Try.func45.trans (congrArg some (by kernel_rfl))⟩
  f14 := ⟨Try.f46.name, by decide, Try.func46.trans (congrArg some (by kernel_rfl))⟩
  f15 := ⟨Try.f47.name, by decide, Try.func47.trans (congrArg some (by kernel_rfl))⟩
  f16 := ⟨Try.f48.name, by decide, Try.func48.trans (congrArg some (by kernel_rfl))⟩
  f17 := ⟨Try.f49.name, by decide, Try.func49.trans (congrArg some (by kernel_rfl))⟩
  f18 := ⟨Try.f50.name, by decide, Try.func50.trans (congrArg some (by kernel_rfl))⟩
  f19 := Try.func51.trans (congrArg some (by kernel_rfl))
  f20 := Try.func52.trans (congrArg some (by kernel_rfl))
  f30 := ⟨Try.f53.name, by decide, Try.func53.trans (congrArg some (by kernel_rfl))⟩
  f31 := Try.func54.trans (congrArg some (by kernel_rfl))
  f32 := Try.func55.trans (congrArg some (by kernel_rfl))
  f33 := ⟨Try.f56.name, by decide, Try.func56.trans (congrArg some (by kernel_rfl))⟩
  f34 := ⟨Try.f57.name, by decide, Try.func57.trans (congrArg some (by kernel_rfl))⟩
  f35 := ⟨Try.f58.name, by decide, Try.func58.trans (congrArg some (by kernel_rfl))⟩
  f40 := ⟨Try.f59.name, by decide, Try.func59.trans (congrArg some (by kernel_rfl))⟩
  t0 := Try.underlying0
  a0 := Try.isAgg0
  z0 := Try.sizeOf0
  v0 := Try.zeroValue0
  t3 := Try.underlying3
  a3 := Try.isAgg3
  z3 := Try.sizeOf3
  v3 := Try.zeroValue3
  t4 := Try.underlying4
  a4 := Try.isAgg4
  z4 := Try.sizeOf4
  v4 := Try.zeroValue4
  t5 := Try.underlying5
  a5 := Try.isAgg5
  z5 := Try.sizeOf5
  v5 := Try.zeroValue5
  t9 := Try.underlying9
  a9 := Try.isAgg9
  z9 := Try.sizeOf9
  v9 := Try.zeroValue9
  t22 := Try.underlying24
  a22 := Try.isAgg24
  z22 := Try.sizeOf24
  v22 := Try.zeroValue24
  t23 := Try.underlying24
  a23 := Try.isAgg24
  z23 := Try.sizeOf24
  v23 := Try.zeroValue24
  t25 := Try.underlying2
  a25 := Try.isAgg2
  z25 := Try.sizeOf2
  v25 := Try.zeroValue2
  t32 := Try.underlying64
  a32 := Try.isAgg64
  z32 := Try.sizeOf64
  v32 := Try.zeroValue64
  t35 := Try.underlying66
  a35 := Try.isAgg66
  z35 := Try.sizeOf66
  v35 := Try.zeroValue66
  t36 := Try.underlying67
  a36 := Try.isAgg67
  z36 := Try.sizeOf67
  v36 := Try.zeroValue67
  t41 := Try.underlying72
  a41 := Try.isAgg72
  z41 := Try.sizeOf72
  v41 := Try.zeroValue72
  t44 := Try.underlying75
  a44 := Try.isAgg75
  z44 := Try.sizeOf75
  v44 := Try.zeroValue75
  t46 := Try.underlying77
  a46 := Try.isAgg77
  z46 := Try.sizeOf77
  v46 := Try.zeroValue77
  t53 := Try.underlying78
  a53 := Try.isAgg78
  z53 := Try.sizeOf78
  v53 := Try.zeroValue78
  t57 := Try.underlying82
  a57 := Try.isAgg82
  z57 := Try.sizeOf82
  v57 := Try.zeroValue82
  t63 := Try.underlying84
  a63 := Try.isAgg84
  z63 := Try.sizeOf84
  v63 := Try.zeroValue84
  t64 := Try.underlying85
  a64 := Try.isAgg85
  z64 := Try.sizeOf85
  v64 := Try.zeroValue85 }

theorem rng_sorted (enc : Int → Value) (w : World) (g off n : Nat) (d : Array Int) (os : Array Obj) : Rng g (g + 1) w (grow (putRow enc (Sort.ahead w n) g off d) os) := by
  refine ⟨rfl, rfl, rfl, ?_, fun k hk hr => ?_⟩
  · simp [grow, putRow, mapBlock, Sort.ahead]
  · simp only [grow, putRow, mapBlock, Sort.ahead]
    rw [Array.getElem?_append_left (by simpa using hk), Array.getElem?_modify, if_neg (by omega)]
theorem own_sorted {lo hi g n c : Nat} {w : World} {xs ys : List Int} (h : OwnI lo hi w (.slice (some ⟨g, 0, none⟩) n c) xs) (hl : ys.length = xs.length) (m : Nat) (os : Array Obj) : OwnI lo hi (grow (putRow (Value.int .i64) (Sort.ahead w m) g 0 ys.toArray) os) (.slice (some ⟨g, 0, none⟩) n c) ys := by
  rcases h with ⟨e, _⟩ | ⟨g', cap, e, h1, h2, h3⟩
  · cases e
  simp only [Value.slice.injEq, Option.some.injEq, Addr.mk.injEq, and_true] at e
  obtain ⟨rfl, rfl, rfl⟩ := e
  refine .inr ⟨g, c, by rw [hl], h1, h2, by simp, ?_⟩
  rcases h3.2 with ⟨e, _⟩ | ⟨g', cap', cur, e, q1, q2, q3, q4, q5, q6⟩
  · cases e
  simp only [Value.slice.injEq, Option.some.injEq, Addr.mk.injEq, and_true, true_and] at e
  obtain ⟨rfl, rfl⟩ := e
  refine .inr ⟨g, c, putCells (Value.int .i64) 0 ys.toArray cur, by rw [hl], q1, ?_, by omega, q4, by simpa [putCells] using q5, ?_⟩
  · have hgs := (Array.getElem?_eq_some_iff.1 q2).1
    simp only [grow, putRow, mapBlock, Sort.ahead]
    rw [Array.getElem?_append_left (by simpa using hgs), Array.getElem?_modify, if_pos rfl, q2]
    rfl
  · apply List.ext_getElem?
    intro j
    rw [List.getElem?_take]
    by_cases hj : j < ys.length
    · have hjc : j < cur.size := by omega
      rw [if_pos (by simpa using hj)]
      simp [putCells, hj, hjc]
    · rw [if_neg (by simpa using hj)]
      simp [hj]

theorem slices_Sort {lo hi g n c : Nat} (xs : List Int) (w : World) (h : OwnI lo hi w (.slice (some ⟨g, 0, none⟩) n c) xs) (hn : xs.length ≤ 1099511627776) :
    Calls Try.prog 37 #[.slice (some ⟨g, 0, none⟩) n c] w fun e w' => e = .returned (.tuple #[]) ∧ OwnI lo hi w' (.slice (some ⟨g, 0, none⟩) n c) (sortI xs) ∧ Rng g (g + 1) w w' := by
  have hlen : n = xs.length := by
    rcases h with ⟨e, _⟩ | ⟨g', cap, e, h1, h2, h3⟩
    · cases e
    · simp only [Value.slice.injEq] at e; exact e.2.1
  subst hlen
  have hi' := OwnI.is h (by simp)
  obtain ⟨g', off, cap, e, hlc, hb, hc⟩ := hi'
  simp only [Value.slice.injEq, Option.some.injEq, Addr.mk.injEq, and_true, true_and] at e
  obtain ⟨⟨rfl, rfl⟩, rfl⟩ := e
  have hF : ∀ j, w.frozen? ⟨g, j, none⟩ = false := by
    rcases h with ⟨e, _⟩ | ⟨g', cap, e, h1, h2, h3⟩
    · cases e
    · simp only [Value.slice.injEq, Option.some.injEq, Addr.mk.injEq, and_true, true_and] at e
      obtain ⟨rfl, rfl⟩ := e
      exact fun j => h3.frozenAt j
  have hH : Holds (Value.int .i64) w g 0 xs.toArray := by
    intro j hj
    have hj' : j < xs.length := by simpa using hj
    exact ⟨by rw [hc j hj']; simp [hj'], hF _⟩
  have hcon := Go.Proofs.AnyM.slices_Sort_int laysSort g 0 c xs w hH hb.lt (by omega)
  change Calls Try.prog 37 _ _ _ at hcon
  refine hcon.mono ?_
  rintro e w' ⟨rfl, m, os, rfl⟩
  exact ⟨rfl, own_sorted h (sortI_perm xs).length_eq m os, rng_sorted _ _ _ _ _ _ _⟩
end Go.Proofs.Ythcomgnokkndgaa
