/- slices.Sort at []int64: the library's contract laid at this program, and what it says of a list that a function owns. -/
import Derived.Test.YtbbppkcdgcajjaaQueue
import Derived.Test.YtbbppkcdgcajjaaBfs
import Derived.Shelf.SortM.Plain
import Derived.Shelf.SortM.SortNone
namespace Go.Proofs.Ytbbppkcdgcajjaa
open Go.Shelf Go.RowKit Go.Sort

def laysSort_ren : Go.Shelf.Ren := ⟨fun | 5 => 170 | 8 => 187 | 7 => 186 | 19 => 200 | 20 => 201 | 10 => 191 | 11 => 192 | 12 => 193 | 13 => 194 | 14 => 195 | 15 => 196 | 16 => 197 | 17 => 198 | 18 => 199 | 30 => 203 | 31 => 204 | 32 => 205 | 33 => 206 | 34 => 207 | 35 => 183 | 40 => 209 | n => n, fun | 23 => 24 | 25 => 2 | 3 => 3 | 32 => 93 | 22 => 24 | 0 => 0 | 44 => 188 | 46 => 190 | 4 => 4 | 36 => 180 | 35 => 179 | 41 => 185 | 5 => 5 | 9 => 9 | 53 => 191 | 57 => 195 | 63 => 197 | 64 => 198 | n => n, fun | n => n⟩
theorem laysSort : Go.Proofs.SlLaysM.n5 Try.prog laysSort_ren := {
  mixed := by kernel_rfl
  f5 := ⟨Try.f170.name, by decide, Try.func170.trans (congrArg some (by kernel_rfl))⟩
  f7 := ⟨Try.f186.name, by decide, Try.func186.trans (congrArg some (by kernel_rfl))⟩
  f8 := Try.func187.trans (congrArg some (by kernel_rfl))
  f10 := ⟨Try.f191.name, by decide, Try.func191.trans (congrArg some (by kernel_rfl))⟩
  f11 := ⟨Try.f192.name, by decide, Try.func192.trans (congrArg some (by kernel_rfl))⟩
  f12 := ⟨Try.f193.name, by decide, Try.func193.trans (congrArg some (by kernel_rfl))⟩
  f13 := ⟨Try.f194.name, by decide, Try.func194.trans (congrArg some (by kernel_rfl))⟩
  f14 := ⟨Try.f195.name, by decide, Try.func195.trans (congrArg some (by kernel_rfl))⟩
  f15 := ⟨Try.f196.name, by decide, Try.func196.trans (congrArg some (by kernel_rfl))⟩
  f16 := ⟨Try.f197.name, by decide, Try.func197.trans (congrArg some (by kernel_rfl))⟩
  f17 := ⟨Try.f198.name, by decide, Try.func198.trans (congrArg some (by kernel_rfl))⟩
  f18 := ⟨Try.f199.name, by decide, Try.func199.trans (congrArg some (by kernel_rfl))⟩
  f19 := Try.func200.trans (congrArg some (by kernel_rfl))
  f20 := Try.func201.trans (congrArg some (by kernel_rfl))
  f30 := ⟨Try.f203.name, by decide, Try.func203.trans (congrArg some (by kernel_rfl))⟩
  f31 := Try.func204.trans (congrArg some (by kernel_rfl))
  f32 := Try.func205.trans (congrArg some (by kernel_rfl))
  f33 := ⟨Try.f206.name, by decide, Try.func206.trans (congrArg some (by kernel_rfl))⟩
  f34 := ⟨Try.f207.name, by decide, Try.func207.trans (congrArg some (by kernel_rfl))⟩
  f35 := ⟨Try.f183.name, by decide, Try.func183.trans (congrArg some (by kernel_rfl))⟩
  f40 := ⟨Try.f209.name, by decide, Try.func209.trans (congrArg some (by kernel_rfl))⟩
  t0 := Try.underlying0
  a0 := Try.isAgg0
  z0 := Try.sizeOf0
  v0 := Try.zeroValue0
  t3 := Try.underlying3
  a3 := Try.isAgg3
  z3 := Try.sizeOf3
  v3 := Try.zeroValue3
  t4 := Try.underlying4
  a4 := Try.isAgg4
  z4 := Try.sizeOf4
  v4 := Try.zeroValue4
  t5 := Try.underlying5
  a5 := Try.isAgg5
  z5 := Try.sizeOf5
  v5 := Try.zeroValue5
  t9 := Try.underlying9
  a9 := Try.isAgg9
  z9 := Try.sizeOf9
  v9 := Try.zeroValue9
  t22 := Try.underlying24
  a22 := Try.isAgg24
  z22 := Try.sizeOf24
  v22 := Try.zeroValue24
  t23 := Try.underlying24
  a23 := Try.isAgg24
  z23 := Try.sizeOf24
  v23 := Try.zeroValue24
  t25 := Try.underlying2
  a25 := Try.isAgg2
  z25 := Try.sizeOf2
  v25 := Try.zeroValue2
  t32 := Try.underlying93
  a32 := Try.isAgg93
  z32 := Try.sizeOf93
  v32 := Try.zeroValue93
  t35 := Try.underlying179
  a35 := Try.isAgg179
  z35 := Try.sizeOf179
  v35 := Try.zeroValue179
  t36 := Try.underlying180
  a36 := Try.isAgg180
  z36 := Try.sizeOf180
  v36 := Try.zeroValue180
  t41 := Try.underlying185
  a41 := Try.isAgg185
  z41 := Try.sizeOf185
  v41 := Try.zeroValue185
  t44 := Try.underlying188
  a44 := Try.isAgg188
  z44 := Try.sizeOf188
  v44 := Try.zeroValue188
  t46 := Try.underlying190
  a46 := Try.isAgg190
  z46 := Try.sizeOf190
  v46 := Try.zeroValue190
  t53 := Try.underlying191
  a53 := Try.isAgg191
  z53 := Try.sizeOf191
  v53 := Try.zeroValue191
  t57 := Try.underlying195
  a57 := Try.isAgg195
  z57 := Try.sizeOf195
  v57 := Try.zeroValue195
  t63 := Try.underlying197
  a63 := Try.isAgg197
  z63 := Try.sizeOf197
  v63 := Try.zeroValue197
  t64 := Try.underlying198
  a64 := Try.isAgg198
  z64 := Try.sizeOf198
  v64 := Try.zeroValue198 }

theorem rng_sorted (enc : Int → Value) (w : World) (g off n : Nat) (d : Array Int) (os : Array Obj) : Rng g (g + 1) w (grow (putRow enc (Sort.ahead w n) g off d) os) := by
  refine ⟨rfl, rfl, rfl, ?_, fun k hk hr => ?_⟩
  · simp [grow, putRow, mapBlock, Sort.ahead]
  · simp only [grow, putRow, mapBlock, Sort.ahead]
    rw [Array.getElem?_append_left (by simpa using hk), Array.getElem?_modify, if_neg (by omega)]
theorem own_sorted {lo hi g n c : Nat} {w : World} {xs ys : List Int} (h : OwnI lo hi w (.slice (some ⟨g, 0, none⟩) n c) xs) (hl : ys.length = xs.length) (m : Nat) (os : Array Obj) : OwnI lo hi (grow (putRow (Value.int .i64) (Sort.ahead w m) g 0 ys.toArray) os) (.slice (some ⟨g, 0, none⟩) n c) ys := by
  rcases h with ⟨e, _⟩ | ⟨g', cap, e, h1, h2, h3⟩
  · cases e
  simp only [Value.slice.injEq, Option.some.injEq, Addr.mk.injEq, and_true] at e
  obtain ⟨rfl, rfl, rfl⟩ := e
  refine .inr ⟨g, c, by rw [hl], h1, h2, by simp, ?_⟩
  rcases h3.2 with ⟨e, _⟩ | ⟨g', cap', cur, e, q1, q2, q3, q4, q5, q6⟩
  · cases e
  simp only [Value.slice.injEq, Option.some.injEq, Addr.mk.injEq, and_true, true_and] at e
  obtain ⟨rfl, rfl⟩ := e
  refine .inr ⟨g, c, putCells (Value.int .i64) 0 ys.toArray cur, by rw [hl], q1, ?_, by omega, q4, by simpa [putCells] using q5, ?_⟩
  · have hgs := (Array.getElem?_eq_some_iff.1 q2).1
    simp only [grow, putRow, mapBlock, Sort.ahead]
    rw [Array.getElem?_append_left (by simpa using hgs), Array.getElem?_modify, if_pos rfl, q2]
    rfl
  · apply List.ext_getElem?
    intro j
    rw [List.getElem?_take]
    by_cases hj : j < ys.length
    · have hjc : j < cur.size := by omega
      rw [if_pos (by simpa using hj)]
      simp [putCells, hj, hjc]
    · rw [if_neg (by simpa using hj)]
      simp [hj]

theorem slices_Sort {lo hi g n c : Nat} (xs : List Int) (w : World) (h : OwnI lo hi w (.slice (some ⟨g, 0, none⟩) n c) xs) (hn : xs.length ≤ 1099511627776) :
    Calls Try.prog 170 #[.slice (some ⟨g, 0, none⟩) n c] w fun e w' => e = .returned (.tuple #[]) ∧ OwnI lo hi w' (.slice (some ⟨g, 0, none⟩) n c) (sortI xs) ∧ Rng g (g + 1) w w' := by
  have hlen : n = xs.length := by
    rcases h with ⟨e, _⟩ | ⟨g', cap, e, h1, h2, h3⟩
    · cases e
    · simp only [Value.slice.injEq] at e; exact e.2.1
  subst hlen
  have hi' := OwnI.is h (by simp)
  obtain ⟨g', off, cap, e, hlc, hb, hc⟩ := hi'
  simp only [Value.slice.injEq, Option.some.injEq, Addr.mk.injEq, and_true, true_and] at e
  obtain ⟨⟨rfl, rfl⟩, rfl⟩ := e
  have hF : ∀ j, w.frozen? ⟨g, j, none⟩ = false := by
    rcases h with ⟨e, _⟩ | ⟨g', cap, e, h1, h2, h3⟩
    · cases e
    · simp only [Value.slice.injEq, Option.some.injEq, Addr.mk.injEq, and_true, true_and] at e
      obtain ⟨rfl, rfl⟩ := e
      exact fun j => h3.frozenAt j
  have hH : Holds (Value.int .i64) w g 0 xs.toArray := by
    intro j hj
    have hj' : j < xs.length := by simpa using hj
    exact ⟨by rw [hc j hj']; simp [hj'], hF _⟩
  have hcon := Go.Proofs.AnyM.slices_Sort_int laysSort g 0 c xs w hH hb.lt (by omega)
  change Calls Try.prog 170 _ _ _ at hcon
  refine hcon.mono ?_
  rintro e w' ⟨rfl, m, os, rfl⟩
  exact ⟨rfl, own_sorted h (sortI_perm xs).length_eq m os, rng_sorted _ _ _ _ _ _ _⟩
end Go.Proofs.Ytbbppkcdgcajjaa
