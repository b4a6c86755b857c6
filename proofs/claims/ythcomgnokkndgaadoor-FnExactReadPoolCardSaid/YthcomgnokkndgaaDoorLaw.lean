/- From a law's walk to its statement: the arguments read as they did, the result is true. -/
import Derived.Test.YthcomgnokkndgaaDoorRows
import Derived.Test.YthcomgnokkndgaaDoorKit
import Derived.ProofKit
import Derived.Lib.SmallJoins
namespace Go.Proofs.YthcomgnokkndgaaDoor
open Go.ChangeShapes Go.WideShapes Go.ChangeAt Go.RowKit Go.Joins

theorem Tryd.own : ownKnob Tryd.prog.godebug = none := by kernel_rfl
theorem Tryd.laidOut : laidOutB Tryd.prog = true := by kernel_rfl

theorem Ext.trodAll {H : Type} {enc : TypeId × Value → H} {P : Program} (hl : laidOutB P = true) {W W' : World} (hx : Ext W W') :
    ∀ {ts : List TypeId} {vs : List Value} {ds : List (DataW H)} {ps : List MemPlace}, (ts.all fun t => P.readableRec t && decide (t < P.types.size)) = true →
      (∀ x ∈ ps, x.block < W.heap.size) → DataW.TrodAll enc P W 0 (fun _ => true) true ts vs ds ps → DataW.TrodAll enc P W' 0 (fun b => decide (b < W.heap.size)) true ts vs ds ps
  | [], _, _, _, _, _, h => by obtain ⟨rfl, rfl, rfl⟩ := trodAll_nil h; exact trodAll_mk0
  | t :: ts, _, _, _, ht, hlt, h => by
    obtain ⟨v, vs, d, ds, p, q, rfl, rfl, rfl, h0, r0⟩ := trodAll_cons h
    simp only [List.all_cons, Bool.and_eq_true, decide_eq_true_eq] at ht
    obtain ⟨⟨t1, t2⟩, t3⟩ := ht
    exact trodAll_cons_mk (Below.trod hl t1 t2 h0 hx (fun x hm => hlt x (List.mem_append_left _ hm))) (Ext.trodAll hl hx t3 (fun x hm => hlt x (List.mem_append_right _ hm)) r0)

theorem law_post {H : Type} {enc : TypeId × Value → H} {P : Program} {f : Func} {s : ChangeSpec} {W W' : World} {args : Array Value} {ds : List (DataW H)} {before : List MemPlace} {T : TypeId}
    (hl : laidOutB P = true) (hp : (f.params.toList.all fun t => P.readableRec t && decide (t < P.types.size)) = true) (hr : f.resultTypes.toList = [T]) (hT : P.underlying T = some .bool) (hn : f.resultTypes.size = 1)
    (hv : s.vars = []) (hW : DataW.Whole enc P f.params.toList s.vars false W args.toList ds [] before)
    (h1 : (s.fn H (ds ++ [])).results = [.lit (.bool true)]) (h2 : (s.fn H (ds ++ [])).args = ds) (h3 : (s.fn H (ds ++ [])).vars = []) (hx : Ext W W') :
    s.post enc P f false true false false W args (.bool true) W' := by
  have hW' := hW
  obtain ⟨p, q, hA, hV, rfl, hfz, hnd⟩ := hW
  rw [hv] at hV
  obtain ⟨-, rfl⟩ := trodVars_none hV
  have hlt := hW'.lt
  refine ⟨ds, [], _, [], p, [], hW', ?_, ?_, ?_, hx.frame _, fun h => by cases h⟩
  · rw [hr, h1, hn]; exact trodAll_mk1 (shut_bool hT true)
  · rw [h2]; exact Ext.trodAll hl hx hp (fun x hm => hlt x (by simpa using hm)) hA
  · rw [h3, hv]; rfl
end Go.Proofs.YthcomgnokkndgaaDoor
