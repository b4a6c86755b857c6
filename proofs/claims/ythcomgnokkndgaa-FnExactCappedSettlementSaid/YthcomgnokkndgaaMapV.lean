/- Maps from numbers to values, that a function makes: what stands at each key. -/
import Derived.Test.YthcomgnokkndgaaMatch
import Derived.Test.YthcomgnokkndgaaSlice
import Derived.Maps.OwnSet
namespace Go.Proofs.Ythcomgnokkndgaa
open Go.RowKit Go.Maps

/-- An element read as itself. -/
def Rh : Value → Option (DataW Value × List MemPlace) := fun v => some (.held v, [])
def k64 (k : Int) : Lit := .int .i64 k
theorem k64_ne {a b : Int} (h : a ≠ b) : k64 a ≠ k64 b := fun e => h (by unfold k64 at e; cases e; rfl)
theorem keyed64 : Keyed Try.prog 2 := int_keyed Try.underlying2
theorem key64 {k : Int} (h : -9223372036854775808 ≤ k ∧ k ≤ 9223372036854775807) : keyOf Try.prog 2 (.int .i64 k) = some (k64 k) := keyOf_int_mk Try.underlying2 (WalkArith.wf_i64 h)
/-- Block b is a map with at most twelve entries, whose value at each number k is m k. -/
def MapV (w : World) (b : Nat) (z : Value) (m : Int → Value) : Prop :=
  ∃ D : DataW Value, w.ownsMap Try.prog 2 Rh b (Maps.size D) D ∧ Maps.size D = ct 12 (fun i => Maps.has D (k64 i)) ∧ ∀ k : Int, D.atKey (k64 k) (.held z) = .held (m k)
theorem MapV.made (w : World) (z : Value) : MapV (w.alloc (.map #[] 0)) w.heap.size z (fun _ => z) :=
  ⟨.map [], World.ownsMap_made w _ _ _, (ct_none fun i _ => rfl).symm, fun _ => rfl⟩
theorem MapV.kept {w w' : World} {b : Nat} {z : Value} {m : Int → Value} (h : MapV w b z m) (hb : w'.heap[b]? = w.heap[b]?) : MapV w' b z m := by
  obtain ⟨D, ⟨es, clock, h1, h2⟩, h3⟩ := h
  exact ⟨D, ⟨es, clock, hb.trans h1, h2⟩, h3⟩
theorem MapV.lt {w : World} {b : Nat} {z : Value} {m : Int → Value} (h : MapV w b z m) : b < w.heap.size := by obtain ⟨D, h1, -⟩ := h; exact h1.lt
theorem MapV.ext {w w' : World} {b : Nat} {z : Value} {m : Int → Value} (h : MapV w b z m) (hx : Ext w w') : MapV w' b z m := h.kept (hx.block b h.lt)
theorem MapV.obj {w : World} {b : Nat} {z : Value} {m : Int → Value} (h : MapV w b z m) : ∃ es clock, w.heap[b]? = some (.map es clock) := by obtain ⟨D, ⟨es, clock, h1, h2⟩, h3⟩ := h; exact ⟨_, _, h1⟩
theorem MapV.nocell {w : World} {b : Nat} {z : Value} {m : Int → Value} (h : MapV w b z m) {c o : Nat} {s : Option Nat} {v : Value} (hc : w.cell? ⟨c, o, s⟩ = some v) : c ≠ b := by
  rintro rfl
  obtain ⟨es, clock, hb⟩ := h.obj
  simp [World.cell?, hb] at hc
theorem MapV.norow {w : World} {b : Nat} {z : Value} {m : Int → Value} (h : MapV w b z m) {g n c base : Nat} {e : TypeId} {size : Nat} {xs : List Value} (hr : w.ownsRow base e size (.slice (some ⟨g, 0, none⟩) n c) n xs) : g ≠ b := by
  rintro rfl
  obtain ⟨es, clock, hb⟩ := h.obj
  rcases hr.2 with ⟨q, _⟩ | ⟨g', c', cur, e1, e2, e3, r⟩
  · cases q
  · simp only [Value.slice.injEq, Option.some.injEq, Addr.mk.injEq, and_true, true_and] at e1
    obtain ⟨rfl, rfl⟩ := e1
    rw [hb] at e3; cases e3
theorem MapV.look {w : World} {b : Nat} {z : Value} {m : Int → Value} (h : MapV w b z m) {t e : TypeId} (ht : Try.prog.underlying t = some (.map 2 e)) (hz : (zeroValue e).run Try.prog w = .ok z w) (k : Int) (hk : -9223372036854775808 ≤ k ∧ k ≤ 9223372036854775807) :
    (Instr.lookup t (.map (some b)) (.int .i64 k) false).run Try.prog w = .ok (m k) w := by
  obtain ⟨D, h1, h2, h3⟩ := h
  obtain ⟨v, ps, hr, hv⟩ := h1.lookup keyed64 ht hz (zd := .held z) (zp := []) rfl (key64 hk)
  have e : v = m k := by
    have := h3 k
    unfold k64 at this
    unfold Rh at hv
    simp only [Option.some.injEq, Prod.mk.injEq] at hv
    have h4 := hv.1.trans this
    cases h4; rfl
  rw [hr, e]
theorem MapV.put {w : World} {b : Nat} {z : Value} {m : Int → Value} (h : MapV w b z m) {t e : TypeId} (ht : Try.prog.underlying t = some (.map 2 e)) (k : Nat) (hk : k < 12) (v : Value) :
    ∃ w', (Instr.mapUpdate t (.map (some b)) (.int .i64 k) v).run Try.prog w = .ok () w' ∧ MapV w' b z (fun j => if j = (k : Int) then v else m j) ∧ Rng b (b + 1) w w' ∧ w'.heap.size = w.heap.size := by
  obtain ⟨D, h1, h2, h3⟩ := h
  have hsz : Maps.size D ≤ 12 := by rw [h2]; exact ct_lt_or _ _
  have hkl : WideAt.IsKeyLit (k64 (k : Int)) := trivial
  obtain ⟨w', hr, h4, h5⟩ := h1.store keyed64 ht (by unfold maxLen; omega) (key64 (k := (k : Int)) (by omega)) (val := v) (d := .held v) (ps := []) rfl
  refine ⟨w', hr, ⟨D.put (k64 (k : Int)) (.held v), ?_, ?_, fun j => ?_⟩, ?_, ?_⟩
  · have h6 : Maps.size (D.put (k64 (k : Int)) (.held v)) = Maps.size (D.put (k64 (k : Int)) (.held v)) := rfl
    obtain ⟨es, clock, a1, a2, a3, a4⟩ := h4
    refine ⟨es, clock, a1, a2, ?_, a4⟩
    rw [a4]
    simp [Maps.size, length_sorted]
  · rw [Maps.size_put (h1.tidy keyed64)]
    have := ct_upd (n := 12) (p := fun i => Maps.has D (k64 i)) (q := fun i => Maps.has (D.put (k64 (k : Int)) (.held v)) (k64 i)) hk fun j _ hj => (has_put_other (k64_ne (by omega)) _).symm
    have h7 : Maps.has (D.put (k64 (k : Int)) (.held v)) (k64 (k : Int)) = true := has_put_same h1.isMap hkl _
    simp only [h7, if_true] at this
    split at this <;> rename_i hh <;> simp [hh] <;> omega
  · show (D.put (k64 (k : Int)) (.held v)).atKey (k64 j) (.held z) = .held (if j = (k : Int) then v else m j)
    by_cases hj : j = (k : Int)
    · subst hj
      rw [if_pos rfl]
      exact atKey_put_same h1.isMap hkl _ _
    · rw [if_neg hj, atKey_put_other (k64_ne hj)]
      exact h3 j
  · have g := h5.grown
    exact ⟨g.os, g.tape, g.output, g.size, fun i hi hr => g.block i hi (by simp; omega)⟩
  · obtain ⟨es, clock, es', clock', hb, rfl⟩ := h5
    simp [Go.ChangeMaps.setBlock]

/-- 'm[k] = v' at the operation. -/
theorem wpList_mput {ops : Array Oper} {rest : List Oper} {o : Oper} {a : Act} {Q : Exit → Act → World → Prop} {w : World} {b : Nat} {z : Value} {f : Int → Value} (hown : MapV w b z f) (hg : o.guard = none) (m x v : Operand) (t e : TypeId) (hop : o.op = Op.mapUpdate t m x v)
    (ht : Try.prog.underlying t = some (.map 2 e)) (hm : a.eval m = .map (some b)) (k : Nat) (hk : k < 12) (val : Value) (hx : a.eval x = .int .i64 k) (hv : a.eval v = val)
    (hK : ∀ w', MapV w' b z (fun j => if j = (k : Int) then val else f j) → Rng b (b + 1) w w' → w'.heap.size = w.heap.size → wpList Try.prog ops Q rest (a.put o.dst undef) w') : wpList Try.prog ops Q (o :: rest) a w := by
  refine wpList_plain hg fun K' hK' => ?_
  obtain ⟨w', hrun, r1, r2, r3⟩ := hown.put ht k hk val
  unfold Oper.wp
  simp [execOp, hop, hm, hx, hv, hrun, Result.andThen]
  exact hK' _ _ (hK w' r1 r2 r3)
end Go.Proofs.Ythcomgnokkndgaa
