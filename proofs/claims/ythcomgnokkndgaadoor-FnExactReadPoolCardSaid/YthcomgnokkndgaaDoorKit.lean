/- Small tools: worlds that have only grown, and a region that draws its order at such worlds. -/
import Derived.Test.YthcomgnokkndgaaDoorProg
import Derived.WalkKit
import Derived.WalkSpells
import Derived.WalkLawsBesides
import Derived.Deep.QuietTactic
import Derived.BigQuiet
import Derived.Lib.Hide
import Derived.Deep.DeepFit
namespace Go.Proofs.YthcomgnokkndgaaDoor
open Go.RowKit

/-- The world has grown: what was there is as it was. -/
def Ext (w w' : World) : Prop := Below w.heap.size w w'
/-- A world that has grown out of w. -/
structure Grow (w : World) where
  fin : World
  ext : Ext w fin
theorem Ext.refl (w : World) : Ext w w := Below.refl _ _
instance (w : World) : Nonempty (Grow w) := ⟨⟨w, Ext.refl w⟩⟩
theorem Ext.grow {w w' : World} (h : Ext w w') : ∃ g : Grow w, w' = g.fin := ⟨⟨w', h⟩, rfl⟩
theorem Ext.trans {a b c : World} (h : Ext a b) (k : Ext b c) : Ext a c := Below.trans h (Below.mono k h.size)
theorem Ext.drew {a b : World} (h : Ext a b) : Ext a b.drew := Below.drew h
theorem Ext.drewN {a b : World} (h : Ext a b) (n : Nat) : Ext a (b.drewN n) := below_drewN h n
theorem Ext.alloc {a b : World} (h : Ext a b) (o : Obj) : Ext a (b.alloc o) := Below.alloc h h.size o
theorem Ext.fin {a b : World} (h : Ext a b) (g : Grow b) : Ext a g.fin := h.trans g.ext
theorem Ext.setCell {a b : World} (h : Ext a b) {p : Addr} (hp : a.heap.size ≤ p.block) (u : Value) : Ext a (b.setCell p u) := Below.setCell h hp u
theorem Ext.below {a b : World} (h : Ext a b) : Below a.heap.size a b := h
theorem Ext.of_drewN {w w' : World} (h : ∃ n, w' = w.drewN n) : Ext w w' := by obtain ⟨n, rfl⟩ := h; exact (Ext.refl _).drewN n

/-- The same as a class: the steps of a walk compose by themselves. -/
class ExtC (a b : World) : Prop where
  ext : Ext a b
/-- Block n is none of a's. -/
class NewB (a : World) (n : Nat) : Prop where
  le : a.heap.size ≤ n
instance ExtC.refl (a : World) : ExtC a a := ⟨Ext.refl a⟩
instance ExtC.fin (a b : World) (g : Grow b) [h : ExtC a b] : ExtC a g.fin := ⟨h.ext.fin g⟩
instance ExtC.alloc (a b : World) (o : Obj) [h : ExtC a b] : ExtC a (b.alloc o) := ⟨h.ext.alloc o⟩
instance ExtC.drew (a b : World) [h : ExtC a b] : ExtC a b.drew := ⟨h.ext.drew⟩
instance ExtC.drewN (a b : World) (n : Nat) [h : ExtC a b] : ExtC a (b.drewN n) := ⟨h.ext.drewN n⟩
instance NewB.top (a b : World) [h : ExtC a b] : NewB a b.heap.size := ⟨h.ext.size⟩
instance NewB.add (a : World) (n k : Nat) [h : NewB a n] : NewB a (n + k) := ⟨Nat.le_trans h.le (Nat.le_add_right _ _)⟩
instance ExtC.setCell (a b : World) (n o : Nat) (s : Option Nat) (v : Value) [h : ExtC a b] [hn : NewB a n] : ExtC a (b.setCell ⟨n, o, s⟩ v) := ⟨h.ext.setCell hn.le v⟩

/-- Block b is there in the world w. A class, so that a rewriting step finds it by itself, however deep. -/
class InW (b : Nat) (w : World) : Prop where
  lt : b < w.heap.size
instance InW.new (w : World) (o : Obj) : InW w.heap.size (w.alloc o) := ⟨by simp⟩
instance InW.new1 (w : World) (o o' : Obj) : InW (w.heap.size + 1) ((w.alloc o).alloc o') := ⟨by simp⟩
instance InW.new2 (w : World) (o o' o2 : Obj) : InW (w.heap.size + 2) (((w.alloc o).alloc o').alloc o2) := ⟨by simp⟩
instance InW.new2' (w : World) (o o' o2 : Obj) : InW (w.heap.size + 1 + 1) (((w.alloc o).alloc o').alloc o2) := ⟨by simp⟩
instance InW.new3' (w : World) (o o' o2 o3 : Obj) : InW (w.heap.size + 1 + 1 + 1) ((((w.alloc o).alloc o').alloc o2).alloc o3) := ⟨by simp⟩
instance InW.new4' (w : World) (o o' o2 o3 o4 : Obj) : InW (w.heap.size + 1 + 1 + 1 + 1) (((((w.alloc o).alloc o').alloc o2).alloc o3).alloc o4) := ⟨by simp⟩
instance InW.new5' (w : World) (o o' o2 o3 o4 o5 : Obj) : InW (w.heap.size + 1 + 1 + 1 + 1 + 1) ((((((w.alloc o).alloc o').alloc o2).alloc o3).alloc o4).alloc o5) := ⟨by simp⟩
instance InW.new3 (w : World) (o o' o2 o3 : Obj) : InW (w.heap.size + 3) ((((w.alloc o).alloc o').alloc o2).alloc o3) := ⟨by simp⟩
instance InW.new4 (w : World) (o o' o2 o3 o4 : Obj) : InW (w.heap.size + 4) (((((w.alloc o).alloc o').alloc o2).alloc o3).alloc o4) := ⟨by simp⟩
instance InW.new5 (w : World) (o o' o2 o3 o4 o5 : Obj) : InW (w.heap.size + 5) ((((((w.alloc o).alloc o').alloc o2).alloc o3).alloc o4).alloc o5) := ⟨by simp⟩
instance InW.alloc (b : Nat) (w : World) (o : Obj) [h : InW b w] : InW b (w.alloc o) := ⟨by have := h.lt; simp; omega⟩
instance InW.fin (b : Nat) (w : World) (g : Grow w) [h : InW b w] : InW b g.fin := ⟨Nat.lt_of_lt_of_le h.lt g.ext.size⟩
instance InW.drew (b : Nat) (w : World) [h : InW b w] : InW b w.drew := ⟨h.lt⟩
instance InW.drewN (b n : Nat) (w : World) [h : InW b w] : InW b (w.drewN n) := ⟨h.lt⟩
instance InW.setCell (b : Nat) (w : World) (a : Addr) (v : Value) [h : InW b w] : InW b (w.setCell a v) := ⟨by have := h.lt; simpa [World.setCell] using this⟩
theorem InW.of_cell {w : World} {b o : Nat} {v : Value} (h : w.cell? ⟨b, o, none⟩ = some v) : InW b w := ⟨by
  by_cases hb : b < w.heap.size
  · exact hb
  · simp [World.cell?, hb] at h⟩

@[simp, go_sem] theorem Grow.cell {w : World} (g : Grow w) (b o : Nat) [h : InW b w] : g.fin.cell? ⟨b, o, none⟩ = w.cell? ⟨b, o, none⟩ := Below.cell g.ext h.lt
@[simp, go_sem] theorem Grow.frozen {w : World} (g : Grow w) (b o : Nat) [h : InW b w] : g.fin.frozen? ⟨b, o, none⟩ = w.frozen? ⟨b, o, none⟩ := Below.frozen g.ext h.lt
theorem Grow.size {w : World} (g : Grow w) : w.heap.size ≤ g.fin.heap.size := g.ext.size
@[simp, go_sem] theorem inW_lt (b : Nat) (w : World) [h : InW b w] : (b < w.heap.size) = True := by simp [h.lt]
@[simp, go_sem] theorem inW_lt_add (b k : Nat) (w : World) [h : InW b w] : (b < w.heap.size + k) = True := by have := h.lt; simp; omega
@[simp, go_sem] theorem inW_ne (b : Nat) (w : World) [h : InW b w] : (b = w.heap.size) = False := by have := h.lt; simp; omega
@[simp, go_sem] theorem inW_ne' (b : Nat) (w : World) [h : InW b w] : (w.heap.size = b) = False := by have := h.lt; simp; omega
@[simp, go_sem] theorem inW_ne_add (b k : Nat) (w : World) [h : InW b w] : (b = w.heap.size + k) = False := by have := h.lt; simp; omega
@[simp, go_sem] theorem inW_ne_add' (b k : Nat) (w : World) [h : InW b w] : (w.heap.size + k = b) = False := by have := h.lt; simp; omega

@[go_sem] theorem cell_set_same {w : World} (a : Addr) (v : Value) (h : (w.cell? a).isSome = true) : (w.setCell a v).cell? a = some v := by
  obtain ⟨u, hu⟩ := Option.isSome_iff_exists.1 h
  exact World.cell?_setCell_same w a v hu
@[go_sem] theorem cell_set_other {w : World} (a b : Addr) (v : Value) (h : a ≠ b) : (w.setCell a v).cell? b = w.cell? b := World.cell?_setCell_other w a b v h

/-- A region that draws its order, all of whose operations read and whose callees let the world grow. -/
theorem wp_region_grow {P : Program} {id : Nat} {Q : Exit → Act → World → Prop} {a : Act} {w : World} {l : List Oper} (hm : P.follows .mixedOrders = true) (hB : Region.lexB .any l.toArray = true)
    (h : wpQuiet P l.toArray (fun w' => ∃ g : Grow w, w' = g.fin) (fun a' => ∀ w', (∃ g : Grow w, w' = g.fin) → Q .normal a' w') l a) : (Code.region id l.toArray true).wp P Q a w :=
  wp_region_quiet (C := fun w' => ∃ g : Grow w, w' = g.fin) hm hB ((Ext.refl w).drew).grow (by simpa using h)

theorem grow_of {P : Program} {f : FuncId} {args : Array Value} {w : World} {g : Grow w} {v : Value}
    (h : Calls P f args g.fin fun e w' => e = .returned v ∧ Ext g.fin w') : Calls P f args g.fin fun e w'' => e = .returned v ∧ ∃ g' : Grow w, w'' = g'.fin :=
  h.mono fun _ _ ⟨he, hx⟩ => ⟨he, (g.ext.trans hx).grow⟩

/-- It returned a Bool that says whether P. -/
def RetB (P : Prop) (e : Ending) : Prop := ∃ b, e = .returned (.bool b) ∧ (b = true ↔ P)
theorem RetB.yes {P : Prop} (h : P) : RetB P (.returned (.bool true)) := ⟨true, rfl, by simp [h]⟩
theorem RetB.no {P : Prop} (h : ¬ P) : RetB P (.returned (.bool false)) := ⟨false, rfl, by simp [h]⟩
theorem ret_int {k : IntKind} {a b : Int} (h : a = b) : Ending.returned (.int k a) = .returned (.int k b) := by rw [h]
theorem ret_bool {a b : Bool} (h : a = b) : Ending.returned (.bool a) = .returned (.bool b) := by rw [h]
end Go.Proofs.YthcomgnokkndgaaDoor
