/-
  A block that is known whole.
-/
import Derived.Test.YtogonkoeginoaaaGreatDoorMem
namespace Go.Proofs.YtogonkoeginoaaaGreatDoor
open Go.RowKit

def Blk (w : World) (b : Nat) (vs : List Value) (t : TypeId) : Prop := w.heap[b]? = some (.cells vs.toArray t (0, 0))

theorem Blk.cell {w : World} {b : Nat} {vs : List Value} {t : TypeId} (h : Blk w b vs t) (i : Nat) : w.cell? ⟨b, i, none⟩ = vs[i]? := by
  rw [cell_of_row w b i _ t (0, 0) h]
  simp
theorem Blk.free {w : World} {b : Nat} {vs : List Value} {t : TypeId} (h : Blk w b vs t) (i : Nat) : w.frozen? ⟨b, i, none⟩ = false := frozen_of_row w b i _ t h
theorem Blk.lt {w : World} {b : Nat} {vs : List Value} {t : TypeId} (h : Blk w b vs t) : b < w.heap.size := (Array.getElem?_eq_some_iff.1 h).1
theorem Blk.below {w w' : World} {B b : Nat} {vs : List Value} {t : TypeId} (h : Blk w b vs t) (hb : Below B w w') (hlt : b < B) : Blk w' b vs t := (hb.block b hlt).trans h
theorem Blk.next {w w' : World} {b : Nat} {vs : List Value} {t : TypeId} (h : Blk w b vs t) (hb : Below w.heap.size w w') : Blk w' b vs t := h.below hb h.lt
theorem Blk.new (w : World) (vs : List Value) (t : TypeId) : Blk (w.alloc (.cells vs.toArray t)) w.heap.size vs t := heap_alloc_new w _
theorem Blk.alloc {w : World} {b : Nat} {vs : List Value} {t : TypeId} (h : Blk w b vs t) (o : Obj) : Blk (w.alloc o) b vs t := (Below.heap_alloc w o b h.lt).trans h
theorem Blk.set {w : World} {b : Nat} {vs : List Value} {t : TypeId} (h : Blk w b vs t) (i : Nat) (v : Value) : Blk (w.setCell ⟨b, i, none⟩ v) b (vs.set i v) t := by
  have := heap_setCell_same w b i _ t v h
  unfold Blk
  rw [this]
  simp
theorem Blk.other {w : World} {b : Nat} {vs : List Value} {t : TypeId} (h : Blk w b vs t) {a : Addr} (ha : b ≠ a.block) (v : Value) : Blk (w.setCell a v) b vs t := (heap_setCell_other w a b v ha).trans h
theorem Blk.grown {w w' : World} {b : Nat} {vs : List Value} {t : TypeId} {row : Option Nat} (h : Blk w b vs t) (hg : w.grownBy w' row) (hne : some b ≠ row) : Blk w' b vs t := (hg.block b h.lt hne).trans h

/-- What a block of four cells gives the walk. -/
theorem Blk.four {w : World} {b : Nat} {v0 v1 v2 v3 : Value} {t : TypeId} (h : Blk w b [v0, v1, v2, v3] t) :
    w.cell? ⟨b, 0, none⟩ = some v0 ∧ w.cell? ⟨b, 1, none⟩ = some v1 ∧ w.cell? ⟨b, 2, none⟩ = some v2 ∧ w.cell? ⟨b, 3, none⟩ = some v3 ∧
    w.frozen? ⟨b, 0, none⟩ = false ∧ w.frozen? ⟨b, 1, none⟩ = false ∧ w.frozen? ⟨b, 2, none⟩ = false ∧ w.frozen? ⟨b, 3, none⟩ = false :=
  ⟨h.cell 0, h.cell 1, h.cell 2, h.cell 3, h.free 0, h.free 1, h.free 2, h.free 3⟩
/-- Four stores that fill a block of four cells. -/
def set4 (w : World) (b : Nat) (v0 v1 v2 v3 : Value) : World := (((w.setCell ⟨b, 0, none⟩ v0).setCell ⟨b, 1, none⟩ v1).setCell ⟨b, 2, none⟩ v2).setCell ⟨b, 3, none⟩ v3
theorem Blk.set4 {w : World} {b : Nat} {u0 u1 u2 u3 : Value} {t : TypeId} (h : Blk w b [u0, u1, u2, u3] t) (v0 v1 v2 v3 : Value) : Blk ((((w.setCell ⟨b, 0, none⟩ v0).setCell ⟨b, 1, none⟩ v1).setCell ⟨b, 2, none⟩ v2).setCell ⟨b, 3, none⟩ v3) b [v0, v1, v2, v3] t :=
  (((h.set 0 v0).set 1 v1).set 2 v2).set 3 v3
theorem Blk.other4 {w : World} {c : Nat} {vs : List Value} {t : TypeId} (h : Blk w c vs t) {b : Nat} (hne : c ≠ b) (v0 v1 v2 v3 : Value) : Blk ((((w.setCell ⟨b, 0, none⟩ v0).setCell ⟨b, 1, none⟩ v1).setCell ⟨b, 2, none⟩ v2).setCell ⟨b, 3, none⟩ v3) c vs t :=
  (((h.other (a := ⟨b, 0, none⟩) hne v0).other (a := ⟨b, 1, none⟩) hne v1).other (a := ⟨b, 2, none⟩) hne v2).other (a := ⟨b, 3, none⟩) hne v3
theorem below4 {B : Nat} {a w : World} (h : Below B a w) {b : Nat} (hb : B ≤ b) (v0 v1 v2 v3 : Value) : Below B a ((((w.setCell ⟨b, 0, none⟩ v0).setCell ⟨b, 1, none⟩ v1).setCell ⟨b, 2, none⟩ v2).setCell ⟨b, 3, none⟩ v3) :=
  (((h.setCell (p := ⟨b, 0, none⟩) hb v0).setCell (p := ⟨b, 1, none⟩) hb v1).setCell (p := ⟨b, 2, none⟩) hb v2).setCell (p := ⟨b, 3, none⟩) hb v3
theorem two_boxes (w : World) (vs us : List Value) (t : TypeId) : Blk ((w.alloc (.cells vs.toArray t)).alloc (.cells us.toArray t)) w.heap.size vs t ∧ Blk ((w.alloc (.cells vs.toArray t)).alloc (.cells us.toArray t)) (w.heap.size + 1) us t := by
  refine ⟨(Blk.new w vs t).alloc _, ?_⟩
  have := Blk.new (w.alloc (.cells vs.toArray t)) us t
  simpa using this
theorem two_boxes_size (w : World) (a b : Obj) : ((w.alloc a).alloc b).heap.size = w.heap.size + 2 := by simp

end Go.Proofs.YtogonkoeginoaaaGreatDoor
