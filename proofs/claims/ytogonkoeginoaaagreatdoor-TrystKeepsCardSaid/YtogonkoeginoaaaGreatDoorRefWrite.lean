/-
  The walk through the document's Write of layer 17.
-/
import Derived.Test.YtogonkoeginoaaaGreatDoorDskBase
import Derived.Test.YtogonkoeginoaaaGreatDoorBlk
import Derived.Test.YtogonkoeginoaaaGreatDoorRefMay
import Derived.Test.YtogonkoeginoaaaGreatDoorDskRead
import Derived.Test.YtogonkoeginoaaaGreatDoorApp
import Derived.Test.YtogonkoeginoaaaGreatDoorDskFlush
import Derived.Test.YtogonkoeginoaaaGreatDoorDskWrite
namespace Go.Proofs.YtogonkoeginoaaaGreatDoor
open Go.RowKit

/-- A piece of 64 octets. -/
theorem piece_eq2 (l : List UInt8) (i : Nat) : (bs l).extract (64 * i) (64 * i + 64) = bs ((l.drop (64 * i)).take 64) := by
  have := piece_eq l i
  rw [show i * 64 = 64 * i by omega, show (i + 1) * 64 = 64 * i + 64 by omega] at this
  exact this

/-- A row of cells outside the blocks from B1 to B2. -/
def RowOut (w : World) (ao : Option Addr) (vs : List Value) (B1 B2 : Nat) : Prop := vs = [] ∨ ∃ b off, ao = some ⟨b, off, none⟩ ∧ (b < B1 ∨ B2 ≤ b) ∧ ∀ j v, vs[j]? = some v → w.cell? ⟨b, off + j, none⟩ = some v
theorem RowOut.row {w : World} {ao : Option Addr} {vs : List Value} {B1 B2 : Nat} (h : RowOut w ao vs B1 B2) : Row w ao vs := h.imp id fun ⟨b, off, e, _, hc⟩ => ⟨b, off, e, hc⟩
theorem RowOut.below {w w' : World} {ao : Option Addr} {vs : List Value} {B1 B2 : Nat} (h : RowOut w ao vs B1 B2) (hb : Below w.heap.size w w') : RowOut w' ao vs B1 B2 := by
  refine h.imp id ?_
  rintro ⟨b, off, e, ho, hc⟩
  refine ⟨b, off, e, ho, fun j v hj => ?_⟩
  rw [hb.cell (p := ⟨b, off + j, none⟩) (World.block_lt_of_cell? w _ (hc j v hj))]
  exact hc j v hj
theorem RowOut.set {w : World} {ao : Option Addr} {vs : List Value} {B1 B2 : Nat} (h : RowOut w ao vs B1 B2) {a : Addr} (h1 : B1 ≤ a.block) (h2 : a.block < B2) (v : Value) : RowOut (w.setCell a v) ao vs B1 B2 := by
  refine h.imp id ?_
  rintro ⟨b, off, e, ho, hc⟩
  refine ⟨b, off, e, ho, fun j v hj => ?_⟩
  rw [World.cell?_setCell_other _ _ _ _ (fun e => by subst e; simp at h1 h2; omega)]
  exact hc j v hj
theorem RowOut.set4 {w : World} {ao : Option Addr} {vs : List Value} {B1 B2 : Nat} (h : RowOut w ao vs B1 B2) {b : Nat} (h1 : B1 ≤ b) (h2 : b < B2) (v0 v1 v2 v3 : Value) : RowOut ((((w.setCell ⟨b, 0, none⟩ v0).setCell ⟨b, 1, none⟩ v1).setCell ⟨b, 2, none⟩ v2).setCell ⟨b, 3, none⟩ v3) ao vs B1 B2 :=
  (((h.set (a := ⟨b, 0, none⟩) h1 h2 v0).set (a := ⟨b, 1, none⟩) h1 h2 v1).set (a := ⟨b, 2, none⟩) h1 h2 v2).set (a := ⟨b, 3, none⟩) h1 h2 v3
theorem RowOut.old {w w' : World} {ao : Option Addr} {vs : List Value} {B2 : Nat} (h : Row w ao vs) (hb : Below w.heap.size w w') : RowOut w' ao vs w.heap.size B2 := by
  by_cases hv : vs = []
  · exact .inl hv
  · refine h.imp id ?_
    rintro ⟨b, off, e, hc⟩
    have hl : 0 < vs.length := List.length_pos_iff.2 hv
    have hlt : b < w.heap.size := World.block_lt_of_cell? w _ (hc 0 _ (List.getElem?_eq_getElem hl))
    refine ⟨b, off, e, .inl hlt, fun j v hj => ?_⟩
    rw [hb.cell (p := ⟨b, off + j, none⟩) hlt]
    exact hc j v hj
theorem RowOut.own {w : World} {base : Nat} {e : TypeId} {size : Nat} {ao : Option Addr} {n c m : Nat} {xs : List Value} {B1 : Nat} (h : w.ownsRow base e size (.slice ao n c) m xs) : RowOut w ao xs B1 base := by
  rcases h.2 with ⟨h1, h2⟩ | ⟨g, cap, cur, h1, hb, hh, hnc, hcm, hcs, htk⟩
  · refine .inl (List.eq_nil_of_length_eq_zero ?_)
    rw [h.1, h2, Nat.zero_mul]
  · injection h1 with h1
    subst h1
    refine .inr ⟨g, 0, rfl, .inr hb, fun j v hj => ?_⟩
    rcases own_row h with h3 | ⟨b, off, h3, h4⟩
    · subst h3; simp at hj
    · injection h3 with h3
      injection h3 with h3 h5
      subst h3; subst h5
      exact h4 j v hj


end Go.Proofs.YtogonkoeginoaaaGreatDoor
