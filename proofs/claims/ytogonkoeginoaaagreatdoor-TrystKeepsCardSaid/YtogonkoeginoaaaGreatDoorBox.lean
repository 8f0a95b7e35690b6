/-
  A box that holds a drive: a block of four cells.
-/
import Derived.Test.YtogonkoeginoaaaGreatDoorInv
import Derived.Test.YtogonkoeginoaaaGreatDoorDskWrite
namespace Go.Proofs.YtogonkoeginoaaaGreatDoor
open Go.RowKit

/-- Block b holds the drive's value v. -/
def Holds (w : World) (b : Nat) (v : Value) : Prop := ∃ a1 n1 c1 a2 n2 c2 f o, v = drvVal a1 n1 c1 a2 n2 c2 f o ∧ Blk w b [.slice a1 n1 c1, .slice a2 n2 c2, .int .i64 f, .bool o] 44
theorem Holds.lt {w : World} {b : Nat} {v : Value} (h : Holds w b v) : b < w.heap.size := by
  obtain ⟨_, _, _, _, _, _, _, _, _, h⟩ := h
  exact h.lt
theorem Holds.next {w w' : World} {b : Nat} {v : Value} (h : Holds w b v) (hb : Below w.heap.size w w') : Holds w' b v := by
  obtain ⟨a1, n1, c1, a2, n2, c2, f, o, e, h⟩ := h
  exact ⟨a1, n1, c1, a2, n2, c2, f, o, e, h.next hb⟩
theorem Holds.other {w : World} {b : Nat} {v : Value} (h : Holds w b v) {c : Nat} (hne : b ≠ c) (v0 v1 v2 v3 : Value) : Holds ((((w.setCell ⟨c, 0, none⟩ v0).setCell ⟨c, 1, none⟩ v1).setCell ⟨c, 2, none⟩ v2).setCell ⟨c, 3, none⟩ v3) b v := by
  obtain ⟨a1, n1, c1, a2, n2, c2, f, o, e, h⟩ := h
  exact ⟨a1, n1, c1, a2, n2, c2, f, o, e, h.other4 hne _ _ _ _⟩
theorem Holds.set {w : World} {b : Nat} {v : Value} (h : Holds w b v) (a1 : Option Addr) (n1 c1 : Nat) (a2 : Option Addr) (n2 c2 : Nat) (f : Int) (o : Bool) : Holds ((((w.setCell ⟨b, 0, none⟩ (.slice a1 n1 c1)).setCell ⟨b, 1, none⟩ (.slice a2 n2 c2)).setCell ⟨b, 2, none⟩ (.int .i64 f)).setCell ⟨b, 3, none⟩ (.bool o)) b (drvVal a1 n1 c1 a2 n2 c2 f o) := by
  obtain ⟨_, _, _, _, _, _, _, _, _, h⟩ := h
  exact ⟨a1, n1, c1, a2, n2, c2, f, o, rfl, h.set4 _ _ _ _⟩
theorem Holds.new (w : World) (a1 : Option Addr) (n1 c1 : Nat) (a2 : Option Addr) (n2 c2 : Nat) (f : Int) (o : Bool) : Holds (w.alloc (.cells #[.slice a1 n1 c1, .slice a2 n2 c2, .int .i64 f, .bool o] 44)) w.heap.size (drvVal a1 n1 c1 a2 n2 c2 f o) :=
  ⟨a1, n1, c1, a2, n2, c2, f, o, rfl, Blk.new _ _ _⟩
theorem blk_holds {w : World} {b : Nat} {a1 : Option Addr} {n1 c1 : Nat} {a2 : Option Addr} {n2 c2 : Nat} {f : Int} {o : Bool} (h : Blk w b [.slice a1 n1 c1, .slice a2 n2 c2, .int .i64 f, .bool o] 44) : Holds w b (drvVal a1 n1 c1 a2 n2 c2 f o) := ⟨a1, n1, c1, a2, n2, c2, f, o, rfl, h⟩
theorem Holds.drew {w : World} {b : Nat} {v : Value} (h : Holds w b v) : Holds w.drew b v := h

/-- No row of strings lies in such a box. -/
theorem strs_not {w : World} {b b' off : Nat} {v : Value} {x : ByteArray} (h : Holds w b v) (hc : w.cell? ⟨b', off, none⟩ = some (.string x)) : b' ≠ b := by
  rintro rfl
  obtain ⟨a1, n1, c1, a2, n2, c2, f, o, e, h⟩ := h
  rw [h.cell off] at hc
  match off with
  | 0 => simp at hc
  | 1 => simp at hc
  | 2 => simp at hc
  | 3 => simp at hc
  | n + 4 => simp at hc
theorem cell_set4 {w : World} {b b' off : Nat} (hne : b' ≠ b) (v0 v1 v2 v3 : Value) : ((((w.setCell ⟨b, 0, none⟩ v0).setCell ⟨b, 1, none⟩ v1).setCell ⟨b, 2, none⟩ v2).setCell ⟨b, 3, none⟩ v3).cell? ⟨b', off, none⟩ = w.cell? ⟨b', off, none⟩ := by
  have e : ∀ (w : World) (i : Nat) (v : Value), (w.setCell ⟨b, i, none⟩ v).cell? ⟨b', off, none⟩ = w.cell? ⟨b', off, none⟩ := fun w i v => World.cell?_setCell_other _ _ _ _ (fun e => by injection e with e; exact hne e.symm)
  rw [e, e, e, e]
theorem Strs.set4 {w : World} {ao : Option Addr} {n : Nat} {xs : List (List UInt8)} (h : Strs w ao n xs) {b : Nat} {v : Value} (hb : Holds w b v) (v0 v1 v2 v3 : Value) : Strs ((((w.setCell ⟨b, 0, none⟩ v0).setCell ⟨b, 1, none⟩ v1).setCell ⟨b, 2, none⟩ v2).setCell ⟨b, 3, none⟩ v3) ao n xs := by
  refine ⟨h.len, ?_⟩
  rcases h.row with h0 | ⟨b', off, e, hc⟩
  · exact .inl h0
  · refine .inr ⟨b', off, e, fun j u hj => ?_⟩
    have h1 := hc j u hj
    have h2 : ∃ x, u = .string x := by
      obtain ⟨x, _, hx⟩ := List.mem_map.1 (List.mem_of_getElem? hj)
      exact ⟨_, hx.symm⟩
    obtain ⟨x, rfl⟩ := h2
    rw [cell_set4 (strs_not hb h1)]
    exact h1
theorem Waits.set4 {w : World} {ao : Option Addr} {n : Nat} {q : List Wt} (h : Waits w ao n q) {b : Nat} {v : Value} (hb : Holds w b v) (v0 v1 v2 v3 : Value) : Waits ((((w.setCell ⟨b, 0, none⟩ v0).setCell ⟨b, 1, none⟩ v1).setCell ⟨b, 2, none⟩ v2).setCell ⟨b, 3, none⟩ v3) ao n q := by
  refine ⟨h.len, h.range, ?_⟩
  rcases h.row with h0 | ⟨b', off, e, hc⟩
  · exact .inl h0
  · cases q with
    | nil => exact .inl rfl
    | cons x q =>
      have h1 := hc 1 (.string (bs x.s)) rfl
      have hne := strs_not hb h1
      refine .inr ⟨b', off, e, fun j u hj => ?_⟩
      rw [cell_set4 hne]
      exact hc j u hj
theorem IsDrive.set4 {w : World} {v : Value} {d : Drv} (h : IsDrive w v d) {b : Nat} {u : Value} (hb : Holds w b u) (v0 v1 v2 v3 : Value) : IsDrive ((((w.setCell ⟨b, 0, none⟩ v0).setCell ⟨b, 1, none⟩ v1).setCell ⟨b, 2, none⟩ v2).setCell ⟨b, 3, none⟩ v3) v d := by
  obtain ⟨a1, n1, c1, a2, n2, c2, f, o, e, h⟩ := h
  exact ⟨a1, n1, c1, a2, n2, c2, f, o, e, h.cells.set4 hb _ _ _ _, h.queue.set4 hb _ _ _ _, h.room1, h.room2, h.fuel_eq, h.off_eq, h.range⟩

theorem holds_form {w : World} {b : Nat} {v : Value} {d : Drv} (k : Holds w b v) (h : IsDrive w v d) : ∃ a1 c1 a2 c2, v = .agg #[.slice a1 d.cells.length c1, .slice a2 d.queue.length c2, .int .i64 d.fuel, .bool d.off] ∧ Blk w b [.slice a1 d.cells.length c1, .slice a2 d.queue.length c2, .int .i64 d.fuel, .bool d.off] 44 ∧ DriveAt w a1 d.cells.length c1 a2 d.queue.length c2 d.fuel d.off d := by
  obtain ⟨a1, n1, c1, a2, n2, c2, f, o, e1, hb⟩ := k
  obtain ⟨b1, m1, e2, b2, m2, e3, f', o', e4, hd⟩ := h
  rw [e1] at e4
  unfold drvVal at e4 e1
  injection e4 with e4
  have e5 := congrArg Array.toList e4
  simp only [List.cons.injEq, Value.slice.injEq, Value.int.injEq, Value.bool.injEq, and_true, true_and] at e5
  obtain ⟨⟨rfl, rfl, rfl⟩, ⟨rfl, rfl, rfl⟩, rfl, rfl⟩ := e5
  obtain rfl := hd.cells.len
  obtain rfl := hd.queue.len
  obtain rfl := hd.fuel_eq
  obtain rfl := hd.off_eq
  exact ⟨a1, c1, a2, c2, e1, hb, hd⟩

end Go.Proofs.YtogonkoeginoaaaGreatDoor
