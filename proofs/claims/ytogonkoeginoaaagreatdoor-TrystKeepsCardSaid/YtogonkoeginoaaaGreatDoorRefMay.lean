/-
  The walk through the document's May of layer 17.
-/
import Derived.Test.YtogonkoeginoaaaGreatDoorDskLoss
import Derived.Deep.QuietTactic
import Derived.BigQuiet
namespace Go.Proofs.YtogonkoeginoaaaGreatDoor
open Go.RowKit

def cellsOkTo (xs : List (List UInt8)) (k : Nat) : Bool := cellsOk (xs.take k)
def waitsOkTo (n : Nat) (q : List Wt) (k : Nat) : Bool := waitsOk n (q.take k)
theorem take_getD_snoc {α : Type} (l : List α) (k : Nat) (z : α) (h : k < l.length) : l.take (k + 1) = l.take k ++ [l.getD k z] := by
  rw [List.take_succ_eq_append_getElem h, List.getD_eq_getElem?_getD, List.getElem?_eq_getElem h]
  rfl
theorem cellsOkTo_succ (xs : List (List UInt8)) (k : Nat) (h : k < xs.length) : cellsOkTo xs (k + 1) = (cellsOkTo xs k && (xs.getD k []).length == 64) := by
  unfold cellsOkTo cellsOk
  rw [take_getD_snoc xs k [] h, List.all_append]
  simp
theorem waitsOkTo_succ (n : Nat) (q : List Wt) (k : Nat) (h : k < q.length) : waitsOkTo n q (k + 1) = (waitsOkTo n q k && (decide (0 ≤ (q.getD k ⟨0, []⟩).pos ∧ (q.getD k ⟨0, []⟩).pos < n) && (q.getD k ⟨0, []⟩).s.length == 64)) := by
  unfold waitsOkTo waitsOk
  rw [take_getD_snoc q k ⟨0, []⟩ h, List.all_append]
  simp



end Go.Proofs.YtogonkoeginoaaaGreatDoor
