/-
  The walks through the statements' small functions of layer 17: octets.
-/
import Derived.Test.YtogonkoeginoaaaGreatDoorDskBase
import Derived.Test.YtogonkoeginoaaaGreatDoorBlk
namespace Go.Proofs.YtogonkoeginoaaaGreatDoor
open Go.RowKit

theorem bs_take (l : List UInt8) (n : Nat) : bs (l.take n) = (bs l).extract 0 n := by
  have e : ((bs l).extract 0 n).data.toList = l.take n := by
    simp only [bs, ByteArray.data_extract, Array.toList_extract, List.extract_eq_take_drop, List.drop_zero, Nat.sub_zero]
  rw [← e]; rfl


theorem Row.cut {w : World} {ao : Option Addr} {vs : List Value} (h : Row w ao vs) (k : Nat) : Row w ao (vs.take k) := by
  rcases h with rfl | ⟨b, off, e, hc⟩
  · exact .inl (by simp)
  · refine .inr ⟨b, off, e, fun j v hj => hc j v ?_⟩
    rw [List.getElem?_take] at hj
    split at hj
    · exact hj
    · cases hj
theorem Strs.cut {w : World} {ao : Option Addr} {n : Nat} {xs : List (List UInt8)} (h : Strs w ao n xs) {k : Nat} (hk : k ≤ n) : Strs w ao k (xs.take k) := by
  refine ⟨by rw [List.length_take, h.len]; omega, ?_⟩
  have := h.row.cut k
  unfold strVals at this ⊢
  rwa [List.map_take]
theorem waitVals_take (q : List Wt) : ∀ k, waitVals (q.take k) = (waitVals q).take (k * 2) := by
  induction q with
  | nil => intro k; simp [waitVals]
  | cons x q ih =>
    intro k
    cases k with
    | zero => simp [waitVals]
    | succ k =>
      rw [List.take_succ_cons]
      have e1 : waitVals (x :: q.take k) = [Value.int .i64 x.pos, Value.string (bs x.s)] ++ waitVals (q.take k) := rfl
      have e2 : waitVals (x :: q) = [Value.int .i64 x.pos, Value.string (bs x.s)] ++ waitVals q := rfl
      rw [e1, e2, ih, show (k + 1) * 2 = k * 2 + 1 + 1 by omega]
      rfl
theorem Waits.cut {w : World} {ao : Option Addr} {n : Nat} {q : List Wt} (h : Waits w ao n q) {k : Nat} (hk : k ≤ n) : Waits w ao k (q.take k) := by
  refine ⟨by rw [List.length_take, h.len]; omega, fun x hx => h.range x (List.mem_of_mem_take hx), ?_⟩
  rw [waitVals_take]
  exact h.row.cut _

/-- What the statements look at of a drive. -/
def fewN (n : Nat) : Nat := if 40 < n ∧ n ≤ 6000 then 40 else if 6001 < n then 6001 else n
def Drv.few (d : Drv) : Drv := ⟨d.cells.take (fewN d.cells.length), d.queue.take 80, d.fuel, d.off⟩

theorem few_cases (n : Nat) : (40 < n ∧ n ≤ 6000 ∧ fewN n = 40) ∨ (6001 < n ∧ fewN n = 6001) ∨ (n ≤ 40 ∧ fewN n = n) ∨ (n = 6001 ∧ fewN n = n) := by
  unfold fewN
  by_cases h1 : 40 < n ∧ n ≤ 6000
  · exact .inl ⟨h1.1, h1.2, by rw [if_pos h1]⟩
  · rw [if_neg h1]
    by_cases h2 : 6001 < n
    · exact .inr (.inl ⟨h2, by rw [if_pos h2]⟩)
    · rw [if_neg h2]
      by_cases h3 : n ≤ 40
      · exact .inr (.inr (.inl ⟨h3, rfl⟩))
      · exact .inr (.inr (.inr ⟨by omega, rfl⟩))
theorem few_branch (v : Value) (a1 a2 : Option Addr) (n1 c1 n2 c2 : Nat) (fuel : Int) (off : Bool) (w w' : World) (d : Drv) (h : DriveAt w a1 n1 c1 a2 n2 c2 fuel off d) (hb : Below w.heap.size w w') (m1 m2 : Nat) (h1 : fewN n1 = m1) (h2 : min 80 n2 = m2) (hv : v = .agg #[.slice a1 m1 c1, .slice a2 m2 c2, .int .i64 fuel, .bool off]) : IsDrive w' v d.few := by
  have hm1 : m1 ≤ n1 := by rw [← h1]; unfold fewN; split <;> (try split) <;> omega
  have hm2 : m2 ≤ n2 := by omega
  refine ⟨a1, m1, c1, a2, m2, c2, fuel, off, hv, ?_, ?_, ⟨by have := h.room1; omega, h.room1.2⟩, ⟨by have := h.room2; omega, h.room2.2⟩, h.fuel_eq, h.off_eq, h.range⟩
  · unfold Drv.few
    simp only
    rw [h.cells.len, h1]
    exact (h.cells.below hb).cut hm1
  · unfold Drv.few
    simp only
    have e : d.queue.take 80 = d.queue.take m2 := by
      by_cases hq : n2 ≤ 80
      · rw [show m2 = n2 by omega, List.take_of_length_le (by rw [h.queue.len]; omega), List.take_of_length_le (by rw [h.queue.len]; omega)]
      · rw [show m2 = 80 by omega]
    rw [e]
    exact (h.queue.below hb).cut hm2


end Go.Proofs.YtogonkoeginoaaaGreatDoor
