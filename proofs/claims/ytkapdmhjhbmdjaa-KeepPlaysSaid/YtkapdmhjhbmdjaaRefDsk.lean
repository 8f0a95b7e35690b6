/-
  The walks through the document's small functions of layer 17: burns, cell.
-/
import Derived.Test.YtkapdmhjhbmdjaaDskBase
import Derived.Test.YtkapdmhjhbmdjaaBlk
namespace Go.Proofs.Ytkapdmhjhbmdjaa
open Go.RowKit

set_option maxRecDepth 100000 in
set_option maxHeartbeats 800000 in
theorem burns_any (a1 a2 : Option Addr) (n1 c1 n2 c2 : Nat) (fuel : Int) (off : Bool) (w : World) (hf : -9223372036854775808 ≤ fuel ∧ fuel < 9223372036854775808) :
    Calls Try.prog 73 #[.agg #[.slice a1 n1 c1, .slice a2 n2 c2, .int .i64 fuel, .bool off]] w fun e w' => e = .returned (.tuple #[.agg #[.slice a1 n1 c1, .slice a2 n2 c2, .int .i64 (burnFuel fuel off), .bool (burnOff fuel off)], .bool (!burnOff fuel off)]) ∧ Below w.heap.size w w' := by
  obtain ⟨hf1, hf2⟩ := hf
  have hcase : (off = true) ∨ (off = false ∧ fuel = 0) ∨ (off = false ∧ 0 < fuel) ∨ (off = false ∧ fuel < 0) := by
    cases off with
    | true => exact .inl rfl
    | false => rcases Int.lt_trichotomy fuel 0 with h | h | h
               · exact .inr (.inr (.inr ⟨rfl, h⟩))
               · exact .inr (.inl ⟨rfl, h⟩)
               · exact .inr (.inr (.inl ⟨rfl, h⟩))
  rcases hcase with rfl | ⟨rfl, rfl⟩ | ⟨rfl, h⟩ | ⟨rfl, h⟩
  · have H : Hid (burnFuel fuel true = fuel ∧ burnOff fuel true = true) := hide ⟨rfl, rfl⟩
    go_enter Try.func73, Try.ntmps73
    go_wp2_with fail
    rw [H.out.1, H.out.2]
    refine bodyPost_ret (v := .tuple #[.agg #[.slice a1 n1 c1, .slice a2 n2 c2, .int .i64 fuel, .bool true], .bool false]) (by simp [results, Try.results73, go_sem]) rfl ⟨rfl, ?_⟩
    exact ((Below.refl _ _).alloc (Nat.le_refl _) _).alloc (by simp) _
  · have H : Hid (burnFuel 0 false = 0 ∧ burnOff 0 false = true) := hide ⟨rfl, rfl⟩
    go_enter Try.func73, Try.ntmps73
    go_wp2_with fail
    rw [H.out.1, H.out.2]
    refine bodyPost_ret (v := .tuple #[.agg #[.slice a1 n1 c1, .slice a2 n2 c2, .int .i64 0, .bool true], .bool false]) (by simp [results, Try.results73, go_sem]) rfl ⟨rfl, ?_⟩
    exact ((Below.refl _ _).alloc (Nat.le_refl _) _).alloc (by simp) _
  · have H : Hid (burnFuel fuel false = fuel - 1 ∧ burnOff fuel false = false) := hide ⟨by simp [burnFuel, h], by simp [burnOff]; omega⟩
    have h0 : (fuel == 0) = false := by rw [beq_eq_false_iff_ne]; omega
    go_enter Try.func73, Try.ntmps73
    go_wp2_with fail
    rw [H.out.1, H.out.2]
    refine bodyPost_ret (v := .tuple #[.agg #[.slice a1 n1 c1, .slice a2 n2 c2, .int .i64 (fuel - 1), .bool false], .bool true]) (by simp [results, Try.results73, go_sem]) rfl ⟨rfl, ?_⟩
    exact ((Below.refl _ _).alloc (Nat.le_refl _) _).alloc (by simp) _
  · have H : Hid (burnFuel fuel false = fuel ∧ burnOff fuel false = false) := hide ⟨by simp [burnFuel]; omega, by simp [burnOff]; omega⟩
    have h0 : (fuel == 0) = false := by rw [beq_eq_false_iff_ne]; omega
    go_enter Try.func73, Try.ntmps73
    go_wp2_with fail
    rw [H.out.1, H.out.2]
    refine bodyPost_ret (v := .tuple #[.agg #[.slice a1 n1 c1, .slice a2 n2 c2, .int .i64 fuel, .bool false], .bool true]) (by simp [results, Try.results73, go_sem]) rfl ⟨rfl, ?_⟩
    exact ((Below.refl _ _).alloc (Nat.le_refl _) _).alloc (by simp) _

/-- The newest write of a cell among the first k that wait, or the cell. -/
def cellFrom (d : Drv) (p : Nat) : Nat → List UInt8
  | 0 => d.cells.getD p []
  | k + 1 => if (d.queue.getD k ⟨0, []⟩).pos = p then (d.queue.getD k ⟨0, []⟩).s else cellFrom d p k

set_option maxRecDepth 100000 in
set_option maxHeartbeats 1600000 in
theorem refcell_any (a1 a2 : Option Addr) (n1 c1 n2 c2 : Nat) (fuel : Int) (off : Bool) (d : Drv) (p : Nat) (w : World) (h : DriveAt w a1 n1 c1 a2 n2 c2 fuel off d) (hp : p < n1) :
    Calls Try.prog 74 #[.agg #[.slice a1 n1 c1, .slice a2 n2 c2, .int .i64 fuel, .bool off], .int .i64 (p : Int)] w fun e w' => e = .returned (.string (bs (cellFrom d p n2))) ∧ Below w.heap.size w w' := by
  have HD := hide h
  have HQ : Hid (d.queue.length = n2) := hide h.queue.len
  have HRG := hide h.room2
  have hn2 : n2 ≤ 9223372036854775807 := by have := h.room2; omega
  clear h
  go_enter Try.func74, Try.ntmps74
  go_wp2_with fail
  go_loopw [5] (fun i wr => ∃ k : Nat, k ≤ n2 ∧ i = .int .i64 ((k : Int) - 1) ∧ cellFrom d p n2 = cellFrom d p k ∧ wr = w.alloc (.cells #[.slice a1 n1 c1, .slice a2 n2 c2, .int .i64 fuel, .bool off] 25)) (fun i _ => (intOf i + 1).toNat)
  case atStart => exact ⟨n2, Nat.le_refl _, rfl, rfl, rfl⟩
  case round =>
    obtain ⟨k, hk, rfl, hcf, rfl⟩ := hrel
    have HCF := hide hcf
    have hbw : Below w.heap.size w (w.alloc (.cells #[.slice a1 n1 c1, .slice a2 n2 c2, .int .i64 fuel, .bool off] 25)) := (Below.refl _ _).alloc (Nat.le_refl _) _
    clear hcf
    cases k with
    | zero =>
      obtain ⟨b, o, hb, hix, hcc⟩ := (HD.out.cells.below hbw).at c1 p hp
      have hfin : Hid (cellFrom d p n2 = d.cells.getD p []) := hide (by rw [HCF.out]; rfl)
      go_wp2_with fail
      go_ret
      rw [hfin.out]
      exact ⟨rfl, hbw⟩
    | succ k =>
      have hkt : k < n2 := by omega
      obtain ⟨b, o, hb, hix, hcp, hcs⟩ := (HD.out.queue.below hbw).at c2 k hkt
      have e1 : ((k + 1 : Nat) : Int) - 1 = (k : Int) := by omega
      rw [e1]
      have hstep : cellFrom d p (k + 1) = if (d.queue.getD k ⟨0, []⟩).pos = p then (d.queue.getD k ⟨0, []⟩).s else cellFrom d p k := rfl
      have hrg := HD.out.queue.range _ (getD_mem d.queue k ⟨0, []⟩ (by rw [HQ.out]; exact hkt))
      obtain ⟨x, hx⟩ : ∃ x, d.queue.getD k ⟨0, []⟩ = x := ⟨_, rfl⟩
      rw [hx] at hcp hcs hstep hrg
      obtain ⟨pos, l⟩ := x
      simp only at hcp hcs hstep hrg
      have HST := hide hstep
      have HR := hide hrg
      clear hstep hrg hx
      by_cases hpp : pos = p
      · subst hpp
        have hfin : Hid (cellFrom d p n2 = l) := hide (by rw [HCF.out, HST.out, if_pos rfl])
        go_wp2_with fail
        go_ret
        rw [hfin.out]
        exact ⟨rfl, hbw⟩
      · have hfin : Hid (cellFrom d p n2 = cellFrom d p k) := hide (by rw [HCF.out, HST.out, if_neg hpp])
        have hpb : (pos == (p : Int)) = false := by rw [beq_eq_false_iff_ne]; exact hpp
        go_wp2_with fail
        go_roundw
        case rel => exact ⟨k, by omega, by go_num, hfin.out, trivial⟩
        case measure => simp [intOf]

end Go.Proofs.Ytkapdmhjhbmdjaa
