/-
  The walk through the document's Same.
-/
import Derived.Test.YtkapdmhjhbmdjaaDskBase
import Derived.Test.YtkapdmhjhbmdjaaBlk
import Derived.Deep.QuietTactic
import Derived.BigQuiet
namespace Go.Proofs.Ytkapdmhjhbmdjaa
open Go.RowKit

set_option maxRecDepth 100000 in
set_option maxHeartbeats 3200000 in
theorem same_yes (a1 a2 : Option Addr) (n1 c1 n2 c2 : Nat) (fuel : Int) (off : Bool) (d : Drv) (b1 b2 : Option Addr) (e1 e2 : Nat) (w : World) (h : DriveAt w a1 n1 c1 a2 n2 c2 fuel off d) (h' : DriveAt w b1 n1 e1 b2 n2 e2 fuel off d) :
    Calls Try.prog 23 #[.agg #[.slice a1 n1 c1, .slice a2 n2 c2, .int .i64 fuel, .bool off], .agg #[.slice b1 n1 e1, .slice b2 n2 e2, .int .i64 fuel, .bool off]] w fun e w' => e = .returned (.bool true) ∧ Below w.heap.size w w' := by
  have HD := hide h
  have HE := hide h'
  have hn1 : n1 ≤ 9223372036854775807 := by have := h.room1; omega
  have hn2 : n2 ≤ 9223372036854775807 := by have := h.room2; omega
  obtain ⟨B0, B1⟩ := two_boxes w [.slice a1 n1 c1, .slice a2 n2 c2, .int .i64 fuel, .bool off] [.slice b1 n1 e1, .slice b2 n2 e2, .int .i64 fuel, .bool off] 25
  clear h h'
  go_enter Try.func23, Try.ntmps23
  go_wp2_with fail
  go_loopw [5] (fun i wr => ∃ k : Nat, k ≤ n1 ∧ i = .int .i64 k ∧ Below (w.heap.size + 2) ((w.alloc (.cells #[.slice a1 n1 c1, .slice a2 n2 c2, .int .i64 fuel, .bool off] 25)).alloc (.cells #[.slice b1 n1 e1, .slice b2 n2 e2, .int .i64 fuel, .bool off] 25)) wr) (fun i _ => n1 - (intOf i).toNat)
  case atStart => exact ⟨0, Nat.zero_le _, rfl, Below.refl _ _⟩
  case round =>
    obtain ⟨k, hk, rfl, hbr⟩ := hrel
    have hbw : Below w.heap.size w wr := (((Below.refl _ _).alloc (Nat.le_refl _) _).alloc (by simp) _).trans (hbr.mono (by omega))
    obtain ⟨p0, p1, p2, p3, p4, p5, p6, p7⟩ := (B0.below hbr (by omega)).four
    obtain ⟨q0, q1, q2, q3, q4, q5, q6, q7⟩ := (B1.below hbr (by omega)).four
    by_cases hkt : k < n1
    · obtain ⟨b, o, hb, hix, hcc⟩ := (HD.out.cells.below hbw).at c1 k hkt
      obtain ⟨b', o', hb', hix', hcc'⟩ := (HE.out.cells.below hbw).at e1 k hkt
      obtain ⟨s, hs⟩ : ∃ s, bs (d.cells.getD k []) = s := ⟨_, rfl⟩
      rw [hs] at hcc hcc'
      clear hs
      go_wp2_with fail
      go_quiet (fail)
      go_wp2_with fail
      go_roundw
      case rel => exact ⟨k + 1, by omega, by go_num, Below.trans hbr ⟨rfl, rfl, rfl, Nat.le_refl _, fun _ _ => rfl⟩⟩
      case measure => simp [intOf]; omega
    · obtain rfl : k = n1 := by omega
      obtain ⟨wA, rfl⟩ : ∃ wA, wA = wr := ⟨_, rfl⟩
      have HBR := hide hbr
      have HBW := hide hbw
      have A0 := B0.below hbr (by omega)
      have A1 := B1.below hbr (by omega)
      have hwA : w.heap.size + 1 < wA.heap.size := A1.lt
      clear hbr hbw B0 B1
      go_wp2_with fail
      clear p0 p1 p2 p3 p4 p5 p6 p7 q0 q1 q2 q3 q4 q5 q6 q7
      go_loopw [6] (fun i wz => ∃ k : Nat, k ≤ n2 ∧ i = .int .i64 k ∧ Below wA.heap.size wA wz) (fun i _ => n2 - (intOf i).toNat)
      case atStart => exact ⟨0, Nat.zero_le _, rfl, Below.refl _ _⟩
      case round =>
        obtain ⟨j, hj, rfl, hbz⟩ := hrel
        have hbwz : Below w.heap.size w wr := chain HBW.out hbz
        obtain ⟨p0, p1, p2, p3, p4, p5, p6, p7⟩ := (A0.next hbz).four
        obtain ⟨q0, q1, q2, q3, q4, q5, q6, q7⟩ := (A1.next hbz).four
        by_cases hjt : j < n2
        · obtain ⟨b, o, hb, hix, hcp, hcs⟩ := (HD.out.queue.below hbwz).at c2 j hjt
          obtain ⟨b', o', hb', hix', hcp', hcs'⟩ := (HE.out.queue.below hbwz).at e2 j hjt
          obtain ⟨x, hx⟩ : ∃ x, d.queue.getD j ⟨0, []⟩ = x := ⟨_, rfl⟩
          rw [hx] at hcp hcs hcp' hcs'
          obtain ⟨pos, l⟩ := x
          obtain ⟨s, hs⟩ : ∃ s, bs l = s := ⟨_, rfl⟩
          simp only [hs] at hcp hcs hcp' hcs'
          clear hs hx
          go_wp2_with fail
          go_quiet (fail)
          go_wp2_with fail
          go_roundw
          case rel => exact ⟨j + 1, by omega, by go_num, Below.trans hbz ⟨rfl, rfl, rfl, Nat.le_refl _, fun _ _ => rfl⟩⟩
          case measure => simp [intOf]; omega
        · obtain rfl : j = n2 := by omega
          go_wp2_with fail
          go_ret
          exact ⟨rfl, hbwz⟩

/-- Same, of two drives that are the same. -/
theorem same_any (v v' : Value) (d : Drv) (w : World) (h : IsDrive w v d) (h' : IsDrive w v' d) : Calls Try.prog 23 #[v, v'] w fun e w' => e = .returned (.bool true) ∧ Below w.heap.size w w' := by
  obtain ⟨a1, n1, c1, a2, n2, c2, fuel, off, rfl, hd⟩ := h
  obtain ⟨b1, m1, e1, b2, m2, e2, fuel', off', rfl, hd'⟩ := h'
  obtain rfl : n1 = m1 := by rw [← hd.cells.len, hd'.cells.len]
  obtain rfl : n2 = m2 := by rw [← hd.queue.len, hd'.queue.len]
  obtain rfl : fuel = fuel' := by rw [← hd.fuel_eq, hd'.fuel_eq]
  obtain rfl : off = off' := by rw [← hd.off_eq, hd'.off_eq]
  exact same_yes a1 a2 n1 c1 n2 c2 fuel off d b1 b2 e1 e2 w hd hd'

end Go.Proofs.Ytkapdmhjhbmdjaa
