/-
  The walk through the document's May of layer 17.
-/
import Derived.Test.YtkapdmhjhbmdjaaDskLoss
import Derived.Deep.QuietTactic
import Derived.BigQuiet
namespace Go.Proofs.Ytkapdmhjhbmdjaa
open Go.RowKit

def cellsOkTo (xs : List (List UInt8)) (k : Nat) : Bool := cellsOk (xs.take k)
def waitsOkTo (n : Nat) (q : List Wt) (k : Nat) : Bool := waitsOk n (q.take k)
theorem take_getD_snoc {α : Type} (l : List α) (k : Nat) (z : α) (h : k < l.length) : l.take (k + 1) = l.take k ++ [l.getD k z] := by
  rw [List.take_succ_eq_append_getElem h, List.getD_eq_getElem?_getD, List.getElem?_eq_getElem h]
  rfl
theorem cellsOkTo_succ (xs : List (List UInt8)) (k : Nat) (h : k < xs.length) : cellsOkTo xs (k + 1) = (cellsOkTo xs k && (xs.getD k []).length == 64) := by
  unfold cellsOkTo cellsOk
  rw [take_getD_snoc xs k [] h, List.all_append]
  simp
theorem waitsOkTo_succ (n : Nat) (q : List Wt) (k : Nat) (h : k < q.length) : waitsOkTo n q (k + 1) = (waitsOkTo n q k && (decide (0 ≤ (q.getD k ⟨0, []⟩).pos ∧ (q.getD k ⟨0, []⟩).pos < n) && (q.getD k ⟨0, []⟩).s.length == 64)) := by
  unfold waitsOkTo waitsOk
  rw [take_getD_snoc q k ⟨0, []⟩ h, List.all_append]
  simp

set_option maxRecDepth 100000 in
set_option maxHeartbeats 1600000 in
theorem refmay_run (a1 a2 : Option Addr) (n1 c1 n2 c2 : Nat) (fuel : Int) (off : Bool) (d : Drv) (w : World) (h : DriveAt w a1 n1 c1 a2 n2 c2 fuel off d) :
    Calls Try.prog 26 #[.agg #[.slice a1 n1 c1, .slice a2 n2 c2, .int .i64 fuel, .bool off]] w fun e w' => e = .returned (.bool d.mayB) ∧ Below w.heap.size w w' := by
  have HD := hide h
  have r1 := h.room1
  have r2 := h.room2
  have rf := h.range
  have hl1 := h.cells.len
  have hl2 := h.queue.len
  have hfu := h.fuel_eq
  clear h
  have HM : Hid (d.mayB = (decide (1 ≤ n1 ∧ n1 ≤ 6000 ∧ -1 ≤ fuel) && cellsOkTo d.cells n1 && waitsOkTo n1 d.queue n2)) := hide (by
    unfold Drv.mayB cellsOkTo waitsOkTo
    rw [hl1, hfu, List.take_of_length_le (by omega), List.take_of_length_le (by omega)])
  have HL := hide (And.intro hl1 hl2)
  clear hl1 hl2 hfu
  obtain ⟨g, hg⟩ : ∃ g, decide (1 ≤ n1 ∧ n1 ≤ 6000 ∧ -1 ≤ fuel) = g := ⟨_, rfl⟩
  rw [hg] at HM
  have hcase : (n1 < 1 ∧ g = false) ∨ (1 ≤ n1 ∧ 6000 < n1 ∧ g = false) ∨ (1 ≤ n1 ∧ n1 ≤ 6000 ∧ fuel < -1 ∧ g = false) ∨ (1 ≤ n1 ∧ n1 ≤ 6000 ∧ -1 ≤ fuel ∧ g = true) := by
    by_cases hgood : 1 ≤ n1 ∧ n1 ≤ 6000 ∧ -1 ≤ fuel
    · rw [decide_eq_true hgood] at hg
      exact .inr (.inr (.inr ⟨hgood.1, hgood.2.1, hgood.2.2, hg.symm⟩))
    · rw [decide_eq_false hgood] at hg
      have := hg.symm
      by_cases h1 : n1 < 1
      · exact .inl ⟨h1, this⟩
      · by_cases h2 : 6000 < n1
        · exact .inr (.inl ⟨by omega, h2, this⟩)
        · exact .inr (.inr (.inl ⟨by omega, by omega, by omega, this⟩))
  clear hg
  have h0 : cellsOkTo d.cells 0 = true := rfl
  rcases hcase with ⟨h1, hg⟩ | ⟨h1, h2, hg⟩ | ⟨h1, h2, h3, hg⟩ | ⟨h1, h2, h3, hg⟩
  all_goals
    have HG := hide hg
    have H0 := hide h0
    clear hg h0
    go_enter Try.func26, Try.ntmps26
    go_wp2_with fail
    have H1 := hide h1
    have R1 := hide r1
    have R2 := hide r2
    have RF := hide rf
    clear h1 r1 r2 rf
    go_loop [3, 4] (fun v i => ∃ (k : Nat) (b : Bool), k ≤ n1 ∧ i = .int .i64 k ∧ v = .bool b ∧ (g && cellsOkTo d.cells k) = b) (fun _ i => n1 - (intOf i).toNat)
    case atStart => exact ⟨0, g, Nat.zero_le _, rfl, by first | (rw [HG.out]; done) | rw [HG.out, decide_eq_false (by omega)], by rw [H0.out]; exact Bool.and_true _⟩
    case round =>
      obtain ⟨k, b, hk, rfl, rfl, hb⟩ := hrel
      have HB := hide hb
      clear hb
      by_cases hlt : k < n1
      · first | (exfalso; omega) | skip
        all_goals
          have hcs := cellsOkTo_succ d.cells k (by rw [HL.out.1]; exact hlt)
          obtain ⟨bb, o, hbb, hix, hcl⟩ := HD.out.cells.at c1 k hlt
          have hsz : (bs (d.cells.getD k [])).size = (d.cells.getD k []).length := rfl
          obtain ⟨s, hs⟩ : ∃ s, bs (d.cells.getD k []) = s := ⟨_, rfl⟩
          rw [hs] at hcl hsz
          rw [← hsz] at hcs
          have HCS := hide hcs
          clear hs hsz hcs
          have hn2 : n1 ≤ 9223372036854775807 := by have := R1.out; omega
          cases b with
          | false =>
            have hn : Hid ((g && cellsOkTo d.cells (k + 1)) = false) := hide (by rw [HCS.out, ← Bool.and_assoc, HB.out]; rfl)
            go_wp2_with fail
            go_round
            case rel => exact ⟨k + 1, false, by omega, by go_num, rfl, hn.out⟩
            case measure => simp [intOf]; omega
          | true =>
            by_cases h64 : s.size = 64
            · have hn : Hid ((g && cellsOkTo d.cells (k + 1)) = true) := hide (by rw [HCS.out, ← Bool.and_assoc, HB.out, h64]; rfl)
              have h64b : ((s.size : Int) == 64) = true := by rw [beq_iff_eq]; omega
              clear h64
              go_wp2_with fail
              go_round
              case rel => exact ⟨k + 1, true, by omega, by go_num, rfl, hn.out⟩
              case measure => simp [intOf]; omega
            · have hn : Hid ((g && cellsOkTo d.cells (k + 1)) = false) := hide (by rw [HCS.out, ← Bool.and_assoc, HB.out, beq_eq_false_iff_ne.2 h64]; rfl)
              have h64b : ((s.size : Int) == 64) = false := by rw [beq_eq_false_iff_ne]; omega
              clear h64
              go_wp2_with fail
              go_round
              case rel => exact ⟨k + 1, false, by omega, by go_num, rfl, hn.out⟩
              case measure => simp [intOf]; omega
      · obtain rfl : k = n1 := by omega
        have h0w : waitsOkTo k d.queue 0 = true := rfl
        have H0W := hide h0w
        clear h0w
        have HN6 : Hid (k ≤ 9223372036854775807 ∧ n2 ≤ 9223372036854775807) := hide (by have := R1.out; have := R2.out; omega)
        go_wp2_with fail
        go_loopw [3, 5] (fun v i wr => ∃ (j : Nat) (b2 : Bool), j ≤ n2 ∧ i = .int .i64 j ∧ v = .bool b2 ∧ (b && waitsOkTo k d.queue j) = b2 ∧ Below (w.heap.size + 1) (w.alloc (.cells #[.slice a1 k c1, .slice a2 n2 c2, .int .i64 fuel, .bool off] 25)) wr) (fun _ i _ => n2 - (intOf i).toNat)
        case atStart => exact ⟨0, b, Nat.zero_le _, rfl, rfl, by rw [H0W.out]; exact Bool.and_true _, Below.refl _ _⟩
        case round =>
          obtain ⟨j, b2, hj, rfl, rfl, hb2, hbr⟩ := hrel
          have HB2 := hide hb2
          clear hb2
          have hbw : Below w.heap.size w wr := ((Below.refl _ _).alloc (Nat.le_refl _) _).trans (hbr.mono (by omega))
          obtain ⟨hc1, hf1⟩ := bcell hbr
          have hszw : w.heap.size < wr.heap.size := by have := hbr.size; simp at this; omega
          by_cases hjt : j < n2
          · have hcs := waitsOkTo_succ k d.queue j (by rw [HL.out.2]; exact hjt)
            obtain ⟨bb, o, hbb, hix, hcp, hcs2⟩ := (HD.out.queue.below hbw).at c2 j hjt
            have hrg := HD.out.queue.range _ (getD_mem d.queue j ⟨0, []⟩ (by rw [HL.out.2]; exact hjt))
            obtain ⟨x, hx⟩ : ∃ x, d.queue.getD j ⟨0, []⟩ = x := ⟨_, rfl⟩
            rw [hx] at hcp hcs2 hrg hcs
            obtain ⟨pos, l⟩ := x
            have hsz : (bs l).size = l.length := rfl
            obtain ⟨s, hs⟩ : ∃ s, bs l = s := ⟨_, rfl⟩
            simp only [hs] at hcp hcs2 hsz hrg hcs
            rw [← hsz] at hcs
            have HCS := hide hcs
            have hn2' : n2 ≤ 9223372036854775807 := HN6.out.2
            have HBR := hide hbr
            clear hs hsz hx hcs hbr
            cases b2 with
            | false =>
              have hn : Hid ((b && waitsOkTo k d.queue (j + 1)) = false) := hide (by rw [HCS.out, ← Bool.and_assoc, HB2.out]; rfl)
              go_wp2_with fail
              go_quiet (fail)
              go_wp2_with fail
              go_roundw
              case rel => exact ⟨j + 1, false, by omega, by go_num, rfl, hn.out, Below.drawn HBR.out _⟩
              case measure => simp [intOf]; omega
            | true =>
              have hcase : (0 ≤ pos ∧ pos < k ∧ s.size = 64 ∧ waitsOkTo k d.queue (j + 1) = waitsOkTo k d.queue j) ∨ (pos < 0 ∧ (b && waitsOkTo k d.queue (j + 1)) = false) ∨ (0 ≤ pos ∧ (k : Int) ≤ pos ∧ (b && waitsOkTo k d.queue (j + 1)) = false) ∨ (0 ≤ pos ∧ pos < k ∧ s.size ≠ 64 ∧ (b && waitsOkTo k d.queue (j + 1)) = false) := by
                rw [HCS.out]
                by_cases c1 : 0 ≤ pos ∧ pos < k
                · rw [decide_eq_true c1]
                  by_cases c2 : s.size = 64
                  · exact .inl ⟨c1.1, c1.2, c2, by rw [c2]; simp⟩
                  · exact .inr (.inr (.inr ⟨c1.1, c1.2, c2, by rw [beq_eq_false_iff_ne.2 c2]; simp⟩))
                · rw [decide_eq_false c1]
                  by_cases c3 : pos < 0
                  · exact .inr (.inl ⟨c3, by simp⟩)
                  · exact .inr (.inr (.inl ⟨by omega, by omega, by simp⟩))
              rcases hcase with ⟨q0, q1, q2, hn⟩ | ⟨q0, hn⟩ | ⟨q0, q1, hn⟩ | ⟨q0, q1, q2, hn⟩
              · first | (exfalso; omega) | skip
                all_goals
                  have h64b : ((s.size : Int) == 64) = true := by rw [beq_iff_eq]; omega
                  have hnn : Hid ((b && waitsOkTo k d.queue (j + 1)) = true) := hide (by rw [hn]; exact HB2.out)
                  have e1 : decide ((0 : Int) ≤ pos) = true := by simpa using q0
                  have e2 : decide (pos < (k : Int)) = true := by simpa using q1
                  clear hn q2
                  go_wp2_with fail
                  go_quiet (fail)
                  go_wp2_with fail
                  go_roundw
                  case rel => exact ⟨j + 1, true, by omega, by go_num, rfl, hnn.out, Below.drawn HBR.out _⟩
                  case measure => simp [intOf]; omega
              · have hnn := hide hn
                have e1 : decide ((0 : Int) ≤ pos) = false := by simp; omega
                clear hn
                go_wp2_with fail
                go_quiet (fail)
                go_wp2_with fail
                go_roundw
                case rel => exact ⟨j + 1, false, by omega, by go_num, rfl, hnn.out, Below.drawn HBR.out _⟩
                case measure => simp [intOf]; omega
              · have hnn := hide hn
                have e1 : decide ((0 : Int) ≤ pos) = true := by simpa using q0
                have e2 : decide (pos < (k : Int)) = false := by simp; omega
                clear hn
                go_wp2_with fail
                go_quiet (fail)
                go_wp2_with fail
                go_roundw
                case rel => exact ⟨j + 1, false, by omega, by go_num, rfl, hnn.out, Below.drawn HBR.out _⟩
                case measure => simp [intOf]; omega
              · first | (exfalso; omega) | skip
                all_goals
                  have hnn := hide hn
                  have h64b : ((s.size : Int) == 64) = false := by rw [beq_eq_false_iff_ne]; omega
                  have e1 : decide ((0 : Int) ≤ pos) = true := by simpa using q0
                  have e2 : decide (pos < (k : Int)) = true := by simpa using q1
                  clear hn q2
                  go_wp2_with fail
                  go_quiet (fail)
                  go_wp2_with fail
                  go_roundw
                  case rel => exact ⟨j + 1, false, by omega, by go_num, rfl, hnn.out, Below.drawn HBR.out _⟩
                  case measure => simp [intOf]; omega
          · obtain rfl : j = n2 := by omega
            go_wp2_with fail
            go_ret
            rw [HM.out, HB.out, HB2.out]
            exact ⟨rfl, hbw⟩

/-- The document's May. -/
theorem refmay_any (v : Value) (d : Drv) (w : World) (h : IsDrive w v d) : Calls Try.prog 26 #[v] w fun e w' => e = .returned (.bool d.mayB) ∧ Below w.heap.size w w' := by
  obtain ⟨a1, n1, c1, a2, n2, c2, fuel, off, rfl, hd⟩ := h
  exact refmay_run a1 a2 n1 c1 n2 c2 fuel off d w hd

end Go.Proofs.Ytkapdmhjhbmdjaa
