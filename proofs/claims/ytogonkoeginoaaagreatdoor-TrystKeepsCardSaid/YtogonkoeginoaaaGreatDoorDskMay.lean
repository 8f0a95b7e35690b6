/-
  The walk through disk.May.
-/
import Derived.Test.YtogonkoeginoaaaGreatDoorDrvMem
namespace Go.Proofs.YtogonkoeginoaaaGreatDoor
open Go.RowKit

/-- The first k of the cells are as long as cells are. -/
def Cells64 (xs : List (List UInt8)) (k : Nat) : Prop := ∀ i, i < k → (xs.getD i []).length = 64
/-- The first k of the waiting writes may be. -/
def Waits64 (n : Nat) (q : List Wt) (k : Nat) : Prop := ∀ i, i < k → 0 ≤ (q.getD i ⟨0, []⟩).pos ∧ (q.getD i ⟨0, []⟩).pos < n ∧ (q.getD i ⟨0, []⟩).s.length = 64

theorem getD_mem {α : Type} (l : List α) (i : Nat) (x : α) (h : i < l.length) : l.getD i x ∈ l := by
  rw [List.getD_eq_getElem?_getD, List.getElem?_eq_getElem h]
  exact List.getElem_mem h
theorem mem_getD {α : Type} {l : List α} {a : α} (x : α) (h : a ∈ l) : ∃ i, i < l.length ∧ l.getD i x = a := by
  obtain ⟨i, hi, e⟩ := List.getElem_of_mem h
  exact ⟨i, hi, by rw [List.getD_eq_getElem?_getD, List.getElem?_eq_getElem hi]; exact e⟩

theorem cellsOk_of {xs : List (List UInt8)} (h : Cells64 xs xs.length) : cellsOk xs = true := by
  simp only [cellsOk, List.all_eq_true, beq_iff_eq]
  intro c hc
  obtain ⟨i, hi, rfl⟩ := mem_getD [] hc
  exact h i hi
theorem cellsOk_not {xs : List (List UInt8)} {k : Nat} (hk : k < xs.length) (h : (xs.getD k []).length ≠ 64) : cellsOk xs = false := by
  rw [Bool.eq_false_iff]
  intro h2
  simp only [cellsOk, List.all_eq_true, beq_iff_eq] at h2
  exact h (h2 _ (getD_mem xs k [] hk))
theorem waitsOk_of {n : Nat} {q : List Wt} (h : Waits64 n q q.length) : waitsOk n q = true := by
  simp only [waitsOk, List.all_eq_true, Bool.and_eq_true, decide_eq_true_iff, beq_iff_eq]
  intro c hc
  obtain ⟨i, hi, rfl⟩ := mem_getD ⟨0, []⟩ hc
  exact ⟨⟨(h i hi).1, (h i hi).2.1⟩, (h i hi).2.2⟩
theorem waitsOk_not {n : Nat} {q : List Wt} {k : Nat} (hk : k < q.length) (h : ¬ (0 ≤ (q.getD k ⟨0, []⟩).pos ∧ (q.getD k ⟨0, []⟩).pos < n ∧ (q.getD k ⟨0, []⟩).s.length = 64)) : waitsOk n q = false := by
  rw [Bool.eq_false_iff]
  intro h2
  simp only [waitsOk, List.all_eq_true, Bool.and_eq_true, decide_eq_true_iff, beq_iff_eq] at h2
  have := h2 _ (getD_mem q k ⟨0, []⟩ hk)
  exact h ⟨this.1.1, this.1.2, this.2⟩

set_option maxRecDepth 100000 in
set_option maxHeartbeats 1600000 in
theorem may_run (a1 a2 : Option Addr) (n1 c1 n2 c2 : Nat) (fuel : Int) (off : Bool) (d : Drv) (w : World) (h : DriveAt w a1 n1 c1 a2 n2 c2 fuel off d) :
    Calls Tryz.prog 30 #[.agg #[.slice a1 n1 c1, .slice a2 n2 c2, .int .i64 fuel, .bool off]] w fun e w' => e = .returned (.bool d.mayB) ∧ Below w.heap.size w w' := by
  have HD := hide h
  have r1 := h.room1
  have r2 := h.room2
  have rf := h.range
  have hl1 := h.cells.len
  have hl2 := h.queue.len
  have hfu := h.fuel_eq
  clear h
  by_cases hbad : ¬ (1 ≤ n1 ∧ n1 ≤ 6000 ∧ -1 ≤ fuel)
  · have HM : Hid (d.mayB = false) := hide (by
      unfold Drv.mayB
      rw [hl1, hfu, decide_eq_false hbad]
      rfl)
    clear hl1 hl2 hfu
    have hcase : n1 < 1 ∨ (1 ≤ n1 ∧ 6000 < n1) ∨ (1 ≤ n1 ∧ n1 ≤ 6000 ∧ fuel < -1) := by omega
    clear hbad
    rcases hcase with h1 | ⟨h1, h2⟩ | ⟨h1, h2, h3⟩
    all_goals
      go_enter Tryz.func30, Tryz.ntmps30
      go_wp2_with fail
      go_ret
      rw [HM.out]
      exact ⟨rfl, (Below.refl _ _).alloc (Nat.le_refl _) _⟩
  · have hgood : 1 ≤ n1 ∧ n1 ≤ 6000 ∧ -1 ≤ fuel := by omega
    have HM : Hid (d.mayB = (cellsOk d.cells && waitsOk n1 d.queue)) := hide (by
      unfold Drv.mayB
      rw [hl1, hfu, decide_eq_true hgood]
      rfl)
    obtain ⟨g1, g2, g3⟩ := hgood
    have HL := hide (And.intro hl1 hl2)
    clear hbad hl1 hl2 hfu
    go_enter Tryz.func30, Tryz.ntmps30
    go_wp2_with fail
    go_loop [4, 25] (fun _ i => ∃ k : Nat, k ≤ n1 ∧ i = .int .i64 k ∧ Cells64 d.cells k) (fun _ i => n1 - (intOf i).toNat)
    case atStart => exact ⟨0, Nat.zero_le _, rfl, fun i hi => by omega⟩
    case round =>
      obtain ⟨k, hk, rfl, hc64⟩ := hrel
      have HC := hide hc64
      clear hc64
      by_cases hlt : k < n1
      · obtain ⟨b, o, hb, hix, hcl⟩ := HD.out.cells.at c1 k hlt
        have hsz : (bs (d.cells.getD k [])).size = (d.cells.getD k []).length := rfl
        obtain ⟨s, hs⟩ : ∃ s, bs (d.cells.getD k []) = s := ⟨_, rfl⟩
        rw [hs] at hcl hsz
        have HS := hide hsz
        clear hs hsz
        by_cases h64 : s.size = 64
        · have hn : Hid (Cells64 d.cells (k + 1)) := hide (by
            intro i hi
            rcases Nat.lt_succ_iff_lt_or_eq.1 hi with h | h
            · exact HC.out i h
            · subst h; rw [← HS.out]; exact h64)
          have h64b : ((s.size : Int) != 64) = false := by simp [h64]
          clear h64
          go_wp2_with fail
          go_round
          case rel => exact ⟨k + 1, by omega, by go_num, hn.out⟩
          case measure => simp [intOf]; omega
        · have HM2 : Hid (d.mayB = false) := hide (by
            rw [HM.out, cellsOk_not (k := k) (by rw [HL.out.1]; exact hlt) (by rw [← HS.out]; exact h64)]
            rfl)
          have h64b : ((s.size : Int) != 64) = true := by rw [bne_iff_ne]; omega
          clear h64
          go_wp2_with fail
          go_ret
          rw [HM2.out]
          exact ⟨rfl, (Below.refl _ _).alloc (Nat.le_refl _) _⟩
      · obtain rfl : k = n1 := by omega
        have HCO : Hid (cellsOk d.cells = true) := hide (cellsOk_of (by rw [HL.out.1]; exact HC.out))
        go_wp2_with fail
        go_loopw [6, 36] (fun _ i wr => ∃ j : Nat, j ≤ n2 ∧ i = .int .i64 j ∧ Waits64 k d.queue j ∧ Below (w.heap.size + 1) (w.alloc (.cells #[.slice a1 k c1, .slice a2 n2 c2, .int .i64 fuel, .bool off] 44)) wr) (fun _ i _ => n2 - (intOf i).toNat)
        case atStart => exact ⟨0, Nat.zero_le _, rfl, fun i hi => by omega, Below.refl _ _⟩
        case round =>
          obtain ⟨j, hj, rfl, hq64, hbr⟩ := hrel
          have HQ := hide hq64
          clear hq64
          have hbw : Below w.heap.size w wr := ((Below.refl _ _).alloc (Nat.le_refl _) _).trans (hbr.mono (by omega))
          by_cases hjt : j < n2
          · obtain ⟨b, o, hb, hix, hcp, hcs⟩ := (HD.out.queue.below hbw).at c2 j hjt
            have hrg := HD.out.queue.range _ (getD_mem d.queue j ⟨0, []⟩ (by rw [HL.out.2]; exact hjt))
            obtain ⟨x, hx⟩ : ∃ x, d.queue.getD j ⟨0, []⟩ = x := ⟨_, rfl⟩
            rw [hx] at hcp hcs hrg
            obtain ⟨pos, l⟩ := x
            have hsz : (bs l).size = l.length := rfl
            obtain ⟨s, hs⟩ : ∃ s, bs l = s := ⟨_, rfl⟩
            simp only [hs] at hcp hcs hsz hrg
            have HX := hide hx
            have HS := hide hsz
            clear hs hsz hx
            obtain ⟨hc1, hf1⟩ := bcell hbr
            have hszw : w.heap.size < wr.heap.size := by have := hbr.size; simp at this; omega
            by_cases hgood2 : 0 ≤ pos ∧ pos < k ∧ s.size = 64
            · obtain ⟨p0, p1, p2⟩ := hgood2
              have hn : Hid (Waits64 k d.queue (j + 1)) := hide (by
                intro i hi
                rcases Nat.lt_succ_iff_lt_or_eq.1 hi with h | h
                · exact HQ.out i h
                · subst h; rw [HX.out]; exact ⟨p0, p1, by rw [← HS.out]; exact p2⟩)
              have h64b : ((s.size : Int) != 64) = false := by simp [p2]
              clear p2
              go_wp2_with fail
              go_roundw
              case rel => exact ⟨j + 1, by omega, by go_num, hn.out, hbr.alloc (by omega) _⟩
              case measure => simp [intOf]; omega
            · have HM2 : Hid (d.mayB = false) := hide (by
                rw [HM.out, waitsOk_not (k := j) (by rw [HL.out.2]; exact hjt) (by rw [HX.out]; rw [HS.out] at hgood2; exact hgood2)]
                simp)
              have hcase : pos < 0 ∨ (0 ≤ pos ∧ (k : Int) ≤ pos) ∨ (0 ≤ pos ∧ pos < k ∧ ((s.size : Int) != 64) = true) := by
                by_cases q0 : pos < 0
                · exact .inl q0
                · by_cases q1 : (k : Int) ≤ pos
                  · exact .inr (.inl ⟨by omega, q1⟩)
                  · refine .inr (.inr ⟨by omega, by omega, ?_⟩)
                    rw [bne_iff_ne]
                    intro h
                    exact hgood2 ⟨by omega, by omega, by omega⟩
              clear hgood2
              rcases hcase with q0 | ⟨q0, q1⟩ | ⟨q0, q1, q2⟩
              all_goals
                go_wp2_with fail
                go_ret
                rw [HM2.out]
                exact ⟨rfl, hbw.alloc hbw.size _⟩
          · obtain rfl : j = n2 := by omega
            have HM2 : Hid (d.mayB = true) := hide (by
              rw [HM.out, HCO.out, waitsOk_of (by rw [HL.out.2]; exact HQ.out)]
              rfl)
            go_wp2_with fail
            go_ret
            rw [HM2.out]
            exact ⟨rfl, hbw⟩

/-- disk.May. -/
theorem may_any (v : Value) (d : Drv) (w : World) (h : IsDrive w v d) : Calls Tryz.prog 30 #[v] w fun e w' => e = .returned (.bool d.mayB) ∧ Below w.heap.size w w' := by
  obtain ⟨a1, n1, c1, a2, n2, c2, fuel, off, rfl, hd⟩ := h
  exact may_run a1 a2 n1 c1 n2 c2 fuel off d w hd

end Go.Proofs.YtogonkoeginoaaaGreatDoor
