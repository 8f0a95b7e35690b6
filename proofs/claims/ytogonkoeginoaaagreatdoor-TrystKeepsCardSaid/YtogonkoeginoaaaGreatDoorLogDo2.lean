/-
  The walk through log.do: steps, one behind the other, till one fails.
-/
import Derived.Test.YtogonkoeginoaaaGreatDoorLogDo
namespace Go.Proofs.YtogonkoeginoaaaGreatDoor
open Go.RowKit

theorem steps_at {w : World} {ao : Option Addr} {l : List Stp} (h : Row w ao (l.map Stp.val)) {n : Nat} (hl : l.length = n) (c k : Nat) (hk : k < n) : ∃ b o t, l[k]? = some t ∧ b < w.heap.size ∧
    (∀ W, (Instr.indexAt 122 (.slice ao n c) (.int .i64 (k : Int))).run Tryz.prog W = .ok (.pointer (some ⟨b, o, none⟩)) W) ∧ w.cell? ⟨b, o, none⟩ = some t.val := by
  rcases h with h0 | ⟨b, off, rfl, hc⟩
  · have := congrArg List.length h0; simp at this; subst this; simp at hl; omega
  · have hkl : k < l.length := by omega
    have h1 := hc k (l[k]).val (by simp [hkl])
    exact ⟨b, off + k, l[k], List.getElem?_eq_getElem hkl, World.block_lt_of_cell? w _ h1, fun W => idx_steps b off n c k hk W, h1⟩

theorem drop_at {l : List Stp} {k : Nat} {t : Stp} (h : l[k]? = some t) : l.drop k = t :: l.drop (k + 1) := by
  obtain ⟨hk, rfl⟩ := List.getElem?_eq_some_iff.1 h
  exact List.drop_eq_getElem_cons hk

def Stp.fn : Stp → Nat
  | .flush => 60
  | .write _ _ _ _ => 85
def Stp.args (v : Value) : Stp → Array Value
  | .flush => #[v]
  | .write b2 b3 _ _ => #[v, .pointer (some ⟨b2, 0, none⟩), .pointer (some ⟨b3, 0, none⟩)]
theorem stp_calls (t : Stp) (v : Value) (d : Drv) (w : World) (h : IsDrive w v d) (hq : d.queue.length ≤ 1000000) (hl : t.Lies w) : Calls Tryz.prog t.fn (t.args v) w fun e w' => ∃ v', e = .returned (.tuple #[v', .int .i64 (t.run d).2]) ∧ IsDrive w' v' (t.run d).1 ∧ Below w.heap.size w w' := by
  cases t with
  | flush => exact flush_any v d w h
  | write b2 b3 p s => exact write1_any v d b2 b3 p s w h hq hl

set_option maxRecDepth 100000 in
set_option maxHeartbeats 3200000 in
theorem do_any (v : Value) (d : Drv) (l : List Stp) (ao : Option Addr) (n c : Nat) (w : World) (h : IsDrive w v d) (hq : d.queue.length ≤ 10000) (hr : Row w ao (l.map Stp.val)) (hl : l.length = n) (hn : n ≤ 100) (hlies : ∀ t ∈ l, t.Lies w) :
    Calls Tryz.prog 61 #[v, .slice ao n c] w fun e w' => ∃ v', e = .returned (.tuple #[v', .int .i64 (stepsRun l d).2]) ∧ IsDrive w' v' (stepsRun l d).1 ∧ Below w.heap.size w w' := by
  have HR := hide hr
  have HL := hide hl
  have HLI := hide hlies
  have HQ := hide hq
  have HI := hide h
  obtain ⟨a1, n1, c1, a2, n2, c2, fu, of, rfl, _⟩ := h
  unfold drvVal at HI ⊢
  obtain ⟨R, hR⟩ : ∃ r, stepsRun l d = r := ⟨_, rfl⟩
  have HSR := hide hR
  rw [hR]
  obtain ⟨B0, B1⟩ := two_boxes w [.slice a1 n1 c1, .slice a2 n2 c2, .int .i64 fu, .bool of] [.slice none 0 0, .slice none 0 0, .int .i64 0, .bool false] 44
  have hb0 : Below w.heap.size w ((w.alloc (.cells #[.slice a1 n1 c1, .slice a2 n2 c2, .int .i64 fu, .bool of] 44)).alloc (.cells #[.slice none 0 0, .slice none 0 0, .int .i64 0, .bool false] 44)) := ((Below.refl _ _).alloc (Nat.le_refl _) _).alloc (by simp) _
  have HD0 := hide (HI.out.below hb0)
  clear hr hl hlies hR hq
  go_enter Tryz.func61, Tryz.ntmps61
  go_wp2_with fail
  go_loopw [11] (fun i wr => ∃ (k : Nat) (v' : Value) (d' : Drv), k ≤ n ∧ i = .int .i64 k ∧ Holds wr w.heap.size v' ∧ IsDrive wr v' d' ∧ Hid (stepsRun (l.drop k) d' = R ∧ d'.queue.length ≤ 10000 + 100 * k) ∧ Blk wr (w.heap.size + 1) [.slice none 0 0, .slice none 0 0, .int .i64 0, .bool false] 44 ∧ Below w.heap.size w wr) (fun i _ => n - (intOf i).toNat)
  case atStart => exact ⟨0, _, d, Nat.zero_le _, rfl, blk_holds B0, HD0.out, hide ⟨HSR.out, by have := HQ.out; omega⟩, B1, hb0⟩
  case round =>
    obtain ⟨k, v', d', hk, rfl, hH, hD, hS, hB, hbw⟩ := hrel
    clear B0 B1 HD0 hb0
    obtain ⟨x1, y1, z1, x2, y2, z2, fx, ox, rfl, K⟩ := hH
    unfold drvVal at hD
    have HD := hide hD
    clear hD
    obtain ⟨p0, p1, p2, p3, p4, p5, p6, p7⟩ := K.four
    obtain ⟨q0, q1, q2, q3, q4, q5, q6, q7⟩ := hB.four
    have hlt := K.lt
    have hlt1 := hB.lt
    by_cases hkn : k < n
    · obtain ⟨b, o, t, ht, hbl, hix, hcell⟩ := steps_at HR.out HL.out c k hkn
      have hcell2 : wr.cell? ⟨b, o, none⟩ = some t.val := (hbw.cell (p := ⟨b, o, none⟩) hbl).trans hcell
      have hmem : t ∈ l := List.mem_of_getElem? ht
      have htl := (HLI.out t hmem).next hbw
      have hqd : d'.queue.length ≤ 1000000 := by have := hS.out.2; omega
      have hqn := hide (Stp.queue htl d')
      have HST := hide (show stepsRun (t :: l.drop (k + 1)) d' = R by rw [← drop_at ht]; exact hS.out.1)
      have HRUN := hide (fun v w (h : IsDrive w v d') (hl : t.Lies w) => stp_calls t v d' w h hqd hl)
      have HTL := hide htl
      have HQX := hide (show (t.run d').1.queue.length ≤ 10000 + 100 * (k + 1) by have := hqn.out; have := hS.out.2; omega)
      obtain ⟨⟨X, E⟩, hX⟩ : ∃ r, t.run d' = r := ⟨_, rfl⟩
      have hSE : (E = 0 ∧ stepsRun (l.drop (k + 1)) X = R) ∨ (E ≠ 0 ∧ R = (X, E)) := by
        have h1 := HST.out
        rw [stepsRun, hX] at h1
        by_cases hE : E = 0
        · left; rw [if_pos hE] at h1; exact ⟨hE, h1⟩
        · right; rw [if_neg hE] at h1; exact ⟨hE, h1.symm⟩
      rw [hX] at HQX HRUN
      have HSE := hide hSE
      clear hSE hX HST hqn hqd htl hmem ht hcell hS
      cases t with
      | flush =>
        simp only [Stp.val] at hcell2
        simp only [Stp.fn, Stp.args] at HRUN
        go_wp2_with fail
        refine (HRUN.out _ _ HD.out HTL.out).mono ?_
        rintro e w5 ⟨v5, rfl, hd5, hb5⟩
        have HX5 := hide hd5
        obtain ⟨u1, r1, t1, u2, r2, t2, fy, oy, rfl, _⟩ := hd5
        unfold drvVal at HX5 ⊢
        have K5 := K.next hb5
        have B5 := hB.next hb5
        have hb6 := chain hbw hb5
        clear hb5 p0 p1 p2 p3 p4 p5 p6 p7 q0 q1 q2 q3 q4 q5 q6 q7 K hB HD hcell2 hix
        obtain ⟨p0, p1, p2, p3, p4, p5, p6, p7⟩ := K5.four
        obtain ⟨W6, hW6⟩ : ∃ W6, (((w5.setCell ⟨w.heap.size, 0, none⟩ (.slice u1 r1 t1)).setCell ⟨w.heap.size, 1, none⟩ (.slice u2 r2 t2)).setCell ⟨w.heap.size, 2, none⟩ (.int .i64 fy)).setCell ⟨w.heap.size, 3, none⟩ (.bool oy) = W6 := ⟨_, rfl⟩
        have K6 : Blk W6 w.heap.size [.slice u1 r1 t1, .slice u2 r2 t2, .int .i64 fy, .bool oy] 44 := by rw [← hW6]; exact K5.set4 _ _ _ _
        have B6 : Blk W6 (w.heap.size + 1) [.slice none 0 0, .slice none 0 0, .int .i64 0, .bool false] 44 := by rw [← hW6]; exact B5.other4 (by omega) _ _ _ _
        have HX6 : Hid (IsDrive W6 (.agg #[.slice u1 r1 t1, .slice u2 r2 t2, .int .i64 fy, .bool oy]) X) := hide (by rw [← hW6]; exact HX5.out.set4 (blk_holds K5) _ _ _ _)
        have hb7 : Below w.heap.size w W6 := by rw [← hW6]; exact below4 hb6 (Nat.le_refl _) _ _ _ _
        rcases HSE.out with ⟨hE, hRest⟩ | ⟨hE, hRest⟩
        · have hE0 := hide hRest
          subst hE
          clear hRest HSE
          go_wp2_with fail
          clear hW6 p0 p1 p2 p3 p4 p5 p6 p7 K5 B5 HX5 hb6
          go_roundw
          case rel => exact ⟨k + 1, _, X, by omega, by go_num, blk_holds K6, HX6.out, hide ⟨hE0.out, HQX.out⟩, B6, hb7⟩
          case measure => simp [intOf]; omega
        · have hE0 := hide hRest
          have hEd : decide (E = 0) = false := decide_eq_false hE
          have hEb : (E != 0) = true := by rw [bne_iff_ne]; exact hE
          clear hRest HSE hE
          obtain ⟨k0, k1, k2, k3, k4, k5, k6, k7⟩ := K6.four
          obtain ⟨q0, q1, q2, q3, q4, q5, q6, q7⟩ := B6.four
          go_wp2_with fail
          rw [hE0.out]
          refine bodyPost_ret (v := .tuple #[.agg #[.slice u1 r1 t1, .slice u2 r2 t2, .int .i64 fy, .bool oy], .int .i64 E]) (by simp [results, Tryz.results61, go_sem, q0, q1, q2, q3]) rfl ⟨_, rfl, HX6.out.set4 (blk_holds B6) _ _ _ _, below4 hb7 (by omega) _ _ _ _⟩
      | write b2 b3 p s =>
        simp only [Stp.val] at hcell2
        simp only [Stp.fn, Stp.args] at HRUN
        go_wp2_with fail
        refine (HRUN.out _ _ HD.out HTL.out).mono ?_
        rintro e w5 ⟨v5, rfl, hd5, hb5⟩
        have HX5 := hide hd5
        obtain ⟨u1, r1, t1, u2, r2, t2, fy, oy, rfl, _⟩ := hd5
        unfold drvVal at HX5 ⊢
        have K5 := K.next hb5
        have B5 := hB.next hb5
        have hb6 := chain hbw hb5
        clear hb5 p0 p1 p2 p3 p4 p5 p6 p7 q0 q1 q2 q3 q4 q5 q6 q7 K hB HD hcell2 hix
        obtain ⟨p0, p1, p2, p3, p4, p5, p6, p7⟩ := K5.four
        obtain ⟨W6, hW6⟩ : ∃ W6, (((w5.setCell ⟨w.heap.size, 0, none⟩ (.slice u1 r1 t1)).setCell ⟨w.heap.size, 1, none⟩ (.slice u2 r2 t2)).setCell ⟨w.heap.size, 2, none⟩ (.int .i64 fy)).setCell ⟨w.heap.size, 3, none⟩ (.bool oy) = W6 := ⟨_, rfl⟩
        have K6 : Blk W6 w.heap.size [.slice u1 r1 t1, .slice u2 r2 t2, .int .i64 fy, .bool oy] 44 := by rw [← hW6]; exact K5.set4 _ _ _ _
        have B6 : Blk W6 (w.heap.size + 1) [.slice none 0 0, .slice none 0 0, .int .i64 0, .bool false] 44 := by rw [← hW6]; exact B5.other4 (by omega) _ _ _ _
        have HX6 : Hid (IsDrive W6 (.agg #[.slice u1 r1 t1, .slice u2 r2 t2, .int .i64 fy, .bool oy]) X) := hide (by rw [← hW6]; exact HX5.out.set4 (blk_holds K5) _ _ _ _)
        have hb7 : Below w.heap.size w W6 := by rw [← hW6]; exact below4 hb6 (Nat.le_refl _) _ _ _ _
        rcases HSE.out with ⟨hE, hRest⟩ | ⟨hE, hRest⟩
        · have hE0 := hide hRest
          subst hE
          clear hRest HSE
          go_wp2_with fail
          clear hW6 p0 p1 p2 p3 p4 p5 p6 p7 K5 B5 HX5 hb6
          go_roundw
          case rel => exact ⟨k + 1, _, X, by omega, by go_num, blk_holds K6, HX6.out, hide ⟨hE0.out, HQX.out⟩, B6, hb7⟩
          case measure => simp [intOf]; omega
        · have hE0 := hide hRest
          have hEd : decide (E = 0) = false := decide_eq_false hE
          have hEb : (E != 0) = true := by rw [bne_iff_ne]; exact hE
          clear hRest HSE hE
          obtain ⟨k0, k1, k2, k3, k4, k5, k6, k7⟩ := K6.four
          obtain ⟨q0, q1, q2, q3, q4, q5, q6, q7⟩ := B6.four
          go_wp2_with fail
          rw [hE0.out]
          refine bodyPost_ret (v := .tuple #[.agg #[.slice u1 r1 t1, .slice u2 r2 t2, .int .i64 fy, .bool oy], .int .i64 E]) (by simp [results, Tryz.results61, go_sem, q0, q1, q2, q3]) rfl ⟨_, rfl, HX6.out.set4 (blk_holds B6) _ _ _ _, below4 hb7 (by omega) _ _ _ _⟩
    · obtain rfl : k = n := by omega
      have hS2 := hS.out.1
      rw [List.drop_of_length_le (by rw [HL.out]; exact Nat.le_refl _)] at hS2
      have hS3 := hide hS2
      clear hS2 hS
      go_wp2_with fail
      rw [← hS3.out]
      refine bodyPost_ret (v := .tuple #[.agg #[.slice x1 y1 z1, .slice x2 y2 z2, .int .i64 fx, .bool ox], .int .i64 0]) (by simp [results, Tryz.results61, go_sem, q0, q1, q2, q3]) rfl ⟨_, rfl, HD.out.set4 (blk_holds hB) _ _ _ _, below4 hbw (by omega) _ _ _ _⟩

end Go.Proofs.YtogonkoeginoaaaGreatDoor
