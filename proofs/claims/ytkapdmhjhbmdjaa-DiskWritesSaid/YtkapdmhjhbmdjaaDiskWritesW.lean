/-
  The walk through the statement DiskWrites: it returns true.
-/
import Derived.Test.YtkapdmhjhbmdjaaDiskCrashesW
import Derived.Test.YtkapdmhjhbmdjaaRefWriteX
import Derived.Test.YtkapdmhjhbmdjaaOpenDrv
namespace Go.Proofs.Ytkapdmhjhbmdjaa
open Go.RowKit

set_option maxRecDepth 100000 in
set_option maxHeartbeats 6400000 in
theorem writes_walk (v : Value) (d : Drv) (at_ : Int) (l : List UInt8) (w : World) (h : IsDrive w v d) (hat : -9223372036854775808 ≤ at_ ∧ at_ < 9223372036854775808) (hl0 : l.length < 9223372036854775808) :
    Calls Try.prog 4 #[v, .int .i64 at_, .string (bs l)] w fun e w' => e = .returned (.bool true) ∧ Below w.heap.size w w' := by
  have HI := hide h
  obtain ⟨a1, n1, c1, a2, n2, c2, fu, of, rfl, _⟩ := h
  have HAT := hide hat
  clear hat
  unfold drvVal at HI ⊢
  have hl := few_len d
  obtain ⟨D, hD⟩ : ∃ D, d.few = D := ⟨_, rfl⟩
  rw [hD] at hl
  have HL := hide hl
  have HDE := hide hD
  have HOC := hide (fun w => octets_any l w hl0)
  obtain ⟨m, hm⟩ : ∃ m, l.take 640 = m := ⟨_, rfl⟩
  rw [hm] at HOC
  have hml : m.length ≤ 640 := by rw [← hm, List.length_take]; omega
  have HWR := hide (fun (v : Value) (w : World) (h : IsDrive w v D) => write_any v D at_ m w h (by omega) HAT.out (by omega))
  have HRW := hide (fun (v : Value) (w : World) (h : IsDrive w v D) => refwrite_any v D at_ m w h (by omega) HAT.out (by omega))
  obtain ⟨⟨X, E⟩, hX⟩ : ∃ p, D.write at_ m = p := ⟨_, rfl⟩
  rw [hX] at HWR HRW
  have HFL := hide (fun (v : Value) (w : World) (h : IsDrive w v D) => flush_any v D w h)
  have HRF := hide (fun (v : Value) (w : World) (h : IsDrive w v D) => refflush_any v D w h)
  obtain ⟨⟨Y, G⟩, hY⟩ : ∃ p, D.flush = p := ⟨_, rfl⟩
  rw [hY] at HFL HRF
  have HA := hide (fun w => lawawake_any w)
  obtain ⟨s0, hs0⟩ : ∃ s, bs l = s := ⟨_, rfl⟩
  obtain ⟨s1, hs1⟩ : ∃ s, bs m = s := ⟨_, rfl⟩
  rw [hs0] at HOC
  rw [hs1] at HOC HWR HRW
  rw [hs0]
  clear hl hD hm hml hX hY hs0 hs1 hl0
  have B0 := Blk.new w [.slice a1 n1 c1, .slice a2 n2 c2, .int .i64 fu, .bool of] 25
  have hb0 : Below w.heap.size w (w.alloc (.cells #[.slice a1 n1 c1, .slice a2 n2 c2, .int .i64 fu, .bool of] 25)) := (Below.refl _ _).alloc (Nat.le_refl _) _
  go_enter Try.func4, Try.ntmps4
  go_wp2_with fail
  refine (few_any _ d _ (HI.out.below hb0)).mono ?_
  rintro e w1 ⟨v1, rfl, hd1, hb1⟩
  have HI1 := hide hd1
  rw [HDE.out] at HI1
  obtain ⟨a1', n1', c1', a2', n2', c2', fu', of', rfl, _⟩ := hd1
  unfold drvVal at HI1 ⊢
  have C0 := B0.next hb1
  have hbw := chain hb0 hb1
  clear hb1 hb0 B0 HI
  go_wp2_with fail
  refine (HOC.out _).mono ?_
  rintro e w1b ⟨rfl, hb1⟩
  have D0' := C0.next hb1
  have HI1' := hide (HI1.out.below hb1)
  have hbwb := chain hbw hb1
  clear hb1 C0 HI1 hbw
  obtain ⟨p0, p1, p2, p3, p4, p5, p6, p7⟩ := D0'.four
  obtain ⟨W2, hW2⟩ : ∃ W2, (((w1b.setCell ⟨w.heap.size, 0, none⟩ (.slice a1' n1' c1')).setCell ⟨w.heap.size, 1, none⟩ (.slice a2' n2' c2')).setCell ⟨w.heap.size, 2, none⟩ (.int .i64 fu')).setCell ⟨w.heap.size, 3, none⟩ (.bool of') = W2 := ⟨_, rfl⟩
  have K0 : Blk W2 w.heap.size [.slice a1' n1' c1', .slice a2' n2' c2', .int .i64 fu', .bool of'] 25 := by rw [← hW2]; exact D0'.set4 _ _ _ _
  have I0 : Hid (IsDrive W2 (.agg #[.slice a1' n1' c1', .slice a2' n2' c2', .int .i64 fu', .bool of']) D) := hide (by rw [← hW2]; exact HI1'.out.set4 (blk_holds D0') _ _ _ _)
  have hbX : Below w.heap.size w W2 := by rw [← hW2]; exact below4 hbwb (Nat.le_refl _) _ _ _ _
  clear hbwb HI1'
  obtain ⟨q0, q1, q2, q3, q4, q5, q6, q7⟩ := K0.four
  go_wp2_with fail
  refine (lawown_any _ D _ I0.out (by have := HL.out; omega) (by have := HL.out; omega)).mono ?_
  rintro e wa ⟨va, rfl, hd, hb⟩
  have K0_ := K0.next hb
  have I0_ := hide (I0.out.below hb)
  have Ia := hide hd
  have hbX_ := chain hbX hb
  obtain ⟨a1a, n1a, c1a, a2a, n2a, c2a, fa, oa, rfl, _⟩ := hd
  unfold drvVal at Ia ⊢
  clear hb hbX K0 I0
  clear hW2 q0 q1 q2 q3 q4 q5 q6 q7 p0 p1 p2 p3 p4 p5 p6 p7 D0'
  have hal : Below wa.heap.size wa (wa.alloc (.cells #[.slice a1a n1a c1a, .slice a2a n2a c2a, .int .i64 fa, .bool oa] 25)) := (Below.refl _ _).alloc (Nat.le_refl _) _
  have hlt0 := K0_.lt
  obtain ⟨Wa, hWa⟩ : ∃ W, wa.alloc (.cells #[.slice a1a n1a c1a, .slice a2a n2a c2a, .int .i64 fa, .bool oa] 25) = W := ⟨_, rfl⟩
  obtain ⟨q0, q1, q2, q3, q4, q5, q6, q7⟩ := K0_.four
  rw [hWa] at hal
  have K0 := K0_.next hal
  have I0 := hide (I0_.out.below hal)
  have Ia := hide (Ia.out.below hal)
  have hbX := chain hbX_ hal
  have Ka : Blk Wa wa.heap.size [.slice a1a n1a c1a, .slice a2a n2a c2a, .int .i64 fa, .bool oa] 25 := by rw [← hWa]; exact Blk.new _ _ _
  clear hal hbX_ K0_ I0_
  obtain ⟨r0, r1, r2, r3, r4, r5, r6, r7⟩ := K0.four
  go_wp2_with fail
  clear q0 q1 q2 q3 q4 q5 q6 q7 hlt0
  have ⟨q0, q1, q2, q3, q4, q5, q6, q7⟩ := K0.four
  clear hWa r0 r1 r2 r3 r4 r5 r6 r7
  refine (HWR.out _ _ I0.out).mono ?_
  rintro e wb ⟨vb, rfl, hd, hb⟩
  have K0_ := K0.next hb
  have Ka_ := Ka.next hb
  have I0_ := hide (I0.out.below hb)
  have Ia_ := hide (Ia.out.below hb)
  have Ib := hide hd
  have hbX_ := chain hbX hb
  obtain ⟨a1b, n1b, c1b, a2b, n2b, c2b, fb, ob, rfl, _⟩ := hd
  unfold drvVal at Ib ⊢
  clear hb hbX K0 Ka I0 Ia
  clear q0 q1 q2 q3 q4 q5 q6 q7
  have hal : Below wb.heap.size wb (wb.alloc (.cells #[.slice a1b n1b c1b, .slice a2b n2b c2b, .int .i64 fb, .bool ob] 25)) := (Below.refl _ _).alloc (Nat.le_refl _) _
  have hlt0 := K0_.lt
  obtain ⟨Wb, hWb⟩ : ∃ W, wb.alloc (.cells #[.slice a1b n1b c1b, .slice a2b n2b c2b, .int .i64 fb, .bool ob] 25) = W := ⟨_, rfl⟩
  obtain ⟨q0, q1, q2, q3, q4, q5, q6, q7⟩ := K0_.four
  rw [hWb] at hal
  have K0 := K0_.next hal
  have Ka := Ka_.next hal
  have I0 := hide (I0_.out.below hal)
  have Ia := hide (Ia_.out.below hal)
  have Ib := hide (Ib.out.below hal)
  have hbX := chain hbX_ hal
  have Kb : Blk Wb wb.heap.size [.slice a1b n1b c1b, .slice a2b n2b c2b, .int .i64 fb, .bool ob] 25 := by rw [← hWb]; exact Blk.new _ _ _
  clear hal hbX_ K0_ Ka_ I0_ Ia_
  obtain ⟨r0, r1, r2, r3, r4, r5, r6, r7⟩ := K0.four
  go_wp2_with fail
  clear q0 q1 q2 q3 q4 q5 q6 q7 hlt0
  have ⟨q0, q1, q2, q3, q4, q5, q6, q7⟩ := K0.four
  clear hWb r0 r1 r2 r3 r4 r5 r6 r7
  refine (HRW.out _ _ I0.out).mono ?_
  rintro e wc ⟨vc, rfl, hd, hb⟩
  have K0_ := K0.next hb
  have Ka_ := Ka.next hb
  have Kb_ := Kb.next hb
  have I0_ := hide (I0.out.below hb)
  have Ia_ := hide (Ia.out.below hb)
  have Ib_ := hide (Ib.out.below hb)
  have Ic := hide hd
  have hbX_ := chain hbX hb
  obtain ⟨a1c, n1c, c1c, a2c, n2c, c2c, fc, oc, rfl, _⟩ := hd
  unfold drvVal at Ic ⊢
  clear hb hbX K0 Ka Kb I0 Ia Ib
  clear q0 q1 q2 q3 q4 q5 q6 q7
  have hal : Below wc.heap.size wc (wc.alloc (.cells #[.slice a1c n1c c1c, .slice a2c n2c c2c, .int .i64 fc, .bool oc] 25)) := (Below.refl _ _).alloc (Nat.le_refl _) _
  have hlt0 := K0_.lt
  obtain ⟨Wc, hWc⟩ : ∃ W, wc.alloc (.cells #[.slice a1c n1c c1c, .slice a2c n2c c2c, .int .i64 fc, .bool oc] 25) = W := ⟨_, rfl⟩
  obtain ⟨q0, q1, q2, q3, q4, q5, q6, q7⟩ := K0_.four
  rw [hWc] at hal
  have K0 := K0_.next hal
  have Ka := Ka_.next hal
  have Kb := Kb_.next hal
  have I0 := hide (I0_.out.below hal)
  have Ia := hide (Ia_.out.below hal)
  have Ib := hide (Ib_.out.below hal)
  have Ic := hide (Ic.out.below hal)
  have hbX := chain hbX_ hal
  have Kc : Blk Wc wc.heap.size [.slice a1c n1c c1c, .slice a2c n2c c2c, .int .i64 fc, .bool oc] 25 := by rw [← hWc]; exact Blk.new _ _ _
  clear hal hbX_ K0_ Ka_ Kb_ I0_ Ia_ Ib_
  obtain ⟨r0, r1, r2, r3, r4, r5, r6, r7⟩ := K0.four
  go_wp2_with fail
  clear q0 q1 q2 q3 q4 q5 q6 q7 hlt0
  have ⟨q0, q1, q2, q3, q4, q5, q6, q7⟩ := K0.four
  clear hWc r0 r1 r2 r3 r4 r5 r6 r7
  refine (HFL.out _ _ I0.out).mono ?_
  rintro e wd ⟨vd, rfl, hd, hb⟩
  have K0_ := K0.next hb
  have Ka_ := Ka.next hb
  have Kb_ := Kb.next hb
  have Kc_ := Kc.next hb
  have I0_ := hide (I0.out.below hb)
  have Ia_ := hide (Ia.out.below hb)
  have Ib_ := hide (Ib.out.below hb)
  have Ic_ := hide (Ic.out.below hb)
  have Id := hide hd
  have hbX_ := chain hbX hb
  obtain ⟨a1d, n1d, c1d, a2d, n2d, c2d, fd, od, rfl, _⟩ := hd
  unfold drvVal at Id ⊢
  clear hb hbX K0 Ka Kb Kc I0 Ia Ib Ic
  clear q0 q1 q2 q3 q4 q5 q6 q7
  have hal : Below wd.heap.size wd (wd.alloc (.cells #[.slice a1d n1d c1d, .slice a2d n2d c2d, .int .i64 fd, .bool od] 25)) := (Below.refl _ _).alloc (Nat.le_refl _) _
  have hlt0 := K0_.lt
  obtain ⟨Wd, hWd⟩ : ∃ W, wd.alloc (.cells #[.slice a1d n1d c1d, .slice a2d n2d c2d, .int .i64 fd, .bool od] 25) = W := ⟨_, rfl⟩
  obtain ⟨q0, q1, q2, q3, q4, q5, q6, q7⟩ := K0_.four
  rw [hWd] at hal
  have K0 := K0_.next hal
  have Ka := Ka_.next hal
  have Kb := Kb_.next hal
  have Kc := Kc_.next hal
  have I0 := hide (I0_.out.below hal)
  have Ia := hide (Ia_.out.below hal)
  have Ib := hide (Ib_.out.below hal)
  have Ic := hide (Ic_.out.below hal)
  have Id := hide (Id.out.below hal)
  have hbX := chain hbX_ hal
  have Kd : Blk Wd wd.heap.size [.slice a1d n1d c1d, .slice a2d n2d c2d, .int .i64 fd, .bool od] 25 := by rw [← hWd]; exact Blk.new _ _ _
  clear hal hbX_ K0_ Ka_ Kb_ Kc_ I0_ Ia_ Ib_ Ic_
  obtain ⟨r0, r1, r2, r3, r4, r5, r6, r7⟩ := K0.four
  go_wp2_with fail
  clear q0 q1 q2 q3 q4 q5 q6 q7 hlt0
  have ⟨q0, q1, q2, q3, q4, q5, q6, q7⟩ := K0.four
  clear hWd r0 r1 r2 r3 r4 r5 r6 r7
  refine (HRF.out _ _ I0.out).mono ?_
  rintro e we ⟨ve, rfl, hd, hb⟩
  have K0_ := K0.next hb
  have Ka_ := Ka.next hb
  have Kb_ := Kb.next hb
  have Kc_ := Kc.next hb
  have Kd_ := Kd.next hb
  have I0_ := hide (I0.out.below hb)
  have Ia_ := hide (Ia.out.below hb)
  have Ib_ := hide (Ib.out.below hb)
  have Ic_ := hide (Ic.out.below hb)
  have Id_ := hide (Id.out.below hb)
  have Ie := hide hd
  have hbX_ := chain hbX hb
  obtain ⟨a1e, n1e, c1e, a2e, n2e, c2e, fe, oe, rfl, _⟩ := hd
  unfold drvVal at Ie ⊢
  clear hb hbX K0 Ka Kb Kc Kd I0 Ia Ib Ic Id
  clear q0 q1 q2 q3 q4 q5 q6 q7
  have hal : Below we.heap.size we (we.alloc (.cells #[.slice a1e n1e c1e, .slice a2e n2e c2e, .int .i64 fe, .bool oe] 25)) := (Below.refl _ _).alloc (Nat.le_refl _) _
  have hlt0 := K0_.lt
  obtain ⟨We, hWe⟩ : ∃ W, we.alloc (.cells #[.slice a1e n1e c1e, .slice a2e n2e c2e, .int .i64 fe, .bool oe] 25) = W := ⟨_, rfl⟩
  obtain ⟨q0, q1, q2, q3, q4, q5, q6, q7⟩ := K0_.four
  rw [hWe] at hal
  have K0 := K0_.next hal
  have Ka := Ka_.next hal
  have Kb := Kb_.next hal
  have Kc := Kc_.next hal
  have Kd := Kd_.next hal
  have I0 := hide (I0_.out.below hal)
  have Ia := hide (Ia_.out.below hal)
  have Ib := hide (Ib_.out.below hal)
  have Ic := hide (Ic_.out.below hal)
  have Id := hide (Id_.out.below hal)
  have Ie := hide (Ie.out.below hal)
  have hbX := chain hbX_ hal
  have Ke : Blk We we.heap.size [.slice a1e n1e c1e, .slice a2e n2e c2e, .int .i64 fe, .bool oe] 25 := by rw [← hWe]; exact Blk.new _ _ _
  clear hal hbX_ K0_ Ka_ Kb_ Kc_ Kd_ I0_ Ia_ Ib_ Ic_ Id_
  obtain ⟨r0, r1, r2, r3, r4, r5, r6, r7⟩ := K0.four
  obtain ⟨x00, x01, x02, x03, _, _, _, _⟩ := Kb.four
  obtain ⟨x10, x11, x12, x13, _, _, _, _⟩ := Kc.four
  obtain ⟨x20, x21, x22, x23, _, _, _, _⟩ := Kd.four
  obtain ⟨x30, x31, x32, x33, _, _, _, _⟩ := Ke.four
  obtain ⟨x40, x41, x42, x43, _, _, _, _⟩ := K0.four
  obtain ⟨x50, x51, x52, x53, _, _, _, _⟩ := Ka.four
  go_wp2_with fail
  refine (same_any _ _ X _ Ib.out Ic.out).mono ?_
  rintro e y1 ⟨rfl, hb⟩
  have hc1 := hide hb
  obtain ⟨hcc, hff⟩ := bcell hb
  have g0 := Kb.lt
  have g1 := Kc.lt
  have g2 := Kd.lt
  have g3 := Ke.lt
  have g4 := K0.lt
  have g5 := Ka.lt
  clear hb
  go_wp2_with fail
  refine (same_any _ _ Y _ (Id.out.below hc1.out) (Ie.out.below hc1.out)).mono ?_
  rintro e y2 ⟨rfl, hb⟩
  have hc2 := hide (chain hc1.out hb)
  obtain ⟨hcc2, hff2⟩ := bcell hc2.out
  clear hb
  go_wp2_with fail
  refine (same_any _ _ D _ (I0.out.below hc2.out) (Ia.out.below hc2.out)).mono ?_
  rintro e y3 ⟨rfl, hb⟩
  have hc3 := hide (chain hc2.out hb)
  clear hb
  go_wp2_with fail
  refine (HA.out _).mono ?_
  rintro e y4 ⟨rfl, hb⟩
  go_wp2_with fail
  go_ret
  exact ⟨rfl, chain hbX (chain hc3.out hb)⟩

/-- The walk, as the frame calls it. -/
theorem writes_frame (v : Value) (d : Drv) {w : World} (h : IsDrive w v d) (at_ : Int) (hat : (Lit.int .i64 at_).wf = true) (s : ByteArray) (hs : s.size ≤ maxLen) (w' : World) (e : w' = w := by rfl) :
    Calls Try.prog 4 #[v, .int .i64 at_, .string s] w' fun e w2 => e = .returned (.bool true) ∧ Below w'.heap.size w' w2 := by
  subst e
  have := writes_walk v d at_ s.data.toList _ h (i64_bd hat) (by rw [maxLen_eq] at hs; simpa using Nat.lt_succ_of_le hs)
  rw [bs_of] at this
  exact this

end Go.Proofs.Ytkapdmhjhbmdjaa
