/-
  The walk through awake of the statements on the log: it returns true.
-/
import Derived.Test.YtkapdmhjhbmdjaaLogLawS
namespace Go.Proofs.Ytkapdmhjhbmdjaa
open Go.RowKit

def awT0 : Tp := ⟨0, 2, 0, 1⟩
def awT1 : Tp := ⟨0, 2, 1, 2⟩
def awS : List UInt8 := [97, 98, 99]
def awD0 : Drv := ⟨[blank, blank], [], -1, false⟩
def awD1 : Drv := ⟨over [blank, blank] 0 (recCells awS 1), [], -1, false⟩
theorem awIn0 : awT0.In := by simp [Tp.In, awT0]
theorem awIn1 : awT1.In := by simp [Tp.In, awT1]
theorem awNew : (Drv.new 2).1 = awD0 := by kernel_rfl
theorem awApp : awD0.append awT0 awS = (awD1, awT1, 0) := by kernel_rfl
theorem awScan1 : awD1.scan awT0 = ([awS], awT1, 0) := by kernel_rfl
theorem awScan2 : awD1.scan awT1 = ([], awT1, 0) := by kernel_rfl
theorem awFull : awD1.append awT1 (List.replicate 59 120) = (Drv.zero, Tp.zero, 6) := by kernel_rfl

set_option maxRecDepth 100000 in
set_option maxHeartbeats 12800000 in
theorem awake18_any (w : World) : Calls Try.prog 46 #[] w fun e w' => e = .returned (.bool true) ∧ Below w.heap.size w w' := by
  have HSO : Hid (∀ w, Calls Try.prog 50 #[.int .i64 2] w fun e w' => ∃ v, e = .returned v ∧ IsDrive w' v awD0 ∧ Below w.heap.size w w') := hide (fun w => by
    have h := some_any 2 w
    rw [awNew] at h
    exact h)
  have HAP : Hid (∀ v w, IsDrive w v awD0 → Calls Try.prog 40 #[v, .agg #[.int .i64 0, .int .i64 2, .int .i64 0, .int .i64 1], .string ⟨#[97, 98, 99]⟩] w fun e w' => ∃ v', e = .returned (.tuple #[v', tpVal awT1, .int .i64 0]) ∧ IsDrive w' v' awD1 ∧ Below w.heap.size w w') := hide (fun v w h => by
    have h := append_any v awD0 awT0 awS w h awIn0 (by decide) (by decide)
    rw [awApp] at h
    exact h)
  have HSC1 : Hid (∀ v w, IsDrive w v awD1 → Calls Try.prog 47 #[v, .agg #[.int .i64 0, .int .i64 2, .int .i64 0, .int .i64 1]] w fun e w' => ∃ ao c, e = .returned (.tuple #[.slice ao 1 c, .agg #[.int .i64 0, .int .i64 2, .int .i64 1, .int .i64 2], .int .i64 0]) ∧ Strs w' ao 1 [awS] ∧ 1 ≤ c ∧ c ≤ 9223372036854775807 ∧ Below w.heap.size w w') := hide (fun v w h => by
    have h := scan_any v awD1 awT0 w h awIn0
    rw [awScan1] at h
    exact h)
  have HSC2 : Hid (∀ v w, IsDrive w v awD1 → Calls Try.prog 47 #[v, .agg #[.int .i64 0, .int .i64 2, .int .i64 1, .int .i64 2]] w fun e w' => ∃ ao c, e = .returned (.tuple #[.slice ao 0 c, .agg #[.int .i64 0, .int .i64 2, .int .i64 1, .int .i64 2], .int .i64 0]) ∧ Strs w' ao 0 [] ∧ 0 ≤ c ∧ c ≤ 9223372036854775807 ∧ Below w.heap.size w w') := hide (fun v w h => by
    have h := scan_any v awD1 awT1 w h awIn1
    rw [awScan2] at h
    exact h)
  have HLO : Hid (∀ w, Calls Try.prog 52 #[.int .i64 59] w fun e w' => e = .returned (.string (bs (List.replicate 59 120))) ∧ Below w.heap.size w w') := hide (fun w => long_any 59 w (by decide))
  have HAF : Hid (∀ v w, IsDrive w v awD1 → Calls Try.prog 40 #[v, tpVal awT1, .string (bs (List.replicate 59 120))] w fun e w' => ∃ v', e = .returned (.tuple #[v', tpVal Tp.zero, .int .i64 6]) ∧ IsDrive w' v' Drv.zero ∧ Below w.heap.size w w') := hide (fun v w h => by
    have h := append_any v awD1 awT1 (List.replicate 59 120) w h awIn1 (by decide) (by decide)
    rw [awFull] at h
    exact h)
  obtain ⟨b1, hb1⟩ : ∃ b, w.heap.size = b := ⟨_, rfl⟩
  have B1 := Blk.new w (tpCells awT0) 60
  have hbw1 : Below w.heap.size w (w.alloc (.cells (tpCells awT0).toArray 60)) := (Below.refl _ _).alloc (Nat.le_refl _) _
  have hl1 : w.heap.size < (w.alloc (.cells (tpCells awT0).toArray 60)).heap.size := by simp
  obtain ⟨W1, hW1⟩ : ∃ W1, w.alloc (.cells (tpCells awT0).toArray 60) = W1 := ⟨_, rfl⟩
  rw [hW1] at B1 hbw1 hl1
  go_enter Try.func46, Try.ntmps46
  go_upto_region 2 with fail
  have hW1' : w.alloc (.cells #[.int .i64 0, .int .i64 2, .int .i64 0, .int .i64 1] 60) = W1 := hW1
  try rw [hW1']
  try rw [hb1]
  rw [hb1] at B1 hl1
  have HB1 := hide hb1
  clear hW1 hW1' hb1
  go_cut [2, 3, 4] (fun s2 s3 s4 wx => ∃ (b c : Nat) (v : Value), s2 = .pointer (some ⟨b, 0, none⟩) ∧ s3 = .pointer (some ⟨c, 0, none⟩) ∧ s4 = .int .i64 0 ∧ Holds wx b v ∧ IsDrive wx v awD1 ∧ Blk wx c (tpCells awT1) 60 ∧ c ≠ b ∧ Blk wx b1 (tpCells awT0) 60 ∧ W1.heap.size ≤ b ∧ W1.heap.size ≤ c ∧ Below W1.heap.size W1 wx)
  case first =>
    refine wp_region_inv2 (fun l a w => ∃ x2 x3 x4 x15 x16 x17 x18 x19 x20 x21 : Value, a = ⟨#[.bool false, .pointer (some ⟨b1, 0, none⟩), x2, x3, x4, undef, undef, undef, undef, undef, undef, undef, undef, undef, .agg #[.int .i64 0, .int .i64 2, .int .i64 0, .int .i64 1], x15, x16, x17, x18, x19, x20, x21, undef, undef, undef, undef, undef, undef, undef, undef, undef, undef, undef, undef, undef, undef, undef, undef, undef, undef, undef, undef, undef, undef, undef, undef, undef, undef, undef, undef, undef, undef, undef, undef, undef, undef, undef, undef, undef, undef, undef, undef, undef, undef, undef, undef, undef, undef, undef, undef, undef, undef, undef, undef, undef, undef, undef, undef, undef, undef, undef, undef, undef, undef, undef, undef], []⟩ ∧ AppF W1 2 awD1 awT1 0 l w x18 x15 x19 x20 x21 x2 x3 ∧ (fl l 0 → IsDrive w x16 awD0) ∧ (fl l 1 → x17 = tpVal awT0) ∧ (fl l 11 → x4 = x21 ∧ fl l 6)) (by kernel_rfl) (ord_of2 (by decide +kernel)) ⟨_, _, _, _, _, _, _, _, _, _, rfl, AppF.zero _ _ _ _ _ _ _ _ _ _ _ _, fun f => absurd f (fl_none _ _), fun f => absurd f (fl_none _ _), fun f => absurd f (fl_none _ _)⟩ ?_ ?_
    · intro l a w3 i o ho hI h1 h2 K hK
      obtain ⟨x2, x3, x4, x15, x16, x17, x18, x19, x20, x21, rfl, hF, hd, ht, h4⟩ := hI
      have hi : i < 12 := (Array.getElem?_eq_some_iff.1 ho).1
      have B1' := B1.below hF.below hl1
      obtain ⟨p0, p1, p2, p3, p4, p5, p6, p7⟩ := B1'.four
      have hcase : i = 0 ∨ i = 1 ∨ i = 2 ∨ i = 3 ∨ i = 4 ∨ i = 5 ∨ i = 6 ∨ i = 7 ∨ i = 8 ∨ i = 9 ∨ i = 10 ∨ i = 11 := by omega
      rcases hcase with rfl | rfl | rfl | rfl | rfl | rfl | rfl | rfl | rfl | rfl | rfl | rfl
      · cases ho
        go_simp
        go_at_call 50
        refine (HSO.out _).mono ?_
        rintro e w' ⟨v', rfl, hdv, hb⟩
        exact hK _ _ ⟨_, _, _, _, _, _, _, _, _, _, rfl, (hF.mono hb).pre (.inl (by decide)), fun _ => hdv, fun f => ht (fl_set f (by decide)), fun f => ⟨(h4 (fl_set f (by decide))).1, fl_keep (h4 (fl_set f (by decide))).2 _⟩⟩
      · cases ho
        go_simp
        exact hK _ _ ⟨_, _, _, _, _, _, _, _, _, _, rfl, hF.pre (.inl (by decide)), fun f => hd (fl_set f (by decide)), fun _ => rfl, fun f => ⟨(h4 (fl_set f (by decide))).1, fl_keep (h4 (fl_set f (by decide))).2 _⟩⟩
      · cases ho
        have f0 : fl l 0 := h2 ⟨0, .data⟩ (by simp) rfl
        have f1 : fl l 1 := h2 ⟨1, .data⟩ (by simp) rfl
        obtain rfl := ht f1
        unfold tpVal
        go_simp
        go_at_call 40
        refine (HAP.out _ _ (hd f0)).mono ?_
        rintro e w' ⟨v', rfl, hdv, hb⟩
        exact hK _ _ ⟨_, _, _, _, _, _, _, _, _, _, rfl, hF.call h1 hb hdv, fun f => (hd (fl_set f (by decide))).below hb, fun _ => rfl, fun f => ⟨(h4 (fl_set f (by decide))).1, fl_keep (h4 (fl_set f (by decide))).2 _⟩⟩
      · cases ho
        have f2 : fl l 2 := h2 ⟨2, .data⟩ (by simp) rfl
        go_simp
        exact hK _ _ ⟨_, _, _, _, _, _, _, _, _, _, rfl, hF.move f2, fun f => hd (fl_set f (by decide)), fun f => ht (fl_set f (by decide)), fun f => ⟨(h4 (fl_set f (by decide))).1, fl_keep (h4 (fl_set f (by decide))).2 _⟩⟩
      · cases ho
        have f3 : fl l 3 := h2 ⟨3, .data⟩ (by simp) rfl
        obtain ⟨y, rfl, hy, rfl⟩ := hF.moved f3
        go_simp
        exact hK _ _ ⟨_, _, _, _, _, _, _, _, _, _, rfl, hF.ex0 h1 f3 rfl, fun f => hd (fl_set f (by decide)), fun f => ht (fl_set f (by decide)), fun f => ⟨(h4 (fl_set f (by decide))).1, fl_keep (h4 (fl_set f (by decide))).2 _⟩⟩
      · cases ho
        have f3 : fl l 3 := h2 ⟨3, .data⟩ (by simp) rfl
        obtain ⟨y, rfl, hy, rfl⟩ := hF.moved f3
        go_simp
        exact hK _ _ ⟨_, _, _, _, _, _, _, _, _, _, rfl, hF.ex1 f3, fun f => hd (fl_set f (by decide)), fun f => ht (fl_set f (by decide)), fun f => ⟨(h4 (fl_set f (by decide))).1, fl_keep (h4 (fl_set f (by decide))).2 _⟩⟩
      · cases ho
        have f3 : fl l 3 := h2 ⟨3, .data⟩ (by simp) rfl
        obtain ⟨y, rfl, hy, rfl⟩ := hF.moved f3
        go_simp
        exact hK _ _ ⟨_, _, _, _, _, _, _, _, _, _, rfl, hF.ex2 f3, fun f => hd (fl_set f (by decide)), fun f => ht (fl_set f (by decide)), fun f => absurd (h4 (fl_set f (by decide))).2 (fl_not h1)⟩
      · cases ho
        go_simp
        exact hK _ _ ⟨_, _, _, _, _, _, _, _, _, _, rfl, hF.boxa h1, fun f => (hd (fl_set f (by decide))).below ((Below.refl _ _).alloc (Nat.le_refl _) _), fun f => ht (fl_set f (by decide)), fun f => ⟨(h4 (fl_set f (by decide))).1, fl_keep (h4 (fl_set f (by decide))).2 _⟩⟩
      · cases ho
        go_simp
        exact hK _ _ ⟨_, _, _, _, _, _, _, _, _, _, rfl, hF.boxb h1, fun f => (hd (fl_set f (by decide))).below ((Below.refl _ _).alloc (Nat.le_refl _) _), fun f => ht (fl_set f (by decide)), fun f => ⟨(h4 (fl_set f (by decide))).1, fl_keep (h4 (fl_set f (by decide))).2 _⟩⟩
      · cases ho
        have f7 : fl l 7 := h2 ⟨7, .data⟩ (by simp) rfl
        have f4 : fl l 4 := h2 ⟨4, .data⟩ (by simp) rfl
        obtain ⟨b, u, rfl, hB, hHo, _⟩ := hF.fa f7
        have hHo2 := hHo
        obtain ⟨_, _, _, _, _, _, _, _, _, hH⟩ := hHo
        obtain ⟨y, hxc, hy, h3⟩ := hF.fc (hF.fm (hF.f0 f4)).1
        clear hxc
        obtain rfl := h3 f4
        obtain ⟨u1, m1, t1, u2, m2, t2, fu, of, rfl, _⟩ := hy
        obtain ⟨y0, y1, y2, y3, y4, y5, y6, y7⟩ := hH.four
        unfold drvVal
        go_simp
        exact hK _ _ ⟨_, _, _, _, _, _, _, _, _, _, rfl, hF.sta f7 f4 rfl u1 m1 t1 u2 m2 t2 fu of rfl, fun f => (hd (fl_set f (by decide))).set4 hHo2 _ _ _ _, fun f => ht (fl_set f (by decide)), fun f => ⟨(h4 (fl_set f (by decide))).1, fl_keep (h4 (fl_set f (by decide))).2 _⟩⟩
      · cases ho
        have f8 : fl l 8 := h2 ⟨8, .data⟩ (by simp) rfl
        have f5 : fl l 5 := h2 ⟨5, .data⟩ (by simp) rfl
        obtain ⟨b, u, rfl, hB, hH, _⟩ := hF.fb f8
        obtain ⟨e5, _⟩ := hF.f1 f5
        subst e5
        have hH2 := hH
        unfold tpCells at hH
        obtain ⟨y0, y1, y2, y3, y4, y5, y6, y7⟩ := hH.four
        unfold tpVal
        go_simp
        exact hK _ _ ⟨_, _, _, _, _, _, _, _, _, _, rfl, hF.stb f8 rfl, fun f => (hd (fl_set f (by decide))).set4t hH2 _ _ _ _, fun f => ht (fl_set f (by decide)), fun f => ⟨(h4 (fl_set f (by decide))).1, fl_keep (h4 (fl_set f (by decide))).2 _⟩⟩
      · cases ho
        have f6 : fl l 6 := h2 ⟨6, .data⟩ (by simp) rfl
        go_simp
        exact hK _ _ ⟨_, _, _, _, _, _, _, _, _, _, rfl, hF.pre (.inr rfl), fun f => hd (fl_set f (by decide)), fun f => ht (fl_set f (by decide)), fun _ => ⟨rfl, fl_keep f6 _⟩⟩
    · intro l a w3 hI hall
      obtain ⟨x2, x3, x4, x15, x16, x17, x18, x19, x20, x21, rfl, hF, hd, ht, h4⟩ := hI
      obtain ⟨b, v, c, rfl, rfl, rfl, hb1, hc1, hH, hdv, hT, hcb, hbw⟩ := hF.done hall
      obtain rfl := (h4 (fl_all hall hF.size (by decide))).1
      dsimp only
      go_wp2_with fail
      go_meet
      exact ⟨b, c, v, rfl, rfl, rfl, hH, hdv, hT, hcb, B1.below hbw hl1, hb1, hc1, hbw⟩
  case rest =>
    obtain ⟨wx, rfl⟩ : ∃ wx, wx = wc := ⟨_, rfl⟩
    obtain ⟨b2, b3, v2, rfl, rfl, rfl, hH, hdv, hT, hcb, hT0, hb2, hb3, hbx⟩ := hcut
    have hbw2 := chain hbw1 hbx
    obtain ⟨a1, n1, c1, a2, n2, c2, f, o, rfl, K⟩ := hH
    unfold drvVal at hdv
    have HD := hide hdv
    have hl2 := K.lt
    have hl3 := hT.lt
    have hl0 := hT0.lt
    clear hdv B1 hl1 hbx hbw1 HSO HAP
    unfold tpCells awT1 at hT
    unfold tpCells awT0 at hT0
    simp only at hT hT0
    obtain ⟨p0, p1, p2, p3, p4, p5, p6, p7⟩ := K.four
    obtain ⟨q0, q1, q2, q3, q4, q5, q6, q7⟩ := hT0.four
    go_wp2_with fail
    refine (HSC1.out _ _ HD.out).mono ?_
    rintro e w4 ⟨ao, cx, rfl, hst, hcx1, hcx2, hb4⟩
    have K4 := K.next hb4
    have T4 := hT.next hb4
    have HST4 := hide hst
    have HD4 := hide (HD.out.below hb4)
    have hbw4 := chain hbw2 hb4
    have hal := (Below.refl w4.heap.size w4).alloc (Nat.le_refl _) (.cells #[.int .i64 0, .int .i64 2, .int .i64 1, .int .i64 2] 60)
    have K5 := K4.next hal
    have T5 := T4.next hal
    have N5 := Blk.new w4 [.int .i64 0, .int .i64 2, .int .i64 1, .int .i64 2] 60
    have HST5 := hide (HST4.out.below hal)
    have HD5 := hide (HD4.out.below hal)
    have hbw5 := chain hbw4 hal
    clear p0 p1 p2 p3 p4 p5 p6 p7 q0 q1 q2 q3 q4 q5 q6 q7 hst hb4 K hT hT0 HD hbw2
    obtain ⟨p0, p1, p2, p3, p4, p5, p6, p7⟩ := K4.four
    obtain ⟨q0, q1, q2, q3, q4, q5, q6, q7⟩ := T4.four
    have hl2' := K4.lt
    have hl3' := T4.lt
    go_upto_region 4 with fail
    obtain ⟨W5, hW5⟩ : ∃ W5, w4.alloc (.cells #[.int .i64 0, .int .i64 2, .int .i64 1, .int .i64 2] 60) = W5 := ⟨_, rfl⟩
    rw [hW5] at K5 T5 N5 HST5 HD5 hbw5 hal ⊢
    obtain ⟨b6, hb6⟩ : ∃ b, w4.heap.size = b := ⟨_, rfl⟩
    rw [hb6] at N5 ⊢
    clear hW5 hb6 p0 p1 p2 p3 p4 p5 p6 p7 q0 q1 q2 q3 q4 q5 q6 q7 hal K4 T4 HST4 HD4 hbw4
    obtain ⟨p0, p1, p2, p3, p4, p5, p6, p7⟩ := K5.four
    obtain ⟨q0, q1, q2, q3, q4, q5, q6, q7⟩ := T5.four
    go_wp2_with fail
    refine (HSC2.out _ _ HD5.out).mono ?_
    rintro e w6 ⟨ao2, cx2, rfl, hst2, hcx3, hcx4, hb7⟩
    have K6 := K5.next hb7
    have T6 := T5.next hb7
    have N6 := N5.next hb7
    have HST6 := hide (HST5.out.below hb7)
    have HSU6 := hide hst2
    have HD6 := hide (HD5.out.below hb7)
    have hbw6 := chain hbw5 hb7
    have hal := (Below.refl w6.heap.size w6).alloc (Nat.le_refl _) (.cells #[.int .i64 0, .int .i64 2, .int .i64 1, .int .i64 2] 60)
    have K7 := K6.next hal
    have T7 := T6.next hal
    have N7 := N6.next hal
    have HST7 := hide (HST6.out.below hal)
    have HSU7 := hide (HSU6.out.below hal)
    have HD7 := hide (HD6.out.below hal)
    have hbw7 := chain hbw6 hal
    clear p0 p1 p2 p3 p4 p5 p6 p7 q0 q1 q2 q3 q4 q5 q6 q7 hst2 hb7 K5 T5 N5 HST5 HD5 hbw5
    go_upto_region 5 with fail
    obtain ⟨W7, hW7⟩ : ∃ W7, w6.alloc (.cells #[.int .i64 0, .int .i64 2, .int .i64 1, .int .i64 2] 60) = W7 := ⟨_, rfl⟩
    rw [hW7] at K7 T7 N7 HST7 HSU7 HD7 hbw7 hal ⊢
    obtain ⟨b9, hb9⟩ : ∃ b, w6.heap.size = b := ⟨_, rfl⟩
    rw [hb9] at ⊢
    clear hW7 hb9 hal K6 T6 N6 HST6 HSU6 HD6 hbw6 HSC1 HSC2
    have hl2 := K7.lt
    have hl3 := T7.lt
    have hl6 := N7.lt
    go_cut [13] (fun s13 wy => s13 = .int .i64 6 ∧ Below W7.heap.size W7 wy)
    case first =>
      refine (fun h : ∀ z14 z15 z16 z17 z18 z19 z20 z21 z22 z23 z24 z25 z26 z27 z28 z29 z30 z31 z32 z33 z34 z35 z44 z45 z46 z47 z48 z49 z50 z51 z52 z53 z54 z55 z56 z57 z58 z59 z60 z61 z62 z63 z64 z65 z66 z67 z68 z69 z70 z71 z72 z73 z74 z75 z76 z77 z78 z79 z80 z81 z82 z83 z84 z85 y11 y12 y36 y37 y38 y39 y40 y41 y42 y43 : Value, Code.wp Try.prog ?_ ?_ ⟨#[.bool false, .pointer (some ⟨b1, 0, none⟩), .pointer (some ⟨b2, 0, none⟩), .pointer (some ⟨b3, 0, none⟩), .int .i64 0, .slice ao 1 cx, .pointer (some ⟨b6, 0, none⟩), .int .i64 0, .slice ao2 0 cx2, .pointer (some ⟨b9, 0, none⟩), .int .i64 0, y11, y12, undef, z14, z15, z16, z17, z18, z19, z20, z21, z22, z23, z24, z25, z26, z27, z28, z29, z30, z31, z32, z33, z34, z35, y36, y37, y38, y39, y40, y41, y42, y43, z44, z45, z46, z47, z48, z49, z50, z51, z52, z53, z54, z55, z56, z57, z58, z59, z60, z61, z62, z63, z64, z65, z66, z67, z68, z69, z70, z71, z72, z73, z74, z75, z76, z77, z78, z79, z80, z81, z82, z83, z84, z85], []⟩ W7 => h _ _ _ _ _ _ _ _ _ _ _ _ _ _ _ _ _ _ _ _ _ _ _ _ _ _ _ _ _ _ _ _ _ _ _ _ _ _ _ _ _ _ _ _ _ _ _ _ _ _ _ _ _ _ _ _ _ _ _ _ _ _ _ _ _ _ _ _ _ _ _ _ _ _) ?_
      intro z14 z15 z16 z17 z18 z19 z20 z21 z22 z23 z24 z25 z26 z27 z28 z29 z30 z31 z32 z33 z34 z35 z44 z45 z46 z47 z48 z49 z50 z51 z52 z53 z54 z55 z56 z57 z58 z59 z60 z61 z62 z63 z64 z65 z66 z67 z68 z69 z70 z71 z72 z73 z74 z75 z76 z77 z78 z79 z80 z81 z82 z83 z84 z85 y11 y12 y36 y37 y38 y39 y40 y41 y42 y43
      refine wp_region_inv2 (fun l a w => ∃ x11 x12 x13 x36 x37 x38 x39 x40 x41 x42 x43 : Value, a = ⟨#[.bool false, .pointer (some ⟨b1, 0, none⟩), .pointer (some ⟨b2, 0, none⟩), .pointer (some ⟨b3, 0, none⟩), .int .i64 0, .slice ao 1 cx, .pointer (some ⟨b6, 0, none⟩), .int .i64 0, .slice ao2 0 cx2, .pointer (some ⟨b9, 0, none⟩), .int .i64 0, x11, x12, x13, z14, z15, z16, z17, z18, z19, z20, z21, z22, z23, z24, z25, z26, z27, z28, z29, z30, z31, z32, z33, z34, z35, x36, x37, x38, x39, x40, x41, x42, x43, z44, z45, z46, z47, z48, z49, z50, z51, z52, z53, z54, z55, z56, z57, z58, z59, z60, z61, z62, z63, z64, z65, z66, z67, z68, z69, z70, z71, z72, z73, z74, z75, z76, z77, z78, z79, z80, z81, z82, z83, z84, z85], []⟩ ∧ AppF W7 3 Drv.zero Tp.zero 6 l w x40 x36 x41 x42 x43 x11 x12 ∧ (fl l 0 → IsDrive w x37 awD1) ∧ (fl l 1 → x38 = tpVal awT1) ∧ (fl l 2 → x39 = .string (bs (List.replicate 59 120))) ∧ (fl l 12 → x13 = x43 ∧ fl l 7)) (by kernel_rfl) (ord_of2 (by decide +kernel)) ⟨_, _, _, _, _, _, _, _, _, _, _, rfl, AppF.zero _ _ _ _ _ _ _ _ _ _ _ _, fun f => absurd f (fl_none _ _), fun f => absurd f (fl_none _ _), fun f => absurd f (fl_none _ _), fun f => absurd f (fl_none _ _)⟩ ?_ ?_
      · intro l a w8 i o ho hI h1 h2 KK hK
        obtain ⟨x11, x12, x13, x36, x37, x38, x39, x40, x41, x42, x43, rfl, hF, hd, ht, hs, h4⟩ := hI
        have hi : i < 13 := (Array.getElem?_eq_some_iff.1 ho).1
        have K8 := K7.below hF.below hl2
        have T8 := T7.below hF.below hl3
        obtain ⟨p0, p1, p2, p3, p4, p5, p6, p7⟩ := K8.four
        obtain ⟨q0, q1, q2, q3, q4, q5, q6, q7⟩ := T8.four
        have hdb := HD7.out.below hF.below
        have hcase : i = 0 ∨ i = 1 ∨ i = 2 ∨ i = 3 ∨ i = 4 ∨ i = 5 ∨ i = 6 ∨ i = 7 ∨ i = 8 ∨ i = 9 ∨ i = 10 ∨ i = 11 ∨ i = 12 := by omega
        rcases hcase with rfl | rfl | rfl | rfl | rfl | rfl | rfl | rfl | rfl | rfl | rfl | rfl | rfl
        · cases ho
          go_simp
          exact hK _ _ ⟨_, _, _, _, _, _, _, _, _, _, _, rfl, hF.pre (.inl (by decide)), fun _ => hdb, fun f => ht (fl_set f (by decide)), fun f => hs (fl_set f (by decide)), fun f => ⟨(h4 (fl_set f (by decide))).1, fl_keep (h4 (fl_set f (by decide))).2 _⟩⟩
        · cases ho
          go_simp
          exact hK _ _ ⟨_, _, _, _, _, _, _, _, _, _, _, rfl, hF.pre (.inl (by decide)), fun f => hd (fl_set f (by decide)), fun _ => rfl, fun f => hs (fl_set f (by decide)), fun f => ⟨(h4 (fl_set f (by decide))).1, fl_keep (h4 (fl_set f (by decide))).2 _⟩⟩
        · cases ho
          go_simp
          go_at_call 52
          refine (HLO.out _).mono ?_
          rintro e w' ⟨rfl, hb⟩
          exact hK _ _ ⟨_, _, _, _, _, _, _, _, _, _, _, rfl, (hF.mono hb).pre (.inl (by decide)), fun f => (hd (fl_set f (by decide))).below hb, fun f => ht (fl_set f (by decide)), fun _ => rfl, fun f => ⟨(h4 (fl_set f (by decide))).1, fl_keep (h4 (fl_set f (by decide))).2 _⟩⟩
        · cases ho
          have f0 : fl l 0 := h2 ⟨0, .data⟩ (by simp) rfl
          have f1 : fl l 1 := h2 ⟨1, .data⟩ (by simp) rfl
          have f2 : fl l 2 := h2 ⟨2, .data⟩ (by simp) rfl
          obtain rfl := ht f1
          obtain rfl := hs f2
          go_simp
          go_at_call 40
          refine (HAF.out _ _ (hd f0)).mono ?_
          rintro e w' ⟨v', rfl, hdv, hb⟩
          exact hK _ _ ⟨_, _, _, _, _, _, _, _, _, _, _, rfl, hF.call h1 hb hdv, fun f => (hd (fl_set f (by decide))).below hb, fun _ => rfl, fun _ => rfl, fun f => ⟨(h4 (fl_set f (by decide))).1, fl_keep (h4 (fl_set f (by decide))).2 _⟩⟩
        · cases ho
          have f3 : fl l 3 := h2 ⟨3, .data⟩ (by simp) rfl
          go_simp
          exact hK _ _ ⟨_, _, _, _, _, _, _, _, _, _, _, rfl, hF.move f3, fun f => hd (fl_set f (by decide)), fun f => ht (fl_set f (by decide)), fun f => hs (fl_set f (by decide)), fun f => ⟨(h4 (fl_set f (by decide))).1, fl_keep (h4 (fl_set f (by decide))).2 _⟩⟩
        · cases ho
          have f4 : fl l 4 := h2 ⟨4, .data⟩ (by simp) rfl
          obtain ⟨y, rfl, hy, rfl⟩ := hF.moved f4
          go_simp
          exact hK _ _ ⟨_, _, _, _, _, _, _, _, _, _, _, rfl, hF.ex0 h1 f4 rfl, fun f => hd (fl_set f (by decide)), fun f => ht (fl_set f (by decide)), fun f => hs (fl_set f (by decide)), fun f => ⟨(h4 (fl_set f (by decide))).1, fl_keep (h4 (fl_set f (by decide))).2 _⟩⟩
        · cases ho
          have f4 : fl l 4 := h2 ⟨4, .data⟩ (by simp) rfl
          obtain ⟨y, rfl, hy, rfl⟩ := hF.moved f4
          go_simp
          exact hK _ _ ⟨_, _, _, _, _, _, _, _, _, _, _, rfl, hF.ex1 f4, fun f => hd (fl_set f (by decide)), fun f => ht (fl_set f (by decide)), fun f => hs (fl_set f (by decide)), fun f => ⟨(h4 (fl_set f (by decide))).1, fl_keep (h4 (fl_set f (by decide))).2 _⟩⟩
        · cases ho
          have f4 : fl l 4 := h2 ⟨4, .data⟩ (by simp) rfl
          obtain ⟨y, rfl, hy, rfl⟩ := hF.moved f4
          go_simp
          exact hK _ _ ⟨_, _, _, _, _, _, _, _, _, _, _, rfl, hF.ex2 f4, fun f => hd (fl_set f (by decide)), fun f => ht (fl_set f (by decide)), fun f => hs (fl_set f (by decide)), fun f => absurd (h4 (fl_set f (by decide))).2 (fl_not h1)⟩
        · cases ho
          go_simp
          exact hK _ _ ⟨_, _, _, _, _, _, _, _, _, _, _, rfl, hF.boxa h1, fun f => (hd (fl_set f (by decide))).below ((Below.refl _ _).alloc (Nat.le_refl _) _), fun f => ht (fl_set f (by decide)), fun f => hs (fl_set f (by decide)), fun f => ⟨(h4 (fl_set f (by decide))).1, fl_keep (h4 (fl_set f (by decide))).2 _⟩⟩
        · cases ho
          go_simp
          exact hK _ _ ⟨_, _, _, _, _, _, _, _, _, _, _, rfl, hF.boxb h1, fun f => (hd (fl_set f (by decide))).below ((Below.refl _ _).alloc (Nat.le_refl _) _), fun f => ht (fl_set f (by decide)), fun f => hs (fl_set f (by decide)), fun f => ⟨(h4 (fl_set f (by decide))).1, fl_keep (h4 (fl_set f (by decide))).2 _⟩⟩
        · cases ho
          have f8 : fl l 8 := h2 ⟨8, .data⟩ (by simp) rfl
          have f5 : fl l 5 := h2 ⟨5, .data⟩ (by simp) rfl
          obtain ⟨b, u, rfl, hB, hHo, _⟩ := hF.fa f8
          have hHo2 := hHo
          obtain ⟨_, _, _, _, _, _, _, _, _, hH⟩ := hHo
          obtain ⟨y, hxc, hy, h3⟩ := hF.fc (hF.fm (hF.f0 f5)).1
          clear hxc
          obtain rfl := h3 f5
          obtain ⟨u1, m1, t1, u2, m2, t2, fu, of, rfl, _⟩ := hy
          obtain ⟨y0, y1, y2, y3, y4, y5, y6, y7⟩ := hH.four
          unfold drvVal
          go_simp
          exact hK _ _ ⟨_, _, _, _, _, _, _, _, _, _, _, rfl, hF.sta f8 f5 rfl u1 m1 t1 u2 m2 t2 fu of rfl, fun f => (hd (fl_set f (by decide))).set4 hHo2 _ _ _ _, fun f => ht (fl_set f (by decide)), fun f => hs (fl_set f (by decide)), fun f => ⟨(h4 (fl_set f (by decide))).1, fl_keep (h4 (fl_set f (by decide))).2 _⟩⟩
        · cases ho
          have f9 : fl l 9 := h2 ⟨9, .data⟩ (by simp) rfl
          have f6 : fl l 6 := h2 ⟨6, .data⟩ (by simp) rfl
          obtain ⟨b, u, rfl, hB, hH, _⟩ := hF.fb f9
          obtain ⟨e5, _⟩ := hF.f1 f6
          subst e5
          have hH2 := hH
          unfold tpCells at hH
          obtain ⟨y0, y1, y2, y3, y4, y5, y6, y7⟩ := hH.four
          unfold tpVal
          go_simp
          exact hK _ _ ⟨_, _, _, _, _, _, _, _, _, _, _, rfl, hF.stb f9 rfl, fun f => (hd (fl_set f (by decide))).set4t hH2 _ _ _ _, fun f => ht (fl_set f (by decide)), fun f => hs (fl_set f (by decide)), fun f => ⟨(h4 (fl_set f (by decide))).1, fl_keep (h4 (fl_set f (by decide))).2 _⟩⟩
        · cases ho
          have f7 : fl l 7 := h2 ⟨7, .data⟩ (by simp) rfl
          go_simp
          exact hK _ _ ⟨_, _, _, _, _, _, _, _, _, _, _, rfl, hF.pre (.inr rfl), fun f => hd (fl_set f (by decide)), fun f => ht (fl_set f (by decide)), fun f => hs (fl_set f (by decide)), fun _ => ⟨rfl, fl_keep f7 _⟩⟩
      · intro l a w8 hI hall
        obtain ⟨x11, x12, x13, x36, x37, x38, x39, x40, x41, x42, x43, rfl, hF, hd, ht, hs, h4⟩ := hI
        obtain ⟨b, v, c, rfl, rfl, rfl, hb1, hc1, hH, hdv, hT, hcb, hbw⟩ := hF.done hall
        obtain rfl := (h4 (fl_all hall hF.size (by decide))).1
        dsimp only
        go_wp2_with fail
        go_meet
        exact ⟨rfl, hbw⟩
    case rest =>
      obtain ⟨wy, rfl⟩ : ∃ wy, wy = wc := ⟨_, rfl⟩
      obtain ⟨rfl, hby⟩ := hcut
      have T8 := T7.next hby
      have N8 := N7.next hby
      have HST8 := hide (HST7.out.below hby)
      have hbw8 := chain hbw7 hby
      obtain ⟨q0, q1, q2, q3, q4, q5, q6, q7⟩ := T8.four
      obtain ⟨p0, p1, p2, p3, p4, p5, p6, p7⟩ := N8.four
      have hl3' := T8.lt
      have hl6' := N8.lt
      have HN := hide (Strs.mk (w := wy.alloc (.cells #[.string ⟨#[97, 98, 99]⟩] 9)) (ao := some ⟨wy.heap.size, 0, none⟩) (n := 1) (xs := [awS]) rfl (row_new wy (.string (bs awS)) 9))
      have hal := (Below.refl wy.heap.size wy).alloc (Nat.le_refl _) (.cells #[.string ⟨#[97, 98, 99]⟩] 9)
      have HST9 := hide (HST8.out.below hal)
      have hbw9 := chain hbw8 hal
      have T9 := T8.next hal
      have N9 := N8.next hal
      clear hal
      go_wp2_with fail
      refine (ref2same_any _ _ 1 _ 1 _ [awS] [awS] _ HST9.out HN.out (by decide) (by decide)).mono ?_
      rintro e w10 ⟨rfl, hb10⟩
      have hbx := chain hbw9 hb10
      have T10 := T9.next hb10
      have N10 := N9.next hb10
      clear q0 q1 q2 q3 q4 q5 q6 q7 p0 p1 p2 p3 p4 p5 p6 p7 hl3' hl6'
      obtain ⟨q0, q1, q2, q3, q4, q5, q6, q7⟩ := T10.four
      obtain ⟨p0, p1, p2, p3, p4, p5, p6, p7⟩ := N10.four
      have hl3' := T10.lt
      have hl6' := N10.lt
      rw [decide_eq_true (rfl : [awS] = [awS])]
      clear hb10 hbw9 HST9 HN
      go_wp2_with fail
      go_ret
      exact ⟨rfl, hbx⟩

end Go.Proofs.Ytkapdmhjhbmdjaa
