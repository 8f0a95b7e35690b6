/-
  The walk through the statements' awake of layer 17: the chapter's examples.
-/
import Derived.Test.YtkapdmhjhbmdjaaLawAw3
import Derived.Deep.DeepCutAuto
namespace Go.Proofs.Ytkapdmhjhbmdjaa
open Go.RowKit

set_option maxRecDepth 100000 in
set_option maxHeartbeats 3200000 in
theorem lawawake_any (w : World) : Calls Try.prog 27 #[] w fun e w' => e = .returned (.bool true) ∧ Below w.heap.size w w' := by
  obtain ⟨sx, hsx⟩ : ∃ s, bs x64 = s := ⟨_, rfl⟩
  have HSX := hide hsx
  have HA : Hid (∀ w, Calls Try.prog 34 #[.int .u8 120, .int .i64 1] w fun e w' => e = .returned (.string sx) ∧ Below w.heap.size w w') := hide (fun w => by rw [← hsx]; exact all_any 120 1 w (by decide))
  have HW : Hid (∀ (v : Value) (w : World), IsDrive w v d0 → Calls Try.prog 29 #[v, .int .i64 0, .string sx] w fun e w' => ∃ v', e = .returned (.tuple #[v', .int .i64 0]) ∧ IsDrive w' v' dw ∧ Below w.heap.size w w') := hide (fun v w h => by
    have := write_any v d0 0 x64 w h (by decide) (by decide) (by decide)
    rw [write_x, hsx] at this
    exact this)
  have HN : Hid (∀ w, Calls Try.prog 33 #[.int .i64 1] w fun e w' => ∃ v, e = .returned (.tuple #[v, .int .i64 0]) ∧ IsDrive w' v d0 ∧ Below w.heap.size w w') := hide (fun w => by
    have := new_any 1 w
    rw [new_one] at this
    exact this)
  have HC0 : Hid (∀ (v : Value) (w : World), IsDrive w v dw → Calls Try.prog 24 #[v, .agg #[.int .u64 0, .int .i64 (-1), .int .i64 0]] w fun e w' => ∃ v', e = .returned v' ∧ IsDrive w' v' d0 ∧ Below w.heap.size w w') := hide (fun v w h => by
    have := crash_int v dw 0 (-1) 0 w h (by decide) (by decide) (by decide)
    rw [show dw.crash (0 : Int).toNat (-1) 0 = d0 from crash_lost] at this
    exact this)
  have HC1 : Hid (∀ (v : Value) (w : World), IsDrive w v dw → Calls Try.prog 24 #[v, .agg #[.int .u64 1, .int .i64 (-1), .int .i64 0]] w fun e w' => ∃ v', e = .returned v' ∧ IsDrive w' v' dk ∧ Below w.heap.size w w') := hide (fun v w h => by
    have := crash_int v dw 1 (-1) 0 w h (by decide) (by decide) (by decide)
    rw [show dw.crash (1 : Int).toNat (-1) 0 = dk from crash_kept] at this
    exact this)
  have HC2 : Hid (∀ (v : Value) (w : World), IsDrive w v dw → Calls Try.prog 24 #[v, .agg #[.int .u64 0, .int .i64 0, .int .i64 3]] w fun e w' => ∃ v', e = .returned v' ∧ IsDrive w' v' dt ∧ Below w.heap.size w w') := hide (fun v w h => by
    have := crash_int v dw 0 0 3 w h (by decide) (by decide) (by decide)
    rw [show dw.crash (0 : Int).toNat 0 3 = dt from crash_torn] at this
    exact this)
  clear hsx
  go_enter Try.func27, Try.ntmps27
  go_wp2_with fail
  refine (HN.out _).mono ?_
  rintro e w1 ⟨v1, rfl, hd1, hb1⟩
  obtain ⟨a1, c1, a2, c2, rfl, hD1⟩ := drv_form hd1
  have HD1 := hide hd1
  clear hd1 hD1
  have e1 : d0.cells.length = 1 := rfl
  have e2 : d0.queue.length = 0 := rfl
  have e3 : d0.fuel = -1 := rfl
  have e4 : d0.off = false := rfl
  rw [e1, e2, e3, e4] at HD1
  rw [e1, e2, e3, e4]
  clear e1 e2 e3 e4
  have K1 := Blk.new w1 [.slice a1 1 c1, .slice a2 0 c2, .int .i64 (-1), .bool false] 25
  obtain ⟨p0, p1, p2, p3, p4, p5, p6, p7⟩ := K1.four
  have hb2 := hb1.alloc hb1.size (.cells #[.slice a1 1 c1, .slice a2 0 c2, .int .i64 (-1), .bool false] 25)
  have HD2 := hide (HD1.out.below ((Below.refl _ w1).alloc (Nat.le_refl _) (.cells #[.slice a1 1 c1, .slice a2 0 c2, .int .i64 (-1), .bool false] 25)))
  go_wp2_with fail
  go_cut [3, 4] (fun s3 s4 wx => ∃ (b : Nat) (b1 : Option Addr) (e1 : Nat) (b2 : Option Addr) (e2 : Nat), s3 = .pointer (some ⟨b, 0, none⟩) ∧ s4 = .int .i64 0 ∧ Blk wx b [.slice b1 1 e1, .slice b2 1 e2, .int .i64 (-1), .bool false] 25 ∧ IsDrive wx (.agg #[.slice b1 1 e1, .slice b2 1 e2, .int .i64 (-1), .bool false]) dw ∧ Blk wx w1.heap.size [.slice a1 1 c1, .slice a2 0 c2, .int .i64 (-1), .bool false] 25 ∧ IsDrive wx (.agg #[.slice a1 1 c1, .slice a2 0 c2, .int .i64 (-1), .bool false]) d0 ∧ Below w.heap.size w wx)
  case first =>
    go_region_held3 (fun w' => w'.cell? ⟨w1.heap.size, 0, none⟩ = some (.slice a1 1 c1) ∧ w'.cell? ⟨w1.heap.size, 1, none⟩ = some (.slice a2 0 c2) ∧ w'.cell? ⟨w1.heap.size, 2, none⟩ = some (.int .i64 (-1)) ∧ w'.cell? ⟨w1.heap.size, 3, none⟩ = some (.bool false)) (go_keep) (first
      | (go_at_call 34
         refine (HA.out _).mono ?_
         rintro e w5 ⟨rfl, hb5⟩
         have hb5' := undrew1 hb5
         have K5 := Blk.next (by first | exact K1 | exact K1.alloc _) hb5'
         have HD5 := hide (IsDrive.below (by first | exact HD2.out | exact HD2.out.below ((Below.refl _ _).alloc (Nat.le_refl _) _)) hb5')
         have hb6 := chain (by first | exact hb2 | exact hb2.alloc hb2.size _) hb5'
         first
           | (have Z5 := (Blk.new (w1.alloc (.cells #[.slice a1 1 c1, .slice a2 0 c2, .int .i64 (-1), .bool false] 25)) [.slice none 0 0, .slice none 0 0, .int .i64 0, .bool false] 25).next hb5'
              rw [World.size_alloc] at Z5)
           | skip

         have hl5 : w1.heap.size < w5.heap.size := Blk.lt K5
         have hne5 : w5.heap.size ≠ w1.heap.size := Nat.ne_of_gt (Blk.lt K5)
         obtain ⟨q0, q1, q2, q3, q4, q5, q6, q7⟩ := K5.four)
      | (go_at_call 29
         refine (HW.out _ _ (by first | exact HD5.out | exact HD5.out.below ((Below.refl _ _).alloc (Nat.le_refl _) _))).mono ?_
         rintro e w7 ⟨v7, rfl, hd7, hb7⟩
         have K7 := Blk.next (by first | exact K5 | exact K5.alloc _) hb7
         have HD7 := hide (IsDrive.below (by first | exact HD5.out | exact HD5.out.below ((Below.refl _ _).alloc (Nat.le_refl _) _)) hb7)
         have hb8 := chain (by first | exact hb6 | exact hb6.alloc hb6.size _) hb7
         obtain ⟨b1, f1, b2, f2, rfl, hD7⟩ := drv_form hd7
         have HE7 := hide hd7
         clear hd7 hD7
         have e1 : dw.cells.length = 1 := rfl
         have e2 : dw.queue.length = 1 := rfl
         have e3 : dw.fuel = -1 := rfl
         have e4 : dw.off = false := rfl
         rw [e1, e2, e3, e4] at HE7
         rw [e1, e2, e3, e4]
         clear e1 e2 e3 e4
         first
           | (have Z7 := Z5.next hb7
              obtain ⟨z0, z1, z2, z3, z4, z5, z6, z7⟩ := Z7.four)
           | (have Z7 := (Blk.new w5 [.slice none 0 0, .slice none 0 0, .int .i64 0, .bool false] 25).next hb7
              obtain ⟨z0, z1, z2, z3, z4, z5, z6, z7⟩ := Z7.four)
           | skip

         have hl7 : w1.heap.size < w7.heap.size := Blk.lt K7
         have hne7 : w7.heap.size ≠ w1.heap.size := Nat.ne_of_gt (Blk.lt K7)
         obtain ⟨r0, r1, r2, r3, r4, r5, r6, r7⟩ := K7.four))
    all_goals
      go_wp2_with fail
      go_meet
      have hs1 := hb1.size
    · exact ⟨_, b1, f1, b2, f2, rfl, rfl, Blk.new _ _ _, HE7.out.below ((Below.refl _ _).alloc (Nat.le_refl _) _), K7.alloc _, HD7.out.below ((Below.refl _ _).alloc (Nat.le_refl _) _), hb8.alloc hb8.size _⟩
    · exact ⟨_, b1, f1, b2, f2, rfl, rfl, Z7.set4 _ _ _ _, HE7.out.set4 (blk_holds Z7) _ _ _ _, K7.other4 (by omega) _ _ _ _, HD7.out.set4 (blk_holds Z7) _ _ _ _, below4 hb8 (by omega) _ _ _ _⟩
    · exact ⟨_, b1, f1, b2, f2, rfl, rfl, Z7.set4 _ _ _ _, HE7.out.set4 (blk_holds Z7) _ _ _ _, K7.other4 (by omega) _ _ _ _, HD7.out.set4 (blk_holds Z7) _ _ _ _, below4 hb8 (by omega) _ _ _ _⟩
  case rest =>
    obtain ⟨wx, rfl⟩ : ∃ wx, wx = wc := ⟨_, rfl⟩
    obtain ⟨b3, b1, e1, b2, e2, rfl, rfl, G3, hd3, G1, hd1, hbx⟩ := hcut
    clear hb1 hb2 p0 p1 p2 p3 p4 p5 p6 p7 K1
    obtain ⟨p0, p1, p2, p3, p4, p5, p6, p7⟩ := G3.four
    have HD3 := hide hd3
    have HDa := hide hd1
    have hl3 := G3.lt
    have hl1 := G1.lt
    clear hd3 hd1 HD1 HD2 HW HN
    go_wp2_with fail
    go_cut [5, 6, 7] (fun s5 s6 s7 wy => ∃ (b5 b6 b7 : Nat) (v5 v6 v7 : Value), s5 = .pointer (some ⟨b5, 0, none⟩) ∧ s6 = .pointer (some ⟨b6, 0, none⟩) ∧ s7 = .pointer (some ⟨b7, 0, none⟩) ∧ Holds wy b5 v5 ∧ Holds wy b6 v6 ∧ Holds wy b7 v7 ∧ IsDrive wy v5 d0 ∧ IsDrive wy v6 dk ∧ IsDrive wy v7 dt ∧ Below wx.heap.size wx wy)
    case first =>
      refine wp_region_inv (AwI wx (.agg #[.slice b1 1 e1, .slice b2 1 e2, .int .i64 (-1), .bool false]) w1.heap.size b3) (by kernel_rfl) (ord_of (by kernel_rfl)) ⟨_, _, _, _, _, _, _, _, _, _, _, _, _, _, _, _, _, _, _, _, _, _, _, _, _, _, _, _, _, _, _, _, _, _, _, _, _, _, _, _, _, _, _, _, _, _, _, _, _, _, _, _, _, _, _, _, _, _, _, _, _, _, _, _, _, _, _, _, _, _, _, rfl, AwF.zero _ _ _ _ _ _ _ _ _ _ _ _ _ _⟩ ?_ ?_
      · intro l a w i o ho hI h1 h2 K hK
        obtain ⟨x5, x6, x7, z8, z9, z10, z11, z12, z13, z14, z15, z16, z17, x18, x19, x20, x21, x22, x23, x24, x25, x26, z27, z28, z29, z30, z31, z32, z33, z34, z35, z36, z37, z38, z39, z40, z41, z42, z43, z44, z45, z46, z47, z48, z49, z50, z51, z52, z53, z54, z55, z56, z57, z58, z59, z60, z61, z62, z63, z64, z65, z66, z67, z68, z69, z70, z71, z72, z73, z74, z75, rfl, hF⟩ := hI
        have hi : i < 15 := (Array.getElem?_eq_some_iff.1 ho).1
        have G3' := G3.below hF.below hl3
        have hd3 := HD3.out.below hF.below
        obtain ⟨p0, p1, p2, p3, p4, p5, p6, p7⟩ := G3'.four
        have hcase : i = 0 ∨ i = 1 ∨ i = 2 ∨ i = 3 ∨ i = 4 ∨ i = 5 ∨ i = 6 ∨ i = 7 ∨ i = 8 ∨ i = 9 ∨ i = 10 ∨ i = 11 ∨ i = 12 ∨ i = 13 ∨ i = 14 := by omega
        rcases hcase with rfl | rfl | rfl | rfl | rfl | rfl | rfl | rfl | rfl | rfl | rfl | rfl | rfl | rfl | rfl
        · cases ho
          go_simp
          exact hK _ _ ⟨_, _, _, _, _, _, _, _, _, _, _, _, _, _, _, _, _, _, _, _, _, _, _, _, _, _, _, _, _, _, _, _, _, _, _, _, _, _, _, _, _, _, _, _, _, _, _, _, _, _, _, _, _, _, _, _, _, _, _, _, _, _, _, _, _, _, _, _, _, _, _, rfl, hF.s0 rfl⟩
        · cases ho
          go_simp
          exact hK _ _ ⟨_, _, _, _, _, _, _, _, _, _, _, _, _, _, _, _, _, _, _, _, _, _, _, _, _, _, _, _, _, _, _, _, _, _, _, _, _, _, _, _, _, _, _, _, _, _, _, _, _, _, _, _, _, _, _, _, _, _, _, _, _, _, _, _, _, _, _, _, _, _, _, rfl, hF.s1 rfl⟩
        · cases ho
          obtain rfl := hF.f0 (h2 ⟨0, .data⟩ (by simp) rfl)
          obtain rfl := hF.f1 (h2 ⟨1, .data⟩ (by simp) rfl)
          go_simp
          go_at_call 24
          refine (HC0.out _ _ hd3).mono ?_
          rintro e w' ⟨v', rfl, hd, hb⟩
          exact hK _ _ ⟨_, _, _, _, _, _, _, _, _, _, _, _, _, _, _, _, _, _, _, _, _, _, _, _, _, _, _, _, _, _, _, _, _, _, _, _, _, _, _, _, _, _, _, _, _, _, _, _, _, _, _, _, _, _, _, _, _, _, _, _, _, _, _, _, _, _, _, _, _, _, _, rfl, (hF.mono hb).s2 hd h1⟩
        · cases ho
          go_simp
          exact hK _ _ ⟨_, _, _, _, _, _, _, _, _, _, _, _, _, _, _, _, _, _, _, _, _, _, _, _, _, _, _, _, _, _, _, _, _, _, _, _, _, _, _, _, _, _, _, _, _, _, _, _, _, _, _, _, _, _, _, _, _, _, _, _, _, _, _, _, _, _, _, _, _, _, _, rfl, hF.s3 rfl⟩
        · cases ho
          go_simp
          exact hK _ _ ⟨_, _, _, _, _, _, _, _, _, _, _, _, _, _, _, _, _, _, _, _, _, _, _, _, _, _, _, _, _, _, _, _, _, _, _, _, _, _, _, _, _, _, _, _, _, _, _, _, _, _, _, _, _, _, _, _, _, _, _, _, _, _, _, _, _, _, _, _, _, _, _, rfl, hF.s4 rfl⟩
        · cases ho
          obtain rfl := hF.f3 (h2 ⟨3, .data⟩ (by simp) rfl)
          obtain rfl := hF.f4 (h2 ⟨4, .data⟩ (by simp) rfl)
          have hk : fl l 2 := h2 ⟨2, .chain⟩ (by simp) rfl
          go_simp
          go_at_call 24
          refine (HC1.out _ _ hd3).mono ?_
          rintro e w' ⟨v', rfl, hd, hb⟩
          exact hK _ _ ⟨_, _, _, _, _, _, _, _, _, _, _, _, _, _, _, _, _, _, _, _, _, _, _, _, _, _, _, _, _, _, _, _, _, _, _, _, _, _, _, _, _, _, _, _, _, _, _, _, _, _, _, _, _, _, _, _, _, _, _, _, _, _, _, _, _, _, _, _, _, _, _, rfl, (hF.mono hb).s5 hd h1 hk⟩
        · cases ho
          go_simp
          exact hK _ _ ⟨_, _, _, _, _, _, _, _, _, _, _, _, _, _, _, _, _, _, _, _, _, _, _, _, _, _, _, _, _, _, _, _, _, _, _, _, _, _, _, _, _, _, _, _, _, _, _, _, _, _, _, _, _, _, _, _, _, _, _, _, _, _, _, _, _, _, _, _, _, _, _, rfl, hF.s6 rfl⟩
        · cases ho
          go_simp
          exact hK _ _ ⟨_, _, _, _, _, _, _, _, _, _, _, _, _, _, _, _, _, _, _, _, _, _, _, _, _, _, _, _, _, _, _, _, _, _, _, _, _, _, _, _, _, _, _, _, _, _, _, _, _, _, _, _, _, _, _, _, _, _, _, _, _, _, _, _, _, _, _, _, _, _, _, rfl, hF.s7 rfl⟩
        · cases ho
          obtain rfl := hF.f6 (h2 ⟨6, .data⟩ (by simp) rfl)
          obtain rfl := hF.f7 (h2 ⟨7, .data⟩ (by simp) rfl)
          have hk : fl l 5 := h2 ⟨5, .chain⟩ (by simp) rfl
          go_simp
          go_at_call 24
          refine (HC2.out _ _ hd3).mono ?_
          rintro e w' ⟨v', rfl, hd, hb⟩
          exact hK _ _ ⟨_, _, _, _, _, _, _, _, _, _, _, _, _, _, _, _, _, _, _, _, _, _, _, _, _, _, _, _, _, _, _, _, _, _, _, _, _, _, _, _, _, _, _, _, _, _, _, _, _, _, _, _, _, _, _, _, _, _, _, _, _, _, _, _, _, _, _, _, _, _, _, rfl, (hF.mono hb).s8 hd h1 hk⟩
        · cases ho
          go_simp
          exact hK _ _ ⟨_, _, _, _, _, _, _, _, _, _, _, _, _, _, _, _, _, _, _, _, _, _, _, _, _, _, _, _, _, _, _, _, _, _, _, _, _, _, _, _, _, _, _, _, _, _, _, _, _, _, _, _, _, _, _, _, _, _, _, _, _, _, _, _, _, _, _, _, _, _, _, rfl, hF.s9 (fun f => fl_not h1 (hF.n12 f))⟩
        · cases ho
          go_simp
          exact hK _ _ ⟨_, _, _, _, _, _, _, _, _, _, _, _, _, _, _, _, _, _, _, _, _, _, _, _, _, _, _, _, _, _, _, _, _, _, _, _, _, _, _, _, _, _, _, _, _, _, _, _, _, _, _, _, _, _, _, _, _, _, _, _, _, _, _, _, _, _, _, _, _, _, _, rfl, hF.s10 (fun f => fl_not h1 (hF.n13 f))⟩
        · cases ho
          go_simp
          exact hK _ _ ⟨_, _, _, _, _, _, _, _, _, _, _, _, _, _, _, _, _, _, _, _, _, _, _, _, _, _, _, _, _, _, _, _, _, _, _, _, _, _, _, _, _, _, _, _, _, _, _, _, _, _, _, _, _, _, _, _, _, _, _, _, _, _, _, _, _, _, _, _, _, _, _, rfl, hF.s11 (fun f => fl_not h1 (hF.n14 f))⟩
        · cases ho
          have q9 : fl l 9 := h2 ⟨9, .data⟩ (by simp) rfl
          have g8 : fl l 8 := h2 ⟨8, .chain⟩ (by simp) rfl
          have g5 := hF.k8 g8
          have g2 := hF.k5 g5
          obtain ⟨b, u, rfl, hB, ⟨_, _, _, _, _, _, _, _, _, hH⟩, hu⟩ := hF.f9 q9
          obtain ⟨u1, m1, t1, u2, m2, t2, fu, of, rfl, _⟩ := hF.f2 g2
          obtain ⟨y0, y1, y2, y3, y4, y5, y6, y7⟩ := hH.four
          unfold drvVal
          go_simp
          exact hK _ _ ⟨_, _, _, _, _, _, _, _, _, _, _, _, _, _, _, _, _, _, _, _, _, _, _, _, _, _, _, _, _, _, _, _, _, _, _, _, _, _, _, _, _, _, _, _, _, _, _, _, _, _, _, _, _, _, _, _, _, _, _, _, _, _, _, _, _, _, _, _, _, _, _, rfl, hF.s12 g2 g5 g8 q9 rfl u1 m1 t1 u2 m2 t2 fu of rfl⟩
        · cases ho
          have q9 : fl l 10 := h2 ⟨10, .data⟩ (by simp) rfl
          have g8 : fl l 8 := (hF.g 12 (by decide) (h2 ⟨12, .chain⟩ (by simp) rfl)).2.2
          have g5 := hF.k8 g8
          have g2 := hF.k5 g5
          obtain ⟨b, u, rfl, hB, ⟨_, _, _, _, _, _, _, _, _, hH⟩, hu⟩ := hF.f10 q9
          obtain ⟨u1, m1, t1, u2, m2, t2, fu, of, rfl, _⟩ := hF.f5 g5
          obtain ⟨y0, y1, y2, y3, y4, y5, y6, y7⟩ := hH.four
          unfold drvVal
          go_simp
          exact hK _ _ ⟨_, _, _, _, _, _, _, _, _, _, _, _, _, _, _, _, _, _, _, _, _, _, _, _, _, _, _, _, _, _, _, _, _, _, _, _, _, _, _, _, _, _, _, _, _, _, _, _, _, _, _, _, _, _, _, _, _, _, _, _, _, _, _, _, _, _, _, _, _, _, _, rfl, hF.s13 g2 g5 g8 q9 rfl u1 m1 t1 u2 m2 t2 fu of rfl⟩
        · cases ho
          have q9 : fl l 11 := h2 ⟨11, .data⟩ (by simp) rfl
          have g8 : fl l 8 := (hF.g 13 (by decide) (h2 ⟨13, .chain⟩ (by simp) rfl)).2.2
          have g5 := hF.k8 g8
          have g2 := hF.k5 g5
          obtain ⟨b, u, rfl, hB, ⟨_, _, _, _, _, _, _, _, _, hH⟩, hu⟩ := hF.f11 q9
          obtain ⟨u1, m1, t1, u2, m2, t2, fu, of, rfl, _⟩ := hF.f8 g8
          obtain ⟨y0, y1, y2, y3, y4, y5, y6, y7⟩ := hH.four
          unfold drvVal
          go_simp
          exact hK _ _ ⟨_, _, _, _, _, _, _, _, _, _, _, _, _, _, _, _, _, _, _, _, _, _, _, _, _, _, _, _, _, _, _, _, _, _, _, _, _, _, _, _, _, _, _, _, _, _, _, _, _, _, _, _, _, _, _, _, _, _, _, _, _, _, _, _, _, _, _, _, _, _, _, rfl, hF.s14 g2 g5 g8 q9 rfl u1 m1 t1 u2 m2 t2 fu of rfl⟩
      · intro l a w hI hall
        obtain ⟨x5, x6, x7, z8, z9, z10, z11, z12, z13, z14, z15, z16, z17, x18, x19, x20, x21, x22, x23, x24, x25, x26, z27, z28, z29, z30, z31, z32, z33, z34, z35, z36, z37, z38, z39, z40, z41, z42, z43, z44, z45, z46, z47, z48, z49, z50, z51, z52, z53, z54, z55, z56, z57, z58, z59, z60, z61, z62, z63, z64, z65, z66, z67, z68, z69, z70, z71, z72, z73, z74, z75, rfl, hF⟩ := hI
        obtain ⟨b5, v5, rfl, h5, k5, j5⟩ := hF.f9 (fl_all hall hF.size (by decide))
        obtain ⟨b6, v6, rfl, h6, k6, j6⟩ := hF.f10 (fl_all hall hF.size (by decide))
        obtain ⟨b7, v7, rfl, h7, k7, j7⟩ := hF.f11 (fl_all hall hF.size (by decide))
        obtain rfl := j5 (fl_all hall hF.size (by decide))
        obtain rfl := j6 (fl_all hall hF.size (by decide))
        obtain rfl := j7 (fl_all hall hF.size (by decide))
        dsimp only
        go_wp2_with fail
        go_meet
        exact ⟨b5, b6, b7, _, _, _, rfl, rfl, rfl, k5, k6, k7, hF.f2 (fl_all hall hF.size (by decide)), hF.f5 (fl_all hall hF.size (by decide)), hF.f8 (fl_all hall hF.size (by decide)), hF.below⟩
    case rest =>
      obtain ⟨wy, rfl⟩ : ∃ wy, wy = wc := ⟨_, rfl⟩
      obtain ⟨b5, b6, b7, v5, v6, v7, rfl, rfl, rfl, k5, k6, k7, d5, d6, d7, hby⟩ := hcut
      have G1' := G1.below hby hl1
      have hd1' := HDa.out.below hby
      have hbz := chain hbx hby
      obtain ⟨m1, f1, m2, f2, hv5, B5, D5⟩ := holds_form k5 d5
      obtain ⟨o1, g1, o2, g2, hv6, B6, D6⟩ := holds_form k6 d6
      obtain ⟨u1, h1, u2, h2, hv7, B7, D7⟩ := holds_form k7 d7
      have l5 : d0.cells.length = 1 ∧ d0.queue.length = 0 ∧ d0.fuel = -1 ∧ d0.off = false := ⟨rfl, rfl, rfl, rfl⟩
      have l6 : dk.cells.length = 1 := rfl
      have l7 : dt.cells.length = 1 := rfl
      rw [l5.1, l5.2.1, l5.2.2.1, l5.2.2.2] at B5 hv5
      rw [l6] at B6 D6
      rw [l7] at B7 D7
      obtain ⟨c6, n6, hc6, hix6, hcl6⟩ := D6.cells.at g1 0 (by decide)
      obtain ⟨c7, n7, hc7, hix7, hcl7⟩ := D7.cells.at h1 0 (by decide)
      have hix6z : ∀ W, (Instr.indexAt 22 (.slice o1 1 g1) (.int .i64 0)).run Try.prog W = .ok (.pointer (some ⟨c6, n6, none⟩)) W := fun W => hix6 W
      have hix7z : ∀ W, (Instr.indexAt 22 (.slice u1 1 h1) (.int .i64 0)).run Try.prog W = .ok (.pointer (some ⟨c7, n7, none⟩)) W := fun W => hix7 W
      have e6 : bs (dk.cells.getD 0 []) = sx := HSX.out
      rw [e6] at hcl6
      have e7 : (bs (dt.cells.getD 0 [])).size = 64 := rfl
      have e8 : (bs (dt.cells.getD 0 [])).extract 0 4 = ⟨#[120, 120, 120, 0]⟩ := by decide
      obtain ⟨s7, hs7⟩ : ∃ s, bs (dt.cells.getD 0 []) = s := ⟨_, rfl⟩
      rw [hs7] at hcl7 e7 e8
      have e7' : ((s7.size : Int) != 64) = false := by rw [bne_eq_false_iff_eq]; omega
      have e7'' : (4 : Nat) ≤ s7.size := by omega
      have e79 : (4 : Int) ≤ (s7.size : Int) := by omega
      have HSAME := hide (fun (w' : World) (hb : Below wy.heap.size wy w') => same_any v5 (.agg #[.slice a1 1 c1, .slice a2 0 c2, .int .i64 (-1), .bool false]) d0 w' (d5.below hb) (hd1'.below hb))
      rw [hv5] at HSAME
      obtain ⟨p50, p51, p52, p53, _, _, _, _⟩ := B5.four
      obtain ⟨p10, p11, p12, p13, _, _, _, _⟩ := G1'.four
      have p60 := B6.cell 0
      have p70 := B7.cell 0
      simp only [List.getElem?_cons_zero] at p60 p70
      have N5 := B5.lt
      have N6 := B6.lt
      have N7 := B7.lt
      have N1 := G1'.lt
      clear hix6 hix7 hs7 e7 l5 l6 l7 e6 hv6 hv7 D5 D6 D7 d5 d6 d7 k5 k6 k7 hby hbx HD3 HDa G3 G1 hd1' HC0 HC1 HC2 hl3 hl1 p0 p1 p2 p3 p4 p5 p6 p7
      go_wp2_with fail
      go_region_held3 (fun w' => w'.cell? ⟨b5, 0, none⟩ = some (.slice m1 1 f1) ∧ w'.cell? ⟨b5, 1, none⟩ = some (.slice m2 0 f2) ∧ w'.cell? ⟨b5, 2, none⟩ = some (.int .i64 (-1)) ∧ w'.cell? ⟨b5, 3, none⟩ = some (.bool false) ∧ w'.cell? ⟨w1.heap.size, 0, none⟩ = some (.slice a1 1 c1) ∧ w'.cell? ⟨w1.heap.size, 1, none⟩ = some (.slice a2 0 c2) ∧ w'.cell? ⟨w1.heap.size, 2, none⟩ = some (.int .i64 (-1)) ∧ w'.cell? ⟨w1.heap.size, 3, none⟩ = some (.bool false) ∧ w'.cell? ⟨b6, 0, none⟩ = some (.slice o1 1 g1) ∧ w'.cell? ⟨b7, 0, none⟩ = some (.slice u1 1 h1) ∧ w'.cell? ⟨c6, n6, none⟩ = some (.string sx) ∧ w'.cell? ⟨c7, n7, none⟩ = some (.string s7)) (go_keep) (first
        | (go_at_call 23
           refine (HSAME.out _ (Below.drewed (Below.refl _ _))).mono ?_
           rintro e w5 ⟨rfl, hb5⟩
           have hb5' := undrew1 hb5
           have hbq := chain hbz hb5'
           obtain ⟨hcc, hff⟩ := bcell hb5')
        | (go_at_call 34
           refine (HA.out _).mono ?_
           rintro e w6 ⟨rfl, hb6⟩
           have hbq6 := chain hbq hb6
           obtain ⟨hcc6, hff6⟩ := bcell (chain hb5' hb6)))
      go_wp2_with fail
      go_ret
      exact ⟨rfl, hbq6⟩

end Go.Proofs.Ytkapdmhjhbmdjaa
