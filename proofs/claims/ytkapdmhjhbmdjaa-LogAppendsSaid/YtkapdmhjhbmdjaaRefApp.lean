/-
  The document's Append.
-/
import Derived.Test.YtkapdmhjhbmdjaaLogApp
import Derived.Test.YtkapdmhjhbmdjaaRefScan
import Derived.Test.YtkapdmhjhbmdjaaRefWriteX
import Derived.Test.YtkapdmhjhbmdjaaRefFlush
namespace Go.Proofs.Ytkapdmhjhbmdjaa
open Go.RowKit

set_option maxRecDepth 100000 in
set_option maxHeartbeats 6400000 in
theorem refappend_bad (v : Value) (d : Drv) (t : Tp) (s : List UInt8) (w : World) (h : IsDrive w v d) (ht : t.In) (hs : s.length < 9223372036854775808) (hbad : ¬ (tapeOk d t = true ∧ s.length ≤ 4000 ∧ kOf s.length ≤ t.len - t.pos ∧ t.serial ≤ 16777215)) :
    Calls Try.prog 41 #[v, tpVal t, .string (bs s)] w fun e w' => ∃ v', e = .returned (.tuple #[v', tpVal (d.append t s).2.1, .int .i64 (d.append t s).2.2]) ∧ IsDrive w' v' (d.append t s).1 ∧ Below w.heap.size w w' := by
  have HM := hide (fun (v : Value) (w : World) (h : IsDrive w v d) => refmay18_any v d t w h ht)
  have hno := append_no d t s
  have htin := tapeOk_in (d := d) (t := t)
  have HC := hide (fun w => refcells18_any (s.length : Int) w (by omega))
  obtain ⟨f, ln, p, sr⟩ := t
  obtain ⟨h1, h2, h3, h4⟩ := ht
  simp only at h1 h2 h3 h4 hno hbad htin
  have HI := hide h
  obtain ⟨a1, n1, c1, a2, n2, c2, fu, of, rfl, _⟩ := h
  unfold drvVal at HI ⊢
  unfold tpVal at HM ⊢
  simp only at HM ⊢
  obtain ⟨B0, B1, B2, B3⟩ := four_boxes w [.slice a1 n1 c1, .slice a2 n2 c2, .int .i64 fu, .bool of] [.int .i64 f, .int .i64 ln, .int .i64 p, .int .i64 sr] [.slice none 0 0, .slice none 0 0, .int .i64 0, .bool false] [.int .i64 0, .int .i64 0, .int .i64 0, .int .i64 0] 25 60 25 60
  obtain ⟨W0, hW0⟩ : ∃ W0, ((((w.alloc (.cells #[.slice a1 n1 c1, .slice a2 n2 c2, .int .i64 fu, .bool of] 25)).alloc (.cells #[.int .i64 f, .int .i64 ln, .int .i64 p, .int .i64 sr] 60)).alloc (.cells #[.slice none 0 0, .slice none 0 0, .int .i64 0, .bool false] 25)).alloc (.cells #[.int .i64 0, .int .i64 0, .int .i64 0, .int .i64 0] 60)) = W0 := ⟨_, rfl⟩
  have hb0 : Below w.heap.size w W0 := by rw [← hW0]; exact ((((Below.refl _ _).alloc (Nat.le_refl _) _).alloc (by simp) _).alloc (by simp; omega) _).alloc (by simp; omega) _
  rw [hW0] at B0 B1 B2 B3
  have B2 : Blk W0 (w.heap.size + 1 + 1) [.slice none 0 0, .slice none 0 0, .int .i64 0, .bool false] 25 := B2
  have B3 : Blk W0 (w.heap.size + 1 + 1 + 1) [.int .i64 0, .int .i64 0, .int .i64 0, .int .i64 0] 60 := B3
  obtain ⟨p0, p1, p2, p3, p4, p5, p6, p7⟩ := B0.four
  obtain ⟨q0, q1, q2, q3, q4, q5, q6, q7⟩ := B1.four
  have HD0 := hide (HI.out.below hb0)
  have hsz : (bs s).size = s.length := bs_size s
  obtain ⟨sv, hsv⟩ : ∃ z, bs s = z := ⟨_, rfl⟩
  rw [hsv] at hsz ⊢
  rw [← hsz] at hno HC hs hbad
  obtain ⟨kk, hkk⟩ : ∃ kk : Nat, kOf sv.size = kk := ⟨_, rfl⟩
  have hk1 : 1 ≤ kk := by rw [← hkk]; exact kOf_pos _
  have hcs : sv.size ≤ 4000 → cellsOf (sv.size : Int) = (kk : Int) := fun h => by unfold cellsOf; rw [if_neg (by omega), Int.toNat_natCast, hkk]
  rw [hkk] at hno hbad
  have hk67 : sv.size ≤ 4000 → kk ≤ 67 := fun h => by rw [← hkk]; exact kOf_max h
  clear hsv hkk hsz
  rcases hno with ⟨hm, he⟩ | ⟨hm, h5, he⟩ | ⟨hm, h5, h6, he⟩ | ⟨hm, h5, h6, h7, he⟩ | hno
  · rw [he]
    have HE := hide he
    rw [hm] at HM
    obtain ⟨cn, hcn⟩ : ∃ z, cellsOf (sv.size : Int) = z := ⟨_, rfl⟩
    rw [hcn] at HC
    clear hcn
    clear he hm hbad htin hcs hk67
    go_enter Try.func41, Try.ntmps41
    go_wp2_with fail
    refine (HC.out _).mono ?_
    rintro e w2 ⟨rfl, rfl⟩
    go_wp2_with fail
    clear p0 p1 p2 p3 p4 p5 p6 p7 q0 q1 q2 q3 q4 q5 q6 q7
    refine (HM.out _ _ HD0.out).mono ?_
    rintro e w1 ⟨rfl, hb1⟩
    have C2 := B2.next hb1
    have C3 := B3.next hb1
    have hbx := chain hb0 hb1
    obtain ⟨p0, p1, p2, p3, p4, p5, p6, p7⟩ := C2.four
    obtain ⟨q0, q1, q2, q3, q4, q5, q6, q7⟩ := C3.four
    go_wp2_with fail
    refine bodyPost_ret (v := .tuple #[.agg #[.slice none 0 0, .slice none 0 0, .int .i64 0, .bool false], .agg #[.int .i64 0, .int .i64 0, .int .i64 0, .int .i64 0], .int .i64 1]) (by simp [results, Try.results41, go_sem, p0, p1, p2, p3, q0, q1, q2, q3]) rfl ⟨_, rfl, zero_drive _, ?_⟩
    exact below4 (below4 hbx (by omega) _ _ _ _) (by omega) _ _ _ _
  · rw [he]
    have HE := hide he
    rw [hm] at HM
    have HC : Hid (∀ w, Calls Try.prog 45 #[.int .i64 (sv.size : Int)] w fun e w' => e = .returned (.int .i64 0) ∧ w = w') := hide (fun w => by
          have := HC.out w
          rw [show cellsOf (sv.size : Int) = 0 from if_pos (.inr (by omega))] at this
          exact this)
    clear he hm hbad htin hcs hk67
    go_enter Try.func41, Try.ntmps41
    go_wp2_with fail
    refine (HC.out _).mono ?_
    rintro e w2 ⟨rfl, rfl⟩
    go_wp2_with fail
    clear p0 p1 p2 p3 p4 p5 p6 p7 q0 q1 q2 q3 q4 q5 q6 q7
    refine (HM.out _ _ HD0.out).mono ?_
    rintro e w1 ⟨rfl, hb1⟩
    have C2 := B2.next hb1
    have C3 := B3.next hb1
    have hbx := chain hb0 hb1
    obtain ⟨p0, p1, p2, p3, p4, p5, p6, p7⟩ := C2.four
    obtain ⟨q0, q1, q2, q3, q4, q5, q6, q7⟩ := C3.four
    go_wp2_with fail
    refine bodyPost_ret (v := .tuple #[.agg #[.slice none 0 0, .slice none 0 0, .int .i64 0, .bool false], .agg #[.int .i64 0, .int .i64 0, .int .i64 0, .int .i64 0], .int .i64 1]) (by simp [results, Try.results41, go_sem, p0, p1, p2, p3, q0, q1, q2, q3]) rfl ⟨_, rfl, zero_drive _, ?_⟩
    exact below4 (below4 hbx (by omega) _ _ _ _) (by omega) _ _ _ _
  · rw [he]
    have HE := hide he
    rw [hm] at HM
    have ht := htin hm
    obtain ⟨i1, i2, i3, i4, i5, i6, i7, i8, i9, i10⟩ := ht
    have hk := hk67 h5
    have hln : ln ≤ 6000 := by omega
    rw [hcs h5] at HC
    have hkz : ((kk : Int) == 0) = false := by rw [beq_eq_false_iff_ne]; omega
    have hgt : p + (kk : Int) > ln := by omega
    clear i1 i3 i5 i10
    clear he hm hbad htin hcs hk67
    go_enter Try.func41, Try.ntmps41
    go_wp2_with fail
    refine (HC.out _).mono ?_
    rintro e w2 ⟨rfl, rfl⟩
    go_wp2_with fail
    clear p0 p1 p2 p3 p4 p5 p6 p7 q0 q1 q2 q3 q4 q5 q6 q7
    refine (HM.out _ _ HD0.out).mono ?_
    rintro e w1 ⟨rfl, hb1⟩
    have C2 := B2.next hb1
    have C3 := B3.next hb1
    have hbx := chain hb0 hb1
    obtain ⟨p0, p1, p2, p3, p4, p5, p6, p7⟩ := C2.four
    obtain ⟨q0, q1, q2, q3, q4, q5, q6, q7⟩ := C3.four
    obtain ⟨r0, r1, r2, r3, r4, r5, r6, r7⟩ := (B1.next hb1).four
    go_wp2_with fail
    refine bodyPost_ret (v := .tuple #[.agg #[.slice none 0 0, .slice none 0 0, .int .i64 0, .bool false], .agg #[.int .i64 0, .int .i64 0, .int .i64 0, .int .i64 0], .int .i64 6]) (by simp [results, Try.results41, go_sem, p0, p1, p2, p3, q0, q1, q2, q3]) rfl ⟨_, rfl, zero_drive _, ?_⟩
    exact below4 (below4 hbx (by omega) _ _ _ _) (by omega) _ _ _ _
  · rw [he]
    have HE := hide he
    rw [hm] at HM
    have ht := htin hm
    obtain ⟨i1, i2, i3, i4, i5, i6, i7, i8, i9, i10⟩ := ht
    have hk := hk67 h5
    have hln : ln ≤ 6000 := by omega
    rw [hcs h5] at HC
    have hkz : ((kk : Int) == 0) = false := by rw [beq_eq_false_iff_ne]; omega
    have hgt : ¬ p + (kk : Int) > ln := by omega
    clear i1 i3 i5 i10
    clear he hm hbad htin hcs hk67
    go_enter Try.func41, Try.ntmps41
    go_wp2_with fail
    refine (HC.out _).mono ?_
    rintro e w2 ⟨rfl, rfl⟩
    go_wp2_with fail
    clear p0 p1 p2 p3 p4 p5 p6 p7 q0 q1 q2 q3 q4 q5 q6 q7
    refine (HM.out _ _ HD0.out).mono ?_
    rintro e w1 ⟨rfl, hb1⟩
    have C2 := B2.next hb1
    have C3 := B3.next hb1
    have hbx := chain hb0 hb1
    obtain ⟨p0, p1, p2, p3, p4, p5, p6, p7⟩ := C2.four
    obtain ⟨q0, q1, q2, q3, q4, q5, q6, q7⟩ := C3.four
    obtain ⟨r0, r1, r2, r3, r4, r5, r6, r7⟩ := (B1.next hb1).four
    go_wp2_with fail
    refine bodyPost_ret (v := .tuple #[.agg #[.slice none 0 0, .slice none 0 0, .int .i64 0, .bool false], .agg #[.int .i64 0, .int .i64 0, .int .i64 0, .int .i64 0], .int .i64 6]) (by simp [results, Try.results41, go_sem, p0, p1, p2, p3, q0, q1, q2, q3]) rfl ⟨_, rfl, zero_drive _, ?_⟩
    exact below4 (below4 hbx (by omega) _ _ _ _) (by omega) _ _ _ _
  · exact absurd hno hbad

theorem append_two (d : Drv) (t : Tp) (s : List UInt8) (h1 : tapeOk d t = true) (h2 : s.length ≤ 4000) (h3 : (kOf s.length : Int) ≤ t.len - t.pos) (h4 : t.serial ≤ 16777215) :
    d.append t s = (let r1 := if 1 < kOf s.length then (let a := d.write (t.from_ + t.pos + 1) ((lay s t.serial.toNat).drop 64); if a.2 = 0 then a.1.flush else a) else (d, 0)
      let r2 := if r1.2 = 0 then r1.1.write (t.from_ + t.pos) ((lay s t.serial.toNat).take 64) else r1
      let r3 := if r2.2 = 0 then r2.1.flush else r2
      if r3.2 = 0 then (r3.1, ⟨t.from_, t.len, t.pos + kOf s.length, t.serial + 1⟩, 0) else (r3.1, Tp.zero, r3.2)) := by
  unfold Drv.append
  rw [if_neg (by rw [h1]; simp; omega), if_neg (by omega)]
  have e : (if 1 < kOf s.length then (let a := d.write (t.from_ + t.pos + 1) ((lay s t.serial.toNat).drop 64); if a.2 = 0 then a.1.flush else a) else (d, 0)) = (if 1 < kOf s.length then d.put (t.from_ + t.pos + 1) ((lay s t.serial.toNat).drop 64) else (d, 0)) := rfl
  simp only
  simp only at e
  rw [e]
  generalize (if 1 < kOf s.length then d.put (t.from_ + t.pos + 1) ((lay s t.serial.toNat).drop 64) else (d, 0)) = r1
  unfold Drv.put
  by_cases h : r1.2 = 0
  · simp only [h, if_true]
  · simp only [h, if_false]

set_option maxRecDepth 100000 in
set_option maxHeartbeats 12800000 in
theorem refappend_good (v : Value) (d : Drv) (t : Tp) (s : List UInt8) (w : World) (h : IsDrive w v d) (ht : t.In) (hq : d.queue.length ≤ 1000) (hm : tapeOk d t = true) (hs : s.length ≤ 4000) (hr : (kOf s.length : Int) ≤ t.len - t.pos) (hsr : t.serial ≤ 16777215) :
    Calls Try.prog 41 #[v, tpVal t, .string (bs s)] w fun e w' => ∃ v', e = .returned (.tuple #[v', tpVal (d.append t s).2.1, .int .i64 (d.append t s).2.2]) ∧ IsDrive w' v' (d.append t s).1 ∧ Below w.heap.size w w' := by
  have HM := hide (fun (v : Value) (w : World) (h : IsDrive w v d) => refmay18_any v d t w h ht)
  rw [hm] at HM
  obtain ⟨i1, i2, i3, i4, i5, i6, i7, i8, i9, i10⟩ := tapeOk_in hm
  have HC := hide (fun w => refcells18_any (s.length : Int) w (by omega))
  rw [show cellsOf (s.length : Int) = (kOf s.length : Int) from by unfold cellsOf; rw [if_neg (by omega), Int.toNat_natCast]] at HC
  have hll := lay_length s t.serial.toNat
  have hk67 := kOf_max hs
  have hk1 := kOf_pos s.length
  have HLY := hide (fun w => reflay_any s t.serial.toNat w hs (by omega))
  rw [Int.toNat_of_nonneg (by omega)] at HLY
  have hap := append_two d t s hm hs hr hsr
  obtain ⟨ly, hly⟩ : ∃ z, lay s t.serial.toNat = z := ⟨_, rfl⟩
  rw [hly] at HLY hll hap
  have hcz : (bs ly).size = ly.length := bs_size ly
  have hx1 := bs_drop ly 64
  have hx2 := bs_take ly 64
  obtain ⟨x1, hxx1⟩ : ∃ z, bs (ly.drop 64) = z := ⟨_, rfl⟩
  obtain ⟨x2, hxx2⟩ : ∃ z, bs (ly.take 64) = z := ⟨_, rfl⟩
  obtain ⟨f, ln, p, sr⟩ := t
  obtain ⟨h1, h2, h3, h4⟩ := ht
  simp only at h1 h2 h3 h4 hr hsr i2 i3 i4 i5 i6 i7 i8 i9 HLY hap
  have HW1 := hide (fun (v : Value) (w : World) (h : IsDrive w v d) => refwrite_any v d (f + p + 1) (ly.drop 64) w h (by omega) (by omega) (by rw [List.length_drop]; omega))
  have hqw := write_queue d (f + p + 1) (ly.drop 64)
  rw [List.length_drop] at hqw
  obtain ⟨⟨Dw, Ew⟩, hDw⟩ : ∃ r, d.write (f + p + 1) (ly.drop 64) = r := ⟨_, rfl⟩
  rw [hDw] at HW1 hqw hap
  simp only at hap hqw
  have HF1 := hide (fun (v : Value) (w : World) (h : IsDrive w v Dw) => refflush_any v Dw w h)
  have hqf := flush_queue Dw
  obtain ⟨⟨Df, Ef⟩, hDf⟩ : ∃ r, Dw.flush = r := ⟨_, rfl⟩
  rw [hDf] at HF1 hqf hap
  simp only at hqf
  obtain ⟨⟨X1, E1⟩, hD1⟩ : ∃ r, (if 1 < kOf s.length then (if Ew = 0 then (Df, Ef) else (Dw, Ew)) else (d, 0)) = r := ⟨_, rfl⟩
  rw [hD1] at hap
  simp only at hap
  have hq1 : X1.queue.length ≤ 2000 := by
    have : X1 = (if 1 < kOf s.length then (if Ew = 0 then (Df, Ef) else (Dw, Ew)) else (d, 0)).1 := by rw [hD1]
    rw [this]
    split
    · split
      · simp only; omega
      · simp only; omega
    · simp only; omega
  have HW2 := hide (fun (v : Value) (w : World) (h : IsDrive w v X1) => refwrite_any v X1 (f + p) (ly.take 64) w h (by omega) (by omega) (by rw [List.length_take]; omega))
  obtain ⟨⟨X2, E2⟩, hD2⟩ : ∃ r, (if E1 = 0 then X1.write (f + p) (ly.take 64) else (X1, E1)) = r := ⟨_, rfl⟩
  rw [hD2] at hap
  simp only at hap
  have HF2 := hide (fun (v : Value) (w : World) (h : IsDrive w v X2) => refflush_any v X2 w h)
  obtain ⟨⟨X3, E3⟩, hD3⟩ : ∃ r, (if E2 = 0 then X2.flush else (X2, E2)) = r := ⟨_, rfl⟩
  rw [hD3] at hap
  simp only at hap
  have HAP := hide hap
  have HD1E := hide hD1
  have HD2E := hide hD2
  have HD3E := hide hD3
  obtain ⟨cv, hcv⟩ : ∃ z, bs ly = z := ⟨_, rfl⟩
  rw [hxx1] at HW1 hx1
  rw [hxx2] at HW2 hx2
  rw [hcv] at HLY hcz hx1 hx2
  have hx2' := hx2.symm
  have hcz1 : 64 ≤ cv.size := by omega
  have hcz1i : (64 : Int) ≤ (cv.size : Int) := by omega
  have hcz2 : cv.size ≤ 4288 := by omega
  clear hx2 hap hD1 hD2 hD3 hDw hDf hqw hqf hq1
  have HI := hide h
  obtain ⟨a1, n1, c1, a2, n2, c2, fu, of, rfl, _⟩ := h
  unfold drvVal at HI ⊢
  unfold tpVal at HM ⊢
  simp only at HM ⊢
  obtain ⟨B0, B1, B2, B3⟩ := four_boxes w [.slice a1 n1 c1, .slice a2 n2 c2, .int .i64 fu, .bool of] [.int .i64 f, .int .i64 ln, .int .i64 p, .int .i64 sr] [.slice none 0 0, .slice none 0 0, .int .i64 0, .bool false] [.int .i64 0, .int .i64 0, .int .i64 0, .int .i64 0] 25 60 25 60
  obtain ⟨W0, hW0⟩ : ∃ W0, ((((w.alloc (.cells #[.slice a1 n1 c1, .slice a2 n2 c2, .int .i64 fu, .bool of] 25)).alloc (.cells #[.int .i64 f, .int .i64 ln, .int .i64 p, .int .i64 sr] 60)).alloc (.cells #[.slice none 0 0, .slice none 0 0, .int .i64 0, .bool false] 25)).alloc (.cells #[.int .i64 0, .int .i64 0, .int .i64 0, .int .i64 0] 60)) = W0 := ⟨_, rfl⟩
  have hb0 : Below w.heap.size w W0 := by rw [← hW0]; exact ((((Below.refl _ _).alloc (Nat.le_refl _) _).alloc (by simp) _).alloc (by simp; omega) _).alloc (by simp; omega) _
  rw [hW0] at B0 B1 B2 B3
  have B2 : Blk W0 (w.heap.size + 1 + 1) [.slice none 0 0, .slice none 0 0, .int .i64 0, .bool false] 25 := B2
  have B3 : Blk W0 (w.heap.size + 1 + 1 + 1) [.int .i64 0, .int .i64 0, .int .i64 0, .int .i64 0] 60 := B3
  have HD0 := hide (HI.out.below hb0)
  have hsz : (bs s).size = s.length := bs_size s
  obtain ⟨sv, hsv⟩ : ∃ z, bs s = z := ⟨_, rfl⟩
  rw [hsv] at hsz HLY ⊢
  rw [← hsz] at HC
  obtain ⟨kk, hkk⟩ : ∃ kk : Nat, kOf s.length = kk := ⟨_, rfl⟩
  rw [hsz, hkk] at HC
  rw [← hsz] at HC
  rw [hkk] at hk67 hk1 hr hll
  have HKK := hide hkk
  obtain ⟨p0, p1, p2, p3, p4, p5, p6, p7⟩ := B0.four
  obtain ⟨q0, q1, q2, q3, q4, q5, q6, q7⟩ := B1.four
  have hfp : f + p ≤ 12000 := by omega
  have hf6 : f ≤ 6000 := by omega
  have hl6 : ln ≤ 6000 := by omega
  have hp6 : p ≤ 6000 := by omega
  have hgt : ¬ p + (kk : Int) > ln := by omega
  have hkz : ((kk : Int) == 0) = false := by rw [beq_eq_false_iff_ne]; omega
  clear hly hxx1 hxx2 hcv hcz hll hsv hkk hsz hs hm i1 h1 h2 h3 h4 hq i10 i3 i5
  go_enter Try.func41, Try.ntmps41
  go_wp2_with fail
  refine (HC.out _).mono ?_
  rintro e w2 ⟨rfl, rfl⟩
  go_wp2_with fail
  refine (HM.out _ _ HD0.out).mono ?_
  rintro e w1 ⟨rfl, hb1⟩
  have C0 := B0.next hb1
  have C1 := B1.next hb1
  have C2 := B2.next hb1
  have C3 := B3.next hb1
  have HD1 := hide (HD0.out.below hb1)
  have hbx := chain hb0 hb1
  clear p0 p1 p2 p3 p4 p5 p6 p7 q0 q1 q2 q3 q4 q5 q6 q7 hb1 hb0 B0 B1 B2 B3 HD0 hW0
  obtain ⟨q0, q1, q2, q3, q4, q5, q6, q7⟩ := C1.four
  go_wp2_with fail
  refine (HLY.out _).mono ?_
  rintro e w3 ⟨rfl, hb3⟩
  have D0 := C0.next hb3
  have D1 := C1.next hb3
  have D2 := C2.next hb3
  have D3 := C3.next hb3
  have HD3 := hide (HD1.out.below hb3)
  have hby := chain hbx hb3
  clear q0 q1 q2 q3 q4 q5 q6 q7 hb3 hbx C0 C1 C2 C3 HD1
  obtain ⟨q0, q1, q2, q3, q4, q5, q6, q7⟩ := D1.four
  go_upto_if 50 with fail
  obtain ⟨b1, hb1'⟩ : ∃ b, w.heap.size + 1 = b := ⟨_, rfl⟩
  rw [hb1'] at D1 D2 D3 q0 q1 q2 q3 q4 q5 q6 q7 ⊢
  obtain ⟨b2, hb2'⟩ : ∃ b, b1 + 1 = b := ⟨_, rfl⟩
  rw [hb2'] at D2 D3 ⊢
  obtain ⟨b3, hb3'⟩ : ∃ b, b2 + 1 = b := ⟨_, rfl⟩
  rw [hb3'] at D3 ⊢
  have ho1 : w.heap.size < b1 := by omega
  have ho2 : b1 < b2 := by omega
  have ho3 : b2 < b3 := by omega
  have hlw : b3 < w3.heap.size := D3.lt
  have hsk : Hid (1 < kOf s.length ↔ 1 < kk) := hide (by rw [HKK.out])
  have hw1 : IntKind.i64.wrap (f + p + 1) = f + p + 1 := IntWalk.i64_in _ (by omega)
  clear hb1' hb2' hb3' q0 q1 q2 q3 q4 q5 q6 q7
  go_cut [12] (fun s12 wx => ∃ (u1 : Option Addr) (r1 t1 : Nat) (u2 : Option Addr) (r2 t2 : Nat) (fy : Int) (oy : Bool), s12 = .int .i64 E1 ∧ Blk wx w.heap.size [.slice u1 r1 t1, .slice u2 r2 t2, .int .i64 fy, .bool oy] 25 ∧ IsDrive wx (.agg #[.slice u1 r1 t1, .slice u2 r2 t2, .int .i64 fy, .bool oy]) X1 ∧ Blk wx b1 [.int .i64 f, .int .i64 ln, .int .i64 p, .int .i64 sr] 60 ∧ Blk wx b2 [.slice none 0 0, .slice none 0 0, .int .i64 0, .bool false] 25 ∧ Blk wx b3 [.int .i64 0, .int .i64 0, .int .i64 0, .int .i64 0] 60 ∧ Below w.heap.size w wx)
  case first =>
    by_cases hk2 : 1 < kk
    · have hD1 := HD1E.out
      rw [if_pos (hsk.out.2 hk2)] at hD1
      have HD1F := hide hD1
      clear hD1 HD1E
      have hk2i : (1 : Int) < (kk : Int) := by omega
      obtain ⟨p0, p1, p2, p3, p4, p5, p6, p7⟩ := D0.four
      go_wp2_with fail
      refine wp_region_noPanic ?_
      refine wp_region_held_drew (S := (fun _ => True)) (by kernel_rfl) ?_ (fun hHeld => ?_)
      · trivial
      refine wpAnyH_take (i := 1) (v := ?_) rfl (by kernel_rfl) (by kernel_rfl) (by kernel_rfl) (fun _ _ _ h => h) (Or.inl ⟨by rfl, ?_⟩) (by assumption) ?_
      rotate_left 1
      · intro w hSw
        try dsimp only at hSw
        first | (go_simp; done) | (go_simp; with_reducible rfl)
      try simp only [Act.put, List.setIfInBounds_toArray]
      refine wpAnyH_take (i := 2) (v := ?_) rfl (by kernel_rfl) (by kernel_rfl) (by kernel_rfl) (fun _ _ _ h => h) (Or.inl ⟨by rfl, ?_⟩) (by assumption) ?_
      rotate_left 1
      · intro w hSw
        try dsimp only at hSw
        first | (go_simp; done) | (go_simp; with_reducible rfl)
      try simp only [Act.put]
      refine wpAnyH_take (i := 3) (v := ?_) rfl (by kernel_rfl) (by kernel_rfl) (by kernel_rfl) (fun _ _ _ h => h) (Or.inl ⟨by rfl, ?_⟩) (by assumption) ?_
      rotate_left 1
      · intro w hSw
        try dsimp only at hSw
        first | (go_simp; done) | (go_simp; with_reducible rfl)
      try simp only [Act.put]
      refine wpAnyH_take (i := 4) (v := ?_) rfl (by kernel_rfl) (by kernel_rfl) (by kernel_rfl) (fun _ _ _ h => h) (Or.inl ⟨by rfl, ?_⟩) (by assumption) ?_
      rotate_left 1
      · intro w hSw
        try dsimp only at hSw
        first | (go_simp; done) | (go_simp; with_reducible rfl)
      try simp only [Act.put]
      refine wpAnyH_ready (rs := [0]) (by kernel_rfl) (by simp) ?_
      refine AllReadyH.cons rfl (fun K hK => ?_) ?_
      rotate_left 1
      · exact AllReadyH.nil
      go_simp
      refine hK.out _ _ ?_ (fun hHeld2 => ?_)
      · trivial
      clear hK K
      try simp only [Act.put, List.setIfInBounds_toArray, List.set_cons_zero, List.set_cons_succ]
      clear hHeld
      have hHeld := hHeld2
      clear hHeld2
      refine wpAnyH_ready (rs := [5]) (by kernel_rfl) (by simp) ?_
      refine AllReadyH.cons rfl (fun K hK => ?_) ?_
      rotate_left 1
      · exact AllReadyH.nil
      go_simp
      go_at_call 30
      refine (HW1.out _ _ (HD3.out.below (Below.drewed (Below.refl _ _)))).mono ?_
      rintro e w4 ⟨v4, rfl, hd4, hb4⟩
      have HXE := hide hd4
      obtain ⟨u1, r1, t1, u2, r2, t2, fy, oy, rfl, _⟩ := hd4
      unfold drvVal at HXE ⊢
      have hb4' := undrew1 hb4
      have E0 := D0.next hb4'
      have E1 := D1.next hb4'
      have E2 := D2.next hb4'
      have E3 := D3.next hb4'
      have hbE := chain hby hb4'
      clear hb4 hb4' p0 p1 p2 p3 p4 p5 p6 p7
      obtain ⟨p0, p1, p2, p3, p4, p5, p6, p7⟩ := E0.four
      have hlE := E3.lt
      refine hK.out _ _ ?_ (fun hHeld2 => ?_)
      · trivial
      clear hK K
      try simp only [Act.put, List.setIfInBounds_toArray, List.set_cons_zero, List.set_cons_succ]
      clear hHeld
      have hHeld := hHeld2
      clear hHeld2
      refine wpAnyH_take (i := 6) (v := ?_) rfl (by kernel_rfl) (by kernel_rfl) (by kernel_rfl) (fun _ _ _ h => h) (Or.inl ⟨by rfl, ?_⟩) (by assumption) ?_
      rotate_left 1
      · intro w hSw
        try dsimp only at hSw
        first | (go_simp; done) | (go_simp; with_reducible rfl)
      try simp only [Act.put, List.setIfInBounds_toArray]
      refine wpAnyH_take (i := 7) (v := ?_) rfl (by kernel_rfl) (by kernel_rfl) (by kernel_rfl) (fun _ _ _ h => h) (Or.inl ⟨by rfl, ?_⟩) (by assumption) ?_
      rotate_left 1
      · intro w hSw
        try dsimp only at hSw
        first | (go_simp; done) | (go_simp; with_reducible rfl)
      try simp only [Act.put]
      refine wpAnyH_take (i := 8) (v := ?_) rfl (by kernel_rfl) (by kernel_rfl) (by kernel_rfl) (fun _ _ _ h => h) (Or.inl ⟨by rfl, ?_⟩) (by assumption) ?_
      rotate_left 1
      · intro w hSw
        try dsimp only at hSw
        first | (go_simp; done) | (go_simp; with_reducible rfl)
      try simp only [Act.put]
      refine wpAnyH_ready (rs := [9]) (by kernel_rfl) (by simp) ?_
      refine AllReadyH.cons rfl (fun K hK => ?_) ?_
      rotate_left 1
      · exact AllReadyH.nil
      go_simp
      refine hK.out _ _ ?_ (fun hHeld2 => ?_)
      · trivial
      clear hK K
      try simp only [Act.put, List.setIfInBounds_toArray, List.set_cons_zero, List.set_cons_succ]
      clear hHeld
      have hHeld := hHeld2
      clear hHeld2
      refine wpAnyH_ready (rs := [10]) (by kernel_rfl) (by simp) ?_
      refine AllReadyH.cons rfl (fun K hK => ?_) ?_
      rotate_left 1
      · exact AllReadyH.nil
      go_simp
      refine hK.out _ _ ?_ (fun hHeld2 => ?_)
      · trivial
      clear hK K
      try simp only [Act.put, List.setIfInBounds_toArray, List.set_cons_zero, List.set_cons_succ]
      clear hHeld
      have hHeld := hHeld2
      clear hHeld2
      refine wpAnyH_done (by kernel_rfl) ?_ _
      refine NoPanic.normal ?_
      obtain ⟨WF, hWF⟩ : ∃ z, ((((w4.setCell ⟨w.heap.size, 0, none⟩ (.slice u1 r1 t1)).setCell ⟨w.heap.size, 1, none⟩ (.slice u2 r2 t2)).setCell ⟨w.heap.size, 2, none⟩ (.int .i64 fy)).setCell ⟨w.heap.size, 3, none⟩ (.bool oy)) = z := ⟨_, rfl⟩
      have F0 : Blk WF w.heap.size [.slice u1 r1 t1, .slice u2 r2 t2, .int .i64 fy, .bool oy] 25 := by rw [← hWF]; exact (E0.set4 _ _ _ _)
      have F1 : Blk WF b1 [.int .i64 f, .int .i64 ln, .int .i64 p, .int .i64 sr] 60 := by rw [← hWF]; exact (E1.other4 (Nat.ne_of_gt (by omega)) _ _ _ _)
      have F2 : Blk WF b2 [.slice none 0 0, .slice none 0 0, .int .i64 0, .bool false] 25 := by rw [← hWF]; exact (E2.other4 (Nat.ne_of_gt (by omega)) _ _ _ _)
      have F3 : Blk WF b3 [.int .i64 0, .int .i64 0, .int .i64 0, .int .i64 0] 60 := by rw [← hWF]; exact (E3.other4 (Nat.ne_of_gt (by omega)) _ _ _ _)
      have HXF : Hid (IsDrive WF (.agg #[.slice u1 r1 t1, .slice u2 r2 t2, .int .i64 fy, .bool oy]) _) := hide (by rw [← hWF]; exact HXE.out.set4 (blk_holds E0) _ _ _ _)
      have hbF : Below w.heap.size w WF := by rw [← hWF]; exact below4 hbE (Nat.le_refl _) _ _ _ _
      rw [hWF]
      clear hWF E0 E1 E2 E3 D0 D1 D2 D3 HD3 HXE hby hbE p0 p1 p2 p3 p4 p5 p6 p7 hHeld
      obtain ⟨p0, p1, p2, p3, p4, p5, p6, p7⟩ := F0.four
      have hlF := F3.lt
      by_cases hE : Ew = 0
      · have hD1 := HD1F.out
        rw [if_pos hE] at hD1
        injection hD1 with e1 e2
        subst e1 e2 hE
        clear HD1F
        go_wp2_with fail
        refine (HF1.out _ _ HXF).mono ?_
        rintro e w5 ⟨v4, rfl, hd4, hb4⟩
        have HXG := hide hd4
        obtain ⟨u1, r1, t1, u2, r2, t2, fy, oy, rfl, _⟩ := hd4
        unfold drvVal at HXG ⊢
        have hb4' := hb4
        have G0 := F0.next hb4'
        have G1 := F1.next hb4'
        have G2 := F2.next hb4'
        have G3 := F3.next hb4'
        have hbG := chain hbF hb4'
        clear hb4 hb4' p0 p1 p2 p3 p4 p5 p6 p7
        obtain ⟨p0, p1, p2, p3, p4, p5, p6, p7⟩ := G0.four
        have hlG := G3.lt
        go_wp2_with fail
        obtain ⟨WH, hWH⟩ : ∃ z, ((((w5.setCell ⟨w.heap.size, 0, none⟩ (.slice u1 r1 t1)).setCell ⟨w.heap.size, 1, none⟩ (.slice u2 r2 t2)).setCell ⟨w.heap.size, 2, none⟩ (.int .i64 fy)).setCell ⟨w.heap.size, 3, none⟩ (.bool oy)) = z := ⟨_, rfl⟩
        have H0 : Blk WH w.heap.size [.slice u1 r1 t1, .slice u2 r2 t2, .int .i64 fy, .bool oy] 25 := by rw [← hWH]; exact (G0.set4 _ _ _ _)
        have H1 : Blk WH b1 [.int .i64 f, .int .i64 ln, .int .i64 p, .int .i64 sr] 60 := by rw [← hWH]; exact (G1.other4 (Nat.ne_of_gt (by omega)) _ _ _ _)
        have H2 : Blk WH b2 [.slice none 0 0, .slice none 0 0, .int .i64 0, .bool false] 25 := by rw [← hWH]; exact (G2.other4 (Nat.ne_of_gt (by omega)) _ _ _ _)
        have H3 : Blk WH b3 [.int .i64 0, .int .i64 0, .int .i64 0, .int .i64 0] 60 := by rw [← hWH]; exact (G3.other4 (Nat.ne_of_gt (by omega)) _ _ _ _)
        have HXH : Hid (IsDrive WH (.agg #[.slice u1 r1 t1, .slice u2 r2 t2, .int .i64 fy, .bool oy]) _) := hide (by rw [← hWH]; exact HXG.out.set4 (blk_holds G0) _ _ _ _)
        have hbH : Below w.heap.size w WH := by rw [← hWH]; exact below4 hbG (Nat.le_refl _) _ _ _ _
        rw [hWH]
        clear hWH
        go_meet
        exact ⟨u1, r1, t1, u2, r2, t2, fy, oy, rfl, H0, HXH.out, H1, H2, H3, hbH⟩
      · have hD1 := HD1F.out
        rw [if_neg hE] at hD1
        injection hD1 with e1 e2
        subst e1 e2
        have hEd : decide (Ew = 0) = false := decide_eq_false hE
        have hEb : (Ew == 0) = false := by rw [beq_eq_false_iff_ne]; exact hE
        clear HD1F hE
        go_wp2_with fail
        go_meet
        exact ⟨u1, r1, t1, u2, r2, t2, fy, oy, rfl, F0, HXF.out, F1, F2, F3, hbF⟩
    · have hD1 := HD1E.out
      rw [if_neg (fun h => hk2 (hsk.out.1 h))] at hD1
      injection hD1 with e1 e2
      subst e1 e2
      have hk2i : ¬ (1 : Int) < (kk : Int) := by omega
      clear HD1E
      go_wp2_with fail
      go_meet
      exact ⟨_, _, _, _, _, _, _, _, rfl, D0, HD3.out, D1, D2, D3, hby⟩
  case rest =>
    obtain ⟨wx, rfl⟩ : ∃ wx, wx = wc := ⟨_, rfl⟩
    clear D0 D1 D2 D3 HD3 hby hlw hsk HD1E HW1 HF1
    obtain ⟨u1, r1, t1, u2, r2, t2, fy, oy, rfl, D0, hd, D1, D2, D3, hby⟩ := hcut
    have HD3 := hide hd
    have hlw : b3 < wx.heap.size := D3.lt
    clear hd
    go_upto_if 68 with fail
    go_cut [12] (fun s12 wx => ∃ (u1 : Option Addr) (r1 t1 : Nat) (u2 : Option Addr) (r2 t2 : Nat) (fy : Int) (oy : Bool), s12 = .int .i64 E2 ∧ Blk wx w.heap.size [.slice u1 r1 t1, .slice u2 r2 t2, .int .i64 fy, .bool oy] 25 ∧ IsDrive wx (.agg #[.slice u1 r1 t1, .slice u2 r2 t2, .int .i64 fy, .bool oy]) X2 ∧ Blk wx b1 [.int .i64 f, .int .i64 ln, .int .i64 p, .int .i64 sr] 60 ∧ Blk wx b2 [.slice none 0 0, .slice none 0 0, .int .i64 0, .bool false] 25 ∧ Blk wx b3 [.int .i64 0, .int .i64 0, .int .i64 0, .int .i64 0] 60 ∧ Below w.heap.size w wx)
    case first =>
      by_cases hE : E1 = 0
      · have hD1 := HD2E.out
        rw [if_pos hE] at hD1
        have HD1F := hide hD1
        subst hE
        clear hD1 HD2E
        obtain ⟨⟨Y2, Z2⟩, hY2⟩ : ∃ r, X1.write (f + p) (ly.take 64) = r := ⟨_, rfl⟩
        rw [hY2] at HW2
        have hD1 := HD1F.out
        rw [hY2] at hD1
        injection hD1 with e1 e2
        subst e1 e2
        clear hY2 HD1F
        obtain ⟨p0, p1, p2, p3, p4, p5, p6, p7⟩ := D0.four
        go_wp2_with fail
        refine wp_region_noPanic ?_
        refine wp_region_held_drew (S := (fun _ => True)) (by kernel_rfl) ?_ (fun hHeld => ?_)
        · trivial
        refine wpAnyH_take (i := 1) (v := ?_) rfl (by kernel_rfl) (by kernel_rfl) (by kernel_rfl) (fun _ _ _ h => h) (Or.inl ⟨by rfl, ?_⟩) (by assumption) ?_
        rotate_left 1
        · intro w hSw
          try dsimp only at hSw
          first | (go_simp; done) | (go_simp; with_reducible rfl)
        try simp only [Act.put, List.setIfInBounds_toArray]
        refine wpAnyH_take (i := 2) (v := ?_) rfl (by kernel_rfl) (by kernel_rfl) (by kernel_rfl) (fun _ _ _ h => h) (Or.inl ⟨by rfl, ?_⟩) (by assumption) ?_
        rotate_left 1
        · intro w hSw
          try dsimp only at hSw
          first | (go_simp; done) | (go_simp; with_reducible rfl)
        try simp only [Act.put]
        refine wpAnyH_take (i := 3) (v := ?_) rfl (by kernel_rfl) (by kernel_rfl) (by kernel_rfl) (fun _ _ _ h => h) (Or.inl ⟨by rfl, ?_⟩) (by assumption) ?_
        rotate_left 1
        · intro w hSw
          try dsimp only at hSw
          first | (go_simp; done) | (go_simp; with_reducible rfl)
        try simp only [Act.put]
        refine wpAnyH_ready (rs := [0]) (by kernel_rfl) (by simp) ?_
        refine AllReadyH.cons rfl (fun K hK => ?_) ?_
        rotate_left 1
        · exact AllReadyH.nil
        go_simp
        refine hK.out _ _ ?_ (fun hHeld2 => ?_)
        · trivial
        clear hK K
        try simp only [Act.put, List.setIfInBounds_toArray, List.set_cons_zero, List.set_cons_succ]
        clear hHeld
        have hHeld := hHeld2
        clear hHeld2
        refine wpAnyH_ready (rs := [4]) (by kernel_rfl) (by simp) ?_
        refine AllReadyH.cons rfl (fun K hK => ?_) ?_
        rotate_left 1
        · exact AllReadyH.nil
        go_simp
        go_at_call 30
        refine (HW2.out _ _ (HD3.out.below (Below.drewed (Below.refl _ _)))).mono ?_
        rintro e w4 ⟨v4, rfl, hd4, hb4⟩
        have HXE := hide hd4
        obtain ⟨v1, m1, s1, v2, m2, s2, fz, oz, rfl, _⟩ := hd4
        unfold drvVal at HXE ⊢
        have hb4' := undrew1 hb4
        have E0 := D0.next hb4'
        have E1 := D1.next hb4'
        have E2 := D2.next hb4'
        have E3 := D3.next hb4'
        have hbE := chain hby hb4'
        clear hb4 hb4' p0 p1 p2 p3 p4 p5 p6 p7
        obtain ⟨p0, p1, p2, p3, p4, p5, p6, p7⟩ := E0.four
        have hlE := E3.lt
        refine hK.out _ _ ?_ (fun hHeld2 => ?_)
        · trivial
        clear hK K
        try simp only [Act.put, List.setIfInBounds_toArray, List.set_cons_zero, List.set_cons_succ]
        clear hHeld
        have hHeld := hHeld2
        clear hHeld2
        refine wpAnyH_take (i := 5) (v := ?_) rfl (by kernel_rfl) (by kernel_rfl) (by kernel_rfl) (fun _ _ _ h => h) (Or.inl ⟨by rfl, ?_⟩) (by assumption) ?_
        rotate_left 1
        · intro w hSw
          try dsimp only at hSw
          first | (go_simp; done) | (go_simp; with_reducible rfl)
        try simp only [Act.put, List.setIfInBounds_toArray]
        refine wpAnyH_take (i := 6) (v := ?_) rfl (by kernel_rfl) (by kernel_rfl) (by kernel_rfl) (fun _ _ _ h => h) (Or.inl ⟨by rfl, ?_⟩) (by assumption) ?_
        rotate_left 1
        · intro w hSw
          try dsimp only at hSw
          first | (go_simp; done) | (go_simp; with_reducible rfl)
        try simp only [Act.put]
        refine wpAnyH_take (i := 7) (v := ?_) rfl (by kernel_rfl) (by kernel_rfl) (by kernel_rfl) (fun _ _ _ h => h) (Or.inl ⟨by rfl, ?_⟩) (by assumption) ?_
        rotate_left 1
        · intro w hSw
          try dsimp only at hSw
          first | (go_simp; done) | (go_simp; with_reducible rfl)
        try simp only [Act.put]
        refine wpAnyH_ready (rs := [8]) (by kernel_rfl) (by simp) ?_
        refine AllReadyH.cons rfl (fun K hK => ?_) ?_
        rotate_left 1
        · exact AllReadyH.nil
        go_simp
        refine hK.out _ _ ?_ (fun hHeld2 => ?_)
        · trivial
        clear hK K
        try simp only [Act.put, List.setIfInBounds_toArray, List.set_cons_zero, List.set_cons_succ]
        clear hHeld
        have hHeld := hHeld2
        clear hHeld2
        refine wpAnyH_ready (rs := [9]) (by kernel_rfl) (by simp) ?_
        refine AllReadyH.cons rfl (fun K hK => ?_) ?_
        rotate_left 1
        · exact AllReadyH.nil
        go_simp
        refine hK.out _ _ ?_ (fun hHeld2 => ?_)
        · trivial
        clear hK K
        try simp only [Act.put, List.setIfInBounds_toArray, List.set_cons_zero, List.set_cons_succ]
        clear hHeld
        have hHeld := hHeld2
        clear hHeld2
        refine wpAnyH_done (by kernel_rfl) ?_ _
        refine NoPanic.normal ?_
        obtain ⟨WF, hWF⟩ : ∃ z, ((((w4.setCell ⟨w.heap.size, 0, none⟩ (.slice v1 m1 s1)).setCell ⟨w.heap.size, 1, none⟩ (.slice v2 m2 s2)).setCell ⟨w.heap.size, 2, none⟩ (.int .i64 fz)).setCell ⟨w.heap.size, 3, none⟩ (.bool oz)) = z := ⟨_, rfl⟩
        have F0 : Blk WF w.heap.size [.slice v1 m1 s1, .slice v2 m2 s2, .int .i64 fz, .bool oz] 25 := by rw [← hWF]; exact (E0.set4 _ _ _ _)
        have F1 : Blk WF b1 [.int .i64 f, .int .i64 ln, .int .i64 p, .int .i64 sr] 60 := by rw [← hWF]; exact (E1.other4 (Nat.ne_of_gt (by omega)) _ _ _ _)
        have F2 : Blk WF b2 [.slice none 0 0, .slice none 0 0, .int .i64 0, .bool false] 25 := by rw [← hWF]; exact (E2.other4 (Nat.ne_of_gt (by omega)) _ _ _ _)
        have F3 : Blk WF b3 [.int .i64 0, .int .i64 0, .int .i64 0, .int .i64 0] 60 := by rw [← hWF]; exact (E3.other4 (Nat.ne_of_gt (by omega)) _ _ _ _)
        have HXF : Hid (IsDrive WF (.agg #[.slice v1 m1 s1, .slice v2 m2 s2, .int .i64 fz, .bool oz]) _) := hide (by rw [← hWF]; exact HXE.out.set4 (blk_holds E0) _ _ _ _)
        have hbF : Below w.heap.size w WF := by rw [← hWF]; exact below4 hbE (Nat.le_refl _) _ _ _ _
        rw [hWF]
        clear hWF
        try simp only [Act.put, List.setIfInBounds_toArray, List.set_cons_zero, List.set_cons_succ]
        try dsimp only
        go_wp2_with fail
        go_meet
        exact ⟨v1, m1, s1, v2, m2, s2, fz, oz, rfl, F0, HXF.out, F1, F2, F3, hbF⟩
      · have hD1 := HD2E.out
        rw [if_neg hE] at hD1
        injection hD1 with e1 e2
        subst e1 e2
        have hEd : decide (E1 = 0) = false := decide_eq_false hE
        have hEb : (E1 == 0) = false := by rw [beq_eq_false_iff_ne]; exact hE
        clear HD2E hE
        go_wp2_with fail
        go_meet
        exact ⟨u1, r1, t1, u2, r2, t2, fy, oy, rfl, D0, HD3.out, D1, D2, D3, hby⟩
    case rest =>
      obtain ⟨wy, rfl⟩ : ∃ wx, wx = wc := ⟨_, rfl⟩
      clear D0 D1 D2 D3 HD3 hby hlw HD2E HW2
      clear u1 r1 t1 u2 r2 t2 fy oy
      obtain ⟨u1, r1, t1, u2, r2, t2, fy, oy, rfl, D0, hd, D1, D2, D3, hby⟩ := hcut
      have HD3 := hide hd
      have hlw : b3 < wy.heap.size := D3.lt
      clear hd
      go_upto_if 78 with fail
      go_cut [12] (fun s12 wx => ∃ (u1 : Option Addr) (r1 t1 : Nat) (u2 : Option Addr) (r2 t2 : Nat) (fy : Int) (oy : Bool), s12 = .int .i64 E3 ∧ Blk wx w.heap.size [.slice u1 r1 t1, .slice u2 r2 t2, .int .i64 fy, .bool oy] 25 ∧ IsDrive wx (.agg #[.slice u1 r1 t1, .slice u2 r2 t2, .int .i64 fy, .bool oy]) X3 ∧ Blk wx b1 [.int .i64 f, .int .i64 ln, .int .i64 p, .int .i64 sr] 60 ∧ Blk wx b2 [.slice none 0 0, .slice none 0 0, .int .i64 0, .bool false] 25 ∧ Blk wx b3 [.int .i64 0, .int .i64 0, .int .i64 0, .int .i64 0] 60 ∧ Below w.heap.size w wx)
      case first =>
        by_cases hE : E2 = 0
        · have hD1 := HD3E.out
          rw [if_pos hE] at hD1
          have HD1F := hide hD1
          subst hE
          clear hD1 HD3E
          obtain ⟨⟨Y2, Z2⟩, hY2⟩ : ∃ r, X2.flush = r := ⟨_, rfl⟩
          rw [hY2] at HF2
          have hD1 := HD1F.out
          rw [hY2] at hD1
          injection hD1 with e1 e2
          subst e1 e2
          clear hY2 HD1F
          obtain ⟨p0, p1, p2, p3, p4, p5, p6, p7⟩ := D0.four
          go_wp2_with fail
          refine (HF2.out _ _ HD3).mono ?_
          rintro e w4 ⟨v4, rfl, hd4, hb4⟩
          have HXE := hide hd4
          obtain ⟨v1, m1, s1, v2, m2, s2, fz, oz, rfl, _⟩ := hd4
          unfold drvVal at HXE ⊢
          have hb4' := hb4
          have E0 := D0.next hb4'
          have E1 := D1.next hb4'
          have E2 := D2.next hb4'
          have E3 := D3.next hb4'
          have hbE := chain hby hb4'
          clear hb4 hb4' p0 p1 p2 p3 p4 p5 p6 p7
          obtain ⟨p0, p1, p2, p3, p4, p5, p6, p7⟩ := E0.four
          have hlE := E3.lt
          go_wp2_with fail
          obtain ⟨WF, hWF⟩ : ∃ z, ((((w4.setCell ⟨w.heap.size, 0, none⟩ (.slice v1 m1 s1)).setCell ⟨w.heap.size, 1, none⟩ (.slice v2 m2 s2)).setCell ⟨w.heap.size, 2, none⟩ (.int .i64 fz)).setCell ⟨w.heap.size, 3, none⟩ (.bool oz)) = z := ⟨_, rfl⟩
          have F0 : Blk WF w.heap.size [.slice v1 m1 s1, .slice v2 m2 s2, .int .i64 fz, .bool oz] 25 := by rw [← hWF]; exact (E0.set4 _ _ _ _)
          have F1 : Blk WF b1 [.int .i64 f, .int .i64 ln, .int .i64 p, .int .i64 sr] 60 := by rw [← hWF]; exact (E1.other4 (Nat.ne_of_gt (by omega)) _ _ _ _)
          have F2 : Blk WF b2 [.slice none 0 0, .slice none 0 0, .int .i64 0, .bool false] 25 := by rw [← hWF]; exact (E2.other4 (Nat.ne_of_gt (by omega)) _ _ _ _)
          have F3 : Blk WF b3 [.int .i64 0, .int .i64 0, .int .i64 0, .int .i64 0] 60 := by rw [← hWF]; exact (E3.other4 (Nat.ne_of_gt (by omega)) _ _ _ _)
          have HXF : Hid (IsDrive WF (.agg #[.slice v1 m1 s1, .slice v2 m2 s2, .int .i64 fz, .bool oz]) _) := hide (by rw [← hWF]; exact HXE.out.set4 (blk_holds E0) _ _ _ _)
          have hbF : Below w.heap.size w WF := by rw [← hWF]; exact below4 hbE (Nat.le_refl _) _ _ _ _
          rw [hWF]
          clear hWF
          go_meet
          exact ⟨v1, m1, s1, v2, m2, s2, fz, oz, rfl, F0, HXF.out, F1, F2, F3, hbF⟩
        · have hD1 := HD3E.out
          rw [if_neg hE] at hD1
          injection hD1 with e1 e2
          subst e1 e2
          have hEd : decide (E2 = 0) = false := decide_eq_false hE
          have hEb : (E2 == 0) = false := by rw [beq_eq_false_iff_ne]; exact hE
          clear HD3E hE
          go_wp2_with fail
          go_meet
          exact ⟨u1, r1, t1, u2, r2, t2, fy, oy, rfl, D0, HD3.out, D1, D2, D3, hby⟩
      case rest =>
        obtain ⟨wz, rfl⟩ : ∃ wx, wx = wc := ⟨_, rfl⟩
        clear D0 D1 D2 D3 HD3 hby hlw HD3E HF2
        clear u1 r1 t1 u2 r2 t2 fy oy
        obtain ⟨u1, r1, t1, u2, r2, t2, fy, oy, rfl, K0, hd, K1, K2, K3, hbw⟩ := hcut
        have HXD := hide hd
        clear hd
        have hl3 := K3.lt
        obtain ⟨p0, p1, p2, p3, p4, p5, p6, p7⟩ := K0.four
        obtain ⟨q0, q1, q2, q3, q4, q5, q6, q7⟩ := K1.four
        obtain ⟨g0, g1, g2, g3, g4, g5, g6, g7⟩ := K2.four
        obtain ⟨k0, k1, k2, k3, k4, k5, k6, k7⟩ := K3.four
        by_cases hE : E3 = 0
        · have hap := HAP.out
          rw [if_pos hE] at hap
          rw [HKK.out] at hap
          have HAQ := hide hap
          subst hE
          clear hap HAP
          go_upto_region 19 with fail
          have hn01 : w.heap.size ≠ b1 := by omega
          have hn10 : b1 ≠ w.heap.size := by omega
          have hn02 : w.heap.size ≠ b2 := by omega
          have hn20 : b2 ≠ w.heap.size := by omega
          have hn03 : w.heap.size ≠ b3 := by omega
          have hn30 : b3 ≠ w.heap.size := by omega
          have hn12 : b1 ≠ b2 := by omega
          have hn21 : b2 ≠ b1 := by omega
          have hn13 : b1 ≠ b3 := by omega
          have hn31 : b3 ≠ b1 := by omega
          have hn23 : b2 ≠ b3 := by omega
          have hn32 : b3 ≠ b2 := by omega
          have hwp : IntKind.i64.wrap (p + (kk : Int)) = p + (kk : Int) := IntWalk.i64_in _ (by omega)
          have hws : IntKind.i64.wrap (sr + 1) = sr + 1 := IntWalk.i64_in _ (by omega)
          go_region_held3 (fun w' => w'.cell? ⟨w.heap.size, 0, none⟩ = some (.slice u1 r1 t1) ∧ w'.cell? ⟨w.heap.size, 1, none⟩ = some (.slice u2 r2 t2) ∧ w'.cell? ⟨w.heap.size, 2, none⟩ = some (.int .i64 fy) ∧ w'.cell? ⟨w.heap.size, 3, none⟩ = some (.bool oy) ∧ w'.cell? ⟨b1, 0, none⟩ = some (.int .i64 f) ∧ w'.cell? ⟨b1, 1, none⟩ = some (.int .i64 ln) ∧ w'.cell? ⟨b1, 2, none⟩ = some (.int .i64 p) ∧ w'.cell? ⟨b1, 3, none⟩ = some (.int .i64 sr)) (go_keep) (fail)
          have hw8 : Below w.heap.size w ((((((((wz.setCell ⟨b2, 0, none⟩ (.slice u1 r1 t1)).setCell ⟨b2, 1, none⟩ (.slice u2 r2 t2)).setCell ⟨b2, 2, none⟩ (.int .i64 fy)).setCell ⟨b2, 3, none⟩ (.bool oy)).setCell ⟨b3, 0, none⟩ (.int .i64 f)).setCell ⟨b3, 1, none⟩ (.int .i64 ln)).setCell ⟨b3, 2, none⟩ (.int .i64 (p + (kk : Int)))).setCell ⟨b3, 3, none⟩ (.int .i64 (sr + 1))).drew := Below.drewed (below4 (below4 hbw (by omega) _ _ _ _) (by omega) _ _ _ _)
          have M2 : Blk ((((((((wz.setCell ⟨b2, 0, none⟩ (.slice u1 r1 t1)).setCell ⟨b2, 1, none⟩ (.slice u2 r2 t2)).setCell ⟨b2, 2, none⟩ (.int .i64 fy)).setCell ⟨b2, 3, none⟩ (.bool oy)).setCell ⟨b3, 0, none⟩ (.int .i64 f)).setCell ⟨b3, 1, none⟩ (.int .i64 ln)).setCell ⟨b3, 2, none⟩ (.int .i64 (p + (kk : Int)))).setCell ⟨b3, 3, none⟩ (.int .i64 (sr + 1))).drew b2 [.slice u1 r1 t1, .slice u2 r2 t2, .int .i64 fy, .bool oy] 25 := blk_drew ((K2.set4 _ _ _ _).other4 hn23 _ _ _ _)
          have M3 : Blk ((((((((wz.setCell ⟨b2, 0, none⟩ (.slice u1 r1 t1)).setCell ⟨b2, 1, none⟩ (.slice u2 r2 t2)).setCell ⟨b2, 2, none⟩ (.int .i64 fy)).setCell ⟨b2, 3, none⟩ (.bool oy)).setCell ⟨b3, 0, none⟩ (.int .i64 f)).setCell ⟨b3, 1, none⟩ (.int .i64 ln)).setCell ⟨b3, 2, none⟩ (.int .i64 (p + (kk : Int)))).setCell ⟨b3, 3, none⟩ (.int .i64 (sr + 1))).drew b3 [.int .i64 f, .int .i64 ln, .int .i64 (p + (kk : Int)), .int .i64 (sr + 1)] 60 := blk_drew ((K3.other4 hn32 _ _ _ _).set4 _ _ _ _)
          have HX8 : Hid (IsDrive ((((((((wz.setCell ⟨b2, 0, none⟩ (.slice u1 r1 t1)).setCell ⟨b2, 1, none⟩ (.slice u2 r2 t2)).setCell ⟨b2, 2, none⟩ (.int .i64 fy)).setCell ⟨b2, 3, none⟩ (.bool oy)).setCell ⟨b3, 0, none⟩ (.int .i64 f)).setCell ⟨b3, 1, none⟩ (.int .i64 ln)).setCell ⟨b3, 2, none⟩ (.int .i64 (p + (kk : Int)))).setCell ⟨b3, 3, none⟩ (.int .i64 (sr + 1))).drew (.agg #[.slice u1 r1 t1, .slice u2 r2 t2, .int .i64 fy, .bool oy]) X3) := hide (((HXD.out.set4 (blk_holds K2) _ _ _ _).set4t (K3.other4 hn32 _ _ _ _) _ _ _ _).below (Below.drewed (Below.refl _ _)))
          obtain ⟨W8, hW8⟩ : ∃ W8, ((((((((wz.setCell ⟨b2, 0, none⟩ (.slice u1 r1 t1)).setCell ⟨b2, 1, none⟩ (.slice u2 r2 t2)).setCell ⟨b2, 2, none⟩ (.int .i64 fy)).setCell ⟨b2, 3, none⟩ (.bool oy)).setCell ⟨b3, 0, none⟩ (.int .i64 f)).setCell ⟨b3, 1, none⟩ (.int .i64 ln)).setCell ⟨b3, 2, none⟩ (.int .i64 (p + (kk : Int)))).setCell ⟨b3, 3, none⟩ (.int .i64 (sr + 1))).drew = W8 := ⟨_, rfl⟩
          rw [hW8] at hw8 M2 M3 HX8 ⊢
          clear hW8 hn20 hn30 hn21 hn31 hn10 hn32 hn02 hn03 hn12 hn13 hn01 hn23 p0 p1 p2 p3 p4 p5 p6 p7 q0 q1 q2 q3 q4 q5 q6 q7 g0 g1 g2 g3 g4 g5 g6 g7 k0 k1 k2 k3 k4 k5 k6 k7 K0 K1 K2 K3 HXD hbw hwp hws
          obtain ⟨g0, g1, g2, g3, g4, g5, g6, g7⟩ := M2.four
          obtain ⟨k0, k1, k2, k3, k4, k5, k6, k7⟩ := M3.four
          go_wp2_with fail
          rw [HAQ.out]
          exact bodyPost_ret (v := .tuple #[.agg #[.slice u1 r1 t1, .slice u2 r2 t2, .int .i64 fy, .bool oy], .agg #[.int .i64 f, .int .i64 ln, .int .i64 (p + (kk : Int)), .int .i64 (sr + 1)], .int .i64 0]) (by simp [results, Try.results41, go_sem, g0, g1, g2, g3, k0, k1, k2, k3]) rfl ⟨_, rfl, HX8.out, hw8⟩
        · have hap := HAP.out
          rw [if_neg hE] at hap
          have HAQ := hide hap
          have hEd : decide (E3 = 0) = false := decide_eq_false hE
          have hEb : (E3 != 0) = true := by rw [bne_iff_ne]; exact hE
          clear hap HAP hE
          go_wp2_with fail
          rw [HAQ.out]
          refine bodyPost_ret (v := .tuple #[.agg #[.slice u1 r1 t1, .slice u2 r2 t2, .int .i64 fy, .bool oy], .agg #[.int .i64 0, .int .i64 0, .int .i64 0, .int .i64 0], .int .i64 E3]) (by simp [results, Try.results41, go_sem, g0, g1, g2, g3, k0, k1, k2, k3]) rfl ⟨_, rfl, (HXD.out.set4 (blk_holds K2) _ _ _ _).set4t (K3.other4 (Nat.ne_of_gt (by omega)) _ _ _ _) _ _ _ _, ?_⟩
          exact below4 (below4 hbw (by omega) _ _ _ _) (by omega) _ _ _ _

/-- The document's Append. -/
theorem refappend_any (v : Value) (d : Drv) (t : Tp) (s : List UInt8) (w : World) (h : IsDrive w v d) (ht : t.In) (hq : d.queue.length ≤ 1000) (hs : s.length < 9223372036854775808) :
    Calls Try.prog 41 #[v, tpVal t, .string (bs s)] w fun e w' => ∃ v', e = .returned (.tuple #[v', tpVal (d.append t s).2.1, .int .i64 (d.append t s).2.2]) ∧ IsDrive w' v' (d.append t s).1 ∧ Below w.heap.size w w' := by
  by_cases hok : tapeOk d t = true ∧ s.length ≤ 4000 ∧ (kOf s.length : Int) ≤ t.len - t.pos ∧ t.serial ≤ 16777215
  · exact refappend_good v d t s w h ht hq hok.1 hok.2.1 hok.2.2.1 hok.2.2.2
  · exact refappend_bad v d t s w h ht hs hok

end Go.Proofs.Ytkapdmhjhbmdjaa
