/-
  The walk through the statement LogAppends: it returns true.
-/
import Derived.Test.YtkapdmhjhbmdjaaRefApp
import Derived.Test.YtkapdmhjhbmdjaaLogApp2
import Derived.Test.YtkapdmhjhbmdjaaLogAwake
import Derived.Test.YtkapdmhjhbmdjaaReg
import Derived.Test.YtkapdmhjhbmdjaaOpenPlay
namespace Go.Proofs.Ytkapdmhjhbmdjaa
open Go.RowKit

theorem few18_length (l : List UInt8) : (if 400 < l.length ∧ l.length ≤ 4000 then l.take 400 else if 4001 < l.length then l.take 4001 else l).length ≤ 4001 := by
  split
  · rw [List.length_take]; omega
  · split
    · rw [List.length_take]; omega
    · omega
theorem few_queue (d : Drv) : d.few.queue.length ≤ 80 := by
  unfold Drv.few
  simp only [List.length_take]
  omega

set_option maxRecDepth 100000 in
set_option maxHeartbeats 6400000 in
theorem appends_walk18 (a1 : Option Addr) (n1 c1 : Nat) (a2 : Option Addr) (n2 c2 : Nat) (fu : Int) (of : Bool) (f ln p sr : Int) (s : List UInt8) (k : Int) (d : Drv) (w : World) (h : IsDrive w (.agg #[.slice a1 n1 c1, .slice a2 n2 c2, .int .i64 fu, .bool of]) d) (ht : (⟨f, ln, p, sr⟩ : Tp).In) (hs : s.length ≤ 9223372036854775807) (hk : -9223372036854775808 ≤ k ∧ k < 9223372036854775808) :
    Calls Try.prog 9 #[.agg #[.slice a1 n1 c1, .slice a2 n2 c2, .int .i64 fu, .bool of, .int .i64 f, .int .i64 ln, .int .i64 p, .int .i64 sr, .string (bs s), .int .i64 k]] w fun e w' => e = .returned (.bool true) ∧ Below w.heap.size w w' := by
  have HI := hide h
  have HF1 := hide (fun (v : Value) (w : World) (h : IsDrive w v d) => few_any v d w h)
  have hqf := few_queue d
  obtain ⟨D, hD⟩ : ∃ D, d.few = D := ⟨_, rfl⟩
  rw [hD] at HF1 hqf
  have HF2 := hide (fun w => few18_any s w (by omega))
  have hsl := few18_length s
  obtain ⟨S, hS⟩ : ∃ z, (if 400 < s.length ∧ s.length ≤ 4000 then s.take 400 else if 4001 < s.length then s.take 4001 else s) = z := ⟨_, rfl⟩
  rw [hS] at HF2 hsl
  have HA1 := hide (fun (v : Value) (w : World) (h : IsDrive w v D) => append_any v D ⟨f, ln, p, sr⟩ S w h ht (by omega) (by omega))
  have HA2 := hide (fun (v : Value) (w : World) (h : IsDrive w v D) => refappend_any v D ⟨f, ln, p, sr⟩ S w h ht (by omega) (by omega))
  have HM1 := hide (fun (v : Value) (w : World) (h : IsDrive w v D) => logmay_any v D ⟨f, ln, p, sr⟩ w h ht)
  have HM2 := hide (fun (v : Value) (w : World) (h : IsDrive w v D) => refmay18_any v D ⟨f, ln, p, sr⟩ w h ht)
  have HC1 := hide (fun w => lcells_any k w hk)
  have HC2 := hide (fun w => refcells18_any k w hk)
  have HAW := hide (fun w => awake18_any w)
  obtain ⟨⟨X, ⟨f', l', p', s'⟩, E⟩, hR⟩ : ∃ r, D.append ⟨f, ln, p, sr⟩ S = r := ⟨_, rfl⟩
  rw [hR] at HA1 HA2
  have HSM := hide (fun (v v' : Value) (w : World) (h : IsDrive w v X) (h' : IsDrive w v' X) => same_any v v' X w h h')
  obtain ⟨tk, htk⟩ : ∃ b, tapeOk D ⟨f, ln, p, sr⟩ = b := ⟨_, rfl⟩
  rw [htk] at HM1 HM2
  obtain ⟨ck, hck⟩ : ∃ b, cellsOf k = b := ⟨_, rfl⟩
  rw [hck] at HC1 HC2
  unfold tpVal at HA1 HA2 HM1 HM2
  simp only at HA1 HA2 HM1 HM2
  obtain ⟨sv, hsv⟩ : ∃ z, bs s = z := ⟨_, rfl⟩
  obtain ⟨tv, htv⟩ : ∃ z, bs S = z := ⟨_, rfl⟩
  rw [hsv] at HF2 ⊢
  rw [htv] at HF2 HA1 HA2
  clear hD hR ht h hsv htv hS hqf hsl htk hck hs hk
  have B0 := Blk.new w [.slice a1 n1 c1, .slice a2 n2 c2, .int .i64 fu, .bool of, .int .i64 f, .int .i64 ln, .int .i64 p, .int .i64 sr, .string sv, .int .i64 k] 62
  obtain ⟨W0, hW0⟩ : ∃ W0, w.alloc (.cells #[.slice a1 n1 c1, .slice a2 n2 c2, .int .i64 fu, .bool of, .int .i64 f, .int .i64 ln, .int .i64 p, .int .i64 sr, .string sv, .int .i64 k] 62) = W0 := ⟨_, rfl⟩
  have hb0 : Below w.heap.size w W0 := by rw [← hW0]; exact (Below.refl _ _).alloc (Nat.le_refl _) _
  rw [show [Value.slice a1 n1 c1, .slice a2 n2 c2, .int .i64 fu, .bool of, .int .i64 f, .int .i64 ln, .int .i64 p, .int .i64 sr, .string sv, .int .i64 k].toArray = #[Value.slice a1 n1 c1, .slice a2 n2 c2, .int .i64 fu, .bool of, .int .i64 f, .int .i64 ln, .int .i64 p, .int .i64 sr, .string sv, .int .i64 k] from rfl, hW0] at B0
  have HI0 := hide (HI.out.below hb0)
  go_enter Try.func9, Try.ntmps9
  go_upto_region 1 with fail
  obtain ⟨b0, hb0'⟩ : ∃ b, w.heap.size = b := ⟨_, rfl⟩
  rw [hb0'] at B0 ⊢
  have hlt0 := B0.lt
  clear hW0
  go_cut [3, 4] (fun s3 s4 wx => ∃ (b : Nat) (v : Value), s3 = .pointer (some ⟨b, 0, none⟩) ∧ s4 = .string tv ∧ b0 < b ∧ Holds wx b v ∧ IsDrive wx v D ∧ Below W0.heap.size W0 wx)
  case first =>
    refine (fun h : ∀ z17 z18 z19 z20 z21 z22 z23 z24 z25 z26 z27 z28 z29 z30 z31 z32 z33 z34 z35 z36 z37 z38 z39 z40 z41 z42 z43 z44 z45 z46 z47 z48 z49 z50 z51 z52 z53 z54 z55 z56 z57 z58 z59 z60 z61 z62 z63 z64 z65 z66 z67 z68 z69 z70  : Value, Code.wp Try.prog ?_ ?_ ⟨#[.agg #[.slice a1 n1 c1, .slice a2 n2 c2, .int .i64 fu, .bool of, .int .i64 f, .int .i64 ln, .int .i64 p, .int .i64 sr, .string sv, .int .i64 k], .pointer (some ⟨b0, 0, none⟩), .bool false, undef, undef, undef, undef, undef, undef, undef, undef, undef, undef, undef, undef, undef, undef, z17, z18, z19, z20, z21, z22, z23, z24, z25, z26, z27, z28, z29, z30, z31, z32, z33, z34, z35, z36, z37, z38, z39, z40, z41, z42, z43, z44, z45, z46, z47, z48, z49, z50, z51, z52, z53, z54, z55, z56, z57, z58, z59, z60, z61, z62, z63, z64, z65, z66, z67, z68, z69, z70], []⟩ W0 => h _ _ _ _ _ _ _ _ _ _ _ _ _ _ _ _ _ _ _ _ _ _ _ _ _ _ _ _ _ _ _ _ _ _ _ _ _ _ _ _ _ _ _ _ _ _ _ _ _ _ _ _ _ _) ?_
    intro z17 z18 z19 z20 z21 z22 z23 z24 z25 z26 z27 z28 z29 z30 z31 z32 z33 z34 z35 z36 z37 z38 z39 z40 z41 z42 z43 z44 z45 z46 z47 z48 z49 z50 z51 z52 z53 z54 z55 z56 z57 z58 z59 z60 z61 z62 z63 z64 z65 z66 z67 z68 z69 z70 
    refine wp_region_inv2 (fun l aa wq => ∃ x3 x4 x11 x12 x13 x14 x15 x16 : Value, aa = ⟨#[.agg #[.slice a1 n1 c1, .slice a2 n2 c2, .int .i64 fu, .bool of, .int .i64 f, .int .i64 ln, .int .i64 p, .int .i64 sr, .string sv, .int .i64 k], .pointer (some ⟨b0, 0, none⟩), .bool false, x3, x4, undef, undef, undef, undef, undef, undef, x11, x12, x13, x14, x15, x16, z17, z18, z19, z20, z21, z22, z23, z24, z25, z26, z27, z28, z29, z30, z31, z32, z33, z34, z35, z36, z37, z38, z39, z40, z41, z42, z43, z44, z45, z46, z47, z48, z49, z50, z51, z52, z53, z54, z55, z56, z57, z58, z59, z60, z61, z62, z63, z64, z65, z66, z67, z68, z69, z70], []⟩ ∧ l.size = 9 ∧ Below W0.heap.size W0 wq ∧ Closed l ([(1, 0), (2, 1), (4, 3), (5, 4), (7, 2), (7, 6), (8, 5)] : List (Nat × Nat)) ∧ (fl l 0 → x11 = .pointer (some ⟨b0, 0, none⟩)) ∧ (fl l 1 → x12 = .agg #[.slice a1 n1 c1, .slice a2 n2 c2, .int .i64 fu, .bool of]) ∧ (fl l 2 → IsDrive wq x13 D) ∧ (fl l 3 → x14 = .pointer (some ⟨b0, 8, none⟩)) ∧ (fl l 4 → x15 = .string sv) ∧ (fl l 5 → x16 = .string tv) ∧ (fl l 6 → ∃ b v, x3 = .pointer (some ⟨b, 0, none⟩) ∧ W0.heap.size ≤ b ∧ Holds wq b v) ∧ (fl l 7 → ∃ b v, x3 = .pointer (some ⟨b, 0, none⟩) ∧ W0.heap.size ≤ b ∧ Holds wq b v ∧ IsDrive wq v D) ∧ (fl l 8 → x4 = .string tv)) (by kernel_rfl) (ord_of2 (by decide +kernel)) ⟨_, _, _, _, _, _, _, _, rfl, by simp, Below.drewed (Below.refl _ _), Closed.zero _ _, fun f => absurd f (fl_none _ _), fun f => absurd f (fl_none _ _), fun f => absurd f (fl_none _ _), fun f => absurd f (fl_none _ _), fun f => absurd f (fl_none _ _), fun f => absurd f (fl_none _ _), fun f => absurd f (fl_none _ _), fun f => absurd f (fl_none _ _), fun f => absurd f (fl_none _ _)⟩ ?_ ?_
    · intro l aa w3 i o ho hI h1 h2 KK hK
      obtain ⟨x3, x4, x11, x12, x13, x14, x15, x16, rfl, hsz, hbw3, hcl, g0, g1, g2, g3, g4, g5, g6, g7, g8⟩ := hI
      have hi : i < 9 := (Array.getElem?_eq_some_iff.1 ho).1
      have R9 := B0.next hbw3
      have r0 : w3.cell? ⟨b0, 0, none⟩ = some (.slice a1 n1 c1) := R9.cell 0
      have r1 : w3.cell? ⟨b0, 1, none⟩ = some (.slice a2 n2 c2) := R9.cell 1
      have r2 : w3.cell? ⟨b0, 2, none⟩ = some (.int .i64 fu) := R9.cell 2
      have r3 : w3.cell? ⟨b0, 3, none⟩ = some (.bool of) := R9.cell 3
      have r8 : w3.cell? ⟨b0, 8, none⟩ = some (.string sv) := R9.cell 8
      have hcase : i = 0 ∨ i = 1 ∨ i = 2 ∨ i = 3 ∨ i = 4 ∨ i = 5 ∨ i = 6 ∨ i = 7 ∨ i = 8 := by omega
      rcases hcase with rfl | rfl | rfl | rfl | rfl | rfl | rfl | rfl | rfl
      · cases ho
        go_simp
        exact hK _ _ ⟨_, _, _, _, _, _, _, _, rfl, by simpa using hsz, hbw3, hcl.step 0 [] (by decide) all_nil, fun _ => rfl, fun f => absurd (hcl.on (by decide) (fl_set f (by decide))) (fl_not h1), fun f => (g2 (fl_set f (by decide))), fun f => (g3 (fl_set f (by decide))), fun f => (g4 (fl_set f (by decide))), fun f => (g5 (fl_set f (by decide))), fun f => (g6 (fl_set f (by decide))), fun f => (g7 (fl_set f (by decide))), fun f => (g8 (fl_set f (by decide)))⟩
      · cases ho
        have f0 : fl l 0 := h2 ⟨0, .data⟩ (by simp) rfl
        obtain rfl := g0 f0
        go_simp
        exact hK _ _ ⟨_, _, _, _, _, _, _, _, rfl, by simpa using hsz, hbw3, hcl.step 1 [0] (by decide) (all_cons f0 all_nil), fun f => (g0 (fl_set f (by decide))), fun _ => rfl, fun f => absurd (hcl.on (by decide) (fl_set f (by decide))) (fl_not h1), fun f => (g3 (fl_set f (by decide))), fun f => (g4 (fl_set f (by decide))), fun f => (g5 (fl_set f (by decide))), fun f => (g6 (fl_set f (by decide))), fun f => (g7 (fl_set f (by decide))), fun f => (g8 (fl_set f (by decide)))⟩
      · cases ho
        have f1 : fl l 1 := h2 ⟨1, .data⟩ (by simp) rfl
        obtain rfl := g1 f1
        go_simp
        go_at_call 20
        refine (HF1.out _ _ (HI0.out.below hbw3)).mono ?_
        rintro e w' ⟨v', rfl, hdv, hb⟩
        exact hK _ _ ⟨_, _, _, _, _, _, _, _, rfl, by simpa using hsz, chain hbw3 hb, hcl.step 2 [1] (by decide) (all_cons f1 all_nil), fun f => (g0 (fl_set f (by decide))), fun f => (g1 (fl_set f (by decide))), fun _ => hdv, fun f => (g3 (fl_set f (by decide))), fun f => (g4 (fl_set f (by decide))), fun f => (g5 (fl_set f (by decide))), fun f => (let ⟨b, v, h1, h2, h3⟩ := (g6 (fl_set f (by decide))); ⟨b, v, h1, h2, h3.next hb⟩), fun f => absurd (hcl.on (by decide) (fl_set f (by decide))) (fl_not h1), fun f => (g8 (fl_set f (by decide)))⟩
      · cases ho
        go_simp
        exact hK _ _ ⟨_, _, _, _, _, _, _, _, rfl, by simpa using hsz, hbw3, hcl.step 3 [] (by decide) all_nil, fun f => (g0 (fl_set f (by decide))), fun f => (g1 (fl_set f (by decide))), fun f => (g2 (fl_set f (by decide))), fun _ => rfl, fun f => absurd (hcl.on (by decide) (fl_set f (by decide))) (fl_not h1), fun f => (g5 (fl_set f (by decide))), fun f => (g6 (fl_set f (by decide))), fun f => (g7 (fl_set f (by decide))), fun f => (g8 (fl_set f (by decide)))⟩
      · cases ho
        have f3 : fl l 3 := h2 ⟨3, .data⟩ (by simp) rfl
        obtain rfl := g3 f3
        go_simp
        exact hK _ _ ⟨_, _, _, _, _, _, _, _, rfl, by simpa using hsz, hbw3, hcl.step 4 [3] (by decide) (all_cons f3 all_nil), fun f => (g0 (fl_set f (by decide))), fun f => (g1 (fl_set f (by decide))), fun f => (g2 (fl_set f (by decide))), fun f => (g3 (fl_set f (by decide))), fun _ => rfl, fun f => absurd (hcl.on (by decide) (fl_set f (by decide))) (fl_not h1), fun f => (g6 (fl_set f (by decide))), fun f => (g7 (fl_set f (by decide))), fun f => (g8 (fl_set f (by decide)))⟩
      · cases ho
        have f4 : fl l 4 := h2 ⟨4, .data⟩ (by simp) rfl
        obtain rfl := g4 f4
        go_simp
        go_at_call 39
        refine (HF2.out _).mono ?_
        rintro e w' ⟨rfl, hb⟩
        exact hK _ _ ⟨_, _, _, _, _, _, _, _, rfl, by simpa using hsz, chain hbw3 hb, hcl.step 5 [4] (by decide) (all_cons f4 all_nil), fun f => (g0 (fl_set f (by decide))), fun f => (g1 (fl_set f (by decide))), fun f => ((g2 (fl_set f (by decide)))).below hb, fun f => (g3 (fl_set f (by decide))), fun f => (g4 (fl_set f (by decide))), fun _ => rfl, fun f => (let ⟨b, v, h1, h2, h3⟩ := (g6 (fl_set f (by decide))); ⟨b, v, h1, h2, h3.next hb⟩), fun f => (let ⟨b, v, h1, h2, h3, h4⟩ := (g7 (fl_set f (by decide))); ⟨b, v, h1, h2, h3.next hb, h4.below hb⟩), fun f => absurd (hcl.on (by decide) (fl_set f (by decide))) (fl_not h1)⟩
      · cases ho
        go_simp
        exact hK _ _ ⟨_, _, _, _, _, _, _, _, rfl, by simpa using hsz, hbw3.alloc hbw3.size _, hcl.step 6 [] (by decide) all_nil, fun f => (g0 (fl_set f (by decide))), fun f => (g1 (fl_set f (by decide))), fun f => ((g2 (fl_set f (by decide)))).below ((Below.refl w3.heap.size w3).alloc (Nat.le_refl _) _), fun f => (g3 (fl_set f (by decide))), fun f => (g4 (fl_set f (by decide))), fun f => (g5 (fl_set f (by decide))), fun _ => ⟨w3.heap.size, _, rfl, hbw3.size, Holds.new w3 none 0 0 none 0 0 0 false⟩, fun f => absurd (hcl.on (by decide) (fl_set f (by decide))) (fl_not h1), fun f => (g8 (fl_set f (by decide)))⟩
      · cases ho
        have f2 : fl l 2 := h2 ⟨2, .data⟩ (by simp) rfl
        have f6 : fl l 6 := h2 ⟨6, .data⟩ (by simp) rfl
        obtain hd := g2 f2
        obtain ⟨b, u, rfl, hB, hH⟩ := g6 f6
        have HX := hide hd
        obtain ⟨u1, m1, t1, u2, m2, t2, fq, oq, rfl, _⟩ := hd
        have hH2 := hH
        obtain ⟨_, _, _, _, _, _, _, _, _, hH2⟩ := hH2
        obtain ⟨y0, y1, y2, y3, y4, y5, y6, y7⟩ := hH2.four
        unfold drvVal at HX ⊢
        go_simp
        exact hK _ _ ⟨_, _, _, _, _, _, _, _, rfl, by simpa using hsz, below4 hbw3 hB _ _ _ _, hcl.step 7 [2, 6] (by decide) (all_cons f2 (all_cons f6 all_nil)), fun f => (g0 (fl_set f (by decide))), fun f => (g1 (fl_set f (by decide))), fun f => ((g2 (fl_set f (by decide)))).set4 hH _ _ _ _, fun f => (g3 (fl_set f (by decide))), fun f => (g4 (fl_set f (by decide))), fun f => (g5 (fl_set f (by decide))), fun f => ⟨b, _, rfl, hB, hH.set u1 m1 t1 u2 m2 t2 fq oq⟩, fun _ => ⟨b, _, rfl, hB, hH.set u1 m1 t1 u2 m2 t2 fq oq, HX.out.set4 hH _ _ _ _⟩, fun f => (g8 (fl_set f (by decide)))⟩
      · cases ho
        have f5 : fl l 5 := h2 ⟨5, .data⟩ (by simp) rfl
        obtain rfl := g5 f5
        go_simp
        exact hK _ _ ⟨_, _, _, _, _, _, _, _, rfl, by simpa using hsz, hbw3, hcl.step 8 [5] (by decide) (all_cons f5 all_nil), fun f => (g0 (fl_set f (by decide))), fun f => (g1 (fl_set f (by decide))), fun f => (g2 (fl_set f (by decide))), fun f => (g3 (fl_set f (by decide))), fun f => (g4 (fl_set f (by decide))), fun f => (g5 (fl_set f (by decide))), fun f => (g6 (fl_set f (by decide))), fun f => (g7 (fl_set f (by decide))), fun _ => rfl⟩
    · intro l aa w3 hI hall
      obtain ⟨x3, x4, x11, x12, x13, x14, x15, x16, rfl, hsz, hbw3, hcl, g0, g1, g2, g3, g4, g5, g6, g7, g8⟩ := hI
      obtain ⟨b, v, rfl, hB, hH, hd⟩ := g7 (fl_all hall hsz (by decide))
      obtain rfl := g8 (fl_all hall hsz (by decide))
      dsimp only
      go_wp2_with fail
      go_meet
      exact ⟨b, v, rfl, rfl, by omega, hH, hd, hbw3⟩
  case rest =>
    obtain ⟨wx, rfl⟩ : ∃ wx, wx = wc := ⟨_, rfl⟩
    clear HF1 HF2
    obtain ⟨b3, v3, rfl, rfl, hb03, hH3, hd3, hbw⟩ := hcut
    have K0 := B0.next hbw
    have hbx := chain hb0 hbw
    have HD3 := hide hd3
    obtain ⟨x1, m1, y1, x2, m2, y2, gu, og, rfl, K3⟩ := hH3
    unfold drvVal at HD3
    have hl3 := K3.lt
    clear hd3 hbw hb0 B0 HI HI0
    obtain ⟨q0, q1, q2, q3, q4, q5, q6, q7⟩ := K3.four
    have p4 : wx.cell? ⟨b0, 4, none⟩ = some (.int .i64 f) := K0.cell 4
    have p5 : wx.cell? ⟨b0, 5, none⟩ = some (.int .i64 ln) := K0.cell 5
    have p6 : wx.cell? ⟨b0, 6, none⟩ = some (.int .i64 p) := K0.cell 6
    have p7 : wx.cell? ⟨b0, 7, none⟩ = some (.int .i64 sr) := K0.cell 7
    go_wp2_with fail
    refine (HA1.out _ _ HD3.out).mono ?_
    rintro e w4 ⟨v4, rfl, hd4, hb4⟩
    have HX4 := hide hd4
    obtain ⟨u1, r1, t1, u2, r2, t2, fy, oy, rfl, _⟩ := hd4
    unfold drvVal at HX4 ⊢
    have L0 := K0.next hb4
    have L3 := K3.next hb4
    have HD4 := hide (HD3.out.below hb4)
    have hby := chain hbx hb4
    have hs4 := hb4.size
    clear hb4 K0 K3 HD3 hbx q0 q1 q2 q3 q4 q5 q6 q7 p4 p5 p6 p7
    go_upto_region 3 with fail
    obtain ⟨Q5, Q6⟩ := two_kinds w4 [.slice u1 r1 t1, .slice u2 r2 t2, .int .i64 fy, .bool oy] [.int .i64 f', .int .i64 l', .int .i64 p', .int .i64 s'] 25 60
    have hal : Below w4.heap.size w4 ((w4.alloc (.cells #[.slice u1 r1 t1, .slice u2 r2 t2, .int .i64 fy, .bool oy] 25)).alloc (.cells #[.int .i64 f', .int .i64 l', .int .i64 p', .int .i64 s'] 60)) := ((Below.refl _ _).alloc (Nat.le_refl _) _).alloc (by simp) _
    obtain ⟨W5, hW5⟩ : ∃ z, ((w4.alloc (.cells #[.slice u1 r1 t1, .slice u2 r2 t2, .int .i64 fy, .bool oy] 25)).alloc (.cells #[.int .i64 f', .int .i64 l', .int .i64 p', .int .i64 s'] 60)) = z := ⟨_, rfl⟩
    rw [hW5] at Q5 Q6 hal
    rw [hW5]
    have hbd5 : ∃ b, w4.heap.size = b := ⟨_, rfl⟩
    obtain ⟨b5, hbd⟩ := hbd5
    have hbt5 : ∃ b, w4.heap.size + 1 = b := ⟨_, rfl⟩
    obtain ⟨b6, hbt⟩ := hbt5
    rw [hbd] at Q5
    rw [hbt] at Q6
    rw [hbt, hbd]
    have M0 := L0.next hal
    have M3 := L3.next hal
    have HD5 := hide (HD4.out.below hal)
    have HX5 := hide (HX4.out.below hal)
    have hbz := chain hby hal
    have ho5 : b3 < b5 := by have := L3.lt; omega
    have ho6 : b5 < b6 := by omega
    have M5 := Q5
    have M6 := Q6
    clear hW5 hal hby L0 L3 HD4 HX4 Q5 Q6 hs4 hl3
    have hl6 := M6.lt
    obtain ⟨q0, q1, q2, q3, q4, q5, q6, q7⟩ := M3.four
    have p4 : W5.cell? ⟨b0, 4, none⟩ = some (.int .i64 f) := M0.cell 4
    have p5 : W5.cell? ⟨b0, 5, none⟩ = some (.int .i64 ln) := M0.cell 5
    have p6 : W5.cell? ⟨b0, 6, none⟩ = some (.int .i64 p) := M0.cell 6
    have p7 : W5.cell? ⟨b0, 7, none⟩ = some (.int .i64 sr) := M0.cell 7
    clear hbd hbt
    go_wp2_with fail
    refine (HA2.out _ _ HD5.out).mono ?_
    rintro e w6 ⟨v6, rfl, hd6, hb6⟩
    have HZ6 := hide hd6
    obtain ⟨g1, k1, e1, g2, k2, e2, fz, oz, rfl, _⟩ := hd6
    unfold drvVal at HZ6 ⊢
    have N0 := M0.next hb6
    have N3 := M3.next hb6
    have N5 := M5.next hb6
    have N6 := M6.next hb6
    have HD6 := hide (HD5.out.below hb6)
    have HX6 := hide (HX5.out.below hb6)
    have hbv := chain hbz hb6
    have hs6 := hb6.size
    clear hb6 M0 M3 M5 M6 HD5 HX5 hbz q0 q1 q2 q3 q4 q5 q6 q7 p4 p5 p6 p7
    go_upto_region 4 with fail
    obtain ⟨Q5, Q6⟩ := two_kinds w6 [.slice g1 k1 e1, .slice g2 k2 e2, .int .i64 fz, .bool oz] [.int .i64 f', .int .i64 l', .int .i64 p', .int .i64 s'] 25 60
    have hal : Below w6.heap.size w6 ((w6.alloc (.cells #[.slice g1 k1 e1, .slice g2 k2 e2, .int .i64 fz, .bool oz] 25)).alloc (.cells #[.int .i64 f', .int .i64 l', .int .i64 p', .int .i64 s'] 60)) := ((Below.refl _ _).alloc (Nat.le_refl _) _).alloc (by simp) _
    obtain ⟨W7, hW7⟩ : ∃ z, ((w6.alloc (.cells #[.slice g1 k1 e1, .slice g2 k2 e2, .int .i64 fz, .bool oz] 25)).alloc (.cells #[.int .i64 f', .int .i64 l', .int .i64 p', .int .i64 s'] 60)) = z := ⟨_, rfl⟩
    rw [hW7] at Q5 Q6 hal
    rw [hW7]
    have hbd7 : ∃ b, w6.heap.size = b := ⟨_, rfl⟩
    obtain ⟨b8, hbd⟩ := hbd7
    have hbt7 : ∃ b, w6.heap.size + 1 = b := ⟨_, rfl⟩
    obtain ⟨b9, hbt⟩ := hbt7
    rw [hbd] at Q5
    rw [hbt] at Q6
    rw [hbt, hbd]
    have M0 := N0.next hal
    have M3 := N3.next hal
    have M5 := N5.next hal
    have M6 := N6.next hal
    have HD7 := hide (HD6.out.below hal)
    have HX7 := hide (HX6.out.below hal)
    have HZ7 := hide (HZ6.out.below hal)
    have hbu := chain hbv hal
    have M8 := Q5
    have M9 := Q6
    clear hW7 hal hbv N0 N3 N5 N6 HD6 HX6 HZ6 Q5 Q6 hs6 hl6 hbd hbt ho5 ho6
    have HK := hide (fun w' (h : Below W7.heap.size W7 w') => show (fun w' => Below W7.heap.size W7 w' ∧ w'.cell? ⟨b3, 0, none⟩ = some (.slice x1 m1 y1) ∧ w'.cell? ⟨b3, 1, none⟩ = some (.slice x2 m2 y2) ∧ w'.cell? ⟨b3, 2, none⟩ = some (.int .i64 gu) ∧ w'.cell? ⟨b3, 3, none⟩ = some (.bool og) ∧ w'.cell? ⟨b0, 4, none⟩ = some (.int .i64 f) ∧ w'.cell? ⟨b0, 5, none⟩ = some (.int .i64 ln) ∧ w'.cell? ⟨b0, 6, none⟩ = some (.int .i64 p) ∧ w'.cell? ⟨b0, 7, none⟩ = some (.int .i64 sr) ∧ w'.cell? ⟨b0, 9, none⟩ = some (.int .i64 k) ∧ w'.cell? ⟨b5, 0, none⟩ = some (.slice u1 r1 t1) ∧ w'.cell? ⟨b5, 1, none⟩ = some (.slice u2 r2 t2) ∧ w'.cell? ⟨b5, 2, none⟩ = some (.int .i64 fy) ∧ w'.cell? ⟨b5, 3, none⟩ = some (.bool oy) ∧ w'.cell? ⟨b6, 0, none⟩ = some (.int .i64 f') ∧ w'.cell? ⟨b6, 1, none⟩ = some (.int .i64 l') ∧ w'.cell? ⟨b6, 2, none⟩ = some (.int .i64 p') ∧ w'.cell? ⟨b6, 3, none⟩ = some (.int .i64 s') ∧ w'.cell? ⟨b8, 0, none⟩ = some (.slice g1 k1 e1) ∧ w'.cell? ⟨b8, 1, none⟩ = some (.slice g2 k2 e2) ∧ w'.cell? ⟨b8, 2, none⟩ = some (.int .i64 fz) ∧ w'.cell? ⟨b8, 3, none⟩ = some (.bool oz) ∧ w'.cell? ⟨b9, 0, none⟩ = some (.int .i64 f') ∧ w'.cell? ⟨b9, 1, none⟩ = some (.int .i64 l') ∧ w'.cell? ⟨b9, 2, none⟩ = some (.int .i64 p') ∧ w'.cell? ⟨b9, 3, none⟩ = some (.int .i64 s')) w' from ⟨h, (M3.next h).cell 0, (M3.next h).cell 1, (M3.next h).cell 2, (M3.next h).cell 3, (M0.next h).cell 4, (M0.next h).cell 5, (M0.next h).cell 6, (M0.next h).cell 7, (M0.next h).cell 9, (M5.next h).cell 0, (M5.next h).cell 1, (M5.next h).cell 2, (M5.next h).cell 3, (M6.next h).cell 0, (M6.next h).cell 1, (M6.next h).cell 2, (M6.next h).cell 3, (M8.next h).cell 0, (M8.next h).cell 1, (M8.next h).cell 2, (M8.next h).cell 3, (M9.next h).cell 0, (M9.next h).cell 1, (M9.next h).cell 2, (M9.next h).cell 3⟩)
    have hTT : (true && true) = true := rfl
    go_region_held3 (fun w' => Below W7.heap.size W7 w' ∧ w'.cell? ⟨b3, 0, none⟩ = some (.slice x1 m1 y1) ∧ w'.cell? ⟨b3, 1, none⟩ = some (.slice x2 m2 y2) ∧ w'.cell? ⟨b3, 2, none⟩ = some (.int .i64 gu) ∧ w'.cell? ⟨b3, 3, none⟩ = some (.bool og) ∧ w'.cell? ⟨b0, 4, none⟩ = some (.int .i64 f) ∧ w'.cell? ⟨b0, 5, none⟩ = some (.int .i64 ln) ∧ w'.cell? ⟨b0, 6, none⟩ = some (.int .i64 p) ∧ w'.cell? ⟨b0, 7, none⟩ = some (.int .i64 sr) ∧ w'.cell? ⟨b0, 9, none⟩ = some (.int .i64 k) ∧ w'.cell? ⟨b5, 0, none⟩ = some (.slice u1 r1 t1) ∧ w'.cell? ⟨b5, 1, none⟩ = some (.slice u2 r2 t2) ∧ w'.cell? ⟨b5, 2, none⟩ = some (.int .i64 fy) ∧ w'.cell? ⟨b5, 3, none⟩ = some (.bool oy) ∧ w'.cell? ⟨b6, 0, none⟩ = some (.int .i64 f') ∧ w'.cell? ⟨b6, 1, none⟩ = some (.int .i64 l') ∧ w'.cell? ⟨b6, 2, none⟩ = some (.int .i64 p') ∧ w'.cell? ⟨b6, 3, none⟩ = some (.int .i64 s') ∧ w'.cell? ⟨b8, 0, none⟩ = some (.slice g1 k1 e1) ∧ w'.cell? ⟨b8, 1, none⟩ = some (.slice g2 k2 e2) ∧ w'.cell? ⟨b8, 2, none⟩ = some (.int .i64 fz) ∧ w'.cell? ⟨b8, 3, none⟩ = some (.bool oz) ∧ w'.cell? ⟨b9, 0, none⟩ = some (.int .i64 f') ∧ w'.cell? ⟨b9, 1, none⟩ = some (.int .i64 l') ∧ w'.cell? ⟨b9, 2, none⟩ = some (.int .i64 p') ∧ w'.cell? ⟨b9, 3, none⟩ = some (.int .i64 s')) (first | exact HK.out _ (Below.drewed (Below.refl _ _)) | exact HK.out _ hbq.out) (first
      | (go_at_call 23
         have hq := (‹Below W7.heap.size W7 _ ∧ _›).1
         refine (HSM.out _ _ _ (HX7.out.below hq) (HZ7.out.below hq)).mono ?_
         rintro e w8 ⟨rfl, hb⟩
         have hbq := hide (chain hq hb)
         clear hq hb)
      | (go_at_call 42
         have hq := (‹Below W7.heap.size W7 _ ∧ _›).1
         refine (HM1.out _ _ (HD7.out.below hq)).mono ?_
         rintro e w8 ⟨rfl, hb⟩
         have hbq := hide (chain hq hb)
         clear hq hb)
      | (go_at_call 43
         have hq := (‹Below W7.heap.size W7 _ ∧ _›).1
         refine (HM2.out _ _ (HD7.out.below hq)).mono ?_
         rintro e w8 ⟨rfl, hb⟩
         have hbq := hide (chain hq hb)
         clear hq hb)
      | (go_at_call 44
         have hq := (‹Below W7.heap.size W7 _ ∧ _›).1
         refine (HC1.out _).mono ?_
         rintro e w8 ⟨rfl, rfl⟩
         have hbq := hide (hq)
         clear hq)
      | (go_at_call 45
         have hq := (‹Below W7.heap.size W7 _ ∧ _›).1
         refine (HC2.out _).mono ?_
         rintro e w8 ⟨rfl, rfl⟩
         have hbq := hide (hq)
         clear hq)
      | (go_at_call 46
         have hq := (‹Below W7.heap.size W7 _ ∧ _›).1
         refine (HAW.out _).mono ?_
         rintro e w8 ⟨rfl, hb⟩
         have hbq := hide (chain hq hb)
         clear hq hb))
    all_goals
      go_wp2_with fail
      go_ret
      exact ⟨rfl, chain hbu hbq.out⟩

theorem appends18_frame {w : World} (v : Value) (a1 : Option Addr) (h : ∃ (n1 c1 : Nat) (a2 : Option Addr) (n2 c2 : Nat) (fu : Int) (of : Bool) (f ln pp sr : Int) (s : ByteArray) (k : Int) (D : Drv), v = .agg #[.slice a1 n1 c1, .slice a2 n2 c2, .int .i64 fu, .bool of, .int .i64 f, .int .i64 ln, .int .i64 pp, .int .i64 sr, .string s, .int .i64 k] ∧
      IsDrive w (.agg #[.slice a1 n1 c1, .slice a2 n2 c2, .int .i64 fu, .bool of]) D ∧ (⟨f, ln, pp, sr⟩ : Tp).In ∧ s.size ≤ 9223372036854775807 ∧ (-9223372036854775808 ≤ k ∧ k < 9223372036854775808)) (_ : World) : Calls Try.prog 9 #[v] w fun e w' => e = .returned (.bool true) ∧ Below w.heap.size w w' := by
  obtain ⟨n1, c1, a2, n2, c2, fu, of, f, ln, pp, sr, s, k, D, rfl, h1, h2, h3, h4⟩ := h
  have h := appends_walk18 a1 n1 c1 a2 n2 c2 fu of f ln pp sr s.data.toList k D w h1 h2 (by simpa using h3) h4
  rw [bs_of] at h
  exact h

end Go.Proofs.Ytkapdmhjhbmdjaa
