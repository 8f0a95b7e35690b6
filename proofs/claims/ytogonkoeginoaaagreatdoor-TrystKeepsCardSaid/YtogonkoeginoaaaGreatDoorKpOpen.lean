/-
  The walk through Open: what is kept on a drive is opened.
-/
import Derived.Test.YtogonkoeginoaaaGreatDoorKpA
import Derived.Test.YtogonkoeginoaaaGreatDoorKpB
import Derived.Test.YtogonkoeginoaaaGreatDoorLogScan
namespace Go.Proofs.YtogonkoeginoaaaGreatDoor
open Go.RowKit

set_option maxRecDepth 100000 in
set_option maxHeartbeats 12800000 in
theorem kopen_any (dv : Value) (h : Hv) (m : Hd) (cs : List (List UInt8)) (text : List UInt8) (l : List (List UInt8)) (w : World) (hd : IsDrive w dv ⟨cs, [], -1, false⟩) (on : OnKeep h cs m text l) (hs : m.serial + l.length ≤ 16777216) :
    Calls Tryz.prog 10 #[dv, hvVal h] w fun e w' => ∃ b v, e = .returned (.tuple #[.pointer (some ⟨b, 0, none⟩), .int .i64 0]) ∧ w.heap.size ≤ b ∧ KpAt w' b w.heap.size v h m cs text l ∧ Below w.heap.size w w' := by
  have HON := hide on
  have hin := on.inr
  have hb6 := on.bound
  have HS : Hid (∀ w, Calls Tryz.prog 18 #[hvVal h] w fun e w' => e = .returned (.int .i64 (cs.length : Int)) ∧ Below w.heap.size w w') := hide (fun w => by rw [on.len]; exact ksize_any h w on.ok)
  have HMY : Hid (∀ v w, IsDrive w v ⟨cs, [], -1, false⟩ → Calls Tryz.prog 30 #[v] w fun e w' => e = .returned (.bool true) ∧ Below w.heap.size w w') := hide (fun v w h => by
    have := may_any v _ w h
    rw [mayB_yes on.may] at this
    exact this)
  have HR1 : Hid (∀ v w, IsDrive w v ⟨cs, [], -1, false⟩ → Calls Tryz.prog 31 #[v, .int .i64 0, .int .i64 2] w fun e w' => e = .returned (.tuple #[.string (bs (cs.getD 0 [] ++ cs.getD 1 [])), .int .i64 0]) ∧ Below w.heap.size w w') := hide (fun v w h => by
    have := read_any v _ 0 2 w h (by omega) (by omega)
    rw [on.readHeads] at this
    exact this)
  have HNW : Hid (∀ w, Calls Tryz.prog 32 #[.string (bs (cs.getD 0 [] ++ cs.getD 1 [])), hvVal h] w fun e w' => e = .returned (.tuple #[hdVal m, .bool true]) ∧ Below w.heap.size w w') := hide (fun w => by
    have h0 : ∀ i, i < 2 → (cs.getD i []).length = 64 := fun i hi => by
      rw [List.getD_eq_getElem?_getD, List.getElem?_eq_getElem (by omega)]
      exact on.cell _ (List.getElem_mem _)
    have := newest_any (cs.getD 0 []) (cs.getD 1 []) h w (h0 0 (by decide)) (h0 1 (by decide)) on.ok
    rw [on.newest, decide_eq_true (by have := on.gen.1; omega)] at this
    exact this)
  obtain ⟨O, hO, hOt, hOl, hOm⟩ := on.readText
  have HTA := hide (fun w => ktextAt_any h m.half w on.ok on.half)
  have HCE := hide (fun w => kcells_any m.size w (by have := on.size; have := on.ok.2.2.2; omega))
  have hta : textAt h m.half ≤ 10000 := by
    have h1 := half_place (h := h) on.half
    have h2 := on.len
    unfold textAt
    omega
  have hce : cellsN m.size ≤ 10000 := by
    have h1 := on.size
    have h2 := on.ok.2.2.2
    unfold cellsN
    omega
  have HR2 := hide (fun (v : Value) (w : World) (h' : IsDrive w v ⟨cs, [], -1, false⟩) => read_any v _ ((textAt h m.half : Nat) : Int) ((cellsN m.size : Nat) : Int) w h' (by omega) (by omega))
  rw [hO] at HR2
  have HTP := hide (fun w => ktape_any h m w on.ok on.half)
  have hlat : logAt h m.half ≤ 10000 ∧ h.log ≤ 1500 ∧ m.serial ≤ 16777215 := by
    have h1 := half_place (h := h) on.half
    have h2 := on.len
    have h3 := on.ok
    unfold Hv.Ok at h3
    have h4 := on.serial
    omega
  have HSC := hide (fun (v : Value) (w : World) (h' : IsDrive w v ⟨cs, [], -1, false⟩) => scan_own v _ ⟨(logAt h m.half : Nat), (h.log : Nat), 0, (m.serial : Nat)⟩ w h' (by unfold Tp.In; dsimp only; omega))
  rw [on.scan hs] at HSC
  have hll : l.length ≤ 1500 := by
    have h1 := on.fits
    have h2 := span_ge' l
    have h3 := on.ok.2.1
    omega
  have hxt : (bs O).extract 0 m.size = bs text := by rw [← bs_take, hOt]
  have hos : (m.size : Int) ≤ ((bs O).size : Int) := by rw [bs_size]; omega
  obtain ⟨hv, hhv⟩ : ∃ z, bs (cs.getD 0 [] ++ cs.getD 1 []) = z := ⟨_, rfl⟩
  obtain ⟨ov, hov⟩ : ∃ z, bs O = z := ⟨_, rfl⟩
  obtain ⟨tv, htv⟩ : ∃ z, bs text = z := ⟨_, rfl⟩
  obtain ⟨nc, hnc⟩ : ∃ z, cs.length = z := ⟨_, rfl⟩
  rw [hnc] at HS hb6
  rw [hhv] at HR1 HNW
  rw [hov] at HR2 hxt hos
  rw [htv] at hxt
  have HTV := hide htv
  obtain ⟨ta, hta'⟩ : ∃ z, textAt h m.half = z := ⟨_, rfl⟩
  obtain ⟨ce, hce'⟩ : ∃ z, cellsN m.size = z := ⟨_, rfl⟩
  obtain ⟨la, hla'⟩ : ∃ z, logAt h m.half = z := ⟨_, rfl⟩
  rw [hta'] at HTA HR2
  rw [hce'] at HCE HR2
  rw [hla'] at HTP HSC
  have HLA := hide hla'
  unfold tpVal at HSC
  simp only at HSC
  have hm6 : m.size ≤ 64000 := by
    have h1 := on.size
    have h2 := on.ok.2.2.2
    omega
  have HI := hide hd
  have hdd := hd
  obtain ⟨a1, n1, c1, a2, n2, c2, fu, of, hdv, hda⟩ := hdd
  have hn1 : n1 = nc := by rw [← hnc]; exact hda.cells.len.symm
  obtain rfl := hda.fuel_eq
  obtain rfl := hda.off_eq
  unfold drvVal at hdv
  subst hdv
  subst hn1
  have HNC := hide hnc
  have hnz : ((n1 : Int) == 0) = false := by rw [beq_eq_false_iff_ne]; omega
  clear hta hce hO hOt hOl hOm hhv hov htv hnc hta' hce' hla' hlat hd hda on hin hs
  have HMM := hide (Eq.refl m)
  obtain ⟨g, hg⟩ : ∃ g, h.log = g := ⟨_, rfl⟩
  obtain ⟨t, ht'⟩ : ∃ t, h.text = t := ⟨_, rfl⟩
  have hvv : hvVal h = .agg #[.int .i64 (g : Int), .int .i64 (t : Int)] := by unfold hvVal; rw [hg, ht']
  rw [hvv] at HS HNW HTA HTP ⊢
  rw [hg] at HTP HSC
  have HG := hide (And.intro hg ht')
  obtain ⟨gn, hgn⟩ : ∃ z, m.gen = z := ⟨_, rfl⟩
  obtain ⟨hf, hhf⟩ : ∃ z, m.half = z := ⟨_, rfl⟩
  obtain ⟨sr, hsr⟩ : ∃ z, m.serial = z := ⟨_, rfl⟩
  obtain ⟨sz, hsz'⟩ : ∃ z, m.size = z := ⟨_, rfl⟩
  have hmv : hdVal m = .agg #[.int .i64 (gn : Int), .int .i64 (hf : Int), .int .i64 (sr : Int), .int .i64 (sz : Int)] := by unfold hdVal; rw [hgn, hhf, hsr, hsz']
  rw [hmv] at HNW HTP
  rw [hsr] at HTP HSC
  rw [hsz'] at HCE hxt hos hm6
  rw [hhf] at HTA
  have HMV := hide (show m = ⟨gn, hf, sr, sz⟩ by cases m; simp only at hgn hhf hsr hsz'; subst hgn hhf hsr hsz'; rfl)
  clear hg ht' hvv hgn hhf hsr hsz' hmv HMM
  obtain ⟨B0, B1⟩ := two_kinds w [.slice a1 n1 c1, .slice a2 n2 c2, .int .i64 (-1), .bool false] [.int .i64 (g : Int), .int .i64 (t : Int)] 44 27
  have hal : Below w.heap.size w ((w.alloc (.cells #[.slice a1 n1 c1, .slice a2 n2 c2, .int .i64 (-1), .bool false] 44)).alloc (.cells #[.int .i64 (g : Int), .int .i64 (t : Int)] 27)) := ((Below.refl _ _).alloc (Nat.le_refl _) _).alloc (by simp) _
  obtain ⟨W0, hW0⟩ : ∃ z, ((w.alloc (.cells #[.slice a1 n1 c1, .slice a2 n2 c2, .int .i64 (-1), .bool false] 44)).alloc (.cells #[.int .i64 (g : Int), .int .i64 (t : Int)] 27)) = z := ⟨_, rfl⟩
  rw [hW0] at B0 B1 hal
  have HD0 := hide (HI.out.below hal)
  go_enter Tryz.func10, Tryz.ntmps10
  go_upto_region 1 with fail
  try rw [hW0]
  clear hW0
  obtain ⟨b0, hb0⟩ : ∃ b, w.heap.size = b := ⟨_, rfl⟩
  rw [hb0] at B0 B1 ⊢
  obtain ⟨b1, hb1⟩ : ∃ b, b0 + 1 = b := ⟨_, rfl⟩
  rw [hb1] at B1 ⊢
  have hb0l : w.heap.size ≤ b0 := by omega
  have ho1 : b0 < b1 := by omega
  have hl1 := B1.lt
  clear hb0 hb1 HI
  have HK := hide (fun w' (h : Below W0.heap.size W0 w') => show (fun w' => Below W0.heap.size W0 w' ∧ w'.cell? ⟨b0, 0, none⟩ = some (.slice a1 n1 c1) ∧ w'.cell? ⟨b0, 1, none⟩ = some (.slice a2 n2 c2) ∧ w'.cell? ⟨b0, 2, none⟩ = some (.int .i64 (-1)) ∧ w'.cell? ⟨b0, 3, none⟩ = some (.bool false) ∧ w'.cell? ⟨b1, 0, none⟩ = some (.int .i64 (g : Int)) ∧ w'.cell? ⟨b1, 1, none⟩ = some (.int .i64 (t : Int))) w' from ⟨h, (B0.next h).cell 0, (B0.next h).cell 1, (B0.next h).cell 2, (B0.next h).cell 3, (B1.next h).cell 0, (B1.next h).cell 1⟩)
  go_region_held3 (fun w' => Below W0.heap.size W0 w' ∧ w'.cell? ⟨b0, 0, none⟩ = some (.slice a1 n1 c1) ∧ w'.cell? ⟨b0, 1, none⟩ = some (.slice a2 n2 c2) ∧ w'.cell? ⟨b0, 2, none⟩ = some (.int .i64 (-1)) ∧ w'.cell? ⟨b0, 3, none⟩ = some (.bool false) ∧ w'.cell? ⟨b1, 0, none⟩ = some (.int .i64 (g : Int)) ∧ w'.cell? ⟨b1, 1, none⟩ = some (.int .i64 (t : Int))) (first | exact HK.out _ (Below.drewed (Below.refl _ _)) | exact HK.out _ hbq.out) (first
    | (go_at_call 18
       have hq := (‹Below W0.heap.size W0 _ ∧ _›).1
       refine (HS.out _).mono ?_
       rintro e w8 ⟨rfl, hb8⟩
       have hbq := hide (chain hq hb8)
       clear hq hb8)
    | (go_at_call 30
       have hq := (‹Below W0.heap.size W0 _ ∧ _›).1
       refine (HMY.out _ _ (HD0.out.below hq)).mono ?_
       rintro e w8 ⟨rfl, hb8⟩
       have hbq := hide (chain hq hb8)
       clear hq hb8))
  have C0 := B0.next hbq.out
  have C1 := B1.next hbq.out
  have HD1 := hide (HD0.out.below hbq.out)
  have hbx := chain hal hbq.out
  clear HK hbq B0 B1 HD0 hal hl1 HS HMY
  obtain ⟨p0, p1, p2, p3, p4, p5, p6, p7⟩ := C0.four
  obtain ⟨q0, q1, q2, q3⟩ := C1.pair
  go_wp2_with fail
  refine (HR1.out _ _ HD1.out).mono ?_
  rintro e w2 ⟨rfl, hb2⟩
  have D0 := C0.next hb2
  have D1 := C1.next hb2
  have HD2 := hide (HD1.out.below hb2)
  have hby := chain hbx hb2
  clear p0 p1 p2 p3 p4 p5 p6 p7 q0 q1 q2 q3 C0 C1 HD1 hbx hb2 HR1
  obtain ⟨q0, q1, q2, q3⟩ := D1.pair
  go_wp2_with fail
  refine (HNW.out _).mono ?_
  rintro e w3 ⟨rfl, hb3⟩
  have E0 := D0.next hb3
  have E1 := D1.next hb3
  have HD3 := hide (HD2.out.below hb3)
  have hbz := chain hby hb3
  clear q0 q1 q2 q3 D0 D1 HD2 hby hb3 HNW
  go_upto_region 9 with fail
  have Q2 := Blk.new w3 [.int .i64 (gn : Int), .int .i64 (hf : Int), .int .i64 (sr : Int), .int .i64 (sz : Int)] 56
  have hal : Below w3.heap.size w3 (w3.alloc (.cells #[.int .i64 (gn : Int), .int .i64 (hf : Int), .int .i64 (sr : Int), .int .i64 (sz : Int)] 56)) := (Below.refl _ _).alloc (Nat.le_refl _) _
  obtain ⟨W4, hW4⟩ : ∃ z, w3.alloc (.cells #[.int .i64 (gn : Int), .int .i64 (hf : Int), .int .i64 (sr : Int), .int .i64 (sz : Int)] 56) = z := ⟨_, rfl⟩
  have F2 : Blk W4 w3.heap.size [.int .i64 (gn : Int), .int .i64 (hf : Int), .int .i64 (sr : Int), .int .i64 (sz : Int)] 56 := by rw [← hW4]; exact Q2
  rw [hW4] at hal
  have F0 := E0.next hal
  have F1 := E1.next hal
  have HD4 := hide (HD3.out.below hal)
  have hbv := chain hbz hal
  have hl3 := E1.lt
  try rw [hW4]
  clear hW4 Q2 E0 E1 HD3 hbz hal
  obtain ⟨b2, hb2⟩ : ∃ b, w3.heap.size = b := ⟨_, rfl⟩
  rw [hb2] at F2 hl3 ⊢
  clear hb2
  have HK := hide (fun w' (h : Below W4.heap.size W4 w') => show (fun w' => Below W4.heap.size W4 w' ∧ w'.cell? ⟨b0, 0, none⟩ = some (.slice a1 n1 c1) ∧ w'.cell? ⟨b0, 1, none⟩ = some (.slice a2 n2 c2) ∧ w'.cell? ⟨b0, 2, none⟩ = some (.int .i64 (-1)) ∧ w'.cell? ⟨b0, 3, none⟩ = some (.bool false) ∧ w'.cell? ⟨b1, 0, none⟩ = some (.int .i64 (g : Int)) ∧ w'.cell? ⟨b1, 1, none⟩ = some (.int .i64 (t : Int)) ∧ w'.cell? ⟨b2, 0, none⟩ = some (.int .i64 (gn : Int)) ∧ w'.cell? ⟨b2, 1, none⟩ = some (.int .i64 (hf : Int)) ∧ w'.cell? ⟨b2, 2, none⟩ = some (.int .i64 (sr : Int)) ∧ w'.cell? ⟨b2, 3, none⟩ = some (.int .i64 (sz : Int))) w' from ⟨h, (F0.next h).cell 0, (F0.next h).cell 1, (F0.next h).cell 2, (F0.next h).cell 3, (F1.next h).cell 0, (F1.next h).cell 1, (F2.next h).cell 0, (F2.next h).cell 1, (F2.next h).cell 2, (F2.next h).cell 3⟩)
  go_cut [10, 7] (fun s10 s7 wx => s10 = .string ov ∧ s7 = .int .i64 0 ∧ Below W4.heap.size W4 wx)
  case first =>
    go_region_held3 (fun w' => Below W4.heap.size W4 w' ∧ w'.cell? ⟨b0, 0, none⟩ = some (.slice a1 n1 c1) ∧ w'.cell? ⟨b0, 1, none⟩ = some (.slice a2 n2 c2) ∧ w'.cell? ⟨b0, 2, none⟩ = some (.int .i64 (-1)) ∧ w'.cell? ⟨b0, 3, none⟩ = some (.bool false) ∧ w'.cell? ⟨b1, 0, none⟩ = some (.int .i64 (g : Int)) ∧ w'.cell? ⟨b1, 1, none⟩ = some (.int .i64 (t : Int)) ∧ w'.cell? ⟨b2, 0, none⟩ = some (.int .i64 (gn : Int)) ∧ w'.cell? ⟨b2, 1, none⟩ = some (.int .i64 (hf : Int)) ∧ w'.cell? ⟨b2, 2, none⟩ = some (.int .i64 (sr : Int)) ∧ w'.cell? ⟨b2, 3, none⟩ = some (.int .i64 (sz : Int))) (first | exact HK.out _ (Below.drewed (Below.refl _ _)) | exact HK.out _ hbq.out) (first
      | (go_at_call 33
         have hq := (‹Below W4.heap.size W4 _ ∧ _›).1
         refine (HTA.out _).mono ?_
         rintro e w8 ⟨rfl, hb8⟩
         have hbq := hide (chain hq hb8)
         clear hq hb8)
      | (go_at_call 34
         have hq := (‹Below W4.heap.size W4 _ ∧ _›).1
         refine (HCE.out _).mono ?_
         rintro e w8 ⟨rfl, rfl⟩
         have hbq := hide (hq)
         clear hq)
      | (go_at_call 31
         have hq := (‹Below W4.heap.size W4 _ ∧ _›).1
         refine (HR2.out _ _ (HD4.out.below hq)).mono ?_
         rintro e w8 ⟨rfl, hb8⟩
         have hbq := hide (chain hq hb8)
         clear hq hb8))
    all_goals
      go_wp2_with fail
      go_meet
      exact ⟨rfl, rfl, hbq.out⟩
  case rest =>
    obtain ⟨wx, rfl⟩ : ∃ wx, wx = wc := ⟨_, rfl⟩
    obtain ⟨rfl, rfl, hb5⟩ := hcut
    have G0 := F0.next hb5
    have G1 := F1.next hb5
    have G2 := F2.next hb5
    have HD5 := hide (HD4.out.below hb5)
    have hbu := chain hbv hb5
    have hlg := G2.lt
    clear HK F0 F1 F2 HD4 hbv hb5 HTA HCE HR2
    go_upto_region 12 with fail
    go_cut [11, 12, 7] (fun s11 s12 s7 wy => ∃ (ao : Option Addr) (c b : Nat), s11 = .slice ao l.length c ∧ s12 = .pointer (some ⟨b, 0, none⟩) ∧ s7 = .int .i64 0 ∧ OwnS wy wx.heap.size (.slice ao l.length c) l ∧ b2 < b ∧ Blk wy b [.int .i64 (la : Int), .int .i64 (g : Int), .int .i64 ((span l : Nat) : Int), .int .i64 ((sr + l.length : Nat) : Int)] 63 ∧ Below wx.heap.size wx wy)
    case first =>
      refine (fun h : ∀ z13 z14 z15 z16 z17 z18 z19 z20 z21 z22 z23 z24 z25 z26 z27 z28 z29 z30 z31 z32 z33 z34 z35 z36 z37 z38 z39 z40 z41 z42 z43 z44 z45 z46 z47 z48 z49 z50 z51 z52 z53 z54 z55 z56 z57 z58 z59 z69 z70 z71 z72 z73 z74 z75 z76 z77 z78 z79 z80 z81 z82 y7 y60 y61 y62 y63 y64 y65 y66 y67 y68 : Value, Code.wp Tryz.prog ?_ ?_ ⟨#[.agg #[.slice a1 n1 c1, .slice a2 n2 c2, .int .i64 (-1), .bool false], .agg #[.int .i64 (g : Int), .int .i64 (t : Int)], .pointer (some ⟨b0, 0, none⟩), .pointer (some ⟨b1, 0, none⟩), .pointer none, .int .i64 0, .string hv, y7, .pointer (some ⟨b2, 0, none⟩), .bool true, .string ov, undef, undef, z13, z14, z15, z16, z17, z18, z19, z20, z21, z22, z23, z24, z25, z26, z27, z28, z29, z30, z31, z32, z33, z34, z35, z36, z37, z38, z39, z40, z41, z42, z43, z44, z45, z46, z47, z48, z49, z50, z51, z52, z53, z54, z55, z56, z57, z58, z59, y60, y61, y62, y63, y64, y65, y66, y67, y68, z69, z70, z71, z72, z73, z74, z75, z76, z77, z78, z79, z80, z81, z82], []⟩ wx => h _ _ _ _ _ _ _ _ _ _ _ _ _ _ _ _ _ _ _ _ _ _ _ _ _ _ _ _ _ _ _ _ _ _ _ _ _ _ _ _ _ _ _ _ _ _ _ _ _ _ _ _ _ _ _ _ _ _ _ _ _ _ _ _ _ _ _ _ _ _ _) ?_
      intro z13 z14 z15 z16 z17 z18 z19 z20 z21 z22 z23 z24 z25 z26 z27 z28 z29 z30 z31 z32 z33 z34 z35 z36 z37 z38 z39 z40 z41 z42 z43 z44 z45 z46 z47 z48 z49 z50 z51 z52 z53 z54 z55 z56 z57 z58 z59 z69 z70 z71 z72 z73 z74 z75 z76 z77 z78 z79 z80 z81 z82 y7 y60 y61 y62 y63 y64 y65 y66 y67 y68
      refine wp_region_inv2 (fun lq aa wq => ∃ x7 x11 x12 x60 x61 x62 x63 x64 x65 x66 x67 x68 : Value, aa = ⟨#[.agg #[.slice a1 n1 c1, .slice a2 n2 c2, .int .i64 (-1), .bool false], .agg #[.int .i64 (g : Int), .int .i64 (t : Int)], .pointer (some ⟨b0, 0, none⟩), .pointer (some ⟨b1, 0, none⟩), .pointer none, .int .i64 0, .string hv, x7, .pointer (some ⟨b2, 0, none⟩), .bool true, .string ov, x11, x12, z13, z14, z15, z16, z17, z18, z19, z20, z21, z22, z23, z24, z25, z26, z27, z28, z29, z30, z31, z32, z33, z34, z35, z36, z37, z38, z39, z40, z41, z42, z43, z44, z45, z46, z47, z48, z49, z50, z51, z52, z53, z54, z55, z56, z57, z58, z59, x60, x61, x62, x63, x64, x65, x66, x67, x68, z69, z70, z71, z72, z73, z74, z75, z76, z77, z78, z79, z80, z81, z82], []⟩ ∧ lq.size = 13 ∧ Below wx.heap.size wx wq ∧ Closed lq ([(3, 1), (3, 2), (4, 0), (4, 3), (5, 4), (6, 5), (7, 5), (8, 5), (10, 6), (11, 7), (11, 9), (12, 8)] : List (Nat × Nat)) ∧ (fl lq 0 → x61 = .agg #[.slice a1 n1 c1, .slice a2 n2 c2, .int .i64 (-1), .bool false]) ∧ (fl lq 1 → x62 = .agg #[.int .i64 (g : Int), .int .i64 (t : Int)]) ∧ (fl lq 2 → x63 = .agg #[.int .i64 (gn : Int), .int .i64 (hf : Int), .int .i64 (sr : Int), .int .i64 (sz : Int)]) ∧ (fl lq 3 → x64 = .agg #[.int .i64 (la : Int), .int .i64 (g : Int), .int .i64 0, .int .i64 (sr : Int)]) ∧ (fl lq 4 → ∃ ao c, x65 = .tuple #[.slice ao l.length c, .agg #[.int .i64 (la : Int), .int .i64 (g : Int), .int .i64 ((span l : Nat) : Int), .int .i64 ((sr + l.length : Nat) : Int)], .int .i64 0] ∧ OwnS wq wx.heap.size (.slice ao l.length c) l) ∧ (fl lq 5 → ∃ ao c, x60 = .tuple #[.slice ao l.length c, .agg #[.int .i64 (la : Int), .int .i64 (g : Int), .int .i64 ((span l : Nat) : Int), .int .i64 ((sr + l.length : Nat) : Int)], .int .i64 0] ∧ OwnS wq wx.heap.size (.slice ao l.length c) l) ∧ (fl lq 6 → ∃ ao c, x66 = .slice ao l.length c ∧ OwnS wq wx.heap.size (.slice ao l.length c) l) ∧ (fl lq 7 → x67 = .agg #[.int .i64 (la : Int), .int .i64 (g : Int), .int .i64 ((span l : Nat) : Int), .int .i64 ((sr + l.length : Nat) : Int)]) ∧ (fl lq 8 → x68 = .int .i64 0) ∧ (fl lq 9 → ∃ b vs, x12 = .pointer (some ⟨b, 0, none⟩) ∧ wx.heap.size ≤ b ∧ vs.length = 4 ∧ Blk wq b vs 63) ∧ (fl lq 10 → ∃ ao c, x11 = .slice ao l.length c ∧ OwnS wq wx.heap.size (.slice ao l.length c) l) ∧ (fl lq 11 → ∃ b, x12 = .pointer (some ⟨b, 0, none⟩) ∧ wx.heap.size ≤ b ∧ Blk wq b [.int .i64 (la : Int), .int .i64 (g : Int), .int .i64 ((span l : Nat) : Int), .int .i64 ((sr + l.length : Nat) : Int)] 63) ∧ (fl lq 12 → x7 = .int .i64 0)) (by kernel_rfl) (ord_of2 (by decide +kernel)) ⟨_, _, _, _, _, _, _, _, _, _, _, _, rfl, by simp, Below.drewed (Below.refl _ _), Closed.zero _ _, fun f => absurd f (fl_none _ _), fun f => absurd f (fl_none _ _), fun f => absurd f (fl_none _ _), fun f => absurd f (fl_none _ _), fun f => absurd f (fl_none _ _), fun f => absurd f (fl_none _ _), fun f => absurd f (fl_none _ _), fun f => absurd f (fl_none _ _), fun f => absurd f (fl_none _ _), fun f => absurd f (fl_none _ _), fun f => absurd f (fl_none _ _), fun f => absurd f (fl_none _ _), fun f => absurd f (fl_none _ _)⟩ ?_ ?_
      · intro lq aa w3 i o ho hI h1 h2 KK hK
        obtain ⟨x7, x11, x12, x60, x61, x62, x63, x64, x65, x66, x67, x68, rfl, hsz, hbw3, hcl, g0, g1, g2, g3, g4, g5, g6, g7, g8, g9, g10, g11, g12⟩ := hI
        have hi : i < 13 := (Array.getElem?_eq_some_iff.1 ho).1
        have R0 := G0.next hbw3
        have R1 := G1.next hbw3
        have R2 := G2.next hbw3
        obtain ⟨p0, p1, p2, p3, p4, p5, p6, p7⟩ := R0.four
        obtain ⟨q0, q1, q2, q3⟩ := R1.pair
        obtain ⟨r0, r1, r2, r3, r4, r5, r6, r7⟩ := R2.four
        have hcase : i = 0 ∨ i = 1 ∨ i = 2 ∨ i = 3 ∨ i = 4 ∨ i = 5 ∨ i = 6 ∨ i = 7 ∨ i = 8 ∨ i = 9 ∨ i = 10 ∨ i = 11 ∨ i = 12 := by omega
        rcases hcase with rfl | rfl | rfl | rfl | rfl | rfl | rfl | rfl | rfl | rfl | rfl | rfl | rfl
        · cases ho
          go_simp
          exact hK _ _ ⟨_, _, _, _, _, _, _, _, _, _, _, _, rfl, by simpa using hsz, hbw3, hcl.step 0 [] (by decide) all_nil, fun _ => rfl, fun f => (g1 (fl_set f (by decide))), fun f => (g2 (fl_set f (by decide))), fun f => (g3 (fl_set f (by decide))), fun f => absurd (hcl.on (by decide) (fl_set f (by decide))) (fl_not h1), fun f => (g5 (fl_set f (by decide))), fun f => (g6 (fl_set f (by decide))), fun f => (g7 (fl_set f (by decide))), fun f => (g8 (fl_set f (by decide))), fun f => (g9 (fl_set f (by decide))), fun f => (g10 (fl_set f (by decide))), fun f => (g11 (fl_set f (by decide))), fun f => (g12 (fl_set f (by decide)))⟩
        · cases ho
          go_simp
          exact hK _ _ ⟨_, _, _, _, _, _, _, _, _, _, _, _, rfl, by simpa using hsz, hbw3, hcl.step 1 [] (by decide) all_nil, fun f => (g0 (fl_set f (by decide))), fun _ => rfl, fun f => (g2 (fl_set f (by decide))), fun f => absurd (hcl.on (by decide) (fl_set f (by decide))) (fl_not h1), fun f => (g4 (fl_set f (by decide))), fun f => (g5 (fl_set f (by decide))), fun f => (g6 (fl_set f (by decide))), fun f => (g7 (fl_set f (by decide))), fun f => (g8 (fl_set f (by decide))), fun f => (g9 (fl_set f (by decide))), fun f => (g10 (fl_set f (by decide))), fun f => (g11 (fl_set f (by decide))), fun f => (g12 (fl_set f (by decide)))⟩
        · cases ho
          go_simp
          exact hK _ _ ⟨_, _, _, _, _, _, _, _, _, _, _, _, rfl, by simpa using hsz, hbw3, hcl.step 2 [] (by decide) all_nil, fun f => (g0 (fl_set f (by decide))), fun f => (g1 (fl_set f (by decide))), fun _ => rfl, fun f => absurd (hcl.on (by decide) (fl_set f (by decide))) (fl_not h1), fun f => (g4 (fl_set f (by decide))), fun f => (g5 (fl_set f (by decide))), fun f => (g6 (fl_set f (by decide))), fun f => (g7 (fl_set f (by decide))), fun f => (g8 (fl_set f (by decide))), fun f => (g9 (fl_set f (by decide))), fun f => (g10 (fl_set f (by decide))), fun f => (g11 (fl_set f (by decide))), fun f => (g12 (fl_set f (by decide)))⟩
        · cases ho
          have f1 : fl lq 1 := h2 ⟨1, .data⟩ (by simp) rfl
          have f2 : fl lq 2 := h2 ⟨2, .data⟩ (by simp) rfl
          obtain rfl := g1 f1
          obtain rfl := g2 f2
          go_simp
          go_at_call 21
          refine (HTP.out _).mono ?_
          rintro e w' ⟨rfl, hb⟩
          exact hK _ _ ⟨_, _, _, _, _, _, _, _, _, _, _, _, rfl, by simpa using hsz, chain hbw3 hb, hcl.step 3 [1, 2] (by decide) (all_cons f1 (all_cons f2 all_nil)), fun f => (g0 (fl_set f (by decide))), fun f => (g1 (fl_set f (by decide))), fun f => (g2 (fl_set f (by decide))), fun _ => rfl, fun f => absurd (hcl.on (by decide) (fl_set f (by decide))) (fl_not h1), fun f => (let ⟨ao, c, h1, h2⟩ := (g5 (fl_set f (by decide))); ⟨ao, c, h1, OwnZ.below h2 hb⟩), fun f => (let ⟨ao, c, h1, h2⟩ := (g6 (fl_set f (by decide))); ⟨ao, c, h1, OwnZ.below h2 hb⟩), fun f => (g7 (fl_set f (by decide))), fun f => (g8 (fl_set f (by decide))), fun f => (let ⟨b, vs, h1, h2, h3, h4⟩ := (g9 (fl_set f (by decide))); ⟨b, vs, h1, h2, h3, h4.next hb⟩), fun f => (let ⟨ao, c, h1, h2⟩ := (g10 (fl_set f (by decide))); ⟨ao, c, h1, OwnZ.below h2 hb⟩), fun f => (let ⟨b, h1, h2, h3⟩ := (g11 (fl_set f (by decide))); ⟨b, h1, h2, h3.next hb⟩), fun f => (g12 (fl_set f (by decide)))⟩
        · cases ho
          have f0 : fl lq 0 := h2 ⟨0, .data⟩ (by simp) rfl
          have f3 : fl lq 3 := h2 ⟨3, .data⟩ (by simp) rfl
          obtain rfl := g0 f0
          obtain rfl := g3 f3
          go_simp
          go_at_call 35
          refine (HSC.out _ _ (HD5.out.below hbw3)).mono ?_
          rintro e w' ⟨ao, c, rfl, ho, hb⟩
          exact hK _ _ ⟨_, _, _, _, _, _, _, _, _, _, _, _, rfl, by simpa using hsz, chain hbw3 hb, hcl.step 4 [0, 3] (by decide) (all_cons f0 (all_cons f3 all_nil)), fun f => (g0 (fl_set f (by decide))), fun f => (g1 (fl_set f (by decide))), fun f => (g2 (fl_set f (by decide))), fun f => (g3 (fl_set f (by decide))), fun _ => ⟨ao, c, rfl, OwnZ.base (OwnZ.below ho (Below.refl _ _)) hbw3.size⟩, fun f => absurd (hcl.on (by decide) (fl_set f (by decide))) (fl_not h1), fun f => (let ⟨ao, c, h1, h2⟩ := (g6 (fl_set f (by decide))); ⟨ao, c, h1, OwnZ.below h2 hb⟩), fun f => (g7 (fl_set f (by decide))), fun f => (g8 (fl_set f (by decide))), fun f => (let ⟨b, vs, h1, h2, h3, h4⟩ := (g9 (fl_set f (by decide))); ⟨b, vs, h1, h2, h3, h4.next hb⟩), fun f => (let ⟨ao, c, h1, h2⟩ := (g10 (fl_set f (by decide))); ⟨ao, c, h1, OwnZ.below h2 hb⟩), fun f => (let ⟨b, h1, h2, h3⟩ := (g11 (fl_set f (by decide))); ⟨b, h1, h2, h3.next hb⟩), fun f => (g12 (fl_set f (by decide)))⟩
        · cases ho
          have f4 : fl lq 4 := h2 ⟨4, .data⟩ (by simp) rfl
          obtain ⟨ao, c, rfl, ho⟩ := g4 f4
          go_simp
          exact hK _ _ ⟨_, _, _, _, _, _, _, _, _, _, _, _, rfl, by simpa using hsz, hbw3, hcl.step 5 [4] (by decide) (all_cons f4 all_nil), fun f => (g0 (fl_set f (by decide))), fun f => (g1 (fl_set f (by decide))), fun f => (g2 (fl_set f (by decide))), fun f => (g3 (fl_set f (by decide))), fun f => (g4 (fl_set f (by decide))), fun _ => ⟨ao, c, rfl, ho⟩, fun f => absurd (hcl.on (by decide) (fl_set f (by decide))) (fl_not h1), fun f => absurd (hcl.on (by decide) (fl_set f (by decide))) (fl_not h1), fun f => absurd (hcl.on (by decide) (fl_set f (by decide))) (fl_not h1), fun f => (g9 (fl_set f (by decide))), fun f => (g10 (fl_set f (by decide))), fun f => (g11 (fl_set f (by decide))), fun f => (g12 (fl_set f (by decide)))⟩
        · cases ho
          have f5 : fl lq 5 := h2 ⟨5, .data⟩ (by simp) rfl
          obtain ⟨ao, c, rfl, ho⟩ := g5 f5
          go_simp
          exact hK _ _ ⟨_, _, _, _, _, _, _, _, _, _, _, _, rfl, by simpa using hsz, hbw3, hcl.step 6 [5] (by decide) (all_cons f5 all_nil), fun f => (g0 (fl_set f (by decide))), fun f => (g1 (fl_set f (by decide))), fun f => (g2 (fl_set f (by decide))), fun f => (g3 (fl_set f (by decide))), fun f => (g4 (fl_set f (by decide))), fun f => (g5 (fl_set f (by decide))), fun _ => ⟨ao, c, rfl, ho⟩, fun f => (g7 (fl_set f (by decide))), fun f => (g8 (fl_set f (by decide))), fun f => (g9 (fl_set f (by decide))), fun f => absurd (hcl.on (by decide) (fl_set f (by decide))) (fl_not h1), fun f => (g11 (fl_set f (by decide))), fun f => (g12 (fl_set f (by decide)))⟩
        · cases ho
          have f5 : fl lq 5 := h2 ⟨5, .data⟩ (by simp) rfl
          obtain ⟨ao, c, rfl, ho⟩ := g5 f5
          go_simp
          exact hK _ _ ⟨_, _, _, _, _, _, _, _, _, _, _, _, rfl, by simpa using hsz, hbw3, hcl.step 7 [5] (by decide) (all_cons f5 all_nil), fun f => (g0 (fl_set f (by decide))), fun f => (g1 (fl_set f (by decide))), fun f => (g2 (fl_set f (by decide))), fun f => (g3 (fl_set f (by decide))), fun f => (g4 (fl_set f (by decide))), fun f => (g5 (fl_set f (by decide))), fun f => (g6 (fl_set f (by decide))), fun _ => rfl, fun f => (g8 (fl_set f (by decide))), fun f => (g9 (fl_set f (by decide))), fun f => (g10 (fl_set f (by decide))), fun f => absurd (hcl.on (by decide) (fl_set f (by decide))) (fl_not h1), fun f => (g12 (fl_set f (by decide)))⟩
        · cases ho
          have f5 : fl lq 5 := h2 ⟨5, .data⟩ (by simp) rfl
          obtain ⟨ao, c, rfl, ho⟩ := g5 f5
          go_simp
          exact hK _ _ ⟨_, _, _, _, _, _, _, _, _, _, _, _, rfl, by simpa using hsz, hbw3, hcl.step 8 [5] (by decide) (all_cons f5 all_nil), fun f => (g0 (fl_set f (by decide))), fun f => (g1 (fl_set f (by decide))), fun f => (g2 (fl_set f (by decide))), fun f => (g3 (fl_set f (by decide))), fun f => (g4 (fl_set f (by decide))), fun f => (g5 (fl_set f (by decide))), fun f => (g6 (fl_set f (by decide))), fun f => (g7 (fl_set f (by decide))), fun _ => rfl, fun f => (g9 (fl_set f (by decide))), fun f => (g10 (fl_set f (by decide))), fun f => (g11 (fl_set f (by decide))), fun f => absurd (hcl.on (by decide) (fl_set f (by decide))) (fl_not h1)⟩
        · cases ho
          go_simp
          exact hK _ _ ⟨_, _, _, _, _, _, _, _, _, _, _, _, rfl, by simpa using hsz, hbw3.alloc hbw3.size _, hcl.step 9 [] (by decide) all_nil, fun f => (g0 (fl_set f (by decide))), fun f => (g1 (fl_set f (by decide))), fun f => (g2 (fl_set f (by decide))), fun f => (g3 (fl_set f (by decide))), fun f => (let ⟨ao, c, h1, h2⟩ := (g4 (fl_set f (by decide))); ⟨ao, c, h1, OwnZ.below h2 ((Below.refl w3.heap.size w3).alloc (Nat.le_refl _) _)⟩), fun f => (let ⟨ao, c, h1, h2⟩ := (g5 (fl_set f (by decide))); ⟨ao, c, h1, OwnZ.below h2 ((Below.refl w3.heap.size w3).alloc (Nat.le_refl _) _)⟩), fun f => (let ⟨ao, c, h1, h2⟩ := (g6 (fl_set f (by decide))); ⟨ao, c, h1, OwnZ.below h2 ((Below.refl w3.heap.size w3).alloc (Nat.le_refl _) _)⟩), fun f => (g7 (fl_set f (by decide))), fun f => (g8 (fl_set f (by decide))), fun _ => ⟨w3.heap.size, [.int .i64 0, .int .i64 0, .int .i64 0, .int .i64 0], rfl, hbw3.size, rfl, Blk.new w3 [.int .i64 0, .int .i64 0, .int .i64 0, .int .i64 0] _⟩, fun f => (let ⟨ao, c, h1, h2⟩ := (g10 (fl_set f (by decide))); ⟨ao, c, h1, OwnZ.below h2 ((Below.refl w3.heap.size w3).alloc (Nat.le_refl _) _)⟩), fun f => absurd (hcl.on (by decide) (fl_set f (by decide))) (fl_not h1), fun f => (g12 (fl_set f (by decide)))⟩
        · cases ho
          have f6 : fl lq 6 := h2 ⟨6, .data⟩ (by simp) rfl
          obtain ⟨ao, c, rfl, ho⟩ := g6 f6
          go_simp
          exact hK _ _ ⟨_, _, _, _, _, _, _, _, _, _, _, _, rfl, by simpa using hsz, hbw3, hcl.step 10 [6] (by decide) (all_cons f6 all_nil), fun f => (g0 (fl_set f (by decide))), fun f => (g1 (fl_set f (by decide))), fun f => (g2 (fl_set f (by decide))), fun f => (g3 (fl_set f (by decide))), fun f => (g4 (fl_set f (by decide))), fun f => (g5 (fl_set f (by decide))), fun f => (g6 (fl_set f (by decide))), fun f => (g7 (fl_set f (by decide))), fun f => (g8 (fl_set f (by decide))), fun f => (g9 (fl_set f (by decide))), fun _ => ⟨ao, c, rfl, ho⟩, fun f => (g11 (fl_set f (by decide))), fun f => (g12 (fl_set f (by decide)))⟩
        · cases ho
          have f7 : fl lq 7 := h2 ⟨7, .data⟩ (by simp) rfl
          have f9 : fl lq 9 := h2 ⟨9, .data⟩ (by simp) rfl
          obtain rfl := g7 f7
          obtain ⟨b, vs, rfl, hB, hvs, hH⟩ := g9 f9
          obtain ⟨u0, u1, u2, u3, rfl⟩ : ∃ u0 u1 u2 u3, vs = [u0, u1, u2, u3] := by match vs, hvs with | [u0, u1, u2, u3], _ => exact ⟨u0, u1, u2, u3, rfl⟩
          obtain ⟨y0, y1, y2, y3, y4, y5, y6, y7⟩ := hH.four
          go_simp
          exact hK _ _ ⟨_, _, _, _, _, _, _, _, _, _, _, _, rfl, by simpa using hsz, below4 hbw3 hB _ _ _ _, hcl.step 11 [7, 9] (by decide) (all_cons f7 (all_cons f9 all_nil)), fun f => (g0 (fl_set f (by decide))), fun f => (g1 (fl_set f (by decide))), fun f => (g2 (fl_set f (by decide))), fun f => (g3 (fl_set f (by decide))), fun f => (let ⟨ao, c, h1, h2⟩ := (g4 (fl_set f (by decide))); ⟨ao, c, h1, OwnZ.set4 h2 hH (by decide) _ _ _ _⟩), fun f => (let ⟨ao, c, h1, h2⟩ := (g5 (fl_set f (by decide))); ⟨ao, c, h1, OwnZ.set4 h2 hH (by decide) _ _ _ _⟩), fun f => (let ⟨ao, c, h1, h2⟩ := (g6 (fl_set f (by decide))); ⟨ao, c, h1, OwnZ.set4 h2 hH (by decide) _ _ _ _⟩), fun f => (g7 (fl_set f (by decide))), fun f => (g8 (fl_set f (by decide))), fun f => ⟨b, _, rfl, hB, rfl, hH.set4 _ _ _ _⟩, fun f => (let ⟨ao, c, h1, h2⟩ := (g10 (fl_set f (by decide))); ⟨ao, c, h1, OwnZ.set4 h2 hH (by decide) _ _ _ _⟩), fun _ => ⟨b, rfl, hB, hH.set4 _ _ _ _⟩, fun f => (g12 (fl_set f (by decide)))⟩
        · cases ho
          have f8 : fl lq 8 := h2 ⟨8, .data⟩ (by simp) rfl
          obtain rfl := g8 f8
          go_simp
          exact hK _ _ ⟨_, _, _, _, _, _, _, _, _, _, _, _, rfl, by simpa using hsz, hbw3, hcl.step 12 [8] (by decide) (all_cons f8 all_nil), fun f => (g0 (fl_set f (by decide))), fun f => (g1 (fl_set f (by decide))), fun f => (g2 (fl_set f (by decide))), fun f => (g3 (fl_set f (by decide))), fun f => (g4 (fl_set f (by decide))), fun f => (g5 (fl_set f (by decide))), fun f => (g6 (fl_set f (by decide))), fun f => (g7 (fl_set f (by decide))), fun f => (g8 (fl_set f (by decide))), fun f => (g9 (fl_set f (by decide))), fun f => (g10 (fl_set f (by decide))), fun f => (g11 (fl_set f (by decide))), fun _ => rfl⟩
      · intro lq aa w3 hI hall
        obtain ⟨x7, x11, x12, x60, x61, x62, x63, x64, x65, x66, x67, x68, rfl, hsz, hbw3, hcl, g0, g1, g2, g3, g4, g5, g6, g7, g8, g9, g10, g11, g12⟩ := hI
        obtain ⟨ao, c, rfl, ho⟩ := g10 (fl_all hall hsz (by decide))
        obtain ⟨b, rfl, hB, hH⟩ := g11 (fl_all hall hsz (by decide))
        obtain rfl := g12 (fl_all hall hsz (by decide))
        dsimp only
        go_wp2_with fail
        go_meet
        exact ⟨ao, c, b, rfl, rfl, rfl, ho, by omega, hH, hbw3⟩
    case rest =>
      obtain ⟨wy, rfl⟩ : ∃ wx, wx = wc := ⟨_, rfl⟩
      obtain ⟨ao, c, b3, rfl, rfl, rfl, hown, ho3, K3, hb6'⟩ := hcut
      have K0 := G0.next hb6'
      have K1 := G1.next hb6'
      have K2 := G2.next hb6'
      have HD6 := hide (HD5.out.below hb6')
      have hbt := chain hbu hb6'
      have HOW := hide (OwnZ.base hown (show w.heap.size ≤ wx.heap.size from hbu.size))
      have hl3' := K3.lt
      clear G0 G1 G2 HD5 hbu hb6' hown HSC HTP
      go_upto_region 15 with fail
      have HK := hide (fun w' (h : Below wy.heap.size wy w') => show (fun w' => Below wy.heap.size wy w' ∧ w'.cell? ⟨b0, 0, none⟩ = some (.slice a1 n1 c1) ∧ w'.cell? ⟨b0, 1, none⟩ = some (.slice a2 n2 c2) ∧ w'.cell? ⟨b0, 2, none⟩ = some (.int .i64 (-1)) ∧ w'.cell? ⟨b0, 3, none⟩ = some (.bool false) ∧ w'.cell? ⟨b1, 0, none⟩ = some (.int .i64 (g : Int)) ∧ w'.cell? ⟨b1, 1, none⟩ = some (.int .i64 (t : Int)) ∧ w'.cell? ⟨b2, 0, none⟩ = some (.int .i64 (gn : Int)) ∧ w'.cell? ⟨b2, 1, none⟩ = some (.int .i64 (hf : Int)) ∧ w'.cell? ⟨b2, 2, none⟩ = some (.int .i64 (sr : Int)) ∧ w'.cell? ⟨b2, 3, none⟩ = some (.int .i64 (sz : Int)) ∧ w'.cell? ⟨b3, 0, none⟩ = some (.int .i64 (la : Int)) ∧ w'.cell? ⟨b3, 1, none⟩ = some (.int .i64 (g : Int)) ∧ w'.cell? ⟨b3, 2, none⟩ = some (.int .i64 ((span l : Nat) : Int)) ∧ w'.cell? ⟨b3, 3, none⟩ = some (.int .i64 ((sr + l.length : Nat) : Int))) w' from ⟨h, (K0.next h).cell 0, (K0.next h).cell 1, (K0.next h).cell 2, (K0.next h).cell 3, (K1.next h).cell 0, (K1.next h).cell 1, (K2.next h).cell 0, (K2.next h).cell 1, (K2.next h).cell 2, (K2.next h).cell 3, (K3.next h).cell 0, (K3.next h).cell 1, (K3.next h).cell 2, (K3.next h).cell 3⟩)
      go_region_held3 (fun w' => Below wy.heap.size wy w' ∧ w'.cell? ⟨b0, 0, none⟩ = some (.slice a1 n1 c1) ∧ w'.cell? ⟨b0, 1, none⟩ = some (.slice a2 n2 c2) ∧ w'.cell? ⟨b0, 2, none⟩ = some (.int .i64 (-1)) ∧ w'.cell? ⟨b0, 3, none⟩ = some (.bool false) ∧ w'.cell? ⟨b1, 0, none⟩ = some (.int .i64 (g : Int)) ∧ w'.cell? ⟨b1, 1, none⟩ = some (.int .i64 (t : Int)) ∧ w'.cell? ⟨b2, 0, none⟩ = some (.int .i64 (gn : Int)) ∧ w'.cell? ⟨b2, 1, none⟩ = some (.int .i64 (hf : Int)) ∧ w'.cell? ⟨b2, 2, none⟩ = some (.int .i64 (sr : Int)) ∧ w'.cell? ⟨b2, 3, none⟩ = some (.int .i64 (sz : Int)) ∧ w'.cell? ⟨b3, 0, none⟩ = some (.int .i64 (la : Int)) ∧ w'.cell? ⟨b3, 1, none⟩ = some (.int .i64 (g : Int)) ∧ w'.cell? ⟨b3, 2, none⟩ = some (.int .i64 ((span l : Nat) : Int)) ∧ w'.cell? ⟨b3, 3, none⟩ = some (.int .i64 ((sr + l.length : Nat) : Int))) (first | exact HK.out _ (Below.drewed (Below.refl _ _)) | exact HK.out _ ((Below.drewed (Below.refl _ _)).alloc (Nat.le_refl _) _)) (fail)
      have HC : Hid (kpCells h m a1 n1 c1 a2 n2 c2 (kpTape h m l) (bs text) (.slice ao l.length c) = [.int .i64 (gn : Int), .int .i64 (hf : Int), .int .i64 (sr : Int), .int .i64 (sz : Int), .int .i64 (g : Int), .int .i64 (t : Int), .slice a1 n1 c1, .slice a2 n2 c2, .int .i64 (-1), .bool false, .int .i64 (la : Int), .int .i64 (g : Int), .int .i64 ((span l : Nat) : Int), .int .i64 ((sr : Int) + (l.length : Int)), .string tv, .slice ao l.length c]) := hide (by
        have hm := HMV.out
        unfold kpCells kpTape
        simp only
        rw [HTV.out, HLA.out, HG.out.1, HG.out.2, hm]
        simp only
        push_cast
        rfl)
      have hB9 := Blk.new wy [.int .i64 (gn : Int), .int .i64 (hf : Int), .int .i64 (sr : Int), .int .i64 (sz : Int), .int .i64 (g : Int), .int .i64 (t : Int), .slice a1 n1 c1, .slice a2 n2 c2, .int .i64 (-1), .bool false, .int .i64 (la : Int), .int .i64 (g : Int), .int .i64 ((span l : Nat) : Int), .int .i64 ((sr : Int) + (l.length : Int)), .string tv, .slice ao l.length c] 66
      have hal9 : Below wy.heap.size wy (wy.alloc (.cells #[.int .i64 (gn : Int), .int .i64 (hf : Int), .int .i64 (sr : Int), .int .i64 (sz : Int), .int .i64 (g : Int), .int .i64 (t : Int), .slice a1 n1 c1, .slice a2 n2 c2, .int .i64 (-1), .bool false, .int .i64 (la : Int), .int .i64 (g : Int), .int .i64 ((span l : Nat) : Int), .int .i64 ((sr : Int) + (l.length : Int)), .string tv, .slice ao l.length c] 66)).drew := Below.drewed ((Below.refl _ _).alloc (Nat.le_refl _) _)
      obtain ⟨W9, hW9⟩ : ∃ z, (wy.alloc (.cells #[.int .i64 (gn : Int), .int .i64 (hf : Int), .int .i64 (sr : Int), .int .i64 (sz : Int), .int .i64 (g : Int), .int .i64 (t : Int), .slice a1 n1 c1, .slice a2 n2 c2, .int .i64 (-1), .bool false, .int .i64 (la : Int), .int .i64 (g : Int), .int .i64 ((span l : Nat) : Int), .int .i64 ((sr : Int) + (l.length : Int)), .string tv, .slice ao l.length c] 66)).drew = z := ⟨_, rfl⟩
      have hB9' : Blk W9 wy.heap.size [.int .i64 (gn : Int), .int .i64 (hf : Int), .int .i64 (sr : Int), .int .i64 (sz : Int), .int .i64 (g : Int), .int .i64 (t : Int), .slice a1 n1 c1, .slice a2 n2 c2, .int .i64 (-1), .bool false, .int .i64 (la : Int), .int .i64 (g : Int), .int .i64 ((span l : Nat) : Int), .int .i64 ((sr : Int) + (l.length : Int)), .string tv, .slice ao l.length c] 66 := by rw [← hW9]; exact hB9
      rw [hW9] at hal9
      try rw [hW9]
      have HD9 := hide (HD6.out.below hal9)
      have HO9 := hide (OwnZ.below HOW.out hal9)
      have hb9 := chain hbt hal9
      have hsw := hbt.size
      clear hW9 hB9 hal9 HD6 HOW hbt HK K0 K1 K2 K3
      go_wp2_with fail
      go_ret2
      refine ⟨wy.heap.size, .slice ao l.length c, rfl, hsw, ⟨⟨a1, n1, c1, a2, n2, c2, ?_, HD9.out⟩, HO9.out, HON.out⟩, hb9⟩
      rw [HC.out]
      exact hB9'

end Go.Proofs.YtogonkoeginoaaaGreatDoor

