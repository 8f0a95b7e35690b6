/-
  The walk through log.Scan: what a tape has.
-/
import Derived.Test.YtogonkoeginoaaaGreatDoorLogBegin
import Derived.Test.YtogonkoeginoaaaGreatDoorOwn
import Derived.Test.YtogonkoeginoaaaGreatDoorLogApp2
namespace Go.Proofs.YtogonkoeginoaaaGreatDoor
open Go.RowKit

theorem read_long (d : Drv) (a n : Int) : (d.read a n).1.length ≤ 384000 := by
  unfold Drv.read
  cases hm : d.mayB with
  | false => simp
  | true =>
    have hM := (Drv.mayB_iff d).1 hm
    simp only [Bool.true_eq_false, if_false]
    split
    · simp
    · split
      · simp
      · have h1 : ∀ c ∈ ((d.full.drop a.toNat).take n.toNat), c.length = 64 := fun c hc => full_mem hM c (List.mem_of_mem_drop (List.mem_of_mem_take hc))
        rw [flatten_64 _ h1, List.length_take, List.length_drop]
        have h2 : d.full.length = d.cells.length := puts_length _ _
        have := hM.most
        omega

theorem own_set1 {w : World} {base : Nat} {e : TypeId} {size : Nat} {v : Value} {n : Nat} {xs : List Value} (h : w.ownsRow base e size v n xs) {b : Nat} (hb : b < base) (i : Nat) (u : Value) : (w.setCell ⟨b, i, none⟩ u).ownsRow base e size v n xs :=
  h.kept (row := some b) ⟨rfl, rfl, rfl, by simp, fun k _ hk => Below.heap_setCell _ _ _ k (fun e => hk (by rw [e]))⟩ (.inr (fun e => own_ne h hb e.symm))

/-- What scanning has found so far. -/
structure ScanRel (o : List UInt8) (sr : Nat) (acc : List (List UInt8)) (o' : List UInt8) : Prop where
  rest : ∃ f, o'.length ≤ f ∧ scanL o.length o sr = acc ++ scanL f o' (sr + acc.length)
  long : 64 * span acc + o'.length = o.length
  serial : sr + acc.length ≤ 16777216
theorem ScanRel.start (o : List UInt8) {sr : Nat} (h : sr ≤ 16777216) : ScanRel o sr [] o := ⟨⟨o.length, Nat.le_refl _, by simp⟩, by simp [span], by simpa using h⟩
theorem ScanRel.next {o : List UInt8} {sr : Nat} {acc : List (List UInt8)} {o' : List UInt8} (h : ScanRel o sr acc o') (hb : beginOk o' (sr + acc.length) = true) : ScanRel o sr (acc ++ [recAt o']) (o'.drop (64 * kOf (recAt o').length)) := by
  have hB := begins_of hb
  obtain ⟨⟨f, hf, he⟩, hl, hs⟩ := h
  have hk := kOf_pos (recAt o').length
  refine ⟨?_, ?_, ?_⟩
  · cases f with
    | zero => have := hB.room; omega
    | succ f =>
      refine ⟨f, ?_, ?_⟩
      · rw [List.length_drop]; have := hB.fits; omega
      · rw [he, scanL, hb]
        simp only [if_true, List.append_assoc, List.cons_append, List.nil_append, List.length_append, List.length_cons, List.length_nil]
        rfl
  · rw [span_append, span_cons, List.length_drop]
    have := hB.fits
    have h0 : span [] = 0 := rfl
    omega
  · have := hB.serial
    simp only [List.length_append, List.length_cons, List.length_nil]
    omega
theorem ScanRel.stop {o : List UInt8} {sr : Nat} {acc : List (List UInt8)} {o' : List UInt8} (h : ScanRel o sr acc o') (hb : beginOk o' (sr + acc.length) = false) : scanL o.length o sr = acc := by
  obtain ⟨⟨f, hf, he⟩, _, _⟩ := h
  rw [he, scan_none hb, List.append_nil]
theorem span_ge (l : List (List UInt8)) : l.length ≤ span l := by
  induction l with
  | nil => simp [span]
  | cons s l ih => rw [span_cons, List.length_cons]; have := kOf_pos s.length; omega

theorem three_kinds (w : World) (vs us xs : List Value) (t t2 t3 : TypeId) :
    Blk (((w.alloc (.cells vs.toArray t)).alloc (.cells us.toArray t2)).alloc (.cells xs.toArray t3)) w.heap.size vs t ∧
    Blk (((w.alloc (.cells vs.toArray t)).alloc (.cells us.toArray t2)).alloc (.cells xs.toArray t3)) (w.heap.size + 1) us t2 ∧
    Blk (((w.alloc (.cells vs.toArray t)).alloc (.cells us.toArray t2)).alloc (.cells xs.toArray t3)) (w.heap.size + 1 + 1) xs t3 := by
  refine ⟨((Blk.new w vs t).alloc _).alloc _, ?_, ?_⟩
  · have := (Blk.new (w.alloc (.cells vs.toArray t)) us t2).alloc (.cells xs.toArray t3)
    simpa using this
  · have := Blk.new ((w.alloc (.cells vs.toArray t)).alloc (.cells us.toArray t2)) xs t3
    simpa using this

theorem scan_no (d : Drv) (t : Tp) : (tapeOk d t = false ∧ d.scan t = ([], Tp.zero, 1)) ∨ (tapeOk d t = true ∧ (d.read (t.from_ + t.pos) (t.len - t.pos)).2 ≠ 0 ∧ d.scan t = ([], Tp.zero, (d.read (t.from_ + t.pos) (t.len - t.pos)).2)) ∨
    (tapeOk d t = true ∧ (d.read (t.from_ + t.pos) (t.len - t.pos)).2 = 0) := by
  unfold Drv.scan
  cases h : tapeOk d t with
  | false => exact .inl ⟨rfl, rfl⟩
  | true =>
    right
    by_cases h2 : (d.read (t.from_ + t.pos) (t.len - t.pos)).2 = 0
    · exact .inr ⟨rfl, h2⟩
    · exact .inl ⟨rfl, h2, by rw [if_neg (by decide), if_pos h2]⟩

set_option maxRecDepth 100000 in
set_option maxHeartbeats 6400000 in
theorem scan_own (v : Value) (d : Drv) (t : Tp) (w : World) (h : IsDrive w v d) (ht : t.In) :
    Calls Tryz.prog 35 #[v, tpVal t] w fun e w' => ∃ ao c, e = .returned (.tuple #[.slice ao (d.scan t).1.length c, tpVal (d.scan t).2.1, .int .i64 (d.scan t).2.2]) ∧ OwnS w' w.heap.size (.slice ao (d.scan t).1.length c) (d.scan t).1 ∧ Below w.heap.size w w' := by
  have HM := hide (fun (v : Value) (w : World) (h : IsDrive w v d) => logmay_any v d t w h ht)
  have hno := scan_no d t
  have htin := tapeOk_in (d := d) (t := t)
  obtain ⟨f, ln, p, sr⟩ := t
  obtain ⟨h1, h2, h3, h4⟩ := ht
  simp only at h1 h2 h3 h4 hno htin
  have HRD := fun (h6 : 0 ≤ f ∧ 0 ≤ p ∧ f ≤ 6000 ∧ ln ≤ 6000 ∧ p ≤ ln) => hide (fun (v : Value) (w : World) (h : IsDrive w v d) => read_any v d (f + p) (ln - p) w h (by omega) (by omega))
  have hrl := read_long d (f + p) (ln - p)
  have HI := hide h
  obtain ⟨a1, n1, c1, a2, n2, c2, fu, of, rfl, _⟩ := h
  unfold drvVal at HI ⊢
  unfold tpVal at HM ⊢
  simp only at HM ⊢
  obtain ⟨B0, B1, B2⟩ := three_kinds w [.slice a1 n1 c1, .slice a2 n2 c2, .int .i64 fu, .bool of] [.int .i64 f, .int .i64 ln, .int .i64 p, .int .i64 sr] [.int .i64 0, .int .i64 0, .int .i64 0, .int .i64 0] 44 63 63
  obtain ⟨W0, hW0⟩ : ∃ W0, (((w.alloc (.cells #[.slice a1 n1 c1, .slice a2 n2 c2, .int .i64 fu, .bool of] 44)).alloc (.cells #[.int .i64 f, .int .i64 ln, .int .i64 p, .int .i64 sr] 63)).alloc (.cells #[.int .i64 0, .int .i64 0, .int .i64 0, .int .i64 0] 63)) = W0 := ⟨_, rfl⟩
  have hb0 : Below w.heap.size w W0 := by rw [← hW0]; exact (((Below.refl _ _).alloc (Nat.le_refl _) _).alloc (by simp) _).alloc (by simp; omega) _
  rw [hW0] at B0 B1 B2
  have HD0 := hide (HI.out.below hb0)
  obtain ⟨p0, p1, p2, p3, p4, p5, p6, p7⟩ := B0.four
  obtain ⟨q0, q1, q2, q3, q4, q5, q6, q7⟩ := B1.four
  rcases hno with ⟨hm, he⟩ | ⟨hm, hr, he⟩ | ⟨hm, hr⟩
  · rw [he]
    have HE := hide he
    rw [hm] at HM
    clear he hm htin HRD hrl
    go_enter Tryz.func35, Tryz.ntmps35
    go_wp2_with fail
    clear p0 p1 p2 p3 p4 p5 p6 p7 q0 q1 q2 q3 q4 q5 q6 q7
    refine (HM.out _ _ HD0.out).mono ?_
    rintro e w1 ⟨rfl, hb1⟩
    have C2 := B2.next hb1
    have hbx := chain hb0 hb1
    obtain ⟨q0, q1, q2, q3, q4, q5, q6, q7⟩ := C2.four
    go_wp2_with fail
    exact bodyPost_ret (v := .tuple #[.slice none 0 0, .agg #[.int .i64 0, .int .i64 0, .int .i64 0, .int .i64 0], .int .i64 1]) (by simp [results, Tryz.results35, go_sem, q0, q1, q2, q3]) rfl ⟨_, _, rfl, OwnS.nil _ _, below4 hbx (by omega) _ _ _ _⟩
  · obtain ⟨i1, i2, i3, i4, i5, i6, i7, i8, i9, i10⟩ := htin hm
    have HRD2 := HRD ⟨i2, i6, by omega, by omega, i7⟩
    rw [he]
    have HE := hide he
    rw [hm] at HM
    obtain ⟨⟨so, E⟩, hE⟩ : ∃ r, d.read (f + p) (ln - p) = r := ⟨_, rfl⟩
    rw [hE] at HRD2 hr ⊢
    simp only at hr
    have hEd : decide (E = 0) = false := decide_eq_false hr
    have hEb : (E != 0) = true := by rw [bne_iff_ne]; exact hr
    have hfp : f + p ≤ 12000 := by omega
    have hl6 : ln ≤ 6000 := by omega
    clear he hm htin HRD hrl hE hr i1 i3 i5 i10 h1 h2 h3 h4
    go_enter Tryz.func35, Tryz.ntmps35
    go_wp2_with fail
    clear p0 p1 p2 p3 p4 p5 p6 p7 q0 q1 q2 q3 q4 q5 q6 q7
    refine (HM.out _ _ HD0.out).mono ?_
    rintro e w1 ⟨rfl, hb1⟩
    have C0 := B0.next hb1
    have C1 := B1.next hb1
    have C2 := B2.next hb1
    have hbx := chain hb0 hb1
    have HD1 := hide (HD0.out.below hb1)
    clear B0 B1 B2 hb1
    obtain ⟨p0, p1, p2, p3, p4, p5, p6, p7⟩ := C0.four
    obtain ⟨q0, q1, q2, q3, q4, q5, q6, q7⟩ := C1.four
    go_wp2_with fail
    refine (HRD2.out _ _ HD1.out).mono ?_
    rintro e w2 ⟨rfl, hb2⟩
    have D2 := C2.next hb2
    have hby := chain hbx hb2
    clear p0 p1 p2 p3 p4 p5 p6 p7 q0 q1 q2 q3 q4 q5 q6 q7
    obtain ⟨q0, q1, q2, q3, q4, q5, q6, q7⟩ := D2.four
    go_wp2_with fail
    exact bodyPost_ret (v := .tuple #[.slice none 0 0, .agg #[.int .i64 0, .int .i64 0, .int .i64 0, .int .i64 0], .int .i64 E]) (by simp [results, Tryz.results35, go_sem, q0, q1, q2, q3]) rfl ⟨_, _, rfl, OwnS.nil _ _, below4 hby (by omega) _ _ _ _⟩
  · obtain ⟨i1, i2, i3, i4, i5, i6, i7, i8, i9, i10⟩ := htin hm
    have HRD2 := HRD ⟨i2, i6, by omega, by omega, i7⟩
    rw [hm] at HM
    obtain ⟨⟨o, E⟩, hE⟩ : ∃ r, d.read (f + p) (ln - p) = r := ⟨_, rfl⟩
    rw [hE] at HRD2 hr hrl
    simp only at hr hrl
    subst hr
    obtain ⟨srn, rfl⟩ := Int.eq_ofNat_of_zero_le (show 0 ≤ sr by omega)
    have he : d.scan ⟨f, ln, p, (srn : Int)⟩ = (scanL o.length o srn, ⟨f, ln, p + span (scanL o.length o srn), (srn : Int) + (scanL o.length o srn).length⟩, 0) := by
      unfold Drv.scan
      rw [hm, if_neg (by decide)]
      simp only [hE, Int.toNat_natCast]
      rw [if_neg (by simp)]
    have HST := hide (ScanRel.start o (sr := srn) (by omega))
    have hfp : f + p ≤ 12000 := by omega
    have hl6 : ln ≤ 6000 := by omega
    have hp6 : p ≤ 6000 := by omega
    have HE := hide he
    have HOL := hide hrl
    rw [he]
    clear he hm htin HRD hrl hE i1 i3 i5 i10 h1 h2 h3 h4
    obtain ⟨L, hL⟩ : ∃ L, scanL o.length o srn = L := ⟨_, rfl⟩
    have HL := hide hL
    rw [hL] at HE ⊢
    clear hL
    go_enter Tryz.func35, Tryz.ntmps35
    go_wp2_with fail
    clear p0 p1 p2 p3 p4 p5 p6 p7 q0 q1 q2 q3 q4 q5 q6 q7
    refine (HM.out _ _ HD0.out).mono ?_
    rintro e w1 ⟨rfl, hb1⟩
    have C0 := B0.next hb1
    have C1 := B1.next hb1
    have C2 := B2.next hb1
    have hbx := chain hb0 hb1
    have HD1 := hide (HD0.out.below hb1)
    clear B0 B1 B2 hb1
    obtain ⟨p0, p1, p2, p3, p4, p5, p6, p7⟩ := C0.four
    obtain ⟨q0, q1, q2, q3, q4, q5, q6, q7⟩ := C1.four
    go_wp2_with fail
    refine (HRD2.out _ _ HD1.out).mono ?_
    rintro e w2 ⟨rfl, hb2⟩
    have D1 := C1.next hb2
    have D2 := C2.next hb2
    have hby := chain hbx hb2
    clear p0 p1 p2 p3 p4 p5 p6 p7 q0 q1 q2 q3 q4 q5 q6 q7 hb2 hbx C0 C1 C2 HD1
    obtain ⟨b1, hb1'⟩ : ∃ b, w.heap.size + 1 = b := ⟨_, rfl⟩
    rw [hb1'] at D1 D2 ⊢
    obtain ⟨b2, hb2'⟩ : ∃ b, b1 + 1 = b := ⟨_, rfl⟩
    rw [hb2'] at D2 ⊢
    have ho1 : w.heap.size ≤ b1 := by omega
    have ho2 : b1 < b2 := by omega
    have hlw : b2 < w2.heap.size := D2.lt
    have hn12 : b1 ≠ b2 := by omega
    have hn21 : b2 ≠ b1 := by omega
    clear hb1' hb2'
    go_wp2_with fail
    go_loopw [7, 9] (fun s7 s9 wr => ∃ (acc : List (List UInt8)) (o' : List UInt8), s7 = .string (bs o') ∧ Hid (ScanRel o srn acc o') ∧ OwnS wr w2.heap.size s9 acc ∧ Blk wr b1 [.int .i64 f, .int .i64 ln, .int .i64 (p + (span acc : Nat)), .int .i64 ((srn : Int) + (acc.length : Nat))] 63 ∧ Blk wr b2 [.int .i64 0, .int .i64 0, .int .i64 0, .int .i64 0] 63 ∧ w2.heap.size ≤ wr.heap.size ∧ Below w.heap.size w wr) (fun s7 _ _ => match s7 with | .string z => z.size | _ => 0)
    case atStart => exact ⟨[], o, rfl, HST, OwnS.nil _ _, by simpa [span] using D1, D2, Nat.le_refl _, hby⟩
    case round =>
      obtain ⟨acc, o', rfl, hS, hown, K1, K2, hsx, hbw⟩ := hrel
      clear D1 D2 hby HST
      have hser := hS.out.serial
      have hlong := hS.out.long
      have hspg := span_ge acc
      have hol := HOL.out
      have hoo : o'.length ≤ 384000 := by omega
      have HBG := hide (fun w => begin_any o' (srn + acc.length) w (by omega) hser)
      have hcast : ((srn + acc.length : Nat) : Int) = (srn : Int) + (acc.length : Nat) := by push_cast; rfl
      rw [hcast] at HBG
      obtain ⟨q0, q1, q2, q3, q4, q5, q6, q7⟩ := K1.four
      have hk1 := K1.lt
      have hk2 := K2.lt
      have hos : (bs o').size = o'.length := bs_size o'
      obtain ⟨ov, hov⟩ : ∃ z, bs o' = z := ⟨_, rfl⟩
      have HOV := hide hov
      rw [hov] at hos HBG ⊢
      clear hov hcast
      obtain ⟨a9, c9, rfl, hc9, hm9, _⟩ := hown.form
      cases hbo : beginOk o' (srn + acc.length) with
      | false =>
        have hstop := hS.out.stop hbo
        have hbn : beginAns o' (srn + acc.length) = .tuple #[.string ⟨#[]⟩, .int .i64 0, .bool false] := by unfold beginAns; rw [hbo]; rfl
        rw [hbn] at HBG
        obtain rfl : L = acc := by rw [← HL.out, hstop]
        have HOWN := hide hown
        clear hbo hbn hstop hown hol hlong hos
        go_wp2_with fail
        refine (HBG.out _).mono ?_
        rintro e w3 ⟨rfl, hb3⟩
        have M1 := K1.next hb3
        have M2 := K2.next hb3
        have hbz := chain hbw hb3
        have HOWN3 := hide (OwnZ.below HOWN.out hb3)
        clear q0 q1 q2 q3 q4 q5 q6 q7 hb3
        obtain ⟨q0, q1, q2, q3, q4, q5, q6, q7⟩ := M1.four
        obtain ⟨g0, g1, g2, g3, g4, g5, g6, g7⟩ := M2.four
        have hm2 := M2.lt
        have hm1 := M1.lt
        go_wp2_with fail
        go_region_held3 (fun w' => w'.cell? ⟨b1, 0, none⟩ = some (.int .i64 f) ∧ w'.cell? ⟨b1, 1, none⟩ = some (.int .i64 ln) ∧ w'.cell? ⟨b1, 2, none⟩ = some (.int .i64 (p + (span L : Nat))) ∧ w'.cell? ⟨b1, 3, none⟩ = some (.int .i64 ((srn : Int) + (L.length : Nat)))) (go_keep) (fail)
        go_wp2_with fail
        have hw8 : Below w.heap.size w (((((w3.setCell ⟨b2, 0, none⟩ (.int .i64 f)).setCell ⟨b2, 1, none⟩ (.int .i64 ln)).setCell ⟨b2, 2, none⟩ (.int .i64 (p + (span L : Nat)))).setCell ⟨b2, 3, none⟩ (.int .i64 ((srn : Int) + (L.length : Nat)))).drew) := Below.drewed (below4 hbz (by omega) _ _ _ _)
        have hO8 : OwnS _ _ _ _ := OwnZ.below (OwnZ.set4 HOWN3.out M2 (by decide) (.int .i64 f) (.int .i64 ln) (.int .i64 (p + (span L : Nat))) (.int .i64 ((srn : Int) + (L.length : Nat)))) (Below.drewed (Below.refl _ _))
        exact bodyPost_ret (v := .tuple #[.slice a9 L.length c9, .agg #[.int .i64 f, .int .i64 ln, .int .i64 (p + (span L : Nat)), .int .i64 ((srn : Int) + (L.length : Nat))], .int .i64 0]) (by simp [results, Tryz.results35, go_sem, g0, g1, g2, g3]) rfl ⟨_, _, rfl, OwnZ.base hO8 (by omega), hw8⟩
      | true =>
        have hB := begins_of hbo
        have hbl := hB.len
        have hnx := hS.out.next hbo
        have hbn : beginAns o' (srn + acc.length) = .tuple #[.string (bs (recAt o')), .int .i64 (kOf (recAt o').length : Int), .bool true] := by unfold beginAns; rw [hbo, hbl]; rfl
        rw [hbn] at HBG
        have hfit := hB.fits
        have hmost := hB.most
        have hk67 := kOf_max hmost
        have hkp := kOf_pos (recAt o').length
        have hdr := bs_drop o' (64 * kOf (recAt o').length)
        have hls := hnx.serial
        rw [HOV.out] at hdr
        obtain ⟨rl, hrl⟩ : ∃ z, recAt o' = z := ⟨_, rfl⟩
        rw [hrl] at hnx HBG hfit hk67 hkp hdr hls
        have hsp1 : span (acc ++ [rl]) = span acc + kOf rl.length := by rw [span_append, span_cons]; rfl
        have hal1 : (acc ++ [rl]).length = acc.length + 1 := by simp
        rw [hal1] at hls
        obtain ⟨kk, hkk⟩ : ∃ kk, kOf rl.length = kk := ⟨_, rfl⟩
        rw [hkk] at hnx HBG hfit hk67 hkp hdr hsp1
        obtain ⟨rv, hrv⟩ : ∃ z, bs rl = z := ⟨_, rfl⟩
        rw [hrv] at HBG
        obtain ⟨o2, ho2'⟩ : ∃ z, bs (o'.drop (64 * kk)) = z := ⟨_, rfl⟩
        have ho2s : o2.size < ov.size := by rw [← ho2', bs_size, List.length_drop]; omega
        rw [ho2', Nat.mul_comm] at hdr
        have hfi : (kk : Int) * 64 ≤ (ov.size : Int) := by omega
        have hov4 : ov.size ≤ 384000 := by omega
        have HNX := hide hnx
        have HSP := hide (And.intro hsp1 hal1)
        have HRV := hide hrv
        have HO2 := hide ho2'
        have hspb : span acc ≤ 6000 := by omega
        have HOWN := hide hown
        clear hbo hbn hB hbl hnx hrl hkk hrv ho2' hsp1 hal1 hol hlong hos hown hmost
        go_wp2_with fail
        refine (HBG.out _).mono ?_
        rintro e w3 ⟨rfl, hb3⟩
        have M1 := K1.next hb3
        have M2 := K2.next hb3
        have hbz := chain hbw hb3
        have HOWN3 := hide (OwnZ.below HOWN.out hb3)
        have hs3 := hb3.size
        clear q0 q1 q2 q3 q4 q5 q6 q7 hb3 K1 K2
        have hnb := Blk.new w3 [.string rv] 9
        have hal3 : Below w3.heap.size w3 (w3.alloc (.cells #[.string rv] 9)) := (Below.refl _ _).alloc (Nat.le_refl _) _
        go_wp2_with (at_builtin; refine wpList_appS rfl (.tmp 49) (.tmp 51) rfl w2.heap.size (.slice a9 acc.length c9) acc rfl (OwnZ.below HOWN3.out hal3) _ 1 1 [rl] rfl rfl (by show Row _ _ [Value.string (bs rl)]; rw [HRV.out]; exact row_of_blk hnb) (by omega) (by simp; omega) ?_)
        intro v5 w5 hown5 hg5 hk5 hob5
        have hne1 : ∀ b, b < w2.heap.size → some b ≠ (Value.slice a9 acc.length c9).ownBlock := fun b hb e => by have := (HOWN3.out.1.lt b e.symm).1; omega
        have N1 := (M1.alloc (.cells #[.string rv] 9)).grown hg5 (hne1 b1 (by omega))
        have N2 := (M2.alloc (.cells #[.string rv] 9)).grown hg5 (hne1 b2 hlw)
        have hb35 : Below w.heap.size w w5 := grown_below (hbz.alloc (by omega) _) (by simp; omega) hg5 (fun k hk => by have := (HOWN3.out.1.lt k hk).1; omega)
        have hs5 : w2.heap.size ≤ w5.heap.size := by have := hg5.size; simp at this; omega
        have HO5 : Hid (OwnS w5 w2.heap.size v5 (acc ++ [rl])) := hide hown5
        clear hown5 hg5 hob5 hk5 hal3 hne1 M1 M2 hnb hbz
        obtain ⟨q0, q1, q2, q3, q4, q5, q6, q7⟩ := N1.four
        have hn1 := N1.lt
        obtain ⟨W7, hW7⟩ : ∃ W7, (w5.setCell ⟨b1, 2, none⟩ (.int .i64 (p + (span acc : Nat) + (kk : Int)))).setCell ⟨b1, 3, none⟩ (.int .i64 ((srn : Int) + (acc.length : Nat) + 1)) = W7 := ⟨_, rfl⟩
        have L1 : Blk W7 b1 [.int .i64 f, .int .i64 ln, .int .i64 (p + (span acc : Nat) + (kk : Int)), .int .i64 ((srn : Int) + (acc.length : Nat) + 1)] 63 := by rw [← hW7]; exact (N1.set 2 _).set 3 _
        have L2 : Blk W7 b2 [.int .i64 0, .int .i64 0, .int .i64 0, .int .i64 0] 63 := by rw [← hW7]; exact (N2.other (a := ⟨b1, 2, none⟩) hn21 _).other (a := ⟨b1, 3, none⟩) hn21 _
        have HO7 : Hid (OwnS W7 w2.heap.size v5 (acc ++ [rl])) := hide (by rw [← hW7]; exact OwnZ.set (OwnZ.set HO5.out N1 (by decide) 2 _) (N1.set 2 _) (by decide) 3 _)
        have hb7 : Below w.heap.size w W7 := by rw [← hW7]; exact (hb35.setCell (p := ⟨b1, 2, none⟩) ho1 _).setCell (p := ⟨b1, 3, none⟩) ho1 _
        have hs7 : w2.heap.size ≤ W7.heap.size := by rw [← hW7]; simpa using hs5
        have he2 : (p + (span acc : Nat) + (kk : Int)) = p + (span (acc ++ [rl]) : Nat) := by rw [HSP.out.1]; push_cast; omega
        have he3 : ((srn : Int) + (acc.length : Nat) + 1) = (srn : Int) + ((acc ++ [rl]).length : Nat) := by rw [HSP.out.2]; push_cast; omega
        have HL1 : Hid (Blk W7 b1 [.int .i64 f, .int .i64 ln, .int .i64 (p + (span (acc ++ [rl]) : Nat)), .int .i64 ((srn : Int) + ((acc ++ [rl]).length : Nat))] 63) := hide (by rw [← he2, ← he3]; exact L1)
        clear he2 he3 L1
        go_wp2_with fail
        go_roundw
        case rel => exact ⟨acc ++ [rl], o'.drop (64 * kk), by rw [HO2.out, ← hdr], HNX, HO7.out, HL1.out, L2, hs7, hb7⟩
        case measure =>
          show (ov.extract (kk * 64) ov.size).size < ov.size
          rw [hdr]
          exact ho2s

theorem scan_any (v : Value) (d : Drv) (t : Tp) (w : World) (h : IsDrive w v d) (ht : t.In) :
    Calls Tryz.prog 35 #[v, tpVal t] w fun e w' => ∃ ao c, e = .returned (.tuple #[.slice ao (d.scan t).1.length c, tpVal (d.scan t).2.1, .int .i64 (d.scan t).2.2]) ∧ Strs w' ao (d.scan t).1.length (d.scan t).1 ∧ (d.scan t).1.length ≤ c ∧ c ≤ 9223372036854775807 ∧ Below w.heap.size w w' := by
  refine (scan_own v d t w h ht).mono ?_
  rintro e w' ⟨ao, c, he, ho, hb⟩
  obtain ⟨ao', c', h1, h2, h3, h4⟩ := ho.form
  injection h1 with h1 _ h5
  subst h1
  subst h5
  exact ⟨_, _, he, h4, h2, h3, hb⟩

end Go.Proofs.YtogonkoeginoaaaGreatDoor
