/-
  The walk through log.Append.
-/
import Derived.Test.YtogonkoeginoaaaGreatDoorLogDo2
import Derived.Test.YtogonkoeginoaaaGreatDoorLogLay
import Derived.Deep.RegionHeld3
namespace Go.Proofs.YtogonkoeginoaaaGreatDoor
open Go.RowKit

theorem steps_put (d : Drv) (b2 b3 : Nat) (p : Int) (s : List UInt8) : stepsRun [.write b2 b3 p s, .flush] d = d.put p s := by
  show (if (d.write p s).2 = 0 then (if (d.write p s).1.flush.2 = 0 then ((d.write p s).1.flush.1, 0) else (d.write p s).1.flush) else d.write p s) = _
  unfold Drv.put
  split
  · generalize (d.write p s).1.flush = r
    obtain ⟨x, e⟩ := r
    simp only
    split
    · rename_i h; rw [h]
    · rfl
  · rfl
theorem steps_app (l m : List Stp) : ∀ d, stepsRun (l ++ m) d = if (stepsRun l d).2 = 0 then stepsRun m (stepsRun l d).1 else stepsRun l d := by
  induction l with
  | nil => intro d; rfl
  | cons t l ih =>
    intro d
    rw [List.cons_append, stepsRun, stepsRun]
    by_cases h : (t.run d).2 = 0
    · rw [if_pos h, if_pos h, ih]
    · rw [if_neg h, if_neg h, if_neg h]

/-- Appending, as the code's steps. -/
theorem append_steps1 (d : Drv) (t : Tp) (s : List UInt8) (h1 : tapeOk d t = true) (h2 : s.length ≤ 4000) (h3 : (kOf s.length : Int) ≤ t.len - t.pos) (h4 : t.serial ≤ 16777215) (hk : kOf s.length = 1) (b2 b3 : Nat) :
    d.append t s = (let r := stepsRun [.write b2 b3 (t.from_ + t.pos) ((lay s t.serial.toNat).take 64), .flush] d
      if r.2 = 0 then (r.1, ⟨t.from_, t.len, t.pos + kOf s.length, t.serial + 1⟩, 0) else (r.1, Tp.zero, r.2)) := by
  unfold Drv.append
  rw [if_neg (by rw [h1]; simp; omega), if_neg (by omega)]
  have hk1 : ¬ 1 < kOf s.length := by omega
  simp only [steps_put, hk1, if_false, if_true]
theorem append_steps2 (d : Drv) (t : Tp) (s : List UInt8) (h1 : tapeOk d t = true) (h2 : s.length ≤ 4000) (h3 : (kOf s.length : Int) ≤ t.len - t.pos) (h4 : t.serial ≤ 16777215) (hk : 1 < kOf s.length) (b2 b3 b4 b5 : Nat) :
    d.append t s = (let r := stepsRun ([.write b2 b3 (t.from_ + t.pos + 1) ((lay s t.serial.toNat).drop 64), .flush] ++ [.write b4 b5 (t.from_ + t.pos) ((lay s t.serial.toNat).take 64), .flush]) d
      if r.2 = 0 then (r.1, ⟨t.from_, t.len, t.pos + kOf s.length, t.serial + 1⟩, 0) else (r.1, Tp.zero, r.2)) := by
  unfold Drv.append
  rw [if_neg (by rw [h1]; simp; omega), if_neg (by omega)]
  simp only [steps_app, steps_put, hk, if_true]

theorem info_step : (Tryz.prog.info? 124).map (fun i => (i.zero, i.size, i.bytes)) = some (some .nilFunc, 1, 8) := by kernel_rfl

theorem four_boxes (w : World) (vs us xs ys : List Value) (t t2 t3 t4 : TypeId) :
    Blk ((((w.alloc (.cells vs.toArray t)).alloc (.cells us.toArray t2)).alloc (.cells xs.toArray t3)).alloc (.cells ys.toArray t4)) w.heap.size vs t ∧
    Blk ((((w.alloc (.cells vs.toArray t)).alloc (.cells us.toArray t2)).alloc (.cells xs.toArray t3)).alloc (.cells ys.toArray t4)) (w.heap.size + 1) us t2 ∧
    Blk ((((w.alloc (.cells vs.toArray t)).alloc (.cells us.toArray t2)).alloc (.cells xs.toArray t3)).alloc (.cells ys.toArray t4)) (w.heap.size + 2) xs t3 ∧
    Blk ((((w.alloc (.cells vs.toArray t)).alloc (.cells us.toArray t2)).alloc (.cells xs.toArray t3)).alloc (.cells ys.toArray t4)) (w.heap.size + 3) ys t4 := by
  refine ⟨(((Blk.new w vs t).alloc _).alloc _).alloc _, ?_, ?_, ?_⟩
  · have := ((Blk.new (w.alloc (.cells vs.toArray t)) us t2).alloc (.cells xs.toArray t3)).alloc (.cells ys.toArray t4)
    simpa using this
  · have := (Blk.new ((w.alloc (.cells vs.toArray t)).alloc (.cells us.toArray t2)) xs t3).alloc (.cells ys.toArray t4)
    simpa using this
  · have := Blk.new (((w.alloc (.cells vs.toArray t)).alloc (.cells us.toArray t2)).alloc (.cells xs.toArray t3)) ys t4
    simpa using this

/-- What refuses an append ahead of all steps. -/
theorem append_no (d : Drv) (t : Tp) (s : List UInt8) : (tapeOk d t = false ∧ d.append t s = (Drv.zero, Tp.zero, 1)) ∨ (tapeOk d t = true ∧ 4000 < s.length ∧ d.append t s = (Drv.zero, Tp.zero, 1)) ∨
    (tapeOk d t = true ∧ s.length ≤ 4000 ∧ t.len - t.pos < kOf s.length ∧ d.append t s = (Drv.zero, Tp.zero, 6)) ∨ (tapeOk d t = true ∧ s.length ≤ 4000 ∧ kOf s.length ≤ t.len - t.pos ∧ 16777215 < t.serial ∧ d.append t s = (Drv.zero, Tp.zero, 6)) ∨
    (tapeOk d t = true ∧ s.length ≤ 4000 ∧ kOf s.length ≤ t.len - t.pos ∧ t.serial ≤ 16777215) := by
  unfold Drv.append
  cases h1 : tapeOk d t with
  | false => left; exact ⟨rfl, by simp⟩
  | true =>
    right
    by_cases h2 : 4000 < s.length
    · left; exact ⟨rfl, h2, by rw [if_pos (.inr h2)]⟩
    · right
      by_cases h3 : t.len - t.pos < kOf s.length
      · left; exact ⟨rfl, by omega, h3, by rw [if_neg (by simp; omega), if_pos (.inl h3)]⟩
      · right
        by_cases h4 : 16777215 < t.serial
        · left; exact ⟨rfl, by omega, by omega, h4, by rw [if_neg (by simp; omega), if_pos (.inr h4)]⟩
        · right; exact ⟨rfl, by omega, by omega, by omega⟩

theorem tapeOk_in {d : Drv} {t : Tp} (h : tapeOk d t = true) : d.mayB = true ∧ 0 ≤ t.from_ ∧ t.from_ ≤ d.cells.length ∧ 1 ≤ t.len ∧ t.len ≤ d.cells.length - t.from_ ∧ 0 ≤ t.pos ∧ t.pos ≤ t.len ∧ 1 ≤ t.serial ∧ t.serial ≤ 16777216 ∧ d.cells.length ≤ 6000 := by
  unfold tapeOk at h
  rw [Bool.and_eq_true, decide_eq_true_iff] at h
  obtain ⟨h1, h2, h3, h4, h5, h6, h7, h8, h9⟩ := h
  exact ⟨h1, h2, h3, h4, h5, h6, h7, h8, h9, ((Drv.mayB_iff d).1 h1).most⟩

set_option maxRecDepth 100000 in
set_option maxHeartbeats 6400000 in
theorem append_bad (v : Value) (d : Drv) (t : Tp) (s : List UInt8) (w : World) (h : IsDrive w v d) (ht : t.In) (hs : s.length < 9223372036854775808) (hbad : ¬ (tapeOk d t = true ∧ s.length ≤ 4000 ∧ kOf s.length ≤ t.len - t.pos ∧ t.serial ≤ 16777215)) :
    Calls Tryz.prog 29 #[v, tpVal t, .string (bs s)] w fun e w' => ∃ v', e = .returned (.tuple #[v', tpVal (d.append t s).2.1, .int .i64 (d.append t s).2.2]) ∧ IsDrive w' v' (d.append t s).1 ∧ Below w.heap.size w w' := by
  have HM := hide (fun (v : Value) (w : World) (h : IsDrive w v d) => logmay_any v d t w h ht)
  have hno := append_no d t s
  have htin := tapeOk_in (d := d) (t := t)
  have HC := hide (fun w => lcells_any (s.length : Int) w (by omega))
  obtain ⟨f, ln, p, sr⟩ := t
  obtain ⟨h1, h2, h3, h4⟩ := ht
  simp only at h1 h2 h3 h4 hno hbad htin
  have HI := hide h
  obtain ⟨a1, n1, c1, a2, n2, c2, fu, of, rfl, _⟩ := h
  unfold drvVal at HI ⊢
  unfold tpVal at HM ⊢
  simp only at HM ⊢
  obtain ⟨B0, B1, B2, B3⟩ := four_boxes w [.slice a1 n1 c1, .slice a2 n2 c2, .int .i64 fu, .bool of] [.int .i64 f, .int .i64 ln, .int .i64 p, .int .i64 sr] [.slice none 0 0, .slice none 0 0, .int .i64 0, .bool false] [.int .i64 0, .int .i64 0, .int .i64 0, .int .i64 0] 44 63 44 63
  obtain ⟨W0, hW0⟩ : ∃ W0, ((((w.alloc (.cells #[.slice a1 n1 c1, .slice a2 n2 c2, .int .i64 fu, .bool of] 44)).alloc (.cells #[.int .i64 f, .int .i64 ln, .int .i64 p, .int .i64 sr] 63)).alloc (.cells #[.slice none 0 0, .slice none 0 0, .int .i64 0, .bool false] 44)).alloc (.cells #[.int .i64 0, .int .i64 0, .int .i64 0, .int .i64 0] 63)) = W0 := ⟨_, rfl⟩
  have hb0 : Below w.heap.size w W0 := by rw [← hW0]; exact ((((Below.refl _ _).alloc (Nat.le_refl _) _).alloc (by simp) _).alloc (by simp; omega) _).alloc (by simp; omega) _
  rw [hW0] at B0 B1 B2 B3
  have B2 : Blk W0 (w.heap.size + 1 + 1) [.slice none 0 0, .slice none 0 0, .int .i64 0, .bool false] 44 := B2
  have B3 : Blk W0 (w.heap.size + 1 + 1 + 1) [.int .i64 0, .int .i64 0, .int .i64 0, .int .i64 0] 63 := B3
  obtain ⟨p0, p1, p2, p3, p4, p5, p6, p7⟩ := B0.four
  obtain ⟨q0, q1, q2, q3, q4, q5, q6, q7⟩ := B1.four
  have HD0 := hide (HI.out.below hb0)
  have hsz : (bs s).size = s.length := bs_size s
  obtain ⟨sv, hsv⟩ : ∃ z, bs s = z := ⟨_, rfl⟩
  rw [hsv] at hsz ⊢
  rw [← hsz] at hno HC hs hbad
  obtain ⟨kk, hkk⟩ : ∃ kk : Nat, kOf sv.size = kk := ⟨_, rfl⟩
  have hcs : sv.size ≤ 4000 → cellsOf (sv.size : Int) = (kk : Int) := fun h => by unfold cellsOf; rw [if_neg (by omega), Int.toNat_natCast, hkk]
  rw [hkk] at hno hbad
  have hk67 : sv.size ≤ 4000 → kk ≤ 67 := fun h => by rw [← hkk]; exact kOf_max h
  clear hsv hkk hsz
  rcases hno with ⟨hm, he⟩ | ⟨hm, h5, he⟩ | ⟨hm, h5, h6, he⟩ | ⟨hm, h5, h6, h7, he⟩ | hno
  · rw [he]
    have HE := hide he
    rw [hm] at HM
    clear he hm hbad htin hcs hk67
    go_enter Tryz.func29, Tryz.ntmps29
    go_wp2_with fail
    clear p0 p1 p2 p3 p4 p5 p6 p7 q0 q1 q2 q3 q4 q5 q6 q7
    refine (HM.out _ _ HD0.out).mono ?_
    rintro e w1 ⟨rfl, hb1⟩
    have C2 := B2.next hb1
    have C3 := B3.next hb1
    have hbx := chain hb0 hb1
    obtain ⟨p0, p1, p2, p3, p4, p5, p6, p7⟩ := C2.four
    obtain ⟨q0, q1, q2, q3, q4, q5, q6, q7⟩ := C3.four
    go_wp2_with fail
    refine bodyPost_ret (v := .tuple #[.agg #[.slice none 0 0, .slice none 0 0, .int .i64 0, .bool false], .agg #[.int .i64 0, .int .i64 0, .int .i64 0, .int .i64 0], .int .i64 1]) (by simp [results, Tryz.results29, go_sem, p0, p1, p2, p3, q0, q1, q2, q3]) rfl ⟨_, rfl, zero_drive _, ?_⟩
    exact below4 (below4 hbx (by omega) _ _ _ _) (by omega) _ _ _ _
  · rw [he]
    have HE := hide he
    rw [hm] at HM
    have h5' : (4000 : Int) < (sv.size : Int) := by omega
    clear he hm hbad htin hcs hk67
    go_enter Tryz.func29, Tryz.ntmps29
    go_wp2_with fail
    clear p0 p1 p2 p3 p4 p5 p6 p7 q0 q1 q2 q3 q4 q5 q6 q7
    refine (HM.out _ _ HD0.out).mono ?_
    rintro e w1 ⟨rfl, hb1⟩
    have C2 := B2.next hb1
    have C3 := B3.next hb1
    have hbx := chain hb0 hb1
    obtain ⟨p0, p1, p2, p3, p4, p5, p6, p7⟩ := C2.four
    obtain ⟨q0, q1, q2, q3, q4, q5, q6, q7⟩ := C3.four
    go_wp2_with fail
    refine bodyPost_ret (v := .tuple #[.agg #[.slice none 0 0, .slice none 0 0, .int .i64 0, .bool false], .agg #[.int .i64 0, .int .i64 0, .int .i64 0, .int .i64 0], .int .i64 1]) (by simp [results, Tryz.results29, go_sem, p0, p1, p2, p3, q0, q1, q2, q3]) rfl ⟨_, rfl, zero_drive _, ?_⟩
    exact below4 (below4 hbx (by omega) _ _ _ _) (by omega) _ _ _ _
  · rw [he]
    have HE := hide he
    rw [hm] at HM
    have ht := htin hm
    obtain ⟨i1, i2, i3, i4, i5, i6, i7, i8, i9, i10⟩ := ht
    have hk := hk67 h5
    have hln : ln ≤ 6000 := by omega
    have h5' : (sv.size : Int) ≤ 4000 := by omega
    rw [hcs h5] at HC
    clear i1 i3 i5 i10
    clear he hm hbad htin hcs hk67
    go_enter Tryz.func29, Tryz.ntmps29
    go_wp2_with fail
    clear p0 p1 p2 p3 p4 p5 p6 p7 q0 q1 q2 q3 q4 q5 q6 q7
    refine (HM.out _ _ HD0.out).mono ?_
    rintro e w1 ⟨rfl, hb1⟩
    have C2 := B2.next hb1
    have C3 := B3.next hb1
    have hbx := chain hb0 hb1
    obtain ⟨p0, p1, p2, p3, p4, p5, p6, p7⟩ := C2.four
    obtain ⟨q0, q1, q2, q3, q4, q5, q6, q7⟩ := C3.four
    obtain ⟨r0, r1, r2, r3, r4, r5, r6, r7⟩ := (B1.next hb1).four
    go_wp2_with fail
    refine (HC.out _).mono ?_
    rintro e w2 ⟨rfl, rfl⟩
    go_wp2_with fail
    refine bodyPost_ret (v := .tuple #[.agg #[.slice none 0 0, .slice none 0 0, .int .i64 0, .bool false], .agg #[.int .i64 0, .int .i64 0, .int .i64 0, .int .i64 0], .int .i64 6]) (by simp [results, Tryz.results29, go_sem, p0, p1, p2, p3, q0, q1, q2, q3]) rfl ⟨_, rfl, zero_drive _, ?_⟩
    exact below4 (below4 hbx (by omega) _ _ _ _) (by omega) _ _ _ _
  · rw [he]
    have HE := hide he
    rw [hm] at HM
    have ht := htin hm
    obtain ⟨i1, i2, i3, i4, i5, i6, i7, i8, i9, i10⟩ := ht
    have hk := hk67 h5
    have hln : ln ≤ 6000 := by omega
    have h5' : (sv.size : Int) ≤ 4000 := by omega
    rw [hcs h5] at HC
    clear i1 i3 i5 i10
    clear he hm hbad htin hcs hk67
    go_enter Tryz.func29, Tryz.ntmps29
    go_wp2_with fail
    clear p0 p1 p2 p3 p4 p5 p6 p7 q0 q1 q2 q3 q4 q5 q6 q7
    refine (HM.out _ _ HD0.out).mono ?_
    rintro e w1 ⟨rfl, hb1⟩
    have C2 := B2.next hb1
    have C3 := B3.next hb1
    have hbx := chain hb0 hb1
    obtain ⟨p0, p1, p2, p3, p4, p5, p6, p7⟩ := C2.four
    obtain ⟨q0, q1, q2, q3, q4, q5, q6, q7⟩ := C3.four
    obtain ⟨r0, r1, r2, r3, r4, r5, r6, r7⟩ := (B1.next hb1).four
    go_wp2_with fail
    refine (HC.out _).mono ?_
    rintro e w2 ⟨rfl, rfl⟩
    go_wp2_with fail
    refine bodyPost_ret (v := .tuple #[.agg #[.slice none 0 0, .slice none 0 0, .int .i64 0, .bool false], .agg #[.int .i64 0, .int .i64 0, .int .i64 0, .int .i64 0], .int .i64 6]) (by simp [results, Tryz.results29, go_sem, p0, p1, p2, p3, q0, q1, q2, q3]) rfl ⟨_, rfl, zero_drive _, ?_⟩
    exact below4 (below4 hbx (by omega) _ _ _ _) (by omega) _ _ _ _
  · exact absurd hno hbad

end Go.Proofs.YtogonkoeginoaaaGreatDoor
