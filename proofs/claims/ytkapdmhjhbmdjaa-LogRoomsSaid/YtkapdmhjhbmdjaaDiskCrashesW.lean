/-
  The walk through the statement DiskCrashes: it returns true.
-/
import Derived.Test.YtkapdmhjhbmdjaaLawAwake
import Derived.Test.YtkapdmhjhbmdjaaRefCrashX
namespace Go.Proofs.Ytkapdmhjhbmdjaa
open Go.RowKit

theorem two_boxes2 (w : World) (vs us : List Value) (t t2 : TypeId) : Blk ((w.alloc (.cells vs.toArray t)).alloc (.cells us.toArray t2)) w.heap.size vs t ∧ Blk ((w.alloc (.cells vs.toArray t)).alloc (.cells us.toArray t2)) (w.heap.size + 1) us t2 := by
  refine ⟨(Blk.new w vs t).alloc _, ?_⟩
  have := Blk.new (w.alloc (.cells vs.toArray t)) us t2
  simpa using this

/-- A store into a box's third cell lets drives be. -/
theorem Strs.set1 {w : World} {ao : Option Addr} {n : Nat} {xs : List (List UInt8)} (h : Strs w ao n xs) {b : Nat} {v : Value} (hb : Holds w b v) (i : Nat) (u : Value) : Strs (w.setCell ⟨b, i, none⟩ u) ao n xs := by
  refine ⟨h.len, ?_⟩
  rcases h.row with h0 | ⟨b', off, e, hc⟩
  · exact .inl h0
  · refine .inr ⟨b', off, e, fun j z hj => ?_⟩
    have h1 := hc j z hj
    obtain ⟨x, _, rfl⟩ := List.mem_map.1 (List.mem_of_getElem? hj)
    have hne := strs_not hb h1
    rw [World.cell?_setCell_other _ _ _ _ (fun e => by injection e with e; exact hne e.symm)]
    exact h1
theorem Waits.set1 {w : World} {ao : Option Addr} {n : Nat} {q : List Wt} (h : Waits w ao n q) {b : Nat} {v : Value} (hb : Holds w b v) (i : Nat) (u : Value) : Waits (w.setCell ⟨b, i, none⟩ u) ao n q := by
  refine ⟨h.len, h.range, ?_⟩
  rcases h.row with h0 | ⟨b', off, e, hc⟩
  · exact .inl h0
  · cases q with
    | nil => exact .inl rfl
    | cons x q =>
      have hne := strs_not hb (hc 1 (.string (bs x.s)) rfl)
      refine .inr ⟨b', off, e, fun j z hj => ?_⟩
      rw [World.cell?_setCell_other _ _ _ _ (fun e => by injection e with e; exact hne e.symm)]
      exact hc j z hj
theorem IsDrive.setFuel {w : World} {v : Value} {d : Drv} (h : IsDrive w v d) {b : Nat} {a1 : Option Addr} {n1 c1 : Nat} {a2 : Option Addr} {n2 c2 : Nat} {f : Int} {o : Bool} (hb : Blk w b [.slice a1 n1 c1, .slice a2 n2 c2, .int .i64 f, .bool o] 25) {i : Nat} {u : Value} : IsDrive (w.setCell ⟨b, i, none⟩ u) v d := by
  obtain ⟨x1, m1, e1, x2, m2, e2, g, p, e, h⟩ := h
  exact ⟨x1, m1, e1, x2, m2, e2, g, p, e, h.cells.set1 (blk_holds hb) _ _, h.queue.set1 (blk_holds hb) _ _, h.room1, h.room2, h.fuel_eq, h.off_eq, h.range⟩
theorem IsDrive.turnFuel {w : World} {a1 : Option Addr} {n1 c1 : Nat} {a2 : Option Addr} {n2 c2 : Nat} {f n : Int} {o : Bool} {d : Drv} (h : IsDrive w (.agg #[.slice a1 n1 c1, .slice a2 n2 c2, .int .i64 f, .bool o]) d) {b : Nat} {v0 v1 v2 v3 : Value} (_hb : Blk w b [v0, v1, v2, v3] 25) (hn : -9223372036854775808 ≤ n ∧ n < 9223372036854775808) {i : Nat} {u : Value} (hh : ∃ v, Holds w b v) : IsDrive (w.setCell ⟨b, i, none⟩ u) (.agg #[.slice a1 n1 c1, .slice a2 n2 c2, .int .i64 n, .bool o]) { d with fuel := n } := by
  obtain ⟨v, hh⟩ := hh
  obtain ⟨x1, m1, e1, x2, m2, e2, g, p, e, h⟩ := h
  unfold drvVal at e
  injection e with e
  have e5 := congrArg Array.toList e
  simp only [List.cons.injEq, Value.slice.injEq, Value.int.injEq, Value.bool.injEq, and_true, true_and] at e5
  obtain ⟨⟨rfl, rfl, rfl⟩, ⟨rfl, rfl, rfl⟩, rfl, rfl⟩ := e5
  exact ⟨a1, n1, c1, a2, n2, c2, n, o, rfl, h.cells.set1 hh _ _, h.queue.set1 hh _ _, h.room1, h.room2, rfl, h.off_eq, hn⟩

theorem few_len (d : Drv) : d.few.cells.length ≤ 6001 ∧ d.few.queue.length ≤ 80 := by
  unfold Drv.few
  simp only [List.length_take]
  have : fewN d.cells.length ≤ 6001 := by unfold fewN; split <;> (try split) <;> omega
  omega
theorem tell_cases (d : Drv) (n : Int) : (d.mayB = false ∧ d.tell n = (Drv.zero, 1)) ∨ (d.mayB = true ∧ n < -1 ∧ d.tell n = (Drv.zero, 1)) ∨ (d.mayB = true ∧ -1 ≤ n ∧ d.tell n = ({ d with fuel := n }, 0)) := by
  unfold Drv.tell
  cases hm : d.mayB with
  | false => exact .inl ⟨rfl, by simp⟩
  | true =>
    right
    rcases Int.lt_or_le n (-1) with h1 | h1
    · exact .inl ⟨rfl, h1, by simp [h1]⟩
    · exact .inr ⟨rfl, h1, by simp [show ¬ n < -1 by omega]⟩

set_option maxRecDepth 100000 in
set_option maxHeartbeats 6400000 in
theorem crashes_walk (v : Value) (d : Drv) (kept : Nat) (tn cut n : Int) (w : World) (h : IsDrive w v d) (hk : kept < 18446744073709551616) (ht : -9223372036854775808 ≤ tn ∧ tn < 9223372036854775808) (hcut : -9223372036854775808 ≤ cut ∧ cut < 9223372036854775808) (hn : -9223372036854775808 ≤ n ∧ n < 9223372036854775808) :
    Calls Try.prog 3 #[v, .agg #[.int .u64 kept, .int .i64 tn, .int .i64 cut], .int .i64 n] w fun e w' => e = .returned (.bool true) ∧ Below w.heap.size w w' := by
  have HI := hide h
  obtain ⟨a1, n1, c1, a2, n2, c2, fu, of, rfl, _⟩ := h
  have HK := hide hk
  have HT := hide ht
  have HC := hide hcut
  have HN := hide hn
  clear hk ht hcut hn
  unfold drvVal at HI ⊢
  obtain ⟨B0, B1⟩ := two_boxes2 w [.slice a1 n1 c1, .slice a2 n2 c2, .int .i64 fu, .bool of] [.int .u64 kept, .int .i64 tn, .int .i64 cut] 25 28
  have hb0 : Below w.heap.size w ((w.alloc (.cells #[.slice a1 n1 c1, .slice a2 n2 c2, .int .i64 fu, .bool of] 25)).alloc (.cells #[.int .u64 kept, .int .i64 tn, .int .i64 cut] 28)) := ((Below.refl _ _).alloc (Nat.le_refl _) _).alloc (by simp) _
  have hl := few_len d
  obtain ⟨D, hD⟩ : ∃ D, d.few = D := ⟨_, rfl⟩
  rw [hD] at hl
  have HL := hide hl
  have HDE := hide hD
  have HTL := hide (fun (v : Value) (w : World) (h : IsDrive w v D) => tell_any v D n w h HN.out)
  have HMY := hide (fun (v : Value) (w : World) (h : IsDrive w v D) => refmay_any v D w h)
  have HA := hide (fun w => lawawake_any w)
  have hzl : Drv.zero.cells.length = 0 := rfl
  have HZL := hide hzl
  clear hl hD hzl
  rcases tell_cases D n with ⟨hm, ht⟩ | ⟨hm, hlt, ht⟩ | ⟨hm, hge, ht⟩
  all_goals
    rw [hm] at HMY
    rw [ht] at HTL
    have HTE := hide ht
    clear hm ht
    go_enter Try.func3, Try.ntmps3
    go_wp2_with fail
    refine (few_any _ d _ (HI.out.below hb0)).mono ?_
    rintro e w1 ⟨v1, rfl, hd1, hb1⟩
    have HI1 := hide hd1
    rw [HDE.out] at HI1
    obtain ⟨a1', n1', c1', a2', n2', c2', fu', of', rfl, _⟩ := hd1
    unfold drvVal at HI1 ⊢
    have C0 := B0.next hb1
    have C1 := B1.next hb1
    have hbw := chain hb0 hb1
    clear hb1 hb0 B0 B1 HI
    obtain ⟨p0, p1, p2, p3, p4, p5, p6, p7⟩ := C0.four
    obtain ⟨W2, hW2⟩ : ∃ W2, (((w1.setCell ⟨w.heap.size, 0, none⟩ (.slice a1' n1' c1')).setCell ⟨w.heap.size, 1, none⟩ (.slice a2' n2' c2')).setCell ⟨w.heap.size, 2, none⟩ (.int .i64 fu')).setCell ⟨w.heap.size, 3, none⟩ (.bool of') = W2 := ⟨_, rfl⟩
    have D0 : Blk W2 w.heap.size [.slice a1' n1' c1', .slice a2' n2' c2', .int .i64 fu', .bool of'] 25 := by rw [← hW2]; exact C0.set4 _ _ _ _
    have D1 : Blk W2 (w.heap.size + 1) [.int .u64 kept, .int .i64 tn, .int .i64 cut] 28 := by rw [← hW2]; exact C1.other4 (by omega) _ _ _ _
    have HI2 : Hid (IsDrive W2 (.agg #[.slice a1' n1' c1', .slice a2' n2' c2', .int .i64 fu', .bool of']) D) := hide (by rw [← hW2]; exact HI1.out.set4 (blk_holds C0) _ _ _ _)
    have hbw2 : Below w.heap.size w W2 := by rw [← hW2]; exact below4 hbw (Nat.le_refl _) _ _ _ _
    obtain ⟨q0, q1, q2, q3, q4, q5, q6, q7⟩ := D0.four
    go_wp2_with fail
    refine (lawown_any _ D _ HI2.out (by have := HL.out; omega) (by have := HL.out; omega)).mono ?_
    rintro e w3 ⟨v3, rfl, hd3, hb3⟩
    have E0 := D0.next hb3
    have E1 := D1.next hb3
    have HI3 := hide (HI2.out.below hb3)
    have HJ3 := hide hd3
    have hbw3 := chain hbw2 hb3
    have hw3 := hbw3.size
    obtain ⟨b1, m1, f1, b2, m2, f2, gu, og, rfl, _⟩ := hd3
    unfold drvVal at HJ3 ⊢
    clear hb3 D0 D1 hW2 q0 q1 q2 q3 q4 q5 q6 q7 p0 p1 p2 p3 p4 p5 p6 p7 C0 C1 HI1 hbw
    have F0 := E0.alloc (.cells #[.slice b1 m1 f1, .slice b2 m2 f2, .int .i64 gu, .bool og] 25)
    have F1 := E1.alloc (.cells #[.slice b1 m1 f1, .slice b2 m2 f2, .int .i64 gu, .bool og] 25)
    have F2 := Blk.new w3 [.slice b1 m1 f1, .slice b2 m2 f2, .int .i64 gu, .bool og] 25
    have hal : Below w3.heap.size w3 (w3.alloc (.cells #[.slice b1 m1 f1, .slice b2 m2 f2, .int .i64 gu, .bool og] 25)) := (Below.refl _ _).alloc (Nat.le_refl _) _
    have HI4 := hide (HI3.out.below hal)
    have HJ4 := hide (HJ3.out.below hal)
    have hbw4 := chain hbw3 hal
    obtain ⟨p0, p1, p2, p3, p4, p5, p6, p7⟩ := E0.four
    have hlt3 := E0.lt
    go_wp2_with fail
    refine (HTL.out _ _ HI4.out).mono ?_
    rintro e w5 ⟨v5, rfl, hd5, hb5⟩
    have G0 := F0.next hb5
    have G1 := F1.next hb5
    have G2 := F2.next hb5
    have HI5 := hide (HI4.out.below hb5)
    have HJ5 := hide (HJ4.out.below hb5)
    have HK5 := hide hd5
    have hbw5 := chain hbw4 hb5
    obtain ⟨x1, y1, z1, x2, y2, z2, xu, xo, rfl, hD5⟩ := hd5
    have HX := hide hD5.cells.len
    first | (have hy0 : ((y1 : Int) == 0) = true := by (have h0 : y1 = 0 := HX.out.symm); rw [h0]; rfl) | skip
    first | (have hy1 : (y1 == 0) = true := by (have h0 : y1 = 0 := HX.out.symm); rw [h0]; rfl) | skip
    have hne35 : w3.heap.size ≠ w5.heap.size := Nat.ne_of_lt (Blk.lt G2)
    have hne53 : w5.heap.size ≠ w3.heap.size := Nat.ne_of_gt (Blk.lt G2)
    unfold drvVal at HK5 ⊢
    clear hb5 hD5 F0 F1 F2 hal HI4 HJ4 hbw4 HI3 HJ3 HI2 E0 E1 hbw3 hbw2 p0 p1 p2 p3 p4 p5 p6 p7
    have hal : Below w5.heap.size w5 (w5.alloc (.cells #[.slice x1 y1 z1, .slice x2 y2 z2, .int .i64 xu, .bool xo] 25)) := (Below.refl _ _).alloc (Nat.le_refl _) _
    have L0 := G0.next hal
    have L1 := G1.next hal
    have L2 := G2.next hal
    have L3 := Blk.new w5 [.slice x1 y1 z1, .slice x2 y2 z2, .int .i64 xu, .bool xo] 25
    have HI6 := hide (HI5.out.below hal)
    have HJ6 := hide (HJ5.out.below hal)
    have HK6 := hide (HK5.out.below hal)
    have hbw6 := chain hbw5 hal
    clear hal
    go_wp2_with fail
    obtain ⟨p0, p1, p2, p3, _, _, _, _⟩ := L0.four
    obtain ⟨q0, q1, q2, _, _, _⟩ := L1.three
    obtain ⟨r0, r1, r2, r3, _, _, _, _⟩ := L2.four
    have N0 := L0.lt
    have N1 := L1.lt
    have N2 := L2.lt
    obtain ⟨W6, hW6⟩ : ∃ W6, w5.alloc (.cells #[.slice x1 y1 z1, .slice x2 y2 z2, .int .i64 xu, .bool xo] 25) = W6 := ⟨_, rfl⟩
    rw [hW6] at L0 L1 L2 L3 HI6 HJ6 HK6 hbw6 p0 p1 p2 p3 q0 q1 q2 r0 r1 r2 r3 N0 N1 N2
    clear G0 G1 G2 HI5 HJ5 HK5 hbw5
    go_region_held3 (fun w' => w'.cell? ⟨w.heap.size, 0, none⟩ = some (.slice a1' n1' c1') ∧ w'.cell? ⟨w.heap.size, 1, none⟩ = some (.slice a2' n2' c2') ∧ w'.cell? ⟨w.heap.size, 2, none⟩ = some (.int .i64 fu') ∧ w'.cell? ⟨w.heap.size, 3, none⟩ = some (.bool of') ∧ w'.cell? ⟨w.heap.size + 1, 0, none⟩ = some (.int .u64 (kept : Int)) ∧ w'.cell? ⟨w.heap.size + 1, 1, none⟩ = some (.int .i64 tn) ∧ w'.cell? ⟨w.heap.size + 1, 2, none⟩ = some (.int .i64 cut) ∧ w'.cell? ⟨w3.heap.size, 0, none⟩ = some (.slice b1 m1 f1) ∧ w'.cell? ⟨w3.heap.size, 1, none⟩ = some (.slice b2 m2 f2) ∧ w'.cell? ⟨w3.heap.size, 2, none⟩ = some (.int .i64 gu) ∧ w'.cell? ⟨w3.heap.size, 3, none⟩ = some (.bool og)) (go_keep) (first
      | (go_at_call 24
         refine (crash_any _ D kept tn cut _ (HI6.out.below (Below.drewed (Below.refl _ _))) HK.out HT.out HC.out).mono ?_
         rintro e w7 ⟨v7, rfl, hd7, hb7⟩
         have hb7' := undrew1 hb7
         have HD7 := hide hd7
         have hbq7 := hide hb7'
         obtain ⟨hcc7, hff7⟩ := bcell hb7'
         clear hd7 hb7)
      | (go_at_call 25
         refine (refcrash_any _ D kept tn cut _ (HI6.out.below hbq7.out) HK.out HT.out HC.out).mono ?_
         rintro e w8 ⟨v8, rfl, hd8, hb8⟩
         have HD8 := hide hd8
         have hbq8 := hide (chain hbq7.out hb8)
         have HE8 := hide (HD7.out.below hb8)
         obtain ⟨hcc8, hff8⟩ := bcell hbq8.out
         clear hd8 hb8)
      | (go_at_call_of 23 (v7)
         refine (same_any _ _ (D.crash kept tn cut) _ HE8.out HD8.out).mono ?_
         rintro e w9 ⟨rfl, hb9⟩
         have hbq9 := hide (chain hbq8.out hb9)
         obtain ⟨hcc9, hff9⟩ := bcell hbq9.out
         clear hb9)
      | (go_at_call_of 23 (Value.agg #[.slice a1' n1' c1', .slice a2' n2' c2', .int .i64 fu', .bool of'])
         refine (same_any _ _ D _ (HI6.out.below hbq9.out) (HJ6.out.below hbq9.out)).mono ?_
         rintro e w10 ⟨rfl, hb10⟩
         have hbq10 := hide (chain hbq9.out hb10)
         obtain ⟨hcc10, hff10⟩ := bcell hbq10.out
         clear hb10))
    go_wp2_with fail
    refine (HMY.out _ _ (HI6.out.below hbq10.out)).mono ?_
    rintro e w11 ⟨rfl, hb11⟩
    have hbq11 := chain hbq10.out hb11
    have M2 := L2.next hbq11
    have M3 := L3.next hbq11
    obtain ⟨s0, s1, s2, s3, s4, s5, s6, s7⟩ := M2.four
    obtain ⟨t0, t1, t2, t3, t4, t5, t6, t7⟩ := M3.four
    have hbz := chain hbw6 hbq11
    have HK7 := hide (HK6.out.below hbq11)
    have HJ7 := hide (HJ6.out.below hbq11)
    go_wp2_with fail
  · refine (HA.out _).mono ?_
    rintro e w12 ⟨rfl, hb12⟩
    go_wp2_with fail
    go_ret
    exact ⟨rfl, chain hbz hb12⟩
  · refine (HA.out _).mono ?_
    rintro e w12 ⟨rfl, hb12⟩
    go_wp2_with fail
    go_ret
    exact ⟨rfl, chain hbz hb12⟩
  · refine (same_any _ _ { D with fuel := n } _ ?_ ?_).mono ?_
    · exact HK7.out.setFuel M2
    · exact HJ7.out.turnFuel M2 HN.out ⟨_, blk_holds M2⟩
    rintro e w12 ⟨rfl, hb12⟩
    have hbt := hbz.setCell (p := ⟨w3.heap.size, 2, none⟩) hw3 (.int .i64 n)
    go_wp2_with fail
    refine (HA.out _).mono ?_
    rintro e w13 ⟨rfl, hb13⟩
    go_wp2_with fail
    go_ret
    exact ⟨rfl, chain (chain hbt hb12) hb13⟩

/-- The walk, as the frame calls it. -/
theorem crashes_frame (v : Value) (d : Drv) {w : World} (h : IsDrive w v d) (kept : Nat) (tn cut : Int) (hk : kept < 18446744073709551616) (ht : -9223372036854775808 ≤ tn ∧ tn < 9223372036854775808) (hcut : -9223372036854775808 ≤ cut ∧ cut < 9223372036854775808) (n : Int) (hn : (Lit.int .i64 n).wf = true) (w' : World) (e : w' = w := by rfl) :
    Calls Try.prog 3 #[v, .agg #[.int .u64 kept, .int .i64 tn, .int .i64 cut], .int .i64 n] w' fun e w2 => e = .returned (.bool true) ∧ Below w'.heap.size w' w2 := by
  subst e
  exact crashes_walk v d kept tn cut n _ h hk ht hcut (i64_bd hn)

end Go.Proofs.Ytkapdmhjhbmdjaa
