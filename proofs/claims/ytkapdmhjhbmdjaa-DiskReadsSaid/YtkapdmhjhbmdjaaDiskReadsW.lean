/-
  The walk through the statement DiskReads: it returns true.
-/
import Derived.Test.YtkapdmhjhbmdjaaDiskCrashesW
import Derived.Test.YtkapdmhjhbmdjaaRefRead
namespace Go.Proofs.Ytkapdmhjhbmdjaa
open Go.RowKit

theorem new_bad {n : Int} (h : n < 1 ∨ 6000 < n) : Drv.new n = (Drv.zero, 1) := if_pos h
theorem new_good {n : Nat} (h1 : 1 ≤ n) (h2 : n ≤ 6000) : Drv.new (n : Int) = (⟨List.replicate n blank, [], -1, false⟩, 0) := by
  unfold Drv.new
  rw [if_neg (by omega), Int.toNat_natCast]

set_option maxRecDepth 100000 in
set_option maxHeartbeats 6400000 in
theorem reads_walk17 (v : Value) (d : Drv) (at_ n : Int) (w : World) (h : IsDrive w v d) (hat : -9223372036854775808 ≤ at_ ∧ at_ < 9223372036854775808) (hn : -9223372036854775808 ≤ n ∧ n < 9223372036854775808) :
    Calls Try.prog 7 #[v, .int .i64 at_, .int .i64 n] w fun e w' => e = .returned (.bool true) ∧ Below w.heap.size w w' := by
  have HI := hide h
  obtain ⟨a1, n1, c1, a2, n2, c2, fu, of, rfl, _⟩ := h
  unfold drvVal at HI ⊢
  obtain ⟨D, hD⟩ : ∃ D, d.few = D := ⟨_, rfl⟩
  have HDE := hide hD
  have HRD := hide (fun (v : Value) (w : World) (h : IsDrive w v D) => read_any v D at_ n w h hat hn)
  have HRR := hide (fun (v : Value) (w : World) (h : IsDrive w v D) => refread_any v D at_ n w h hat hn)
  obtain ⟨⟨S, E⟩, hS⟩ : ∃ p, D.read at_ n = p := ⟨_, rfl⟩
  rw [hS] at HRD HRR
  obtain ⟨s1, hs1⟩ : ∃ s, bs S = s := ⟨_, rfl⟩
  have HMY := hide (fun (v : Value) (w : World) (h : IsDrive w v D) => may_any v D w h)
  have HMR := hide (fun (v : Value) (w : World) (h : IsDrive w v D) => refmay_any v D w h)
  obtain ⟨mb, hmb⟩ : ∃ m, D.mayB = m := ⟨_, rfl⟩
  rw [hmb] at HMY HMR
  simp only [hs1] at HRD HRR
  have HA := hide (fun w => lawawake_any w)
  have HN := hide hn
  have hcase : (∃ m : Int, m = n ∧ n < 1) ∨ (∃ m : Int, m = n ∧ 6000 < n) ∨ (∃ k : Nat, n = k ∧ 1 ≤ k ∧ k ≤ 80) ∨ (80 < n ∧ n ≤ 6000) := by
    by_cases h1 : n < 1
    · exact .inl ⟨n, rfl, h1⟩
    · by_cases h2 : 6000 < n
      · exact .inr (.inl ⟨n, rfl, h2⟩)
      · by_cases h3 : 80 < n
        · exact .inr (.inr (.inr ⟨h3, by omega⟩))
        · exact .inr (.inr (.inl ⟨n.toNat, by omega, by omega, by omega⟩))
  clear hD hS hs1 hmb hat hn
  have B0 := Blk.new w [.slice a1 n1 c1, .slice a2 n2 c2, .int .i64 fu, .bool of] 25
  have hb0 : Below w.heap.size w (w.alloc (.cells #[.slice a1 n1 c1, .slice a2 n2 c2, .int .i64 fu, .bool of] 25)) := (Below.refl _ _).alloc (Nat.le_refl _) _
  rcases hcase with ⟨_, _, hc⟩ | ⟨_, _, hc⟩ | ⟨k, rfl, hc, hc2⟩ | ⟨hc, hc2⟩
  all_goals
    go_enter Try.func7, Try.ntmps7
    go_wp2_with fail
    refine (few_any _ d _ (HI.out.below hb0)).mono ?_
    rintro e w1 ⟨v1, rfl, hd1, hb1⟩
    have HI1 := hide hd1
    rw [HDE.out] at HI1
    obtain ⟨a1', n1', c1', a2', n2', c2', fu', of', rfl, _⟩ := hd1
    unfold drvVal at HI1 ⊢
    have C0 := B0.next hb1
    have hbw := chain hb0 hb1
    clear hb1 hb0 B0 HI
    obtain ⟨p0, p1, p2, p3, p4, p5, p6, p7⟩ := C0.four
    obtain ⟨W2, hW2⟩ : ∃ W2, (((w1.setCell ⟨w.heap.size, 0, none⟩ (.slice a1' n1' c1')).setCell ⟨w.heap.size, 1, none⟩ (.slice a2' n2' c2')).setCell ⟨w.heap.size, 2, none⟩ (.int .i64 fu')).setCell ⟨w.heap.size, 3, none⟩ (.bool of') = W2 := ⟨_, rfl⟩
    have K0 : Blk W2 w.heap.size [.slice a1' n1' c1', .slice a2' n2' c2', .int .i64 fu', .bool of'] 25 := by rw [← hW2]; exact C0.set4 _ _ _ _
    have I0 : Hid (IsDrive W2 (.agg #[.slice a1' n1' c1', .slice a2' n2' c2', .int .i64 fu', .bool of']) D) := hide (by rw [← hW2]; exact HI1.out.set4 (blk_holds C0) _ _ _ _)
    have hbX : Below w.heap.size w W2 := by rw [← hW2]; exact below4 hbw (Nat.le_refl _) _ _ _ _
    clear hbw HI1
    obtain ⟨q0, q1, q2, q3, q4, q5, q6, q7⟩ := K0.four
    go_wp2_with fail
    refine (HRD.out _ _ I0.out).mono ?_
    rintro e w3 ⟨rfl, hb3⟩
    have K3 := K0.next hb3
    have I3 := hide (I0.out.below hb3)
    have hbY := chain hbX hb3
    clear hb3 K0 I0 hbX q0 q1 q2 q3 q4 q5 q6 q7 hW2 p0 p1 p2 p3 p4 p5 p6 p7 C0
    obtain ⟨q0, q1, q2, q3, q4, q5, q6, q7⟩ := K3.four
    go_wp2_with fail
    refine (HRR.out _ _ I3.out).mono ?_
    rintro e w4 ⟨rfl, hb4⟩
    have K4 := K3.next hb4
    have I4 := hide (I3.out.below hb4)
    have hbZ := chain hbY hb4
    clear hb4 K3 I3 hbY q0 q1 q2 q3 q4 q5 q6 q7
    obtain ⟨q0, q1, q2, q3, q4, q5, q6, q7⟩ := K4.four
    have hlt4 := K4.lt
    go_wp2_with fail
    go_region_held3 (fun w' => w'.cell? ⟨w.heap.size, 0, none⟩ = some (.slice a1' n1' c1') ∧ w'.cell? ⟨w.heap.size, 1, none⟩ = some (.slice a2' n2' c2') ∧ w'.cell? ⟨w.heap.size, 2, none⟩ = some (.int .i64 fu') ∧ w'.cell? ⟨w.heap.size, 3, none⟩ = some (.bool of')) (go_keep) (first
      | (go_at_call 37
         refine (HMY.out _ _ (I4.out.below (Below.drewed (Below.refl _ _)))).mono ?_
         rintro e w5 ⟨rfl, hb5⟩
         have hbq5 := hide (undrew1 hb5)
         obtain ⟨hcc5, hff5⟩ := bcell hbq5.out
         clear hb5)
      | (go_at_call 26
         refine (HMR.out _ _ (I4.out.below hbq5.out)).mono ?_
         rintro e w6 ⟨rfl, hb6⟩
         have hbq6 := hide (chain hbq5.out hb6)
         obtain ⟨hcc6, hff6⟩ := bcell hbq6.out
         clear hb6))
    have hbV := chain hbZ hbq6.out
    clear hcc5 hff5 hcc6 hff6 q0 q1 q2 q3 q4 q5 q6 q7 hbZ
  · go_wp2_with fail
    refine (new_any n _).mono ?_
    rintro e w7 ⟨v7, rfl, hd7, hb7⟩
    rw [new_bad (.inl hc)] at hd7 ⊢
    obtain ⟨x1, y1, x2, y2, rfl, hD7⟩ := drv_form hd7
    have l5 : Drv.zero.cells.length = 0 ∧ Drv.zero.queue.length = 0 ∧ Drv.zero.fuel = 0 ∧ Drv.zero.off = false := ⟨rfl, rfl, rfl, rfl⟩
    rw [l5.1, l5.2.1, l5.2.2.1, l5.2.2.2]
    have hbU := chain hbV hb7
    clear hd7 hD7 l5 hb7
    go_wp2_with fail
    refine (HA.out _).mono ?_
    rintro e w8 ⟨rfl, hb8⟩
    go_wp2_with fail
    go_ret
    exact ⟨rfl, chain (hbU.alloc hbU.size _) hb8⟩
  · go_wp2_with fail
    refine (new_any n _).mono ?_
    rintro e w7 ⟨v7, rfl, hd7, hb7⟩
    rw [new_bad (.inr hc)] at hd7 ⊢
    obtain ⟨x1, y1, x2, y2, rfl, hD7⟩ := drv_form hd7
    have l5 : Drv.zero.cells.length = 0 ∧ Drv.zero.queue.length = 0 ∧ Drv.zero.fuel = 0 ∧ Drv.zero.off = false := ⟨rfl, rfl, rfl, rfl⟩
    rw [l5.1, l5.2.1, l5.2.2.1, l5.2.2.2]
    have hbU := chain hbV hb7
    clear hd7 hD7 l5 hb7
    go_wp2_with fail
    refine (HA.out _).mono ?_
    rintro e w8 ⟨rfl, hb8⟩
    go_wp2_with fail
    go_ret
    exact ⟨rfl, chain (hbU.alloc hbU.size _) hb8⟩
  · go_wp2_with fail
    refine (new_any (k : Int) _).mono ?_
    rintro e w7 ⟨v7, rfl, hd7, hb7⟩
    have hng := new_good (n := k) (by omega) (by omega)
    rw [hng] at hd7 ⊢
    obtain ⟨x1, y1, x2, y2, rfl, hD7⟩ := drv_form hd7
    have HI7 := hide hd7
    have hbU := chain hbV hb7
    clear hd7 hD7 hb7 hng
    obtain ⟨m1, hm1⟩ : ∃ m, (⟨List.replicate k blank, [], -1, false⟩ : Drv).cells.length = m := ⟨_, rfl⟩
    obtain ⟨m2, hm2⟩ : ∃ m, (⟨List.replicate k blank, [], -1, false⟩ : Drv).queue.length = m := ⟨_, rfl⟩
    rw [hm1, hm2] at HI7 ⊢
    clear hm1 hm2
    have K7 := Blk.new w7 [.slice x1 m1 y1, .slice x2 m2 y2, .int .i64 (-1), .bool false] 25
    have hal : Below w7.heap.size w7 (w7.alloc (.cells #[.slice x1 m1 y1, .slice x2 m2 y2, .int .i64 (-1), .bool false] 25)) := (Below.refl _ _).alloc (Nat.le_refl _) _
    have HI8 := hide (HI7.out.below hal)
    have hbT := chain hbU hal
    obtain ⟨q0, q1, q2, q3, q4, q5, q6, q7⟩ := K7.four
    clear hal
    go_wp2_with fail
    have hlt7 := K7.lt
    go_region_held3 (fun w' => w'.cell? ⟨w7.heap.size, 0, none⟩ = some (.slice x1 m1 y1) ∧ w'.cell? ⟨w7.heap.size, 1, none⟩ = some (.slice x2 m2 y2) ∧ w'.cell? ⟨w7.heap.size, 2, none⟩ = some (.int .i64 (-1)) ∧ w'.cell? ⟨w7.heap.size, 3, none⟩ = some (.bool false)) (go_keep) (first
      | (go_at_call 38
         refine (refnew_any k _ (by omega)).mono ?_
         rintro e w8 ⟨v8, rfl, hd8, hb8⟩
         have hbq8 := hide (undrew1 hb8)
         have HD8 := hide hd8
         obtain ⟨hcc8, hff8⟩ := bcell hbq8.out
         clear hb8 hd8)
      | (go_at_call 23
         refine (same_any _ _ ⟨List.replicate k blank, [], -1, false⟩ _ (HI8.out.below hbq8.out) HD8.out).mono ?_
         rintro e w9 ⟨rfl, hb9⟩
         have hbq9 := hide (chain hbq8.out hb9)
         obtain ⟨hcc9, hff9⟩ := bcell hbq9.out
         clear hb9)
      | (go_at_call 27
         refine (HA.out _).mono ?_
         rintro e w10 ⟨rfl, hb10⟩
         have hbq10 := hide (chain hbq9.out hb10)
         obtain ⟨hcc10, hff10⟩ := bcell hbq10.out
         clear hb10))
    go_wp2_with fail
    go_ret
    exact ⟨rfl, chain hbT hbq10.out⟩
  · go_wp2_with fail
    refine (new_any 80 _).mono ?_
    rintro e w7 ⟨v7, rfl, hd7, hb7⟩
    have hng : Drv.new 80 = (⟨List.replicate 80 blank, [], -1, false⟩, 0) := new_good (n := 80) (by omega) (by omega)
    rw [hng] at hd7 ⊢
    obtain ⟨x1, y1, x2, y2, rfl, hD7⟩ := drv_form hd7
    have HI7 := hide hd7
    have hbU := chain hbV hb7
    clear hd7 hD7 hb7 hng
    obtain ⟨m1, hm1⟩ : ∃ m, (⟨List.replicate 80 blank, [], -1, false⟩ : Drv).cells.length = m := ⟨_, rfl⟩
    obtain ⟨m2, hm2⟩ : ∃ m, (⟨List.replicate 80 blank, [], -1, false⟩ : Drv).queue.length = m := ⟨_, rfl⟩
    rw [hm1, hm2] at HI7 ⊢
    clear hm1 hm2
    have K7 := Blk.new w7 [.slice x1 m1 y1, .slice x2 m2 y2, .int .i64 (-1), .bool false] 25
    have hal : Below w7.heap.size w7 (w7.alloc (.cells #[.slice x1 m1 y1, .slice x2 m2 y2, .int .i64 (-1), .bool false] 25)) := (Below.refl _ _).alloc (Nat.le_refl _) _
    have HI8 := hide (HI7.out.below hal)
    have hbT := chain hbU hal
    obtain ⟨q0, q1, q2, q3, q4, q5, q6, q7⟩ := K7.four
    clear hal
    go_wp2_with fail
    have hlt7 := K7.lt
    go_region_held3 (fun w' => w'.cell? ⟨w7.heap.size, 0, none⟩ = some (.slice x1 m1 y1) ∧ w'.cell? ⟨w7.heap.size, 1, none⟩ = some (.slice x2 m2 y2) ∧ w'.cell? ⟨w7.heap.size, 2, none⟩ = some (.int .i64 (-1)) ∧ w'.cell? ⟨w7.heap.size, 3, none⟩ = some (.bool false)) (go_keep) (first
      | (go_at_call 38
         refine (refnew_any 80 _ (by omega)).mono ?_
         rintro e w8 ⟨v8, rfl, hd8, hb8⟩
         have hbq8 := hide (undrew1 hb8)
         have HD8 := hide hd8
         obtain ⟨hcc8, hff8⟩ := bcell hbq8.out
         clear hb8 hd8)
      | (go_at_call 23
         refine (same_any _ _ ⟨List.replicate 80 blank, [], -1, false⟩ _ (HI8.out.below hbq8.out) HD8.out).mono ?_
         rintro e w9 ⟨rfl, hb9⟩
         have hbq9 := hide (chain hbq8.out hb9)
         obtain ⟨hcc9, hff9⟩ := bcell hbq9.out
         clear hb9)
      | (go_at_call 27
         refine (HA.out _).mono ?_
         rintro e w10 ⟨rfl, hb10⟩
         have hbq10 := hide (chain hbq9.out hb10)
         obtain ⟨hcc10, hff10⟩ := bcell hbq10.out
         clear hb10))
    go_wp2_with fail
    go_ret
    exact ⟨rfl, chain hbT hbq10.out⟩

/-- The walk, as the frame calls it. -/
theorem reads17_frame (v : Value) (d : Drv) {w : World} (h : IsDrive w v d) (at_ : Int) (hat : (Lit.int .i64 at_).wf = true) (n : Int) (hn : (Lit.int .i64 n).wf = true) (w' : World) (e : w' = w := by rfl) :
    Calls Try.prog 7 #[v, .int .i64 at_, .int .i64 n] w' fun e w2 => e = .returned (.bool true) ∧ Below w'.heap.size w' w2 := by
  subst e
  exact reads_walk17 v d at_ n _ h (i64_bd hat) (i64_bd hn)

end Go.Proofs.Ytkapdmhjhbmdjaa
