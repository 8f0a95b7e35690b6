/-
  The rest of the document's Write of layer 17: where it refuses.
-/
import Derived.Test.YtkapdmhjhbmdjaaRefWrite
namespace Go.Proofs.Ytkapdmhjhbmdjaa
open Go.RowKit

set_option maxRecDepth 100000 in
set_option maxHeartbeats 3200000 in
theorem refwrite_not (a1 a2 : Option Addr) (n1 c1 n2 c2 : Nat) (fuel : Int) (off : Bool) (d : Drv) (at_ : Int) (s : ByteArray) (w : World) (h : DriveAt w a1 n1 c1 a2 n2 c2 fuel off d) (_hat : -9223372036854775808 ≤ at_ ∧ at_ < 9223372036854775808) (hl : s.size < 9223372036854775808) (hbad : d.mayB = false ∨ s.size = 0 ∨ s.size % 64 ≠ 0) :
    Calls Try.prog 30 #[.agg #[.slice a1 n1 c1, .slice a2 n2 c2, .int .i64 fuel, .bool off], .int .i64 at_, .string s] w fun e w' => ∃ v, e = .returned (.tuple #[v, .int .i64 1]) ∧ IsDrive w' v Drv.zero ∧ Below w.heap.size w w' := by
  have HD := hide h
  have HM := hide (fun w => refmay_any (.agg #[.slice a1 n1 c1, .slice a2 n2 c2, .int .i64 fuel, .bool off]) d w)
  obtain ⟨m, hm⟩ : ∃ m, d.mayB = m := ⟨_, rfl⟩
  rw [hm] at HM hbad
  clear h hm _hat
  cases m with
  | false =>
    clear hbad
    go_enter Try.func30, Try.ntmps30
    go_wp2_with fail
    refine (HM.out _ ((HD.out.below (((Below.refl _ _).alloc (Nat.le_refl _) _).alloc (by simp) _)).is)).mono ?_
    rintro e w1 ⟨rfl, hb1⟩
    obtain ⟨B0, B1⟩ := two_boxes w [.slice a1 n1 c1, .slice a2 n2 c2, .int .i64 fuel, .bool off] [.slice none 0 0, .slice none 0 0, .int .i64 0, .bool false] 25
    obtain ⟨p0, p1, p2, p3, p4, p5, p6, p7⟩ := (B1.next hb1).four
    have hbw : Below w.heap.size w w1 := (((Below.refl _ _).alloc (Nat.le_refl _) _).alloc (by simp) _).trans (hb1.mono (by simp; omega))
    clear B0 B1 hb1
    go_wp2_with fail
    refine bodyPost_ret (v := .tuple #[.agg #[.slice none 0 0, .slice none 0 0, .int .i64 0, .bool false], .int .i64 1]) (by simp [results, Try.results30, go_sem, p0, p1, p2, p3]) rfl ⟨_, rfl, zero_drive _, ?_⟩
    exact below4 hbw (Nat.le_succ _) _ _ _ _
  | true =>
    by_cases h0 : s.size = 0
    · obtain rfl : s = ⟨#[]⟩ := ByteArray.ext (Array.eq_empty_of_size_eq_zero h0)
      clear hbad h0
      go_enter Try.func30, Try.ntmps30
      go_wp2_with fail
      refine (HM.out _ ((HD.out.below (((Below.refl _ _).alloc (Nat.le_refl _) _).alloc (by simp) _)).is)).mono ?_
      rintro e w1 ⟨rfl, hb1⟩
      obtain ⟨B0, B1⟩ := two_boxes w [.slice a1 n1 c1, .slice a2 n2 c2, .int .i64 fuel, .bool off] [.slice none 0 0, .slice none 0 0, .int .i64 0, .bool false] 25
      obtain ⟨p0, p1, p2, p3, p4, p5, p6, p7⟩ := (B1.next hb1).four
      have hbw : Below w.heap.size w w1 := (((Below.refl _ _).alloc (Nat.le_refl _) _).alloc (by simp) _).trans (hb1.mono (by simp; omega))
      clear B0 B1 hb1
      go_wp2_with fail
      refine bodyPost_ret (v := .tuple #[.agg #[.slice none 0 0, .slice none 0 0, .int .i64 0, .bool false], .int .i64 1]) (by simp [results, Try.results30, go_sem, p0, p1, p2, p3]) rfl ⟨_, rfl, zero_drive _, ?_⟩
      exact below4 hbw (Nat.le_succ _) _ _ _ _
    · have hr : s.size % 64 ≠ 0 := by rcases hbad with h | h | h; · cases h
                                      · exact absurd h h0
                                      · exact h
      have hse := toList_some (s := s) (by omega)
      have hsn2 : ((s.size : Int) % 64 != 0) = true := by rw [bne_iff_ne]; omega
      clear hbad h0
      go_enter Try.func30, Try.ntmps30
      go_wp2_with fail
      refine (HM.out _ ((HD.out.below (((Below.refl _ _).alloc (Nat.le_refl _) _).alloc (by simp) _)).is)).mono ?_
      rintro e w1 ⟨rfl, hb1⟩
      obtain ⟨B0, B1⟩ := two_boxes w [.slice a1 n1 c1, .slice a2 n2 c2, .int .i64 fuel, .bool off] [.slice none 0 0, .slice none 0 0, .int .i64 0, .bool false] 25
      obtain ⟨p0, p1, p2, p3, p4, p5, p6, p7⟩ := (B1.next hb1).four
      have hbw : Below w.heap.size w w1 := (((Below.refl _ _).alloc (Nat.le_refl _) _).alloc (by simp) _).trans (hb1.mono (by simp; omega))
      clear B0 B1 hb1
      go_wp2_with fail
      refine bodyPost_ret (v := .tuple #[.agg #[.slice none 0 0, .slice none 0 0, .int .i64 0, .bool false], .int .i64 1]) (by simp [results, Try.results30, go_sem, p0, p1, p2, p3]) rfl ⟨_, rfl, zero_drive _, ?_⟩
      exact below4 hbw (Nat.le_succ _) _ _ _ _

set_option maxRecDepth 100000 in
set_option maxHeartbeats 3200000 in
theorem refwrite_off (a1 a2 : Option Addr) (n1 c1 n2 c2 : Nat) (fuel : Int) (off : Bool) (d : Drv) (at_ : Int) (n : Nat) (s : ByteArray) (w : World) (h : DriveAt w a1 n1 c1 a2 n2 c2 fuel off d) (hmay : d.mayB = true) (hat : -9223372036854775808 ≤ at_ ∧ at_ < 9223372036854775808) (hl : s.size < 9223372036854775808) (hn1 : 1 ≤ n) (hsz : s.size = n * 64) (hth : d.there at_ (n : Nat) = false) :
    Calls Try.prog 30 #[.agg #[.slice a1 n1 c1, .slice a2 n2 c2, .int .i64 fuel, .bool off], .int .i64 at_, .string s] w fun e w' => ∃ v, e = .returned (.tuple #[v, .int .i64 12]) ∧ IsDrive w' v Drv.zero ∧ Below w.heap.size w w' := by
  have HD := hide h
  have HM := hide (fun w => refmay_any (.agg #[.slice a1 n1 c1, .slice a2 n2 c2, .int .i64 fuel, .bool off]) d w)
  rw [hmay] at HM
  have hN : d.cells.length = n1 := h.cells.len
  have hnn : n1 ≤ 6000 := by rw [← hN]; exact (d.mayB_iff.1 hmay).most
  have hno : ¬ (0 ≤ at_ ∧ 0 ≤ (n : Int) ∧ at_ ≤ n1 ∧ (n : Int) ≤ n1 - at_) := by
    rw [← hN]
    exact of_decide_eq_false hth
  have hcase : at_ < 0 ∨ (0 ≤ at_ ∧ (n1 : Int) < at_) ∨ (0 ≤ at_ ∧ at_ ≤ n1 ∧ n1 - at_ < n) := by omega
  have hse := toList_some (s := s) (by omega)
  have hsn : ((s.size : Int) / 64) = n := by omega
  have hsn2 : ((s.size : Int) % 64 != 0) = false := by rw [bne_eq_false_iff_eq]; omega
  have hn64 : n * 64 < 9223372036854775808 := by omega
  obtain ⟨hat1, hat2⟩ := hat
  clear h hmay hN hth hsz hno
  rcases hcase with h1 | ⟨h1, h2⟩ | ⟨h1, h2, h4⟩
  rotate_left 2
  · have hd : decide ((n1 : Int) - at_ < n) = true := by simp; omega
    have HH4 := hide h4
    clear h4
    go_enter Try.func30, Try.ntmps30
    go_wp2_with fail
    refine (HM.out _ ((HD.out.below (((Below.refl _ _).alloc (Nat.le_refl _) _).alloc (by simp) _)).is)).mono ?_
    rintro e w1 ⟨rfl, hb1⟩
    obtain ⟨B0, B1⟩ := two_boxes w [.slice a1 n1 c1, .slice a2 n2 c2, .int .i64 fuel, .bool off] [.slice none 0 0, .slice none 0 0, .int .i64 0, .bool false] 25
    have hbw : Below w.heap.size w w1 := (((Below.refl _ _).alloc (Nat.le_refl _) _).alloc (by simp) _).trans (hb1.mono (by simp; omega))
    obtain ⟨p0, p1, p2, p3, p4, p5, p6, p7⟩ := (B0.next hb1).four
    obtain ⟨q0, q1, q2, q3, q4, q5, q6, q7⟩ := (B1.next hb1).four
    clear B0 B1 hb1
    go_wp2_with fail
    refine bodyPost_ret (v := .tuple #[.agg #[.slice none 0 0, .slice none 0 0, .int .i64 0, .bool false], .int .i64 12]) (by simp [results, Try.results30, go_sem, q0, q1, q2, q3]) rfl ⟨_, rfl, zero_drive _, ?_⟩
    exact below4 hbw (Nat.le_succ _) _ _ _ _
  all_goals
    go_enter Try.func30, Try.ntmps30
    go_wp2_with fail
    refine (HM.out _ ((HD.out.below (((Below.refl _ _).alloc (Nat.le_refl _) _).alloc (by simp) _)).is)).mono ?_
    rintro e w1 ⟨rfl, hb1⟩
    obtain ⟨B0, B1⟩ := two_boxes w [.slice a1 n1 c1, .slice a2 n2 c2, .int .i64 fuel, .bool off] [.slice none 0 0, .slice none 0 0, .int .i64 0, .bool false] 25
    have hbw : Below w.heap.size w w1 := (((Below.refl _ _).alloc (Nat.le_refl _) _).alloc (by simp) _).trans (hb1.mono (by simp; omega))
    obtain ⟨p0, p1, p2, p3, p4, p5, p6, p7⟩ := (B0.next hb1).four
    obtain ⟨q0, q1, q2, q3, q4, q5, q6, q7⟩ := (B1.next hb1).four
    clear B0 B1 hb1
    go_wp2_with fail
    refine bodyPost_ret (v := .tuple #[.agg #[.slice none 0 0, .slice none 0 0, .int .i64 0, .bool false], .int .i64 12]) (by simp [results, Try.results30, go_sem, q0, q1, q2, q3]) rfl ⟨_, rfl, zero_drive _, ?_⟩
    exact below4 hbw (Nat.le_succ _) _ _ _ _

/-- The document's Write. -/
theorem refwrite_any (v : Value) (d : Drv) (at_ : Int) (l : List UInt8) (w : World) (h : IsDrive w v d) (hq : d.queue.length ≤ 1000000) (hat : -9223372036854775808 ≤ at_ ∧ at_ < 9223372036854775808) (hl : l.length < 9223372036854775808) :
    Calls Try.prog 30 #[v, .int .i64 at_, .string (bs l)] w fun e w' => ∃ v', e = .returned (.tuple #[v', .int .i64 (d.write at_ l).2]) ∧ IsDrive w' v' (d.write at_ l).1 ∧ Below w.heap.size w w' := by
  obtain ⟨a1, n1, c1, a2, n2, c2, fuel, off, rfl, hd⟩ := h
  unfold Drv.write
  by_cases hbad : d.mayB = false ∨ l = [] ∨ l.length % 64 ≠ 0
  · rw [if_pos hbad]
    refine refwrite_not a1 a2 n1 c1 n2 c2 fuel off d at_ (bs l) w hd hat (by rw [bs_size]; exact hl) ?_
    rw [bs_size]
    exact hbad.imp id (Or.imp (fun h => by rw [h]; rfl) id)
  · rw [if_neg hbad]
    have hm : d.mayB = true := by cases hmm : d.mayB with
      | true => rfl
      | false => exact absurd (.inl hmm) hbad
    have hne : l ≠ [] := fun h => hbad (.inr (.inl h))
    have hmod : l.length % 64 = 0 := by by_cases hx : l.length % 64 = 0
                                        · exact hx
                                        · exact absurd (.inr (.inr hx)) hbad
    have hpos : 0 < l.length := List.length_pos_iff.2 hne
    obtain ⟨n, hn⟩ : ∃ n, l.length / 64 = n := ⟨_, rfl⟩
    have hln : l.length = n * 64 := by omega
    rw [hn]
    cases hth : d.there at_ (n : Nat) with
    | false =>
      rw [if_pos rfl]
      exact refwrite_off a1 a2 n1 c1 n2 c2 fuel off d at_ n (bs l) w hd hm hat (by rw [bs_size]; exact hl) (by omega) (by rw [bs_size]; exact hln) hth
    | true =>
      rw [if_neg (by decide)]
      unfold Drv.there at hth
      have ht := of_decide_eq_true hth
      obtain ⟨a, rfl⟩ := Int.eq_ofNat_of_zero_le ht.1
      rw [hd.cells.len] at ht
      exact refwrite_main a1 a2 n1 c1 n2 c2 fuel off d a n l w hd (d.mayB_iff.1 hm) (by omega) (by omega) hln (by rw [hd.queue.len] at hq; exact hq)

end Go.Proofs.Ytkapdmhjhbmdjaa
