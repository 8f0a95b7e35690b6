/-
  The walk through the document's Read of layer 17.
-/
import Derived.Test.YtkapdmhjhbmdjaaRefDsk
import Derived.Test.YtkapdmhjhbmdjaaRefMay
import Derived.Test.YtkapdmhjhbmdjaaDskRead
import Derived.Test.YtkapdmhjhbmdjaaApp
namespace Go.Proofs.Ytkapdmhjhbmdjaa
open Go.RowKit

theorem cellFrom_puts (d : Drv) (hm : d.May) (p : Nat) (hp : p < d.cells.length) : ∀ k, k ≤ d.queue.length → cellFrom d p k = (puts d.cells (d.queue.take k)).getD p [] := by
  intro k
  induction k with
  | zero => intro _; rfl
  | succ k ih =>
    intro hk
    have hw := hm.wait _ (getD_mem d.queue k ⟨0, []⟩ (by omega))
    rw [cellFrom, take_getD_snoc d.queue k ⟨0, []⟩ (by omega), puts_snoc, ih (by omega)]
    obtain ⟨x, hx⟩ : ∃ x, d.queue.getD k ⟨0, []⟩ = x := ⟨_, rfl⟩
    rw [hx] at hw ⊢
    have hl : (puts d.cells (List.take k d.queue)).length = d.cells.length := puts_length _ _
    simp only [List.getD_eq_getElem?_getD, List.getElem?_set]
    by_cases h : x.pos = (p : Int)
    · rw [if_pos h, if_pos (by omega), if_pos (by omega)]
      rfl
    · rw [if_neg h, if_neg (by omega)]
theorem cellFrom_full (d : Drv) (hm : d.May) (p : Nat) (hp : p < d.cells.length) : cellFrom d p d.queue.length = d.full.getD p [] := by
  rw [cellFrom_puts d hm p hp _ (Nat.le_refl _), List.take_length]
  rfl
theorem full_length (d : Drv) : d.full.length = d.cells.length := puts_length _ _
theorem flat_succ (l : List (List UInt8)) (a k : Nat) (h : a + k < l.length) : ((l.drop a).take (k + 1)).flatten = ((l.drop a).take k).flatten ++ l.getD (a + k) [] := by
  rw [take_getD_snoc (l.drop a) k [] (by rw [List.length_drop]; omega)]
  simp [List.getD_eq_getElem?_getD]
theorem puts_all (q : List Wt) : ∀ cs : List (List UInt8), (∀ c ∈ cs, c.length = 64) → (∀ w ∈ q, w.s.length = 64) → ∀ c ∈ puts cs q, c.length = 64 := by
  induction q with
  | nil => intro cs h _ c hc; exact h c hc
  | cons w q ih =>
    intro cs h hq c hc
    have hc' : c ∈ puts (cs.set w.pos.toNat w.s) q := hc
    refine ih _ ?_ (fun w hw => hq w (by simp [hw])) c hc'
    intro c hc
    rcases List.mem_or_eq_of_mem_set hc with hc | rfl
    · exact h c hc
    · exact hq w (by simp)
theorem full_all (d : Drv) (hm : d.May) : ∀ c ∈ d.full, c.length = 64 := puts_all _ _ hm.cell fun w hw => (hm.wait w hw).2.2

set_option maxRecDepth 100000 in
set_option maxHeartbeats 1600000 in
theorem refread_main (a1 a2 : Option Addr) (n1 c1 n2 c2 : Nat) (fuel : Int) (d : Drv) (a n : Nat) (w : World) (h : DriveAt w a1 n1 c1 a2 n2 c2 fuel false d) (hmay : d.May) (hth : a + n ≤ n1) :
    Calls Try.prog 36 #[.agg #[.slice a1 n1 c1, .slice a2 n2 c2, .int .i64 fuel, .bool false], .int .i64 (a : Int), .int .i64 (n : Int)] w fun e w' => e = .returned (.tuple #[.string (bs ((d.full.drop a).take n).flatten), .int .i64 0]) ∧ Below w.heap.size w w' := by
  have HD := hide h
  have HM := hide (fun w => refmay_any (.agg #[.slice a1 n1 c1, .slice a2 n2 c2, .int .i64 fuel, .bool false]) d w)
  rw [d.mayB_iff.2 hmay] at HM
  have hn6 : n1 ≤ 6000 := by rw [← h.cells.len]; exact hmay.most
  have HC := hide (fun (p : Nat) (w' : World) (hp : p < n1) (hb : Below w.heap.size w w') => refcell_any a1 a2 n1 c1 n2 c2 fuel false d p w' (h.below hb) hp)
  have HF := hide (fun (p : Nat) (hp : p < n1) => by have := cellFrom_full d hmay p (by rw [h.cells.len]; exact hp); rw [h.queue.len] at this; exact this)
  have HS := hide (fun (k : Nat) (hk : a + k < n1) => flat_succ d.full a k (by rw [full_length, h.cells.len]; exact hk))
  have HZ := hide (fun (k : Nat) (hk : a + k ≤ n1) => show (bs ((d.full.drop a).take k).flatten).size ≤ 64 * k by
    rw [bs_size, List.length_flatten]
    have h1 := full_all d hmay
    have h2 : (((d.full.drop a).take k).map List.length) = List.replicate k 64 := by
      rw [List.eq_replicate_iff]
      refine ⟨by simp [full_length, h.cells.len]; omega, ?_⟩
      intro b hb
      obtain ⟨c, hc, rfl⟩ := List.mem_map.1 hb
      exact h1 c (List.mem_of_mem_drop (List.mem_of_mem_take hc))
    rw [h2]; simp; omega)
  clear h hmay
  go_enter Try.func36, Try.ntmps36
  go_wp2_with fail
  refine (HM.out _ ((HD.out.below ((Below.refl _ _).alloc (Nat.le_refl _) _)).is)).mono ?_
  rintro e w1 ⟨rfl, hb1⟩
  have B0 := (Blk.new w [.slice a1 n1 c1, .slice a2 n2 c2, .int .i64 fuel, .bool false] 25).next hb1
  have hbw : Below w.heap.size w w1 := ((Below.refl _ _).alloc (Nat.le_refl _) _).trans (hb1.mono (by simp))
  obtain ⟨p0, p1, p2, p3, p4, p5, p6, p7⟩ := B0.four
  clear hb1
  have d1 : decide ((a : Int) < 0) = false := by simp
  have d2 : decide ((n : Int) < 0) = false := by simp
  have d3 : decide (n1 < a) = false := by simp; omega
  have d4 : decide ((n1 : Int) - a < n) = false := by simp; omega
  go_wp2_with fail
  clear d1 d2 d3 d4 p0 p1 p2 p3 p4 p5 p6 p7
  go_loopw [8, 9] (fun s i wr => ∃ (k : Nat) (t : ByteArray), k ≤ n ∧ i = .int .i64 ((a : Int) + k) ∧ s = .string t ∧ bs ((d.full.drop a).take k).flatten = t ∧ t.size ≤ 64 * k ∧ Blk wr w.heap.size [.slice a1 n1 c1, .slice a2 n2 c2, .int .i64 fuel, .bool false] 25 ∧ Below w.heap.size w wr) (fun _ i _ => a + n - (intOf i).toNat)
  case atStart => exact ⟨0, _, Nat.zero_le _, by simp, rfl, rfl, Nat.le_refl _, B0, hbw⟩
  case round =>
    obtain ⟨k, t, hk, rfl, rfl, ht, htz, G0, hbr⟩ := hrel
    clear B0 hbw
    have HT := hide ht
    clear ht
    obtain ⟨p0, p1, p2, p3, p4, p5, p6, p7⟩ := G0.four
    have hwr := G0.lt
    by_cases hlt : k < n
    · have hct := HC.out (a + k) wr (by omega) hbr
      rw [HF.out (a + k) (by omega), show ((a + k : Nat) : Int) = (a : Int) + k by omega] at hct
      have hsz := HZ.out (k + 1) (by omega)
      have hst := HS.out k (by omega)
      obtain ⟨x, hx⟩ : ∃ x, d.full.getD (a + k) [] = x := ⟨_, rfl⟩
      rw [hx] at hct hst
      have hn : Hid (bs ((d.full.drop a).take (k + 1)).flatten = t ++ bs x) := hide (by rw [hst, ← bs_append, HT.out])
      rw [hn.out, ByteArray.size_append] at hsz
      obtain ⟨s, hs⟩ : ∃ s, bs x = s := ⟨_, rfl⟩
      rw [hs] at hct hn hsz
      have HCT := hide hct
      clear hct hst hx hs
      go_wp2_with fail
      refine HCT.out.mono ?_
      rintro e w5 ⟨rfl, hb5⟩
      have H0 := G0.next hb5
      have hbr5 := chain hbr hb5
      clear hb5 p0 p1 p2 p3 p4 p5 p6 p7
      obtain ⟨p0, p1, p2, p3, p4, p5, p6, p7⟩ := H0.four
      go_wp2_with fail
      go_roundw
      case rel => exact ⟨k + 1, _, by omega, by go_num, rfl, hn.out, by rw [ByteArray.size_append]; omega, H0, hbr5⟩
      case measure => simp [intOf]; omega
    · obtain rfl : k = n := by omega
      go_wp2_with fail
      go_ret2
      rw [HT.out]
      exact ⟨rfl, hbr⟩

set_option maxRecDepth 100000 in
set_option maxHeartbeats 1600000 in
theorem refread_run (a1 a2 : Option Addr) (n1 c1 n2 c2 : Nat) (fuel : Int) (off : Bool) (d : Drv) (at_ n : Int) (w : World) (h : DriveAt w a1 n1 c1 a2 n2 c2 fuel off d) (hat : -9223372036854775808 ≤ at_ ∧ at_ < 9223372036854775808) (hn : -9223372036854775808 ≤ n ∧ n < 9223372036854775808) :
    Calls Try.prog 36 #[.agg #[.slice a1 n1 c1, .slice a2 n2 c2, .int .i64 fuel, .bool off], .int .i64 at_, .int .i64 n] w fun e w' => e = .returned (.tuple #[.string (bs (d.read at_ n).1), .int .i64 (d.read at_ n).2]) ∧ Below w.heap.size w w' := by
  have HM := hide (fun w => refmay_any (.agg #[.slice a1 n1 c1, .slice a2 n2 c2, .int .i64 fuel, .bool off]) d w)
  have hth : d.there at_ n = decide (0 ≤ at_ ∧ 0 ≤ n ∧ at_ ≤ n1 ∧ n ≤ n1 - at_) := by unfold Drv.there; rw [h.cells.len]
  have e0 : bs [] = ⟨#[]⟩ := rfl
  have HD := hide h
  cases hm : d.mayB with
  | false =>
    have HR : Hid (d.read at_ n = ([], 1)) := hide (by unfold Drv.read; rw [if_pos hm])
    rw [hm] at HM
    clear h hm hth hat hn
    go_enter Try.func36, Try.ntmps36
    go_wp2_with fail
    refine (HM.out _ ((HD.out.below ((Below.refl _ _).alloc (Nat.le_refl _) _)).is)).mono ?_
    rintro e w1 ⟨rfl, hb1⟩
    go_wp2_with fail
    go_ret2
    rw [HR.out]
    exact ⟨rfl, ((Below.refl _ _).alloc (Nat.le_refl _) _).trans (hb1.mono (by simp))⟩
  | true =>
    have hmay := d.mayB_iff.1 hm
    have hn6 : n1 ≤ 6000 := by rw [← h.cells.len]; exact hmay.most
    cases ht : d.there at_ n with
    | false =>
      have HR : Hid (d.read at_ n = ([], 12)) := hide (by unfold Drv.read; rw [if_neg (by rw [hm]; decide), if_pos ht])
      rw [hm] at HM
      rw [ht] at hth
      have hno := of_decide_eq_false hth.symm
      have hcase : at_ < 0 ∨ (0 ≤ at_ ∧ n < 0) ∨ (0 ≤ at_ ∧ 0 ≤ n ∧ (n1 : Int) < at_) ∨ (0 ≤ at_ ∧ 0 ≤ n ∧ at_ ≤ n1 ∧ n1 - at_ < n) := by omega
      obtain ⟨hat1, hat2⟩ := hat
      obtain ⟨hnn1, hnn2⟩ := hn
      clear h hm hth ht hno hmay
      rcases hcase with h1 | ⟨h1, h2⟩ | ⟨h1, h2, h3⟩ | ⟨h1, h2, h3, h4⟩
      rotate_left 3
      · have hd : decide ((n1 : Int) - at_ < n) = true := by simp; omega
        have HH4 := hide h4
        clear h4
        go_enter Try.func36, Try.ntmps36
        go_wp2_with fail
        refine (HM.out _ ((HD.out.below ((Below.refl _ _).alloc (Nat.le_refl _) _)).is)).mono ?_
        rintro e w1 ⟨rfl, hb1⟩
        have B0 := (Blk.new w [.slice a1 n1 c1, .slice a2 n2 c2, .int .i64 fuel, .bool off] 25).next hb1
        have hbw : Below w.heap.size w w1 := ((Below.refl _ _).alloc (Nat.le_refl _) _).trans (hb1.mono (by simp))
        obtain ⟨p0, p1, p2, p3, p4, p5, p6, p7⟩ := B0.four
        clear hb1 B0
        go_wp2_with fail
        go_ret2
        rw [HR.out]
        exact ⟨rfl, hbw⟩
      all_goals
        go_enter Try.func36, Try.ntmps36
        go_wp2_with fail
        refine (HM.out _ ((HD.out.below ((Below.refl _ _).alloc (Nat.le_refl _) _)).is)).mono ?_
        rintro e w1 ⟨rfl, hb1⟩
        have B0 := (Blk.new w [.slice a1 n1 c1, .slice a2 n2 c2, .int .i64 fuel, .bool off] 25).next hb1
        have hbw : Below w.heap.size w w1 := ((Below.refl _ _).alloc (Nat.le_refl _) _).trans (hb1.mono (by simp))
        obtain ⟨p0, p1, p2, p3, p4, p5, p6, p7⟩ := B0.four
        clear hb1 B0
        go_wp2_with fail
        go_ret2
        rw [HR.out]
        exact ⟨rfl, hbw⟩
    | true =>
      rw [ht] at hth
      have hth3 := of_decide_eq_true hth.symm
      obtain ⟨x0, x1, x2, x3⟩ := hth3
      obtain ⟨a, rfl⟩ := Int.eq_ofNat_of_zero_le x0
      obtain ⟨m, rfl⟩ := Int.eq_ofNat_of_zero_le x1
      cases hoff : off with
      | true =>
        subst hoff
        have HR : Hid (d.read a m = ([], 10)) := hide (by unfold Drv.read; rw [if_neg (by rw [hm]; decide), if_neg (by rw [ht]; decide), if_pos h.off_eq])
        rw [hm] at HM
        have d1 : decide ((a : Int) < 0) = false := by simp
        have d2 : decide ((m : Int) < 0) = false := by simp
        have d3 : decide (n1 < a) = false := by simp; omega
        have d4 : decide ((n1 : Int) - a < m) = false := by simp; omega
        have HX := hide (And.intro hat hn)
        clear h hm hth ht hmay hat hn
        go_enter Try.func36, Try.ntmps36
        go_wp2_with fail
        refine (HM.out _ ((HD.out.below ((Below.refl _ _).alloc (Nat.le_refl _) _)).is)).mono ?_
        rintro e w1 ⟨rfl, hb1⟩
        have B0 := (Blk.new w [.slice a1 n1 c1, .slice a2 n2 c2, .int .i64 fuel, .bool true] 25).next hb1
        have hbw : Below w.heap.size w w1 := ((Below.refl _ _).alloc (Nat.le_refl _) _).trans (hb1.mono (by simp))
        obtain ⟨p0, p1, p2, p3, p4, p5, p6, p7⟩ := B0.four
        clear hb1 B0
        go_wp2_with fail
        go_ret2
        rw [HR.out]
        exact ⟨rfl, hbw⟩
      | false =>
        subst hoff
        have HR : d.read a m = ((((d.full).drop a).take m).flatten, 0) := by
          unfold Drv.read
          rw [if_neg (by rw [hm]; decide), if_neg (by rw [ht]; decide), if_neg (by rw [h.off_eq]; decide)]
          rfl
        rw [HR]
        exact refread_main a1 a2 n1 c1 n2 c2 fuel d a m w h hmay (by omega)

/-- The document's Read. -/
theorem refread_any (v : Value) (d : Drv) (at_ n : Int) (w : World) (h : IsDrive w v d) (hat : -9223372036854775808 ≤ at_ ∧ at_ < 9223372036854775808) (hn : -9223372036854775808 ≤ n ∧ n < 9223372036854775808) :
    Calls Try.prog 36 #[v, .int .i64 at_, .int .i64 n] w fun e w' => e = .returned (.tuple #[.string (bs (d.read at_ n).1), .int .i64 (d.read at_ n).2]) ∧ Below w.heap.size w w' := by
  obtain ⟨a1, n1, c1, a2, n2, c2, fuel, off, rfl, hd⟩ := h
  exact refread_run a1 a2 n1 c1 n2 c2 fuel off d at_ n w hd hat hn

end Go.Proofs.Ytkapdmhjhbmdjaa
