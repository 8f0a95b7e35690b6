/-
  The walks through the statements' small functions of layer 18 (some, long), and the document's Same of texts.
-/
import Derived.Test.YtkapdmhjhbmdjaaAppReg
import Derived.Test.YtkapdmhjhbmdjaaRefNew
import Derived.Deep.QuietTactic
import Derived.BigQuiet
namespace Go.Proofs.Ytkapdmhjhbmdjaa
open Go.RowKit

set_option maxRecDepth 100000 in
set_option maxHeartbeats 400000 in
theorem long_any (n : Nat) (w : World) (hn : n ≤ 4480) : Calls Try.prog 52 #[.int .i64 (n : Int)] w fun e w' => e = .returned (.string (bs (List.replicate n 120))) ∧ Below w.heap.size w w' := by
  have HA : Hid (∀ w, Calls Try.prog 34 #[.int .u8 120, .int .i64 70] w fun e w' => e = .returned (.string (bs (List.replicate (64 * 70) 120))) ∧ Below w.heap.size w w') := hide (fun w => all_any 120 70 w (by decide))
  have hx := (bs_take (List.replicate (64 * 70) 120) n).symm
  rw [List.take_replicate, show min n (64 * 70) = n by omega] at hx
  have hsz : (bs (List.replicate (64 * 70) (120 : UInt8))).size = 4480 := by rw [bs_size, List.length_replicate]
  obtain ⟨z, hz⟩ : ∃ z, bs (List.replicate (64 * 70) (120 : UInt8)) = z := ⟨_, rfl⟩
  obtain ⟨y, hy⟩ : ∃ z, bs (List.replicate n (120 : UInt8)) = z := ⟨_, rfl⟩
  rw [hz, hy] at hx
  rw [hz] at HA hsz
  rw [hy]
  have h1 : n ≤ z.size := by omega
  have h2 : (n : Int) ≤ (z.size : Int) := by omega
  have h3 : z.size ≤ 5000 := by omega
  clear hz hy hsz
  go_enter Try.func52, Try.ntmps52
  go_wp2_with fail
  refine (HA.out _).mono ?_
  rintro e w1 ⟨rfl, hb1⟩
  go_wp2_with fail
  go_ret
  exact ⟨rfl, hb1⟩

set_option maxRecDepth 100000 in
set_option maxHeartbeats 800000 in
theorem some_any (n : Int) (w : World) : Calls Try.prog 50 #[.int .i64 n] w fun e w' => ∃ v, e = .returned v ∧ IsDrive w' v (Drv.new n).1 ∧ Below w.heap.size w w' := by
  have HN := hide (fun w => new_any n w)
  obtain ⟨⟨X, E⟩, hX⟩ : ∃ r, Drv.new n = r := ⟨_, rfl⟩
  rw [hX] at HN ⊢
  clear hX
  have B0 := Blk.new w [.slice none 0 0, .slice none 0 0, .int .i64 0, .bool false] 25
  have hb0 : Below w.heap.size w (w.alloc (.cells #[.slice none 0 0, .slice none 0 0, .int .i64 0, .bool false] 25)) := (Below.refl _ _).alloc (Nat.le_refl _) _
  go_enter Try.func50, Try.ntmps50
  go_wp2_with fail
  refine (HN.out _).mono ?_
  rintro e w1 ⟨v1, rfl, hd1, hb1⟩
  have HD1 := hide hd1
  obtain ⟨a1, n1, c1, a2, n2, c2, f, o, rfl, _⟩ := hd1
  unfold drvVal at HD1 ⊢
  have C0 := B0.next hb1
  have hbx := chain hb0 hb1
  have hal : Below w1.heap.size w1 (w1.alloc (.cells #[.slice a1 n1 c1, .slice a2 n2 c2, .int .i64 f, .bool o] 25)) := (Below.refl _ _).alloc (Nat.le_refl _) _
  have D0 := C0.next hal
  have HD2 := hide (HD1.out.below hal)
  have hby := chain hbx hal
  obtain ⟨p0, p1, p2, p3, p4, p5, p6, p7⟩ := C0.four
  have hlt := C0.lt
  clear hb1 hb0 B0 hal
  go_wp2_with fail
  refine bodyPost_ret (v := .agg #[.slice a1 n1 c1, .slice a2 n2 c2, .int .i64 f, .bool o]) (by simp [results, Try.results50, go_sem, p0, p1, p2, p3, hlt, World.cell?_alloc_lt]) rfl ⟨_, rfl, (HD1.out.set4 (blk_holds C0) _ _ _ _).below ((Below.refl _ _).alloc (Nat.le_refl _) _), (below4 hbx (Nat.le_refl _) _ _ _ _).alloc (by simp; omega) _⟩

theorem same_upto {xs ys : List (List UInt8)} {k : Nat} (hx : k < xs.length) (hy : k < ys.length) (h : xs.take k = ys.take k) (he : xs.getD k [] = ys.getD k []) : xs.take (k + 1) = ys.take (k + 1) := by
  rw [take_getD_snoc xs k [] hx, take_getD_snoc ys k [] hy, h, he]

set_option maxRecDepth 100000 in
set_option maxHeartbeats 1600000 in
/-- The document's Same, of two lists of texts. -/
theorem ref2same_any (ao bo : Option Addr) (n c m e : Nat) (xs ys : List (List UInt8)) (w : World) (ha : Strs w ao n xs) (hb : Strs w bo m ys) (hn : n ≤ 9223372036854775807) (hm : m ≤ 9223372036854775807) :
    Calls Try.prog 49 #[.slice ao n c, .slice bo m e] w fun e w' => e = .returned (.bool (decide (xs = ys))) ∧ Below w.heap.size w w' := by
  have HA := hide ha
  have HB := hide hb
  have hla := ha.len
  have hlb := hb.len
  by_cases hne : n = m
  · subst hne
    have HLA := hide hla
    have HLB := hide hlb
    clear ha hb hla hlb hm
    go_enter Try.func49, Try.ntmps49
    go_wp2_with fail
    go_loopw [5] (fun i wr => ∃ k : Nat, k ≤ n ∧ i = .int .i64 k ∧ Hid (xs.take k = ys.take k) ∧ Below w.heap.size w wr) (fun i _ => n - (intOf i).toNat)
    case atStart => exact ⟨0, Nat.zero_le _, rfl, hide rfl, Below.refl _ _⟩
    case round =>
      obtain ⟨k, hk, rfl, hS, hbw⟩ := hrel
      by_cases hkn : k < n
      · obtain ⟨b1, o1, hl1, hix1, hc1⟩ := (HA.out.below hbw).at c k hkn
        obtain ⟨b2, o2, hl2, hix2, hc2⟩ := (HB.out.below hbw).at e k hkn
        have hbeq := str_beq (xs.getD k []) (ys.getD k [])
        by_cases he : xs.getD k [] = ys.getD k []
        · have HNX := hide (same_upto (by rw [HLA.out]; exact hkn) (by rw [HLB.out]; exact hkn) hS.out he)
          rw [decide_eq_true he] at hbeq
          obtain ⟨s1, hs1⟩ : ∃ z, bs (xs.getD k []) = z := ⟨_, rfl⟩
          obtain ⟨s2, hs2⟩ : ∃ z, bs (ys.getD k []) = z := ⟨_, rfl⟩
          rw [hs1] at hc1 hbeq
          rw [hs2] at hc2 hbeq
          clear hs1 hs2 he
          go_wp2_with fail
          go_quiet (fail)
          go_wp2_with fail
          go_roundw
          case rel => exact ⟨k + 1, by omega, by go_num, HNX, Below.trans hbw ⟨rfl, rfl, rfl, Nat.le_refl _, fun _ _ => rfl⟩⟩
          case measure => simp [intOf]; omega
        · have HD := hide (show decide (xs = ys) = false from decide_eq_false (fun h => he (by rw [h])))
          rw [decide_eq_false he] at hbeq
          obtain ⟨s1, hs1⟩ : ∃ z, bs (xs.getD k []) = z := ⟨_, rfl⟩
          obtain ⟨s2, hs2⟩ : ∃ z, bs (ys.getD k []) = z := ⟨_, rfl⟩
          rw [hs1] at hc1 hbeq
          rw [hs2] at hc2 hbeq
          clear hs1 hs2 he
          go_wp2_with fail
          go_quiet (fail)
          go_wp2_with fail
          go_ret
          rw [HD.out]
          exact ⟨rfl, Below.trans hbw ⟨rfl, rfl, rfl, Nat.le_refl _, fun _ _ => rfl⟩⟩
      · obtain rfl : k = n := by omega
        have HD := hide (show decide (xs = ys) = true from decide_eq_true (by
          have h := hS.out
          rwa [List.take_of_length_le (by rw [HLA.out]; exact Nat.le_refl _), List.take_of_length_le (by rw [HLB.out]; exact Nat.le_refl _)] at h))
        go_wp2_with fail
        go_ret
        rw [HD.out]
        exact ⟨rfl, hbw⟩
  · have HD := hide (show decide (xs = ys) = false from decide_eq_false (fun h => hne (by rw [← hla, ← hlb, h])))
    have hnb : ((n : Int) != (m : Int)) = true := by rw [bne_iff_ne]; omega
    have hnd : decide ((n : Int) = (m : Int)) = false := decide_eq_false (by omega)
    clear ha hb hla hlb hne
    go_enter Try.func49, Try.ntmps49
    go_wp2_with fail
    go_ret
    rw [HD.out]
    exact ⟨rfl, Below.refl _ _⟩

end Go.Proofs.Ytkapdmhjhbmdjaa
