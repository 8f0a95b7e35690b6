/-
  The walks through the reference's Put, Get.
-/
import Derived.Test.YtkapdmhjhbmdjaaNumGet
namespace Go.Proofs.Ytkapdmhjhbmdjaa
open Go.RowKit

set_option maxRecDepth 100000 in
set_option maxHeartbeats 800000 in
theorem refput_run (m wide : Nat) (w : World) (h1 : 1 ≤ wide) (h8 : wide ≤ 8) (hm : m < 18446744073709551616) :
    Calls Try.prog 82 #[.int .u64 (m : Int), .int .i64 (wide : Int)] w fun e w' => e = .returned (.tuple #[.string (putS m wide), .bool (putOk m wide)]) ∧ Below w.heap.size w w' := by
  have hcv := fun (x : Int) (c : UInt8) (hx : x = (c.toNat : Int)) (w : World) => conv_new (P := Try.prog) (src := 57) (dst := 9) Try.underlying57 Try.underlying5 Try.underlying9 x c hx w
  have HCV := hide hcv
  clear hcv
  go_enter Try.func82, Try.ntmps82
  go_wp2
  go_loopw [0, 6, 7] (fun n t i wr => ∃ (k q : Nat) (s : ByteArray), k ≤ wide ∧ s.size ≤ k ∧ q < 18446744073709551616 ∧ Hid (m / 256 ^ k = q) ∧ Hid (s = bs (octs k m)) ∧ i = .int .i64 k ∧ n = .int .u64 (q : Int) ∧ t = .string s ∧ Below w.heap.size w wr)
    (fun _ _ i _ => wide - (intOf i).toNat)
  case atStart => exact ⟨0, m, ⟨#[]⟩, Nat.zero_le _, Nat.le_refl _, hm, hide (by simp), hide rfl, rfl, rfl, rfl, Below.refl _ _⟩
  case round =>
    obtain ⟨k, q, s, hk, hsz, hql, HQ, HS, rfl, rfl, rfl, hbr⟩ := hrel
    by_cases hlt : k < wide
    · have hcv := HCV.out ((q : Int) % 256) (UInt8.ofNat q) (by simp)
      have hs1 : (bs [UInt8.ofNat q]).size = 1 := rfl
      obtain ⟨b1, hb1⟩ : ∃ b1, bs [UInt8.ofNat q] = b1 := ⟨_, rfl⟩
      rw [hb1] at hs1 hcv
      have HB := hide hb1
      clear hb1
      have hs1' : b1.size ≤ 1 := by omega
      clear hs1
      go_wp2
      go_roundw
      case rel =>
        refine ⟨k + 1, q / 256, _, by omega, ?_, by omega, hide ?_, hide ?_, by go_num, rfl, rfl, hbr.alloc hbr.size _⟩
        · rw [ByteArray.size_append]; omega
        · rw [Nat.pow_succ, ← Nat.div_div_eq_div_mul, HQ.out]
        · rw [← HB.out, HS.out, bs_append, octs, HQ.out]; rfl
      case measure => simp [intOf]; omega
    · obtain rfl : k = wide := by omega
      have hpos : 0 < 256 ^ k := Nat.pow_pos (by decide)
      by_cases hz : q = 0
      · have hlt' : m < 256 ^ k := by
          rcases Nat.div_eq_zero_iff.1 (HQ.out.trans hz) with h | h
          · omega
          · exact h
        have H3 : Hid (putOk m k = true) := hide (by simp [putOk]; omega)
        subst hz
        clear hlt' hpos
        go_wp2
        go_ret2
        refine ⟨?_, hbr⟩
        simp [putS, H3.out, HS.out]
      · have hlt' : ¬ m < 256 ^ k := fun h => hz (by rw [← HQ.out]; exact Nat.div_eq_of_lt h)
        have H3 : Hid (putOk m k = false) := hide (by simp [putOk]; intro _ _; omega)
        have hb0 : 0 < (q : Int) := by omega
        clear hz hlt' hpos
        go_wp2
        go_ret2
        refine ⟨?_, hbr⟩
        simp [putS, H3.out]
        rfl

/-- The reference's Put. -/
theorem refput_any (n wide : Int) (w : World) (h0 : 0 ≤ n) (hn : n < 18446744073709551616) :
    Calls Try.prog 82 #[.int .u64 n, .int .i64 wide] w fun e w' => e = .returned (.tuple #[.string (putS n.toNat wide), .bool (putOk n.toNat wide)]) ∧ Below w.heap.size w w' := by
  by_cases hw : wide < 1 ∨ 8 < wide
  · have hok : putOk n.toNat wide = false := by simp [putOk]; omega
    have H : Hid (putS n.toNat wide = ByteArray.empty ∧ putOk n.toNat wide = false) := hide ⟨by simp [putS, hok], hok⟩
    clear hok
    rcases hw with hw | hw
    · go_enter Try.func82, Try.ntmps82
      go_wp2
      go_ret2
      rw [H.out.1, H.out.2]
      exact ⟨rfl, Below.refl _ _⟩
    · go_enter Try.func82, Try.ntmps82
      go_wp2
      go_ret2
      rw [H.out.1, H.out.2]
      exact ⟨rfl, Below.refl _ _⟩
  · obtain ⟨m, rfl⟩ := Int.eq_ofNat_of_zero_le h0
    obtain ⟨k, rfl⟩ := Int.eq_ofNat_of_zero_le (show 0 ≤ wide by omega)
    rw [Int.toNat_natCast]
    exact refput_run m k w (by omega) (by omega) (by omega)

theorem refget_val (s : ByteArray) (h : s.size ≤ 8) : val s.data.toList % 18446744073709551616 = val s.data.toList := by
  refine Nat.mod_eq_of_lt ?_
  have h1 := val_lt s.data.toList
  have h2 : (256 : Nat) ^ s.data.toList.length ≤ 256 ^ 8 := Nat.pow_le_pow_right (by decide) (by simpa using h)
  have h3 : (256 : Nat) ^ 8 = 18446744073709551616 := by decide
  omega

set_option maxRecDepth 100000 in
set_option maxHeartbeats 800000 in
/-- The reference's Get. -/
theorem refget_any (s : ByteArray) (w : World) (hsz : s.size ≤ maxLen) :
    Calls Try.prog 104 #[.string s] w fun e w' => e = .returned (.tuple #[.int .u64 (getV s), .bool (getOk s)]) ∧ w = w' := by
  unfold maxLen at hsz
  go_enter Try.func104, Try.ntmps104
  go_wp2
  go_loop [4, 5] (fun n i => ∃ k a : Nat, k ≤ s.size ∧ Hid (a = val (s.data.toList.take k) % 18446744073709551616) ∧ a < 18446744073709551616 ∧ i = .int .i64 k ∧ n = .int .u64 (a : Int)) (fun _ i => s.size - (intOf i).toNat)
  case atStart => exact ⟨0, 0, Nat.zero_le _, hide rfl, by omega, rfl, rfl⟩
  case round =>
    obtain ⟨k, a, hk, ha, hal, rfl, rfl⟩ := hrel
    by_cases hlt : k < s.size
    · have hst := hide (get_step s k hlt)
      obtain ⟨b, hb⟩ : ∃ b : Nat, IntKind.u64.wrap (IntKind.u64.wrap (256 * (a : Int)) + IntKind.u64.wrap (s[k].toNat : Int)) = (b : Int) ∧ b = (256 * a + s[k].toNat) % 18446744073709551616 := by
        refine ⟨_, ?_, rfl⟩
        simp only [IntKind.wrap_u64]
        omega
      have HB := hide hb
      clear hb
      go_wp2
      go_round
      case rel =>
        refine ⟨k + 1, b, by omega, hide ?_, by have := HB.out.2; omega, by go_num, by rw [HB.out.1]⟩
        have e1 := HB.out.2
        have e2 := hst.out
        have e3 := ha.out
        omega
      case measure => simp [intOf]; omega
    · have hks : k = s.data.toList.length := by simpa using Nat.le_antisymm hk (by omega)
      have e := ha.out
      rw [hks, List.take_length] at e
      have HE := hide e
      clear e hks ha
      by_cases h0 : s.size = 0
      · have H : Hid (getV s = 0 ∧ getOk s = false) := hide (by simp [getV, getOk, h0])
        have ht := toList_empty h0
        clear h0
        go_wp2
        go_ret2
        rw [H.out.1, H.out.2]
        exact ⟨rfl, rfl⟩
      · have ht := toList_some (s := s) (by omega)
        by_cases h8 : 8 < s.size
        · have H : Hid (getV s = 0 ∧ getOk s = false) := hide (by
            have : getOk s = false := by simp [getOk]; omega
            simp [getV, this])
          clear h0
          go_wp2
          go_ret2
          rw [H.out.1, H.out.2]
          exact ⟨rfl, rfl⟩
        · have H : Hid (getV s = a ∧ getOk s = true) := hide (by
            have : getOk s = true := by simp [getOk]; omega
            rw [HE.out, refget_val s (by omega)]
            simp [getV, this])
          clear h0
          go_wp2
          go_ret2
          rw [H.out.1, H.out.2]
          exact ⟨rfl, rfl⟩

end Go.Proofs.Ytkapdmhjhbmdjaa
