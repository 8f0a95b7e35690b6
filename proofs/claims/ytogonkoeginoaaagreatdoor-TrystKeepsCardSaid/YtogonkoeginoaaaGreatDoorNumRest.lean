/-
  The walks through num.Get, num.Unpack, num.Fold, num.Unfold.
-/
import Derived.Test.YtogonkoeginoaaaGreatDoorMem
import Derived.Laws.Bits64
namespace Go.Proofs.YtogonkoeginoaaaGreatDoor
open Go.RowKit

theorem get_step (s : ByteArray) (k : Nat) (h : k < s.size) : val (s.data.toList.take (k + 1)) = 256 * val (s.data.toList.take k) + s[k].toNat := by
  rw [List.take_succ_eq_append_getElem (by simpa using h), val_snoc]
  rfl

theorem or256 (a : Nat) (c : UInt8) (h : a * 256 < 18446744073709551616) : bits .or .u64 ((a : Int) * 256) (IntKind.u64.wrap (c.toNat : Int)) = ((256 * a + c.toNat : Nat) : Int) := by
  have hc : c.toNat < 256 := c.toNat_lt
  have hw : IntKind.u64.wrap (c.toNat : Int) = (c.toNat : Int) := by rw [IntKind.wrap_u64]; omega
  rw [hw]
  rw [u64_or _ _ (by omega) (by omega) (by omega) (by omega)]
  have e1 : ((a : Int) * 256).toNat = a * 256 := by omega
  have e2 : (c.toNat : Int).toNat = c.toNat := by omega
  rw [e1, e2, nat_join 8 _ _ (by omega) (by omega), Nat.mul_comm]

set_option maxRecDepth 100000 in
set_option maxHeartbeats 800000 in
/-- num.Get. -/
theorem get_any (s : ByteArray) (w : World) (hsz : s.size ≤ maxLen) :
    Calls Tryz.prog 88 #[.string s] w fun e w' => e = .returned (.tuple #[.int .u64 (getV s), .int .i64 (getE s)]) ∧ w = w' := by
  unfold maxLen at hsz
  by_cases hbad : s.size < 1 ∨ 8 < s.size
  · have hb : getOk s = false := by simp [getOk]; omega
    have H : Hid ((getV s : Int) = 0 ∧ getE s = 1) := hide (by simp [getV, getE, hb])
    clear hb
    rcases hbad with h | h
    · go_enter Tryz.func88, Tryz.ntmps88
      go_wp2
      go_ret2
      rw [H.out.1, H.out.2]
      exact ⟨rfl, rfl⟩
    · go_enter Tryz.func88, Tryz.ntmps88
      go_wp2
      go_ret2
      rw [H.out.1, H.out.2]
      exact ⟨rfl, rfl⟩
  · have hb : getOk s = true := by simp [getOk]; omega
    have H : Hid ((getV s : Int) = val s.data.toList ∧ getE s = 0) := hide (by simp [getV, getE, hb])
    have h1 : 1 ≤ s.size := by omega
    have h8 : s.size ≤ 8 := by omega
    clear hb hbad
    go_enter Tryz.func88, Tryz.ntmps88
    go_wp2
    go_loop [4, 16] (fun n i => ∃ k a : Nat, k ≤ s.size ∧ Hid (a = val (s.data.toList.take k)) ∧ i = .int .i64 k ∧ n = .int .u64 (a : Int)) (fun _ i => s.size - (intOf i).toNat)
    case atStart => exact ⟨0, 0, Nat.zero_le _, hide rfl, rfl, rfl⟩
    case round =>
      obtain ⟨k, a, hk, ha, rfl, rfl⟩ := hrel
      by_cases hlt : k < s.size
      · have hbd : a * 256 < 18446744073709551616 := by
          have := val_lt (s.data.toList.take k)
          rw [← ha.out, List.length_take] at this
          have h3 : (256 : Nat) ^ (min k s.data.toList.length) ≤ 256 ^ 7 := Nat.pow_le_pow_right (by decide) (by omega)
          have h4 : (256 : Nat) ^ 7 = 72057594037927936 := by decide
          omega
        have hst := hide (get_step s k hlt)
        have hor := or256 a s[k] hbd
        go_wp2
        go_round
        case rel => exact ⟨k + 1, _, by omega, hide (by rw [hst.out, ← ha.out]), by go_num, rfl⟩
        case measure => simp [intOf]; omega
      · go_wp2
        go_ret2
        have e : k = s.data.toList.length := by simpa using Nat.le_antisymm hk (by omega)
        refine ⟨?_, rfl⟩
        rw [H.out.1, H.out.2]
        have := ha.out
        rw [e, List.take_length] at this
        rw [← this]
        rfl

theorem and1 (m : Nat) (h : m < 18446744073709551616) : bits .and .u64 (m : Int) 1 = ((m % 2 : Nat) : Int) := by
  rw [u64_and _ _ (by omega) (by omega) (by omega) (by omega)]
  have e2 : (1 : Int).toNat = 1 := rfl
  rw [Int.toNat_natCast, e2, nat_mask1]

set_option maxRecDepth 100000 in
set_option maxHeartbeats 400000 in
theorem fold_any (a : Int) (w : World) (h0 : -9223372036854775808 ≤ a) (h : a < 9223372036854775808) :
    Calls Tryz.prog 52 #[.int .i64 a] w fun e w' => e = .returned (.int .u64 (foldN a)) ∧ w = w' := by
  by_cases hp : 0 ≤ a
  · have H : Hid (foldN a = 2 * a) := hide (if_pos hp)
    go_enter Tryz.func52, Tryz.ntmps52
    go_wp2
    go_ret
    refine ⟨?_, rfl⟩
    rw [H.out]
    simp
    try omega
  · have H : Hid (foldN a = -2 * a - 1) := hide (if_neg hp)
    have hp' : a < 0 := by omega
    clear hp
    go_enter Tryz.func52, Tryz.ntmps52
    go_wp2
    go_ret
    refine ⟨?_, rfl⟩
    rw [H.out]
    simp
    omega

set_option maxRecDepth 100000 in
set_option maxHeartbeats 400000 in
theorem unfold_nat (m : Nat) (w : World) (h : m < 18446744073709551616) :
    Calls Tryz.prog 89 #[.int .u64 (m : Int)] w fun e w' => e = .returned (.int .i64 (unfoldN m)) ∧ w = w' := by
  have hand := and1 m h
  rcases Nat.mod_two_eq_zero_or_one m with hr | hr
  · have H : Hid (unfoldN m = (m : Int) / 2) := hide (if_pos (by omega))
    have hm2 : (m : Int) % 2 = 0 := by omega
    rw [hr] at hand
    clear hr
    go_enter Tryz.func89, Tryz.ntmps89
    go_wp2
    go_ret
    refine ⟨?_, rfl⟩
    rw [H.out]
    simp
  · have H : Hid (unfoldN m = -((m : Int) / 2) - 1) := hide (if_neg (by omega))
    have hm2 : (m : Int) % 2 = 1 := by omega
    rw [hr] at hand
    clear hr
    go_enter Tryz.func89, Tryz.ntmps89
    go_wp2
    go_ret
    refine ⟨?_, rfl⟩
    rw [H.out]
    simp
theorem unfold_any (m : Int) (w : World) (h0 : 0 ≤ m) (h : m < 18446744073709551616) :
    Calls Tryz.prog 89 #[.int .u64 m] w fun e w' => e = .returned (.int .i64 (unfoldN m)) ∧ w = w' := by
  obtain ⟨k, rfl⟩ := Int.eq_ofNat_of_zero_le h0
  exact unfold_nat k w (by omega)



end Go.Proofs.YtogonkoeginoaaaGreatDoor
