/-
  The walk through num.Get.
-/
import Derived.Test.YtogonkoeginoaaaGreatDoorMem
import Derived.Laws.Bits64
namespace Go.Proofs.YtogonkoeginoaaaGreatDoor
open Go.RowKit

theorem get_step (s : ByteArray) (k : Nat) (h : k < s.size) : val (s.data.toList.take (k + 1)) = 256 * val (s.data.toList.take k) + s[k].toNat := by
  rw [List.take_succ_eq_append_getElem (by simpa using h), val_snoc]
  rfl

theorem or256 (a : Nat) (c : UInt8) (h : a * 256 < 18446744073709551616) : bits .or .u64 ((a : Int) * 256) (IntKind.u64.wrap (c.toNat : Int)) = ((256 * a + c.toNat : Nat) : Int) := by
  have hc : c.toNat < 256 := c.toNat_lt
  have hw : IntKind.u64.wrap (c.toNat : Int) = (c.toNat : Int) := by rw [IntKind.wrap_u64]; omega
  rw [hw]
  rw [u64_or _ _ (by omega) (by omega) (by omega) (by omega)]
  have e1 : ((a : Int) * 256).toNat = a * 256 := by omega
  have e2 : (c.toNat : Int).toNat = c.toNat := by omega
  rw [e1, e2, nat_join 8 _ _ (by omega) (by omega), Nat.mul_comm]

set_option maxRecDepth 100000 in
set_option maxHeartbeats 800000 in
/-- num.Get. -/
theorem get_any (s : ByteArray) (w : World) (hsz : s.size ≤ maxLen) :
    Calls Tryz.prog 88 #[.string s] w fun e w' => e = .returned (.tuple #[.int .u64 (getV s), .int .i64 (getE s)]) ∧ w = w' := by
  unfold maxLen at hsz
  by_cases hbad : s.size < 1 ∨ 8 < s.size
  · have hb : getOk s = false := by simp [getOk]; omega
    have H : Hid ((getV s : Int) = 0 ∧ getE s = 1) := hide (by simp [getV, getE, hb])
    clear hb
    rcases hbad with h | h
    · go_enter Tryz.func88, Tryz.ntmps88
      go_wp2
      go_ret2
      rw [H.out.1, H.out.2]
      exact ⟨rfl, rfl⟩
    · go_enter Tryz.func88, Tryz.ntmps88
      go_wp2
      go_ret2
      rw [H.out.1, H.out.2]
      exact ⟨rfl, rfl⟩
  · have hb : getOk s = true := by simp [getOk]; omega
    have H : Hid ((getV s : Int) = val s.data.toList ∧ getE s = 0) := hide (by simp [getV, getE, hb])
    have h1 : 1 ≤ s.size := by omega
    have h8 : s.size ≤ 8 := by omega
    clear hb hbad
    go_enter Tryz.func88, Tryz.ntmps88
    go_wp2
    go_loop [4, 16] (fun n i => ∃ k a : Nat, k ≤ s.size ∧ Hid (a = val (s.data.toList.take k)) ∧ i = .int .i64 k ∧ n = .int .u64 (a : Int)) (fun _ i => s.size - (intOf i).toNat)
    case atStart => exact ⟨0, 0, Nat.zero_le _, hide rfl, rfl, rfl⟩
    case round =>
      obtain ⟨k, a, hk, ha, rfl, rfl⟩ := hrel
      by_cases hlt : k < s.size
      · have hbd : a * 256 < 18446744073709551616 := by
          have := val_lt (s.data.toList.take k)
          rw [← ha.out, List.length_take] at this
          have h3 : (256 : Nat) ^ (min k s.data.toList.length) ≤ 256 ^ 7 := Nat.pow_le_pow_right (by decide) (by omega)
          have h4 : (256 : Nat) ^ 7 = 72057594037927936 := by decide
          omega
        have hst := hide (get_step s k hlt)
        have hor := or256 a s[k] hbd
        go_wp2
        go_round
        case rel => exact ⟨k + 1, _, by omega, hide (by rw [hst.out, ← ha.out]), by go_num, rfl⟩
        case measure => simp [intOf]; omega
      · go_wp2
        go_ret2
        have e : k = s.data.toList.length := by simpa using Nat.le_antisymm hk (by omega)
        refine ⟨?_, rfl⟩
        rw [H.out.1, H.out.2]
        have := ha.out
        rw [e, List.take_length] at this
        rw [← this]
        rfl

end Go.Proofs.YtogonkoeginoaaaGreatDoor
