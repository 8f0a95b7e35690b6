/-
  The walks through disk's loss: keeps and torn.
-/
import Derived.Test.YtogonkoeginoaaaGreatDoorDskBase
import Derived.Test.YtogonkoeginoaaaGreatDoorBlk
import Derived.Deep.QuietTactic
import Derived.BigQuiet
import Derived.Laws.BitsAllLaws
namespace Go.Proofs.YtogonkoeginoaaaGreatDoor
open Go.RowKit

theorem Below.drawn {B : Nat} {a w : World} (h : Below B a w) (n : Nat) : Below B a (w.drewN n) := h.trans ⟨rfl, rfl, rfl, Nat.le_refl _, fun _ _ => rfl⟩

set_option maxRecDepth 100000 in
set_option maxHeartbeats 1600000 in
theorem keeps_any (kept : Nat) (tn cut : Int) (i : Nat) (w : World) (hk : kept < 18446744073709551616) (hi : i < 9223372036854775808) :
    Calls Tryz.prog 37 #[.agg #[.int .u64 kept, .int .i64 tn, .int .i64 cut], .int .i64 (i : Int)] w fun e w' => e = .returned (.bool (keepsB kept i)) ∧ Below w.heap.size w w' := by
  have hle : kept / 2 ^ (i % 64) < 18446744073709551616 := Nat.lt_of_le_of_lt (Nat.div_le_self _ _) hk
  have hb : ((bits .and .u64 ((kept : Int) / 2 ^ (i % 64)) 1) == 1) = keepsB kept i := by
    have e : (kept : Int) / 2 ^ (i % 64) = ((kept / 2 ^ (i % 64) : Nat) : Int) := by simp
    rw [e, show (1 : Int) = ((1 : Nat) : Int) from rfl, u64_and_nat _ _ hle (by decide), Nat.and_one_is_mod]
    unfold keepsB
    obtain ⟨m, hm⟩ : ∃ m, kept / 2 ^ (i % 64) % 2 = m := ⟨_, rfl⟩
    rw [hm]
    by_cases h : m = 1
    · subst h; rfl
    · rw [decide_eq_false h, beq_eq_false_iff_ne]; omega
  clear hle
  go_enter Tryz.func37, Tryz.ntmps37
  go_wp2_with fail
  go_ret
  exact ⟨rfl, (Below.refl _ _).alloc (Nat.le_refl _) _⟩

set_option maxRecDepth 100000 in
set_option maxHeartbeats 1600000 in
theorem torn_any (kept : Nat) (tn cut : Int) (x y : List UInt8) (w : World) (hc : -9223372036854775808 ≤ cut ∧ cut < 9223372036854775808) (hx : x.length = 64) (hy : y.length = 64) :
    Calls Tryz.prog 38 #[.agg #[.int .u64 kept, .int .i64 tn, .int .i64 cut], .string (bs x), .string (bs y)] w fun e w' => e = .returned (.string (bs (torn cut x y))) ∧ Below w.heap.size w w' := by
  have hmid : ∀ c : Nat, c ≤ 64 → bs (y.take c ++ x.drop c) = (bs y).extract 0 c ++ (bs x).extract c 64 := by
    intro c hc'
    have e : (((bs y).extract 0 c ++ (bs x).extract c 64)).data.toList = y.take c ++ x.drop c := by
      simp only [bs, ByteArray.data_append, ByteArray.data_extract, Array.toList_append, Array.toList_extract, List.extract_eq_take_drop]
      rw [List.drop_zero, Nat.sub_zero, List.take_of_length_le (l := x.drop c) (by rw [List.length_drop, hx]; exact Nat.le_refl _)]
    rw [← e]; rfl
  have hsx : (bs x).size = 64 := by rw [bs_size]; exact hx
  have hsy : (bs y).size = 64 := by rw [bs_size]; exact hy
  obtain ⟨s, hs⟩ : ∃ s, bs x = s := ⟨_, rfl⟩
  obtain ⟨t, ht⟩ : ∃ t, bs y = t := ⟨_, rfl⟩
  rw [hs] at hsx
  rw [ht] at hsy
  rw [hs, ht] at hmid
  rw [hs, ht]
  have HMID := hide hmid
  clear hmid hs ht hx hy
  obtain ⟨hc1, hc2⟩ := hc
  unfold torn
  rcases Int.lt_or_le cut 0 with h0 | h0
  · rw [show (min (max cut 0) 64).toNat = 0 by omega, HMID.out 0 (by decide)]
    go_enter Tryz.func38, Tryz.ntmps38
    go_wp2_with fail
    go_quiet (fail)
    go_wp2_with fail
    go_ret
    exact ⟨by rw [show t.extract 0 0 = ByteArray.empty by (rw [ByteArray.extract_eq_empty_iff]; omega), ByteArray.empty_append]; rfl, ((Below.refl _ _).alloc (Nat.le_refl _) _) |> fun h => Below.drawn h _⟩
  · obtain ⟨c, rfl⟩ := Int.eq_ofNat_of_zero_le h0
    clear h0 hc1
    by_cases h1 : c ≤ 64
    · rw [show (min (max (c : Int) 0) 64).toNat = c by omega, HMID.out c h1]
      go_enter Tryz.func38, Tryz.ntmps38
      go_wp2_with fail
      go_quiet (fail)
      go_wp2_with fail
      go_ret
      exact ⟨rfl, ((Below.refl _ _).alloc (Nat.le_refl _) _) |> fun h => Below.drawn h _⟩
    · rw [show (min (max (c : Int) 0) 64).toNat = 64 by omega, HMID.out 64 (by decide)]
      have h2 : (64 : Int) < c := by omega
      clear h1
      go_enter Tryz.func38, Tryz.ntmps38
      go_wp2_with fail
      go_quiet (fail)
      go_wp2_with fail
      go_ret
      exact ⟨by rw [show s.extract 64 64 = ByteArray.empty by rw [ByteArray.extract_eq_empty_iff]; omega, ByteArray.append_empty]; rfl, ((Below.refl _ _).alloc (Nat.le_refl _) _) |> fun h => Below.drawn h _⟩

end Go.Proofs.YtogonkoeginoaaaGreatDoor
