/-
  The walk through num.Unpack.
-/
import Derived.Test.YtogonkoeginoaaaGreatDoorNumRest
import Derived.Lib.VarintBits
namespace Go.Proofs.YtogonkoeginoaaaGreatDoor
open Go.RowKit

/-- What the loop holds behind k octets: all of them go on, and the number is theirs (while it fits). -/
structure UnpRel (s : ByteArray) (k N : Nat) : Prop where
  le : k ≤ min s.size 10
  all : ∀ j, j < k → 128 ≤ (s.data.toList.getD j 0).toNat
  num : k ≤ 9 → N = le128 (s.data.toList.take k)
  lt : N < 18446744073709551616

theorem byte_getD (s : ByteArray) (k : Nat) (h : k < s.size) : s.data.toList.getD k 0 = s[k] := by
  simp [List.getD, h]
  rfl

theorem UnpRel.lead {s : ByteArray} {k N : Nat} (h : UnpRel s k N) (hs : k = 10 ∨ k = s.size ∨ ∃ hk : k < s.size, s[k].toNat < 128) : lead 10 s.data.toList = k := by
  have hl := h.le
  refine lead_of 10 _ k (by omega) (by simp; omega) h.all ?_
  rcases hs with hs | hs | ⟨hk, hs⟩
  · exact .inl hs
  · exact .inr (.inl (by simpa using hs))
  · exact .inr (.inr (by rw [byte_getD s k hk]; exact hs))

theorem UnpRel.bad {s : ByteArray} {k N : Nat} (h : UnpRel s k N) (hk : k < s.size) (hk9 : k ≤ 9) (hc : s[k].toNat < 128) (hb : s[k].toNat = 0 ∧ 0 < k ∨ k = 9 ∧ 1 < s[k].toNat) : unpack s.data.toList = (0, 0, 2) := by
  have e := h.lead (.inr (.inr ⟨hk, hc⟩))
  have e2 := byte_getD s k hk
  unfold unpack
  rw [e, e2, if_neg (by omega), if_neg (by simp; omega), if_pos hb]
theorem UnpRel.ok {s : ByteArray} {k N : Nat} (h : UnpRel s k N) (hk : k < s.size) (hk9 : k ≤ 9) (hc : s[k].toNat < 128) (hb : ¬ (s[k].toNat = 0 ∧ 0 < k ∨ k = 9 ∧ 1 < s[k].toNat)) : unpack s.data.toList = (N + s[k].toNat % 128 * 128 ^ k, k + 1, 0) := by
  have e := h.lead (.inr (.inr ⟨hk, hc⟩))
  have e2 := byte_getD s k hk
  unfold unpack
  rw [e, e2, if_neg (by omega), if_neg (by simp; omega), if_neg hb]
  rw [List.take_succ_eq_append_getElem (by simpa using hk), le128_snoc, ← h.num hk9, List.length_take, Nat.min_eq_left (by simpa using Nat.le_of_lt hk)]
  rfl
theorem UnpRel.short {s : ByteArray} {k N : Nat} (h : UnpRel s k N) (hk : k = s.size) (h10 : s.size < 10) : unpack s.data.toList = (0, 0, 3) := by
  have e := h.lead (.inr (.inl hk))
  unfold unpack
  rw [e, if_neg (by omega), if_pos (by simpa using hk)]
theorem UnpRel.long {s : ByteArray} {k N : Nat} (h : UnpRel s k N) (hk : k = 10) : unpack s.data.toList = (0, 0, 2) := by
  have e := h.lead (.inl hk)
  unfold unpack
  rw [e, if_pos (by omega)]

/-- The new number, as the walk spells it. -/
def orN (N k : Nat) (c : UInt8) : Int := bits .or .u64 (N : Int) (IntKind.u64.wrap (IntKind.u64.wrap (bits .and .u8 (c.toNat : Int) 127) * 2 ^ (7 * k)))
theorem and127 (c : UInt8) : bits .and .u8 (c.toNat : Int) 127 = ((c.toNat % 128 : Nat) : Int) := by
  have hc : c.toNat < 256 := c.toNat_lt
  rw [u8_and _ _ (by omega) (by omega) (by omega) (by omega)]
  have e2 : (127 : Int).toNat = 127 := rfl
  rw [Int.toNat_natCast, e2, nat_mask7]
theorem orN_shift (c : UInt8) (k : Nat) : IntKind.u64.wrap (IntKind.u64.wrap (bits .and .u8 (c.toNat : Int) 127) * 2 ^ (7 * k)) = ((c.toNat % 128 * 128 ^ k % 18446744073709551616 : Nat) : Int) := by
  have hw : IntKind.u64.wrap ((c.toNat % 128 : Nat) : Int) = ((c.toNat % 128 : Nat) : Int) := by rw [IntKind.wrap_u64]; omega
  have e : (2 : Int) ^ (7 * k) = ((128 ^ k : Nat) : Int) := by rw [Int.pow_mul]; simp
  rw [and127, hw, IntKind.wrap_u64, e]
  simp
theorem orN_eq {N k : Nat} {c : UInt8} (hN : N < 128 ^ k) (hk : k ≤ 9) : orN N k c = ((N + c.toNat % 128 * 128 ^ k % 18446744073709551616 : Nat) : Int) := by
  have e7 : (2 : Nat) ^ (7 * k) = 128 ^ k := by rw [Nat.pow_mul]
  have hb : 128 ^ k ≤ 128 ^ 9 := Nat.pow_le_pow_right (by decide) hk
  have h9 : (128 : Nat) ^ 9 = 9223372036854775808 := by decide
  unfold orN
  rw [orN_shift, u64_or_nat _ _ (by omega) (Nat.mod_lt _ (by decide)), Nat.or_comm, nat_join (7 * k) _ _ ?_ (by rw [e7]; exact hN), Nat.add_comm]
  have hd : 2 ^ (7 * k) ∣ 18446744073709551616 := by
    have : (18446744073709551616 : Nat) = 2 ^ 64 := by decide
    rw [this]
    exact Nat.pow_dvd_pow 2 (by omega)
  rw [Nat.mod_mod_of_dvd _ hd, e7, Nat.mul_mod_left]
theorem orN_fits {N k : Nat} {c : UInt8} (hN : N < 128 ^ k) (hk : k ≤ 9) (h : k ≤ 8 ∨ c.toNat ≤ 1) : orN N k c = ((N + c.toNat % 128 * 128 ^ k : Nat) : Int) := by
  rw [orN_eq hN hk]
  congr 2
  refine Nat.mod_eq_of_lt ?_
  have h9 : (128 : Nat) ^ 9 = 9223372036854775808 := by decide
  have h8 : (128 : Nat) ^ 8 = 72057594037927936 := by decide
  rcases h with h | h
  · have hb : 128 ^ k ≤ 128 ^ 8 := Nat.pow_le_pow_right (by decide) h
    have : c.toNat % 128 * 128 ^ k ≤ 127 * 128 ^ k := Nat.mul_le_mul_right _ (by omega)
    omega
  · have hb : 128 ^ k ≤ 128 ^ 9 := Nat.pow_le_pow_right (by decide) hk
    have : c.toNat % 128 * 128 ^ k ≤ 1 * 128 ^ k := Nat.mul_le_mul_right _ (by omega)
    omega
theorem orN_range {N k : Nat} {c : UInt8} (hN : N < 128 ^ k) (hk : k ≤ 9) : ∃ M : Nat, orN N k c = (M : Int) ∧ M < 18446744073709551616 := by
  have e7 : (2 : Nat) ^ (7 * k) = 128 ^ k := by rw [Nat.pow_mul]
  have hb : 128 ^ k ≤ 128 ^ 9 := Nat.pow_le_pow_right (by decide) hk
  have h9 : (128 : Nat) ^ 9 = 9223372036854775808 := by decide
  have h1 := Nat.mod_lt (c.toNat % 128 * 128 ^ k) (show 18446744073709551616 > 0 by decide)
  refine ⟨_, by unfold orN; rw [orN_shift, u64_or_nat _ _ (by omega) h1], Nat.or_lt_two_pow (n := 64) (by omega) (by omega)⟩

theorem UnpRel.zero {s : ByteArray} {N : Nat} (h : UnpRel s 0 N) : N = 0 := by have := h.num (by omega); simpa [le128] using this

theorem UnpRel.small {s : ByteArray} {k N : Nat} (h : UnpRel s k N) (hk9 : k ≤ 9) : N < 128 ^ k := by
  have := le128_lt (s.data.toList.take k)
  rw [← h.num hk9, List.length_take] at this
  exact Nat.lt_of_lt_of_le this (Nat.pow_le_pow_right (by decide) (Nat.min_le_left _ _))

theorem UnpRel.next {s : ByteArray} {k N M : Nat} (h : UnpRel s k N) (hk : k < min s.size 10) (hks : k < s.size) (hc : 128 ≤ s[k].toNat) (hM : orN N k s[k] = (M : Int)) (hlt : M < 18446744073709551616) : UnpRel s (k + 1) M := by
  refine ⟨by omega, ?_, ?_, hlt⟩
  · intro j hj
    by_cases e : j = k
    · subst e
      rw [byte_getD s j hks]; exact hc
    · exact h.all j (by omega)
  · intro hk9
    rw [List.take_succ_eq_append_getElem (by simpa using hks), le128_snoc, ← h.num (by omega), List.length_take, Nat.min_eq_left (by simpa using Nat.le_of_lt hks)]
    rw [orN_fits (h.small (by omega)) (by omega) (.inl (by omega))] at hM
    have e : s.data.toList[k]'(by simpa using hks) = s[k] := rfl
    rw [e]
    omega

theorem ret3 {a a' b b' c c' : Int} {k1 k2 k3 : IntKind} (h1 : a = a') (h2 : b = b') (h3 : c = c') : Ending.returned (.tuple #[.int k1 a, .int k2 b, .int k3 c]) = .returned (.tuple #[.int k1 a', .int k2 b', .int k3 c']) := by rw [h1, h2, h3]

set_option maxRecDepth 100000 in
set_option maxHeartbeats 3200000 in
theorem unpack_any (s : ByteArray) (w : World) (hsz : s.size ≤ maxLen) :
    Calls Tryz.prog 66 #[.string s] w fun e w' => e = .returned (.tuple #[.int .u64 ((unpack s.data.toList).1 : Nat), .int .i64 ((unpack s.data.toList).2.1 : Nat), .int .i64 ((unpack s.data.toList).2.2 : Nat)]) ∧ w = w' := by
  unfold maxLen at hsz
  by_cases hmin : 10 < s.size
  · go_enter Tryz.func66, Tryz.ntmps66
    go_wp2
    go_loop [5, 11] (fun n i => ∃ k N : Nat, UnpRel s k N ∧ i = .int .i64 k ∧ n = .int .u64 (N : Int)) (fun _ i => 10 - (intOf i).toNat)
    case atStart => exact ⟨0, 0, ⟨by omega, by intro j hj; omega, fun _ => rfl, by omega⟩, rfl, rfl⟩
    case round =>
      obtain ⟨k, N, hp, rfl, rfl⟩ := hrel
      have hle := hp.le
      have hNlt := hp.lt
      by_cases hlt : k < min s.size 10
      · have hk9 : k ≤ 9 := by omega
        have hks : k < s.size := by omega
        have hsm := hp.small hk9
        by_cases hc : 128 ≤ s[k].toNat
        · obtain ⟨M, hM, hMlt⟩ := orN_range (c := s[k]) hsm hk9
          have HN := hide (hp.next hlt hks hc hM hMlt)
          have HM := hide hM
          clear hM hsm
          go_wp2
          go_round
          case rel => exact ⟨k + 1, M, HN.out, by go_num, by rw [← HM.out]; rfl⟩
          case measure => simp [intOf]; omega
        · by_cases hb : s[k].toNat = 0 ∧ 0 < k ∨ k = 9 ∧ 1 < s[k].toNat
          · have hU := hide (hp.bad hks hk9 (by omega) hb)
            have HB := hide hb
            clear hb hsm
            go_wp2
            all_goals first
              | (exfalso; have h1 : s[k].toNat = 0 := by assumption
                 have h2 : k = 0 := by assumption
                 have := HB.out; omega)
              | (exfalso; have h1 : ¬ s[k].toNat = 0 := by assumption
                 have h2 : ¬ (k : Int) = 9 := by assumption
                 have := HB.out; omega)
              | (exfalso; have h1 : ¬ s[k].toNat = 0 := by assumption
                 have h2 : (s[k].toNat : Int) ≤ 1 := by assumption
                 have := HB.out; omega)
              | (go_ret3; rw [hU.out]; exact ⟨rfl, rfl⟩)
          · have hU := hide (hp.ok hks hk9 (by omega) hb)
            have HB := hide hb
            clear hb
            have HF := hide (fun (h : k ≤ 8 ∨ s[k].toNat ≤ 1) => orN_fits (c := s[k]) hsm hk9 h)
            clear hsm
            go_wp2
            all_goals first
              | (exfalso; have h1 : s[k].toNat = 0 := by assumption
                 have h2 : ¬ k = 0 := by assumption
                 have := HB.out; omega)
              | (exfalso; have h1 : (k : Int) = 9 := by assumption
                 have h2 : 1 < (s[k].toNat : Int) := by assumption
                 have := HB.out; omega)
              | (have hz : s[k].toNat = 0 := by assumption
                 have h2 : k = 0 := by assumption
                 have e := HF.out (by omega)
                 go_ret3
                 rw [hU.out]
                 refine ⟨ret3 ?_ ?_ ?_, rfl⟩
                 · rw [← e]; unfold orN; rw [hz]; simp [h2]
                 · simp [h2]
                 · rfl)
              | (have h2 : (k : Int) = 9 := by assumption
                 have hk : k = 9 := by omega
                 have h1 : (s[k].toNat : Int) ≤ 1 := by assumption
                 have e := HF.out (by omega)
                 go_ret3
                 rw [hU.out]
                 refine ⟨ret3 ?_ ?_ ?_, rfl⟩
                 · rw [← e]; unfold orN; simp [hk]
                 · simp [hk]
                 · rfl)
              | (have e := HF.out (by omega)
                 go_ret3
                 rw [hU.out]
                 exact ⟨ret3 e rfl rfl, rfl⟩)
      · have hU := hide (hp.long (by omega))
        go_wp2
        go_ret3
        rw [hU.out]
        exact ⟨rfl, rfl⟩
  · go_enter Tryz.func66, Tryz.ntmps66
    go_wp2
    go_loop [5, 11] (fun n i => ∃ k N : Nat, UnpRel s k N ∧ i = .int .i64 k ∧ n = .int .u64 (N : Int)) (fun _ i => 10 - (intOf i).toNat)
    case atStart => exact ⟨0, 0, ⟨by omega, by intro j hj; omega, fun _ => rfl, by omega⟩, rfl, rfl⟩
    case round =>
      obtain ⟨k, N, hp, rfl, rfl⟩ := hrel
      have hle := hp.le
      have hNlt := hp.lt
      by_cases hlt : k < min s.size 10
      · have hk9 : k ≤ 9 := by omega
        have hks : k < s.size := by omega
        have hsm := hp.small hk9
        by_cases hc : 128 ≤ s[k].toNat
        · obtain ⟨M, hM, hMlt⟩ := orN_range (c := s[k]) hsm hk9
          have HN := hide (hp.next hlt hks hc hM hMlt)
          have HM := hide hM
          clear hM hsm
          go_wp2
          go_round
          case rel => exact ⟨k + 1, M, HN.out, by go_num, by rw [← HM.out]; rfl⟩
          case measure => simp [intOf]; omega
        · by_cases hb : s[k].toNat = 0 ∧ 0 < k ∨ k = 9 ∧ 1 < s[k].toNat
          · have hU := hide (hp.bad hks hk9 (by omega) hb)
            have HB := hide hb
            clear hb hsm
            go_wp2
            all_goals first
              | (exfalso; have h1 : s[k].toNat = 0 := by assumption
                 have h2 : k = 0 := by assumption
                 have := HB.out; omega)
              | (exfalso; have h1 : ¬ s[k].toNat = 0 := by assumption
                 have h2 : ¬ (k : Int) = 9 := by assumption
                 have := HB.out; omega)
              | (exfalso; have h1 : ¬ s[k].toNat = 0 := by assumption
                 have h2 : (s[k].toNat : Int) ≤ 1 := by assumption
                 have := HB.out; omega)
              | (go_ret3; rw [hU.out]; exact ⟨rfl, rfl⟩)
          · have hU := hide (hp.ok hks hk9 (by omega) hb)
            have HB := hide hb
            clear hb
            have HF := hide (fun (h : k ≤ 8 ∨ s[k].toNat ≤ 1) => orN_fits (c := s[k]) hsm hk9 h)
            clear hsm
            go_wp2
            all_goals first
              | (exfalso; have h1 : s[k].toNat = 0 := by assumption
                 have h2 : ¬ k = 0 := by assumption
                 have := HB.out; omega)
              | (exfalso; have h1 : (k : Int) = 9 := by assumption
                 have h2 : 1 < (s[k].toNat : Int) := by assumption
                 have := HB.out; omega)
              | (have hz : s[k].toNat = 0 := by assumption
                 have h2 : k = 0 := by assumption
                 have e := HF.out (by omega)
                 go_ret3
                 rw [hU.out]
                 refine ⟨ret3 ?_ ?_ ?_, rfl⟩
                 · rw [← e]; unfold orN; rw [hz]; simp [h2]
                 · simp [h2]
                 · rfl)
              | (have h2 : (k : Int) = 9 := by assumption
                 have hk : k = 9 := by omega
                 have h1 : (s[k].toNat : Int) ≤ 1 := by assumption
                 have e := HF.out (by omega)
                 go_ret3
                 rw [hU.out]
                 refine ⟨ret3 ?_ ?_ ?_, rfl⟩
                 · rw [← e]; unfold orN; simp [hk]
                 · simp [hk]
                 · rfl)
              | (have e := HF.out (by omega)
                 go_ret3
                 rw [hU.out]
                 exact ⟨ret3 e rfl rfl, rfl⟩)
      · have hks : k = s.size := by omega
        by_cases h10 : s.size < 10
        · have hU := hide (hp.short hks h10)
          have HK := hide hks
          clear hks
          go_wp2
          go_ret3
          rw [hU.out]
          exact ⟨rfl, rfl⟩
        · have hU := hide (hp.long (by omega))
          have HK := hide hks
          clear hks
          go_wp2
          go_ret3
          rw [hU.out]
          exact ⟨rfl, rfl⟩

end Go.Proofs.YtogonkoeginoaaaGreatDoor
