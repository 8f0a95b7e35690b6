/-
  The walk through the reference's Unpack.
-/
import Derived.Test.YtldggjnakioeeaaNumRefPack
import Derived.Test.YtldggjnakioeeaaNumUnpack
import Derived.Test.YtldggjnakioeeaaNumLaw
namespace Go.Proofs.Ytldggjnakioeeaa
open Go.RowKit

/-- What the first loop holds: k octets go on. -/
structure LeadRel (s : ByteArray) (k : Nat) : Prop where
  le : k ≤ min s.size 10
  all : ∀ j, j < k → 128 ≤ (s.data.toList.getD j 0).toNat

theorem LeadRel.unp {s : ByteArray} {k : Nat} (h : LeadRel s k) : ∃ N, UnpRel s k N := by
  by_cases h9 : k ≤ 9
  · refine ⟨le128 (s.data.toList.take k), h.le, h.all, fun _ => rfl, ?_⟩
    have h1 := le128_lt (s.data.toList.take k)
    have h2 : (128 : Nat) ^ (s.data.toList.take k).length ≤ 128 ^ 9 := Nat.pow_le_pow_right (by decide) (by rw [List.length_take]; omega)
    have h3 : (128 : Nat) ^ 9 = 9223372036854775808 := by decide
    omega
  · exact ⟨0, h.le, h.all, fun h => absurd h h9, by decide⟩

theorem LeadRel.next {s : ByteArray} {k : Nat} (h : LeadRel s k) (h10 : k < 10) (hks : k < s.size) (hc : 128 ≤ s[k].toNat) : LeadRel s (k + 1) := by
  refine ⟨by omega, ?_⟩
  intro j hj
  by_cases e : j = k
  · subst e
    rw [byte_getD s j hks]; exact hc
  · exact h.all j (by omega)

/-- What the walk is told when a last octet was found at k. -/
theorem LeadRel.found {s : ByteArray} {k : Nat} (h : LeadRel s k) (h9 : k ≤ 9) (hks : k < s.size) (hc : s[k].toNat < 128) (hok : ¬ (k = 9 ∧ 1 < s[k].toNat)) :
    ∃ N : Nat, N = le128 (s.data.toList.take (k + 1)) ∧ N < 18446744073709551616 ∧ (unpack s.data.toList = if s[k].toNat = 0 ∧ 0 < k then (0, 0, 2) else (N, k + 1, 0)) ∧ ((pack N = s.data.toList.take (k + 1)) ↔ ¬ (s[k].toNat = 0 ∧ 0 < k)) := by
  obtain ⟨N0, hu⟩ := h.unp
  have hN0 := hu.small h9
  have e : s.data.toList.take (k + 1) = s.data.toList.take k ++ [s[k]] := List.take_succ_eq_append_getElem (by simpa using hks)
  have hl : (s.data.toList.take k).length = k := by rw [List.length_take]; exact Nat.min_eq_left (by simpa using Nat.le_of_lt hks)
  have eN : le128 (s.data.toList.take (k + 1)) = N0 + s[k].toNat % 128 * 128 ^ k := by rw [e, le128_snoc, hl, ← hu.num h9]
  have hlt : N0 + s[k].toNat % 128 * 128 ^ k < 18446744073709551616 := by
    have h9' : (128 : Nat) ^ 9 = 9223372036854775808 := by decide
    have h8' : (128 : Nat) ^ 8 = 72057594037927936 := by decide
    by_cases h8 : k ≤ 8
    · have hb : 128 ^ k ≤ 128 ^ 8 := Nat.pow_le_pow_right (by decide) h8
      have : s[k].toNat % 128 * 128 ^ k ≤ 127 * 128 ^ k := Nat.mul_le_mul_right _ (by omega)
      omega
    · have hb : 128 ^ k ≤ 128 ^ 9 := Nat.pow_le_pow_right (by decide) h9
      have : s[k].toNat % 128 * 128 ^ k ≤ 1 * 128 ^ k := Nat.mul_le_mul_right _ (by omega)
      omega
  refine ⟨_, rfl, by rw [eN]; exact hlt, ?_, ?_⟩
  · by_cases hb : s[k].toNat = 0 ∧ 0 < k
    · rw [if_pos hb, hu.bad hks h9 hc (.inl hb)]
    · rw [if_neg hb, hu.ok hks h9 hc (by rintro (h | h); exact hb h; exact hok h), eN]
  · have h3 := pack_le128_iff (s.data.toList.take k) s[k] (by omega) (by
      intro j hj
      have := h.all j (by omega)
      rw [List.getD_eq_getElem?_getD, List.getElem?_take, if_pos (by omega)]
      rwa [List.getD_eq_getElem?_getD] at this) hc (by rw [← e, eN]; exact hlt)
    rw [← e, hl] at h3
    exact h3

theorem cmp_pack {s : ByteArray} {N k : Nat} {P : Prop} [Decidable P] (h : (pack N = s.data.toList.take (k + 1)) ↔ ¬ P) : ((bs (pack N)).toList == (s.extract 0 (k + 1)).toList) = decide (¬ P) := by
  rw [Bool.eq_iff_iff, beq_iff_eq, decide_eq_true_iff, ← h, ByteArray.toList_eq, ByteArray.toList_eq, bs_data]
  have e : (s.extract 0 (k + 1)).data.toList = s.data.toList.take (k + 1) := by simp
  rw [e]

/-- What the second loop holds: r octets are still to come. -/
structure BackRel (s : ByteArray) (k r N : Nat) : Prop where
  le : r ≤ k + 1
  num : N = le128 ((s.data.toList.take (k + 1)).drop r)

theorem BackRel.next {s : ByteArray} {k r N : Nat} (h : BackRel s k (r + 1) N) (hks : k < s.size) (hrs : r < s.size) : BackRel s k r (128 * N + s[r].toNat % 128) := by
  have hle := h.le
  refine ⟨by omega, ?_⟩
  rw [le128_drop _ r (by rw [List.length_take]; simp; omega), h.num, List.getElem_take]
  have e : s.data.toList[r]'(by simpa using hrs) = s[r] := rfl
  rw [e]
  omega

set_option maxRecDepth 100000 in
set_option maxHeartbeats 3200000 in
theorem refunpack_any (s : ByteArray) (w : World) (hsz : s.size ≤ maxLen) :
    Calls Try.prog 22 #[.string s] w fun e w' => e = .returned (.tuple #[.int .u64 ((unpack s.data.toList).1 : Nat), .int .i64 ((unpack s.data.toList).2.1 : Nat), .int .i64 ((unpack s.data.toList).2.2 : Nat)]) ∧ Below w.heap.size w w' := by
  unfold maxLen at hsz
  go_enter Try.func22, Try.ntmps22
  go_wp2_with fail
  go_loop [5] (fun i => ∃ k : Nat, LeadRel s k ∧ i = .int .i64 k) (fun i => 10 - (intOf i).toNat)
  case atStart => exact ⟨0, ⟨by omega, by intro j hj; omega⟩, rfl⟩
  case round =>
    obtain ⟨k, hp, rfl⟩ := hrel
    have hle := hp.le
    by_cases hks : k < s.size
    · by_cases hc : 128 ≤ s[k].toNat
      · by_cases h10 : k < 10
        · have hn := hide (hp.next h10 hks hc)
          go_wp2_with fail
          go_round
          case rel => exact ⟨k + 1, hn.out, by go_num⟩
          case measure => simp [intOf]; omega
        · obtain ⟨N, hu⟩ := hp.unp
          have hU := hide (hu.long (by omega))
          have h10' : 10 ≤ k := by omega
          go_wp2_with fail
          go_ret3
          rw [hU.out]
          exact ⟨rfl, Below.refl _ _⟩
      · have hc' : s[k].toNat < 128 := by omega
        obtain ⟨N, hu⟩ := hp.unp
        have HU := hide hu
        clear hc hu
        by_cases h9 : 9 < k
        · have hU := hide (HU.out.long (by omega))
          have h10' : 10 ≤ k := by omega
          go_wp2_with fail
          go_ret3
          rw [hU.out]
          exact ⟨rfl, Below.refl _ _⟩
        · by_cases hb : k = 9 ∧ 1 < s[k].toNat
          · have hU := hide (HU.out.bad hks (by omega) hc' (.inr hb))
            obtain ⟨rfl, h1⟩ := hb
            go_wp2_with fail
            go_ret3
            rw [hU.out]
            exact ⟨rfl, Below.refl _ _⟩
          · obtain ⟨N, hN, hN64, hun, hpk⟩ := hp.found (by omega) hks hc' hb
            have HN := hide hN
            have HUN := hide hun
            have HPK := hide hpk
            have HB := hide hb
            have H64 := hide hN64
            have h9' : k ≤ 9 := by omega
            have HR := hide (fun (w : World) => refpack_any (N : Int) w (by omega) (by have := H64.out; omega))
            rw [Int.toNat_natCast] at HR
            have HCMP := hide (cmp_pack (s := s) (k := k) hpk)
            obtain ⟨p, hpp⟩ : ∃ p, bs (pack N) = p := ⟨_, rfl⟩
            rw [hpp] at HR HCMP
            have hkw : IntKind.i64.wrap ((k : Int) + 1) = (k : Int) + 1 := IntWalk.i64_in _ (by omega)
            have hkn : ((k : Int) + 1).toNat = k + 1 := by omega
            clear hpp
            clear hN hun hpk hb hN64 h9
            have hcase : (((k : Int) == 9) = true ∧ ∃ h : 9 < s.size, s[9].toNat ≤ 1) ∨ (((k : Int) == 9) = false ∧ k < 9) := by
              by_cases h : k = 9
              · subst h
                exact .inl ⟨by simp, hks, by have := HB.out; omega⟩
              · exact .inr ⟨by rw [beq_eq_false_iff_ne]; omega, by omega⟩
            rcases hcase with ⟨hk9, h9s, hs9⟩ | ⟨hk9, h9s⟩
            all_goals
              go_wp2_with fail
              go_loop [6, 7] (fun n i => ∃ r M : Nat, BackRel s k r M ∧ M ≤ N ∧ i = .int .i64 ((r : Int) - 1) ∧ n = .int .u64 (M : Int)) (fun _ i => (intOf i + 1).toNat)
              case atStart =>
                have hlk : (s.data.toList.take (k + 1)).length = k + 1 := by rw [List.length_take]; simp; omega
                exact ⟨k + 1, 0, ⟨Nat.le_refl _, by rw [List.drop_of_length_le (by omega)]; rfl⟩, Nat.zero_le _, by congr 1; omega, rfl⟩
              case round =>
                obtain ⟨r, M, hbk, hMN, rfl, rfl⟩ := hrel
                cases r with
                | zero =>
                  have hM : M = N := by rw [hbk.num, HN.out]; rfl
                  subst hM
                  have hsl : k + 1 ≤ s.size := hks
                  clear hbk
                  by_cases hbad : s[k].toNat = 0 ∧ 0 < k
                  · have hcm : (p.toList == (s.extract 0 (k + 1)).toList) = false := by rw [HCMP.out]; exact decide_eq_false (fun h => h hbad)
                    have hU : Hid (unpack s.data.toList = (0, 0, 2)) := hide (by rw [HUN.out, if_pos hbad])
                    clear hbad
                    go_wp2_with fail
                    go_region_with (go_at_call 19; refine (HR.out _).mono ?_; rintro e w1 ⟨rfl, hb1⟩)
                    all_goals go_wp2
                    all_goals go_ret3
                    all_goals rw [hU.out]
                    all_goals exact ⟨rfl, ((Below.refl _ _).drew).trans hb1⟩
                  · have hcm : (p.toList == (s.extract 0 (k + 1)).toList) = true := by rw [HCMP.out]; exact decide_eq_true hbad
                    have hU : Hid (unpack s.data.toList = (M, k + 1, 0)) := hide (by rw [HUN.out, if_neg hbad])
                    clear hbad
                    go_wp2_with fail
                    go_region_with (go_at_call 19; refine (HR.out _).mono ?_; rintro e w1 ⟨rfl, hb1⟩)
                    all_goals go_wp2
                    all_goals go_ret3
                    all_goals rw [hU.out]
                    all_goals exact ⟨ret3 rfl (by simp) rfl, ((Below.refl _ _).drew).trans hb1⟩
                | succ r =>
                  have hrs : r < s.size := by have := hbk.le; omega
                  have hn := hide (hbk.next hks hrs)
                  go_wp2_with fail
                  go_round
                  case rel =>
                    refine ⟨r, 128 * M + s[r].toNat % 128, hn.out, ?_, by go_num, ?_⟩
                    · rw [hn.out.num, HN.out]; exact le128_drop_le _ _
                    · have h1 : 128 * M + s[r].toNat % 128 ≤ N := by rw [hn.out.num, HN.out]; exact le128_drop_le _ _
                      have h2 := H64.out
                      simp only [IntKind.wrap_u64]
                      congr 1
                      omega
                  case measure => first | (simp [intOf]; done) | (simp [intOf]; omega)
    · have hks' : k = s.size := by omega
      obtain ⟨N, hu⟩ := hp.unp
      by_cases h10 : s.size < 10
      · have hU := hide (hu.short hks' h10)
        have hk10 : k < 10 := by omega
        have hkl : ((k : Int) == (s.size : Int)) = true := by rw [beq_iff_eq]; omega
        clear hks' hu
        by_cases h9 : (k : Int) = 9
        · have hk9 : ((k : Int) == 9) = true := by rw [beq_iff_eq]; exact h9
          clear h9
          go_wp2_with fail
          go_ret3
          rw [hU.out]
          exact ⟨rfl, Below.refl _ _⟩
        · have hk9 : ((k : Int) == 9) = false := by rw [beq_eq_false_iff_ne]; exact h9
          clear h9
          go_wp2_with fail
          go_ret3
          rw [hU.out]
          exact ⟨rfl, Below.refl _ _⟩
      · have hU := hide (hu.long (by omega))
        have hk10 : 10 ≤ k := by omega
        clear hks' hu
        go_wp2_with fail
        go_ret3
        rw [hU.out]
        exact ⟨rfl, Below.refl _ _⟩

end Go.Proofs.Ytldggjnakioeeaa
