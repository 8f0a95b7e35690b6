/-
  The walk through the law NumShort.
-/
import Derived.Test.YtldggjnakioeeaaNumAwake
import Derived.Test.YtldggjnakioeeaaNumLaw
namespace Go.Proofs.Ytldggjnakioeeaa
open Go.RowKit

theorem pack_short (n : Int) (h0 : 0 ≤ n) (h1 : n < 18446744073709551616) : ∃ p : ByteArray, Hid (∀ w, Calls Try.prog 11 #[.int .u64 n] w fun e w' => e = .returned (.string p) ∧ Below w.heap.size w w') ∧ p.size = packLen 10 n.toNat :=
  ⟨_, hide (fun w => pack_any n w h0 h1), by rw [bs_size, pack, packF_length]⟩

/-- What the loop holds: j rounds were done, q is left. -/
structure ShortRel (m j q : Nat) : Prop where
  left : q * 128 ^ j ≤ m
  all : packLen 10 m = j + packLen (10 - j) q

set_option maxRecDepth 100000 in
set_option maxHeartbeats 1600000 in
theorem short_walk (a : Int) (wa : (Lit.int .u64 a).wf = true) (b : Int) (wb : (Lit.int .u64 b).wf = true) (w : World) :
    Calls Try.prog 6 #[.int .u64 a, .int .u64 b] w fun e w' => e = .returned (.bool true) ∧ Below w.heap.size w w' := by
  obtain ⟨a0, a1⟩ := u64_bd wa
  obtain ⟨b0, b1⟩ := u64_bd wb
  clear wa wb
  obtain ⟨p, HP, hp⟩ := pack_short a a0 a1
  obtain ⟨q, HQ, hq⟩ := pack_short b b0 b1
  obtain ⟨m, rfl⟩ := Int.eq_ofNat_of_zero_le a0
  obtain ⟨n, rfl⟩ := Int.eq_ofNat_of_zero_le b0
  rw [Int.toNat_natCast] at hp hq
  have hp10 : p.size ≤ 10 := by rw [hp]; exact packLen_le _ _
  have hq10 : q.size ≤ 10 := by rw [hq]; exact packLen_le _ _
  have hm := hide (fun h : m ≤ n => packLen_mono 10 m n h)
  have Hp := hide hp
  have Hq := hide hq
  have HM : Hid (m < 18446744073709551616) := hide (by omega)
  clear hp hq a0 a1 b0 b1
  go_enter Try.func6, Try.ntmps6
  go_wp2_with fail
  refine (HP.out _).mono ?_
  rintro e w1 ⟨rfl, hb1⟩
  go_wp2_with fail
  refine (HQ.out _).mono ?_
  rintro e w2 ⟨rfl, hb2⟩
  go_wp2_with fail
  go_loop [7, 8] (fun i k => ∃ j r : Nat, ShortRel m j r ∧ r ≤ m ∧ j ≤ 9 ∧ i = .int .i64 ((j : Int) + 1) ∧ k = .int .u64 (r : Int)) (fun _ k => (intOf k).toNat)
  case atStart => exact ⟨0, m, ⟨by simp, by simp⟩, Nat.le_refl _, by omega, rfl, rfl⟩
  case round =>
    obtain ⟨j, r, hr, hrm, hj, rfl, rfl⟩ := hrel
    by_cases h : 128 ≤ r
    · have hj8 := pack_bound HM.out hr.left h
      go_wp2_with fail
      go_round
      case rel =>
        refine ⟨j + 1, r / 128, ⟨pack_next hr.left, ?_⟩, by omega, by omega, by go_num, by rw [IntKind.wrap_u64]; have := HM.out; congr 1; omega⟩
        have e := hr.all
        rw [show 10 - j = (10 - (j + 1)) + 1 by omega, packLen_more (f := 10 - (j + 1)) (n := r) (by omega)] at e
        omega
      case measure => rw [IntKind.wrap_u64]; have := HM.out; simp [intOf]; omega
    · have hlen : p.size = j + 1 := by
        rw [Hp.out, hr.all, show 10 - j = (9 - j) + 1 by omega, packLen_small (by omega)]
      have e1 : ((p.size : Int) == (j : Int) + 1) = true := by rw [beq_iff_eq]; omega
      have Hl := hide hlen
      clear hlen
      have hr128 : r < 128 := by omega
      clear h
      by_cases hmn : n < m
      · go_wp2_with fail
        refine (awake_any _).mono ?_
        rintro e w5 ⟨rfl, hb5⟩
        go_wp2_with fail
        go_ret
        exact ⟨rfl, chain (chain hb1 hb2) hb5⟩
      · have hle : p.size ≤ q.size := by rw [Hp.out, Hq.out]; exact hm.out (by omega)
        go_wp2_with fail
        refine (awake_any _).mono ?_
        rintro e w5 ⟨rfl, hb5⟩
        go_wp2_with fail
        go_ret
        exact ⟨rfl, chain (chain hb1 hb2) hb5⟩

end Go.Proofs.Ytldggjnakioeeaa
