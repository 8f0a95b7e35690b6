/-
  The walk through the law NumWidths.
-/
import Derived.Test.YtldggjnakioeeaaNumAwake
import Derived.Test.YtldggjnakioeeaaNumLaw
namespace Go.Proofs.Ytldggjnakioeeaa
open Go.RowKit

/-- What the loop holds: j octets were taken off, q is left. -/
structure WideRel (n j q : Nat) : Prop where
  le : j ≤ 7
  left : n / 256 ^ j = q
  some : j = 0 ∨ 1 ≤ q

theorem WideRel.next {n j q : Nat} (h : WideRel n j q) (hn : n < 18446744073709551616) (hq : 256 ≤ q) : WideRel n (j + 1) (q / 256) := by
  refine ⟨?_, ?_, .inr (by omega)⟩
  · rcases Nat.lt_or_ge j 7 with h7 | h7
    · omega
    · obtain rfl : j = 7 := by have := h.le; omega
      have := h.left
      have e : (256 : Nat) ^ 7 = 72057594037927936 := by decide
      rw [e] at this
      omega
  · rw [Nat.pow_succ, ← Nat.div_div_eq_div_mul, h.left]
theorem WideRel.fits {n j q : Nat} (h : WideRel n j q) (hq : q < 256) : putOk n ((j : Int) + 1) = true := by
  have hl := h.left
  have h7 := h.le
  have hp : 0 < 256 ^ j := Nat.pow_pos (by decide)
  have e : ((j : Int) + 1).toNat = j + 1 := by omega
  have hlt : n < 256 ^ (j + 1) := by
    rw [Nat.pow_succ]
    have := (Nat.div_lt_iff_lt_mul (x := n) (y := 256) hp).1 (by omega)
    omega
  simp only [putOk, e, decide_eq_true_iff]
  exact ⟨by omega, by omega, hlt⟩
theorem WideRel.less {n j q : Nat} (h : WideRel n j q) : putOk n (j : Int) = false := by
  have hl := h.left
  have hp : 0 < 256 ^ j := Nat.pow_pos (by decide)
  simp only [putOk, decide_eq_false_iff_not, Int.toNat_natCast]
  rintro ⟨h1, _, h3⟩
  rcases h.some with h0 | h0
  · omega
  · rw [Nat.div_eq_of_lt h3] at hl
    omega

theorem put_wide (n : Nat) (wide : Int) (hn : n < 18446744073709551616) : ∃ (a : ByteArray) (G : Int),
    Hid (∀ w, Calls Try.prog 10 #[.int .u64 (n : Int), .int .i64 wide] w fun e w' => e = .returned (.tuple #[.string a, .int .i64 G]) ∧ Below w.heap.size w w') ∧ a.size ≤ 8 ∧
    (G = 1 ∨ (G = 0 ∧ 8 ≤ wide) ∨ (G = 0 ∧ wide < 8 ∧ Hid (∀ w, Calls Try.prog 10 #[.int .u64 (n : Int), .int .i64 (wide + 1)] w fun e w' => e = .returned (.tuple #[.string (⟨#[0]⟩ ++ a), .int .i64 0]) ∧ Below w.heap.size w w'))) := by
  have h := fun w => put_any (n : Int) wide w (by omega) (by omega)
  simp only [Int.toNat_natCast] at h
  refine ⟨_, _, hide h, ?_, ?_⟩
  · unfold putS
    cases hok : putOk n wide with
    | false => simp
    | true =>
      simp only [cond_true, bs_size, octs_length]
      simp only [putOk, decide_eq_true_iff] at hok
      omega
  · cases hok : putOk n wide with
    | false => exact .inl (by simp [putE, hok])
    | true =>
      rcases Int.lt_or_le wide 8 with h8 | h8
      · refine .inr (.inr ⟨by simp [putE, hok], h8, hide (fun w => ?_)⟩)
        have h2 := put_any (n : Int) (wide + 1) w (by omega) (by omega)
        rw [Int.toNat_natCast] at h2
        have hok' := hok
        simp only [putOk, decide_eq_true_iff] at hok'
        have e : (wide + 1).toNat = wide.toNat + 1 := by omega
        have hok2 : putOk n (wide + 1) = true := by
          simp only [putOk, decide_eq_true_iff, e, Nat.pow_succ]
          refine ⟨by omega, by omega, ?_⟩
          have : 256 ^ wide.toNat * 1 ≤ 256 ^ wide.toNat * 256 := Nat.mul_le_mul_left _ (by decide)
          omega
        have e1 : putS n (wide + 1) = ⟨#[0]⟩ ++ putS n wide := by
          simp only [putS, hok, hok2, cond_true, e, octs, Nat.div_eq_of_lt hok'.2.2]
          have : (⟨#[0]⟩ : ByteArray) = bs [0] := rfl
          rw [this, bs_append]
          rfl
        have e2 : putE n (wide + 1) = 0 := by simp [putE, hok2]
        rwa [e1, e2] at h2
      · exact .inr (.inl ⟨by simp [putE, hok], h8⟩)

set_option maxRecDepth 100000 in
set_option maxHeartbeats 1600000 in
theorem widths_walk (n : Int) (wn : (Lit.int .u64 n).wf = true) (wide : Int) (ww : (Lit.int .i64 wide).wf = true) (w : World) :
    Calls Try.prog 5 #[.int .u64 n, .int .i64 wide] w fun e w' => e = .returned (.bool true) ∧ Below w.heap.size w w' := by
  obtain ⟨n0, n1⟩ := u64_bd wn
  obtain ⟨v0, v1⟩ := i64_bd ww
  clear wn ww
  obtain ⟨m, rfl⟩ := Int.eq_ofNat_of_zero_le n0
  have HM : Hid (m < 18446744073709551616) := hide (by omega)
  obtain ⟨a, G, HA, ha8, hcase⟩ := put_wide m wide HM.out
  clear n0 n1
  go_enter Try.func5, Try.ntmps5
  go_wp2_with fail
  go_loop [5, 6] (fun i k => ∃ j r : Nat, WideRel m j r ∧ r ≤ m ∧ j ≤ 7 ∧ i = .int .i64 ((j : Int) + 1) ∧ k = .int .u64 (r : Int)) (fun _ k => (intOf k).toNat)
  case atStart => exact ⟨0, m, ⟨by omega, by simp, .inl rfl⟩, Nat.le_refl _, by omega, rfl, rfl⟩
  case round =>
    obtain ⟨j, r, hr, hrm, hj, rfl, rfl⟩ := hrel
    by_cases h : 256 ≤ r
    · have hn := hide (hr.next HM.out h)
      have hj6 : j ≤ 6 := by have := hn.out.le; omega
      go_wp2_with fail
      go_round
      case rel => exact ⟨j + 1, r / 256, hn.out, by omega, by omega, by go_num, by rw [IntKind.wrap_u64]; have := HM.out; congr 1; omega⟩
      case measure => rw [IntKind.wrap_u64]; have := HM.out; simp [intOf]; omega
    · have hr256 : r < 256 := by omega
      clear h
      have HY : Hid (∀ w, Calls Try.prog 10 #[.int .u64 (m : Int), .int .i64 ((j : Int) + 1)] w fun e w' => e = .returned (.tuple #[.string (putS m ((j : Int) + 1)), .int .i64 0]) ∧ Below w.heap.size w w') := hide (fun w => by
        have h := put_any (m : Int) ((j : Int) + 1) w (by omega) (by have := HM.out; omega)
        have e : putE m ((j : Int) + 1) = 0 := by simp [putE, hr.fits hr256]
        rwa [Int.toNat_natCast, e] at h)
      have HN : Hid (∀ w, Calls Try.prog 10 #[.int .u64 (m : Int), .int .i64 (j : Int)] w fun e w' => e = .returned (.tuple #[.string (putS m (j : Int)), .int .i64 1]) ∧ Below w.heap.size w w') := hide (fun w => by
        have h := put_any (m : Int) (j : Int) w (by omega) (by have := HM.out; omega)
        have e : putE m (j : Int) = 1 := by simp [putE, hr.less]
        rwa [Int.toNat_natCast, e] at h)
      obtain ⟨y, hy⟩ : ∃ y, putS m ((j : Int) + 1) = y := ⟨_, rfl⟩
      obtain ⟨z, hz⟩ : ∃ z, putS m (j : Int) = z := ⟨_, rfl⟩
      rw [hy] at HY
      rw [hz] at HN
      clear hy hz
      rcases hcase with rfl | ⟨rfl, hw8⟩ | ⟨rfl, hw8, HB⟩
      all_goals
        go_wp2_with fail
        refine (HY.out _).mono ?_
        rintro e w1 ⟨rfl, hb1⟩
        go_wp2_with fail
        refine (HN.out _).mono ?_
        rintro e w2 ⟨rfl, hb2⟩
        go_wp2_with fail
        refine (HA.out _).mono ?_
        rintro e w3 ⟨rfl, hb3⟩
        go_wp2_with fail
      · refine (awake_any _).mono ?_
        rintro e w5 ⟨rfl, hb5⟩
        go_wp2_with fail
        go_ret
        exact ⟨rfl, chain (chain (chain hb1 hb2) hb3) hb5⟩
      · refine (awake_any _).mono ?_
        rintro e w5 ⟨rfl, hb5⟩
        go_wp2_with fail
        go_ret
        exact ⟨rfl, chain (chain (chain hb1 hb2) hb3) hb5⟩
      · refine (HB.out _).mono ?_
        rintro e w4 ⟨rfl, hb4⟩
        go_wp2_with fail
        refine (awake_any _).mono ?_
        rintro e w5 ⟨rfl, hb5⟩
        go_wp2_with fail
        go_ret
        exact ⟨rfl, chain (chain (chain (chain hb1 hb2) hb3) hb4) hb5⟩

end Go.Proofs.Ytldggjnakioeeaa
