/-
  The walks through the reference's Pack and Unpack.
-/
import Derived.Test.YtldggjnakioeeaaNumRef
import Derived.Deep.RegionWith
namespace Go.Proofs.Ytldggjnakioeeaa
open Go.RowKit

set_option maxRecDepth 100000 in
set_option maxHeartbeats 1600000 in
theorem refpack_fuel (f : Nat) : ∀ (n : Nat) (w : World), f ≤ 20 → n < 128 ^ (f + 1) → n < 18446744073709551616 →
    Calls Try.prog 19 #[.int .u64 (n : Int)] w fun e w' => ∃ s : ByteArray, e = .returned (.string s) ∧ s = bs (packF (f + 1) n) ∧ s.size ≤ f + 1 ∧ Below w.heap.size w w' := by
  have HCV := hide (fun (x : Int) (c : UInt8) (hx : x = (c.toNat : Int)) (b : Nat) (w : World) => conv_cell (P := Try.prog) (src := 46) (dst := 9) Try.underlying46 Try.underlying5 Try.underlying9 x c hx b w)
  induction f with
  | zero =>
    intro n w _ hn _
    have hn' : n < 128 := by simpa using hn
    have hcv := HCV.out (n : Int) (UInt8.ofNat n) (by simp; omega)
    have H : Hid (packF (0 + 1) n = [UInt8.ofNat n]) := hide (packF_small hn')
    obtain ⟨s, hs⟩ : ∃ s, bs [UInt8.ofNat n] = s := ⟨_, rfl⟩
    rw [hs] at hcv
    have HS := hide hs
    clear hs hn
    go_enter Try.func19, Try.ntmps19
    go_wp2_with fail
    go_ret
    exact ⟨s, rfl, by rw [H.out, HS.out], by rw [← HS.out]; exact Nat.le_refl _, (Below.refl _ _).alloc (Nat.le_refl _) _⟩
  | succ f ih =>
    intro n w hf hn h64
    by_cases hn' : n < 128
    · have hcv := HCV.out (n : Int) (UInt8.ofNat n) (by rw [UInt8.toNat_ofNat']; omega)
      have H : Hid (packF (f + 1 + 1) n = [UInt8.ofNat n]) := hide (packF_small hn')
      obtain ⟨s, hs⟩ : ∃ s, bs [UInt8.ofNat n] = s := ⟨_, rfl⟩
      rw [hs] at hcv
      have HS := hide hs
      clear hs hn
      go_enter Try.func19, Try.ntmps19
      go_wp2_with fail
      go_ret
      exact ⟨s, rfl, by rw [H.out, HS.out], by rw [← HS.out, bs_size, List.length_singleton]; omega, (Below.refl _ _).alloc (Nat.le_refl _) _⟩
    · have hcv := HCV.out (IntKind.u8.wrap (IntKind.u64.wrap (128 + (n : Int).tmod 128))) (UInt8.ofNat (128 + n % 128)) (by
        rw [Int.tmod_eq_emod_of_nonneg (by omega), IntKind.wrap_u8', IntKind.wrap_u64]
        simp)
      have hq : IntKind.u64.wrap ((n : Int) / 128) = (n : Int) / 128 := by rw [IntKind.wrap_u64]; omega
      have H : Hid (packF (f + 1 + 1) n = UInt8.ofNat (128 + n % 128) :: packF (f + 1) (n / 128)) := hide (packF_more hn')
      obtain ⟨s, hs⟩ : ∃ s, bs [UInt8.ofNat (128 + n % 128)] = s := ⟨_, rfl⟩
      rw [hs] at hcv
      have HS := hide hs
      have hs1 : s.size ≤ 1 := by rw [← hs, bs_size]; simp
      have hlt : n / 128 < 128 ^ (f + 1) := Nat.div_lt_of_lt_mul (by rw [Nat.pow_succ] at hn; omega)
      have IH := hide (fun w => ih (n / 128) w (by omega) hlt (by omega))
      rw [show ((n / 128 : Nat) : Int) = (n : Int) / 128 by omega] at IH
      clear hs hn ih hlt
      go_enter Try.func19, Try.ntmps19
      go_wp2_with fail
      go_region_with (go_at_call 19; refine (IH.out _).mono ?_; rintro e w1 ⟨s1, rfl, hs2, hsz1, hb1⟩; have HS1 := hide hs2; clear hs2; obtain ⟨hc1, hf1⟩ := bcell hb1)
      all_goals go_wp2
      all_goals go_ret
      all_goals refine ⟨_, rfl, ?_, ?_, ?_⟩
      all_goals first
        | (rw [H.out, HS1.out, ← HS.out, bs_append]; rfl)
        | (rw [ByteArray.size_append]; omega)
        | exact ((((Below.refl _ _).alloc (Nat.le_refl _) _).drew).trans (hb1.mono (by simp)))
        | exact (((Below.refl _ _).drew).trans hb1).alloc (by have := hb1.size; simpa using this) _

/-- The reference's Pack. -/
theorem refpack_any (n : Int) (w : World) (h0 : 0 ≤ n) (hn : n < 18446744073709551616) :
    Calls Try.prog 19 #[.int .u64 n] w fun e w' => e = .returned (.string (bs (pack n.toNat))) ∧ Below w.heap.size w w' := by
  obtain ⟨m, rfl⟩ := Int.eq_ofNat_of_zero_le h0
  rw [Int.toNat_natCast]
  have h10 : (128 : Nat) ^ 10 = 1180591620717411303424 := by decide
  refine (refpack_fuel 9 m w (by omega) (by omega) (by omega)).mono ?_
  rintro e w' ⟨s, rfl, rfl, _, hb⟩
  exact ⟨rfl, hb⟩

end Go.Proofs.Ytldggjnakioeeaa
