/-
  The walk through the law NumLays.
-/
import Derived.Test.YtldggjnakioeeaaNumBehindW
import Derived.Test.YtldggjnakioeeaaNumRefPack
namespace Go.Proofs.Ytldggjnakioeeaa
open Go.RowKit

theorem put_lays (n wide : Int) (h0 : 0 ≤ n) (h1 : n < 18446744073709551616) : ∃ (s : ByteArray) (E : Int) (ok : Bool) (x g : Int),
    Hid (∀ w, Calls Try.prog 10 #[.int .u64 n, .int .i64 wide] w fun e w' => e = .returned (.tuple #[.string s, .int .i64 E]) ∧ Below w.heap.size w w') ∧
    Hid (∀ w, Calls Try.prog 18 #[.int .u64 n, .int .i64 wide] w fun e w' => e = .returned (.tuple #[.string s, .bool ok]) ∧ Below w.heap.size w w') ∧
    Hid (∀ w, Calls Try.prog 20 #[.string s] w fun e w' => e = .returned (.tuple #[.int .u64 x, .int .i64 g]) ∧ w = w') ∧
    ((E = 1 ∧ ok = false) ∨ (E = 0 ∧ ok = true ∧ x = n ∧ g = 0)) := by
  have hsz : (putS n.toNat wide).size ≤ 8 := by
    unfold putS
    cases hok : putOk n.toNat wide with
    | false => simp
    | true =>
      simp only [cond_true, bs_size, octs_length]
      simp only [putOk, decide_eq_true_iff] at hok
      omega
  refine ⟨_, _, _, _, _, hide (fun w => put_any n wide w h0 h1), hide (fun w => refput_any n wide w h0 h1), hide (fun w => get_any _ w (by unfold maxLen; omega)), ?_⟩
  cases hok : putOk n.toNat wide with
  | false => exact .inl ⟨by simp [putE, hok], rfl⟩
  | true =>
    have hok' := hok
    simp only [putOk, decide_eq_true_iff] at hok'
    have hg : getOk (putS n.toNat wide) = true := by
      simp only [getOk, decide_eq_true_iff]
      refine ⟨?_, hsz⟩
      simp only [putS, hok, cond_true, bs_size, octs_length]
      omega
    refine .inr ⟨by simp [putE, hok], rfl, ?_, by simp [getE, hg]⟩
    simp only [getV, hg, cond_true]
    simp only [putS, hok, cond_true, bs_data, val_octs, Nat.mod_eq_of_lt hok'.2.2]
    omega

set_option maxRecDepth 100000 in
set_option maxHeartbeats 1600000 in
theorem lays_walk (n : Int) (wn : (Lit.int .u64 n).wf = true) (wide : Int) (ww : (Lit.int .i64 wide).wf = true) (w : World) :
    Calls Try.prog 8 #[.int .u64 n, .int .i64 wide] w fun e w' => e = .returned (.bool true) ∧ Below w.heap.size w w' := by
  obtain ⟨n0, n1⟩ := u64_bd wn
  clear wn ww
  obtain ⟨s, E, ok, x, g, H1, H2, H3, hcase⟩ := put_lays n wide n0 n1
  have HP0 := hide (fun w => pack_any n w n0 n1)
  have HR := hide (fun w => refpack_any n w n0 n1)
  have hle := pack_length_le n.toNat
  have HU : Hid (∀ w, Calls Try.prog 13 #[.string (bs (pack n.toNat))] w fun e w' => e = .returned (.tuple #[.int .u64 n, .int .i64 ((bs (pack n.toNat)).size : Int), .int .i64 0]) ∧ w = w') := hide (fun w => by
    have h := unpack_any (bs (pack n.toNat)) w (by rw [bs_size]; unfold maxLen; omega)
    have e := unpack_pack n.toNat [] (by omega)
    rw [List.append_nil] at e
    rw [bs_data, e] at h
    have e2 : ((n.toNat : Nat) : Int) = n := by omega
    simp only [e2] at h
    exact h)
  obtain ⟨p, hp⟩ : ∃ p, bs (pack n.toNat) = p := ⟨_, rfl⟩
  rw [hp] at HP0 HR HU
  clear hp hle
  rcases hcase with ⟨rfl, rfl⟩ | ⟨rfl, rfl, rfl, rfl⟩
  all_goals
    go_enter Try.func8, Try.ntmps8
    go_wp2_with fail
    refine (H1.out _).mono ?_
    rintro e w1 ⟨rfl, hb1⟩
    go_wp2_with fail
    refine (H2.out _).mono ?_
    rintro e w2 ⟨rfl, hb2⟩
    go_wp2_with fail
    refine (HP0.out _).mono ?_
    rintro e w3 ⟨rfl, hb3⟩
    go_wp2_with fail
    refine (HU.out _).mono ?_
    rintro e w4 ⟨rfl, rfl⟩
    go_wp2_with fail
    refine (HR.out _).mono ?_
    rintro e w4 ⟨rfl, hb4⟩
    go_wp2_with fail
    refine (H3.out _).mono ?_
    rintro e w6 ⟨rfl, rfl⟩
    go_wp2_with fail
    refine (awake_any _).mono ?_
    rintro e w5 ⟨rfl, hb5⟩
    go_wp2_with fail
    go_ret
    exact ⟨rfl, chain (chain (chain (chain hb1 hb2) hb3) hb4) hb5⟩

end Go.Proofs.Ytldggjnakioeeaa
