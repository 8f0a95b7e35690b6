/-
  The walk through the law NumBehind.
-/
import Derived.Test.YtldggjnakioeeaaNumAwake
import Derived.Test.YtldggjnakioeeaaNumLaw
namespace Go.Proofs.Ytldggjnakioeeaa
open Go.RowKit

theorem extract_front (s : ByteArray) (k : Nat) : (s.extract 0 k).data.toList = s.data.toList.take k := by simp

theorem pack_behind (n : Int) (h0 : 0 ≤ n) (h1 : n < 18446744073709551616) : ∃ p : ByteArray, Hid (∀ w, Calls Try.prog 11 #[.int .u64 n] w fun e w' => e = .returned (.string p) ∧ Below w.heap.size w w') ∧
    Hid (∀ (x : ByteArray) (w : World), x.size ≤ 40 → Calls Try.prog 13 #[.string (p ++ x)] w fun e w' => e = .returned (.tuple #[.int .u64 n, .int .i64 (p.size : Int), .int .i64 0]) ∧ w = w') ∧
    Hid (∀ (w : World), Calls Try.prog 13 #[.string (p.extract 0 (p.size - 1))] w fun e w' => e = .returned (.tuple #[.int .u64 0, .int .i64 0, .int .i64 3]) ∧ w = w') ∧
    1 ≤ p.size ∧ p.size ≤ 10 := by
  refine ⟨_, hide (fun w => pack_any n w h0 h1), hide ?_, hide ?_, by rw [bs_size]; exact pack_length_pos _, by rw [bs_size]; exact pack_length_le _⟩
  · intro x w hx
    have hl := pack_length_le n.toNat
    have h := unpack_any (bs (pack n.toNat) ++ x) w (by rw [ByteArray.size_append, bs_size]; unfold maxLen; omega)
    have e : (bs (pack n.toNat) ++ x).data.toList = pack n.toNat ++ x.data.toList := by
      have : x = bs x.data.toList := rfl
      rw [this, bs_append]
      rfl
    rw [e, unpack_pack _ _ (by omega)] at h
    have e2 : ((n.toNat : Nat) : Int) = n := by omega
    simp only [e2] at h
    exact h
  · intro w
    have hl := pack_length_le n.toNat
    have h := unpack_any ((bs (pack n.toNat)).extract 0 ((bs (pack n.toNat)).size - 1)) w (by rw [ByteArray.size_extract, bs_size]; unfold maxLen; omega)
    rw [extract_front, bs_data, bs_size, unpack_less _ (by omega)] at h
    exact h

set_option maxRecDepth 100000 in
set_option maxHeartbeats 1600000 in
theorem behind_walk (n : Int) (wn : (Lit.int .u64 n).wf = true) (s : ByteArray) (ws : s.size ≤ maxLen) (w : World) :
    Calls Try.prog 4 #[.int .u64 n, .string s] w fun e w' => e = .returned (.bool true) ∧ Below w.heap.size w w' := by
  obtain ⟨n0, n1⟩ := u64_bd wn
  obtain ⟨p, HP, HU, HS, hp1, hp10⟩ := pack_behind n n0 n1
  have hpe := toList_some (s := p) (by omega)
  have hex : (s.extract 0 40).size ≤ 40 := by rw [ByteArray.size_extract]; omega
  unfold maxLen at ws
  clear wn
  by_cases hs : 40 < s.size
  all_goals
    go_enter Try.func4, Try.ntmps4
    go_wp2_with fail
    refine (HP.out _).mono ?_
    rintro e w1 ⟨rfl, hb1⟩
    go_wp2_with fail
    refine (HU.out _ _ (by first | exact hex | omega)).mono ?_
    rintro e w2 ⟨rfl, rfl⟩
    go_wp2_with fail
    refine (HS.out _).mono ?_
    rintro e w3 ⟨rfl, rfl⟩
    go_wp2_with fail
    refine (awake_any _).mono ?_
    rintro e w5 ⟨rfl, hb5⟩
    go_wp2_with fail
    go_ret
    exact ⟨rfl, chain hb1 hb5⟩

end Go.Proofs.Ytldggjnakioeeaa
