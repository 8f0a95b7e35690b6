/-
  The walk through the law NumReads.
-/
import Derived.Test.YtldggjnakioeeaaNumAwake
import Derived.Test.YtldggjnakioeeaaNumRefUnpack
namespace Go.Proofs.Ytldggjnakioeeaa
open Go.RowKit

theorem reads_facts (s : ByteArray) (hs : s.size ≤ maxLen) : ∃ (n E : Int) (ok : Bool) (a b f : Int),
    Hid (∀ w, Calls Try.prog 20 #[.string s] w fun e w' => e = .returned (.tuple #[.int .u64 n, .int .i64 E]) ∧ w = w') ∧
    Hid (∀ w, Calls Try.prog 21 #[.string s] w fun e w' => e = .returned (.tuple #[.int .u64 n, .bool ok]) ∧ w = w') ∧
    Hid (∀ w, Calls Try.prog 13 #[.string s] w fun e w' => e = .returned (.tuple #[.int .u64 a, .int .i64 b, .int .i64 f]) ∧ w = w') ∧
    Hid (∀ w, Calls Try.prog 22 #[.string s] w fun e w' => e = .returned (.tuple #[.int .u64 a, .int .i64 b, .int .i64 f]) ∧ Below w.heap.size w w') ∧
    ((E = 1 ∧ ok = false) ∨ (E = 0 ∧ ok = true)) := by
  refine ⟨_, _, _, _, _, _, hide (fun w => get_any s w hs), hide (fun w => refget_any s w hs), hide (fun w => unpack_any s w hs), hide (fun w => refunpack_any s w hs), ?_⟩
  cases h : getOk s with
  | false => exact .inl ⟨by simp [getE, h], rfl⟩
  | true => exact .inr ⟨by simp [getE, h], rfl⟩

set_option maxRecDepth 100000 in
set_option maxHeartbeats 1600000 in
theorem reads_walk (s : ByteArray) (ws : s.size ≤ maxLen) (w : World) :
    Calls Try.prog 9 #[.string s] w fun e w' => e = .returned (.bool true) ∧ Below w.heap.size w w' := by
  by_cases hs : 40 < s.size
  · obtain ⟨n, E, ok, a, b, f, H1, H2, H3, H4, hcase⟩ := reads_facts (s.extract 0 40) (by rw [ByteArray.size_extract]; unfold maxLen; omega)
    unfold maxLen at ws
    rcases hcase with ⟨rfl, rfl⟩ | ⟨rfl, rfl⟩
    all_goals
      go_enter Try.func9, Try.ntmps9
      go_wp2_with fail
      refine (H1.out _).mono ?_
      rintro e w1 ⟨rfl, rfl⟩
      go_wp2_with fail
      refine (H2.out _).mono ?_
      rintro e w2 ⟨rfl, rfl⟩
      go_wp2_with fail
      refine (H3.out _).mono ?_
      rintro e w3 ⟨rfl, rfl⟩
      go_wp2_with fail
      refine (H4.out _).mono ?_
      rintro e w4 ⟨rfl, hb4⟩
      go_wp2_with fail
      refine (awake_any _).mono ?_
      rintro e w5 ⟨rfl, hb5⟩
      go_wp2_with fail
      go_ret
      exact ⟨rfl, chain hb4 hb5⟩
  · obtain ⟨n, E, ok, a, b, f, H1, H2, H3, H4, hcase⟩ := reads_facts s ws
    unfold maxLen at ws
    rcases hcase with ⟨rfl, rfl⟩ | ⟨rfl, rfl⟩
    all_goals
      go_enter Try.func9, Try.ntmps9
      go_wp2_with fail
      refine (H1.out _).mono ?_
      rintro e w1 ⟨rfl, rfl⟩
      go_wp2_with fail
      refine (H2.out _).mono ?_
      rintro e w2 ⟨rfl, rfl⟩
      go_wp2_with fail
      refine (H3.out _).mono ?_
      rintro e w3 ⟨rfl, rfl⟩
      go_wp2_with fail
      refine (H4.out _).mono ?_
      rintro e w4 ⟨rfl, hb4⟩
      go_wp2_with fail
      refine (awake_any _).mono ?_
      rintro e w5 ⟨rfl, hb5⟩
      go_wp2_with fail
      go_ret
      exact ⟨rfl, chain hb4 hb5⟩

end Go.Proofs.Ytldggjnakioeeaa
