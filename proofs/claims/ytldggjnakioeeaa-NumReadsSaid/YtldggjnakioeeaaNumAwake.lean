/-
  The walk through the chapter's examples ('awake').
-/
import Derived.Test.YtldggjnakioeeaaNumPut
import Derived.Test.YtldggjnakioeeaaNumPack
import Derived.Test.YtldggjnakioeeaaNumUnpack
namespace Go.Proofs.Ytldggjnakioeeaa
open Go.RowKit

theorem awake_put (w : World) : Calls Try.prog 10 #[.int .u64 258, .int .i64 3] w fun e w' => e = .returned (.tuple #[.string ⟨#[0, 1, 2]⟩, .int .i64 0]) ∧ Below w.heap.size w w' := by
  have h := put_any 258 3 w (by decide) (by decide)
  have e1 : putS (258 : Int).toNat 3 = ⟨#[0, 1, 2]⟩ := by decide
  have e2 : putE (258 : Int).toNat 3 = 0 := by decide
  rwa [e1, e2] at h
theorem awake_pack (w : World) : Calls Try.prog 11 #[.int .u64 300] w fun e w' => e = .returned (.string ⟨#[172, 2]⟩) ∧ Below w.heap.size w w' := by
  have h := pack_any 300 w (by decide) (by decide)
  have e1 : bs (pack (300 : Int).toNat) = ⟨#[172, 2]⟩ := by decide
  rwa [e1] at h
theorem awake_unpack (w : World) : Calls Try.prog 13 #[.string ⟨#[128, 0]⟩] w fun e w' => e = .returned (.tuple #[.int .u64 0, .int .i64 0, .int .i64 2]) ∧ w = w' := by
  have h := unpack_any ⟨#[128, 0]⟩ w (by decide)
  have e1 : unpack (⟨#[128, 0]⟩ : ByteArray).data.toList = (0, 0, 2) := by decide
  rwa [e1] at h
theorem awake_fold (w : World) : Calls Try.prog 14 #[.int .i64 (-3)] w fun e w' => e = .returned (.int .u64 5) ∧ w = w' := by
  have h := fold_any (-3) w (by decide) (by decide)
  have e1 : foldN (-3) = 5 := by decide
  rwa [e1] at h

set_option maxRecDepth 100000 in
set_option maxHeartbeats 800000 in
theorem awake_any (w : World) : Calls Try.prog 12 #[] w fun e w' => e = .returned (.bool true) ∧ Below w.heap.size w w' := by
  go_enter Try.func12, Try.ntmps12
  go_wp2_with fail
  refine (awake_put _).mono ?_
  rintro e w1 ⟨rfl, hb1⟩
  go_wp2_with fail
  refine (awake_unpack _).mono ?_
  rintro e w2 ⟨rfl, rfl⟩
  go_wp2_with fail
  refine (awake_pack _).mono ?_
  rintro e w3 ⟨rfl, hb3⟩
  go_wp2_with fail
  refine (awake_fold _).mono ?_
  rintro e w4 ⟨rfl, rfl⟩
  go_wp2_with fail
  go_ret
  exact ⟨rfl, hb1.trans (hb3.mono hb1.size)⟩

end Go.Proofs.Ytldggjnakioeeaa
