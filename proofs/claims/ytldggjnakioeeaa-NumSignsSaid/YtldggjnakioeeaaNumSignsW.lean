/-
  The walk through the law NumSigns.
-/
import Derived.Test.YtldggjnakioeeaaNumAwake
namespace Go.Proofs.Ytldggjnakioeeaa
open Go.RowKit

theorem unfold_fold (n : Int) : unfoldN (foldN n) = n := by unfold unfoldN foldN; split <;> split <;> omega
theorem fold_unfold (m : Int) (h : 0 ≤ m) : foldN (unfoldN m) = m := by unfold unfoldN foldN; split <;> split <;> omega
theorem fold_range (n : Int) (h0 : -9223372036854775808 ≤ n) (h1 : n < 9223372036854775808) : 0 ≤ foldN n ∧ foldN n < 18446744073709551616 := by unfold foldN; split <;> omega
theorem unfold_range (m : Int) (h0 : 0 ≤ m) (h1 : m < 18446744073709551616) : -9223372036854775808 ≤ unfoldN m ∧ unfoldN m < 9223372036854775808 := by unfold unfoldN; split <;> omega

set_option maxRecDepth 100000 in
set_option maxHeartbeats 1600000 in
theorem signs_walk (n : Int) (wn : (Lit.int .i64 n).wf = true) (m : Int) (wm : (Lit.int .u64 m).wf = true) (w : World) :
    Calls Try.prog 7 #[.int .i64 n, .int .u64 m] w fun e w' => e = .returned (.bool true) ∧ Below w.heap.size w w' := by
  obtain ⟨n0, n1⟩ := i64_bd wn
  obtain ⟨m0, m1⟩ := u64_bd wm
  clear wn wm
  obtain ⟨f0, f1⟩ := fold_range n n0 n1
  obtain ⟨g0, g1⟩ := unfold_range m m0 m1
  have C1 := hide (fun w => fold_any n w n0 n1)
  have C2 := hide (fun w => reffold_any n w n0 n1)
  have C3 := hide (fun w => unfold_any m w m0 m1)
  have C4 := hide (fun w => refunfold_any m w m0 m1)
  have C5 := hide (fun w => unfold_any (foldN n) w f0 f1)
  have C6 := hide (fun w => fold_any (unfoldN m) w g0 g1)
  have hsm : -50 ≤ n → n ≤ 50 → foldN n < 102 := by intro _ _; unfold foldN; split <;> omega
  rw [unfold_fold] at C5
  rw [fold_unfold m m0] at C6
  obtain ⟨f, hf⟩ : ∃ f, foldN n = f := ⟨_, rfl⟩
  obtain ⟨g, hg⟩ : ∃ g, unfoldN m = g := ⟨_, rfl⟩
  rw [hf] at C1 C2 C5 hsm
  rw [hg] at C3 C4 C6
  clear f0 f1 g0 g1 hf hg
  have hcase : (n < -50) ∨ (-50 ≤ n ∧ 50 < n) ∨ (-50 ≤ n ∧ n ≤ 50 ∧ f < 102) := by omega
  clear hsm
  rcases hcase with h1 | ⟨h1, h2⟩ | ⟨h1, h2, h3⟩
  all_goals
    go_enter Try.func7, Try.ntmps7
    go_wp2_with fail
    refine (C1.out _).mono ?_
    rintro e w1 ⟨rfl, rfl⟩
    go_wp2_with fail
    refine (C2.out _).mono ?_
    rintro e w1 ⟨rfl, rfl⟩
    go_wp2_with fail
    refine (C3.out _).mono ?_
    rintro e w1 ⟨rfl, rfl⟩
    go_wp2_with fail
    refine (C4.out _).mono ?_
    rintro e w1 ⟨rfl, rfl⟩
    go_wp2_with fail
    refine (C1.out _).mono ?_
    rintro e w1 ⟨rfl, rfl⟩
    go_wp2_with fail
    refine (C5.out _).mono ?_
    rintro e w1 ⟨rfl, rfl⟩
    go_wp2_with fail
    refine (C3.out _).mono ?_
    rintro e w1 ⟨rfl, rfl⟩
    go_wp2_with fail
    refine (C6.out _).mono ?_
    rintro e w1 ⟨rfl, rfl⟩
    go_wp2_with fail
    try (refine (C1.out _).mono ?_; rintro e w1 ⟨rfl, rfl⟩; go_wp2_with fail)
    refine (awake_any _).mono ?_
    rintro e w5 ⟨rfl, hb5⟩
    go_wp2_with fail
    go_ret
    exact ⟨rfl, hb5⟩

end Go.Proofs.Ytldggjnakioeeaa
