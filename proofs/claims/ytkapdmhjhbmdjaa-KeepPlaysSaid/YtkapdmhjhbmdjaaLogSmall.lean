/-
  The walks through the log's small functions, and the reference's of it: Cells, filled, May, few.
-/
import Derived.Test.YtkapdmhjhbmdjaaLogDrv
import Derived.Test.YtkapdmhjhbmdjaaDskNew
import Derived.Test.YtkapdmhjhbmdjaaLawDsk
import Derived.Test.YtkapdmhjhbmdjaaRefMay
namespace Go.Proofs.Ytkapdmhjhbmdjaa
open Go.RowKit

theorem repeatL_zero (n : Nat) : Lib.repeatL [0] n = List.replicate n 0 := by
  induction n with
  | zero => rfl
  | succ n ih => rw [Lib.repeatL, ih, List.replicate_succ]; rfl
theorem repeat0_any (n : Nat) (w : World) (h : n ≤ 100000) : Calls Try.prog 75 #[.string ⟨#[0]⟩, .int .i64 (n : Int)] w fun e w' => e = .returned (.string (bs (List.replicate n 0))) ∧ Below w.heap.size w w' := by
  have hs : (⟨#[0]⟩ : ByteArray).size = 1 := rfl
  have h := Try.strings_Repeat ⟨#[0]⟩ n w (by omega) (by rw [hs]; omega)
  have e : (⟨#[0]⟩ : ByteArray).data.toList = [0] := rfl
  rw [e, repeatL_zero] at h
  exact h

set_option maxRecDepth 100000 in
set_option maxHeartbeats 400000 in
theorem few18_any (l : List UInt8) (w : World) (hl : l.length < 9223372036854775808) : Calls Try.prog 39 #[.string (bs l)] w fun e w' => e = .returned (.string (bs (if 400 < l.length ∧ l.length ≤ 4000 then l.take 400 else if 4001 < l.length then l.take 4001 else l))) ∧ Below w.heap.size w w' := by
  have hb := bs_take l 400
  have hb2 := bs_take l 4001
  have hsz : (bs l).size = l.length := bs_size l
  by_cases h1 : 400 < l.length ∧ l.length ≤ 4000
  · rw [if_pos h1, hb]
    obtain ⟨s, hs⟩ : ∃ s, bs l = s := ⟨_, rfl⟩
    rw [hs] at hsz ⊢
    rw [← hsz] at hl h1
    have h2 : (400 : Int) < (s.size : Int) := by omega
    have h3 : (s.size : Int) ≤ 4000 := by omega
    clear hb hb2 hs hsz h1
    go_enter Try.func39, Try.ntmps39
    go_wp2_with fail
    go_ret
    exact ⟨rfl, Below.refl _ _⟩
  · rw [if_neg h1]
    by_cases h4 : 4001 < l.length
    · rw [if_pos h4, hb2]
      obtain ⟨s, hs⟩ : ∃ s, bs l = s := ⟨_, rfl⟩
      rw [hs] at hsz ⊢
      rw [← hsz] at hl h1 h4
      have h2 : (400 : Int) < (s.size : Int) := by omega
      have h3 : (4000 : Int) < (s.size : Int) := by omega
      have h5 : (4001 : Int) < (s.size : Int) := by omega
      clear hb hb2 hs hsz h1 h4
      go_enter Try.func39, Try.ntmps39
      go_wp2_with fail
      go_ret
      exact ⟨rfl, Below.refl _ _⟩
    · rw [if_neg h4]
      obtain ⟨s, hs⟩ : ∃ s, bs l = s := ⟨_, rfl⟩
      rw [hs] at hsz ⊢
      rw [← hsz] at hl h1 h4
      have h5 : (s.size : Int) ≤ 4001 := by omega
      have h6 : (s.size : Int) ≤ 400 ∨ (4000 : Int) < (s.size : Int) := by omega
      clear hb hb2 hs hsz h1 h4
      rcases h6 with h6 | h6
      · go_enter Try.func39, Try.ntmps39
        go_wp2_with fail
        go_ret
        exact ⟨rfl, Below.refl _ _⟩
      · have h7 : (400 : Int) < (s.size : Int) := by omega
        go_enter Try.func39, Try.ntmps39
        go_wp2_with fail
        go_ret
        exact ⟨rfl, Below.refl _ _⟩

theorem ret_i64 {a b : Int} (h : a = b) : Ending.returned (.int .i64 a) = .returned (.int .i64 b) := by rw [h]

set_option maxRecDepth 100000 in
set_option maxHeartbeats 400000 in
theorem lcells_any (n : Int) (w : World) (hn : -9223372036854775808 ≤ n ∧ n < 9223372036854775808) : Calls Try.prog 44 #[.int .i64 n] w fun e w' => e = .returned (.int .i64 (cellsOf n)) ∧ w = w' := by
  by_cases h1 : n < 0
  · have H := hide (show cellsOf n = 0 from if_pos (.inl h1))
    go_enter Try.func44, Try.ntmps44
    go_wp2_with fail
    go_ret
    exact ⟨ret_i64 H.out.symm, rfl⟩
  · by_cases h2 : 4000 < n
    · have H := hide (show cellsOf n = 0 from if_pos (.inr h2))
      have h3 : 0 ≤ n := by omega
      clear h1
      go_enter Try.func44, Try.ntmps44
      go_wp2_with fail
      go_ret
      exact ⟨ret_i64 H.out.symm, rfl⟩
    · have H := hide (show cellsOf n = (kOf n.toNat : Int) from if_neg (by omega))
      have h3 : 0 ≤ n := by omega
      have h4 : n ≤ 4000 := by omega
      clear h1 h2 hn
      by_cases h5 : n ≤ 58
      · have H2 := hide (show (kOf n.toNat : Int) = 1 by unfold kOf; omega)
        go_enter Try.func44, Try.ntmps44
        go_wp2_with fail
        go_ret
        exact ⟨ret_i64 (by rw [H.out, H2.out]), rfl⟩
      · have H2 := hide (show (kOf n.toNat : Int) = 1 + (n - 58 + 60 - 1) / 60 by unfold kOf; omega)
        have h6 : 58 < n := by omega
        clear h5
        go_enter Try.func44, Try.ntmps44
        go_wp2_with fail
        go_ret
        exact ⟨ret_i64 (by rw [H.out, H2.out]), rfl⟩

set_option maxRecDepth 100000 in
set_option maxHeartbeats 400000 in
theorem refcells_any (n : Int) (w : World) (hn : -9223372036854775808 ≤ n ∧ n < 9223372036854775808) : Calls Try.prog 45 #[.int .i64 n] w fun e w' => e = .returned (.int .i64 (cellsOf n)) ∧ w = w' := by
  by_cases h1 : n < 0
  · have H := hide (show cellsOf n = 0 from if_pos (.inl h1))
    go_enter Try.func45, Try.ntmps45
    go_wp2_with fail
    go_ret
    exact ⟨ret_i64 H.out.symm, rfl⟩
  · by_cases h2 : 4000 < n
    · have H := hide (show cellsOf n = 0 from if_pos (.inr h2))
      have h3 : 0 ≤ n := by omega
      clear h1
      go_enter Try.func45, Try.ntmps45
      go_wp2_with fail
      go_ret
      exact ⟨ret_i64 H.out.symm, rfl⟩
    · have H := hide (show cellsOf n = (kOf n.toNat : Int) from if_neg (by omega))
      have h3 : 0 ≤ n := by omega
      have h4 : n ≤ 4000 := by omega
      clear h1 h2 hn
      go_enter Try.func45, Try.ntmps45
      go_wp2_with fail
      go_loop [3, 4] (fun k h => ∃ j : Nat, j ≤ 67 ∧ (j = 0 ∨ 60 * (j : Int) - 2 < n) ∧ k = .int .i64 (1 + (j : Int)) ∧ h = .int .i64 (58 + 60 * (j : Int))) (fun _ h => 4100 - (intOf h).toNat)
      case atStart => exact ⟨0, by omega, .inl rfl, rfl, rfl⟩
      case round =>
        obtain ⟨j, hj, hjn, rfl, rfl⟩ := hrel
        by_cases hlt : 58 + 60 * (j : Int) < n
        · go_wp2_with fail
          go_round
          case rel => exact ⟨j + 1, by omega, .inr (by push_cast; omega), by congr 1; first | done | (push_cast; omega), by congr 1; first | done | (push_cast; omega)⟩
          case measure => simp [intOf]; omega
        · have H2 := hide (show (kOf n.toNat : Int) = 1 + (j : Int) by unfold kOf; omega)
          go_wp2_with fail
          go_ret
          exact ⟨ret_i64 (by rw [H.out, H2.out]), rfl⟩

set_option maxRecDepth 100000 in
set_option maxHeartbeats 400000 in
theorem filled_any (l : List UInt8) (w : World) (hl : l.length ≤ 60) : Calls Try.prog 112 #[.string (bs l)] w fun e w' => e = .returned (.string (bs (pad60 l))) ∧ Below w.heap.size w w' := by
  have hsz : (bs l).size = l.length := bs_size l
  have hap := bs_append l (List.replicate (60 - l.length) 0)
  obtain ⟨n, hn⟩ : ∃ n : Nat, 60 - l.length = n := ⟨_, rfl⟩
  have HP := hide (show pad60 l = l ++ List.replicate n 0 by unfold pad60; rw [hn])
  rw [hn] at hap
  obtain ⟨s, hs⟩ : ∃ s, bs l = s := ⟨_, rfl⟩
  rw [hs] at hsz hap ⊢
  have hni : (60 : Int) - (s.size : Int) = (n : Int) := by omega
  have h60 : s.size ≤ 60 := by omega
  have hn60 : n ≤ 60 := by omega
  have HR := hide (fun w => repeat0_any n w (by omega))
  obtain ⟨z, hz⟩ : ∃ z, bs (List.replicate n 0) = z := ⟨_, rfl⟩
  have hz60 : z.size ≤ 60 := by rw [← hz, bs_size, List.length_replicate]; omega
  rw [hz] at hap HR
  have HAP := hide hap
  clear hap hz hs hl hn hsz
  go_enter Try.func112, Try.ntmps112
  go_wp2_with fail
  refine (HR.out _).mono ?_
  rintro e w' ⟨rfl, hb⟩
  go_wp2_with fail
  go_ret
  rw [HP.out, HAP.out]
  exact ⟨rfl, hb⟩

end Go.Proofs.Ytkapdmhjhbmdjaa
