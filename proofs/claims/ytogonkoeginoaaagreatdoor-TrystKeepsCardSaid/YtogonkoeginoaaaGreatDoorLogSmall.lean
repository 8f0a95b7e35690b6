/-
  The walks through the log's small functions, and the reference's of it: Cells, filled, May, few.
-/
import Derived.Test.YtogonkoeginoaaaGreatDoorLogDrv
import Derived.Test.YtogonkoeginoaaaGreatDoorDskNew
import Derived.Test.YtogonkoeginoaaaGreatDoorLawDsk
import Derived.Test.YtogonkoeginoaaaGreatDoorRefMay
namespace Go.Proofs.YtogonkoeginoaaaGreatDoor
open Go.RowKit

theorem repeatL_zero (n : Nat) : Lib.repeatL [0] n = List.replicate n 0 := by
  induction n with
  | zero => rfl
  | succ n ih => rw [Lib.repeatL, ih, List.replicate_succ]; rfl
theorem repeat0_any (n : Nat) (w : World) (h : n ≤ 100000) : Calls Tryz.prog 46 #[.string ⟨#[0]⟩, .int .i64 (n : Int)] w fun e w' => e = .returned (.string (bs (List.replicate n 0))) ∧ Below w.heap.size w w' := by
  have hs : (⟨#[0]⟩ : ByteArray).size = 1 := rfl
  have h := Tryz.strings_Repeat ⟨#[0]⟩ n w (by omega) (by rw [hs]; omega)
  have e : (⟨#[0]⟩ : ByteArray).data.toList = [0] := rfl
  rw [e, repeatL_zero] at h
  exact h


theorem ret_i64 {a b : Int} (h : a = b) : Ending.returned (.int .i64 a) = .returned (.int .i64 b) := by rw [h]

set_option maxRecDepth 100000 in
set_option maxHeartbeats 400000 in
theorem lcells_any (n : Int) (w : World) (hn : -9223372036854775808 ≤ n ∧ n < 9223372036854775808) : Calls Tryz.prog 9 #[.int .i64 n] w fun e w' => e = .returned (.int .i64 (cellsOf n)) ∧ w = w' := by
  by_cases h1 : n < 0
  · have H := hide (show cellsOf n = 0 from if_pos (.inl h1))
    go_enter Tryz.func9, Tryz.ntmps9
    go_wp2_with fail
    go_ret
    exact ⟨ret_i64 H.out.symm, rfl⟩
  · by_cases h2 : 4000 < n
    · have H := hide (show cellsOf n = 0 from if_pos (.inr h2))
      have h3 : 0 ≤ n := by omega
      clear h1
      go_enter Tryz.func9, Tryz.ntmps9
      go_wp2_with fail
      go_ret
      exact ⟨ret_i64 H.out.symm, rfl⟩
    · have H := hide (show cellsOf n = (kOf n.toNat : Int) from if_neg (by omega))
      have h3 : 0 ≤ n := by omega
      have h4 : n ≤ 4000 := by omega
      clear h1 h2 hn
      by_cases h5 : n ≤ 58
      · have H2 := hide (show (kOf n.toNat : Int) = 1 by unfold kOf; omega)
        go_enter Tryz.func9, Tryz.ntmps9
        go_wp2_with fail
        go_ret
        exact ⟨ret_i64 (by rw [H.out, H2.out]), rfl⟩
      · have H2 := hide (show (kOf n.toNat : Int) = 1 + (n - 58 + 60 - 1) / 60 by unfold kOf; omega)
        have h6 : 58 < n := by omega
        clear h5
        go_enter Tryz.func9, Tryz.ntmps9
        go_wp2_with fail
        go_ret
        exact ⟨ret_i64 (by rw [H.out, H2.out]), rfl⟩


set_option maxRecDepth 100000 in
set_option maxHeartbeats 400000 in
theorem filled_any (l : List UInt8) (w : World) (hl : l.length ≤ 60) : Calls Tryz.prog 104 #[.string (bs l)] w fun e w' => e = .returned (.string (bs (pad60 l))) ∧ Below w.heap.size w w' := by
  have hsz : (bs l).size = l.length := bs_size l
  have hap := bs_append l (List.replicate (60 - l.length) 0)
  obtain ⟨n, hn⟩ : ∃ n : Nat, 60 - l.length = n := ⟨_, rfl⟩
  have HP := hide (show pad60 l = l ++ List.replicate n 0 by unfold pad60; rw [hn])
  rw [hn] at hap
  obtain ⟨s, hs⟩ : ∃ s, bs l = s := ⟨_, rfl⟩
  rw [hs] at hsz hap ⊢
  have hni : (60 : Int) - (s.size : Int) = (n : Int) := by omega
  have h60 : s.size ≤ 60 := by omega
  have hn60 : n ≤ 60 := by omega
  have HR := hide (fun w => repeat0_any n w (by omega))
  obtain ⟨z, hz⟩ : ∃ z, bs (List.replicate n 0) = z := ⟨_, rfl⟩
  have hz60 : z.size ≤ 60 := by rw [← hz, bs_size, List.length_replicate]; omega
  rw [hz] at hap HR
  have HAP := hide hap
  clear hap hz hs hl hn hsz
  go_enter Tryz.func104, Tryz.ntmps104
  go_wp2_with fail
  refine (HR.out _).mono ?_
  rintro e w' ⟨rfl, hb⟩
  go_wp2_with fail
  go_ret
  rw [HP.out, HAP.out]
  exact ⟨rfl, hb⟩

end Go.Proofs.YtogonkoeginoaaaGreatDoor
