/-
  The walks through the statements' small functions of layer 18 (some, long), and the document's Same of texts.
-/
import Derived.Test.YtogonkoeginoaaaGreatDoorAppReg
import Derived.Test.YtogonkoeginoaaaGreatDoorDskNew
import Derived.Test.YtogonkoeginoaaaGreatDoorDskWrite
import Derived.Test.YtogonkoeginoaaaGreatDoorApp
import Derived.Deep.QuietTactic
import Derived.BigQuiet
namespace Go.Proofs.YtogonkoeginoaaaGreatDoor
open Go.RowKit



theorem same_upto {xs ys : List (List UInt8)} {k : Nat} (hx : k < xs.length) (hy : k < ys.length) (h : xs.take k = ys.take k) (he : xs.getD k [] = ys.getD k []) : xs.take (k + 1) = ys.take (k + 1) := by
  rw [take_getD_snoc xs k [] hx, take_getD_snoc ys k [] hy, h, he]

set_option maxRecDepth 100000 in
set_option maxHeartbeats 1600000 in
/-- The document's Same, of two lists of texts. -/
theorem ref2same_any (ao bo : Option Addr) (n c m e : Nat) (xs ys : List (List UInt8)) (w : World) (ha : Strs w ao n xs) (hb : Strs w bo m ys) (hn : n ≤ 9223372036854775807) (hm : m ≤ 9223372036854775807) :
    Calls Tryz.prog 14 #[.slice ao n c, .slice bo m e] w fun e w' => e = .returned (.bool (decide (xs = ys))) ∧ Below w.heap.size w w' := by
  have HA := hide ha
  have HB := hide hb
  have hla := ha.len
  have hlb := hb.len
  by_cases hne : n = m
  · subst hne
    have HLA := hide hla
    have HLB := hide hlb
    clear ha hb hla hlb hm
    go_enter Tryz.func14, Tryz.ntmps14
    go_wp2_with fail
    go_loopw [5] (fun i wr => ∃ k : Nat, k ≤ n ∧ i = .int .i64 k ∧ Hid (xs.take k = ys.take k) ∧ Below w.heap.size w wr) (fun i _ => n - (intOf i).toNat)
    case atStart => exact ⟨0, Nat.zero_le _, rfl, hide rfl, Below.refl _ _⟩
    case round =>
      obtain ⟨k, hk, rfl, hS, hbw⟩ := hrel
      by_cases hkn : k < n
      · obtain ⟨b1, o1, hl1, hix1, hc1⟩ := (HA.out.below hbw).at c k hkn
        obtain ⟨b2, o2, hl2, hix2, hc2⟩ := (HB.out.below hbw).at e k hkn
        have hbeq := str_beq (xs.getD k []) (ys.getD k [])
        by_cases he : xs.getD k [] = ys.getD k []
        · have HNX := hide (same_upto (by rw [HLA.out]; exact hkn) (by rw [HLB.out]; exact hkn) hS.out he)
          rw [decide_eq_true he] at hbeq
          obtain ⟨s1, hs1⟩ : ∃ z, bs (xs.getD k []) = z := ⟨_, rfl⟩
          obtain ⟨s2, hs2⟩ : ∃ z, bs (ys.getD k []) = z := ⟨_, rfl⟩
          rw [hs1] at hc1 hbeq
          rw [hs2] at hc2 hbeq
          clear hs1 hs2 he
          go_wp2_with fail
          go_quiet (fail)
          go_wp2_with fail
          go_roundw
          case rel => exact ⟨k + 1, by omega, by go_num, HNX, Below.trans hbw ⟨rfl, rfl, rfl, Nat.le_refl _, fun _ _ => rfl⟩⟩
          case measure => simp [intOf]; omega
        · have HD := hide (show decide (xs = ys) = false from decide_eq_false (fun h => he (by rw [h])))
          rw [decide_eq_false he] at hbeq
          obtain ⟨s1, hs1⟩ : ∃ z, bs (xs.getD k []) = z := ⟨_, rfl⟩
          obtain ⟨s2, hs2⟩ : ∃ z, bs (ys.getD k []) = z := ⟨_, rfl⟩
          rw [hs1] at hc1 hbeq
          rw [hs2] at hc2 hbeq
          clear hs1 hs2 he
          go_wp2_with fail
          go_quiet (fail)
          go_wp2_with fail
          go_ret
          rw [HD.out]
          exact ⟨rfl, Below.trans hbw ⟨rfl, rfl, rfl, Nat.le_refl _, fun _ _ => rfl⟩⟩
      · obtain rfl : k = n := by omega
        have HD := hide (show decide (xs = ys) = true from decide_eq_true (by
          have h := hS.out
          rwa [List.take_of_length_le (by rw [HLA.out]; exact Nat.le_refl _), List.take_of_length_le (by rw [HLB.out]; exact Nat.le_refl _)] at h))
        go_wp2_with fail
        go_ret
        rw [HD.out]
        exact ⟨rfl, hbw⟩
  · have HD := hide (show decide (xs = ys) = false from decide_eq_false (fun h => hne (by rw [← hla, ← hlb, h])))
    have hnb : ((n : Int) != (m : Int)) = true := by rw [bne_iff_ne]; omega
    have hnd : decide ((n : Int) = (m : Int)) = false := decide_eq_false (by omega)
    clear ha hb hla hlb hne
    go_enter Tryz.func14, Tryz.ntmps14
    go_wp2_with fail
    go_ret
    rw [HD.out]
    exact ⟨rfl, Below.refl _ _⟩

end Go.Proofs.YtogonkoeginoaaaGreatDoor
