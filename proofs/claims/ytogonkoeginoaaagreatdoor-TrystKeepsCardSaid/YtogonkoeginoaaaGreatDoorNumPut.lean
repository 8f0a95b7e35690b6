/-
  The walk through num.Put: what it answers, and that it writes nothing that was there.
-/
import Derived.Test.YtogonkoeginoaaaGreatDoorMem

namespace Go.Proofs.YtogonkoeginoaaaGreatDoor
open Go.RowKit

theorem putE_bad {n : Nat} {wide : Int} (h : putOk n wide = false) : putE n wide = 1 ∧ putS n wide = ByteArray.empty := by simp [putE, putS, h]

set_option maxHeartbeats 400000 in
theorem put_arg (n wide : Int) (w : World) (hw : wide < 1 ∨ 8 < wide) :
    Calls Tryz.prog 83 #[.int .u64 n, .int .i64 wide] w fun e w' => e = .returned (.tuple #[.string ByteArray.empty, .int .i64 1]) ∧ w = w' := by
  rcases hw with hw | hw
  · go_enter Tryz.func83, Tryz.ntmps83
    go_wp2
    go_ret2
    exact ⟨rfl, rfl⟩
  · go_enter Tryz.func83, Tryz.ntmps83
    go_wp2
    go_ret2
    exact ⟨rfl, rfl⟩

/-- One more octet, at its place, from behind. -/
theorem put_step (wide k m : Nat) (hk : k < wide) :
    (byteCells (List.replicate (wide - k) 0 ++ octs k m)).set (wide - 1 - k) (.int .u8 ((m / 256 ^ k % 256 : Nat) : Int)) = byteCells (List.replicate (wide - (k + 1)) 0 ++ octs (k + 1) m) := by
  have e : ((m / 256 ^ k % 256 : Nat) : Int) = ((UInt8.ofNat (m / 256 ^ k)).toNat : Int) := by simp
  rw [e, byteCells_set]
  congr 1
  have h1 : wide - k = (wide - (k + 1)) + 1 := by omega
  have h2 : wide - 1 - k = (wide - (k + 1)) := by omega
  rw [h1, h2, List.replicate_succ', List.append_assoc]
  rw [List.set_append_right _ _ (by simp)]
  simp [octs]

set_option maxRecDepth 100000 in
set_option maxHeartbeats 800000 in
theorem put_run (m wide : Nat) (w : World) (h1 : 1 ≤ wide) (h8 : wide ≤ 8) (_hm : m < 18446744073709551616) :
    Calls Tryz.prog 83 #[.int .u64 (m : Int), .int .i64 (wide : Int)] w fun e w' => e = .returned (.tuple #[.string (putS m wide), .int .i64 (putE m wide)]) ∧ Below w.heap.size w w' := by
  obtain ⟨i0, hi, hz0, hz1, hz2⟩ := info_parts info_u8
  go_enter Tryz.func83, Tryz.ntmps83
  go_wp2_with (refine wpList_make_full _ rfl _ _ 68 rfl w.heap.size 5 i0 (.int .u8 0) 1 Tryz.underlying68 hi hz0 hz1 _ _ _ _ wide rfl rfl rfl rfl ?c1 ?c2 ?c3 ?_)
  case c1 => rw [hz2]; omega
  case c2 => unfold maxLen; omega
  case c3 => omega
  intro w1 hown hgrow
  have hb : Below w.heap.size w w1 := (Below.refl _ _).grown hgrow (Nat.le_refl _) (by simp)
  have hown : w1.ownsRow w.heap.size 5 1 (.slice (some ⟨w.heap.size, 0, none⟩) wide wide) wide (byteCells (List.replicate (wide - 0) 0 ++ octs 0 m)) := by
    have e : (madeCells #[Value.int .u8 0] wide).toList = byteCells (List.replicate (wide - 0) 0 ++ octs 0 m) := by
      rw [toList_madeCells_one]
      simp [byteCells, octs]
    rwa [e] at hown
  clear hgrow
  go_wp2
  go_loopw [0, 17] (fun n i wr => ∃ k : Nat, k ≤ wide ∧ i = .int .i64 k ∧ n = .int .u64 (m / 256 ^ k : Nat) ∧ wr.ownsRow w.heap.size 5 1 (.slice (some ⟨w.heap.size, 0, none⟩) wide wide) wide (byteCells (List.replicate (wide - k) 0 ++ octs k m)) ∧ Below w.heap.size w wr)
    (fun _ i _ => wide - (intOf i).toNat)
  case atStart => exact ⟨0, Nat.zero_le _, rfl, by simp, hown, hb⟩
  case round =>
    obtain ⟨k, hk, rfl, rfl, ho, hbr⟩ := hrel
    obtain ⟨q, hq⟩ : ∃ q, m / 256 ^ k = q := ⟨_, rfl⟩
    have hqm : q ≤ m := by rw [← hq]; exact Nat.div_le_self _ _
    rw [hq]
    by_cases hlt : k < wide
    · obtain ⟨vc, hvc⟩ : ∃ v, wr.cell? ⟨w.heap.size, wide - 1 - k, none⟩ = some v := by
        rw [ho.cellAt (wide - 1 - k) (by omega)]
        exact ⟨_, List.getElem?_eq_getElem (by rw [byteCells_length, List.length_append, List.length_replicate, octs_length]; omega)⟩
      have hf := ho.frozenAt (wide - 1 - k)
      have hs := ho.stored (wide - 1 - k) (.int .u8 ((m / 256 ^ k % 256 : Nat) : Int))
      rw [put_step wide k m hlt, hq] at hs
      have HQ := hide hq
      clear hq
      have ho2 := hide hs
      clear hs ho
      go_wp2
      go_roundw
      case rel =>
        refine ⟨k + 1, by omega, by go_num, ?_, ?_, hbr.setCell (Nat.le_refl _) _⟩
        · rw [Nat.pow_succ, ← Nat.div_div_eq_div_mul, HQ.out]; simp
        · have := ho2.out.1
          simpa using this
      case measure => simp [intOf]; omega
    · obtain rfl : k = wide := by omega
      rw [Nat.sub_self, List.replicate_zero, List.nil_append] at ho
      have hcv := conv_own (P := Tryz.prog) (src := 68) (dst := 9) Tryz.underlying68 Tryz.underlying5 Tryz.underlying9 ho
      have hpos : 0 < 256 ^ k := Nat.pow_pos (by decide)
      by_cases hz : q = 0
      · have hlt' : m < 256 ^ k := by
          rcases Nat.div_eq_zero_iff.1 (hq.trans hz) with h | h
          · omega
          · exact h
        have H3 : Hid (putOk m k = true) := hide (by simp [putOk]; omega)
        subst hz
        clear hlt' hq hpos
        go_wp2
        go_ret2
        refine ⟨?_, hbr⟩
        simp [putS, putE, H3.out]
      · have hlt' : ¬ m < 256 ^ k := fun h => hz (by rw [← hq]; exact Nat.div_eq_of_lt h)
        have H3 : Hid (putOk m k = false) := hide (by simp [putOk]; intro _ _; omega)
        have hb0 : ((q : Int) != 0) = true := by rw [bne_iff_ne]; omega
        clear hz hlt' hq hpos
        go_wp2
        go_ret2
        refine ⟨?_, hbr⟩
        simp [putS, putE, H3.out]
        rfl

/-- num.Put. -/
theorem put_any (n wide : Int) (w : World) (h0 : 0 ≤ n) (hn : n < 18446744073709551616) :
    Calls Tryz.prog 83 #[.int .u64 n, .int .i64 wide] w fun e w' => e = .returned (.tuple #[.string (putS n.toNat wide), .int .i64 (putE n.toNat wide)]) ∧ Below w.heap.size w w' := by
  by_cases hw : wide < 1 ∨ 8 < wide
  · refine (put_arg n wide w hw).mono ?_
    rintro e w' ⟨rfl, rfl⟩
    have : putOk n.toNat wide = false := by simp [putOk]; omega
    refine ⟨?_, Below.refl _ _⟩
    rw [(putE_bad this).1, (putE_bad this).2]
  · obtain ⟨m, rfl⟩ := Int.eq_ofNat_of_zero_le h0
    obtain ⟨k, rfl⟩ := Int.eq_ofNat_of_zero_le (show 0 ≤ wide by omega)
    rw [Int.toNat_natCast]
    exact put_run m k w (by omega) (by omega) (by omega)

end Go.Proofs.YtogonkoeginoaaaGreatDoor
