/-
  The walk through num.Pack: what it answers, and that it writes nothing that was there.
-/
import Derived.Test.YtogonkoeginoaaaGreatDoorMem
namespace Go.Proofs.YtogonkoeginoaaaGreatDoor
open Go.RowKit

theorem or128 (q : Nat) : bits .or .u8 ((q : Int) % 256) 128 = ((UInt8.ofNat (128 + q % 128)).toNat : Int) := by
  rw [u8_or _ _ (by omega) (by omega) (by omega) (by omega)]
  have e : ((q : Int) % 256).toNat = q % 256 := by omega
  rw [e]
  have h : ∀ x : Fin 256, x.val ||| 128 = 128 + x.val % 128 := by decide +kernel
  have h2 := h ⟨q % 256, by omega⟩
  have e2 : (128 : Int).toNat = 128 := rfl
  rw [e2, h2]
  simp
  omega

/-- What the loop holds: k octets are there, q is left. -/
structure PackRel (m k q : Nat) (l : List UInt8) : Prop where
  le : k ≤ 9
  len : l.length = k
  left : q * 128 ^ k ≤ m
  all : packF 10 m = l ++ packF (10 - k) q

set_option maxRecDepth 100000 in
set_option maxHeartbeats 800000 in
theorem pack_run (m : Nat) (w : World) (hm : m < 18446744073709551616) :
    Calls Tryz.prog 24 #[.int .u64 (m : Int)] w fun e w' => e = .returned (.string (bs (pack m))) ∧ Below w.heap.size w w' := by
  obtain ⟨i0, hi, hz0, hz1, hz2⟩ := info_parts info_u8
  go_enter Tryz.func24, Tryz.ntmps24
  go_wp2_with (refine wpList_make_own _ rfl _ _ 68 rfl w.heap.size 5 i0 (.int .u8 0) 1 Tryz.underlying68 hi hz0 hz1 _ _ _ 10 rfl rfl rfl ?c1 ?c2 ?c3 ?_)
  case c1 => rw [hz2]; omega
  case c2 => unfold maxLen; omega
  case c3 => omega
  intro w1 hown hgrow
  have hb : Below w.heap.size w w1 := (Below.refl _ _).grown hgrow (Nat.le_refl _) (by simp)
  clear hgrow
  go_wp2
  go_loopw [0, 3] (fun n v wr => ∃ (k q : Nat) (l : List UInt8), PackRel m k q l ∧ n = .int .u64 (q : Int) ∧ v = .slice (some ⟨w.heap.size, 0, none⟩) k 10 ∧ wr.ownsRow w.heap.size 5 1 (.slice (some ⟨w.heap.size, 0, none⟩) k 10) k (byteCells l) ∧ Below w.heap.size w wr)
    (fun n _ _ => (intOf n).toNat)
  case atStart => exact ⟨0, m, [], ⟨by omega, rfl, by simp, rfl⟩, rfl, rfl, hown, hb⟩
  case round =>
    obtain ⟨k, q, l, hp, rfl, rfl, ho, hbr⟩ := hrel
    have hk9 := hp.le
    have hqm := hp.left
    have hqle : q ≤ m := by
      refine Nat.le_trans ?_ hqm
      exact Nat.le_mul_of_pos_right _ (Nat.pow_pos (by decide))
    clear hqm
    by_cases hq : 128 ≤ q
    · have hk8 := pack_bound hm hp.left hq
      have hor := or128 q
      obtain ⟨c, hc⟩ : ∃ c, UInt8.ofNat (128 + q % 128) = c := ⟨_, rfl⟩
      rw [hc] at hor
      have HC := hide hc
      clear hc
      go_wp2_with (at_builtin; refine wpList_append_fits _ rfl _ _ 68 rfl w.heap.size 5 i0 1 Tryz.underlying68 hi hz1 w.heap.size k 10 (byteCells l) rfl (ho.alloc _) ⟨wr.heap.size, 0, none⟩ 1 1 (byteCells [c]) rfl rfl (cell_one_new _ _ _) (byteCells_one _) (by omega) ?_)
      intro w2 ho2 hg2
      have hb2 : Below w.heap.size w w2 := (hbr.alloc hbr.size _).grown hg2 (by have := hbr.size; simp; omega) (by rintro k h; injection h with h; omega)
      rw [← byteCells_append] at ho2
      clear ho hg2 hor
      go_wp2
      go_roundw
      case rel =>
        refine ⟨k + 1, q / 128, _, ⟨by omega, ?_, pack_next hp.left, ?_⟩, by go_num, rfl, ho2, hb2⟩
        · rw [List.length_append, hp.len]; rfl
        · rw [hp.all, show 10 - k = (10 - (k + 1)) + 1 by omega, packF_more (by omega), List.append_assoc, HC.out]; rfl
      case measure => simp [intOf]; omega
    · have hq256 : (q : Int) % 256 = ((UInt8.ofNat q).toNat : Int) := by simp
      go_wp2_with (at_builtin; refine wpList_append_fits _ rfl _ _ 68 rfl w.heap.size 5 i0 1 Tryz.underlying68 hi hz1 w.heap.size k 10 (byteCells l) rfl (ho.alloc _) ⟨wr.heap.size, 0, none⟩ 1 1 (byteCells [UInt8.ofNat q]) rfl rfl ?d1 (byteCells_one _) (by omega) ?_)
      case d1 =>
        have e : byteCells [UInt8.ofNat q] = [Value.int .u8 (q : Int)] := by
          simp [byteCells]; omega
        rw [e]
        exact cell_one_new _ _ _
      intro w2 ho2 hg2
      have hb2 : Below w.heap.size w w2 := (hbr.alloc hbr.size _).grown hg2 (by have := hbr.size; simp; omega) (by rintro k h; injection h with h; omega)
      rw [← byteCells_append] at ho2
      have hcv := conv_own (P := Tryz.prog) (src := 68) (dst := 9) Tryz.underlying68 Tryz.underlying5 Tryz.underlying9 ho2
      clear ho ho2 hg2
      have e : l ++ [UInt8.ofNat q] = pack m := by
        rw [pack, hp.all]
        obtain ⟨f, hf⟩ : ∃ f, 10 - k = f + 1 := ⟨9 - k, by omega⟩
        rw [hf, packF_small (by omega)]
      rw [e] at hcv
      clear e hq256
      go_wp2
      go_ret
      exact ⟨rfl, hb2⟩

/-- num.Pack. -/
theorem pack_any (n : Int) (w : World) (h0 : 0 ≤ n) (hn : n < 18446744073709551616) :
    Calls Tryz.prog 24 #[.int .u64 n] w fun e w' => e = .returned (.string (bs (pack n.toNat))) ∧ Below w.heap.size w w' := by
  obtain ⟨m, rfl⟩ := Int.eq_ofNat_of_zero_le h0
  rw [Int.toNat_natCast]
  exact pack_run m w (by omega)

end Go.Proofs.YtogonkoeginoaaaGreatDoor
