/-
  The walk through log.begin: the record whose cells octets begin with.
-/
import Derived.Test.YtogonkoeginoaaaGreatDoorLogLay
import Derived.Test.YtogonkoeginoaaaGreatDoorApp
namespace Go.Proofs.YtogonkoeginoaaaGreatDoor
open Go.RowKit

theorem get_two (o : List UInt8) (h : 2 ≤ o.length) (w : World) : Calls Tryz.prog 88 #[.string (bs (o.take 2))] w fun e w' => e = .returned (.tuple #[.int .u64 (sizeAt o : Int), .int .i64 0]) ∧ w = w' := by
  have hsz : (bs (o.take 2)).size = 2 := by rw [bs_size, List.length_take]; omega
  have h := get_any (bs (o.take 2)) w (by rw [hsz]; decide)
  have hok : getOk (bs (o.take 2)) = true := by unfold getOk; rw [hsz]; rfl
  unfold getV getE at h
  rw [hok] at h
  exact h

theorem str_beq (a b : List UInt8) : ((bs a).toList == (bs b).toList) = decide (a = b) := by
  rw [ByteArray.toList_eq, ByteArray.toList_eq, bs_data, bs_data]
  rw [Bool.eq_iff_iff, beq_iff_eq, decide_eq_true_iff]

theorem bodyOf_one (o : List UInt8) : bodyOf o 1 = o.take 60 := by simp [bodyOf]
theorem bodyOf_succ (o : List UInt8) (k : Nat) : bodyOf o (k + 1) = bodyOf o k ++ (o.drop (64 * k)).take 60 := by simp [bodyOf, List.range_succ]
theorem sizeAt_lt (o : List UInt8) : sizeAt o < 65536 := by
  unfold sizeAt
  have h := val_lt (o.take 2)
  have h2 : (256 : Nat) ^ (o.take 2).length ≤ 256 ^ 2 := Nat.pow_le_pow_right (by decide) (by rw [List.length_take]; omega)
  have h3 : (256 : Nat) ^ 2 = 65536 := by decide
  omega
theorem bs_slice (l : List UInt8) (a b : Nat) : (bs l).extract a b = bs ((l.drop a).take (b - a)) := by
  have e : ((bs l).extract a b).data.toList = (l.drop a).take (b - a) := by
    simp only [bs, ByteArray.data_extract, Array.toList_extract, List.extract_eq_take_drop]
  rw [← e]; rfl

/-- What begin answers. -/
def beginAns (o : List UInt8) (sr : Nat) : Value := if beginOk o sr then .tuple #[.string (bs (recAt o)), .int .i64 (kOf (sizeAt o) : Int), .bool true] else .tuple #[.string ⟨#[]⟩, .int .i64 0, .bool false]

theorem begin_cases (o : List UInt8) (sr : Nat) : (o.length < 64 ∧ beginOk o sr = false) ∨ (64 ≤ o.length ∧ 16777215 < sr ∧ beginOk o sr = false) ∨ (64 ≤ o.length ∧ sr ≤ 16777215 ∧ 4000 < sizeAt o ∧ beginOk o sr = false) ∨
    (64 ≤ o.length ∧ sr ≤ 16777215 ∧ sizeAt o ≤ 4000 ∧ o.length < kOf (sizeAt o) * 64 ∧ beginOk o sr = false) ∨ (64 ≤ o.length ∧ sr ≤ 16777215 ∧ sizeAt o ≤ 4000 ∧ kOf (sizeAt o) * 64 ≤ o.length ∧ beginOk o sr = decide (lay (recAt o) sr = o.take (kOf (sizeAt o) * 64))) := by
  have key : ¬ (64 ≤ o.length ∧ sr ≤ 16777215 ∧ sizeAt o ≤ 4000 ∧ kOf (sizeAt o) * 64 ≤ o.length) → beginOk o sr = false := fun h => by
    unfold beginOk
    rw [decide_eq_false h, Bool.false_and]
  by_cases h1 : 64 ≤ o.length
  · by_cases h2 : sr ≤ 16777215
    · by_cases h3 : sizeAt o ≤ 4000
      · by_cases h4 : kOf (sizeAt o) * 64 ≤ o.length
        · right; right; right; right
          refine ⟨h1, h2, h3, h4, ?_⟩
          unfold beginOk
          rw [decide_eq_true (show 64 ≤ o.length ∧ sr ≤ 16777215 ∧ sizeAt o ≤ 4000 ∧ kOf (sizeAt o) * 64 ≤ o.length from ⟨h1, h2, h3, h4⟩), Bool.true_and]
        · right; right; right; left
          exact ⟨h1, h2, h3, by omega, key (by omega)⟩
      · right; right; left
        exact ⟨h1, h2, by omega, key (by omega)⟩
    · right; left
      exact ⟨h1, by omega, key (by omega)⟩
  · left
    exact ⟨by omega, key (by omega)⟩

set_option maxRecDepth 100000 in
set_option maxHeartbeats 6400000 in
theorem begin_any (o : List UInt8) (sr : Nat) (w : World) (hl : o.length ≤ 400000) (hsr : sr ≤ 16777216) :
    Calls Tryz.prog 65 #[.string (bs o), .int .i64 (sr : Int)] w fun e w' => e = .returned (beginAns o sr) ∧ Below w.heap.size w w' := by
  have hcases := begin_cases o sr
  have HG : 64 ≤ o.length → Hid (∀ w, Calls Tryz.prog 88 #[.string (bs (o.take 2))] w fun e w' => e = .returned (.tuple #[.int .u64 (sizeAt o : Int), .int .i64 0]) ∧ w = w') := fun h => hide (fun w => get_two o (by omega) w)
  have hx2 := (bs_take o 2).symm
  have hst := sizeAt_lt o
  have hsz : (bs o).size = o.length := bs_size o
  obtain ⟨n, hn⟩ : ∃ n, sizeAt o = n := ⟨_, rfl⟩
  have HC := hide (fun w => lcells_any (n : Int) w (by omega))
  have hcs : cellsOf (n : Int) = if 4000 < n then 0 else (kOf n : Int) := by
    unfold cellsOf
    by_cases h : 4000 < n
    · rw [if_pos h, if_pos (by omega)]
    · rw [if_neg h, if_neg (by omega), Int.toNat_natCast]
  obtain ⟨y2, hy2⟩ : ∃ z, bs (o.take 2) = z := ⟨_, rfl⟩
  obtain ⟨ov, hov⟩ : ∃ z, bs o = z := ⟨_, rfl⟩
  rw [hy2] at hx2 HG
  rw [hov] at hx2 hsz ⊢
  rw [hn] at hcases HG hst
  have HOV := hide hov
  have HN := hide hn
  clear hy2 hov hn
  rcases hcases with ⟨h1, hb⟩ | ⟨h1, h2, hb⟩ | ⟨h1, h2, h3, hb⟩ | ⟨h1, h2, h3, h4, hb⟩ | ⟨h1, h2, h3, h4, hb⟩
  · have HA := hide (show beginAns o sr = .tuple #[.string ⟨#[]⟩, .int .i64 0, .bool false] by unfold beginAns; rw [hb]; rfl)
    have hlt : (ov.size : Int) < 64 := by omega
    clear hb HG hcs HC hx2 hl h1 hsz
    go_enter Tryz.func65, Tryz.ntmps65
    go_wp2_with fail
    go_ret3
    rw [HA.out]
    exact ⟨rfl, Below.refl _ _⟩
  · have HA := hide (show beginAns o sr = .tuple #[.string ⟨#[]⟩, .int .i64 0, .bool false] by unfold beginAns; rw [hb]; rfl)
    have hge : (64 : Int) ≤ (ov.size : Int) := by omega
    have h2' : (16777215 : Int) < (sr : Int) := by omega
    clear hb HG hcs HC hx2 hl h1 hsz
    go_enter Tryz.func65, Tryz.ntmps65
    go_wp2_with fail
    go_ret3
    rw [HA.out]
    exact ⟨rfl, Below.refl _ _⟩
  · have HA := hide (show beginAns o sr = .tuple #[.string ⟨#[]⟩, .int .i64 0, .bool false] by unfold beginAns; rw [hb]; rfl)
    have hge : (64 : Int) ≤ (ov.size : Int) := by omega
    have h2' : (sr : Int) ≤ 16777215 := by omega
    rw [if_pos h3] at hcs
    rw [hcs] at HC
    have HG2 := HG h1
    clear hb HG hcs hl h1 hsz h2
    go_enter Tryz.func65, Tryz.ntmps65
    go_wp2_with fail
    refine (HG2.out _).mono ?_
    rintro e w1 ⟨rfl, rfl⟩
    go_wp2_with fail
    refine (HC.out _).mono ?_
    rintro e w2 ⟨rfl, rfl⟩
    go_wp2_with fail
    go_ret3
    rw [HA.out]
    exact ⟨rfl, Below.refl _ _⟩
  · have HA := hide (show beginAns o sr = .tuple #[.string ⟨#[]⟩, .int .i64 0, .bool false] by unfold beginAns; rw [hb]; rfl)
    have hge : (64 : Int) ≤ (ov.size : Int) := by omega
    have h2' : (sr : Int) ≤ 16777215 := by omega
    rw [if_neg (by omega)] at hcs
    rw [hcs] at HC
    have HG2 := HG h1
    have hk1 := kOf_pos n
    have hk2 := kOf_max h3
    obtain ⟨kk, hkk⟩ : ∃ kk, kOf n = kk := ⟨_, rfl⟩
    rw [hkk] at HC hk1 hk2 h4
    have hlt : (ov.size : Int) < (kk : Int) * 64 := by omega
    have hkz : ((kk : Int) == 0) = false := by rw [beq_eq_false_iff_ne]; omega
    clear hb HG hcs hl h1 hsz h2 hkk h4
    go_enter Tryz.func65, Tryz.ntmps65
    go_wp2_with fail
    refine (HG2.out _).mono ?_
    rintro e w1 ⟨rfl, rfl⟩
    go_wp2_with fail
    refine (HC.out _).mono ?_
    rintro e w2 ⟨rfl, rfl⟩
    go_wp2_with fail
    go_ret3
    rw [HA.out]
    exact ⟨rfl, Below.refl _ _⟩
  · have hge : (64 : Int) ≤ (ov.size : Int) := by omega
    have h2' : (sr : Int) ≤ 16777215 := by omega
    rw [if_neg (by omega)] at hcs
    rw [hcs] at HC
    have HG2 := HG h1
    have hk1 := kOf_pos n
    have hk2 := kOf_max h3
    have hra : recAt o = ((bodyOf o (kOf n)).drop 2).take n := by unfold recAt; rw [HN.out]
    have hbl := bodyOf_length o (kOf n) h4
    have hkb := kOf_bound n
    have hrl : (recAt o).length = n := by rw [hra, List.length_take, List.length_drop]; omega
    have HLY := hide (fun w => lay_any (recAt o) sr w (by omega) h2)
    have hx4 := (bs_take o (kOf n * 64)).symm
    have HA := hide (show beginAns o sr = if decide (lay (recAt o) sr = o.take (kOf n * 64)) = true then .tuple #[.string (bs (recAt o)), .int .i64 (kOf n : Int), .bool true] else .tuple #[.string ⟨#[]⟩, .int .i64 0, .bool false] by unfold beginAns; rw [hb, HN.out])
    obtain ⟨q, hq⟩ : ∃ q, decide (lay (recAt o) sr = o.take (kOf n * 64)) = q := ⟨_, rfl⟩
    have hqe : ((bs (lay (recAt o) sr)).toList == (bs (o.take (kOf n * 64))).toList) = q := by rw [← hq]; exact str_beq _ _
    rw [hq] at HA
    have hx5 : (bs ((bodyOf o (kOf n)).drop 2)).extract 0 n = bs (recAt o) := by rw [← bs_take, ← hra]
    have hx1 : ov.extract 2 60 = bs ((bodyOf o 1).drop 2) := by
      rw [← HOV.out, bs_slice, bodyOf_one, List.drop_take]
    obtain ⟨l2, hl2⟩ : ∃ z, bs (o.take (kOf n * 64)) = z := ⟨_, rfl⟩
    obtain ⟨l1, hl1⟩ : ∃ z, bs (lay (recAt o) sr) = z := ⟨_, rfl⟩
    obtain ⟨rv, hrv⟩ : ∃ z, bs (recAt o) = z := ⟨_, rfl⟩
    rw [hl2, hl1] at hqe
    rw [hl1, hrv] at HLY
    rw [hrv] at hx5 HA
    rw [hl2, HOV.out] at hx4
    obtain ⟨kk, hkk⟩ : ∃ kk, kOf n = kk := ⟨_, rfl⟩
    rw [hkk] at HC hk1 hk2 h4 HA hx4 hx5 hbl hkb
    have hge2 : (kk : Int) * 64 ≤ (ov.size : Int) := by omega
    have hkz : ((kk : Int) == 0) = false := by rw [beq_eq_false_iff_ne]; omega
    have hov : ov.size ≤ 400000 := by omega
    have HX5 := hide hx5
    have HBL := hide hbl
    have HH4 := hide (show kk * 64 ≤ o.length from h4)
    have hnz : ((n : Int) : Int) ≤ 4000 := by omega
    clear hb HG hcs hl h1 h2 hkk h4 hq hl1 hl2 hrv hra hrl hx5 hbl
    have hA2 : (q = true ∧ beginAns o sr = .tuple #[.string rv, .int .i64 (kk : Int), .bool true]) ∨ (q = false ∧ beginAns o sr = .tuple #[.string ⟨#[]⟩, .int .i64 0, .bool false]) := by
      have h := HA.out
      cases q with
      | true => exact .inl ⟨rfl, h⟩
      | false => exact .inr ⟨rfl, h⟩
    clear HA
    rcases hA2 with ⟨rfl, hA⟩ | ⟨rfl, hA⟩
    all_goals
      have HAA := hide hA
      clear hA
      have hbI : IsB w.heap.size w.heap.size [] (w.alloc (.cells #[.pointer none, .slice none 0 0] 70)) := .inl ⟨Nat.le_refl _, .slice none 0 0, World.alloc_heap_new w _, World.ownsRowF_nil _ _ _ _, by simp [Value.ownBlock]⟩
      obtain ⟨c1, hc1⟩ : ∃ z, bs ((bodyOf o 1).drop 2) = z := ⟨_, rfl⟩
      rw [hc1] at hx1
      have hc1l : c1.size ≤ 58 := by rw [← hc1, bs_size, bodyOf_one, List.length_drop, List.length_take]; omega
      have HC1 := hide hc1
      clear hc1
      go_enter Tryz.func65, Tryz.ntmps65
      go_wp2_with fail
      refine (HG2.out _).mono ?_
      rintro e w1 ⟨rfl, rfl⟩
      go_wp2_with fail
      refine (HC.out _).mono ?_
      rintro e w2 ⟨rfl, rfl⟩
      go_wp2_with fail
      refine (Tryz.Builder_WriteString_k w.heap.size w.heap.size _ c1 _ hbI (by simp [Lib.byteCells]; omega) (by simp)).mono ?_
      rintro e w3 ⟨rfl, hb1, hb2, hb3⟩
      have hI3 : IsB w.heap.size w.heap.size ((bodyOf o 1).drop 2) w3 := .inr (by rw [← HC1.out] at hb1; simpa [Lib.byteCells, Lib.strCells, bs] using hb1)
      have hbw3 : Below w.heap.size w w3 := ((Below.refl _ _).alloc (Nat.le_refl _) _).trans hb2
      clear hb1 hb2 hb3 hbI
      go_wp2_with fail
      go_loopw [11] (fun i wr => ∃ k : Nat, 1 ≤ k ∧ k ≤ kk ∧ i = .int .i64 k ∧ IsB w.heap.size w.heap.size ((bodyOf o k).drop 2) wr ∧ Below w.heap.size w wr) (fun i _ => kk - (intOf i).toNat)
      case atStart => exact ⟨1, Nat.le_refl _, hk1, rfl, hI3, hbw3⟩
      case round =>
        obtain ⟨k, hk1', hkk', rfl, hI, hbw⟩ := hrel
        clear hI3 hbw3
        have hBw := hbw.size
        have hbl1 := bodyOf_length o k (by have := HH4.out; have := Nat.mul_le_mul_right 64 hkk'; omega)
        by_cases hlt : k < kk
        · have hxk : ov.extract (k * 64) (k * 64 + 60) = bs ((o.drop (64 * k)).take 60) := by
            rw [← HOV.out, bs_slice, Nat.mul_comm 64 k, Nat.add_sub_cancel_left]
          obtain ⟨ck, hck⟩ : ∃ z, bs ((o.drop (64 * k)).take 60) = z := ⟨_, rfl⟩
          rw [hck] at hxk
          have hckl : ck.size ≤ 60 := by rw [← hck, bs_size, List.length_take]; omega
          have hke : k * 64 + 60 ≤ ov.size := by have : (k + 1) * 64 ≤ kk * 64 := Nat.mul_le_mul_right 64 hlt; omega
          have hkei : (k : Int) * 64 + 60 ≤ (ov.size : Int) := by omega
          have hk67' : k ≤ 67 := by omega
          have HCK := hide hck
          have HB1 := hide hbl1
          clear hck hbl1
          go_wp2_with fail
          refine (Tryz.Builder_WriteString_k w.heap.size w.heap.size _ ck _ hI (by rw [Lib.byteCells_length, List.length_drop, HB1.out]; omega) hBw).mono ?_
          rintro e w4 ⟨rfl, hb1, hb2, hb3⟩
          have hI4 : IsB w.heap.size w.heap.size ((bodyOf o (k + 1)).drop 2) w4 := .inr (by
            rw [bodyOf_succ, List.drop_append_of_le_length (by rw [HB1.out]; omega), Lib.byteCells_append]
            rw [← HCK.out] at hb1
            exact hb1)
          have hbw4 := hbw.trans hb2
          clear hb1 hb2 hb3 hI
          go_wp2_with fail
          go_roundw
          case rel => exact ⟨k + 1, by omega, by omega, by go_num, hI4, hbw4⟩
          case measure => simp [intOf]; omega
        · obtain rfl : k = kk := by omega
          clear hbl1
          have hx5 := HX5.out
          have hbvs0 : n ≤ ((bodyOf o k).drop 2).length := by rw [List.length_drop, HBL.out]; omega
          obtain ⟨bv, hbv⟩ : ∃ z, bs ((bodyOf o k).drop 2) = z := ⟨_, rfl⟩
          have hbvs : n ≤ bv.size := by rw [← hbv, bs_size]; exact hbvs0
          have hbvm : bv.size ≤ 5000 := by rw [← hbv, bs_size, List.length_drop, HBL.out]; omega
          rw [hbv] at hx5
          have HS : Hid (Calls Tryz.prog 26 #[.pointer (some ⟨w.heap.size, 0, none⟩)] wr fun e w' => e = .returned (.string bv) ∧ Below w.heap.size wr w') := hide (by
            refine (Tryz.Builder_String_any_k w.heap.size w.heap.size ((bodyOf o k).drop 2) _ hI hBw).mono ?_
            rintro e w4 ⟨rfl, _, hb2, _⟩
            exact ⟨by rw [← hbv]; rfl, hb2⟩)
          have hni : (0 : Int) ≤ (n : Int) := by omega
          have hnb : (n : Int) ≤ (bv.size : Int) := by omega
          clear hbv hI hbvs0
          go_wp2_with fail
          refine HS.out.mono ?_
          rintro e w4 ⟨rfl, hb4⟩
          have hbw4 := hbw.trans hb4
          clear hb4
          go_wp2_with fail
          have hw1 : IntKind.i64.wrap ((k : Int) * 64) = (k : Int) * 64 := IntWalk.i64_in _ (by omega)
          have hw2 : ((k : Int) * 64).toNat = k * 64 := by omega
          have hw3 : (0 : Int) ≤ (k : Int) * 64 := by omega
          go_region_with (go_at_call 58; refine (HLY.out _).mono ?_; rintro e w5 ⟨rfl, hb5⟩)
          all_goals
            go_wp2_with fail
            go_ret3
            rw [HAA.out]
            exact ⟨rfl, chain hbw4 (below_undrew hb5)⟩

end Go.Proofs.YtogonkoeginoaaaGreatDoor
