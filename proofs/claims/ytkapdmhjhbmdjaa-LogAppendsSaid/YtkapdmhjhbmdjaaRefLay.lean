/-
  The document's Cells and Lay of layer 18: how many cells a record has, and what its cells are.
-/
import Derived.Test.YtkapdmhjhbmdjaaLogSmall
import Derived.Test.YtkapdmhjhbmdjaaNumRefG
namespace Go.Proofs.Ytkapdmhjhbmdjaa
open Go.RowKit

set_option maxRecDepth 100000 in
theorem refcells18_any (n : Int) (w : World) (hn : -9223372036854775808 ≤ n ∧ n < 9223372036854775808) : Calls Try.prog 45 #[.int .i64 n] w fun e w' => e = .returned (.int .i64 (cellsOf n)) ∧ w = w' := by
  by_cases h1 : n < 0
  · have H := hide (show cellsOf n = 0 from if_pos (.inl h1))
    go_enter Try.func45, Try.ntmps45
    go_wp2_with fail
    go_ret
    exact ⟨ret_i64 H.out.symm, rfl⟩
  · by_cases h2 : 4000 < n
    · have H := hide (show cellsOf n = 0 from if_pos (.inr h2))
      have h3 : 0 ≤ n := by omega
      clear h1
      go_enter Try.func45, Try.ntmps45
      go_wp2_with fail
      go_ret
      exact ⟨ret_i64 H.out.symm, rfl⟩
    · have H := hide (show cellsOf n = (kOf n.toNat : Int) from if_neg (by omega))
      obtain ⟨a, rfl⟩ := Int.eq_ofNat_of_zero_le (show 0 ≤ n by omega)
      have h4 : a ≤ 4000 := by omega
      have h5 : ¬ (4000 : Int) < (a : Int) := by omega
      clear h1 h2 hn
      rw [Int.toNat_natCast] at H
      go_enter Try.func45, Try.ntmps45
      go_wp2_with fail
      go_loop [3, 4] (fun k h => ∃ i : Nat, 58 + 60 * i < a + 60 ∧ k = .int .i64 ((i + 1 : Nat) : Int) ∧ h = .int .i64 ((58 + 60 * i : Nat) : Int)) (fun _ h => 4100 - (intOf h).toNat)
      case atStart => exact ⟨0, by omega, rfl, rfl⟩
      case round =>
        obtain ⟨i, hi, rfl, rfl⟩ := hrel
        by_cases hlt : 58 + 60 * i < a
        · go_wp2_with fail
          go_round
          case rel => exact ⟨i + 1, by omega, by go_num, by go_num⟩
          case measure => simp [intOf]; omega
        · have hk : Hid (cellsOf (a : Int) = ((i + 1 : Nat) : Int)) := hide (by rw [H.out]; unfold kOf; omega)
          go_wp2_with fail
          go_ret
          exact ⟨ret_i64 hk.out.symm, rfl⟩

theorem getD_take0 (l : List UInt8) (n j : Nat) (h : j < n) : (l.take n).getD j 0 = l.getD j 0 := by
  simp [List.getD_eq_getElem?_getD, h]
theorem getD_drop0 (l : List UInt8) (n j : Nat) : (l.drop n).getD j 0 = l.getD (n + j) 0 := by
  simp [List.getD_eq_getElem?_getD, List.getElem?_drop]
theorem getD_pad (l : List UInt8) (n j : Nat) : (l ++ List.replicate n 0).getD j 0 = l.getD j 0 := by
  simp only [List.getD_eq_getElem?_getD]
  by_cases h : j < l.length
  · rw [List.getElem?_append_left h]
  · rw [List.getElem?_append_right (by omega), List.getElem?_eq_none (l := l) (by omega), List.getElem?_replicate]
    split <;> rfl
theorem piece_getD (s : List UInt8) (i j : Nat) (hj : j < 60) : (piece s i).getD j 0 = (recAll s).getD (60 * i + j) 0 := by
  unfold piece pad60
  rw [getD_pad, getD_take0 _ _ _ hj, getD_drop0]
theorem piece_take (s : List UInt8) (i j : Nat) (hj : j < 60) : (piece s i).take (j + 1) = (piece s i).take j ++ [(recAll s).getD (60 * i + j) 0] := by
  have hl := piece_length s i
  rw [List.take_succ_eq_append_getElem (by omega), ← piece_getD s i j hj]
  congr 1
  rw [List.getD_eq_getElem?_getD, List.getElem?_eq_getElem (by omega)]
  rfl
/-- The cells of a record up to the i-th. -/
def laysTo (s : List UInt8) (sr i : Nat) : List UInt8 := ((List.range i).map (cellAt s sr)).flatten
theorem laysTo_succ (s : List UInt8) (sr i : Nat) : laysTo s sr (i + 1) = laysTo s sr i ++ cellAt s sr i := by
  simp [laysTo, List.range_succ]
theorem laysTo_length (s : List UInt8) (sr i : Nat) : (laysTo s sr i).length = 64 * i := by
  induction i with
  | zero => rfl
  | succ i ih => rw [laysTo_succ, List.length_append, ih, cellAt_length]; omega
theorem laysTo_all (s : List UInt8) (sr : Nat) : laysTo s sr (kOf s.length) = lay s sr := rfl

theorem bs_extract1 (l : List UInt8) (k : Nat) (h : k < l.length) : (bs l).extract k (k + 1) = bs [l.getD k 0] := by
  apply ByteArray.ext
  apply Array.ext'
  rw [ByteArray.data_extract, Array.toList_extract]
  show ((bs l).data.toList.drop k).take (k + 1 - k) = [l.getD k 0]
  have e : (bs l).data.toList = l := rfl
  rw [e, show k + 1 - k = 1 by omega, List.drop_eq_getElem_cons h, List.take_succ_cons, List.take_zero, List.getD_eq_getElem?_getD, List.getElem?_eq_getElem h]
  rfl
theorem putS_mark (sr : Nat) (h : sr ≤ 16777215) : putS sr 3 = bs (octs 3 sr) := by
  have h1 : putOk sr 3 = true := by simp [putOk]; omega
  simp [putS, h1]
theorem putS_size (n : Nat) (h : n ≤ 4000) : putS n 2 = bs (octs 2 n) := by
  have h1 : putOk n 2 = true := by simp [putOk]; omega
  simp [putS, h1]

set_option maxRecDepth 100000 in
set_option maxHeartbeats 3200000 in
theorem reflay_any (s : List UInt8) (sr : Nat) (w : World) (hs : s.length ≤ 4000) (hsr : sr ≤ 16777215) : Calls Try.prog 51 #[.int .i64 (sr : Int), .string (bs s)] w fun e w' => e = .returned (.string (bs (lay s sr))) ∧ Below w.heap.size w w' := by
  have HP1 : Hid (∀ w, Calls Try.prog 82 #[.int .u64 (s.length : Int), .int .i64 2] w fun e w' => e = .returned (.tuple #[.string (bs (octs 2 s.length)), .bool (putOk s.length 2)]) ∧ Below w.heap.size w w') := hide (fun w => by
    have h := refput_any (s.length : Int) 2 w (by omega) (by omega)
    rw [Int.toNat_natCast, putS_size _ hs] at h
    exact h)
  have HP2 : Hid (∀ w, Calls Try.prog 82 #[.int .u64 (sr : Int), .int .i64 3] w fun e w' => e = .returned (.tuple #[.string (bs (octs 3 sr)), .bool (putOk sr 3)]) ∧ Below w.heap.size w w') := hide (fun w => by
    have h := refput_any (sr : Int) 3 w (by omega) (by omega)
    rw [Int.toNat_natCast, putS_mark _ hsr] at h
    exact h)
  have HCL : Hid (∀ w, Calls Try.prog 45 #[.int .i64 (s.length : Int)] w fun e w' => e = .returned (.int .i64 ((kOf s.length : Nat) : Int)) ∧ w = w') := hide (fun w => by
    have h := refcells18_any (s.length : Int) w (by omega)
    have e : cellsOf (s.length : Int) = ((kOf s.length : Nat) : Int) := if_neg (by omega)
    rw [e] at h
    exact h)
  have hsz : (bs s).size = s.length := bs_size s
  have hk := kOf_max hs
  have hra := recAll_length s
  obtain ⟨k0, hk0⟩ : ∃ k, kOf s.length = k := ⟨_, rfl⟩
  have HK := hide hk0
  rw [hk0] at HCL hk
  obtain ⟨sl, hsl⟩ : ∃ k, s.length = k := ⟨_, rfl⟩
  rw [hsl] at HP1 HCL hsz hs hra
  have HSL := hide hsl
  obtain ⟨sv, hsv⟩ : ∃ z, bs s = z := ⟨_, rfl⟩
  rw [hsv] at hsz ⊢
  have HSV := hide hsv
  clear hk0 hsl hsv
  obtain ⟨zv, hzv⟩ : ∃ z, bs (octs 2 sl) = z := ⟨_, rfl⟩
  have hzs : zv.size = 2 := by rw [← hzv, bs_size, octs_length]
  rw [hzv] at HP1
  have HZV := hide hzv
  obtain ⟨mv, hmv⟩ : ∃ z, bs (octs 3 sr) = z := ⟨_, rfl⟩
  have hms : mv.size = 3 := by rw [← hmv, bs_size, octs_length]
  rw [hmv] at HP2
  have HMV := hide hmv
  obtain ⟨al, hal⟩ : ∃ z, recAll s = z := ⟨_, rfl⟩
  rw [hal] at hra
  have HAL := hide hal
  have HAV : Hid (zv ++ sv = bs al) := hide (by rw [← HSV.out, ← HZV.out, bs_append, ← HAL.out, ← HSL.out]; rfl)
  obtain ⟨av, hav2⟩ : ∃ z, zv ++ sv = z := ⟨_, rfl⟩
  have hasz : av.size = sl + 2 := by rw [← hav2, HAV.out, bs_size, hra]
  rw [hav2] at HAV
  have HA2 := hide hav2
  clear hal hmv hzv hav2
  go_enter Try.func51, Try.ntmps51
  go_wp2_with fail
  refine (HP1.out _).mono ?_
  rintro e w1 ⟨rfl, hb1⟩
  go_wp2_with fail
  refine (HP2.out _).mono ?_
  rintro e w2 ⟨rfl, hb2⟩
  have hbw := chain hb1 hb2
  clear hb1 hb2
  go_upto_block 0 with fail
  rw [HA2.out]
  go_wp2_with fail
  obtain ⟨wo, rfl⟩ : ∃ wo : World, wo = w2 := ⟨_, rfl⟩
  go_loop [10, 11] (fun s10 s11 => ∃ (i : Nat) (t : ByteArray), i ≤ k0 ∧ s11 = .int .i64 (i : Int) ∧ s10 = .string t ∧ Hid (t = bs (laysTo s sr i)) ∧ t.size = 64 * i) (fun _ s11 => k0 - (intOf s11).toNat)
  case atStart => exact ⟨0, _, Nat.zero_le _, rfl, rfl, hide rfl, rfl⟩
  case round =>
    obtain ⟨i, t, hi, rfl, rfl, ht, hts⟩ := hrel
    by_cases hik : i < k0
    · have hneL : (i : Int) < (k0 : Int) := by omega
      have HT := hide hts
      go_wp2_with fail
      refine (HCL.out _).mono ?_
      rintro e w3 ⟨rfl, rfl⟩
      go_wp2_with fail
      go_loop [10, 12] (fun s10 s12 => ∃ (j : Nat) (t : ByteArray), j ≤ 60 ∧ s12 = .int .i64 ((60 * i + j : Nat) : Int) ∧ s10 = .string t ∧ Hid (t = bs (laysTo s sr i ++ (piece s i).take j)) ∧ t.size = 64 * i + j) (fun _ s12 => 60 * i + 60 - (intOf s12).toNat)
      case atStart => exact ⟨0, t, by omega, by go_num, rfl, hide (by rw [ht.out]; simp), by omega⟩
      case round =>
        obtain ⟨j, t2, hj, rfl, rfl, ht2, hts2⟩ := hrel
        by_cases hjk : j < 60
        · have hstep := piece_take s i j hjk
          by_cases hin : 60 * i + j < sl + 2
          · have hex : Hid (av.extract (60 * i + j) (60 * i + j + 1) = bs [(recAll s).getD (60 * i + j) 0]) := hide (by
              rw [HAV.out, HAL.out, bs_extract1 al (60 * i + j) (by omega)])
            have hes : (av.extract (60 * i + j) (60 * i + j + 1)).size = 1 := by rw [hex.out]; rfl
            have HST := hide hstep
            clear hstep
            go_wp2_with fail
            go_round
            case rel => exact ⟨j + 1, _, by omega, by first | (congr 1; done) | (congr 1; push_cast; omega), rfl, hide (by rw [ht2.out, hex.out, bs_append, HST.out, List.append_assoc]), by rw [ByteArray.size_append, hes]; omega⟩
            case measure => simp [intOf]; omega
          · have h0 : (recAll s).getD (60 * i + j) 0 = 0 := by
              rw [HAL.out, List.getD_eq_getElem?_getD, List.getElem?_eq_none (by omega)]
              rfl
            rw [h0] at hstep
            have HST := hide hstep
            have hbz : Hid ((⟨#[0]⟩ : ByteArray) = bs [0]) := hide rfl
            clear hstep h0
            go_wp2_with fail
            go_round
            case rel => exact ⟨j + 1, _, by omega, by first | (congr 1; done) | (congr 1; push_cast; omega), rfl, hide (by rw [ht2.out, hbz.out, bs_append, HST.out, List.append_assoc]), by rw [ByteArray.size_append, hts2]; rfl⟩
            case measure => simp [intOf]; omega
        · obtain rfl : j = 60 := by omega
          have hfull : Hid (t2 = bs (laysTo s sr i ++ piece s i)) := hide (by rw [ht2.out, List.take_of_length_le (by rw [piece_length]; omega)])
          have hls := hide (laysTo_succ s sr i)
          by_cases hi0 : i = 0
          · have hz : ((i : Int) == 0) = true := by rw [beq_iff_eq]; omega
            have hkd : Hid ((⟨#[1]⟩ : ByteArray) = bs [kind i]) := hide (by rw [hi0]; rfl)
            clear ht2
            go_wp2_with fail
            go_round
            case rel => exact ⟨i + 1, _, by omega, by go_num, rfl, hide (by rw [hfull.out, ← HMV.out, hkd.out, bs_append, bs_append, hls.out, cellAt, List.append_assoc, List.append_assoc, List.append_assoc]), by rw [ByteArray.size_append, ByteArray.size_append, hts2, hms]; show 64 * i + 60 + 3 + 1 = _; omega⟩
            case measure => simp [intOf]; omega
          · have hz : ((i : Int) == 0) = false := by rw [beq_eq_false_iff_ne]; omega
            have hkd : Hid ((⟨#[2]⟩ : ByteArray) = bs [kind i]) := hide (by unfold kind; rw [if_neg hi0]; rfl)
            clear ht2
            go_wp2_with fail
            go_round
            case rel => exact ⟨i + 1, _, by omega, by go_num, rfl, hide (by rw [hfull.out, ← HMV.out, hkd.out, bs_append, bs_append, hls.out, cellAt, List.append_assoc, List.append_assoc, List.append_assoc]), by rw [ByteArray.size_append, ByteArray.size_append, hts2, hms]; show 64 * i + 60 + 3 + 1 = _; omega⟩
            case measure => simp [intOf]; omega
    · obtain rfl : i = k0 := by omega
      go_wp2_with fail
      refine (HCL.out _).mono ?_
      rintro e w3 ⟨rfl, rfl⟩
      go_wp2_with fail
      go_ret
      have hfin : t = bs (lay s sr) := by rw [ht.out, ← laysTo_all, HK.out]
      exact ⟨by rw [← hfin]; rfl, hbw⟩

end Go.Proofs.Ytkapdmhjhbmdjaa
