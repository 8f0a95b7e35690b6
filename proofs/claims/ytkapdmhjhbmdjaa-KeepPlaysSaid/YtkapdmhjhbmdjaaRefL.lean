/-
  The walks through the reference's Put, Get. The document's Cells and Lay of layer 18: how many cells a record has, and what its cells are. The document's Scan: what a tape has.
-/
import Derived.Test.YtkapdmhjhbmdjaaNumGet
import Derived.Test.YtkapdmhjhbmdjaaLogSmall
import Derived.Test.YtkapdmhjhbmdjaaLogScan
import Derived.Test.YtkapdmhjhbmdjaaLogMay
import Derived.Test.YtkapdmhjhbmdjaaRefRead
namespace Go.Proofs.Ytkapdmhjhbmdjaa
open Go.RowKit

set_option maxRecDepth 100000 in
set_option maxHeartbeats 800000 in
theorem refput_run (m wide : Nat) (w : World) (h1 : 1 ≤ wide) (h8 : wide ≤ 8) (hm : m < 18446744073709551616) :
    Calls Try.prog 82 #[.int .u64 (m : Int), .int .i64 (wide : Int)] w fun e w' => e = .returned (.tuple #[.string (putS m wide), .bool (putOk m wide)]) ∧ Below w.heap.size w w' := by
  have hcv := fun (x : Int) (c : UInt8) (hx : x = (c.toNat : Int)) (w : World) => conv_new (P := Try.prog) (src := 57) (dst := 9) Try.underlying57 Try.underlying5 Try.underlying9 x c hx w
  have HCV := hide hcv
  clear hcv
  go_enter Try.func82, Try.ntmps82
  go_wp2
  go_loopw [0, 6, 7] (fun n t i wr => ∃ (k q : Nat) (s : ByteArray), k ≤ wide ∧ s.size ≤ k ∧ q < 18446744073709551616 ∧ Hid (m / 256 ^ k = q) ∧ Hid (s = bs (octs k m)) ∧ i = .int .i64 k ∧ n = .int .u64 (q : Int) ∧ t = .string s ∧ Below w.heap.size w wr)
    (fun _ _ i _ => wide - (intOf i).toNat)
  case atStart => exact ⟨0, m, ⟨#[]⟩, Nat.zero_le _, Nat.le_refl _, hm, hide (by simp), hide rfl, rfl, rfl, rfl, Below.refl _ _⟩
  case round =>
    obtain ⟨k, q, s, hk, hsz, hql, HQ, HS, rfl, rfl, rfl, hbr⟩ := hrel
    by_cases hlt : k < wide
    · have hcv := HCV.out ((q : Int) % 256) (UInt8.ofNat q) (by simp)
      have hs1 : (bs [UInt8.ofNat q]).size = 1 := rfl
      obtain ⟨b1, hb1⟩ : ∃ b1, bs [UInt8.ofNat q] = b1 := ⟨_, rfl⟩
      rw [hb1] at hs1 hcv
      have HB := hide hb1
      clear hb1
      have hs1' : b1.size ≤ 1 := by omega
      clear hs1
      go_wp2
      go_roundw
      case rel =>
        refine ⟨k + 1, q / 256, _, by omega, ?_, by omega, hide ?_, hide ?_, by go_num, rfl, rfl, hbr.alloc hbr.size _⟩
        · rw [ByteArray.size_append]; omega
        · rw [Nat.pow_succ, ← Nat.div_div_eq_div_mul, HQ.out]
        · rw [← HB.out, HS.out, bs_append, octs, HQ.out]; rfl
      case measure => simp [intOf]; omega
    · obtain rfl : k = wide := by omega
      have hpos : 0 < 256 ^ k := Nat.pow_pos (by decide)
      by_cases hz : q = 0
      · have hlt' : m < 256 ^ k := by
          rcases Nat.div_eq_zero_iff.1 (HQ.out.trans hz) with h | h
          · omega
          · exact h
        have H3 : Hid (putOk m k = true) := hide (by simp [putOk]; omega)
        subst hz
        clear hlt' hpos
        go_wp2
        go_ret2
        refine ⟨?_, hbr⟩
        simp [putS, H3.out, HS.out]
      · have hlt' : ¬ m < 256 ^ k := fun h => hz (by rw [← HQ.out]; exact Nat.div_eq_of_lt h)
        have H3 : Hid (putOk m k = false) := hide (by simp [putOk]; intro _ _; omega)
        have hb0 : 0 < (q : Int) := by omega
        clear hz hlt' hpos
        go_wp2
        go_ret2
        refine ⟨?_, hbr⟩
        simp [putS, H3.out]
        rfl

/-- The reference's Put. -/
theorem refput_any (n wide : Int) (w : World) (h0 : 0 ≤ n) (hn : n < 18446744073709551616) :
    Calls Try.prog 82 #[.int .u64 n, .int .i64 wide] w fun e w' => e = .returned (.tuple #[.string (putS n.toNat wide), .bool (putOk n.toNat wide)]) ∧ Below w.heap.size w w' := by
  by_cases hw : wide < 1 ∨ 8 < wide
  · have hok : putOk n.toNat wide = false := by simp [putOk]; omega
    have H : Hid (putS n.toNat wide = ByteArray.empty ∧ putOk n.toNat wide = false) := hide ⟨by simp [putS, hok], hok⟩
    clear hok
    rcases hw with hw | hw
    · go_enter Try.func82, Try.ntmps82
      go_wp2
      go_ret2
      rw [H.out.1, H.out.2]
      exact ⟨rfl, Below.refl _ _⟩
    · go_enter Try.func82, Try.ntmps82
      go_wp2
      go_ret2
      rw [H.out.1, H.out.2]
      exact ⟨rfl, Below.refl _ _⟩
  · obtain ⟨m, rfl⟩ := Int.eq_ofNat_of_zero_le h0
    obtain ⟨k, rfl⟩ := Int.eq_ofNat_of_zero_le (show 0 ≤ wide by omega)
    rw [Int.toNat_natCast]
    exact refput_run m k w (by omega) (by omega) (by omega)

theorem refget_val (s : ByteArray) (h : s.size ≤ 8) : val s.data.toList % 18446744073709551616 = val s.data.toList := by
  refine Nat.mod_eq_of_lt ?_
  have h1 := val_lt s.data.toList
  have h2 : (256 : Nat) ^ s.data.toList.length ≤ 256 ^ 8 := Nat.pow_le_pow_right (by decide) (by simpa using h)
  have h3 : (256 : Nat) ^ 8 = 18446744073709551616 := by decide
  omega

set_option maxRecDepth 100000 in
set_option maxHeartbeats 800000 in
/-- The reference's Get. -/
theorem refget_any (s : ByteArray) (w : World) (hsz : s.size ≤ maxLen) :
    Calls Try.prog 104 #[.string s] w fun e w' => e = .returned (.tuple #[.int .u64 (getV s), .bool (getOk s)]) ∧ w = w' := by
  unfold maxLen at hsz
  go_enter Try.func104, Try.ntmps104
  go_wp2
  go_loop [4, 5] (fun n i => ∃ k a : Nat, k ≤ s.size ∧ Hid (a = val (s.data.toList.take k) % 18446744073709551616) ∧ a < 18446744073709551616 ∧ i = .int .i64 k ∧ n = .int .u64 (a : Int)) (fun _ i => s.size - (intOf i).toNat)
  case atStart => exact ⟨0, 0, Nat.zero_le _, hide rfl, by omega, rfl, rfl⟩
  case round =>
    obtain ⟨k, a, hk, ha, hal, rfl, rfl⟩ := hrel
    by_cases hlt : k < s.size
    · have hst := hide (get_step s k hlt)
      obtain ⟨b, hb⟩ : ∃ b : Nat, IntKind.u64.wrap (IntKind.u64.wrap (256 * (a : Int)) + IntKind.u64.wrap (s[k].toNat : Int)) = (b : Int) ∧ b = (256 * a + s[k].toNat) % 18446744073709551616 := by
        refine ⟨_, ?_, rfl⟩
        simp only [IntKind.wrap_u64]
        omega
      have HB := hide hb
      clear hb
      go_wp2
      go_round
      case rel =>
        refine ⟨k + 1, b, by omega, hide ?_, by have := HB.out.2; omega, by go_num, by rw [HB.out.1]⟩
        have e1 := HB.out.2
        have e2 := hst.out
        have e3 := ha.out
        omega
      case measure => simp [intOf]; omega
    · have hks : k = s.data.toList.length := by simpa using Nat.le_antisymm hk (by omega)
      have e := ha.out
      rw [hks, List.take_length] at e
      have HE := hide e
      clear e hks ha
      by_cases h0 : s.size = 0
      · have H : Hid (getV s = 0 ∧ getOk s = false) := hide (by simp [getV, getOk, h0])
        have ht := toList_empty h0
        clear h0
        go_wp2
        go_ret2
        rw [H.out.1, H.out.2]
        exact ⟨rfl, rfl⟩
      · have ht := toList_some (s := s) (by omega)
        by_cases h8 : 8 < s.size
        · have H : Hid (getV s = 0 ∧ getOk s = false) := hide (by
            have : getOk s = false := by simp [getOk]; omega
            simp [getV, this])
          clear h0
          go_wp2
          go_ret2
          rw [H.out.1, H.out.2]
          exact ⟨rfl, rfl⟩
        · have H : Hid (getV s = a ∧ getOk s = true) := hide (by
            have : getOk s = true := by simp [getOk]; omega
            rw [HE.out, refget_val s (by omega)]
            simp [getV, this])
          clear h0
          go_wp2
          go_ret2
          rw [H.out.1, H.out.2]
          exact ⟨rfl, rfl⟩

end Go.Proofs.Ytkapdmhjhbmdjaa

namespace Go.Proofs.Ytkapdmhjhbmdjaa
open Go.RowKit

set_option maxRecDepth 100000 in
theorem refcells18_any (n : Int) (w : World) (hn : -9223372036854775808 ≤ n ∧ n < 9223372036854775808) : Calls Try.prog 45 #[.int .i64 n] w fun e w' => e = .returned (.int .i64 (cellsOf n)) ∧ w = w' := by
  by_cases h1 : n < 0
  · have H := hide (show cellsOf n = 0 from if_pos (.inl h1))
    go_enter Try.func45, Try.ntmps45
    go_wp2_with fail
    go_ret
    exact ⟨ret_i64 H.out.symm, rfl⟩
  · by_cases h2 : 4000 < n
    · have H := hide (show cellsOf n = 0 from if_pos (.inr h2))
      have h3 : 0 ≤ n := by omega
      clear h1
      go_enter Try.func45, Try.ntmps45
      go_wp2_with fail
      go_ret
      exact ⟨ret_i64 H.out.symm, rfl⟩
    · have H := hide (show cellsOf n = (kOf n.toNat : Int) from if_neg (by omega))
      obtain ⟨a, rfl⟩ := Int.eq_ofNat_of_zero_le (show 0 ≤ n by omega)
      have h4 : a ≤ 4000 := by omega
      have h5 : ¬ (4000 : Int) < (a : Int) := by omega
      clear h1 h2 hn
      rw [Int.toNat_natCast] at H
      go_enter Try.func45, Try.ntmps45
      go_wp2_with fail
      go_loop [3, 4] (fun k h => ∃ i : Nat, 58 + 60 * i < a + 60 ∧ k = .int .i64 ((i + 1 : Nat) : Int) ∧ h = .int .i64 ((58 + 60 * i : Nat) : Int)) (fun _ h => 4100 - (intOf h).toNat)
      case atStart => exact ⟨0, by omega, rfl, rfl⟩
      case round =>
        obtain ⟨i, hi, rfl, rfl⟩ := hrel
        by_cases hlt : 58 + 60 * i < a
        · go_wp2_with fail
          go_round
          case rel => exact ⟨i + 1, by omega, by go_num, by go_num⟩
          case measure => simp [intOf]; omega
        · have hk : Hid (cellsOf (a : Int) = ((i + 1 : Nat) : Int)) := hide (by rw [H.out]; unfold kOf; omega)
          go_wp2_with fail
          go_ret
          exact ⟨ret_i64 hk.out.symm, rfl⟩

theorem getD_take0 (l : List UInt8) (n j : Nat) (h : j < n) : (l.take n).getD j 0 = l.getD j 0 := by
  simp [List.getD_eq_getElem?_getD, h]
theorem getD_drop0 (l : List UInt8) (n j : Nat) : (l.drop n).getD j 0 = l.getD (n + j) 0 := by
  simp [List.getD_eq_getElem?_getD, List.getElem?_drop]
theorem getD_pad (l : List UInt8) (n j : Nat) : (l ++ List.replicate n 0).getD j 0 = l.getD j 0 := by
  simp only [List.getD_eq_getElem?_getD]
  by_cases h : j < l.length
  · rw [List.getElem?_append_left h]
  · rw [List.getElem?_append_right (by omega), List.getElem?_eq_none (l := l) (by omega), List.getElem?_replicate]
    split <;> rfl
theorem piece_getD (s : List UInt8) (i j : Nat) (hj : j < 60) : (piece s i).getD j 0 = (recAll s).getD (60 * i + j) 0 := by
  unfold piece pad60
  rw [getD_pad, getD_take0 _ _ _ hj, getD_drop0]
theorem piece_take (s : List UInt8) (i j : Nat) (hj : j < 60) : (piece s i).take (j + 1) = (piece s i).take j ++ [(recAll s).getD (60 * i + j) 0] := by
  have hl := piece_length s i
  rw [List.take_succ_eq_append_getElem (by omega), ← piece_getD s i j hj]
  congr 1
  rw [List.getD_eq_getElem?_getD, List.getElem?_eq_getElem (by omega)]
  rfl
/-- The cells of a record up to the i-th. -/
def laysTo (s : List UInt8) (sr i : Nat) : List UInt8 := ((List.range i).map (cellAt s sr)).flatten
theorem laysTo_succ (s : List UInt8) (sr i : Nat) : laysTo s sr (i + 1) = laysTo s sr i ++ cellAt s sr i := by
  simp [laysTo, List.range_succ]
theorem laysTo_length (s : List UInt8) (sr i : Nat) : (laysTo s sr i).length = 64 * i := by
  induction i with
  | zero => rfl
  | succ i ih => rw [laysTo_succ, List.length_append, ih, cellAt_length]; omega
theorem laysTo_all (s : List UInt8) (sr : Nat) : laysTo s sr (kOf s.length) = lay s sr := rfl

theorem bs_extract1 (l : List UInt8) (k : Nat) (h : k < l.length) : (bs l).extract k (k + 1) = bs [l.getD k 0] := by
  apply ByteArray.ext
  apply Array.ext'
  rw [ByteArray.data_extract, Array.toList_extract]
  show ((bs l).data.toList.drop k).take (k + 1 - k) = [l.getD k 0]
  have e : (bs l).data.toList = l := rfl
  rw [e, show k + 1 - k = 1 by omega, List.drop_eq_getElem_cons h, List.take_succ_cons, List.take_zero, List.getD_eq_getElem?_getD, List.getElem?_eq_getElem h]
  rfl
theorem putS_mark (sr : Nat) (h : sr ≤ 16777215) : putS sr 3 = bs (octs 3 sr) := by
  have h1 : putOk sr 3 = true := by simp [putOk]; omega
  simp [putS, h1]
theorem putS_size (n : Nat) (h : n ≤ 4000) : putS n 2 = bs (octs 2 n) := by
  have h1 : putOk n 2 = true := by simp [putOk]; omega
  simp [putS, h1]

set_option maxRecDepth 100000 in
set_option maxHeartbeats 3200000 in
theorem reflay_any (s : List UInt8) (sr : Nat) (w : World) (hs : s.length ≤ 4000) (hsr : sr ≤ 16777215) : Calls Try.prog 51 #[.int .i64 (sr : Int), .string (bs s)] w fun e w' => e = .returned (.string (bs (lay s sr))) ∧ Below w.heap.size w w' := by
  have HP1 : Hid (∀ w, Calls Try.prog 82 #[.int .u64 (s.length : Int), .int .i64 2] w fun e w' => e = .returned (.tuple #[.string (bs (octs 2 s.length)), .bool (putOk s.length 2)]) ∧ Below w.heap.size w w') := hide (fun w => by
    have h := refput_any (s.length : Int) 2 w (by omega) (by omega)
    rw [Int.toNat_natCast, putS_size _ hs] at h
    exact h)
  have HP2 : Hid (∀ w, Calls Try.prog 82 #[.int .u64 (sr : Int), .int .i64 3] w fun e w' => e = .returned (.tuple #[.string (bs (octs 3 sr)), .bool (putOk sr 3)]) ∧ Below w.heap.size w w') := hide (fun w => by
    have h := refput_any (sr : Int) 3 w (by omega) (by omega)
    rw [Int.toNat_natCast, putS_mark _ hsr] at h
    exact h)
  have HCL : Hid (∀ w, Calls Try.prog 45 #[.int .i64 (s.length : Int)] w fun e w' => e = .returned (.int .i64 ((kOf s.length : Nat) : Int)) ∧ w = w') := hide (fun w => by
    have h := refcells18_any (s.length : Int) w (by omega)
    have e : cellsOf (s.length : Int) = ((kOf s.length : Nat) : Int) := if_neg (by omega)
    rw [e] at h
    exact h)
  have hsz : (bs s).size = s.length := bs_size s
  have hk := kOf_max hs
  have hra := recAll_length s
  obtain ⟨k0, hk0⟩ : ∃ k, kOf s.length = k := ⟨_, rfl⟩
  have HK := hide hk0
  rw [hk0] at HCL hk
  obtain ⟨sl, hsl⟩ : ∃ k, s.length = k := ⟨_, rfl⟩
  rw [hsl] at HP1 HCL hsz hs hra
  have HSL := hide hsl
  obtain ⟨sv, hsv⟩ : ∃ z, bs s = z := ⟨_, rfl⟩
  rw [hsv] at hsz ⊢
  have HSV := hide hsv
  clear hk0 hsl hsv
  obtain ⟨zv, hzv⟩ : ∃ z, bs (octs 2 sl) = z := ⟨_, rfl⟩
  have hzs : zv.size = 2 := by rw [← hzv, bs_size, octs_length]
  rw [hzv] at HP1
  have HZV := hide hzv
  obtain ⟨mv, hmv⟩ : ∃ z, bs (octs 3 sr) = z := ⟨_, rfl⟩
  have hms : mv.size = 3 := by rw [← hmv, bs_size, octs_length]
  rw [hmv] at HP2
  have HMV := hide hmv
  obtain ⟨al, hal⟩ : ∃ z, recAll s = z := ⟨_, rfl⟩
  rw [hal] at hra
  have HAL := hide hal
  have HAV : Hid (zv ++ sv = bs al) := hide (by rw [← HSV.out, ← HZV.out, bs_append, ← HAL.out, ← HSL.out]; rfl)
  obtain ⟨av, hav2⟩ : ∃ z, zv ++ sv = z := ⟨_, rfl⟩
  have hasz : av.size = sl + 2 := by rw [← hav2, HAV.out, bs_size, hra]
  rw [hav2] at HAV
  have HA2 := hide hav2
  clear hal hmv hzv hav2
  go_enter Try.func51, Try.ntmps51
  go_wp2_with fail
  refine (HP1.out _).mono ?_
  rintro e w1 ⟨rfl, hb1⟩
  go_wp2_with fail
  refine (HP2.out _).mono ?_
  rintro e w2 ⟨rfl, hb2⟩
  have hbw := chain hb1 hb2
  clear hb1 hb2
  go_upto_block 0 with fail
  rw [HA2.out]
  go_wp2_with fail
  obtain ⟨wo, rfl⟩ : ∃ wo : World, wo = w2 := ⟨_, rfl⟩
  go_loop [10, 11] (fun s10 s11 => ∃ (i : Nat) (t : ByteArray), i ≤ k0 ∧ s11 = .int .i64 (i : Int) ∧ s10 = .string t ∧ Hid (t = bs (laysTo s sr i)) ∧ t.size = 64 * i) (fun _ s11 => k0 - (intOf s11).toNat)
  case atStart => exact ⟨0, _, Nat.zero_le _, rfl, rfl, hide rfl, rfl⟩
  case round =>
    obtain ⟨i, t, hi, rfl, rfl, ht, hts⟩ := hrel
    by_cases hik : i < k0
    · have hneL : (i : Int) < (k0 : Int) := by omega
      have HT := hide hts
      go_wp2_with fail
      refine (HCL.out _).mono ?_
      rintro e w3 ⟨rfl, rfl⟩
      go_wp2_with fail
      go_loop [10, 12] (fun s10 s12 => ∃ (j : Nat) (t : ByteArray), j ≤ 60 ∧ s12 = .int .i64 ((60 * i + j : Nat) : Int) ∧ s10 = .string t ∧ Hid (t = bs (laysTo s sr i ++ (piece s i).take j)) ∧ t.size = 64 * i + j) (fun _ s12 => 60 * i + 60 - (intOf s12).toNat)
      case atStart => exact ⟨0, t, by omega, by go_num, rfl, hide (by rw [ht.out]; simp), by omega⟩
      case round =>
        obtain ⟨j, t2, hj, rfl, rfl, ht2, hts2⟩ := hrel
        by_cases hjk : j < 60
        · have hstep := piece_take s i j hjk
          by_cases hin : 60 * i + j < sl + 2
          · have hex : Hid (av.extract (60 * i + j) (60 * i + j + 1) = bs [(recAll s).getD (60 * i + j) 0]) := hide (by
              rw [HAV.out, HAL.out, bs_extract1 al (60 * i + j) (by omega)])
            have hes : (av.extract (60 * i + j) (60 * i + j + 1)).size = 1 := by rw [hex.out]; rfl
            have HST := hide hstep
            clear hstep
            go_wp2_with fail
            go_round
            case rel => exact ⟨j + 1, _, by omega, by first | (congr 1; done) | (congr 1; push_cast; omega), rfl, hide (by rw [ht2.out, hex.out, bs_append, HST.out, List.append_assoc]), by rw [ByteArray.size_append, hes]; omega⟩
            case measure => simp [intOf]; omega
          · have h0 : (recAll s).getD (60 * i + j) 0 = 0 := by
              rw [HAL.out, List.getD_eq_getElem?_getD, List.getElem?_eq_none (by omega)]
              rfl
            rw [h0] at hstep
            have HST := hide hstep
            have hbz : Hid ((⟨#[0]⟩ : ByteArray) = bs [0]) := hide rfl
            clear hstep h0
            go_wp2_with fail
            go_round
            case rel => exact ⟨j + 1, _, by omega, by first | (congr 1; done) | (congr 1; push_cast; omega), rfl, hide (by rw [ht2.out, hbz.out, bs_append, HST.out, List.append_assoc]), by rw [ByteArray.size_append, hts2]; rfl⟩
            case measure => simp [intOf]; omega
        · obtain rfl : j = 60 := by omega
          have hfull : Hid (t2 = bs (laysTo s sr i ++ piece s i)) := hide (by rw [ht2.out, List.take_of_length_le (by rw [piece_length]; omega)])
          have hls := hide (laysTo_succ s sr i)
          by_cases hi0 : i = 0
          · have hz : ((i : Int) == 0) = true := by rw [beq_iff_eq]; omega
            have hkd : Hid ((⟨#[1]⟩ : ByteArray) = bs [kind i]) := hide (by rw [hi0]; rfl)
            clear ht2
            go_wp2_with fail
            go_round
            case rel => exact ⟨i + 1, _, by omega, by go_num, rfl, hide (by rw [hfull.out, ← HMV.out, hkd.out, bs_append, bs_append, hls.out, cellAt, List.append_assoc, List.append_assoc, List.append_assoc]), by rw [ByteArray.size_append, ByteArray.size_append, hts2, hms]; show 64 * i + 60 + 3 + 1 = _; omega⟩
            case measure => simp [intOf]; omega
          · have hz : ((i : Int) == 0) = false := by rw [beq_eq_false_iff_ne]; omega
            have hkd : Hid ((⟨#[2]⟩ : ByteArray) = bs [kind i]) := hide (by unfold kind; rw [if_neg hi0]; rfl)
            clear ht2
            go_wp2_with fail
            go_round
            case rel => exact ⟨i + 1, _, by omega, by go_num, rfl, hide (by rw [hfull.out, ← HMV.out, hkd.out, bs_append, bs_append, hls.out, cellAt, List.append_assoc, List.append_assoc, List.append_assoc]), by rw [ByteArray.size_append, ByteArray.size_append, hts2, hms]; show 64 * i + 60 + 3 + 1 = _; omega⟩
            case measure => simp [intOf]; omega
    · obtain rfl : i = k0 := by omega
      go_wp2_with fail
      refine (HCL.out _).mono ?_
      rintro e w3 ⟨rfl, rfl⟩
      go_wp2_with fail
      go_ret
      have hfin : t = bs (lay s sr) := by rw [ht.out, ← laysTo_all, HK.out]
      exact ⟨by rw [← hfin]; rfl, hbw⟩

end Go.Proofs.Ytkapdmhjhbmdjaa

namespace Go.Proofs.Ytkapdmhjhbmdjaa
open Go.RowKit

theorem tape_cases2 (n1 : Nat) (f l p s : Int) : (f < 0) ∨ (0 ≤ f ∧ 6000 < f) ∨ (0 ≤ f ∧ f ≤ 6000 ∧ l < 1) ∨ (0 ≤ f ∧ f ≤ 6000 ∧ 1 ≤ l ∧ 6000 < l) ∨ (0 ≤ f ∧ f ≤ 6000 ∧ 1 ≤ l ∧ l ≤ 6000 ∧ (n1 : Int) < f + l) ∨ (0 ≤ f ∧ f ≤ 6000 ∧ 1 ≤ l ∧ l ≤ 6000 ∧ f + l ≤ n1 ∧ p < 0) ∨ (0 ≤ f ∧ f ≤ 6000 ∧ 1 ≤ l ∧ l ≤ 6000 ∧ f + l ≤ n1 ∧ 0 ≤ p ∧ l < p) ∨ (0 ≤ f ∧ f ≤ 6000 ∧ 1 ≤ l ∧ l ≤ 6000 ∧ f + l ≤ n1 ∧ 0 ≤ p ∧ p ≤ l ∧ s < 1) ∨ (0 ≤ f ∧ f ≤ 6000 ∧ 1 ≤ l ∧ l ≤ 6000 ∧ f + l ≤ n1 ∧ 0 ≤ p ∧ p ≤ l ∧ 1 ≤ s ∧ 16777216 < s) ∨ (0 ≤ f ∧ f ≤ 6000 ∧ 1 ≤ l ∧ l ≤ 6000 ∧ f + l ≤ n1 ∧ 0 ≤ p ∧ p ≤ l ∧ 1 ≤ s ∧ s ≤ 16777216) := by
  by_cases h0 : f < 0
  · exact .inl h0
  by_cases h1 : 6000 < f
  · exact .inr (.inl ⟨by omega, h1⟩)
  by_cases h2 : l < 1
  · exact .inr (.inr (.inl ⟨by omega, by omega, h2⟩))
  by_cases h3 : 6000 < l
  · exact .inr (.inr (.inr (.inl ⟨by omega, by omega, by omega, h3⟩)))
  by_cases h4 : (n1 : Int) < f + l
  · exact .inr (.inr (.inr (.inr (.inl ⟨by omega, by omega, by omega, by omega, h4⟩))))
  by_cases h5 : p < 0
  · exact .inr (.inr (.inr (.inr (.inr (.inl ⟨by omega, by omega, by omega, by omega, by omega, h5⟩)))))
  by_cases h6 : l < p
  · exact .inr (.inr (.inr (.inr (.inr (.inr (.inl ⟨by omega, by omega, by omega, by omega, by omega, by omega, h6⟩))))))
  by_cases h7 : s < 1
  · exact .inr (.inr (.inr (.inr (.inr (.inr (.inr (.inl ⟨by omega, by omega, by omega, by omega, by omega, by omega, by omega, h7⟩)))))))
  by_cases h8 : 16777216 < s
  · exact .inr (.inr (.inr (.inr (.inr (.inr (.inr (.inr (.inl ⟨by omega, by omega, by omega, by omega, by omega, by omega, by omega, by omega, h8⟩))))))))
  exact .inr (.inr (.inr (.inr (.inr (.inr (.inr (.inr (.inr ⟨by omega, by omega, by omega, by omega, by omega, by omega, by omega, by omega, by omega⟩))))))))

set_option maxRecDepth 100000 in
set_option maxHeartbeats 1600000 in
theorem refmay18_any (v : Value) (d : Drv) (t : Tp) (w : World) (h : IsDrive w v d) (ht : t.In) : Calls Try.prog 43 #[v, tpVal t] w fun e w' => e = .returned (.bool (tapeOk d t)) ∧ Below w.heap.size w w' := by
  obtain ⟨f, l, p, s⟩ := t
  obtain ⟨h1, h2, h3, h4⟩ := ht
  simp only at h1 h2 h3 h4
  have HI := hide h
  obtain ⟨a1, c1, a2, c2, rfl, hD⟩ := drv_form h
  have hr1 := hD.room1
  have HM := hide (fun (v : Value) (w : World) (h : IsDrive w v d) => refmay_any v d w h)
  have hmk := tapeOk_mk d f l p s
  obtain ⟨tk, htk⟩ : ∃ b, tapeOk d ⟨f, l, p, s⟩ = b := ⟨_, rfl⟩
  have hm0 : d.mayB = false → tk = false := by intro hm; rw [← htk]; unfold tapeOk; rw [hm]; rfl
  rw [htk] at hmk ⊢
  obtain ⟨mb, hmb⟩ : ∃ b, d.mayB = b := ⟨_, rfl⟩
  have h6000 : d.mayB = true → d.cells.length ≤ 6000 := fun h => (d.mayB_iff.1 h).most
  rw [hmb] at hm0 hmk HM h6000
  obtain ⟨n1, hn1⟩ : ∃ n, d.cells.length = n := ⟨_, rfl⟩
  obtain ⟨n2, hn2⟩ : ∃ n, d.queue.length = n := ⟨_, rfl⟩
  obtain ⟨fu, hfu⟩ : ∃ n, d.fuel = n := ⟨_, rfl⟩
  obtain ⟨of, hof⟩ : ∃ n, d.off = n := ⟨_, rfl⟩
  rw [hn1] at HI hr1 hmk h6000 ⊢
  rw [hn2, hfu, hof] at HI ⊢
  obtain ⟨B0, B1⟩ := two_kinds w [.slice a1 n1 c1, .slice a2 n2 c2, .int .i64 fu, .bool of] [.int .i64 f, .int .i64 l, .int .i64 p, .int .i64 s] 25 60
  have hb0 : Below w.heap.size w ((w.alloc (.cells #[.slice a1 n1 c1, .slice a2 n2 c2, .int .i64 fu, .bool of] 25)).alloc (.cells #[.int .i64 f, .int .i64 l, .int .i64 p, .int .i64 s] 60)) := ((Below.refl _ _).alloc (Nat.le_refl _) _).alloc (by simp) _
  clear hD htk hmb hn1 hn2 hfu hof h
  unfold tpVal
  simp only
  cases mb with
  | false =>
    obtain rfl := hm0 rfl
    clear hmk h6000
    go_enter Try.func43, Try.ntmps43
    go_wp2_with fail
    refine (HM.out _ _ (HI.out.below hb0)).mono ?_
    rintro e w1 ⟨rfl, hb1⟩
    have C0 := B0.next hb1
    have C1 := B1.next hb1
    obtain ⟨p0, p1, p2, p3, p4, p5, p6, p7⟩ := C0.four
    obtain ⟨q0, q1, q2, q3, q4, q5, q6, q7⟩ := C1.four
    have hbx := chain hb0 hb1
    clear hb1 hb0
    go_wp2_with fail
    go_ret
    exact ⟨rfl, hbx⟩
  | true =>
    have hmk := fun b => hmk b rfl
    have hn6 := h6000 rfl
    have hres : ∃ b : Bool, tk = b ∧ ((b = true) ↔ (0 ≤ f ∧ f ≤ n1 ∧ 1 ≤ l ∧ l ≤ n1 - f ∧ 0 ≤ p ∧ p ≤ l ∧ 1 ≤ s ∧ s ≤ 16777216)) := ⟨decide (0 ≤ f ∧ f ≤ n1 ∧ 1 ≤ l ∧ l ≤ n1 - f ∧ 0 ≤ p ∧ p ≤ l ∧ 1 ≤ s ∧ s ≤ 16777216), hmk _ (by simp), by simp⟩
    obtain ⟨b, rfl, hb⟩ := hres
    have HB := hide hb
    clear hmk hm0 hb h6000
    rcases tape_cases2 n1 f l p s with hc | ⟨c1, hc⟩ | ⟨c1, c2, hc⟩ | ⟨c1, c2, c3, hc⟩ | ⟨c1, c2, c3, c4, hc⟩ | ⟨c1, c2, c3, c4, c5, hc⟩ | ⟨c1, c2, c3, c4, c5, c6, hc⟩ | ⟨c1, c2, c3, c4, c5, c6, c7, hc⟩ | ⟨c1, c2, c3, c4, c5, c6, c7, c8, hc⟩ | ⟨c1, c2, c3, c4, c5, c6, c7, c8, hc⟩
    all_goals
      first
        | (have HT : Hid (tk = true) := hide (HB.out.2 ⟨c1, by omega, c3, by omega, c6, c7, c8, hc⟩))
        | (have HT : Hid (tk = false) := by
             refine hide ?_
             cases tk with
             | false => rfl
             | true => exfalso; have := HB.out.1 rfl; omega)
      clear HB
      first
        | (have hsd : decide (s ≤ 16777216) = true := decide_eq_true hc)
        | (have hsd : decide (s ≤ 16777216) = false := decide_eq_false (Int.not_le.2 hc))
        | skip
      go_enter Try.func43, Try.ntmps43
      go_wp2_with fail
      refine (HM.out _ _ (HI.out.below hb0)).mono ?_
      rintro e w1 ⟨rfl, hb1⟩
      have C0 := B0.next hb1
      have C1 := B1.next hb1
      obtain ⟨p0, p1, p2, p3, p4, p5, p6, p7⟩ := C0.four
      obtain ⟨q0, q1, q2, q3, q4, q5, q6, q7⟩ := C1.four
      have hbx := chain hb0 hb1
      clear hb1 hb0
      go_wp2_with fail
      go_ret
      rw [HT.out]
      exact ⟨rfl, hbx⟩


theorem flat_drop : ∀ (L : List (List UInt8)) (n : Nat), (∀ c ∈ L, c.length = 64) → L.flatten.drop (64 * n) = (L.drop n).flatten := by
  intro L
  induction L with
  | nil => intro n _; simp
  | cons c L ih =>
    intro n h
    have hc : c.length = 64 := h c (by simp)
    cases n with
    | zero => simp
    | succ n =>
      rw [List.flatten_cons, Nat.mul_succ, Nat.add_comm, ← List.drop_drop, List.drop_left' hc, List.drop_succ_cons]
      exact ih n (fun x hx => h x (by simp [hx]))

theorem scan_no2 (d : Drv) (f ln p sr : Int) : (tapeOk d ⟨f, ln, p, sr⟩ = false ∧ d.scan ⟨f, ln, p, sr⟩ = ([], Tp.zero, 1)) ∨ (tapeOk d ⟨f, ln, p, sr⟩ = true ∧ (d.read f ln).2 ≠ 0 ∧ d.scan ⟨f, ln, p, sr⟩ = ([], Tp.zero, (d.read f ln).2)) ∨
    (tapeOk d ⟨f, ln, p, sr⟩ = true ∧ (d.read f ln).2 = 0 ∧ (d.read f ln).1.length = 64 * ln.toNat ∧ d.read (f + p) (ln - p) = ((d.read f ln).1.drop (64 * p.toNat), 0)) := by
  have hno := scan_no d ⟨f, ln, p, sr⟩
  have htin := tapeOk_in (d := d) (t := ⟨f, ln, p, sr⟩)
  simp only at hno htin
  rcases hno with h | h
  · exact .inl h
  right
  have hm : tapeOk d ⟨f, ln, p, sr⟩ = true := by rcases h with h | h <;> exact h.1
  obtain ⟨i1, i2, i3, i4, i5, i6, i7, _, _, i10⟩ := htin hm
  have hM := d.mayB_iff.1 i1
  have hfl : d.full.length = d.cells.length := puts_length _ _
  have t1 : d.there f ln = true := by unfold Drv.there; rw [decide_eq_true_iff]; omega
  have t2 : d.there (f + p) (ln - p) = true := by unfold Drv.there; rw [decide_eq_true_iff]; omega
  have r1 : d.read f ln = if d.off then ([], 10) else (((d.full.drop f.toNat).take ln.toNat).flatten, 0) := by
    unfold Drv.read
    rw [if_neg (by rw [i1]; decide), if_neg (by rw [t1]; decide)]
  have r2 : d.read (f + p) (ln - p) = if d.off then ([], 10) else (((d.full.drop (f + p).toNat).take (ln - p).toNat).flatten, 0) := by
    unfold Drv.read
    rw [if_neg (by rw [i1]; decide), if_neg (by rw [t2]; decide)]
  cases ho : d.off with
  | true =>
    rw [ho] at r1 r2
    simp only [if_true] at r1 r2
    rw [r2] at h
    rw [r1]
    left
    rcases h with ⟨_, _, h⟩ | ⟨_, h⟩
    · exact ⟨hm, by decide, h⟩
    · cases h
  | false =>
    rw [ho] at r1 r2
    simp only [Bool.false_eq_true, if_false] at r1 r2
    right
    have h64 : ∀ c ∈ ((d.full.drop f.toNat).take ln.toNat), c.length = 64 := fun c hc => full_mem hM c (List.mem_of_mem_drop (List.mem_of_mem_take hc))
    refine ⟨hm, by rw [r1], ?_, ?_⟩
    · rw [r1, flatten_64 _ h64, List.length_take, List.length_drop]
      omega
    · rw [r1, r2]
      simp only
      rw [flat_drop _ _ h64, List.drop_take, List.drop_drop]
      congr 4 <;> omega

theorem sizeAt_two (o : List UInt8) (h : 2 ≤ o.length) : sizeAt o = 256 * (o.getD 0 0).toNat + (o.getD 1 0).toNat := by
  unfold sizeAt
  match o, h with
  | a :: b :: l, _ =>
    have e : (a :: b :: l).take 2 = [a, b] := rfl
    rw [e]
    simp [val]

theorem bs_get (l : List UInt8) (i : Nat) (h : i < (bs l).size) : (bs l)[i] = l.getD i 0 := by
  have h2 : i < l.length := h
  rw [List.getD_eq_getElem?_getD, List.getElem?_eq_getElem h2]
  rfl
theorem idx_str (l : List UInt8) (i : Nat) (h : i < l.length) (h2 : i ≤ 100) (w : World) : (Instr.index 9 (.string (bs l)) (.int .i64 (i : Int))).run Try.prog w = .ok (.int .u8 ((l.getD i 0).toNat : Int)) w := by
  rw [run_index_string _ _ _ _ _ (by kernel_rfl), dif_pos ⟨by omega, by rw [bs_size]; omega⟩]
  simp only [Int.toNat_natCast]
  rw [bs_get]

set_option maxRecDepth 100000 in
set_option maxHeartbeats 6400000 in
theorem refscan_own (v : Value) (d : Drv) (t : Tp) (w : World) (h : IsDrive w v d) (ht : t.In) :
    Calls Try.prog 48 #[v, tpVal t] w fun e w' => ∃ ao c, e = .returned (.tuple #[.slice ao (d.scan t).1.length c, tpVal (d.scan t).2.1, .int .i64 (d.scan t).2.2]) ∧ OwnS w' w.heap.size (.slice ao (d.scan t).1.length c) (d.scan t).1 ∧ Below w.heap.size w w' := by
  have HM := hide (fun (v : Value) (w : World) (h : IsDrive w v d) => refmay18_any v d t w h ht)
  have htin := tapeOk_in (d := d) (t := t)
  obtain ⟨f, ln, p, sr⟩ := t
  have hno := scan_no2 d f ln p sr
  obtain ⟨h1, h2, h3, h4⟩ := ht
  simp only at h1 h2 h3 h4 htin
  have HRD := hide (fun (v : Value) (w : World) (h : IsDrive w v d) => refread_any v d f ln w h h1 h2)
  have hrl := read_long d f ln
  have HI := hide h
  obtain ⟨a1, n1, c1, a2, n2, c2, fu, of, rfl, _⟩ := h
  unfold drvVal at HI ⊢
  unfold tpVal at HM ⊢
  simp only at HM ⊢
  obtain ⟨B0, B1, B2⟩ := three_kinds w [.slice a1 n1 c1, .slice a2 n2 c2, .int .i64 fu, .bool of] [.int .i64 f, .int .i64 ln, .int .i64 p, .int .i64 sr] [.int .i64 0, .int .i64 0, .int .i64 0, .int .i64 0] 25 60 60
  obtain ⟨W0, hW0⟩ : ∃ W0, (((w.alloc (.cells #[.slice a1 n1 c1, .slice a2 n2 c2, .int .i64 fu, .bool of] 25)).alloc (.cells #[.int .i64 f, .int .i64 ln, .int .i64 p, .int .i64 sr] 60)).alloc (.cells #[.int .i64 0, .int .i64 0, .int .i64 0, .int .i64 0] 60)) = W0 := ⟨_, rfl⟩
  have hb0 : Below w.heap.size w W0 := by rw [← hW0]; exact (((Below.refl _ _).alloc (Nat.le_refl _) _).alloc (by simp) _).alloc (by simp; omega) _
  rw [hW0] at B0 B1 B2
  have HD0 := hide (HI.out.below hb0)
  obtain ⟨p0, p1, p2, p3, p4, p5, p6, p7⟩ := B0.four
  obtain ⟨q0, q1, q2, q3, q4, q5, q6, q7⟩ := B1.four
  rcases hno with ⟨hm, he⟩ | ⟨hm, hr, he⟩ | ⟨hm, hr, hlen, hsub⟩
  · rw [he]
    have HE := hide he
    rw [hm] at HM
    clear he hm htin HRD hrl
    go_enter Try.func48, Try.ntmps48
    go_wp2_with fail
    clear p0 p1 p2 p3 p4 p5 p6 p7 q0 q1 q2 q3 q4 q5 q6 q7
    refine (HM.out _ _ HD0.out).mono ?_
    rintro e w1 ⟨rfl, hb1⟩
    have C2 := B2.next hb1
    have hbx := chain hb0 hb1
    obtain ⟨q0, q1, q2, q3, q4, q5, q6, q7⟩ := C2.four
    go_wp2_with fail
    exact bodyPost_ret (v := .tuple #[.slice none 0 0, .agg #[.int .i64 0, .int .i64 0, .int .i64 0, .int .i64 0], .int .i64 1]) (by simp [results, Try.results48, go_sem, q0, q1, q2, q3]) rfl ⟨_, _, rfl, OwnS.nil _ _, below4 hbx (by omega) _ _ _ _⟩
  · rw [he]
    have HE := hide he
    rw [hm] at HM
    obtain ⟨⟨so, E⟩, hE⟩ : ∃ r, d.read f ln = r := ⟨_, rfl⟩
    rw [hE] at HRD hr ⊢
    simp only at hr
    have hEd : decide (E = 0) = false := decide_eq_false hr
    have hEb : (E != 0) = true := by rw [bne_iff_ne]; exact hr
    clear he hm htin hrl hE hr
    go_enter Try.func48, Try.ntmps48
    go_wp2_with fail
    clear p0 p1 p2 p3 p4 p5 p6 p7 q0 q1 q2 q3 q4 q5 q6 q7
    refine (HM.out _ _ HD0.out).mono ?_
    rintro e w1 ⟨rfl, hb1⟩
    have C0 := B0.next hb1
    have C1 := B1.next hb1
    have C2 := B2.next hb1
    have hbx := chain hb0 hb1
    have HD1 := hide (HD0.out.below hb1)
    clear B0 B1 B2 hb1
    obtain ⟨p0, p1, p2, p3, p4, p5, p6, p7⟩ := C0.four
    obtain ⟨q0, q1, q2, q3, q4, q5, q6, q7⟩ := C1.four
    go_wp2_with fail
    refine (HRD.out _ _ HD1.out).mono ?_
    rintro e w2 ⟨rfl, hb2⟩
    have D2 := C2.next hb2
    have hby := chain hbx hb2
    clear p0 p1 p2 p3 p4 p5 p6 p7 q0 q1 q2 q3 q4 q5 q6 q7
    obtain ⟨q0, q1, q2, q3, q4, q5, q6, q7⟩ := D2.four
    go_wp2_with fail
    exact bodyPost_ret (v := .tuple #[.slice none 0 0, .agg #[.int .i64 0, .int .i64 0, .int .i64 0, .int .i64 0], .int .i64 E]) (by simp [results, Try.results48, go_sem, q0, q1, q2, q3]) rfl ⟨_, _, rfl, OwnS.nil _ _, below4 hby (by omega) _ _ _ _⟩
  · obtain ⟨lnn, rfl⟩ := Int.eq_ofNat_of_zero_le (show 0 ≤ ln by have := htin hm; omega)
    obtain ⟨pn, rfl⟩ := Int.eq_ofNat_of_zero_le (show 0 ≤ p by have := htin hm; omega)
    obtain ⟨srn, rfl⟩ := Int.eq_ofNat_of_zero_le (show 0 ≤ sr by have := htin hm; omega)
    obtain ⟨i1, i2, i3, i4, i5, i6, i7, i8, i9, i10⟩ := htin hm
    rw [Int.toNat_natCast] at hlen hsub
    obtain ⟨⟨O, E⟩, hE⟩ : ∃ r, d.read f (lnn : Int) = r := ⟨_, rfl⟩
    rw [hE] at HRD hr hrl hlen hsub
    simp only at hr hrl hlen hsub
    subst hr
    rw [hm] at HM
    obtain ⟨o, ho⟩ : ∃ o, O.drop (64 * pn) = o := ⟨_, rfl⟩
    rw [ho] at hsub
    have hol : o.length = 64 * (lnn - pn) := by rw [← ho, List.length_drop, hlen]; omega
    obtain ⟨L, hL⟩ : ∃ L, scanL o.length o srn = L := ⟨_, rfl⟩
    have he : d.scan ⟨f, (lnn : Int), (pn : Int), (srn : Int)⟩ = (L, ⟨f, (lnn : Int), ((pn + span L : Nat) : Int), ((srn + L.length : Nat) : Int)⟩, 0) := by
      unfold Drv.scan
      rw [hm, if_neg (by decide)]
      simp only [hsub, Int.toNat_natCast, hL]
      rw [if_neg (by simp)]
      push_cast
      rfl
    have HST := hide (ScanRel.start o (sr := srn) (by omega))
    have hpl : pn ≤ lnn := by omega
    have hl6 : lnn ≤ 6000 := by omega
    have HE := hide he
    have HL := hide hL
    have HOL := hide hol
    have HOO := hide ho
    rw [he]
    obtain ⟨ov, hov⟩ : ∃ z, bs O = z := ⟨_, rfl⟩
    have hovs : ov.size = 64 * lnn := by rw [← hov, bs_size, hlen]
    rw [hov] at HRD
    have HOV := hide hov
    clear he hm htin hrl hE i1 i2 i3 i4 i5 i6 i7 i8 i9 i10 h1 h2 h3 h4 hL hol ho hov hlen hsub
    go_enter Try.func48, Try.ntmps48
    go_wp2_with fail
    clear p0 p1 p2 p3 p4 p5 p6 p7 q0 q1 q2 q3 q4 q5 q6 q7
    refine (HM.out _ _ HD0.out).mono ?_
    rintro e w1 ⟨rfl, hb1⟩
    have C0 := B0.next hb1
    have C1 := B1.next hb1
    have C2 := B2.next hb1
    have hbx := chain hb0 hb1
    have HD1 := hide (HD0.out.below hb1)
    clear B0 B1 B2 hb1
    obtain ⟨p0, p1, p2, p3, p4, p5, p6, p7⟩ := C0.four
    obtain ⟨q0, q1, q2, q3, q4, q5, q6, q7⟩ := C1.four
    go_wp2_with fail
    refine (HRD.out _ _ HD1.out).mono ?_
    rintro e w2 ⟨rfl, hb2⟩
    have D1 := C1.next hb2
    have D2 := C2.next hb2
    have hby := chain hbx hb2
    clear p0 p1 p2 p3 p4 p5 p6 p7 q0 q1 q2 q3 q4 q5 q6 q7 hb2 hbx C0 C1 C2 HD1
    obtain ⟨b1, hb1'⟩ : ∃ b, w.heap.size + 1 = b := ⟨_, rfl⟩
    rw [hb1'] at D1 D2 ⊢
    obtain ⟨b2, hb2'⟩ : ∃ b, b1 + 1 = b := ⟨_, rfl⟩
    rw [hb2'] at D2 ⊢
    have ho1 : w.heap.size ≤ b1 := by omega
    have ho2 : b1 < b2 := by omega
    have hlw : b2 < w2.heap.size := D2.lt
    have hn12 : b1 ≠ b2 := by omega
    have hn21 : b2 ≠ b1 := by omega
    clear hb1' hb2'
    go_wp2_with fail
    go_loopw [9] (fun s9 wr => ∃ (acc : List (List UInt8)) (o' : List UInt8), Hid (ScanRel o srn acc o') ∧ Hid (o' = O.drop (64 * (pn + span acc))) ∧ OwnS wr w2.heap.size s9 acc ∧ Blk wr b1 [.int .i64 f, .int .i64 (lnn : Nat), .int .i64 ((pn + span acc : Nat) : Int), .int .i64 ((srn + acc.length : Nat) : Int)] 60 ∧ Blk wr b2 [.int .i64 0, .int .i64 0, .int .i64 0, .int .i64 0] 60 ∧ w2.heap.size ≤ wr.heap.size ∧ Below w.heap.size w wr) (fun s9 _ => match s9 with | .slice _ n _ => lnn - n | _ => 0)
    case atStart => exact ⟨[], o, HST, hide (by rw [← HOO.out]; rfl), OwnS.nil _ _, by simpa [span] using D1, D2, Nat.le_refl _, hby⟩
    case round =>
      obtain ⟨acc, o', hS, HX, hown, K1, K2, hsx, hbw⟩ := hrel
      clear D1 D2 hby HST
      have hser := hS.out.serial
      have hlong := hS.out.long
      have hspg := span_ge acc
      rw [HOL.out] at hlong
      obtain ⟨q, hq⟩ : ∃ q, pn + span acc = q := ⟨_, rfl⟩
      obtain ⟨ns, hns⟩ : ∃ q, srn + acc.length = q := ⟨_, rfl⟩
      have HQ := hide hq
      have HNS := hide hns
      rw [hq] at HX K1
      rw [hns] at K1 hser
      have hoq : o'.length = 64 * (lnn - q) := by omega
      have hql : q ≤ lnn := by omega
      have haq : acc.length ≤ q := by omega
      have hst : beginOk o' ns = false → Hid (L = acc) := fun h => hide (by rw [← hns] at h; rw [← HL.out]; exact hS.out.stop h)
      clear hlong hspg hq hns
      obtain ⟨a9, c9, rfl, hc9, hm9, _⟩ := hown.form
      have HOWN := hide hown
      have hk1 := K1.lt
      have hk2 := K2.lt
      clear hown
      by_cases hqlt : q < lnn
      · by_cases hsl : ns ≤ 16777215
        · have hx : ov.extract (64 * q) (64 * lnn) = bs o' := by rw [← hovs, HX.out, ← HOV.out, bs_drop]
          obtain ⟨cv, hcv⟩ : ∃ z, bs o' = z := ⟨_, rfl⟩
          have hcs : cv.size = 64 * (lnn - q) := by rw [← hcv, bs_size, hoq]
          rw [hcv] at hx
          have hI0 : ∀ wz : World, (Instr.index 9 (.string (bs o')) (.int .i64 0)).run Try.prog wz = .ok (.int .u8 ((o'.getD 0 0).toNat : Int)) wz := idx_str o' 0 (by omega) (by omega)
          have hI1 : ∀ wz : World, (Instr.index 9 (.string (bs o')) (.int .i64 1)).run Try.prog wz = .ok (.int .u8 ((o'.getD 1 0).toNat : Int)) wz := idx_str o' 1 (by omega) (by omega)
          have hsz2 := sizeAt_two o' (by omega)
          have hc0 := (o'.getD 0 0).toNat_lt
          have hc1 := (o'.getD 1 0).toNat_lt
          obtain ⟨c0, hc0'⟩ : ∃ c, (o'.getD 0 0).toNat = c := ⟨_, rfl⟩
          obtain ⟨c1, hc1'⟩ : ∃ c, (o'.getD 1 0).toNat = c := ⟨_, rfl⟩
          rw [hcv, hc0'] at hI0
          rw [hcv, hc1'] at hI1
          rw [hc0'] at hc0 hsz2
          rw [hc1'] at hc1 hsz2
          obtain ⟨n, hn⟩ : ∃ n, sizeAt o' = n := ⟨_, rfl⟩
          rw [hn] at hsz2
          have hne : (256 * (c0 : Int) + (c1 : Int)) = (n : Int) := by omega
          have hn6 : n < 65536 := by omega
          have HCL := hide (fun w => refcells18_any (n : Int) w (by omega))
          have hbc := begin_cases o' ns
          rw [hn] at hbc
          have HCV := hide hcv
          have HSZ := hide hn
          clear hc0' hc1' hsz2 hn hcv
          obtain ⟨q0, q1, q2, q3, q4, q5, q6, q7⟩ := K1.four
          by_cases hn4 : 4000 < n
          · have hbf : beginOk o' ns = false := by
              rcases hbc with h | h | h | h | h
              · exact h.2
              · exact h.2.2
              · exact h.2.2.2
              · omega
              · omega
            have hstop := hst hbf
            have hcz : cellsOf (n : Int) = 0 := if_pos (.inr (by omega))
            rw [hcz] at HCL
            clear hbc hbf hst hcz
            -- <C
            go_wp2_with fail
            go_quiet (fail)
            go_wp2_with fail
            refine (HCL.out _).mono ?_
            rintro e w3 ⟨rfl, hw3⟩
            have hb3 : Below wr.heap.size wr w3 := by rw [← hw3]; exact Below.drawn (Below.refl _ _) _
            have M1 := K1.next hb3
            have M2 := K2.next hb3
            have hbz := chain hbw hb3
            have HOWN3 := hide (OwnZ.below HOWN.out hb3)
            clear q0 q1 q2 q3 q4 q5 q6 q7 hw3 hb3 K1 K2
            obtain ⟨q0, q1, q2, q3, q4, q5, q6, q7⟩ := M1.four
            obtain ⟨g0, g1, g2, g3, g4, g5, g6, g7⟩ := M2.four
            have hm2 := M2.lt
            have hm1 := M1.lt
            go_wp2_with fail
            go_region_held3 (fun w' => w'.cell? ⟨b1, 0, none⟩ = some (.int .i64 f) ∧ w'.cell? ⟨b1, 1, none⟩ = some (.int .i64 (lnn : Nat)) ∧ w'.cell? ⟨b1, 2, none⟩ = some (.int .i64 (q : Nat)) ∧ w'.cell? ⟨b1, 3, none⟩ = some (.int .i64 (ns : Nat))) (go_keep) (fail)
            go_wp2_with fail
            have hw8 := Below.drewed (below4 hbz (show w.heap.size ≤ b2 by omega) (.int .i64 f) (.int .i64 (lnn : Nat)) (.int .i64 (q : Nat)) (.int .i64 (ns : Nat)))
            have hO8 : OwnS _ _ _ _ := OwnZ.below (OwnZ.set4 HOWN3.out M2 (by decide) (.int .i64 f) (.int .i64 (lnn : Nat)) (.int .i64 (q : Nat)) (.int .i64 (ns : Nat))) (Below.drewed (Below.refl _ _))
            have hHL := hstop.out
            have hQ : pn + span L = q := by rw [hHL]; exact HQ.out
            have hNS : srn + L.length = ns := by rw [hHL]; exact HNS.out
            exact bodyPost_ret (v := .tuple #[.slice a9 acc.length c9, .agg #[.int .i64 f, .int .i64 (lnn : Nat), .int .i64 (q : Nat), .int .i64 (ns : Nat)], .int .i64 0]) (by simp [results, Try.results48, go_sem, g0, g1, g2, g3]) rfl (by rw [hQ, hNS, hHL]; exact ⟨_, _, rfl, OwnZ.base hO8 (by omega), hw8⟩)
            -- C>
          · obtain ⟨k, hk⟩ : ∃ k, kOf n = k := ⟨_, rfl⟩
            have hk1' := kOf_pos n
            have hk2' := kOf_max (show n ≤ 4000 by omega)
            have hkb := kOf_bound n
            have hcz : cellsOf (n : Int) = ((k : Nat) : Int) := by
              have : cellsOf (n : Int) = (kOf n : Int) := if_neg (by omega)
              rw [this, hk]
            rw [hcz] at HCL
            rw [hk] at hk1' hk2' hkb hbc
            have hkz : ((k : Int) == 0) = false := by rw [beq_eq_false_iff_ne]; omega
            by_cases hqk : lnn < q + k
            · have hbf : beginOk o' ns = false := by
                rcases hbc with h | h | h | h | h
                · exact h.2
                · exact h.2.2
                · exact h.2.2.2
                · exact h.2.2.2.2
                · omega
              have hstop := hst hbf
              have hqk' : (lnn : Int) < (q : Int) + (k : Int) := by omega
              clear hbc hbf hst hcz
              -- <D
              go_wp2_with fail
              go_quiet (fail)
              go_wp2_with fail
              refine (HCL.out _).mono ?_
              rintro e w3 ⟨rfl, hw3⟩
              have hb3 : Below wr.heap.size wr w3 := by rw [← hw3]; exact Below.drawn (Below.refl _ _) _
              have M1 := K1.next hb3
              have M2 := K2.next hb3
              have hbz := chain hbw hb3
              have HOWN3 := hide (OwnZ.below HOWN.out hb3)
              clear q0 q1 q2 q3 q4 q5 q6 q7 hw3 hb3 K1 K2
              obtain ⟨q0, q1, q2, q3, q4, q5, q6, q7⟩ := M1.four
              obtain ⟨g0, g1, g2, g3, g4, g5, g6, g7⟩ := M2.four
              have hm2 := M2.lt
              have hm1 := M1.lt
              go_wp2_with fail
              go_region_held3 (fun w' => w'.cell? ⟨b1, 0, none⟩ = some (.int .i64 f) ∧ w'.cell? ⟨b1, 1, none⟩ = some (.int .i64 (lnn : Nat)) ∧ w'.cell? ⟨b1, 2, none⟩ = some (.int .i64 (q : Nat)) ∧ w'.cell? ⟨b1, 3, none⟩ = some (.int .i64 (ns : Nat))) (go_keep) (fail)
              go_wp2_with fail
              have hw8 := Below.drewed (below4 hbz (show w.heap.size ≤ b2 by omega) (.int .i64 f) (.int .i64 (lnn : Nat)) (.int .i64 (q : Nat)) (.int .i64 (ns : Nat)))
              have hO8 : OwnS _ _ _ _ := OwnZ.below (OwnZ.set4 HOWN3.out M2 (by decide) (.int .i64 f) (.int .i64 (lnn : Nat)) (.int .i64 (q : Nat)) (.int .i64 (ns : Nat))) (Below.drewed (Below.refl _ _))
              have hHL := hstop.out
              have hQ : pn + span L = q := by rw [hHL]; exact HQ.out
              have hNS : srn + L.length = ns := by rw [hHL]; exact HNS.out
              exact bodyPost_ret (v := .tuple #[.slice a9 acc.length c9, .agg #[.int .i64 f, .int .i64 (lnn : Nat), .int .i64 (q : Nat), .int .i64 (ns : Nat)], .int .i64 0]) (by simp [results, Try.results48, go_sem, g0, g1, g2, g3]) rfl (by rw [hQ, hNS, hHL]; exact ⟨_, _, rfl, OwnZ.base hO8 (by omega), hw8⟩)
              -- D>
            · have hqk' : (q : Int) + (k : Int) ≤ (lnn : Int) := by omega
              have hb4 : beginOk o' ns = decide (lay (recAt o') ns = o'.take (64 * k)) := by
                rcases hbc with h | h | h | h | h
                · omega
                · omega
                · omega
                · omega
                · rw [h.2.2.2.2, Nat.mul_comm 64 k]
              have hra : recAt o' = ((bodyOf o' k).drop 2).take n := by unfold recAt; rw [HSZ.out, hk]
              have hbl := bodyOf_length o' k (by omega)
              have hrl : (recAt o').length = n := by rw [hra, List.length_take, List.length_drop]; omega
              have HLY := hide (fun w => reflay_any (recAt o') ns w (by omega) hsl)
              have hkr : kOf (recAt o').length = k := by rw [hrl, hk]
              have hnx : beginOk o' ns = true → ScanRel o srn (acc ++ [recAt o']) (o'.drop (64 * k)) := fun hb => by rw [← hkr]; rw [← HNS.out] at hb; exact hS.out.next hb
              obtain ⟨qb, hqb⟩ : ∃ q, decide (lay (recAt o') ns = o'.take (64 * k)) = q := ⟨_, rfl⟩
              have hqe : ((bs (lay (recAt o') ns)).toList == (bs (o'.take (64 * k))).toList) = qb := by rw [← hqb]; exact str_beq _ _
              rw [hqb] at hb4
              have hx4 : cv.extract 0 (64 * k) = bs (o'.take (64 * k)) := by rw [← HCV.out]; exact (bs_take o' (64 * k)).symm
              obtain ⟨rl, hrl'⟩ : ∃ z, recAt o' = z := ⟨_, rfl⟩
              rw [hrl'] at hra HLY hnx hqe hrl hkr
              obtain ⟨l2, hl2⟩ : ∃ z, bs (o'.take (64 * k)) = z := ⟨_, rfl⟩
              obtain ⟨l1, hl1⟩ : ∃ z, bs (lay rl ns) = z := ⟨_, rfl⟩
              obtain ⟨rv, hrv⟩ : ∃ z, bs rl = z := ⟨_, rfl⟩
              rw [hl1, hl2] at hqe
              rw [hl2] at hx4
              rw [hl1, hrv] at HLY
              have HRA := hide hra
              have HRV := hide hrv
              have HRL := hide (And.intro hrl hkr)
              have HBL := hide hbl
              have hkc : k * 64 ≤ cv.size := by omega
              have hcm : cv.size ≤ 400000 := by omega
              clear hcs hbc hcz hk hra hbl hrl' hl1 hl2 hrv hqb hrl hkr
              go_wp2_with fail
              go_quiet (fail)
              go_wp2_with fail
              refine (HCL.out _).mono ?_
              rintro e w3 ⟨rfl, hw3⟩
              have hb3 : Below wr.heap.size wr w3 := by rw [← hw3]; exact Below.drawn (Below.refl _ _) _
              have M1 := K1.next hb3
              have M2 := K2.next hb3
              have hbz := chain hbw hb3
              have hs3 := hb3.size
              have HOWN3 := hide (OwnZ.below HOWN.out hb3)
              clear q0 q1 q2 q3 q4 q5 q6 q7 hw3 hb3 K1 K2 HOWN hI0 hI1 hne
              obtain ⟨q0, q1, q2, q3, q4, q5, q6, q7⟩ := M1.four
              have hm1 := M1.lt
              have hm2 := M2.lt
              go_wp2_with fail
              go_loop [13, 14] (fun s13 s14 => ∃ (i : Nat) (t : ByteArray), i ≤ k ∧ s14 = .int .i64 (i : Int) ∧ s13 = .string t ∧ Hid (t = bs (bodyOf o' i)) ∧ t.size = 60 * i) (fun _ s14 => k - (intOf s14).toNat)
              case atStart => exact ⟨0, _, Nat.zero_le _, rfl, rfl, hide rfl, rfl⟩
              case round =>
                obtain ⟨i, t, hi, rfl, rfl, ht, hts⟩ := hrel
                by_cases hik : i < k
                · -- <E
                  have hxk : cv.extract (64 * i) (64 * i + 60) = bs ((o'.drop (64 * i)).take 60) := by
                    rw [← HCV.out, bs_slice, Nat.add_sub_cancel_left]
                  obtain ⟨ck, hck⟩ : ∃ z, bs ((o'.drop (64 * i)).take 60) = z := ⟨_, rfl⟩
                  rw [hck] at hxk
                  have hie : 64 * i + 60 ≤ cv.size := by omega
                  have hckl : ck.size = 60 := by rw [← hck, bs_size, List.length_take, List.length_drop]; omega
                  have HCK := hide hck
                  clear hck
                  go_wp2_with fail
                  go_round
                  case rel => exact ⟨i + 1, t ++ ck, by omega, by go_num, rfl, hide (by rw [ht.out, ← HCK.out, bs_append, bodyOf_succ]), by rw [ByteArray.size_append, hckl]; omega⟩
                  case measure => simp [intOf]; omega
                  -- E>
                · obtain rfl : i = k := by omega
                  have hext : t.extract 2 (2 + n) = rv := by rw [ht.out, bs_slice, Nat.add_sub_cancel_left, ← HRA.out, HRV.out]
                  have hte : 2 + n ≤ t.size := by omega
                  clear ht hkb
                  go_wp2_with fail
                  have hw1 : IntKind.i64.wrap (64 * (i : Int)) = 64 * (i : Int) := IntWalk.i64_in _ (by omega)
                  have hw2 : (64 * (i : Int)).toNat = 64 * i := by omega
                  have hw3 : (0 : Int) ≤ 64 * (i : Int) := by omega
                  have hw4 : 64 * (i : Int) ≤ (cv.size : Int) := by omega
                  go_region_held3 (fun w' => w'.cell? ⟨b1, 3, none⟩ = some (.int .i64 (ns : Nat))) (go_keep) (
                    (go_at_call 51
                     refine (HLY.out _).mono ?_
                     rintro e w4 ⟨rfl, hb⟩
                     have hbq : Hid (Below w3.heap.size w3 w4) := hide (undrew1 hb)
                     have M14 := M1.next hbq.out
                     obtain ⟨n0', n1', n2', n3', n4', n5', n6', n7'⟩ := M14.four
                     clear hb))
                  have hb4z := chain hbz hbq.out
                  have M24 := M2.next hbq.out
                  have HOWN4 := hide (OwnZ.below HOWN3.out hbq.out)
                  have hs4 := hbq.out.size
                  clear n0' n1' n2' n3' n4' n5' n6' n7' q0 q1 q2 q3 q4 q5 q6 q7 M1 M2 HOWN3 hbz hbq
                  have hqq : qb = false ∨ qb = true := by cases qb <;> simp
                  rcases hqq with hq1 | hq1
                  · -- <F
                    have hstop := hst (by rw [hb4, hq1])
                    rw [hq1]
                    clear hqe hq1
                    clear hst hnx hb4 hext hx hx4 hw1 hw2 hw3 hw4
                    obtain ⟨q0, q1, q2, q3, q4, q5, q6, q7⟩ := M14.four
                    obtain ⟨g0, g1, g2, g3, g4, g5, g6, g7⟩ := M24.four
                    have hm2 := M24.lt
                    have hm1 := M14.lt
                    go_wp2_with fail
                    go_region_held3 (fun w' => w'.cell? ⟨b1, 0, none⟩ = some (.int .i64 f) ∧ w'.cell? ⟨b1, 1, none⟩ = some (.int .i64 (lnn : Nat)) ∧ w'.cell? ⟨b1, 2, none⟩ = some (.int .i64 (q : Nat)) ∧ w'.cell? ⟨b1, 3, none⟩ = some (.int .i64 (ns : Nat))) (go_keep) (fail)
                    go_wp2_with fail
                    have hw8 := Below.drewed (below4 hb4z (show w.heap.size ≤ b2 by omega) (.int .i64 f) (.int .i64 (lnn : Nat)) (.int .i64 (q : Nat)) (.int .i64 (ns : Nat)))
                    have hO8 : OwnS _ _ _ _ := OwnZ.below (OwnZ.set4 HOWN4.out M24 (by decide) (.int .i64 f) (.int .i64 (lnn : Nat)) (.int .i64 (q : Nat)) (.int .i64 (ns : Nat))) (Below.drewed (Below.refl _ _))
                    have hHL := hstop.out
                    have hQ : pn + span L = q := by rw [hHL]; exact HQ.out
                    have hNS : srn + L.length = ns := by rw [hHL]; exact HNS.out
                    exact bodyPost_ret (v := .tuple #[.slice a9 acc.length c9, .agg #[.int .i64 f, .int .i64 (lnn : Nat), .int .i64 (q : Nat), .int .i64 (ns : Nat)], .int .i64 0]) (by simp [results, Try.results48, go_sem, g0, g1, g2, g3]) rfl (by rw [hQ, hNS, hHL]; exact ⟨_, _, rfl, OwnZ.base hO8 (by omega), hw8⟩)
                    -- F>
                  · have HNX := hide (hnx (by rw [hb4, hq1]))
                    rw [hq1]
                    have hsp1 : pn + span (acc ++ [rl]) = q + i := by rw [span_append, span_cons, HRL.out.2, ← HQ.out]; show pn + (span acc + (i + 0)) = _; omega
                    have hal1 : srn + (acc ++ [rl]).length = ns + 1 := by rw [List.length_append, ← HNS.out]; simp; omega
                    have HSP := hide (And.intro hsp1 hal1)
                    have hol2 := HOWN4.out
                    have hac : acc.length < lnn := by omega
                    clear hqe hq1 hst hnx hb4 hext hx hx4 hw1 hw2 hw3 hw4 hsp1 hal1 hol2
                    have hnb := Blk.new w4 [.string rv] 9
                    have hal3 : Below w4.heap.size w4 (w4.alloc (.cells #[.string rv] 9)) := (Below.refl _ _).alloc (Nat.le_refl _) _
                    go_wp2_with (at_builtin; refine wpList_appS rfl (.tmp 97) (.tmp 99) rfl w2.heap.size (.slice a9 acc.length c9) acc rfl (OwnZ.below HOWN4.out hal3) _ 1 1 [rl] rfl rfl (by show Row _ _ [Value.string (bs rl)]; rw [HRV.out]; exact row_of_blk hnb) (by omega) (by simp; omega) ?_)
                    intro v5 w5 hown5 hg5 hk5 hob5
                    have hne1 : ∀ b, b < w2.heap.size → some b ≠ (Value.slice a9 acc.length c9).ownBlock := fun b hb e => by have := (HOWN4.out.1.lt b e.symm).1; omega
                    have N1 := (M14.alloc (.cells #[.string rv] 9)).grown hg5 (hne1 b1 (by omega))
                    have N2 := (M24.alloc (.cells #[.string rv] 9)).grown hg5 (hne1 b2 hlw)
                    have hb35 : Below w.heap.size w w5 := grown_below (hb4z.alloc (by omega) _) (by simp; omega) hg5 (fun k hk => by have := (HOWN4.out.1.lt k hk).1; omega)
                    have hs5 : w2.heap.size ≤ w5.heap.size := by have := hg5.size; simp at this; omega
                    have HO5 : Hid (OwnS w5 w2.heap.size v5 (acc ++ [rl])) := hide hown5
                    clear hown5 hg5 hob5 hk5 hal3 hne1 M14 M24 hnb hb4z
                    obtain ⟨q0, q1, q2, q3, q4, q5, q6, q7⟩ := N1.four
                    have hn1 := N1.lt
                    obtain ⟨W7, hW7⟩ : ∃ W7, (w5.setCell ⟨b1, 2, none⟩ (.int .i64 ((q : Int) + (i : Int)))).setCell ⟨b1, 3, none⟩ (.int .i64 ((ns : Int) + 1)) = W7 := ⟨_, rfl⟩
                    have L1 : Blk W7 b1 [.int .i64 f, .int .i64 (lnn : Nat), .int .i64 ((q : Int) + (i : Int)), .int .i64 ((ns : Int) + 1)] 60 := by rw [← hW7]; exact (N1.set 2 _).set 3 _
                    have L2 : Blk W7 b2 [.int .i64 0, .int .i64 0, .int .i64 0, .int .i64 0] 60 := by rw [← hW7]; exact (N2.other (a := ⟨b1, 2, none⟩) hn21 _).other (a := ⟨b1, 3, none⟩) hn21 _
                    have HO7 : Hid (OwnS W7 w2.heap.size v5 (acc ++ [rl])) := hide (by rw [← hW7]; exact OwnZ.set (OwnZ.set HO5.out N1 (by decide) 2 _) (N1.set 2 _) (by decide) 3 _)
                    have hb7 : Below w.heap.size w W7 := by rw [← hW7]; exact (hb35.setCell (p := ⟨b1, 2, none⟩) ho1 _).setCell (p := ⟨b1, 3, none⟩) ho1 _
                    have hs7 : w2.heap.size ≤ W7.heap.size := by rw [← hW7]; simpa using hs5
                    have he2 : ((q : Int) + (i : Int)) = ((pn + span (acc ++ [rl]) : Nat) : Int) := by rw [HSP.out.1]; push_cast; rfl
                    have he3 : ((ns : Int) + 1) = ((srn + (acc ++ [rl]).length : Nat) : Int) := by rw [HSP.out.2]; push_cast; rfl
                    have HL1 : Hid (Blk W7 b1 [.int .i64 f, .int .i64 (lnn : Nat), .int .i64 ((pn + span (acc ++ [rl]) : Nat) : Int), .int .i64 ((srn + (acc ++ [rl]).length : Nat) : Int)] 60) := hide (by rw [← he2, ← he3]; exact L1)
                    have HX7 : Hid (o'.drop (64 * i) = O.drop (64 * (pn + span (acc ++ [rl])))) := hide (by rw [HSP.out.1, HX.out, List.drop_drop, Nat.mul_add])
                    clear he2 he3 L1
                    go_wp2_with fail
                    go_roundw
                    case rel => exact ⟨acc ++ [rl], o'.drop (64 * i), HNX, HX7, HO7.out, HL1.out, L2, hs7, hb7⟩
                    case measure =>
                      obtain ⟨a5, c5, hv5, _⟩ := OwnS.form HO7.out
                      rw [hv5]
                      show lnn - (acc ++ [rl]).length < lnn - acc.length
                      rw [List.length_append]
                      show lnn - (acc.length + 1) < lnn - acc.length
                      omega
        -- <B
        · have hbf : beginOk o' ns = false := by unfold beginOk; rw [decide_eq_false (by omega), Bool.false_and]
          have hstop := hst hbf
          clear hbf hst
          have hsl' : (16777215 : Int) < (ns : Int) := by omega
          obtain ⟨q0, q1, q2, q3, q4, q5, q6, q7⟩ := K1.four
          obtain ⟨g0, g1, g2, g3, g4, g5, g6, g7⟩ := K2.four
          have hm2 := K2.lt
          have hm1 := K1.lt
          go_wp2_with fail
          go_region_held3 (fun w' => w'.cell? ⟨b1, 0, none⟩ = some (.int .i64 f) ∧ w'.cell? ⟨b1, 1, none⟩ = some (.int .i64 (lnn : Nat)) ∧ w'.cell? ⟨b1, 2, none⟩ = some (.int .i64 (q : Nat)) ∧ w'.cell? ⟨b1, 3, none⟩ = some (.int .i64 (ns : Nat))) (go_keep) (fail)
          go_wp2_with fail
          have hw8 := Below.drewed (below4 hbw (show w.heap.size ≤ b2 by omega) (.int .i64 f) (.int .i64 (lnn : Nat)) (.int .i64 (q : Nat)) (.int .i64 (ns : Nat)))
          have hO8 : OwnS _ _ _ _ := OwnZ.below (OwnZ.set4 HOWN.out K2 (by decide) (.int .i64 f) (.int .i64 (lnn : Nat)) (.int .i64 (q : Nat)) (.int .i64 (ns : Nat))) (Below.drewed (Below.refl _ _))
          have hHL := hstop.out
          have hQ : pn + span L = q := by rw [hHL]; exact HQ.out
          have hNS : srn + L.length = ns := by rw [hHL]; exact HNS.out
          exact bodyPost_ret (v := .tuple #[.slice a9 acc.length c9, .agg #[.int .i64 f, .int .i64 (lnn : Nat), .int .i64 (q : Nat), .int .i64 (ns : Nat)], .int .i64 0]) (by simp [results, Try.results48, go_sem, g0, g1, g2, g3]) rfl (by rw [hQ, hNS, hHL]; exact ⟨_, _, rfl, OwnZ.base hO8 (by omega), hw8⟩)
      -- B>
      -- <A
      · have hbf : beginOk o' ns = false := by unfold beginOk; rw [decide_eq_false (by omega), Bool.false_and]
        have hstop := hst hbf
        clear hbf hst
        have hqe : ¬ (q : Int) < (lnn : Int) := by omega
        obtain ⟨q0, q1, q2, q3, q4, q5, q6, q7⟩ := K1.four
        obtain ⟨g0, g1, g2, g3, g4, g5, g6, g7⟩ := K2.four
        have hm2 := K2.lt
        have hm1 := K1.lt
        go_wp2_with fail
        go_region_held3 (fun w' => w'.cell? ⟨b1, 0, none⟩ = some (.int .i64 f) ∧ w'.cell? ⟨b1, 1, none⟩ = some (.int .i64 (lnn : Nat)) ∧ w'.cell? ⟨b1, 2, none⟩ = some (.int .i64 (q : Nat)) ∧ w'.cell? ⟨b1, 3, none⟩ = some (.int .i64 (ns : Nat))) (go_keep) (fail)
        go_wp2_with fail
        have hw8 := Below.drewed (below4 hbw (show w.heap.size ≤ b2 by omega) (.int .i64 f) (.int .i64 (lnn : Nat)) (.int .i64 (q : Nat)) (.int .i64 (ns : Nat)))
        have hO8 : OwnS _ _ _ _ := OwnZ.below (OwnZ.set4 HOWN.out K2 (by decide) (.int .i64 f) (.int .i64 (lnn : Nat)) (.int .i64 (q : Nat)) (.int .i64 (ns : Nat))) (Below.drewed (Below.refl _ _))
        have hHL := hstop.out
        have hQ : pn + span L = q := by rw [hHL]; exact HQ.out
        have hNS : srn + L.length = ns := by rw [hHL]; exact HNS.out
        exact bodyPost_ret (v := .tuple #[.slice a9 acc.length c9, .agg #[.int .i64 f, .int .i64 (lnn : Nat), .int .i64 (q : Nat), .int .i64 (ns : Nat)], .int .i64 0]) (by simp [results, Try.results48, go_sem, g0, g1, g2, g3]) rfl (by rw [hQ, hNS, hHL]; exact ⟨_, _, rfl, OwnZ.base hO8 (by omega), hw8⟩)
      -- A>

end Go.Proofs.Ytkapdmhjhbmdjaa
