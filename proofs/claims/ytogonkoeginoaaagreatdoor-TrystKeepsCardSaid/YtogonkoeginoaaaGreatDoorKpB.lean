/-
  The walks through behold and newest: the head that a cell is, and the one that counts. The walk through newest: the head that counts, and has the greater Gen.
-/
import Derived.Test.YtogonkoeginoaaaGreatDoorKpA
import Derived.Test.YtogonkoeginoaaaGreatDoorLogBegin
namespace Go.Proofs.YtogonkoeginoaaaGreatDoor
open Go.RowKit

set_option maxRecDepth 100000 in
set_option maxHeartbeats 800000 in
/-- The function value that cuts a number's octets off. -/
theorem cut_any (c : List UInt8) (p k b b' : Nat) (w : World) (hk : 1 ≤ k) (hk4 : k ≤ 4) (hp : p + k ≤ 64) (hc : c.length = 64) (h1 : Blk w b [.string (bs c)] 9) (h2 : Blk w b' [.int .i64 (p : Int)] 3) :
    Calls Tryz.prog 87 #[.int .i64 (k : Int), .pointer (some ⟨b, 0, none⟩), .pointer (some ⟨b', 0, none⟩)] w fun e w' => e = .returned (.int .i64 ((val ((c.drop p).take k) : Nat) : Int)) ∧ w' = w.setCell ⟨b', 0, none⟩ (.int .i64 ((p + k : Nat) : Int)) := by
  obtain ⟨v, hv⟩ : ∃ v, val ((c.drop p).take k) = v := ⟨_, rfl⟩
  have hlen : ((c.drop p).take k).length = k := by rw [List.length_take, List.length_drop]; omega
  have hvb : v < 4294967296 := by
    rw [← hv]
    have h1 := val_lt ((c.drop p).take k)
    rw [hlen] at h1
    have h2 : 256 ^ k ≤ 256 ^ 4 := Nat.pow_le_pow_right (by decide) hk4
    exact Nat.lt_of_lt_of_le h1 h2
  have hsx : (bs c).extract p (p + k) = bs ((c.drop p).take k) := by rw [bs_slice, Nat.add_sub_cancel_left]
  have hsz : (bs ((c.drop p).take k)).size = k := by rw [bs_size, hlen]
  have HG := hide (fun w => get_any (bs ((c.drop p).take k)) w (by rw [hsz]; unfold maxLen; omega))
  have hgv : getV (bs ((c.drop p).take k)) = v := by
    unfold getV getOk
    rw [hsz, bs_data, hv, decide_eq_true (by omega)]
    rfl
  have hge : getE (bs ((c.drop p).take k)) = 0 := by
    unfold getE getOk
    rw [hsz, decide_eq_true (by omega)]
    rfl
  rw [hgv, hge] at HG
  have hcs : (bs c).size = 64 := by rw [bs_size, hc]
  obtain ⟨cv, hcv⟩ : ∃ z, bs c = z := ⟨_, rfl⟩
  obtain ⟨sv, hsv⟩ : ∃ z, bs ((c.drop p).take k) = z := ⟨_, rfl⟩
  rw [hcv] at hsx hcs h1
  rw [hsv] at hsx HG
  rw [hv]
  have hpk : (p : Int) + (k : Int) ≤ (cv.size : Int) := by omega
  have hwv : IntKind.i64.wrap (v : Int) = (v : Int) := IntWalk.i64_in _ (by omega)
  clear hv hgv hge hsz hcv hsv hlen hc
  obtain ⟨p0, p1⟩ := h1.one
  obtain ⟨q0, q1⟩ := h2.one
  go_enter Tryz.func87, Tryz.ntmps87
  go_wp2_with fail
  refine (HG.out _).mono ?_
  rintro e w1 ⟨rfl, rfl⟩
  go_wp2_with fail
  go_ret
  exact ⟨rfl, rfl⟩

/-- behold. -/
theorem be_cases (h : Hv) (c : List UInt8) (place : Nat) : (¬ 1 ≤ (hdOf c).gen ∧ beOk h c place = false) ∨ (1 ≤ (hdOf c).gen ∧ ¬ (hdOf c).half ≤ 1 ∧ beOk h c place = false) ∨ (1 ≤ (hdOf c).gen ∧ (hdOf c).half ≤ 1 ∧ ¬ 1 ≤ (hdOf c).serial ∧ beOk h c place = false) ∨
    (1 ≤ (hdOf c).gen ∧ (hdOf c).half ≤ 1 ∧ 1 ≤ (hdOf c).serial ∧ ¬ (hdOf c).size ≤ h.text * 64 ∧ beOk h c place = false) ∨ (1 ≤ (hdOf c).gen ∧ (hdOf c).half ≤ 1 ∧ 1 ≤ (hdOf c).serial ∧ (hdOf c).size ≤ h.text * 64 ∧ ¬ (hdOf c).gen % 2 = place ∧ beOk h c place = false) ∨
    (1 ≤ (hdOf c).gen ∧ (hdOf c).half ≤ 1 ∧ 1 ≤ (hdOf c).serial ∧ (hdOf c).size ≤ h.text * 64 ∧ (hdOf c).gen % 2 = place ∧ beOk h c place = decide (hdOct (hdOf c) = c)) := by
  unfold beOk
  by_cases h1 : 1 ≤ (hdOf c).gen
  · by_cases h2 : (hdOf c).half ≤ 1
    · by_cases h3 : 1 ≤ (hdOf c).serial
      · by_cases h4 : (hdOf c).size ≤ h.text * 64
        · by_cases h5 : (hdOf c).gen % 2 = place
          · exact .inr (.inr (.inr (.inr (.inr ⟨h1, h2, h3, h4, h5, by simp [h1, h2, h3, h4, h5]⟩))))
          · exact .inr (.inr (.inr (.inr (.inl ⟨h1, h2, h3, h4, h5, by simp [h5]⟩))))
        · exact .inr (.inr (.inr (.inl ⟨h1, h2, h3, h4, by simp [h4]⟩)))
      · exact .inr (.inr (.inl ⟨h1, h2, h3, by simp [h3]⟩))
    · exact .inr (.inl ⟨h1, h2, by simp [h2]⟩)
  · exact .inl ⟨h1, by simp [h1]⟩

set_option maxRecDepth 100000 in
set_option maxHeartbeats 6400000 in
theorem behold_any (c : List UInt8) (place : Nat) (h : Hv) (w : World) (hc : c.length = 64) (ho : h.Ok) (_hp : place ≤ 1) :
    Calls Tryz.prog 64 #[.string (bs c), .int .i64 (place : Int), hvVal h] w fun e w' => e = .returned (.tuple #[hdVal (hdOf c), .bool (beOk h c place)]) ∧ Below w.heap.size w w' := by
  have hbc := be_cases h c place
  have hin := hdOf_in c
  have HPL := hide (fun w => kplace_any (hdOf c) w hin)
  have HOC := hide (fun w => koctets_any (hdOf c) w hin)
  have heq := str_beq (hdOct (hdOf c)) c
  have HC1 : Hid (∀ (b b' : Nat) (w : World), Blk w b [.string (bs c)] 9 → Blk w b' [.int .i64 0] 3 → Calls Tryz.prog 87 #[.int .i64 3, .pointer (some ⟨b, 0, none⟩), .pointer (some ⟨b', 0, none⟩)] w fun e w' => e = .returned (.int .i64 ((hdOf c).gen : Int)) ∧ w' = w.setCell ⟨b', 0, none⟩ (.int .i64 3)) := hide (fun b b' w h1 h2 => cut_any c 0 3 b b' w (by decide) (by decide) (by decide) hc h1 h2)
  have HC2 : Hid (∀ (b b' : Nat) (w : World), Blk w b [.string (bs c)] 9 → Blk w b' [.int .i64 3] 3 → Calls Tryz.prog 87 #[.int .i64 1, .pointer (some ⟨b, 0, none⟩), .pointer (some ⟨b', 0, none⟩)] w fun e w' => e = .returned (.int .i64 ((hdOf c).half : Int)) ∧ w' = w.setCell ⟨b', 0, none⟩ (.int .i64 4)) := hide (fun b b' w h1 h2 => cut_any c 3 1 b b' w (by decide) (by decide) (by decide) hc h1 h2)
  have HC3 : Hid (∀ (b b' : Nat) (w : World), Blk w b [.string (bs c)] 9 → Blk w b' [.int .i64 4] 3 → Calls Tryz.prog 87 #[.int .i64 3, .pointer (some ⟨b, 0, none⟩), .pointer (some ⟨b', 0, none⟩)] w fun e w' => e = .returned (.int .i64 ((hdOf c).serial : Int)) ∧ w' = w.setCell ⟨b', 0, none⟩ (.int .i64 7)) := hide (fun b b' w h1 h2 => cut_any c 4 3 b b' w (by decide) (by decide) (by decide) hc h1 h2)
  have HC4 : Hid (∀ (b b' : Nat) (w : World), Blk w b [.string (bs c)] 9 → Blk w b' [.int .i64 7] 3 → Calls Tryz.prog 87 #[.int .i64 4, .pointer (some ⟨b, 0, none⟩), .pointer (some ⟨b', 0, none⟩)] w fun e w' => e = .returned (.int .i64 ((hdOf c).size : Int)) ∧ w' = w.setCell ⟨b', 0, none⟩ (.int .i64 11)) := hide (fun b b' w h1 h2 => cut_any c 7 4 b b' w (by decide) (by decide) (by decide) hc h1 h2)
  obtain ⟨ok, hok⟩ : ∃ q, beOk h c place = q := ⟨_, rfl⟩
  rw [hok] at hbc ⊢
  obtain ⟨ov, hov⟩ : ∃ q, bs (hdOct (hdOf c)) = q := ⟨_, rfl⟩
  obtain ⟨cv, hcv⟩ : ∃ q, bs c = q := ⟨_, rfl⟩
  rw [hov, hcv] at heq
  rw [hov] at HOC
  rw [hcv] at HC1 HC2 HC3 HC4 ⊢
  obtain ⟨q, hq⟩ : ∃ q, decide (hdOct (hdOf c) = c) = q := ⟨_, rfl⟩
  rw [hq] at hbc heq
  obtain ⟨⟨gn, hf, sr, sz⟩, hm⟩ : ∃ m, hdOf c = m := ⟨_, rfl⟩
  rw [hm] at hbc hin HPL HC1 HC2 HC3 HC4 HOC ⊢
  simp only at hbc HC1 HC2 HC3 HC4
  obtain ⟨hi1, hi2, hi3, hi4⟩ := hin
  simp only at hi1 hi2 hi3 hi4
  unfold hdVal at HPL HOC ⊢
  simp only at HPL HOC ⊢
  obtain ⟨g, t⟩ := h
  obtain ⟨h1, h2, h3, h4⟩ := ho
  simp only at h1 h2 h3 h4 hbc
  unfold hvVal
  simp only
  have HBC := hide hbc
  clear hok hov hcv hq hm hc hbc
  obtain ⟨B0, B1, B2⟩ := three_kinds w [.string cv] [.int .i64 (g : Int), .int .i64 (t : Int)] [.int .i64 0, .int .i64 0, .int .i64 0, .int .i64 0] 9 27 56
  have hal : Below w.heap.size w (((w.alloc (.cells #[.string cv] 9)).alloc (.cells #[.int .i64 (g : Int), .int .i64 (t : Int)] 27)).alloc (.cells #[.int .i64 0, .int .i64 0, .int .i64 0, .int .i64 0] 56)) := (((Below.refl _ _).alloc (Nat.le_refl _) _).alloc (by simp) _).alloc (by simp; omega) _
  obtain ⟨W0, hW0⟩ : ∃ z, (((w.alloc (.cells #[.string cv] 9)).alloc (.cells #[.int .i64 (g : Int), .int .i64 (t : Int)] 27)).alloc (.cells #[.int .i64 0, .int .i64 0, .int .i64 0, .int .i64 0] 56)) = z := ⟨_, rfl⟩
  have hs0 : W0.heap.size = w.heap.size + 3 := by rw [← hW0]; simp
  rw [hW0] at B0 B1 B2 hal
  obtain ⟨C3, C4⟩ := two_kinds W0 [.int .i64 0] [.int .i64 0, .int .i64 0, .int .i64 0, .int .i64 0] 3 56
  have hal2 : Below W0.heap.size W0 ((W0.alloc (.cells #[.int .i64 0] 3)).alloc (.cells #[.int .i64 0, .int .i64 0, .int .i64 0, .int .i64 0] 56)) := ((Below.refl _ _).alloc (Nat.le_refl _) _).alloc (by simp) _
  obtain ⟨W1, hW1⟩ : ∃ z, ((W0.alloc (.cells #[.int .i64 0] 3)).alloc (.cells #[.int .i64 0, .int .i64 0, .int .i64 0, .int .i64 0] 56)) = z := ⟨_, rfl⟩
  rw [hW1, hs0] at C3 C4
  rw [hW1] at hal2
  have C0 := B0.next hal2
  have C1 := B1.next hal2
  have C2 := B2.next hal2
  have hb := chain hal hal2
  have HW0 := hide hW0
  have HW1 := hide hW1
  have hs0' : W0.heap.size = w.heap.size + 1 + 1 + 1 := hs0
  clear hW0 hW1 hal hal2 B0 B1 B2 hs0
  have hmf : ∀ (fn : Fn) (first cap : Array Value) (w : World), (Instr.makeFunc fn first cap).run Tryz.prog w = .ok (.func fn first cap) w := fun _ _ _ _ => rfl
  go_enter Tryz.func64, Tryz.ntmps64
  go_upto_region 1 with fail
  rw [HW0.out]
  go_upto_region 4 with fail
  rw [HW1.out]
  try rw [hs0']
  obtain ⟨b0, hb0⟩ : ∃ b, w.heap.size = b := ⟨_, rfl⟩
  rw [hb0] at C0 C1 C2 C3 C4 ⊢
  obtain ⟨b1, hb1⟩ : ∃ b, b0 + 1 = b := ⟨_, rfl⟩
  rw [hb1] at C1 ⊢
  obtain ⟨b2, hb2⟩ : ∃ b, b1 + 1 = b := ⟨_, rfl⟩
  have C2 : Blk W1 b2 [.int .i64 0, .int .i64 0, .int .i64 0, .int .i64 0] 56 := by rw [← hb2, ← hb1]; exact C2
  rw [hb2]
  obtain ⟨b3, hb3⟩ : ∃ b, b2 + 1 = b := ⟨_, rfl⟩
  have C3 : Blk W1 b3 [.int .i64 0] 3 := by rw [← hb3, ← hb2, ← hb1]; exact C3
  rw [hb3]
  obtain ⟨b4, hb4⟩ : ∃ b, b3 + 1 = b := ⟨_, rfl⟩
  have C4 : Blk W1 b4 [.int .i64 0, .int .i64 0, .int .i64 0, .int .i64 0] 56 := by rw [← hb4, ← hb3, ← hb2, ← hb1]; exact C4
  rw [hb4]
  have ho : w.heap.size ≤ b0 ∧ b0 < b1 ∧ b1 < b2 ∧ b2 < b3 ∧ b3 < b4 := by omega
  obtain ⟨ho0, ho1, ho2, ho3, ho4⟩ := ho
  have hn03 : b0 ≠ b3 := by omega
  have hn04 : b0 ≠ b4 := by omega
  have hn13 : b1 ≠ b3 := by omega
  have hn14 : b1 ≠ b4 := by omega
  have hn23 : b2 ≠ b3 := by omega
  have hn24 : b2 ≠ b4 := by omega
  have hn34 : b3 ≠ b4 := by omega
  have hn43 : b4 ≠ b3 := by omega
  clear hb0 hb1 hb2 hb3 hb4 HW0 HW1 hs0'
  obtain ⟨p0, p1⟩ := C3.one
  obtain ⟨q0, q1, q2, q3, q4, q5, q6, q7⟩ := C4.four
  go_wp2_with fail
  refine (HC1.out _ _ _ C0 C3).mono ?_
  rintro e w1 ⟨rfl, rfl⟩
  go_upto_region 5 with fail
  obtain ⟨V1, hV1⟩ : ∃ z, ((W1.setCell ⟨b3, 0, none⟩ (.int .i64 3)).setCell ⟨b4, 0, none⟩ (.int .i64 (gn : Int))) = z := ⟨_, rfl⟩
  rw [hV1]
  have D0 : Blk V1 b0 [.string cv] 9 := by rw [← hV1]; exact (C0.other (a := ⟨b3, 0, none⟩) hn03 _).other (a := ⟨b4, 0, none⟩) hn04 _
  have D1 : Blk V1 b1 [.int .i64 (g : Int), .int .i64 (t : Int)] 27 := by rw [← hV1]; exact (C1.other (a := ⟨b3, 0, none⟩) hn13 _).other (a := ⟨b4, 0, none⟩) hn14 _
  have D2 : Blk V1 b2 [.int .i64 0, .int .i64 0, .int .i64 0, .int .i64 0] 56 := by rw [← hV1]; exact (C2.other (a := ⟨b3, 0, none⟩) hn23 _).other (a := ⟨b4, 0, none⟩) hn24 _
  have D3 : Blk V1 b3 [.int .i64 3] 3 := by rw [← hV1]; exact (C3.set 0 _).other (a := ⟨b4, 0, none⟩) hn34 _
  have D4 : Blk V1 b4 [.int .i64 (gn : Int), .int .i64 0, .int .i64 0, .int .i64 0] 56 := by rw [← hV1]; exact (C4.other (a := ⟨b3, 0, none⟩) hn43 _).set 0 _
  have hbV1 : Below w.heap.size w V1 := by rw [← hV1]; exact (hb.setCell (p := ⟨b3, 0, none⟩) (show w.heap.size ≤ b3 by omega) _).setCell (p := ⟨b4, 0, none⟩) (show w.heap.size ≤ b4 by omega) _
  clear hV1 p0 p1 q0 q1 q2 q3 q4 q5 q6 q7 C0 C1 C2 C3 C4 hb HC1
  obtain ⟨p0, p1⟩ := D3.one
  obtain ⟨q0, q1, q2, q3, q4, q5, q6, q7⟩ := D4.four
  go_wp2_with fail
  refine (HC2.out _ _ _ D0 D3).mono ?_
  rintro e w1 ⟨rfl, rfl⟩
  go_upto_region 6 with fail
  obtain ⟨V2, hV2⟩ : ∃ z, ((V1.setCell ⟨b3, 0, none⟩ (.int .i64 4)).setCell ⟨b4, 1, none⟩ (.int .i64 (hf : Int))) = z := ⟨_, rfl⟩
  rw [hV2]
  have E0 : Blk V2 b0 [.string cv] 9 := by rw [← hV2]; exact (D0.other (a := ⟨b3, 0, none⟩) hn03 _).other (a := ⟨b4, 1, none⟩) hn04 _
  have E1 : Blk V2 b1 [.int .i64 (g : Int), .int .i64 (t : Int)] 27 := by rw [← hV2]; exact (D1.other (a := ⟨b3, 0, none⟩) hn13 _).other (a := ⟨b4, 1, none⟩) hn14 _
  have E2 : Blk V2 b2 [.int .i64 0, .int .i64 0, .int .i64 0, .int .i64 0] 56 := by rw [← hV2]; exact (D2.other (a := ⟨b3, 0, none⟩) hn23 _).other (a := ⟨b4, 1, none⟩) hn24 _
  have E3 : Blk V2 b3 [.int .i64 4] 3 := by rw [← hV2]; exact (D3.set 0 _).other (a := ⟨b4, 1, none⟩) hn34 _
  have E4 : Blk V2 b4 [.int .i64 (gn : Int), .int .i64 (hf : Int), .int .i64 0, .int .i64 0] 56 := by rw [← hV2]; exact (D4.other (a := ⟨b3, 0, none⟩) hn43 _).set 1 _
  have hbV2 : Below w.heap.size w V2 := by rw [← hV2]; exact (hbV1.setCell (p := ⟨b3, 0, none⟩) (show w.heap.size ≤ b3 by omega) _).setCell (p := ⟨b4, 1, none⟩) (show w.heap.size ≤ b4 by omega) _
  clear hV2 p0 p1 q0 q1 q2 q3 q4 q5 q6 q7 D0 D1 D2 D3 D4 hbV1 HC2
  obtain ⟨p0, p1⟩ := E3.one
  obtain ⟨q0, q1, q2, q3, q4, q5, q6, q7⟩ := E4.four
  go_wp2_with fail
  refine (HC3.out _ _ _ E0 E3).mono ?_
  rintro e w1 ⟨rfl, rfl⟩
  go_upto_region 7 with fail
  obtain ⟨V3, hV3⟩ : ∃ z, ((V2.setCell ⟨b3, 0, none⟩ (.int .i64 7)).setCell ⟨b4, 2, none⟩ (.int .i64 (sr : Int))) = z := ⟨_, rfl⟩
  rw [hV3]
  have F0 : Blk V3 b0 [.string cv] 9 := by rw [← hV3]; exact (E0.other (a := ⟨b3, 0, none⟩) hn03 _).other (a := ⟨b4, 2, none⟩) hn04 _
  have F1 : Blk V3 b1 [.int .i64 (g : Int), .int .i64 (t : Int)] 27 := by rw [← hV3]; exact (E1.other (a := ⟨b3, 0, none⟩) hn13 _).other (a := ⟨b4, 2, none⟩) hn14 _
  have F2 : Blk V3 b2 [.int .i64 0, .int .i64 0, .int .i64 0, .int .i64 0] 56 := by rw [← hV3]; exact (E2.other (a := ⟨b3, 0, none⟩) hn23 _).other (a := ⟨b4, 2, none⟩) hn24 _
  have F3 : Blk V3 b3 [.int .i64 7] 3 := by rw [← hV3]; exact (E3.set 0 _).other (a := ⟨b4, 2, none⟩) hn34 _
  have F4 : Blk V3 b4 [.int .i64 (gn : Int), .int .i64 (hf : Int), .int .i64 (sr : Int), .int .i64 0] 56 := by rw [← hV3]; exact (E4.other (a := ⟨b3, 0, none⟩) hn43 _).set 2 _
  have hbV3 : Below w.heap.size w V3 := by rw [← hV3]; exact (hbV2.setCell (p := ⟨b3, 0, none⟩) (show w.heap.size ≤ b3 by omega) _).setCell (p := ⟨b4, 2, none⟩) (show w.heap.size ≤ b4 by omega) _
  clear hV3 p0 p1 q0 q1 q2 q3 q4 q5 q6 q7 E0 E1 E2 E3 E4 hbV2 HC3
  obtain ⟨p0, p1⟩ := F3.one
  obtain ⟨q0, q1, q2, q3, q4, q5, q6, q7⟩ := F4.four
  go_wp2_with fail
  refine (HC4.out _ _ _ F0 F3).mono ?_
  rintro e w1 ⟨rfl, rfl⟩
  go_upto_region 8 with fail
  obtain ⟨V4, hV4⟩ : ∃ z, ((V3.setCell ⟨b3, 0, none⟩ (.int .i64 11)).setCell ⟨b4, 3, none⟩ (.int .i64 (sz : Int))) = z := ⟨_, rfl⟩
  rw [hV4]
  have G0 : Blk V4 b0 [.string cv] 9 := by rw [← hV4]; exact (F0.other (a := ⟨b3, 0, none⟩) hn03 _).other (a := ⟨b4, 3, none⟩) hn04 _
  have G1 : Blk V4 b1 [.int .i64 (g : Int), .int .i64 (t : Int)] 27 := by rw [← hV4]; exact (F1.other (a := ⟨b3, 0, none⟩) hn13 _).other (a := ⟨b4, 3, none⟩) hn14 _
  have G2 : Blk V4 b2 [.int .i64 0, .int .i64 0, .int .i64 0, .int .i64 0] 56 := by rw [← hV4]; exact (F2.other (a := ⟨b3, 0, none⟩) hn23 _).other (a := ⟨b4, 3, none⟩) hn24 _
  have G3 : Blk V4 b3 [.int .i64 11] 3 := by rw [← hV4]; exact (F3.set 0 _).other (a := ⟨b4, 3, none⟩) hn34 _
  have G4 : Blk V4 b4 [.int .i64 (gn : Int), .int .i64 (hf : Int), .int .i64 (sr : Int), .int .i64 (sz : Int)] 56 := by rw [← hV4]; exact (F4.other (a := ⟨b3, 0, none⟩) hn43 _).set 3 _
  have hbV4 : Below w.heap.size w V4 := by rw [← hV4]; exact (hbV3.setCell (p := ⟨b3, 0, none⟩) (show w.heap.size ≤ b3 by omega) _).setCell (p := ⟨b4, 3, none⟩) (show w.heap.size ≤ b4 by omega) _
  clear hV4 p0 p1 q0 q1 q2 q3 q4 q5 q6 q7 F0 F1 F2 F3 F4 hbV3 HC4
  have HK := hide (fun w' (h : Below V4.heap.size V4 w') => show (fun w' => Below V4.heap.size V4 w' ∧ w'.cell? ⟨b4, 0, none⟩ = some (.int .i64 (gn : Int)) ∧ w'.cell? ⟨b4, 1, none⟩ = some (.int .i64 (hf : Int)) ∧ w'.cell? ⟨b4, 2, none⟩ = some (.int .i64 (sr : Int)) ∧ w'.cell? ⟨b4, 3, none⟩ = some (.int .i64 (sz : Int)) ∧ w'.cell? ⟨b1, 1, none⟩ = some (.int .i64 (t : Int)) ∧ w'.cell? ⟨b0, 0, none⟩ = some (.string cv)) w' from ⟨h, (G4.next h).cell 0, (G4.next h).cell 1, (G4.next h).cell 2, (G4.next h).cell 3, (G1.next h).cell 1, (G0.next h).cell 0⟩)
  have ht64 : IntKind.i64.wrap ((t : Int) * 64) = (t : Int) * 64 := IntWalk.i64_in _ (by omega)
  have hpe : ((place : Nat) : Int) = (place : Int) := rfl
  go_cut [11] (fun s11 wx => s11 = .bool ok ∧ Below V4.heap.size V4 wx)
  case first =>
    rcases HBC.out with ⟨c1, hr⟩ | ⟨c1, c2, hr⟩ | ⟨c1, c2, c3, hr⟩ | ⟨c1, c2, c3, c4, hr⟩ | ⟨c1, c2, c3, c4, c5, hr⟩ | ⟨c1, c2, c3, c4, c5, hr⟩
    · clear HBC
      try (have d1 : decide (1 ≤ (gn : Int)) = true := decide_eq_true (by omega))
      try (have d1 : decide (1 ≤ (gn : Int)) = false := decide_eq_false (by omega))
      try (have d2 : decide ((hf : Int) ≤ 1) = true := decide_eq_true (by omega))
      try (have d2 : decide ((hf : Int) ≤ 1) = false := decide_eq_false (by omega))
      try (have d3 : decide (1 ≤ (sr : Int)) = true := decide_eq_true (by omega))
      try (have d3 : decide (1 ≤ (sr : Int)) = false := decide_eq_false (by omega))
      try (have d4 : decide ((sz : Int) ≤ (t : Int) * 64) = true := decide_eq_true (by omega))
      try (have d4 : decide ((sz : Int) ≤ (t : Int) * 64) = false := decide_eq_false (by omega))
      try (have d5 : (((gn % 2 : Nat) : Int) == (place : Int)) = true := by rw [beq_iff_eq]; omega)
      try (have d5 : (((gn % 2 : Nat) : Int) == (place : Int)) = false := by rw [beq_eq_false_iff_ne]; omega)
      try clear c1
      try clear c2
      try clear c3
      try clear c4
      try clear c5
      have HR := hide hr
      clear hr
      obtain ⟨pz, hpz⟩ : ∃ z, ((gn % 2 : Nat) : Int) = z := ⟨_, rfl⟩
      try rw [hpz] at d5
      rw [hpz] at HPL
      clear hpz
      refine wp_region_noPanic ?_
      refine wp_region_held_drew (S := (fun w' => Below V4.heap.size V4 w' ∧ w'.cell? ⟨b4, 0, none⟩ = some (.int .i64 (gn : Int)) ∧ w'.cell? ⟨b4, 1, none⟩ = some (.int .i64 (hf : Int)) ∧ w'.cell? ⟨b4, 2, none⟩ = some (.int .i64 (sr : Int)) ∧ w'.cell? ⟨b4, 3, none⟩ = some (.int .i64 (sz : Int)) ∧ w'.cell? ⟨b1, 1, none⟩ = some (.int .i64 (t : Int)) ∧ w'.cell? ⟨b0, 0, none⟩ = some (.string cv))) (by kernel_rfl) ?_ (fun hHeld => ?_)
      · exact HK.out _ (Below.drewed (Below.refl _ _))
      refine wpAnyH_take (i := 0) (oi := { dst := some 25, op := Go.Op.fieldAddr 56 (Go.Operand.tmp 10) 0, type := 0, pos := "head.go:58", after := #[], guard := none }) (v := ?_) rfl (by kernel_rfl) (by kernel_rfl) (by kernel_rfl) (fun _ _ _ h => h) (Or.inl ⟨by rfl, ?_⟩) (by assumption) ?_
      rotate_left 1
      · intro w hSw
        try dsimp only at hSw
        first | (go_simp; done) | (go_simp; with_reducible rfl)
      try simp only [Act.put, List.setIfInBounds_toArray, List.set_cons_zero, List.set_cons_succ]
      refine wpAnyH_take (i := 1) (oi := { dst := some 26, op := Go.Op.load 3 (Go.Operand.tmp 25), type := 3, pos := "head.go:58", after := #[{ on := 0, ground := Go.Ground.data }], guard := none }) (v := ?_) rfl (by kernel_rfl) (by kernel_rfl) (by kernel_rfl) (fun _ _ _ h => h) (Or.inl ⟨by rfl, ?_⟩) (by assumption) ?_
      rotate_left 1
      · intro w hSw
        try dsimp only at hSw
        first | (go_simp; done) | (go_simp; with_reducible rfl)
      try simp only [Act.put, List.setIfInBounds_toArray, List.set_cons_zero, List.set_cons_succ]
      refine wpAnyH_take (i := 2) (oi := { dst := some 27, op := Go.Op.binOp Go.BinOp.geq 3 (Go.Operand.tmp 26) (Go.Operand.const (Go.Value.int Go.IntKind.i64 1)) 3, type := 4, pos := "head.go:58", after := #[{ on := 1, ground := Go.Ground.data }], guard := none }) (v := ?_) rfl (by kernel_rfl) (by kernel_rfl) (by kernel_rfl) (fun _ _ _ h => h) (Or.inl ⟨by rfl, ?_⟩) (by assumption) ?_
      rotate_left 1
      · intro w hSw
        try dsimp only at hSw
        first | (go_simp; done) | (go_simp; with_reducible rfl)
      try simp only [Act.put, List.setIfInBounds_toArray, List.set_cons_zero, List.set_cons_succ]
      refine wpAnyH_take (i := 3) (oi := { dst := some 28, op := Go.Op.move (Go.Operand.tmp 27), type := 4, pos := "head.go:58", after := #[{ on := 2, ground := Go.Ground.data }], guard := none }) (v := ?_) rfl (by kernel_rfl) (by kernel_rfl) (by kernel_rfl) (fun _ _ _ h => h) (Or.inl ⟨by rfl, ?_⟩) (by assumption) ?_
      rotate_left 1
      · intro w hSw
        try dsimp only at hSw
        first | (go_simp; done) | (go_simp; with_reducible rfl)
      try simp only [Act.put, List.setIfInBounds_toArray, List.set_cons_zero, List.set_cons_succ]
      refine wpAnyH_take (i := 4) (oi := { dst := some 29, op := Go.Op.fieldAddr 56 (Go.Operand.tmp 10) 1, type := 0, pos := "head.go:58", after := #[{ on := 3, ground := Go.Ground.guard }], guard := some (3, true) }) (v := undef) rfl (by kernel_rfl) (by kernel_rfl) (by kernel_rfl) (fun _ _ _ h => h) (Or.inr ⟨by rfl, rfl⟩) (by assumption) ?_
      try simp only [Act.put, List.setIfInBounds_toArray, List.set_cons_zero, List.set_cons_succ]
      refine wpAnyH_take (i := 5) (oi := { dst := some 30, op := Go.Op.load 3 (Go.Operand.tmp 29), type := 3, pos := "head.go:58", after := #[{ on := 4, ground := Go.Ground.data }, { on := 3, ground := Go.Ground.guard }], guard := some (3, true) }) (v := undef) rfl (by kernel_rfl) (by kernel_rfl) (by kernel_rfl) (fun _ _ _ h => h) (Or.inr ⟨by rfl, rfl⟩) (by assumption) ?_
      try simp only [Act.put, List.setIfInBounds_toArray, List.set_cons_zero, List.set_cons_succ]
      refine wpAnyH_take (i := 6) (oi := { dst := some 31, op := Go.Op.binOp Go.BinOp.leq 3 (Go.Operand.tmp 30) (Go.Operand.const (Go.Value.int Go.IntKind.i64 1)) 3, type := 4, pos := "head.go:58", after := #[{ on := 5, ground := Go.Ground.data }, { on := 3, ground := Go.Ground.guard }], guard := some (3, true) }) (v := undef) rfl (by kernel_rfl) (by kernel_rfl) (by kernel_rfl) (fun _ _ _ h => h) (Or.inr ⟨by rfl, rfl⟩) (by assumption) ?_
      try simp only [Act.put, List.setIfInBounds_toArray, List.set_cons_zero, List.set_cons_succ]
      refine wpAnyH_take (i := 7) (oi := { dst := some 32, op := Go.Op.pick (Go.Operand.tmp 28) (Go.Operand.tmp 31) (Go.Operand.const (Go.Value.bool false)), type := 4, pos := "head.go:58", after := #[{ on := 3, ground := Go.Ground.data }, { on := 6, ground := Go.Ground.data }], guard := none }) (v := ?_) rfl (by kernel_rfl) (by kernel_rfl) (by kernel_rfl) (fun _ _ _ h => h) (Or.inl ⟨by rfl, ?_⟩) (by assumption) ?_
      rotate_left 1
      · intro w hSw
        try dsimp only at hSw
        first | (go_simp; done) | (go_simp; with_reducible rfl)
      try simp only [Act.put, List.setIfInBounds_toArray, List.set_cons_zero, List.set_cons_succ]
      refine wpAnyH_take (i := 8) (oi := { dst := some 33, op := Go.Op.move (Go.Operand.tmp 32), type := 4, pos := "head.go:58", after := #[{ on := 7, ground := Go.Ground.data }, { on := 3, ground := Go.Ground.chain }], guard := none }) (v := ?_) rfl (by kernel_rfl) (by kernel_rfl) (by kernel_rfl) (fun _ _ _ h => h) (Or.inl ⟨by rfl, ?_⟩) (by assumption) ?_
      rotate_left 1
      · intro w hSw
        try dsimp only at hSw
        first | (go_simp; done) | (go_simp; with_reducible rfl)
      try simp only [Act.put, List.setIfInBounds_toArray, List.set_cons_zero, List.set_cons_succ]
      refine wpAnyH_take (i := 9) (oi := { dst := some 34, op := Go.Op.fieldAddr 56 (Go.Operand.tmp 10) 2, type := 0, pos := "head.go:58", after := #[{ on := 8, ground := Go.Ground.guard }], guard := some (8, true) }) (v := undef) rfl (by kernel_rfl) (by kernel_rfl) (by kernel_rfl) (fun _ _ _ h => h) (Or.inr ⟨by rfl, rfl⟩) (by assumption) ?_
      try simp only [Act.put, List.setIfInBounds_toArray, List.set_cons_zero, List.set_cons_succ]
      refine wpAnyH_take (i := 10) (oi := { dst := some 35, op := Go.Op.load 3 (Go.Operand.tmp 34), type := 3, pos := "head.go:58", after := #[{ on := 9, ground := Go.Ground.data }, { on := 8, ground := Go.Ground.guard }], guard := some (8, true) }) (v := undef) rfl (by kernel_rfl) (by kernel_rfl) (by kernel_rfl) (fun _ _ _ h => h) (Or.inr ⟨by rfl, rfl⟩) (by assumption) ?_
      try simp only [Act.put, List.setIfInBounds_toArray, List.set_cons_zero, List.set_cons_succ]
      refine wpAnyH_take (i := 11) (oi := { dst := some 36, op := Go.Op.binOp Go.BinOp.geq 3 (Go.Operand.tmp 35) (Go.Operand.const (Go.Value.int Go.IntKind.i64 1)) 3, type := 4, pos := "head.go:58", after := #[{ on := 10, ground := Go.Ground.data }, { on := 8, ground := Go.Ground.guard }], guard := some (8, true) }) (v := undef) rfl (by kernel_rfl) (by kernel_rfl) (by kernel_rfl) (fun _ _ _ h => h) (Or.inr ⟨by rfl, rfl⟩) (by assumption) ?_
      try simp only [Act.put, List.setIfInBounds_toArray, List.set_cons_zero, List.set_cons_succ]
      refine wpAnyH_take (i := 12) (oi := { dst := some 37, op := Go.Op.pick (Go.Operand.tmp 33) (Go.Operand.tmp 36) (Go.Operand.const (Go.Value.bool false)), type := 4, pos := "head.go:58", after := #[{ on := 8, ground := Go.Ground.data }, { on := 11, ground := Go.Ground.data }], guard := none }) (v := ?_) rfl (by kernel_rfl) (by kernel_rfl) (by kernel_rfl) (fun _ _ _ h => h) (Or.inl ⟨by rfl, ?_⟩) (by assumption) ?_
      rotate_left 1
      · intro w hSw
        try dsimp only at hSw
        first | (go_simp; done) | (go_simp; with_reducible rfl)
      try simp only [Act.put, List.setIfInBounds_toArray, List.set_cons_zero, List.set_cons_succ]
      refine wpAnyH_take (i := 13) (oi := { dst := some 38, op := Go.Op.move (Go.Operand.tmp 37), type := 4, pos := "head.go:58", after := #[{ on := 12, ground := Go.Ground.data }, { on := 8, ground := Go.Ground.chain }], guard := none }) (v := ?_) rfl (by kernel_rfl) (by kernel_rfl) (by kernel_rfl) (fun _ _ _ h => h) (Or.inl ⟨by rfl, ?_⟩) (by assumption) ?_
      rotate_left 1
      · intro w hSw
        try dsimp only at hSw
        first | (go_simp; done) | (go_simp; with_reducible rfl)
      try simp only [Act.put, List.setIfInBounds_toArray, List.set_cons_zero, List.set_cons_succ]
      refine wpAnyH_take (i := 14) (oi := { dst := some 39, op := Go.Op.fieldAddr 56 (Go.Operand.tmp 10) 3, type := 0, pos := "head.go:58", after := #[{ on := 13, ground := Go.Ground.guard }], guard := some (13, true) }) (v := undef) rfl (by kernel_rfl) (by kernel_rfl) (by kernel_rfl) (fun _ _ _ h => h) (Or.inr ⟨by rfl, rfl⟩) (by assumption) ?_
      try simp only [Act.put, List.setIfInBounds_toArray, List.set_cons_zero, List.set_cons_succ]
      refine wpAnyH_take (i := 15) (oi := { dst := some 40, op := Go.Op.load 3 (Go.Operand.tmp 39), type := 3, pos := "head.go:58", after := #[{ on := 14, ground := Go.Ground.data }, { on := 13, ground := Go.Ground.guard }], guard := some (13, true) }) (v := undef) rfl (by kernel_rfl) (by kernel_rfl) (by kernel_rfl) (fun _ _ _ h => h) (Or.inr ⟨by rfl, rfl⟩) (by assumption) ?_
      try simp only [Act.put, List.setIfInBounds_toArray, List.set_cons_zero, List.set_cons_succ]
      refine wpAnyH_take (i := 16) (oi := { dst := some 41, op := Go.Op.fieldAddr 27 (Go.Operand.tmp 5) 1, type := 0, pos := "head.go:58", after := #[{ on := 13, ground := Go.Ground.guard }], guard := some (13, true) }) (v := undef) rfl (by kernel_rfl) (by kernel_rfl) (by kernel_rfl) (fun _ _ _ h => h) (Or.inr ⟨by rfl, rfl⟩) (by assumption) ?_
      try simp only [Act.put, List.setIfInBounds_toArray, List.set_cons_zero, List.set_cons_succ]
      refine wpAnyH_take (i := 17) (oi := { dst := some 42, op := Go.Op.load 3 (Go.Operand.tmp 41), type := 3, pos := "head.go:58", after := #[{ on := 16, ground := Go.Ground.data }, { on := 13, ground := Go.Ground.guard }], guard := some (13, true) }) (v := undef) rfl (by kernel_rfl) (by kernel_rfl) (by kernel_rfl) (fun _ _ _ h => h) (Or.inr ⟨by rfl, rfl⟩) (by assumption) ?_
      try simp only [Act.put, List.setIfInBounds_toArray, List.set_cons_zero, List.set_cons_succ]
      refine wpAnyH_take (i := 18) (oi := { dst := some 43, op := Go.Op.binOp Go.BinOp.mul 3 (Go.Operand.tmp 42) (Go.Operand.const (Go.Value.int Go.IntKind.i64 64)) 3, type := 3, pos := "head.go:58", after := #[{ on := 17, ground := Go.Ground.data }, { on := 13, ground := Go.Ground.guard }], guard := some (13, true) }) (v := undef) rfl (by kernel_rfl) (by kernel_rfl) (by kernel_rfl) (fun _ _ _ h => h) (Or.inr ⟨by rfl, rfl⟩) (by assumption) ?_
      try simp only [Act.put, List.setIfInBounds_toArray, List.set_cons_zero, List.set_cons_succ]
      refine wpAnyH_take (i := 19) (oi := { dst := some 44, op := Go.Op.binOp Go.BinOp.leq 3 (Go.Operand.tmp 40) (Go.Operand.tmp 43) 3, type := 4, pos := "head.go:58", after := #[{ on := 15, ground := Go.Ground.data }, { on := 18, ground := Go.Ground.data }, { on := 13, ground := Go.Ground.guard }], guard := some (13, true) }) (v := undef) rfl (by kernel_rfl) (by kernel_rfl) (by kernel_rfl) (fun _ _ _ h => h) (Or.inr ⟨by rfl, rfl⟩) (by assumption) ?_
      try simp only [Act.put, List.setIfInBounds_toArray, List.set_cons_zero, List.set_cons_succ]
      refine wpAnyH_take (i := 20) (oi := { dst := some 45, op := Go.Op.pick (Go.Operand.tmp 38) (Go.Operand.tmp 44) (Go.Operand.const (Go.Value.bool false)), type := 4, pos := "head.go:58", after := #[{ on := 13, ground := Go.Ground.data }, { on := 19, ground := Go.Ground.data }], guard := none }) (v := ?_) rfl (by kernel_rfl) (by kernel_rfl) (by kernel_rfl) (fun _ _ _ h => h) (Or.inl ⟨by rfl, ?_⟩) (by assumption) ?_
      rotate_left 1
      · intro w hSw
        try dsimp only at hSw
        first | (go_simp; done) | (go_simp; with_reducible rfl)
      try simp only [Act.put, List.setIfInBounds_toArray, List.set_cons_zero, List.set_cons_succ]
      refine wpAnyH_take (i := 21) (oi := { dst := some 46, op := Go.Op.move (Go.Operand.tmp 45), type := 4, pos := "head.go:58", after := #[{ on := 20, ground := Go.Ground.data }, { on := 13, ground := Go.Ground.chain }], guard := none }) (v := ?_) rfl (by kernel_rfl) (by kernel_rfl) (by kernel_rfl) (fun _ _ _ h => h) (Or.inl ⟨by rfl, ?_⟩) (by assumption) ?_
      rotate_left 1
      · intro w hSw
        try dsimp only at hSw
        first | (go_simp; done) | (go_simp; with_reducible rfl)
      try simp only [Act.put, List.setIfInBounds_toArray, List.set_cons_zero, List.set_cons_succ]
      refine wpAnyH_take (i := 22) (oi := { dst := some 47, op := Go.Op.load 56 (Go.Operand.tmp 10), type := 56, pos := "head.go:58", after := #[{ on := 21, ground := Go.Ground.guard }], guard := some (21, true) }) (v := undef) rfl (by kernel_rfl) (by kernel_rfl) (by kernel_rfl) (fun _ _ _ h => h) (Or.inr ⟨by rfl, rfl⟩) (by assumption) ?_
      try simp only [Act.put, List.setIfInBounds_toArray, List.set_cons_zero, List.set_cons_succ]
      refine wpAnyH_take (i := 23) (oi := { dst := some 48, op := Go.Op.call { callee := Go.Callee.value (Go.Operand.func 48), args := #[Go.Operand.tmp 47], argTypes := #[56] }, type := 3, pos := "head.go:59", after := #[{ on := 22, ground := Go.Ground.data }, { on := 21, ground := Go.Ground.chain }, { on := 21, ground := Go.Ground.guard }], guard := some (21, true) }) (v := undef) rfl (by kernel_rfl) (by kernel_rfl) (by kernel_rfl) (fun _ _ _ h => h) (Or.inr ⟨by rfl, rfl⟩) (by assumption) ?_
      try simp only [Act.put, List.setIfInBounds_toArray, List.set_cons_zero, List.set_cons_succ]
      refine wpAnyH_take (i := 24) (oi := { dst := some 49, op := Go.Op.move (Go.Operand.tmp 1), type := 3, pos := "head.go:58", after := #[{ on := 21, ground := Go.Ground.guard }], guard := some (21, true) }) (v := undef) rfl (by kernel_rfl) (by kernel_rfl) (by kernel_rfl) (fun _ _ _ h => h) (Or.inr ⟨by rfl, rfl⟩) (by assumption) ?_
      try simp only [Act.put, List.setIfInBounds_toArray, List.set_cons_zero, List.set_cons_succ]
      refine wpAnyH_take (i := 25) (oi := { dst := some 50, op := Go.Op.binOp Go.BinOp.eql 3 (Go.Operand.tmp 48) (Go.Operand.tmp 49) 3, type := 4, pos := "head.go:58", after := #[{ on := 23, ground := Go.Ground.data }, { on := 24, ground := Go.Ground.data }, { on := 21, ground := Go.Ground.guard }], guard := some (21, true) }) (v := undef) rfl (by kernel_rfl) (by kernel_rfl) (by kernel_rfl) (fun _ _ _ h => h) (Or.inr ⟨by rfl, rfl⟩) (by assumption) ?_
      try simp only [Act.put, List.setIfInBounds_toArray, List.set_cons_zero, List.set_cons_succ]
      refine wpAnyH_take (i := 26) (oi := { dst := some 51, op := Go.Op.pick (Go.Operand.tmp 46) (Go.Operand.tmp 50) (Go.Operand.const (Go.Value.bool false)), type := 4, pos := "head.go:58", after := #[{ on := 21, ground := Go.Ground.data }, { on := 25, ground := Go.Ground.data }], guard := none }) (v := ?_) rfl (by kernel_rfl) (by kernel_rfl) (by kernel_rfl) (fun _ _ _ h => h) (Or.inl ⟨by rfl, ?_⟩) (by assumption) ?_
      rotate_left 1
      · intro w hSw
        try dsimp only at hSw
        first | (go_simp; done) | (go_simp; with_reducible rfl)
      try simp only [Act.put, List.setIfInBounds_toArray, List.set_cons_zero, List.set_cons_succ]
      refine wpAnyH_take (i := 27) (oi := { dst := some 52, op := Go.Op.move (Go.Operand.tmp 51), type := 4, pos := "head.go:58", after := #[{ on := 26, ground := Go.Ground.data }, { on := 23, ground := Go.Ground.chain }], guard := none }) (v := ?_) rfl (by kernel_rfl) (by kernel_rfl) (by kernel_rfl) (fun _ _ _ h => h) (Or.inl ⟨by rfl, ?_⟩) (by assumption) ?_
      rotate_left 1
      · intro w hSw
        try dsimp only at hSw
        first | (go_simp; done) | (go_simp; with_reducible rfl)
      try simp only [Act.put, List.setIfInBounds_toArray, List.set_cons_zero, List.set_cons_succ]
      refine wpAnyH_take (i := 28) (oi := { dst := some 53, op := Go.Op.load 56 (Go.Operand.tmp 10), type := 56, pos := "head.go:58", after := #[{ on := 27, ground := Go.Ground.guard }], guard := some (27, true) }) (v := undef) rfl (by kernel_rfl) (by kernel_rfl) (by kernel_rfl) (fun _ _ _ h => h) (Or.inr ⟨by rfl, rfl⟩) (by assumption) ?_
      try simp only [Act.put, List.setIfInBounds_toArray, List.set_cons_zero, List.set_cons_succ]
      refine wpAnyH_take (i := 29) (oi := { dst := some 54, op := Go.Op.call { callee := Go.Callee.value (Go.Operand.func 49), args := #[Go.Operand.tmp 53], argTypes := #[56] }, type := 9, pos := "head.go:59", after := #[{ on := 28, ground := Go.Ground.data }, { on := 27, ground := Go.Ground.chain }, { on := 27, ground := Go.Ground.guard }], guard := some (27, true) }) (v := undef) rfl (by kernel_rfl) (by kernel_rfl) (by kernel_rfl) (fun _ _ _ h => h) (Or.inr ⟨by rfl, rfl⟩) (by assumption) ?_
      try simp only [Act.put, List.setIfInBounds_toArray, List.set_cons_zero, List.set_cons_succ]
      refine wpAnyH_take (i := 30) (oi := { dst := some 55, op := Go.Op.load 9 (Go.Operand.tmp 3), type := 9, pos := "head.go:58", after := #[{ on := 27, ground := Go.Ground.guard }], guard := some (27, true) }) (v := undef) rfl (by kernel_rfl) (by kernel_rfl) (by kernel_rfl) (fun _ _ _ h => h) (Or.inr ⟨by rfl, rfl⟩) (by assumption) ?_
      try simp only [Act.put, List.setIfInBounds_toArray, List.set_cons_zero, List.set_cons_succ]
      refine wpAnyH_take (i := 31) (oi := { dst := some 56, op := Go.Op.binOp Go.BinOp.eql 9 (Go.Operand.tmp 54) (Go.Operand.tmp 55) 9, type := 4, pos := "head.go:58", after := #[{ on := 29, ground := Go.Ground.data }, { on := 30, ground := Go.Ground.data }, { on := 27, ground := Go.Ground.guard }], guard := some (27, true) }) (v := undef) rfl (by kernel_rfl) (by kernel_rfl) (by kernel_rfl) (fun _ _ _ h => h) (Or.inr ⟨by rfl, rfl⟩) (by assumption) ?_
      try simp only [Act.put, List.setIfInBounds_toArray, List.set_cons_zero, List.set_cons_succ]
      refine wpAnyH_take (i := 32) (oi := { dst := some 57, op := Go.Op.pick (Go.Operand.tmp 52) (Go.Operand.tmp 56) (Go.Operand.const (Go.Value.bool false)), type := 4, pos := "head.go:58", after := #[{ on := 27, ground := Go.Ground.data }, { on := 31, ground := Go.Ground.data }], guard := none }) (v := ?_) rfl (by kernel_rfl) (by kernel_rfl) (by kernel_rfl) (fun _ _ _ h => h) (Or.inl ⟨by rfl, ?_⟩) (by assumption) ?_
      rotate_left 1
      · intro w hSw
        try dsimp only at hSw
        first | (go_simp; done) | (go_simp; with_reducible rfl)
      try simp only [Act.put, List.setIfInBounds_toArray, List.set_cons_zero, List.set_cons_succ]
      refine wpAnyH_ready (rs := [33]) (by kernel_rfl) (by simp) ?_
      refine AllReadyH.cons (o := { dst := some 11, op := Go.Op.assign (Go.Operand.tmp 57), type := 4, pos := "head.go:58", after := #[{ on := 32, ground := Go.Ground.data }, { on := 29, ground := Go.Ground.chain }, { on := 0, ground := Go.Ground.phase }, { on := 1, ground := Go.Ground.phase }, { on := 2, ground := Go.Ground.phase }, { on := 3, ground := Go.Ground.phase }, { on := 4, ground := Go.Ground.phase }, { on := 5, ground := Go.Ground.phase }, { on := 6, ground := Go.Ground.phase }, { on := 7, ground := Go.Ground.phase }, { on := 8, ground := Go.Ground.phase }, { on := 9, ground := Go.Ground.phase }, { on := 10, ground := Go.Ground.phase }, { on := 11, ground := Go.Ground.phase }, { on := 12, ground := Go.Ground.phase }, { on := 13, ground := Go.Ground.phase }, { on := 14, ground := Go.Ground.phase }, { on := 15, ground := Go.Ground.phase }, { on := 16, ground := Go.Ground.phase }, { on := 17, ground := Go.Ground.phase }, { on := 18, ground := Go.Ground.phase }, { on := 19, ground := Go.Ground.phase }, { on := 20, ground := Go.Ground.phase }, { on := 21, ground := Go.Ground.phase }, { on := 22, ground := Go.Ground.phase }, { on := 23, ground := Go.Ground.phase }, { on := 24, ground := Go.Ground.phase }, { on := 25, ground := Go.Ground.phase }, { on := 26, ground := Go.Ground.phase }, { on := 27, ground := Go.Ground.phase }, { on := 28, ground := Go.Ground.phase }, { on := 29, ground := Go.Ground.phase }, { on := 30, ground := Go.Ground.phase }, { on := 31, ground := Go.Ground.phase }, { on := 32, ground := Go.Ground.phase }], guard := none }) rfl (fun K hK => ?_) ?_
      rotate_left 1
      · exact AllReadyH.nil
      go_simp
      refine hK.out _ _ ?_ (fun hHeld2 => ?_)
      · first | exact hHeld | (exact HK.out _ hbq.out)
      clear hK K
      try simp only [Act.put, List.setIfInBounds_toArray, List.set_cons_zero, List.set_cons_succ]
      clear hHeld
      have hHeld := hHeld2
      clear hHeld2
      refine wpAnyH_done (by kernel_rfl) ?_ _
      refine NoPanic.normal ?_
      try dsimp only
      go_wp2_with fail
      go_meet
      rw [HR.out]
      exact ⟨rfl, Below.drewed (Below.refl _ _)⟩
    · clear HBC
      try (have d1 : decide (1 ≤ (gn : Int)) = true := decide_eq_true (by omega))
      try (have d1 : decide (1 ≤ (gn : Int)) = false := decide_eq_false (by omega))
      try (have d2 : decide ((hf : Int) ≤ 1) = true := decide_eq_true (by omega))
      try (have d2 : decide ((hf : Int) ≤ 1) = false := decide_eq_false (by omega))
      try (have d3 : decide (1 ≤ (sr : Int)) = true := decide_eq_true (by omega))
      try (have d3 : decide (1 ≤ (sr : Int)) = false := decide_eq_false (by omega))
      try (have d4 : decide ((sz : Int) ≤ (t : Int) * 64) = true := decide_eq_true (by omega))
      try (have d4 : decide ((sz : Int) ≤ (t : Int) * 64) = false := decide_eq_false (by omega))
      try (have d5 : (((gn % 2 : Nat) : Int) == (place : Int)) = true := by rw [beq_iff_eq]; omega)
      try (have d5 : (((gn % 2 : Nat) : Int) == (place : Int)) = false := by rw [beq_eq_false_iff_ne]; omega)
      try clear c1
      try clear c2
      try clear c3
      try clear c4
      try clear c5
      have HR := hide hr
      clear hr
      obtain ⟨pz, hpz⟩ : ∃ z, ((gn % 2 : Nat) : Int) = z := ⟨_, rfl⟩
      try rw [hpz] at d5
      rw [hpz] at HPL
      clear hpz
      refine wp_region_noPanic ?_
      refine wp_region_held_drew (S := (fun w' => Below V4.heap.size V4 w' ∧ w'.cell? ⟨b4, 0, none⟩ = some (.int .i64 (gn : Int)) ∧ w'.cell? ⟨b4, 1, none⟩ = some (.int .i64 (hf : Int)) ∧ w'.cell? ⟨b4, 2, none⟩ = some (.int .i64 (sr : Int)) ∧ w'.cell? ⟨b4, 3, none⟩ = some (.int .i64 (sz : Int)) ∧ w'.cell? ⟨b1, 1, none⟩ = some (.int .i64 (t : Int)) ∧ w'.cell? ⟨b0, 0, none⟩ = some (.string cv))) (by kernel_rfl) ?_ (fun hHeld => ?_)
      · exact HK.out _ (Below.drewed (Below.refl _ _))
      refine wpAnyH_take (i := 0) (oi := { dst := some 25, op := Go.Op.fieldAddr 56 (Go.Operand.tmp 10) 0, type := 0, pos := "head.go:58", after := #[], guard := none }) (v := ?_) rfl (by kernel_rfl) (by kernel_rfl) (by kernel_rfl) (fun _ _ _ h => h) (Or.inl ⟨by rfl, ?_⟩) (by assumption) ?_
      rotate_left 1
      · intro w hSw
        try dsimp only at hSw
        first | (go_simp; done) | (go_simp; with_reducible rfl)
      try simp only [Act.put, List.setIfInBounds_toArray, List.set_cons_zero, List.set_cons_succ]
      refine wpAnyH_take (i := 1) (oi := { dst := some 26, op := Go.Op.load 3 (Go.Operand.tmp 25), type := 3, pos := "head.go:58", after := #[{ on := 0, ground := Go.Ground.data }], guard := none }) (v := ?_) rfl (by kernel_rfl) (by kernel_rfl) (by kernel_rfl) (fun _ _ _ h => h) (Or.inl ⟨by rfl, ?_⟩) (by assumption) ?_
      rotate_left 1
      · intro w hSw
        try dsimp only at hSw
        first | (go_simp; done) | (go_simp; with_reducible rfl)
      try simp only [Act.put, List.setIfInBounds_toArray, List.set_cons_zero, List.set_cons_succ]
      refine wpAnyH_take (i := 2) (oi := { dst := some 27, op := Go.Op.binOp Go.BinOp.geq 3 (Go.Operand.tmp 26) (Go.Operand.const (Go.Value.int Go.IntKind.i64 1)) 3, type := 4, pos := "head.go:58", after := #[{ on := 1, ground := Go.Ground.data }], guard := none }) (v := ?_) rfl (by kernel_rfl) (by kernel_rfl) (by kernel_rfl) (fun _ _ _ h => h) (Or.inl ⟨by rfl, ?_⟩) (by assumption) ?_
      rotate_left 1
      · intro w hSw
        try dsimp only at hSw
        first | (go_simp; done) | (go_simp; with_reducible rfl)
      try simp only [Act.put, List.setIfInBounds_toArray, List.set_cons_zero, List.set_cons_succ]
      refine wpAnyH_take (i := 3) (oi := { dst := some 28, op := Go.Op.move (Go.Operand.tmp 27), type := 4, pos := "head.go:58", after := #[{ on := 2, ground := Go.Ground.data }], guard := none }) (v := ?_) rfl (by kernel_rfl) (by kernel_rfl) (by kernel_rfl) (fun _ _ _ h => h) (Or.inl ⟨by rfl, ?_⟩) (by assumption) ?_
      rotate_left 1
      · intro w hSw
        try dsimp only at hSw
        first | (go_simp; done) | (go_simp; with_reducible rfl)
      try simp only [Act.put, List.setIfInBounds_toArray, List.set_cons_zero, List.set_cons_succ]
      refine wpAnyH_take (i := 4) (oi := { dst := some 29, op := Go.Op.fieldAddr 56 (Go.Operand.tmp 10) 1, type := 0, pos := "head.go:58", after := #[{ on := 3, ground := Go.Ground.guard }], guard := some (3, true) }) (v := ?_) rfl (by kernel_rfl) (by kernel_rfl) (by kernel_rfl) (fun _ _ _ h => h) (Or.inl ⟨by rfl, ?_⟩) (by assumption) ?_
      rotate_left 1
      · intro w hSw
        try dsimp only at hSw
        first | (go_simp; done) | (go_simp; with_reducible rfl)
      try simp only [Act.put, List.setIfInBounds_toArray, List.set_cons_zero, List.set_cons_succ]
      refine wpAnyH_take (i := 5) (oi := { dst := some 30, op := Go.Op.load 3 (Go.Operand.tmp 29), type := 3, pos := "head.go:58", after := #[{ on := 4, ground := Go.Ground.data }, { on := 3, ground := Go.Ground.guard }], guard := some (3, true) }) (v := ?_) rfl (by kernel_rfl) (by kernel_rfl) (by kernel_rfl) (fun _ _ _ h => h) (Or.inl ⟨by rfl, ?_⟩) (by assumption) ?_
      rotate_left 1
      · intro w hSw
        try dsimp only at hSw
        first | (go_simp; done) | (go_simp; with_reducible rfl)
      try simp only [Act.put, List.setIfInBounds_toArray, List.set_cons_zero, List.set_cons_succ]
      refine wpAnyH_take (i := 6) (oi := { dst := some 31, op := Go.Op.binOp Go.BinOp.leq 3 (Go.Operand.tmp 30) (Go.Operand.const (Go.Value.int Go.IntKind.i64 1)) 3, type := 4, pos := "head.go:58", after := #[{ on := 5, ground := Go.Ground.data }, { on := 3, ground := Go.Ground.guard }], guard := some (3, true) }) (v := ?_) rfl (by kernel_rfl) (by kernel_rfl) (by kernel_rfl) (fun _ _ _ h => h) (Or.inl ⟨by rfl, ?_⟩) (by assumption) ?_
      rotate_left 1
      · intro w hSw
        try dsimp only at hSw
        first | (go_simp; done) | (go_simp; with_reducible rfl)
      try simp only [Act.put, List.setIfInBounds_toArray, List.set_cons_zero, List.set_cons_succ]
      refine wpAnyH_take (i := 7) (oi := { dst := some 32, op := Go.Op.pick (Go.Operand.tmp 28) (Go.Operand.tmp 31) (Go.Operand.const (Go.Value.bool false)), type := 4, pos := "head.go:58", after := #[{ on := 3, ground := Go.Ground.data }, { on := 6, ground := Go.Ground.data }], guard := none }) (v := ?_) rfl (by kernel_rfl) (by kernel_rfl) (by kernel_rfl) (fun _ _ _ h => h) (Or.inl ⟨by rfl, ?_⟩) (by assumption) ?_
      rotate_left 1
      · intro w hSw
        try dsimp only at hSw
        first | (go_simp; done) | (go_simp; with_reducible rfl)
      try simp only [Act.put, List.setIfInBounds_toArray, List.set_cons_zero, List.set_cons_succ]
      refine wpAnyH_take (i := 8) (oi := { dst := some 33, op := Go.Op.move (Go.Operand.tmp 32), type := 4, pos := "head.go:58", after := #[{ on := 7, ground := Go.Ground.data }, { on := 3, ground := Go.Ground.chain }], guard := none }) (v := ?_) rfl (by kernel_rfl) (by kernel_rfl) (by kernel_rfl) (fun _ _ _ h => h) (Or.inl ⟨by rfl, ?_⟩) (by assumption) ?_
      rotate_left 1
      · intro w hSw
        try dsimp only at hSw
        first | (go_simp; done) | (go_simp; with_reducible rfl)
      try simp only [Act.put, List.setIfInBounds_toArray, List.set_cons_zero, List.set_cons_succ]
      refine wpAnyH_take (i := 9) (oi := { dst := some 34, op := Go.Op.fieldAddr 56 (Go.Operand.tmp 10) 2, type := 0, pos := "head.go:58", after := #[{ on := 8, ground := Go.Ground.guard }], guard := some (8, true) }) (v := undef) rfl (by kernel_rfl) (by kernel_rfl) (by kernel_rfl) (fun _ _ _ h => h) (Or.inr ⟨by rfl, rfl⟩) (by assumption) ?_
      try simp only [Act.put, List.setIfInBounds_toArray, List.set_cons_zero, List.set_cons_succ]
      refine wpAnyH_take (i := 10) (oi := { dst := some 35, op := Go.Op.load 3 (Go.Operand.tmp 34), type := 3, pos := "head.go:58", after := #[{ on := 9, ground := Go.Ground.data }, { on := 8, ground := Go.Ground.guard }], guard := some (8, true) }) (v := undef) rfl (by kernel_rfl) (by kernel_rfl) (by kernel_rfl) (fun _ _ _ h => h) (Or.inr ⟨by rfl, rfl⟩) (by assumption) ?_
      try simp only [Act.put, List.setIfInBounds_toArray, List.set_cons_zero, List.set_cons_succ]
      refine wpAnyH_take (i := 11) (oi := { dst := some 36, op := Go.Op.binOp Go.BinOp.geq 3 (Go.Operand.tmp 35) (Go.Operand.const (Go.Value.int Go.IntKind.i64 1)) 3, type := 4, pos := "head.go:58", after := #[{ on := 10, ground := Go.Ground.data }, { on := 8, ground := Go.Ground.guard }], guard := some (8, true) }) (v := undef) rfl (by kernel_rfl) (by kernel_rfl) (by kernel_rfl) (fun _ _ _ h => h) (Or.inr ⟨by rfl, rfl⟩) (by assumption) ?_
      try simp only [Act.put, List.setIfInBounds_toArray, List.set_cons_zero, List.set_cons_succ]
      refine wpAnyH_take (i := 12) (oi := { dst := some 37, op := Go.Op.pick (Go.Operand.tmp 33) (Go.Operand.tmp 36) (Go.Operand.const (Go.Value.bool false)), type := 4, pos := "head.go:58", after := #[{ on := 8, ground := Go.Ground.data }, { on := 11, ground := Go.Ground.data }], guard := none }) (v := ?_) rfl (by kernel_rfl) (by kernel_rfl) (by kernel_rfl) (fun _ _ _ h => h) (Or.inl ⟨by rfl, ?_⟩) (by assumption) ?_
      rotate_left 1
      · intro w hSw
        try dsimp only at hSw
        first | (go_simp; done) | (go_simp; with_reducible rfl)
      try simp only [Act.put, List.setIfInBounds_toArray, List.set_cons_zero, List.set_cons_succ]
      refine wpAnyH_take (i := 13) (oi := { dst := some 38, op := Go.Op.move (Go.Operand.tmp 37), type := 4, pos := "head.go:58", after := #[{ on := 12, ground := Go.Ground.data }, { on := 8, ground := Go.Ground.chain }], guard := none }) (v := ?_) rfl (by kernel_rfl) (by kernel_rfl) (by kernel_rfl) (fun _ _ _ h => h) (Or.inl ⟨by rfl, ?_⟩) (by assumption) ?_
      rotate_left 1
      · intro w hSw
        try dsimp only at hSw
        first | (go_simp; done) | (go_simp; with_reducible rfl)
      try simp only [Act.put, List.setIfInBounds_toArray, List.set_cons_zero, List.set_cons_succ]
      refine wpAnyH_take (i := 14) (oi := { dst := some 39, op := Go.Op.fieldAddr 56 (Go.Operand.tmp 10) 3, type := 0, pos := "head.go:58", after := #[{ on := 13, ground := Go.Ground.guard }], guard := some (13, true) }) (v := undef) rfl (by kernel_rfl) (by kernel_rfl) (by kernel_rfl) (fun _ _ _ h => h) (Or.inr ⟨by rfl, rfl⟩) (by assumption) ?_
      try simp only [Act.put, List.setIfInBounds_toArray, List.set_cons_zero, List.set_cons_succ]
      refine wpAnyH_take (i := 15) (oi := { dst := some 40, op := Go.Op.load 3 (Go.Operand.tmp 39), type := 3, pos := "head.go:58", after := #[{ on := 14, ground := Go.Ground.data }, { on := 13, ground := Go.Ground.guard }], guard := some (13, true) }) (v := undef) rfl (by kernel_rfl) (by kernel_rfl) (by kernel_rfl) (fun _ _ _ h => h) (Or.inr ⟨by rfl, rfl⟩) (by assumption) ?_
      try simp only [Act.put, List.setIfInBounds_toArray, List.set_cons_zero, List.set_cons_succ]
      refine wpAnyH_take (i := 16) (oi := { dst := some 41, op := Go.Op.fieldAddr 27 (Go.Operand.tmp 5) 1, type := 0, pos := "head.go:58", after := #[{ on := 13, ground := Go.Ground.guard }], guard := some (13, true) }) (v := undef) rfl (by kernel_rfl) (by kernel_rfl) (by kernel_rfl) (fun _ _ _ h => h) (Or.inr ⟨by rfl, rfl⟩) (by assumption) ?_
      try simp only [Act.put, List.setIfInBounds_toArray, List.set_cons_zero, List.set_cons_succ]
      refine wpAnyH_take (i := 17) (oi := { dst := some 42, op := Go.Op.load 3 (Go.Operand.tmp 41), type := 3, pos := "head.go:58", after := #[{ on := 16, ground := Go.Ground.data }, { on := 13, ground := Go.Ground.guard }], guard := some (13, true) }) (v := undef) rfl (by kernel_rfl) (by kernel_rfl) (by kernel_rfl) (fun _ _ _ h => h) (Or.inr ⟨by rfl, rfl⟩) (by assumption) ?_
      try simp only [Act.put, List.setIfInBounds_toArray, List.set_cons_zero, List.set_cons_succ]
      refine wpAnyH_take (i := 18) (oi := { dst := some 43, op := Go.Op.binOp Go.BinOp.mul 3 (Go.Operand.tmp 42) (Go.Operand.const (Go.Value.int Go.IntKind.i64 64)) 3, type := 3, pos := "head.go:58", after := #[{ on := 17, ground := Go.Ground.data }, { on := 13, ground := Go.Ground.guard }], guard := some (13, true) }) (v := undef) rfl (by kernel_rfl) (by kernel_rfl) (by kernel_rfl) (fun _ _ _ h => h) (Or.inr ⟨by rfl, rfl⟩) (by assumption) ?_
      try simp only [Act.put, List.setIfInBounds_toArray, List.set_cons_zero, List.set_cons_succ]
      refine wpAnyH_take (i := 19) (oi := { dst := some 44, op := Go.Op.binOp Go.BinOp.leq 3 (Go.Operand.tmp 40) (Go.Operand.tmp 43) 3, type := 4, pos := "head.go:58", after := #[{ on := 15, ground := Go.Ground.data }, { on := 18, ground := Go.Ground.data }, { on := 13, ground := Go.Ground.guard }], guard := some (13, true) }) (v := undef) rfl (by kernel_rfl) (by kernel_rfl) (by kernel_rfl) (fun _ _ _ h => h) (Or.inr ⟨by rfl, rfl⟩) (by assumption) ?_
      try simp only [Act.put, List.setIfInBounds_toArray, List.set_cons_zero, List.set_cons_succ]
      refine wpAnyH_take (i := 20) (oi := { dst := some 45, op := Go.Op.pick (Go.Operand.tmp 38) (Go.Operand.tmp 44) (Go.Operand.const (Go.Value.bool false)), type := 4, pos := "head.go:58", after := #[{ on := 13, ground := Go.Ground.data }, { on := 19, ground := Go.Ground.data }], guard := none }) (v := ?_) rfl (by kernel_rfl) (by kernel_rfl) (by kernel_rfl) (fun _ _ _ h => h) (Or.inl ⟨by rfl, ?_⟩) (by assumption) ?_
      rotate_left 1
      · intro w hSw
        try dsimp only at hSw
        first | (go_simp; done) | (go_simp; with_reducible rfl)
      try simp only [Act.put, List.setIfInBounds_toArray, List.set_cons_zero, List.set_cons_succ]
      refine wpAnyH_take (i := 21) (oi := { dst := some 46, op := Go.Op.move (Go.Operand.tmp 45), type := 4, pos := "head.go:58", after := #[{ on := 20, ground := Go.Ground.data }, { on := 13, ground := Go.Ground.chain }], guard := none }) (v := ?_) rfl (by kernel_rfl) (by kernel_rfl) (by kernel_rfl) (fun _ _ _ h => h) (Or.inl ⟨by rfl, ?_⟩) (by assumption) ?_
      rotate_left 1
      · intro w hSw
        try dsimp only at hSw
        first | (go_simp; done) | (go_simp; with_reducible rfl)
      try simp only [Act.put, List.setIfInBounds_toArray, List.set_cons_zero, List.set_cons_succ]
      refine wpAnyH_take (i := 22) (oi := { dst := some 47, op := Go.Op.load 56 (Go.Operand.tmp 10), type := 56, pos := "head.go:58", after := #[{ on := 21, ground := Go.Ground.guard }], guard := some (21, true) }) (v := undef) rfl (by kernel_rfl) (by kernel_rfl) (by kernel_rfl) (fun _ _ _ h => h) (Or.inr ⟨by rfl, rfl⟩) (by assumption) ?_
      try simp only [Act.put, List.setIfInBounds_toArray, List.set_cons_zero, List.set_cons_succ]
      refine wpAnyH_take (i := 23) (oi := { dst := some 48, op := Go.Op.call { callee := Go.Callee.value (Go.Operand.func 48), args := #[Go.Operand.tmp 47], argTypes := #[56] }, type := 3, pos := "head.go:59", after := #[{ on := 22, ground := Go.Ground.data }, { on := 21, ground := Go.Ground.chain }, { on := 21, ground := Go.Ground.guard }], guard := some (21, true) }) (v := undef) rfl (by kernel_rfl) (by kernel_rfl) (by kernel_rfl) (fun _ _ _ h => h) (Or.inr ⟨by rfl, rfl⟩) (by assumption) ?_
      try simp only [Act.put, List.setIfInBounds_toArray, List.set_cons_zero, List.set_cons_succ]
      refine wpAnyH_take (i := 24) (oi := { dst := some 49, op := Go.Op.move (Go.Operand.tmp 1), type := 3, pos := "head.go:58", after := #[{ on := 21, ground := Go.Ground.guard }], guard := some (21, true) }) (v := undef) rfl (by kernel_rfl) (by kernel_rfl) (by kernel_rfl) (fun _ _ _ h => h) (Or.inr ⟨by rfl, rfl⟩) (by assumption) ?_
      try simp only [Act.put, List.setIfInBounds_toArray, List.set_cons_zero, List.set_cons_succ]
      refine wpAnyH_take (i := 25) (oi := { dst := some 50, op := Go.Op.binOp Go.BinOp.eql 3 (Go.Operand.tmp 48) (Go.Operand.tmp 49) 3, type := 4, pos := "head.go:58", after := #[{ on := 23, ground := Go.Ground.data }, { on := 24, ground := Go.Ground.data }, { on := 21, ground := Go.Ground.guard }], guard := some (21, true) }) (v := undef) rfl (by kernel_rfl) (by kernel_rfl) (by kernel_rfl) (fun _ _ _ h => h) (Or.inr ⟨by rfl, rfl⟩) (by assumption) ?_
      try simp only [Act.put, List.setIfInBounds_toArray, List.set_cons_zero, List.set_cons_succ]
      refine wpAnyH_take (i := 26) (oi := { dst := some 51, op := Go.Op.pick (Go.Operand.tmp 46) (Go.Operand.tmp 50) (Go.Operand.const (Go.Value.bool false)), type := 4, pos := "head.go:58", after := #[{ on := 21, ground := Go.Ground.data }, { on := 25, ground := Go.Ground.data }], guard := none }) (v := ?_) rfl (by kernel_rfl) (by kernel_rfl) (by kernel_rfl) (fun _ _ _ h => h) (Or.inl ⟨by rfl, ?_⟩) (by assumption) ?_
      rotate_left 1
      · intro w hSw
        try dsimp only at hSw
        first | (go_simp; done) | (go_simp; with_reducible rfl)
      try simp only [Act.put, List.setIfInBounds_toArray, List.set_cons_zero, List.set_cons_succ]
      refine wpAnyH_take (i := 27) (oi := { dst := some 52, op := Go.Op.move (Go.Operand.tmp 51), type := 4, pos := "head.go:58", after := #[{ on := 26, ground := Go.Ground.data }, { on := 23, ground := Go.Ground.chain }], guard := none }) (v := ?_) rfl (by kernel_rfl) (by kernel_rfl) (by kernel_rfl) (fun _ _ _ h => h) (Or.inl ⟨by rfl, ?_⟩) (by assumption) ?_
      rotate_left 1
      · intro w hSw
        try dsimp only at hSw
        first | (go_simp; done) | (go_simp; with_reducible rfl)
      try simp only [Act.put, List.setIfInBounds_toArray, List.set_cons_zero, List.set_cons_succ]
      refine wpAnyH_take (i := 28) (oi := { dst := some 53, op := Go.Op.load 56 (Go.Operand.tmp 10), type := 56, pos := "head.go:58", after := #[{ on := 27, ground := Go.Ground.guard }], guard := some (27, true) }) (v := undef) rfl (by kernel_rfl) (by kernel_rfl) (by kernel_rfl) (fun _ _ _ h => h) (Or.inr ⟨by rfl, rfl⟩) (by assumption) ?_
      try simp only [Act.put, List.setIfInBounds_toArray, List.set_cons_zero, List.set_cons_succ]
      refine wpAnyH_take (i := 29) (oi := { dst := some 54, op := Go.Op.call { callee := Go.Callee.value (Go.Operand.func 49), args := #[Go.Operand.tmp 53], argTypes := #[56] }, type := 9, pos := "head.go:59", after := #[{ on := 28, ground := Go.Ground.data }, { on := 27, ground := Go.Ground.chain }, { on := 27, ground := Go.Ground.guard }], guard := some (27, true) }) (v := undef) rfl (by kernel_rfl) (by kernel_rfl) (by kernel_rfl) (fun _ _ _ h => h) (Or.inr ⟨by rfl, rfl⟩) (by assumption) ?_
      try simp only [Act.put, List.setIfInBounds_toArray, List.set_cons_zero, List.set_cons_succ]
      refine wpAnyH_take (i := 30) (oi := { dst := some 55, op := Go.Op.load 9 (Go.Operand.tmp 3), type := 9, pos := "head.go:58", after := #[{ on := 27, ground := Go.Ground.guard }], guard := some (27, true) }) (v := undef) rfl (by kernel_rfl) (by kernel_rfl) (by kernel_rfl) (fun _ _ _ h => h) (Or.inr ⟨by rfl, rfl⟩) (by assumption) ?_
      try simp only [Act.put, List.setIfInBounds_toArray, List.set_cons_zero, List.set_cons_succ]
      refine wpAnyH_take (i := 31) (oi := { dst := some 56, op := Go.Op.binOp Go.BinOp.eql 9 (Go.Operand.tmp 54) (Go.Operand.tmp 55) 9, type := 4, pos := "head.go:58", after := #[{ on := 29, ground := Go.Ground.data }, { on := 30, ground := Go.Ground.data }, { on := 27, ground := Go.Ground.guard }], guard := some (27, true) }) (v := undef) rfl (by kernel_rfl) (by kernel_rfl) (by kernel_rfl) (fun _ _ _ h => h) (Or.inr ⟨by rfl, rfl⟩) (by assumption) ?_
      try simp only [Act.put, List.setIfInBounds_toArray, List.set_cons_zero, List.set_cons_succ]
      refine wpAnyH_take (i := 32) (oi := { dst := some 57, op := Go.Op.pick (Go.Operand.tmp 52) (Go.Operand.tmp 56) (Go.Operand.const (Go.Value.bool false)), type := 4, pos := "head.go:58", after := #[{ on := 27, ground := Go.Ground.data }, { on := 31, ground := Go.Ground.data }], guard := none }) (v := ?_) rfl (by kernel_rfl) (by kernel_rfl) (by kernel_rfl) (fun _ _ _ h => h) (Or.inl ⟨by rfl, ?_⟩) (by assumption) ?_
      rotate_left 1
      · intro w hSw
        try dsimp only at hSw
        first | (go_simp; done) | (go_simp; with_reducible rfl)
      try simp only [Act.put, List.setIfInBounds_toArray, List.set_cons_zero, List.set_cons_succ]
      refine wpAnyH_ready (rs := [33]) (by kernel_rfl) (by simp) ?_
      refine AllReadyH.cons (o := { dst := some 11, op := Go.Op.assign (Go.Operand.tmp 57), type := 4, pos := "head.go:58", after := #[{ on := 32, ground := Go.Ground.data }, { on := 29, ground := Go.Ground.chain }, { on := 0, ground := Go.Ground.phase }, { on := 1, ground := Go.Ground.phase }, { on := 2, ground := Go.Ground.phase }, { on := 3, ground := Go.Ground.phase }, { on := 4, ground := Go.Ground.phase }, { on := 5, ground := Go.Ground.phase }, { on := 6, ground := Go.Ground.phase }, { on := 7, ground := Go.Ground.phase }, { on := 8, ground := Go.Ground.phase }, { on := 9, ground := Go.Ground.phase }, { on := 10, ground := Go.Ground.phase }, { on := 11, ground := Go.Ground.phase }, { on := 12, ground := Go.Ground.phase }, { on := 13, ground := Go.Ground.phase }, { on := 14, ground := Go.Ground.phase }, { on := 15, ground := Go.Ground.phase }, { on := 16, ground := Go.Ground.phase }, { on := 17, ground := Go.Ground.phase }, { on := 18, ground := Go.Ground.phase }, { on := 19, ground := Go.Ground.phase }, { on := 20, ground := Go.Ground.phase }, { on := 21, ground := Go.Ground.phase }, { on := 22, ground := Go.Ground.phase }, { on := 23, ground := Go.Ground.phase }, { on := 24, ground := Go.Ground.phase }, { on := 25, ground := Go.Ground.phase }, { on := 26, ground := Go.Ground.phase }, { on := 27, ground := Go.Ground.phase }, { on := 28, ground := Go.Ground.phase }, { on := 29, ground := Go.Ground.phase }, { on := 30, ground := Go.Ground.phase }, { on := 31, ground := Go.Ground.phase }, { on := 32, ground := Go.Ground.phase }], guard := none }) rfl (fun K hK => ?_) ?_
      rotate_left 1
      · exact AllReadyH.nil
      go_simp
      refine hK.out _ _ ?_ (fun hHeld2 => ?_)
      · first | exact hHeld | (exact HK.out _ hbq.out)
      clear hK K
      try simp only [Act.put, List.setIfInBounds_toArray, List.set_cons_zero, List.set_cons_succ]
      clear hHeld
      have hHeld := hHeld2
      clear hHeld2
      refine wpAnyH_done (by kernel_rfl) ?_ _
      refine NoPanic.normal ?_
      try dsimp only
      go_wp2_with fail
      go_meet
      rw [HR.out]
      exact ⟨rfl, Below.drewed (Below.refl _ _)⟩
    · clear HBC
      try (have d1 : decide (1 ≤ (gn : Int)) = true := decide_eq_true (by omega))
      try (have d1 : decide (1 ≤ (gn : Int)) = false := decide_eq_false (by omega))
      try (have d2 : decide ((hf : Int) ≤ 1) = true := decide_eq_true (by omega))
      try (have d2 : decide ((hf : Int) ≤ 1) = false := decide_eq_false (by omega))
      try (have d3 : decide (1 ≤ (sr : Int)) = true := decide_eq_true (by omega))
      try (have d3 : decide (1 ≤ (sr : Int)) = false := decide_eq_false (by omega))
      try (have d4 : decide ((sz : Int) ≤ (t : Int) * 64) = true := decide_eq_true (by omega))
      try (have d4 : decide ((sz : Int) ≤ (t : Int) * 64) = false := decide_eq_false (by omega))
      try (have d5 : (((gn % 2 : Nat) : Int) == (place : Int)) = true := by rw [beq_iff_eq]; omega)
      try (have d5 : (((gn % 2 : Nat) : Int) == (place : Int)) = false := by rw [beq_eq_false_iff_ne]; omega)
      try clear c1
      try clear c2
      try clear c3
      try clear c4
      try clear c5
      have HR := hide hr
      clear hr
      obtain ⟨pz, hpz⟩ : ∃ z, ((gn % 2 : Nat) : Int) = z := ⟨_, rfl⟩
      try rw [hpz] at d5
      rw [hpz] at HPL
      clear hpz
      refine wp_region_noPanic ?_
      refine wp_region_held_drew (S := (fun w' => Below V4.heap.size V4 w' ∧ w'.cell? ⟨b4, 0, none⟩ = some (.int .i64 (gn : Int)) ∧ w'.cell? ⟨b4, 1, none⟩ = some (.int .i64 (hf : Int)) ∧ w'.cell? ⟨b4, 2, none⟩ = some (.int .i64 (sr : Int)) ∧ w'.cell? ⟨b4, 3, none⟩ = some (.int .i64 (sz : Int)) ∧ w'.cell? ⟨b1, 1, none⟩ = some (.int .i64 (t : Int)) ∧ w'.cell? ⟨b0, 0, none⟩ = some (.string cv))) (by kernel_rfl) ?_ (fun hHeld => ?_)
      · exact HK.out _ (Below.drewed (Below.refl _ _))
      refine wpAnyH_take (i := 0) (oi := { dst := some 25, op := Go.Op.fieldAddr 56 (Go.Operand.tmp 10) 0, type := 0, pos := "head.go:58", after := #[], guard := none }) (v := ?_) rfl (by kernel_rfl) (by kernel_rfl) (by kernel_rfl) (fun _ _ _ h => h) (Or.inl ⟨by rfl, ?_⟩) (by assumption) ?_
      rotate_left 1
      · intro w hSw
        try dsimp only at hSw
        first | (go_simp; done) | (go_simp; with_reducible rfl)
      try simp only [Act.put, List.setIfInBounds_toArray, List.set_cons_zero, List.set_cons_succ]
      refine wpAnyH_take (i := 1) (oi := { dst := some 26, op := Go.Op.load 3 (Go.Operand.tmp 25), type := 3, pos := "head.go:58", after := #[{ on := 0, ground := Go.Ground.data }], guard := none }) (v := ?_) rfl (by kernel_rfl) (by kernel_rfl) (by kernel_rfl) (fun _ _ _ h => h) (Or.inl ⟨by rfl, ?_⟩) (by assumption) ?_
      rotate_left 1
      · intro w hSw
        try dsimp only at hSw
        first | (go_simp; done) | (go_simp; with_reducible rfl)
      try simp only [Act.put, List.setIfInBounds_toArray, List.set_cons_zero, List.set_cons_succ]
      refine wpAnyH_take (i := 2) (oi := { dst := some 27, op := Go.Op.binOp Go.BinOp.geq 3 (Go.Operand.tmp 26) (Go.Operand.const (Go.Value.int Go.IntKind.i64 1)) 3, type := 4, pos := "head.go:58", after := #[{ on := 1, ground := Go.Ground.data }], guard := none }) (v := ?_) rfl (by kernel_rfl) (by kernel_rfl) (by kernel_rfl) (fun _ _ _ h => h) (Or.inl ⟨by rfl, ?_⟩) (by assumption) ?_
      rotate_left 1
      · intro w hSw
        try dsimp only at hSw
        first | (go_simp; done) | (go_simp; with_reducible rfl)
      try simp only [Act.put, List.setIfInBounds_toArray, List.set_cons_zero, List.set_cons_succ]
      refine wpAnyH_take (i := 3) (oi := { dst := some 28, op := Go.Op.move (Go.Operand.tmp 27), type := 4, pos := "head.go:58", after := #[{ on := 2, ground := Go.Ground.data }], guard := none }) (v := ?_) rfl (by kernel_rfl) (by kernel_rfl) (by kernel_rfl) (fun _ _ _ h => h) (Or.inl ⟨by rfl, ?_⟩) (by assumption) ?_
      rotate_left 1
      · intro w hSw
        try dsimp only at hSw
        first | (go_simp; done) | (go_simp; with_reducible rfl)
      try simp only [Act.put, List.setIfInBounds_toArray, List.set_cons_zero, List.set_cons_succ]
      refine wpAnyH_take (i := 4) (oi := { dst := some 29, op := Go.Op.fieldAddr 56 (Go.Operand.tmp 10) 1, type := 0, pos := "head.go:58", after := #[{ on := 3, ground := Go.Ground.guard }], guard := some (3, true) }) (v := ?_) rfl (by kernel_rfl) (by kernel_rfl) (by kernel_rfl) (fun _ _ _ h => h) (Or.inl ⟨by rfl, ?_⟩) (by assumption) ?_
      rotate_left 1
      · intro w hSw
        try dsimp only at hSw
        first | (go_simp; done) | (go_simp; with_reducible rfl)
      try simp only [Act.put, List.setIfInBounds_toArray, List.set_cons_zero, List.set_cons_succ]
      refine wpAnyH_take (i := 5) (oi := { dst := some 30, op := Go.Op.load 3 (Go.Operand.tmp 29), type := 3, pos := "head.go:58", after := #[{ on := 4, ground := Go.Ground.data }, { on := 3, ground := Go.Ground.guard }], guard := some (3, true) }) (v := ?_) rfl (by kernel_rfl) (by kernel_rfl) (by kernel_rfl) (fun _ _ _ h => h) (Or.inl ⟨by rfl, ?_⟩) (by assumption) ?_
      rotate_left 1
      · intro w hSw
        try dsimp only at hSw
        first | (go_simp; done) | (go_simp; with_reducible rfl)
      try simp only [Act.put, List.setIfInBounds_toArray, List.set_cons_zero, List.set_cons_succ]
      refine wpAnyH_take (i := 6) (oi := { dst := some 31, op := Go.Op.binOp Go.BinOp.leq 3 (Go.Operand.tmp 30) (Go.Operand.const (Go.Value.int Go.IntKind.i64 1)) 3, type := 4, pos := "head.go:58", after := #[{ on := 5, ground := Go.Ground.data }, { on := 3, ground := Go.Ground.guard }], guard := some (3, true) }) (v := ?_) rfl (by kernel_rfl) (by kernel_rfl) (by kernel_rfl) (fun _ _ _ h => h) (Or.inl ⟨by rfl, ?_⟩) (by assumption) ?_
      rotate_left 1
      · intro w hSw
        try dsimp only at hSw
        first | (go_simp; done) | (go_simp; with_reducible rfl)
      try simp only [Act.put, List.setIfInBounds_toArray, List.set_cons_zero, List.set_cons_succ]
      refine wpAnyH_take (i := 7) (oi := { dst := some 32, op := Go.Op.pick (Go.Operand.tmp 28) (Go.Operand.tmp 31) (Go.Operand.const (Go.Value.bool false)), type := 4, pos := "head.go:58", after := #[{ on := 3, ground := Go.Ground.data }, { on := 6, ground := Go.Ground.data }], guard := none }) (v := ?_) rfl (by kernel_rfl) (by kernel_rfl) (by kernel_rfl) (fun _ _ _ h => h) (Or.inl ⟨by rfl, ?_⟩) (by assumption) ?_
      rotate_left 1
      · intro w hSw
        try dsimp only at hSw
        first | (go_simp; done) | (go_simp; with_reducible rfl)
      try simp only [Act.put, List.setIfInBounds_toArray, List.set_cons_zero, List.set_cons_succ]
      refine wpAnyH_take (i := 8) (oi := { dst := some 33, op := Go.Op.move (Go.Operand.tmp 32), type := 4, pos := "head.go:58", after := #[{ on := 7, ground := Go.Ground.data }, { on := 3, ground := Go.Ground.chain }], guard := none }) (v := ?_) rfl (by kernel_rfl) (by kernel_rfl) (by kernel_rfl) (fun _ _ _ h => h) (Or.inl ⟨by rfl, ?_⟩) (by assumption) ?_
      rotate_left 1
      · intro w hSw
        try dsimp only at hSw
        first | (go_simp; done) | (go_simp; with_reducible rfl)
      try simp only [Act.put, List.setIfInBounds_toArray, List.set_cons_zero, List.set_cons_succ]
      refine wpAnyH_take (i := 9) (oi := { dst := some 34, op := Go.Op.fieldAddr 56 (Go.Operand.tmp 10) 2, type := 0, pos := "head.go:58", after := #[{ on := 8, ground := Go.Ground.guard }], guard := some (8, true) }) (v := ?_) rfl (by kernel_rfl) (by kernel_rfl) (by kernel_rfl) (fun _ _ _ h => h) (Or.inl ⟨by rfl, ?_⟩) (by assumption) ?_
      rotate_left 1
      · intro w hSw
        try dsimp only at hSw
        first | (go_simp; done) | (go_simp; with_reducible rfl)
      try simp only [Act.put, List.setIfInBounds_toArray, List.set_cons_zero, List.set_cons_succ]
      refine wpAnyH_take (i := 10) (oi := { dst := some 35, op := Go.Op.load 3 (Go.Operand.tmp 34), type := 3, pos := "head.go:58", after := #[{ on := 9, ground := Go.Ground.data }, { on := 8, ground := Go.Ground.guard }], guard := some (8, true) }) (v := ?_) rfl (by kernel_rfl) (by kernel_rfl) (by kernel_rfl) (fun _ _ _ h => h) (Or.inl ⟨by rfl, ?_⟩) (by assumption) ?_
      rotate_left 1
      · intro w hSw
        try dsimp only at hSw
        first | (go_simp; done) | (go_simp; with_reducible rfl)
      try simp only [Act.put, List.setIfInBounds_toArray, List.set_cons_zero, List.set_cons_succ]
      refine wpAnyH_take (i := 11) (oi := { dst := some 36, op := Go.Op.binOp Go.BinOp.geq 3 (Go.Operand.tmp 35) (Go.Operand.const (Go.Value.int Go.IntKind.i64 1)) 3, type := 4, pos := "head.go:58", after := #[{ on := 10, ground := Go.Ground.data }, { on := 8, ground := Go.Ground.guard }], guard := some (8, true) }) (v := ?_) rfl (by kernel_rfl) (by kernel_rfl) (by kernel_rfl) (fun _ _ _ h => h) (Or.inl ⟨by rfl, ?_⟩) (by assumption) ?_
      rotate_left 1
      · intro w hSw
        try dsimp only at hSw
        first | (go_simp; done) | (go_simp; with_reducible rfl)
      try simp only [Act.put, List.setIfInBounds_toArray, List.set_cons_zero, List.set_cons_succ]
      refine wpAnyH_take (i := 12) (oi := { dst := some 37, op := Go.Op.pick (Go.Operand.tmp 33) (Go.Operand.tmp 36) (Go.Operand.const (Go.Value.bool false)), type := 4, pos := "head.go:58", after := #[{ on := 8, ground := Go.Ground.data }, { on := 11, ground := Go.Ground.data }], guard := none }) (v := ?_) rfl (by kernel_rfl) (by kernel_rfl) (by kernel_rfl) (fun _ _ _ h => h) (Or.inl ⟨by rfl, ?_⟩) (by assumption) ?_
      rotate_left 1
      · intro w hSw
        try dsimp only at hSw
        first | (go_simp; done) | (go_simp; with_reducible rfl)
      try simp only [Act.put, List.setIfInBounds_toArray, List.set_cons_zero, List.set_cons_succ]
      refine wpAnyH_take (i := 13) (oi := { dst := some 38, op := Go.Op.move (Go.Operand.tmp 37), type := 4, pos := "head.go:58", after := #[{ on := 12, ground := Go.Ground.data }, { on := 8, ground := Go.Ground.chain }], guard := none }) (v := ?_) rfl (by kernel_rfl) (by kernel_rfl) (by kernel_rfl) (fun _ _ _ h => h) (Or.inl ⟨by rfl, ?_⟩) (by assumption) ?_
      rotate_left 1
      · intro w hSw
        try dsimp only at hSw
        first | (go_simp; done) | (go_simp; with_reducible rfl)
      try simp only [Act.put, List.setIfInBounds_toArray, List.set_cons_zero, List.set_cons_succ]
      refine wpAnyH_take (i := 14) (oi := { dst := some 39, op := Go.Op.fieldAddr 56 (Go.Operand.tmp 10) 3, type := 0, pos := "head.go:58", after := #[{ on := 13, ground := Go.Ground.guard }], guard := some (13, true) }) (v := undef) rfl (by kernel_rfl) (by kernel_rfl) (by kernel_rfl) (fun _ _ _ h => h) (Or.inr ⟨by rfl, rfl⟩) (by assumption) ?_
      try simp only [Act.put, List.setIfInBounds_toArray, List.set_cons_zero, List.set_cons_succ]
      refine wpAnyH_take (i := 15) (oi := { dst := some 40, op := Go.Op.load 3 (Go.Operand.tmp 39), type := 3, pos := "head.go:58", after := #[{ on := 14, ground := Go.Ground.data }, { on := 13, ground := Go.Ground.guard }], guard := some (13, true) }) (v := undef) rfl (by kernel_rfl) (by kernel_rfl) (by kernel_rfl) (fun _ _ _ h => h) (Or.inr ⟨by rfl, rfl⟩) (by assumption) ?_
      try simp only [Act.put, List.setIfInBounds_toArray, List.set_cons_zero, List.set_cons_succ]
      refine wpAnyH_take (i := 16) (oi := { dst := some 41, op := Go.Op.fieldAddr 27 (Go.Operand.tmp 5) 1, type := 0, pos := "head.go:58", after := #[{ on := 13, ground := Go.Ground.guard }], guard := some (13, true) }) (v := undef) rfl (by kernel_rfl) (by kernel_rfl) (by kernel_rfl) (fun _ _ _ h => h) (Or.inr ⟨by rfl, rfl⟩) (by assumption) ?_
      try simp only [Act.put, List.setIfInBounds_toArray, List.set_cons_zero, List.set_cons_succ]
      refine wpAnyH_take (i := 17) (oi := { dst := some 42, op := Go.Op.load 3 (Go.Operand.tmp 41), type := 3, pos := "head.go:58", after := #[{ on := 16, ground := Go.Ground.data }, { on := 13, ground := Go.Ground.guard }], guard := some (13, true) }) (v := undef) rfl (by kernel_rfl) (by kernel_rfl) (by kernel_rfl) (fun _ _ _ h => h) (Or.inr ⟨by rfl, rfl⟩) (by assumption) ?_
      try simp only [Act.put, List.setIfInBounds_toArray, List.set_cons_zero, List.set_cons_succ]
      refine wpAnyH_take (i := 18) (oi := { dst := some 43, op := Go.Op.binOp Go.BinOp.mul 3 (Go.Operand.tmp 42) (Go.Operand.const (Go.Value.int Go.IntKind.i64 64)) 3, type := 3, pos := "head.go:58", after := #[{ on := 17, ground := Go.Ground.data }, { on := 13, ground := Go.Ground.guard }], guard := some (13, true) }) (v := undef) rfl (by kernel_rfl) (by kernel_rfl) (by kernel_rfl) (fun _ _ _ h => h) (Or.inr ⟨by rfl, rfl⟩) (by assumption) ?_
      try simp only [Act.put, List.setIfInBounds_toArray, List.set_cons_zero, List.set_cons_succ]
      refine wpAnyH_take (i := 19) (oi := { dst := some 44, op := Go.Op.binOp Go.BinOp.leq 3 (Go.Operand.tmp 40) (Go.Operand.tmp 43) 3, type := 4, pos := "head.go:58", after := #[{ on := 15, ground := Go.Ground.data }, { on := 18, ground := Go.Ground.data }, { on := 13, ground := Go.Ground.guard }], guard := some (13, true) }) (v := undef) rfl (by kernel_rfl) (by kernel_rfl) (by kernel_rfl) (fun _ _ _ h => h) (Or.inr ⟨by rfl, rfl⟩) (by assumption) ?_
      try simp only [Act.put, List.setIfInBounds_toArray, List.set_cons_zero, List.set_cons_succ]
      refine wpAnyH_take (i := 20) (oi := { dst := some 45, op := Go.Op.pick (Go.Operand.tmp 38) (Go.Operand.tmp 44) (Go.Operand.const (Go.Value.bool false)), type := 4, pos := "head.go:58", after := #[{ on := 13, ground := Go.Ground.data }, { on := 19, ground := Go.Ground.data }], guard := none }) (v := ?_) rfl (by kernel_rfl) (by kernel_rfl) (by kernel_rfl) (fun _ _ _ h => h) (Or.inl ⟨by rfl, ?_⟩) (by assumption) ?_
      rotate_left 1
      · intro w hSw
        try dsimp only at hSw
        first | (go_simp; done) | (go_simp; with_reducible rfl)
      try simp only [Act.put, List.setIfInBounds_toArray, List.set_cons_zero, List.set_cons_succ]
      refine wpAnyH_take (i := 21) (oi := { dst := some 46, op := Go.Op.move (Go.Operand.tmp 45), type := 4, pos := "head.go:58", after := #[{ on := 20, ground := Go.Ground.data }, { on := 13, ground := Go.Ground.chain }], guard := none }) (v := ?_) rfl (by kernel_rfl) (by kernel_rfl) (by kernel_rfl) (fun _ _ _ h => h) (Or.inl ⟨by rfl, ?_⟩) (by assumption) ?_
      rotate_left 1
      · intro w hSw
        try dsimp only at hSw
        first | (go_simp; done) | (go_simp; with_reducible rfl)
      try simp only [Act.put, List.setIfInBounds_toArray, List.set_cons_zero, List.set_cons_succ]
      refine wpAnyH_take (i := 22) (oi := { dst := some 47, op := Go.Op.load 56 (Go.Operand.tmp 10), type := 56, pos := "head.go:58", after := #[{ on := 21, ground := Go.Ground.guard }], guard := some (21, true) }) (v := undef) rfl (by kernel_rfl) (by kernel_rfl) (by kernel_rfl) (fun _ _ _ h => h) (Or.inr ⟨by rfl, rfl⟩) (by assumption) ?_
      try simp only [Act.put, List.setIfInBounds_toArray, List.set_cons_zero, List.set_cons_succ]
      refine wpAnyH_take (i := 23) (oi := { dst := some 48, op := Go.Op.call { callee := Go.Callee.value (Go.Operand.func 48), args := #[Go.Operand.tmp 47], argTypes := #[56] }, type := 3, pos := "head.go:59", after := #[{ on := 22, ground := Go.Ground.data }, { on := 21, ground := Go.Ground.chain }, { on := 21, ground := Go.Ground.guard }], guard := some (21, true) }) (v := undef) rfl (by kernel_rfl) (by kernel_rfl) (by kernel_rfl) (fun _ _ _ h => h) (Or.inr ⟨by rfl, rfl⟩) (by assumption) ?_
      try simp only [Act.put, List.setIfInBounds_toArray, List.set_cons_zero, List.set_cons_succ]
      refine wpAnyH_take (i := 24) (oi := { dst := some 49, op := Go.Op.move (Go.Operand.tmp 1), type := 3, pos := "head.go:58", after := #[{ on := 21, ground := Go.Ground.guard }], guard := some (21, true) }) (v := undef) rfl (by kernel_rfl) (by kernel_rfl) (by kernel_rfl) (fun _ _ _ h => h) (Or.inr ⟨by rfl, rfl⟩) (by assumption) ?_
      try simp only [Act.put, List.setIfInBounds_toArray, List.set_cons_zero, List.set_cons_succ]
      refine wpAnyH_take (i := 25) (oi := { dst := some 50, op := Go.Op.binOp Go.BinOp.eql 3 (Go.Operand.tmp 48) (Go.Operand.tmp 49) 3, type := 4, pos := "head.go:58", after := #[{ on := 23, ground := Go.Ground.data }, { on := 24, ground := Go.Ground.data }, { on := 21, ground := Go.Ground.guard }], guard := some (21, true) }) (v := undef) rfl (by kernel_rfl) (by kernel_rfl) (by kernel_rfl) (fun _ _ _ h => h) (Or.inr ⟨by rfl, rfl⟩) (by assumption) ?_
      try simp only [Act.put, List.setIfInBounds_toArray, List.set_cons_zero, List.set_cons_succ]
      refine wpAnyH_take (i := 26) (oi := { dst := some 51, op := Go.Op.pick (Go.Operand.tmp 46) (Go.Operand.tmp 50) (Go.Operand.const (Go.Value.bool false)), type := 4, pos := "head.go:58", after := #[{ on := 21, ground := Go.Ground.data }, { on := 25, ground := Go.Ground.data }], guard := none }) (v := ?_) rfl (by kernel_rfl) (by kernel_rfl) (by kernel_rfl) (fun _ _ _ h => h) (Or.inl ⟨by rfl, ?_⟩) (by assumption) ?_
      rotate_left 1
      · intro w hSw
        try dsimp only at hSw
        first | (go_simp; done) | (go_simp; with_reducible rfl)
      try simp only [Act.put, List.setIfInBounds_toArray, List.set_cons_zero, List.set_cons_succ]
      refine wpAnyH_take (i := 27) (oi := { dst := some 52, op := Go.Op.move (Go.Operand.tmp 51), type := 4, pos := "head.go:58", after := #[{ on := 26, ground := Go.Ground.data }, { on := 23, ground := Go.Ground.chain }], guard := none }) (v := ?_) rfl (by kernel_rfl) (by kernel_rfl) (by kernel_rfl) (fun _ _ _ h => h) (Or.inl ⟨by rfl, ?_⟩) (by assumption) ?_
      rotate_left 1
      · intro w hSw
        try dsimp only at hSw
        first | (go_simp; done) | (go_simp; with_reducible rfl)
      try simp only [Act.put, List.setIfInBounds_toArray, List.set_cons_zero, List.set_cons_succ]
      refine wpAnyH_take (i := 28) (oi := { dst := some 53, op := Go.Op.load 56 (Go.Operand.tmp 10), type := 56, pos := "head.go:58", after := #[{ on := 27, ground := Go.Ground.guard }], guard := some (27, true) }) (v := undef) rfl (by kernel_rfl) (by kernel_rfl) (by kernel_rfl) (fun _ _ _ h => h) (Or.inr ⟨by rfl, rfl⟩) (by assumption) ?_
      try simp only [Act.put, List.setIfInBounds_toArray, List.set_cons_zero, List.set_cons_succ]
      refine wpAnyH_take (i := 29) (oi := { dst := some 54, op := Go.Op.call { callee := Go.Callee.value (Go.Operand.func 49), args := #[Go.Operand.tmp 53], argTypes := #[56] }, type := 9, pos := "head.go:59", after := #[{ on := 28, ground := Go.Ground.data }, { on := 27, ground := Go.Ground.chain }, { on := 27, ground := Go.Ground.guard }], guard := some (27, true) }) (v := undef) rfl (by kernel_rfl) (by kernel_rfl) (by kernel_rfl) (fun _ _ _ h => h) (Or.inr ⟨by rfl, rfl⟩) (by assumption) ?_
      try simp only [Act.put, List.setIfInBounds_toArray, List.set_cons_zero, List.set_cons_succ]
      refine wpAnyH_take (i := 30) (oi := { dst := some 55, op := Go.Op.load 9 (Go.Operand.tmp 3), type := 9, pos := "head.go:58", after := #[{ on := 27, ground := Go.Ground.guard }], guard := some (27, true) }) (v := undef) rfl (by kernel_rfl) (by kernel_rfl) (by kernel_rfl) (fun _ _ _ h => h) (Or.inr ⟨by rfl, rfl⟩) (by assumption) ?_
      try simp only [Act.put, List.setIfInBounds_toArray, List.set_cons_zero, List.set_cons_succ]
      refine wpAnyH_take (i := 31) (oi := { dst := some 56, op := Go.Op.binOp Go.BinOp.eql 9 (Go.Operand.tmp 54) (Go.Operand.tmp 55) 9, type := 4, pos := "head.go:58", after := #[{ on := 29, ground := Go.Ground.data }, { on := 30, ground := Go.Ground.data }, { on := 27, ground := Go.Ground.guard }], guard := some (27, true) }) (v := undef) rfl (by kernel_rfl) (by kernel_rfl) (by kernel_rfl) (fun _ _ _ h => h) (Or.inr ⟨by rfl, rfl⟩) (by assumption) ?_
      try simp only [Act.put, List.setIfInBounds_toArray, List.set_cons_zero, List.set_cons_succ]
      refine wpAnyH_take (i := 32) (oi := { dst := some 57, op := Go.Op.pick (Go.Operand.tmp 52) (Go.Operand.tmp 56) (Go.Operand.const (Go.Value.bool false)), type := 4, pos := "head.go:58", after := #[{ on := 27, ground := Go.Ground.data }, { on := 31, ground := Go.Ground.data }], guard := none }) (v := ?_) rfl (by kernel_rfl) (by kernel_rfl) (by kernel_rfl) (fun _ _ _ h => h) (Or.inl ⟨by rfl, ?_⟩) (by assumption) ?_
      rotate_left 1
      · intro w hSw
        try dsimp only at hSw
        first | (go_simp; done) | (go_simp; with_reducible rfl)
      try simp only [Act.put, List.setIfInBounds_toArray, List.set_cons_zero, List.set_cons_succ]
      refine wpAnyH_ready (rs := [33]) (by kernel_rfl) (by simp) ?_
      refine AllReadyH.cons (o := { dst := some 11, op := Go.Op.assign (Go.Operand.tmp 57), type := 4, pos := "head.go:58", after := #[{ on := 32, ground := Go.Ground.data }, { on := 29, ground := Go.Ground.chain }, { on := 0, ground := Go.Ground.phase }, { on := 1, ground := Go.Ground.phase }, { on := 2, ground := Go.Ground.phase }, { on := 3, ground := Go.Ground.phase }, { on := 4, ground := Go.Ground.phase }, { on := 5, ground := Go.Ground.phase }, { on := 6, ground := Go.Ground.phase }, { on := 7, ground := Go.Ground.phase }, { on := 8, ground := Go.Ground.phase }, { on := 9, ground := Go.Ground.phase }, { on := 10, ground := Go.Ground.phase }, { on := 11, ground := Go.Ground.phase }, { on := 12, ground := Go.Ground.phase }, { on := 13, ground := Go.Ground.phase }, { on := 14, ground := Go.Ground.phase }, { on := 15, ground := Go.Ground.phase }, { on := 16, ground := Go.Ground.phase }, { on := 17, ground := Go.Ground.phase }, { on := 18, ground := Go.Ground.phase }, { on := 19, ground := Go.Ground.phase }, { on := 20, ground := Go.Ground.phase }, { on := 21, ground := Go.Ground.phase }, { on := 22, ground := Go.Ground.phase }, { on := 23, ground := Go.Ground.phase }, { on := 24, ground := Go.Ground.phase }, { on := 25, ground := Go.Ground.phase }, { on := 26, ground := Go.Ground.phase }, { on := 27, ground := Go.Ground.phase }, { on := 28, ground := Go.Ground.phase }, { on := 29, ground := Go.Ground.phase }, { on := 30, ground := Go.Ground.phase }, { on := 31, ground := Go.Ground.phase }, { on := 32, ground := Go.Ground.phase }], guard := none }) rfl (fun K hK => ?_) ?_
      rotate_left 1
      · exact AllReadyH.nil
      go_simp
      refine hK.out _ _ ?_ (fun hHeld2 => ?_)
      · first | exact hHeld | (exact HK.out _ hbq.out)
      clear hK K
      try simp only [Act.put, List.setIfInBounds_toArray, List.set_cons_zero, List.set_cons_succ]
      clear hHeld
      have hHeld := hHeld2
      clear hHeld2
      refine wpAnyH_done (by kernel_rfl) ?_ _
      refine NoPanic.normal ?_
      try dsimp only
      go_wp2_with fail
      go_meet
      rw [HR.out]
      exact ⟨rfl, Below.drewed (Below.refl _ _)⟩
    · clear HBC
      try (have d1 : decide (1 ≤ (gn : Int)) = true := decide_eq_true (by omega))
      try (have d1 : decide (1 ≤ (gn : Int)) = false := decide_eq_false (by omega))
      try (have d2 : decide ((hf : Int) ≤ 1) = true := decide_eq_true (by omega))
      try (have d2 : decide ((hf : Int) ≤ 1) = false := decide_eq_false (by omega))
      try (have d3 : decide (1 ≤ (sr : Int)) = true := decide_eq_true (by omega))
      try (have d3 : decide (1 ≤ (sr : Int)) = false := decide_eq_false (by omega))
      try (have d4 : decide ((sz : Int) ≤ (t : Int) * 64) = true := decide_eq_true (by omega))
      try (have d4 : decide ((sz : Int) ≤ (t : Int) * 64) = false := decide_eq_false (by omega))
      try (have d5 : (((gn % 2 : Nat) : Int) == (place : Int)) = true := by rw [beq_iff_eq]; omega)
      try (have d5 : (((gn % 2 : Nat) : Int) == (place : Int)) = false := by rw [beq_eq_false_iff_ne]; omega)
      try clear c1
      try clear c2
      try clear c3
      try clear c4
      try clear c5
      have HR := hide hr
      clear hr
      obtain ⟨pz, hpz⟩ : ∃ z, ((gn % 2 : Nat) : Int) = z := ⟨_, rfl⟩
      try rw [hpz] at d5
      rw [hpz] at HPL
      clear hpz
      refine wp_region_noPanic ?_
      refine wp_region_held_drew (S := (fun w' => Below V4.heap.size V4 w' ∧ w'.cell? ⟨b4, 0, none⟩ = some (.int .i64 (gn : Int)) ∧ w'.cell? ⟨b4, 1, none⟩ = some (.int .i64 (hf : Int)) ∧ w'.cell? ⟨b4, 2, none⟩ = some (.int .i64 (sr : Int)) ∧ w'.cell? ⟨b4, 3, none⟩ = some (.int .i64 (sz : Int)) ∧ w'.cell? ⟨b1, 1, none⟩ = some (.int .i64 (t : Int)) ∧ w'.cell? ⟨b0, 0, none⟩ = some (.string cv))) (by kernel_rfl) ?_ (fun hHeld => ?_)
      · exact HK.out _ (Below.drewed (Below.refl _ _))
      refine wpAnyH_take (i := 0) (oi := { dst := some 25, op := Go.Op.fieldAddr 56 (Go.Operand.tmp 10) 0, type := 0, pos := "head.go:58", after := #[], guard := none }) (v := ?_) rfl (by kernel_rfl) (by kernel_rfl) (by kernel_rfl) (fun _ _ _ h => h) (Or.inl ⟨by rfl, ?_⟩) (by assumption) ?_
      rotate_left 1
      · intro w hSw
        try dsimp only at hSw
        first | (go_simp; done) | (go_simp; with_reducible rfl)
      try simp only [Act.put, List.setIfInBounds_toArray, List.set_cons_zero, List.set_cons_succ]
      refine wpAnyH_take (i := 1) (oi := { dst := some 26, op := Go.Op.load 3 (Go.Operand.tmp 25), type := 3, pos := "head.go:58", after := #[{ on := 0, ground := Go.Ground.data }], guard := none }) (v := ?_) rfl (by kernel_rfl) (by kernel_rfl) (by kernel_rfl) (fun _ _ _ h => h) (Or.inl ⟨by rfl, ?_⟩) (by assumption) ?_
      rotate_left 1
      · intro w hSw
        try dsimp only at hSw
        first | (go_simp; done) | (go_simp; with_reducible rfl)
      try simp only [Act.put, List.setIfInBounds_toArray, List.set_cons_zero, List.set_cons_succ]
      refine wpAnyH_take (i := 2) (oi := { dst := some 27, op := Go.Op.binOp Go.BinOp.geq 3 (Go.Operand.tmp 26) (Go.Operand.const (Go.Value.int Go.IntKind.i64 1)) 3, type := 4, pos := "head.go:58", after := #[{ on := 1, ground := Go.Ground.data }], guard := none }) (v := ?_) rfl (by kernel_rfl) (by kernel_rfl) (by kernel_rfl) (fun _ _ _ h => h) (Or.inl ⟨by rfl, ?_⟩) (by assumption) ?_
      rotate_left 1
      · intro w hSw
        try dsimp only at hSw
        first | (go_simp; done) | (go_simp; with_reducible rfl)
      try simp only [Act.put, List.setIfInBounds_toArray, List.set_cons_zero, List.set_cons_succ]
      refine wpAnyH_take (i := 3) (oi := { dst := some 28, op := Go.Op.move (Go.Operand.tmp 27), type := 4, pos := "head.go:58", after := #[{ on := 2, ground := Go.Ground.data }], guard := none }) (v := ?_) rfl (by kernel_rfl) (by kernel_rfl) (by kernel_rfl) (fun _ _ _ h => h) (Or.inl ⟨by rfl, ?_⟩) (by assumption) ?_
      rotate_left 1
      · intro w hSw
        try dsimp only at hSw
        first | (go_simp; done) | (go_simp; with_reducible rfl)
      try simp only [Act.put, List.setIfInBounds_toArray, List.set_cons_zero, List.set_cons_succ]
      refine wpAnyH_take (i := 4) (oi := { dst := some 29, op := Go.Op.fieldAddr 56 (Go.Operand.tmp 10) 1, type := 0, pos := "head.go:58", after := #[{ on := 3, ground := Go.Ground.guard }], guard := some (3, true) }) (v := ?_) rfl (by kernel_rfl) (by kernel_rfl) (by kernel_rfl) (fun _ _ _ h => h) (Or.inl ⟨by rfl, ?_⟩) (by assumption) ?_
      rotate_left 1
      · intro w hSw
        try dsimp only at hSw
        first | (go_simp; done) | (go_simp; with_reducible rfl)
      try simp only [Act.put, List.setIfInBounds_toArray, List.set_cons_zero, List.set_cons_succ]
      refine wpAnyH_take (i := 5) (oi := { dst := some 30, op := Go.Op.load 3 (Go.Operand.tmp 29), type := 3, pos := "head.go:58", after := #[{ on := 4, ground := Go.Ground.data }, { on := 3, ground := Go.Ground.guard }], guard := some (3, true) }) (v := ?_) rfl (by kernel_rfl) (by kernel_rfl) (by kernel_rfl) (fun _ _ _ h => h) (Or.inl ⟨by rfl, ?_⟩) (by assumption) ?_
      rotate_left 1
      · intro w hSw
        try dsimp only at hSw
        first | (go_simp; done) | (go_simp; with_reducible rfl)
      try simp only [Act.put, List.setIfInBounds_toArray, List.set_cons_zero, List.set_cons_succ]
      refine wpAnyH_take (i := 6) (oi := { dst := some 31, op := Go.Op.binOp Go.BinOp.leq 3 (Go.Operand.tmp 30) (Go.Operand.const (Go.Value.int Go.IntKind.i64 1)) 3, type := 4, pos := "head.go:58", after := #[{ on := 5, ground := Go.Ground.data }, { on := 3, ground := Go.Ground.guard }], guard := some (3, true) }) (v := ?_) rfl (by kernel_rfl) (by kernel_rfl) (by kernel_rfl) (fun _ _ _ h => h) (Or.inl ⟨by rfl, ?_⟩) (by assumption) ?_
      rotate_left 1
      · intro w hSw
        try dsimp only at hSw
        first | (go_simp; done) | (go_simp; with_reducible rfl)
      try simp only [Act.put, List.setIfInBounds_toArray, List.set_cons_zero, List.set_cons_succ]
      refine wpAnyH_take (i := 7) (oi := { dst := some 32, op := Go.Op.pick (Go.Operand.tmp 28) (Go.Operand.tmp 31) (Go.Operand.const (Go.Value.bool false)), type := 4, pos := "head.go:58", after := #[{ on := 3, ground := Go.Ground.data }, { on := 6, ground := Go.Ground.data }], guard := none }) (v := ?_) rfl (by kernel_rfl) (by kernel_rfl) (by kernel_rfl) (fun _ _ _ h => h) (Or.inl ⟨by rfl, ?_⟩) (by assumption) ?_
      rotate_left 1
      · intro w hSw
        try dsimp only at hSw
        first | (go_simp; done) | (go_simp; with_reducible rfl)
      try simp only [Act.put, List.setIfInBounds_toArray, List.set_cons_zero, List.set_cons_succ]
      refine wpAnyH_take (i := 8) (oi := { dst := some 33, op := Go.Op.move (Go.Operand.tmp 32), type := 4, pos := "head.go:58", after := #[{ on := 7, ground := Go.Ground.data }, { on := 3, ground := Go.Ground.chain }], guard := none }) (v := ?_) rfl (by kernel_rfl) (by kernel_rfl) (by kernel_rfl) (fun _ _ _ h => h) (Or.inl ⟨by rfl, ?_⟩) (by assumption) ?_
      rotate_left 1
      · intro w hSw
        try dsimp only at hSw
        first | (go_simp; done) | (go_simp; with_reducible rfl)
      try simp only [Act.put, List.setIfInBounds_toArray, List.set_cons_zero, List.set_cons_succ]
      refine wpAnyH_take (i := 9) (oi := { dst := some 34, op := Go.Op.fieldAddr 56 (Go.Operand.tmp 10) 2, type := 0, pos := "head.go:58", after := #[{ on := 8, ground := Go.Ground.guard }], guard := some (8, true) }) (v := ?_) rfl (by kernel_rfl) (by kernel_rfl) (by kernel_rfl) (fun _ _ _ h => h) (Or.inl ⟨by rfl, ?_⟩) (by assumption) ?_
      rotate_left 1
      · intro w hSw
        try dsimp only at hSw
        first | (go_simp; done) | (go_simp; with_reducible rfl)
      try simp only [Act.put, List.setIfInBounds_toArray, List.set_cons_zero, List.set_cons_succ]
      refine wpAnyH_take (i := 10) (oi := { dst := some 35, op := Go.Op.load 3 (Go.Operand.tmp 34), type := 3, pos := "head.go:58", after := #[{ on := 9, ground := Go.Ground.data }, { on := 8, ground := Go.Ground.guard }], guard := some (8, true) }) (v := ?_) rfl (by kernel_rfl) (by kernel_rfl) (by kernel_rfl) (fun _ _ _ h => h) (Or.inl ⟨by rfl, ?_⟩) (by assumption) ?_
      rotate_left 1
      · intro w hSw
        try dsimp only at hSw
        first | (go_simp; done) | (go_simp; with_reducible rfl)
      try simp only [Act.put, List.setIfInBounds_toArray, List.set_cons_zero, List.set_cons_succ]
      refine wpAnyH_take (i := 11) (oi := { dst := some 36, op := Go.Op.binOp Go.BinOp.geq 3 (Go.Operand.tmp 35) (Go.Operand.const (Go.Value.int Go.IntKind.i64 1)) 3, type := 4, pos := "head.go:58", after := #[{ on := 10, ground := Go.Ground.data }, { on := 8, ground := Go.Ground.guard }], guard := some (8, true) }) (v := ?_) rfl (by kernel_rfl) (by kernel_rfl) (by kernel_rfl) (fun _ _ _ h => h) (Or.inl ⟨by rfl, ?_⟩) (by assumption) ?_
      rotate_left 1
      · intro w hSw
        try dsimp only at hSw
        first | (go_simp; done) | (go_simp; with_reducible rfl)
      try simp only [Act.put, List.setIfInBounds_toArray, List.set_cons_zero, List.set_cons_succ]
      refine wpAnyH_take (i := 12) (oi := { dst := some 37, op := Go.Op.pick (Go.Operand.tmp 33) (Go.Operand.tmp 36) (Go.Operand.const (Go.Value.bool false)), type := 4, pos := "head.go:58", after := #[{ on := 8, ground := Go.Ground.data }, { on := 11, ground := Go.Ground.data }], guard := none }) (v := ?_) rfl (by kernel_rfl) (by kernel_rfl) (by kernel_rfl) (fun _ _ _ h => h) (Or.inl ⟨by rfl, ?_⟩) (by assumption) ?_
      rotate_left 1
      · intro w hSw
        try dsimp only at hSw
        first | (go_simp; done) | (go_simp; with_reducible rfl)
      try simp only [Act.put, List.setIfInBounds_toArray, List.set_cons_zero, List.set_cons_succ]
      refine wpAnyH_take (i := 13) (oi := { dst := some 38, op := Go.Op.move (Go.Operand.tmp 37), type := 4, pos := "head.go:58", after := #[{ on := 12, ground := Go.Ground.data }, { on := 8, ground := Go.Ground.chain }], guard := none }) (v := ?_) rfl (by kernel_rfl) (by kernel_rfl) (by kernel_rfl) (fun _ _ _ h => h) (Or.inl ⟨by rfl, ?_⟩) (by assumption) ?_
      rotate_left 1
      · intro w hSw
        try dsimp only at hSw
        first | (go_simp; done) | (go_simp; with_reducible rfl)
      try simp only [Act.put, List.setIfInBounds_toArray, List.set_cons_zero, List.set_cons_succ]
      refine wpAnyH_take (i := 14) (oi := { dst := some 39, op := Go.Op.fieldAddr 56 (Go.Operand.tmp 10) 3, type := 0, pos := "head.go:58", after := #[{ on := 13, ground := Go.Ground.guard }], guard := some (13, true) }) (v := ?_) rfl (by kernel_rfl) (by kernel_rfl) (by kernel_rfl) (fun _ _ _ h => h) (Or.inl ⟨by rfl, ?_⟩) (by assumption) ?_
      rotate_left 1
      · intro w hSw
        try dsimp only at hSw
        first | (go_simp; done) | (go_simp; with_reducible rfl)
      try simp only [Act.put, List.setIfInBounds_toArray, List.set_cons_zero, List.set_cons_succ]
      refine wpAnyH_take (i := 15) (oi := { dst := some 40, op := Go.Op.load 3 (Go.Operand.tmp 39), type := 3, pos := "head.go:58", after := #[{ on := 14, ground := Go.Ground.data }, { on := 13, ground := Go.Ground.guard }], guard := some (13, true) }) (v := ?_) rfl (by kernel_rfl) (by kernel_rfl) (by kernel_rfl) (fun _ _ _ h => h) (Or.inl ⟨by rfl, ?_⟩) (by assumption) ?_
      rotate_left 1
      · intro w hSw
        try dsimp only at hSw
        first | (go_simp; done) | (go_simp; with_reducible rfl)
      try simp only [Act.put, List.setIfInBounds_toArray, List.set_cons_zero, List.set_cons_succ]
      refine wpAnyH_take (i := 16) (oi := { dst := some 41, op := Go.Op.fieldAddr 27 (Go.Operand.tmp 5) 1, type := 0, pos := "head.go:58", after := #[{ on := 13, ground := Go.Ground.guard }], guard := some (13, true) }) (v := ?_) rfl (by kernel_rfl) (by kernel_rfl) (by kernel_rfl) (fun _ _ _ h => h) (Or.inl ⟨by rfl, ?_⟩) (by assumption) ?_
      rotate_left 1
      · intro w hSw
        try dsimp only at hSw
        first | (go_simp; done) | (go_simp; with_reducible rfl)
      try simp only [Act.put, List.setIfInBounds_toArray, List.set_cons_zero, List.set_cons_succ]
      refine wpAnyH_take (i := 17) (oi := { dst := some 42, op := Go.Op.load 3 (Go.Operand.tmp 41), type := 3, pos := "head.go:58", after := #[{ on := 16, ground := Go.Ground.data }, { on := 13, ground := Go.Ground.guard }], guard := some (13, true) }) (v := ?_) rfl (by kernel_rfl) (by kernel_rfl) (by kernel_rfl) (fun _ _ _ h => h) (Or.inl ⟨by rfl, ?_⟩) (by assumption) ?_
      rotate_left 1
      · intro w hSw
        try dsimp only at hSw
        first | (go_simp; done) | (go_simp; with_reducible rfl)
      try simp only [Act.put, List.setIfInBounds_toArray, List.set_cons_zero, List.set_cons_succ]
      refine wpAnyH_take (i := 18) (oi := { dst := some 43, op := Go.Op.binOp Go.BinOp.mul 3 (Go.Operand.tmp 42) (Go.Operand.const (Go.Value.int Go.IntKind.i64 64)) 3, type := 3, pos := "head.go:58", after := #[{ on := 17, ground := Go.Ground.data }, { on := 13, ground := Go.Ground.guard }], guard := some (13, true) }) (v := ?_) rfl (by kernel_rfl) (by kernel_rfl) (by kernel_rfl) (fun _ _ _ h => h) (Or.inl ⟨by rfl, ?_⟩) (by assumption) ?_
      rotate_left 1
      · intro w hSw
        try dsimp only at hSw
        first | (go_simp; done) | (go_simp; with_reducible rfl)
      try simp only [Act.put, List.setIfInBounds_toArray, List.set_cons_zero, List.set_cons_succ]
      refine wpAnyH_take (i := 19) (oi := { dst := some 44, op := Go.Op.binOp Go.BinOp.leq 3 (Go.Operand.tmp 40) (Go.Operand.tmp 43) 3, type := 4, pos := "head.go:58", after := #[{ on := 15, ground := Go.Ground.data }, { on := 18, ground := Go.Ground.data }, { on := 13, ground := Go.Ground.guard }], guard := some (13, true) }) (v := ?_) rfl (by kernel_rfl) (by kernel_rfl) (by kernel_rfl) (fun _ _ _ h => h) (Or.inl ⟨by rfl, ?_⟩) (by assumption) ?_
      rotate_left 1
      · intro w hSw
        try dsimp only at hSw
        first | (go_simp; done) | (go_simp; with_reducible rfl)
      try simp only [Act.put, List.setIfInBounds_toArray, List.set_cons_zero, List.set_cons_succ]
      refine wpAnyH_take (i := 20) (oi := { dst := some 45, op := Go.Op.pick (Go.Operand.tmp 38) (Go.Operand.tmp 44) (Go.Operand.const (Go.Value.bool false)), type := 4, pos := "head.go:58", after := #[{ on := 13, ground := Go.Ground.data }, { on := 19, ground := Go.Ground.data }], guard := none }) (v := ?_) rfl (by kernel_rfl) (by kernel_rfl) (by kernel_rfl) (fun _ _ _ h => h) (Or.inl ⟨by rfl, ?_⟩) (by assumption) ?_
      rotate_left 1
      · intro w hSw
        try dsimp only at hSw
        first | (go_simp; done) | (go_simp; with_reducible rfl)
      try simp only [Act.put, List.setIfInBounds_toArray, List.set_cons_zero, List.set_cons_succ]
      refine wpAnyH_take (i := 21) (oi := { dst := some 46, op := Go.Op.move (Go.Operand.tmp 45), type := 4, pos := "head.go:58", after := #[{ on := 20, ground := Go.Ground.data }, { on := 13, ground := Go.Ground.chain }], guard := none }) (v := ?_) rfl (by kernel_rfl) (by kernel_rfl) (by kernel_rfl) (fun _ _ _ h => h) (Or.inl ⟨by rfl, ?_⟩) (by assumption) ?_
      rotate_left 1
      · intro w hSw
        try dsimp only at hSw
        first | (go_simp; done) | (go_simp; with_reducible rfl)
      try simp only [Act.put, List.setIfInBounds_toArray, List.set_cons_zero, List.set_cons_succ]
      refine wpAnyH_take (i := 22) (oi := { dst := some 47, op := Go.Op.load 56 (Go.Operand.tmp 10), type := 56, pos := "head.go:58", after := #[{ on := 21, ground := Go.Ground.guard }], guard := some (21, true) }) (v := undef) rfl (by kernel_rfl) (by kernel_rfl) (by kernel_rfl) (fun _ _ _ h => h) (Or.inr ⟨by rfl, rfl⟩) (by assumption) ?_
      try simp only [Act.put, List.setIfInBounds_toArray, List.set_cons_zero, List.set_cons_succ]
      refine wpAnyH_take (i := 23) (oi := { dst := some 48, op := Go.Op.call { callee := Go.Callee.value (Go.Operand.func 48), args := #[Go.Operand.tmp 47], argTypes := #[56] }, type := 3, pos := "head.go:59", after := #[{ on := 22, ground := Go.Ground.data }, { on := 21, ground := Go.Ground.chain }, { on := 21, ground := Go.Ground.guard }], guard := some (21, true) }) (v := undef) rfl (by kernel_rfl) (by kernel_rfl) (by kernel_rfl) (fun _ _ _ h => h) (Or.inr ⟨by rfl, rfl⟩) (by assumption) ?_
      try simp only [Act.put, List.setIfInBounds_toArray, List.set_cons_zero, List.set_cons_succ]
      refine wpAnyH_take (i := 24) (oi := { dst := some 49, op := Go.Op.move (Go.Operand.tmp 1), type := 3, pos := "head.go:58", after := #[{ on := 21, ground := Go.Ground.guard }], guard := some (21, true) }) (v := undef) rfl (by kernel_rfl) (by kernel_rfl) (by kernel_rfl) (fun _ _ _ h => h) (Or.inr ⟨by rfl, rfl⟩) (by assumption) ?_
      try simp only [Act.put, List.setIfInBounds_toArray, List.set_cons_zero, List.set_cons_succ]
      refine wpAnyH_take (i := 25) (oi := { dst := some 50, op := Go.Op.binOp Go.BinOp.eql 3 (Go.Operand.tmp 48) (Go.Operand.tmp 49) 3, type := 4, pos := "head.go:58", after := #[{ on := 23, ground := Go.Ground.data }, { on := 24, ground := Go.Ground.data }, { on := 21, ground := Go.Ground.guard }], guard := some (21, true) }) (v := undef) rfl (by kernel_rfl) (by kernel_rfl) (by kernel_rfl) (fun _ _ _ h => h) (Or.inr ⟨by rfl, rfl⟩) (by assumption) ?_
      try simp only [Act.put, List.setIfInBounds_toArray, List.set_cons_zero, List.set_cons_succ]
      refine wpAnyH_take (i := 26) (oi := { dst := some 51, op := Go.Op.pick (Go.Operand.tmp 46) (Go.Operand.tmp 50) (Go.Operand.const (Go.Value.bool false)), type := 4, pos := "head.go:58", after := #[{ on := 21, ground := Go.Ground.data }, { on := 25, ground := Go.Ground.data }], guard := none }) (v := ?_) rfl (by kernel_rfl) (by kernel_rfl) (by kernel_rfl) (fun _ _ _ h => h) (Or.inl ⟨by rfl, ?_⟩) (by assumption) ?_
      rotate_left 1
      · intro w hSw
        try dsimp only at hSw
        first | (go_simp; done) | (go_simp; with_reducible rfl)
      try simp only [Act.put, List.setIfInBounds_toArray, List.set_cons_zero, List.set_cons_succ]
      refine wpAnyH_take (i := 27) (oi := { dst := some 52, op := Go.Op.move (Go.Operand.tmp 51), type := 4, pos := "head.go:58", after := #[{ on := 26, ground := Go.Ground.data }, { on := 23, ground := Go.Ground.chain }], guard := none }) (v := ?_) rfl (by kernel_rfl) (by kernel_rfl) (by kernel_rfl) (fun _ _ _ h => h) (Or.inl ⟨by rfl, ?_⟩) (by assumption) ?_
      rotate_left 1
      · intro w hSw
        try dsimp only at hSw
        first | (go_simp; done) | (go_simp; with_reducible rfl)
      try simp only [Act.put, List.setIfInBounds_toArray, List.set_cons_zero, List.set_cons_succ]
      refine wpAnyH_take (i := 28) (oi := { dst := some 53, op := Go.Op.load 56 (Go.Operand.tmp 10), type := 56, pos := "head.go:58", after := #[{ on := 27, ground := Go.Ground.guard }], guard := some (27, true) }) (v := undef) rfl (by kernel_rfl) (by kernel_rfl) (by kernel_rfl) (fun _ _ _ h => h) (Or.inr ⟨by rfl, rfl⟩) (by assumption) ?_
      try simp only [Act.put, List.setIfInBounds_toArray, List.set_cons_zero, List.set_cons_succ]
      refine wpAnyH_take (i := 29) (oi := { dst := some 54, op := Go.Op.call { callee := Go.Callee.value (Go.Operand.func 49), args := #[Go.Operand.tmp 53], argTypes := #[56] }, type := 9, pos := "head.go:59", after := #[{ on := 28, ground := Go.Ground.data }, { on := 27, ground := Go.Ground.chain }, { on := 27, ground := Go.Ground.guard }], guard := some (27, true) }) (v := undef) rfl (by kernel_rfl) (by kernel_rfl) (by kernel_rfl) (fun _ _ _ h => h) (Or.inr ⟨by rfl, rfl⟩) (by assumption) ?_
      try simp only [Act.put, List.setIfInBounds_toArray, List.set_cons_zero, List.set_cons_succ]
      refine wpAnyH_take (i := 30) (oi := { dst := some 55, op := Go.Op.load 9 (Go.Operand.tmp 3), type := 9, pos := "head.go:58", after := #[{ on := 27, ground := Go.Ground.guard }], guard := some (27, true) }) (v := undef) rfl (by kernel_rfl) (by kernel_rfl) (by kernel_rfl) (fun _ _ _ h => h) (Or.inr ⟨by rfl, rfl⟩) (by assumption) ?_
      try simp only [Act.put, List.setIfInBounds_toArray, List.set_cons_zero, List.set_cons_succ]
      refine wpAnyH_take (i := 31) (oi := { dst := some 56, op := Go.Op.binOp Go.BinOp.eql 9 (Go.Operand.tmp 54) (Go.Operand.tmp 55) 9, type := 4, pos := "head.go:58", after := #[{ on := 29, ground := Go.Ground.data }, { on := 30, ground := Go.Ground.data }, { on := 27, ground := Go.Ground.guard }], guard := some (27, true) }) (v := undef) rfl (by kernel_rfl) (by kernel_rfl) (by kernel_rfl) (fun _ _ _ h => h) (Or.inr ⟨by rfl, rfl⟩) (by assumption) ?_
      try simp only [Act.put, List.setIfInBounds_toArray, List.set_cons_zero, List.set_cons_succ]
      refine wpAnyH_take (i := 32) (oi := { dst := some 57, op := Go.Op.pick (Go.Operand.tmp 52) (Go.Operand.tmp 56) (Go.Operand.const (Go.Value.bool false)), type := 4, pos := "head.go:58", after := #[{ on := 27, ground := Go.Ground.data }, { on := 31, ground := Go.Ground.data }], guard := none }) (v := ?_) rfl (by kernel_rfl) (by kernel_rfl) (by kernel_rfl) (fun _ _ _ h => h) (Or.inl ⟨by rfl, ?_⟩) (by assumption) ?_
      rotate_left 1
      · intro w hSw
        try dsimp only at hSw
        first | (go_simp; done) | (go_simp; with_reducible rfl)
      try simp only [Act.put, List.setIfInBounds_toArray, List.set_cons_zero, List.set_cons_succ]
      refine wpAnyH_ready (rs := [33]) (by kernel_rfl) (by simp) ?_
      refine AllReadyH.cons (o := { dst := some 11, op := Go.Op.assign (Go.Operand.tmp 57), type := 4, pos := "head.go:58", after := #[{ on := 32, ground := Go.Ground.data }, { on := 29, ground := Go.Ground.chain }, { on := 0, ground := Go.Ground.phase }, { on := 1, ground := Go.Ground.phase }, { on := 2, ground := Go.Ground.phase }, { on := 3, ground := Go.Ground.phase }, { on := 4, ground := Go.Ground.phase }, { on := 5, ground := Go.Ground.phase }, { on := 6, ground := Go.Ground.phase }, { on := 7, ground := Go.Ground.phase }, { on := 8, ground := Go.Ground.phase }, { on := 9, ground := Go.Ground.phase }, { on := 10, ground := Go.Ground.phase }, { on := 11, ground := Go.Ground.phase }, { on := 12, ground := Go.Ground.phase }, { on := 13, ground := Go.Ground.phase }, { on := 14, ground := Go.Ground.phase }, { on := 15, ground := Go.Ground.phase }, { on := 16, ground := Go.Ground.phase }, { on := 17, ground := Go.Ground.phase }, { on := 18, ground := Go.Ground.phase }, { on := 19, ground := Go.Ground.phase }, { on := 20, ground := Go.Ground.phase }, { on := 21, ground := Go.Ground.phase }, { on := 22, ground := Go.Ground.phase }, { on := 23, ground := Go.Ground.phase }, { on := 24, ground := Go.Ground.phase }, { on := 25, ground := Go.Ground.phase }, { on := 26, ground := Go.Ground.phase }, { on := 27, ground := Go.Ground.phase }, { on := 28, ground := Go.Ground.phase }, { on := 29, ground := Go.Ground.phase }, { on := 30, ground := Go.Ground.phase }, { on := 31, ground := Go.Ground.phase }, { on := 32, ground := Go.Ground.phase }], guard := none }) rfl (fun K hK => ?_) ?_
      rotate_left 1
      · exact AllReadyH.nil
      go_simp
      refine hK.out _ _ ?_ (fun hHeld2 => ?_)
      · first | exact hHeld | (exact HK.out _ hbq.out)
      clear hK K
      try simp only [Act.put, List.setIfInBounds_toArray, List.set_cons_zero, List.set_cons_succ]
      clear hHeld
      have hHeld := hHeld2
      clear hHeld2
      refine wpAnyH_done (by kernel_rfl) ?_ _
      refine NoPanic.normal ?_
      try dsimp only
      go_wp2_with fail
      go_meet
      rw [HR.out]
      exact ⟨rfl, Below.drewed (Below.refl _ _)⟩
    · clear HBC
      try (have d1 : decide (1 ≤ (gn : Int)) = true := decide_eq_true (by omega))
      try (have d1 : decide (1 ≤ (gn : Int)) = false := decide_eq_false (by omega))
      try (have d2 : decide ((hf : Int) ≤ 1) = true := decide_eq_true (by omega))
      try (have d2 : decide ((hf : Int) ≤ 1) = false := decide_eq_false (by omega))
      try (have d3 : decide (1 ≤ (sr : Int)) = true := decide_eq_true (by omega))
      try (have d3 : decide (1 ≤ (sr : Int)) = false := decide_eq_false (by omega))
      try (have d4 : decide ((sz : Int) ≤ (t : Int) * 64) = true := decide_eq_true (by omega))
      try (have d4 : decide ((sz : Int) ≤ (t : Int) * 64) = false := decide_eq_false (by omega))
      try (have d5 : (((gn % 2 : Nat) : Int) == (place : Int)) = true := by rw [beq_iff_eq]; omega)
      try (have d5 : (((gn % 2 : Nat) : Int) == (place : Int)) = false := by rw [beq_eq_false_iff_ne]; omega)
      try clear c1
      try clear c2
      try clear c3
      try clear c4
      try clear c5
      have HR := hide hr
      clear hr
      obtain ⟨pz, hpz⟩ : ∃ z, ((gn % 2 : Nat) : Int) = z := ⟨_, rfl⟩
      try rw [hpz] at d5
      rw [hpz] at HPL
      clear hpz
      refine wp_region_noPanic ?_
      refine wp_region_held_drew (S := (fun w' => Below V4.heap.size V4 w' ∧ w'.cell? ⟨b4, 0, none⟩ = some (.int .i64 (gn : Int)) ∧ w'.cell? ⟨b4, 1, none⟩ = some (.int .i64 (hf : Int)) ∧ w'.cell? ⟨b4, 2, none⟩ = some (.int .i64 (sr : Int)) ∧ w'.cell? ⟨b4, 3, none⟩ = some (.int .i64 (sz : Int)) ∧ w'.cell? ⟨b1, 1, none⟩ = some (.int .i64 (t : Int)) ∧ w'.cell? ⟨b0, 0, none⟩ = some (.string cv))) (by kernel_rfl) ?_ (fun hHeld => ?_)
      · exact HK.out _ (Below.drewed (Below.refl _ _))
      refine wpAnyH_take (i := 0) (oi := { dst := some 25, op := Go.Op.fieldAddr 56 (Go.Operand.tmp 10) 0, type := 0, pos := "head.go:58", after := #[], guard := none }) (v := ?_) rfl (by kernel_rfl) (by kernel_rfl) (by kernel_rfl) (fun _ _ _ h => h) (Or.inl ⟨by rfl, ?_⟩) (by assumption) ?_
      rotate_left 1
      · intro w hSw
        try dsimp only at hSw
        first | (go_simp; done) | (go_simp; with_reducible rfl)
      try simp only [Act.put, List.setIfInBounds_toArray, List.set_cons_zero, List.set_cons_succ]
      refine wpAnyH_take (i := 1) (oi := { dst := some 26, op := Go.Op.load 3 (Go.Operand.tmp 25), type := 3, pos := "head.go:58", after := #[{ on := 0, ground := Go.Ground.data }], guard := none }) (v := ?_) rfl (by kernel_rfl) (by kernel_rfl) (by kernel_rfl) (fun _ _ _ h => h) (Or.inl ⟨by rfl, ?_⟩) (by assumption) ?_
      rotate_left 1
      · intro w hSw
        try dsimp only at hSw
        first | (go_simp; done) | (go_simp; with_reducible rfl)
      try simp only [Act.put, List.setIfInBounds_toArray, List.set_cons_zero, List.set_cons_succ]
      refine wpAnyH_take (i := 2) (oi := { dst := some 27, op := Go.Op.binOp Go.BinOp.geq 3 (Go.Operand.tmp 26) (Go.Operand.const (Go.Value.int Go.IntKind.i64 1)) 3, type := 4, pos := "head.go:58", after := #[{ on := 1, ground := Go.Ground.data }], guard := none }) (v := ?_) rfl (by kernel_rfl) (by kernel_rfl) (by kernel_rfl) (fun _ _ _ h => h) (Or.inl ⟨by rfl, ?_⟩) (by assumption) ?_
      rotate_left 1
      · intro w hSw
        try dsimp only at hSw
        first | (go_simp; done) | (go_simp; with_reducible rfl)
      try simp only [Act.put, List.setIfInBounds_toArray, List.set_cons_zero, List.set_cons_succ]
      refine wpAnyH_take (i := 3) (oi := { dst := some 28, op := Go.Op.move (Go.Operand.tmp 27), type := 4, pos := "head.go:58", after := #[{ on := 2, ground := Go.Ground.data }], guard := none }) (v := ?_) rfl (by kernel_rfl) (by kernel_rfl) (by kernel_rfl) (fun _ _ _ h => h) (Or.inl ⟨by rfl, ?_⟩) (by assumption) ?_
      rotate_left 1
      · intro w hSw
        try dsimp only at hSw
        first | (go_simp; done) | (go_simp; with_reducible rfl)
      try simp only [Act.put, List.setIfInBounds_toArray, List.set_cons_zero, List.set_cons_succ]
      refine wpAnyH_take (i := 4) (oi := { dst := some 29, op := Go.Op.fieldAddr 56 (Go.Operand.tmp 10) 1, type := 0, pos := "head.go:58", after := #[{ on := 3, ground := Go.Ground.guard }], guard := some (3, true) }) (v := ?_) rfl (by kernel_rfl) (by kernel_rfl) (by kernel_rfl) (fun _ _ _ h => h) (Or.inl ⟨by rfl, ?_⟩) (by assumption) ?_
      rotate_left 1
      · intro w hSw
        try dsimp only at hSw
        first | (go_simp; done) | (go_simp; with_reducible rfl)
      try simp only [Act.put, List.setIfInBounds_toArray, List.set_cons_zero, List.set_cons_succ]
      refine wpAnyH_take (i := 5) (oi := { dst := some 30, op := Go.Op.load 3 (Go.Operand.tmp 29), type := 3, pos := "head.go:58", after := #[{ on := 4, ground := Go.Ground.data }, { on := 3, ground := Go.Ground.guard }], guard := some (3, true) }) (v := ?_) rfl (by kernel_rfl) (by kernel_rfl) (by kernel_rfl) (fun _ _ _ h => h) (Or.inl ⟨by rfl, ?_⟩) (by assumption) ?_
      rotate_left 1
      · intro w hSw
        try dsimp only at hSw
        first | (go_simp; done) | (go_simp; with_reducible rfl)
      try simp only [Act.put, List.setIfInBounds_toArray, List.set_cons_zero, List.set_cons_succ]
      refine wpAnyH_take (i := 6) (oi := { dst := some 31, op := Go.Op.binOp Go.BinOp.leq 3 (Go.Operand.tmp 30) (Go.Operand.const (Go.Value.int Go.IntKind.i64 1)) 3, type := 4, pos := "head.go:58", after := #[{ on := 5, ground := Go.Ground.data }, { on := 3, ground := Go.Ground.guard }], guard := some (3, true) }) (v := ?_) rfl (by kernel_rfl) (by kernel_rfl) (by kernel_rfl) (fun _ _ _ h => h) (Or.inl ⟨by rfl, ?_⟩) (by assumption) ?_
      rotate_left 1
      · intro w hSw
        try dsimp only at hSw
        first | (go_simp; done) | (go_simp; with_reducible rfl)
      try simp only [Act.put, List.setIfInBounds_toArray, List.set_cons_zero, List.set_cons_succ]
      refine wpAnyH_take (i := 7) (oi := { dst := some 32, op := Go.Op.pick (Go.Operand.tmp 28) (Go.Operand.tmp 31) (Go.Operand.const (Go.Value.bool false)), type := 4, pos := "head.go:58", after := #[{ on := 3, ground := Go.Ground.data }, { on := 6, ground := Go.Ground.data }], guard := none }) (v := ?_) rfl (by kernel_rfl) (by kernel_rfl) (by kernel_rfl) (fun _ _ _ h => h) (Or.inl ⟨by rfl, ?_⟩) (by assumption) ?_
      rotate_left 1
      · intro w hSw
        try dsimp only at hSw
        first | (go_simp; done) | (go_simp; with_reducible rfl)
      try simp only [Act.put, List.setIfInBounds_toArray, List.set_cons_zero, List.set_cons_succ]
      refine wpAnyH_take (i := 8) (oi := { dst := some 33, op := Go.Op.move (Go.Operand.tmp 32), type := 4, pos := "head.go:58", after := #[{ on := 7, ground := Go.Ground.data }, { on := 3, ground := Go.Ground.chain }], guard := none }) (v := ?_) rfl (by kernel_rfl) (by kernel_rfl) (by kernel_rfl) (fun _ _ _ h => h) (Or.inl ⟨by rfl, ?_⟩) (by assumption) ?_
      rotate_left 1
      · intro w hSw
        try dsimp only at hSw
        first | (go_simp; done) | (go_simp; with_reducible rfl)
      try simp only [Act.put, List.setIfInBounds_toArray, List.set_cons_zero, List.set_cons_succ]
      refine wpAnyH_take (i := 9) (oi := { dst := some 34, op := Go.Op.fieldAddr 56 (Go.Operand.tmp 10) 2, type := 0, pos := "head.go:58", after := #[{ on := 8, ground := Go.Ground.guard }], guard := some (8, true) }) (v := ?_) rfl (by kernel_rfl) (by kernel_rfl) (by kernel_rfl) (fun _ _ _ h => h) (Or.inl ⟨by rfl, ?_⟩) (by assumption) ?_
      rotate_left 1
      · intro w hSw
        try dsimp only at hSw
        first | (go_simp; done) | (go_simp; with_reducible rfl)
      try simp only [Act.put, List.setIfInBounds_toArray, List.set_cons_zero, List.set_cons_succ]
      refine wpAnyH_take (i := 10) (oi := { dst := some 35, op := Go.Op.load 3 (Go.Operand.tmp 34), type := 3, pos := "head.go:58", after := #[{ on := 9, ground := Go.Ground.data }, { on := 8, ground := Go.Ground.guard }], guard := some (8, true) }) (v := ?_) rfl (by kernel_rfl) (by kernel_rfl) (by kernel_rfl) (fun _ _ _ h => h) (Or.inl ⟨by rfl, ?_⟩) (by assumption) ?_
      rotate_left 1
      · intro w hSw
        try dsimp only at hSw
        first | (go_simp; done) | (go_simp; with_reducible rfl)
      try simp only [Act.put, List.setIfInBounds_toArray, List.set_cons_zero, List.set_cons_succ]
      refine wpAnyH_take (i := 11) (oi := { dst := some 36, op := Go.Op.binOp Go.BinOp.geq 3 (Go.Operand.tmp 35) (Go.Operand.const (Go.Value.int Go.IntKind.i64 1)) 3, type := 4, pos := "head.go:58", after := #[{ on := 10, ground := Go.Ground.data }, { on := 8, ground := Go.Ground.guard }], guard := some (8, true) }) (v := ?_) rfl (by kernel_rfl) (by kernel_rfl) (by kernel_rfl) (fun _ _ _ h => h) (Or.inl ⟨by rfl, ?_⟩) (by assumption) ?_
      rotate_left 1
      · intro w hSw
        try dsimp only at hSw
        first | (go_simp; done) | (go_simp; with_reducible rfl)
      try simp only [Act.put, List.setIfInBounds_toArray, List.set_cons_zero, List.set_cons_succ]
      refine wpAnyH_take (i := 12) (oi := { dst := some 37, op := Go.Op.pick (Go.Operand.tmp 33) (Go.Operand.tmp 36) (Go.Operand.const (Go.Value.bool false)), type := 4, pos := "head.go:58", after := #[{ on := 8, ground := Go.Ground.data }, { on := 11, ground := Go.Ground.data }], guard := none }) (v := ?_) rfl (by kernel_rfl) (by kernel_rfl) (by kernel_rfl) (fun _ _ _ h => h) (Or.inl ⟨by rfl, ?_⟩) (by assumption) ?_
      rotate_left 1
      · intro w hSw
        try dsimp only at hSw
        first | (go_simp; done) | (go_simp; with_reducible rfl)
      try simp only [Act.put, List.setIfInBounds_toArray, List.set_cons_zero, List.set_cons_succ]
      refine wpAnyH_take (i := 13) (oi := { dst := some 38, op := Go.Op.move (Go.Operand.tmp 37), type := 4, pos := "head.go:58", after := #[{ on := 12, ground := Go.Ground.data }, { on := 8, ground := Go.Ground.chain }], guard := none }) (v := ?_) rfl (by kernel_rfl) (by kernel_rfl) (by kernel_rfl) (fun _ _ _ h => h) (Or.inl ⟨by rfl, ?_⟩) (by assumption) ?_
      rotate_left 1
      · intro w hSw
        try dsimp only at hSw
        first | (go_simp; done) | (go_simp; with_reducible rfl)
      try simp only [Act.put, List.setIfInBounds_toArray, List.set_cons_zero, List.set_cons_succ]
      refine wpAnyH_take (i := 14) (oi := { dst := some 39, op := Go.Op.fieldAddr 56 (Go.Operand.tmp 10) 3, type := 0, pos := "head.go:58", after := #[{ on := 13, ground := Go.Ground.guard }], guard := some (13, true) }) (v := ?_) rfl (by kernel_rfl) (by kernel_rfl) (by kernel_rfl) (fun _ _ _ h => h) (Or.inl ⟨by rfl, ?_⟩) (by assumption) ?_
      rotate_left 1
      · intro w hSw
        try dsimp only at hSw
        first | (go_simp; done) | (go_simp; with_reducible rfl)
      try simp only [Act.put, List.setIfInBounds_toArray, List.set_cons_zero, List.set_cons_succ]
      refine wpAnyH_take (i := 15) (oi := { dst := some 40, op := Go.Op.load 3 (Go.Operand.tmp 39), type := 3, pos := "head.go:58", after := #[{ on := 14, ground := Go.Ground.data }, { on := 13, ground := Go.Ground.guard }], guard := some (13, true) }) (v := ?_) rfl (by kernel_rfl) (by kernel_rfl) (by kernel_rfl) (fun _ _ _ h => h) (Or.inl ⟨by rfl, ?_⟩) (by assumption) ?_
      rotate_left 1
      · intro w hSw
        try dsimp only at hSw
        first | (go_simp; done) | (go_simp; with_reducible rfl)
      try simp only [Act.put, List.setIfInBounds_toArray, List.set_cons_zero, List.set_cons_succ]
      refine wpAnyH_take (i := 16) (oi := { dst := some 41, op := Go.Op.fieldAddr 27 (Go.Operand.tmp 5) 1, type := 0, pos := "head.go:58", after := #[{ on := 13, ground := Go.Ground.guard }], guard := some (13, true) }) (v := ?_) rfl (by kernel_rfl) (by kernel_rfl) (by kernel_rfl) (fun _ _ _ h => h) (Or.inl ⟨by rfl, ?_⟩) (by assumption) ?_
      rotate_left 1
      · intro w hSw
        try dsimp only at hSw
        first | (go_simp; done) | (go_simp; with_reducible rfl)
      try simp only [Act.put, List.setIfInBounds_toArray, List.set_cons_zero, List.set_cons_succ]
      refine wpAnyH_take (i := 17) (oi := { dst := some 42, op := Go.Op.load 3 (Go.Operand.tmp 41), type := 3, pos := "head.go:58", after := #[{ on := 16, ground := Go.Ground.data }, { on := 13, ground := Go.Ground.guard }], guard := some (13, true) }) (v := ?_) rfl (by kernel_rfl) (by kernel_rfl) (by kernel_rfl) (fun _ _ _ h => h) (Or.inl ⟨by rfl, ?_⟩) (by assumption) ?_
      rotate_left 1
      · intro w hSw
        try dsimp only at hSw
        first | (go_simp; done) | (go_simp; with_reducible rfl)
      try simp only [Act.put, List.setIfInBounds_toArray, List.set_cons_zero, List.set_cons_succ]
      refine wpAnyH_take (i := 18) (oi := { dst := some 43, op := Go.Op.binOp Go.BinOp.mul 3 (Go.Operand.tmp 42) (Go.Operand.const (Go.Value.int Go.IntKind.i64 64)) 3, type := 3, pos := "head.go:58", after := #[{ on := 17, ground := Go.Ground.data }, { on := 13, ground := Go.Ground.guard }], guard := some (13, true) }) (v := ?_) rfl (by kernel_rfl) (by kernel_rfl) (by kernel_rfl) (fun _ _ _ h => h) (Or.inl ⟨by rfl, ?_⟩) (by assumption) ?_
      rotate_left 1
      · intro w hSw
        try dsimp only at hSw
        first | (go_simp; done) | (go_simp; with_reducible rfl)
      try simp only [Act.put, List.setIfInBounds_toArray, List.set_cons_zero, List.set_cons_succ]
      refine wpAnyH_take (i := 19) (oi := { dst := some 44, op := Go.Op.binOp Go.BinOp.leq 3 (Go.Operand.tmp 40) (Go.Operand.tmp 43) 3, type := 4, pos := "head.go:58", after := #[{ on := 15, ground := Go.Ground.data }, { on := 18, ground := Go.Ground.data }, { on := 13, ground := Go.Ground.guard }], guard := some (13, true) }) (v := ?_) rfl (by kernel_rfl) (by kernel_rfl) (by kernel_rfl) (fun _ _ _ h => h) (Or.inl ⟨by rfl, ?_⟩) (by assumption) ?_
      rotate_left 1
      · intro w hSw
        try dsimp only at hSw
        first | (go_simp; done) | (go_simp; with_reducible rfl)
      try simp only [Act.put, List.setIfInBounds_toArray, List.set_cons_zero, List.set_cons_succ]
      refine wpAnyH_take (i := 20) (oi := { dst := some 45, op := Go.Op.pick (Go.Operand.tmp 38) (Go.Operand.tmp 44) (Go.Operand.const (Go.Value.bool false)), type := 4, pos := "head.go:58", after := #[{ on := 13, ground := Go.Ground.data }, { on := 19, ground := Go.Ground.data }], guard := none }) (v := ?_) rfl (by kernel_rfl) (by kernel_rfl) (by kernel_rfl) (fun _ _ _ h => h) (Or.inl ⟨by rfl, ?_⟩) (by assumption) ?_
      rotate_left 1
      · intro w hSw
        try dsimp only at hSw
        first | (go_simp; done) | (go_simp; with_reducible rfl)
      try simp only [Act.put, List.setIfInBounds_toArray, List.set_cons_zero, List.set_cons_succ]
      refine wpAnyH_take (i := 21) (oi := { dst := some 46, op := Go.Op.move (Go.Operand.tmp 45), type := 4, pos := "head.go:58", after := #[{ on := 20, ground := Go.Ground.data }, { on := 13, ground := Go.Ground.chain }], guard := none }) (v := ?_) rfl (by kernel_rfl) (by kernel_rfl) (by kernel_rfl) (fun _ _ _ h => h) (Or.inl ⟨by rfl, ?_⟩) (by assumption) ?_
      rotate_left 1
      · intro w hSw
        try dsimp only at hSw
        first | (go_simp; done) | (go_simp; with_reducible rfl)
      try simp only [Act.put, List.setIfInBounds_toArray, List.set_cons_zero, List.set_cons_succ]
      refine wpAnyH_take (i := 22) (oi := { dst := some 47, op := Go.Op.load 56 (Go.Operand.tmp 10), type := 56, pos := "head.go:58", after := #[{ on := 21, ground := Go.Ground.guard }], guard := some (21, true) }) (v := ?_) rfl (by kernel_rfl) (by kernel_rfl) (by kernel_rfl) (fun _ _ _ h => h) (Or.inl ⟨by rfl, ?_⟩) (by assumption) ?_
      rotate_left 1
      · intro w hSw
        try dsimp only at hSw
        first | (go_simp; done) | (go_simp; with_reducible rfl)
      try simp only [Act.put, List.setIfInBounds_toArray, List.set_cons_zero, List.set_cons_succ]
      refine wpAnyH_take (i := 24) (oi := { dst := some 49, op := Go.Op.move (Go.Operand.tmp 1), type := 3, pos := "head.go:58", after := #[{ on := 21, ground := Go.Ground.guard }], guard := some (21, true) }) (v := ?_) rfl (by kernel_rfl) (by kernel_rfl) (by kernel_rfl) (fun _ _ _ h => h) (Or.inl ⟨by rfl, ?_⟩) (by assumption) ?_
      rotate_left 1
      · intro w hSw
        try dsimp only at hSw
        first | (go_simp; done) | (go_simp; with_reducible rfl)
      try simp only [Act.put, List.setIfInBounds_toArray, List.set_cons_zero, List.set_cons_succ]
      refine wpAnyH_ready (rs := [23]) (by kernel_rfl) (by simp) ?_
      refine AllReadyH.cons (o := { dst := some 48, op := Go.Op.call { callee := Go.Callee.value (Go.Operand.func 48), args := #[Go.Operand.tmp 47], argTypes := #[56] }, type := 3, pos := "head.go:59", after := #[{ on := 22, ground := Go.Ground.data }, { on := 21, ground := Go.Ground.chain }, { on := 21, ground := Go.Ground.guard }], guard := some (21, true) }) rfl (fun K hK => ?_) ?_
      rotate_left 1
      · exact AllReadyH.nil
      go_simp
      have hq := (‹Below V4.heap.size V4 _ ∧ _›).1
      refine (HPL.out _).mono ?_
      rintro e w8 ⟨rfl, hb8⟩
      have hbq := hide (chain hq hb8)
      clear hq hb8
      refine hK.out _ _ ?_ (fun hHeld2 => ?_)
      · exact HK.out _ hbq.out
      clear hK K
      try simp only [Act.put, List.setIfInBounds_toArray, List.set_cons_zero, List.set_cons_succ]
      clear hHeld
      have hHeld := hHeld2
      clear hHeld2
      refine wpAnyH_take (i := 25) (oi := { dst := some 50, op := Go.Op.binOp Go.BinOp.eql 3 (Go.Operand.tmp 48) (Go.Operand.tmp 49) 3, type := 4, pos := "head.go:58", after := #[{ on := 23, ground := Go.Ground.data }, { on := 24, ground := Go.Ground.data }, { on := 21, ground := Go.Ground.guard }], guard := some (21, true) }) (v := ?_) rfl (by kernel_rfl) (by kernel_rfl) (by kernel_rfl) (fun _ _ _ h => h) (Or.inl ⟨by rfl, ?_⟩) (by assumption) ?_
      rotate_left 1
      · intro w hSw
        try dsimp only at hSw
        first | (go_simp; done) | (go_simp; with_reducible rfl)
      try simp only [Act.put, List.setIfInBounds_toArray, List.set_cons_zero, List.set_cons_succ]
      refine wpAnyH_take (i := 26) (oi := { dst := some 51, op := Go.Op.pick (Go.Operand.tmp 46) (Go.Operand.tmp 50) (Go.Operand.const (Go.Value.bool false)), type := 4, pos := "head.go:58", after := #[{ on := 21, ground := Go.Ground.data }, { on := 25, ground := Go.Ground.data }], guard := none }) (v := ?_) rfl (by kernel_rfl) (by kernel_rfl) (by kernel_rfl) (fun _ _ _ h => h) (Or.inl ⟨by rfl, ?_⟩) (by assumption) ?_
      rotate_left 1
      · intro w hSw
        try dsimp only at hSw
        first | (go_simp; done) | (go_simp; with_reducible rfl)
      try simp only [Act.put, List.setIfInBounds_toArray, List.set_cons_zero, List.set_cons_succ]
      refine wpAnyH_take (i := 27) (oi := { dst := some 52, op := Go.Op.move (Go.Operand.tmp 51), type := 4, pos := "head.go:58", after := #[{ on := 26, ground := Go.Ground.data }, { on := 23, ground := Go.Ground.chain }], guard := none }) (v := ?_) rfl (by kernel_rfl) (by kernel_rfl) (by kernel_rfl) (fun _ _ _ h => h) (Or.inl ⟨by rfl, ?_⟩) (by assumption) ?_
      rotate_left 1
      · intro w hSw
        try dsimp only at hSw
        first | (go_simp; done) | (go_simp; with_reducible rfl)
      try simp only [Act.put, List.setIfInBounds_toArray, List.set_cons_zero, List.set_cons_succ]
      refine wpAnyH_take (i := 28) (oi := { dst := some 53, op := Go.Op.load 56 (Go.Operand.tmp 10), type := 56, pos := "head.go:58", after := #[{ on := 27, ground := Go.Ground.guard }], guard := some (27, true) }) (v := undef) rfl (by kernel_rfl) (by kernel_rfl) (by kernel_rfl) (fun _ _ _ h => h) (Or.inr ⟨by rfl, rfl⟩) (by assumption) ?_
      try simp only [Act.put, List.setIfInBounds_toArray, List.set_cons_zero, List.set_cons_succ]
      refine wpAnyH_take (i := 29) (oi := { dst := some 54, op := Go.Op.call { callee := Go.Callee.value (Go.Operand.func 49), args := #[Go.Operand.tmp 53], argTypes := #[56] }, type := 9, pos := "head.go:59", after := #[{ on := 28, ground := Go.Ground.data }, { on := 27, ground := Go.Ground.chain }, { on := 27, ground := Go.Ground.guard }], guard := some (27, true) }) (v := undef) rfl (by kernel_rfl) (by kernel_rfl) (by kernel_rfl) (fun _ _ _ h => h) (Or.inr ⟨by rfl, rfl⟩) (by assumption) ?_
      try simp only [Act.put, List.setIfInBounds_toArray, List.set_cons_zero, List.set_cons_succ]
      refine wpAnyH_take (i := 30) (oi := { dst := some 55, op := Go.Op.load 9 (Go.Operand.tmp 3), type := 9, pos := "head.go:58", after := #[{ on := 27, ground := Go.Ground.guard }], guard := some (27, true) }) (v := undef) rfl (by kernel_rfl) (by kernel_rfl) (by kernel_rfl) (fun _ _ _ h => h) (Or.inr ⟨by rfl, rfl⟩) (by assumption) ?_
      try simp only [Act.put, List.setIfInBounds_toArray, List.set_cons_zero, List.set_cons_succ]
      refine wpAnyH_take (i := 31) (oi := { dst := some 56, op := Go.Op.binOp Go.BinOp.eql 9 (Go.Operand.tmp 54) (Go.Operand.tmp 55) 9, type := 4, pos := "head.go:58", after := #[{ on := 29, ground := Go.Ground.data }, { on := 30, ground := Go.Ground.data }, { on := 27, ground := Go.Ground.guard }], guard := some (27, true) }) (v := undef) rfl (by kernel_rfl) (by kernel_rfl) (by kernel_rfl) (fun _ _ _ h => h) (Or.inr ⟨by rfl, rfl⟩) (by assumption) ?_
      try simp only [Act.put, List.setIfInBounds_toArray, List.set_cons_zero, List.set_cons_succ]
      refine wpAnyH_take (i := 32) (oi := { dst := some 57, op := Go.Op.pick (Go.Operand.tmp 52) (Go.Operand.tmp 56) (Go.Operand.const (Go.Value.bool false)), type := 4, pos := "head.go:58", after := #[{ on := 27, ground := Go.Ground.data }, { on := 31, ground := Go.Ground.data }], guard := none }) (v := ?_) rfl (by kernel_rfl) (by kernel_rfl) (by kernel_rfl) (fun _ _ _ h => h) (Or.inl ⟨by rfl, ?_⟩) (by assumption) ?_
      rotate_left 1
      · intro w hSw
        try dsimp only at hSw
        first | (go_simp; done) | (go_simp; with_reducible rfl)
      try simp only [Act.put, List.setIfInBounds_toArray, List.set_cons_zero, List.set_cons_succ]
      refine wpAnyH_ready (rs := [33]) (by kernel_rfl) (by simp) ?_
      refine AllReadyH.cons (o := { dst := some 11, op := Go.Op.assign (Go.Operand.tmp 57), type := 4, pos := "head.go:58", after := #[{ on := 32, ground := Go.Ground.data }, { on := 29, ground := Go.Ground.chain }, { on := 0, ground := Go.Ground.phase }, { on := 1, ground := Go.Ground.phase }, { on := 2, ground := Go.Ground.phase }, { on := 3, ground := Go.Ground.phase }, { on := 4, ground := Go.Ground.phase }, { on := 5, ground := Go.Ground.phase }, { on := 6, ground := Go.Ground.phase }, { on := 7, ground := Go.Ground.phase }, { on := 8, ground := Go.Ground.phase }, { on := 9, ground := Go.Ground.phase }, { on := 10, ground := Go.Ground.phase }, { on := 11, ground := Go.Ground.phase }, { on := 12, ground := Go.Ground.phase }, { on := 13, ground := Go.Ground.phase }, { on := 14, ground := Go.Ground.phase }, { on := 15, ground := Go.Ground.phase }, { on := 16, ground := Go.Ground.phase }, { on := 17, ground := Go.Ground.phase }, { on := 18, ground := Go.Ground.phase }, { on := 19, ground := Go.Ground.phase }, { on := 20, ground := Go.Ground.phase }, { on := 21, ground := Go.Ground.phase }, { on := 22, ground := Go.Ground.phase }, { on := 23, ground := Go.Ground.phase }, { on := 24, ground := Go.Ground.phase }, { on := 25, ground := Go.Ground.phase }, { on := 26, ground := Go.Ground.phase }, { on := 27, ground := Go.Ground.phase }, { on := 28, ground := Go.Ground.phase }, { on := 29, ground := Go.Ground.phase }, { on := 30, ground := Go.Ground.phase }, { on := 31, ground := Go.Ground.phase }, { on := 32, ground := Go.Ground.phase }], guard := none }) rfl (fun K hK => ?_) ?_
      rotate_left 1
      · exact AllReadyH.nil
      go_simp
      refine hK.out _ _ ?_ (fun hHeld2 => ?_)
      · first | exact hHeld | (exact HK.out _ hbq.out)
      clear hK K
      try simp only [Act.put, List.setIfInBounds_toArray, List.set_cons_zero, List.set_cons_succ]
      clear hHeld
      have hHeld := hHeld2
      clear hHeld2
      refine wpAnyH_done (by kernel_rfl) ?_ _
      refine NoPanic.normal ?_
      try dsimp only
      go_wp2_with fail
      go_meet
      rw [HR.out]
      exact ⟨rfl, hbq.out⟩
    · clear HBC
      try (have d1 : decide (1 ≤ (gn : Int)) = true := decide_eq_true (by omega))
      try (have d1 : decide (1 ≤ (gn : Int)) = false := decide_eq_false (by omega))
      try (have d2 : decide ((hf : Int) ≤ 1) = true := decide_eq_true (by omega))
      try (have d2 : decide ((hf : Int) ≤ 1) = false := decide_eq_false (by omega))
      try (have d3 : decide (1 ≤ (sr : Int)) = true := decide_eq_true (by omega))
      try (have d3 : decide (1 ≤ (sr : Int)) = false := decide_eq_false (by omega))
      try (have d4 : decide ((sz : Int) ≤ (t : Int) * 64) = true := decide_eq_true (by omega))
      try (have d4 : decide ((sz : Int) ≤ (t : Int) * 64) = false := decide_eq_false (by omega))
      try (have d5 : (((gn % 2 : Nat) : Int) == (place : Int)) = true := by rw [beq_iff_eq]; omega)
      try (have d5 : (((gn % 2 : Nat) : Int) == (place : Int)) = false := by rw [beq_eq_false_iff_ne]; omega)
      try clear c1
      try clear c2
      try clear c3
      try clear c4
      try clear c5
      have HR := hide hr
      clear hr
      obtain ⟨pz, hpz⟩ : ∃ z, ((gn % 2 : Nat) : Int) = z := ⟨_, rfl⟩
      try rw [hpz] at d5
      rw [hpz] at HPL
      clear hpz
      refine wp_region_noPanic ?_
      refine wp_region_held_drew (S := (fun w' => Below V4.heap.size V4 w' ∧ w'.cell? ⟨b4, 0, none⟩ = some (.int .i64 (gn : Int)) ∧ w'.cell? ⟨b4, 1, none⟩ = some (.int .i64 (hf : Int)) ∧ w'.cell? ⟨b4, 2, none⟩ = some (.int .i64 (sr : Int)) ∧ w'.cell? ⟨b4, 3, none⟩ = some (.int .i64 (sz : Int)) ∧ w'.cell? ⟨b1, 1, none⟩ = some (.int .i64 (t : Int)) ∧ w'.cell? ⟨b0, 0, none⟩ = some (.string cv))) (by kernel_rfl) ?_ (fun hHeld => ?_)
      · exact HK.out _ (Below.drewed (Below.refl _ _))
      refine wpAnyH_take (i := 0) (oi := { dst := some 25, op := Go.Op.fieldAddr 56 (Go.Operand.tmp 10) 0, type := 0, pos := "head.go:58", after := #[], guard := none }) (v := ?_) rfl (by kernel_rfl) (by kernel_rfl) (by kernel_rfl) (fun _ _ _ h => h) (Or.inl ⟨by rfl, ?_⟩) (by assumption) ?_
      rotate_left 1
      · intro w hSw
        try dsimp only at hSw
        first | (go_simp; done) | (go_simp; with_reducible rfl)
      try simp only [Act.put, List.setIfInBounds_toArray, List.set_cons_zero, List.set_cons_succ]
      refine wpAnyH_take (i := 1) (oi := { dst := some 26, op := Go.Op.load 3 (Go.Operand.tmp 25), type := 3, pos := "head.go:58", after := #[{ on := 0, ground := Go.Ground.data }], guard := none }) (v := ?_) rfl (by kernel_rfl) (by kernel_rfl) (by kernel_rfl) (fun _ _ _ h => h) (Or.inl ⟨by rfl, ?_⟩) (by assumption) ?_
      rotate_left 1
      · intro w hSw
        try dsimp only at hSw
        first | (go_simp; done) | (go_simp; with_reducible rfl)
      try simp only [Act.put, List.setIfInBounds_toArray, List.set_cons_zero, List.set_cons_succ]
      refine wpAnyH_take (i := 2) (oi := { dst := some 27, op := Go.Op.binOp Go.BinOp.geq 3 (Go.Operand.tmp 26) (Go.Operand.const (Go.Value.int Go.IntKind.i64 1)) 3, type := 4, pos := "head.go:58", after := #[{ on := 1, ground := Go.Ground.data }], guard := none }) (v := ?_) rfl (by kernel_rfl) (by kernel_rfl) (by kernel_rfl) (fun _ _ _ h => h) (Or.inl ⟨by rfl, ?_⟩) (by assumption) ?_
      rotate_left 1
      · intro w hSw
        try dsimp only at hSw
        first | (go_simp; done) | (go_simp; with_reducible rfl)
      try simp only [Act.put, List.setIfInBounds_toArray, List.set_cons_zero, List.set_cons_succ]
      refine wpAnyH_take (i := 3) (oi := { dst := some 28, op := Go.Op.move (Go.Operand.tmp 27), type := 4, pos := "head.go:58", after := #[{ on := 2, ground := Go.Ground.data }], guard := none }) (v := ?_) rfl (by kernel_rfl) (by kernel_rfl) (by kernel_rfl) (fun _ _ _ h => h) (Or.inl ⟨by rfl, ?_⟩) (by assumption) ?_
      rotate_left 1
      · intro w hSw
        try dsimp only at hSw
        first | (go_simp; done) | (go_simp; with_reducible rfl)
      try simp only [Act.put, List.setIfInBounds_toArray, List.set_cons_zero, List.set_cons_succ]
      refine wpAnyH_take (i := 4) (oi := { dst := some 29, op := Go.Op.fieldAddr 56 (Go.Operand.tmp 10) 1, type := 0, pos := "head.go:58", after := #[{ on := 3, ground := Go.Ground.guard }], guard := some (3, true) }) (v := ?_) rfl (by kernel_rfl) (by kernel_rfl) (by kernel_rfl) (fun _ _ _ h => h) (Or.inl ⟨by rfl, ?_⟩) (by assumption) ?_
      rotate_left 1
      · intro w hSw
        try dsimp only at hSw
        first | (go_simp; done) | (go_simp; with_reducible rfl)
      try simp only [Act.put, List.setIfInBounds_toArray, List.set_cons_zero, List.set_cons_succ]
      refine wpAnyH_take (i := 5) (oi := { dst := some 30, op := Go.Op.load 3 (Go.Operand.tmp 29), type := 3, pos := "head.go:58", after := #[{ on := 4, ground := Go.Ground.data }, { on := 3, ground := Go.Ground.guard }], guard := some (3, true) }) (v := ?_) rfl (by kernel_rfl) (by kernel_rfl) (by kernel_rfl) (fun _ _ _ h => h) (Or.inl ⟨by rfl, ?_⟩) (by assumption) ?_
      rotate_left 1
      · intro w hSw
        try dsimp only at hSw
        first | (go_simp; done) | (go_simp; with_reducible rfl)
      try simp only [Act.put, List.setIfInBounds_toArray, List.set_cons_zero, List.set_cons_succ]
      refine wpAnyH_take (i := 6) (oi := { dst := some 31, op := Go.Op.binOp Go.BinOp.leq 3 (Go.Operand.tmp 30) (Go.Operand.const (Go.Value.int Go.IntKind.i64 1)) 3, type := 4, pos := "head.go:58", after := #[{ on := 5, ground := Go.Ground.data }, { on := 3, ground := Go.Ground.guard }], guard := some (3, true) }) (v := ?_) rfl (by kernel_rfl) (by kernel_rfl) (by kernel_rfl) (fun _ _ _ h => h) (Or.inl ⟨by rfl, ?_⟩) (by assumption) ?_
      rotate_left 1
      · intro w hSw
        try dsimp only at hSw
        first | (go_simp; done) | (go_simp; with_reducible rfl)
      try simp only [Act.put, List.setIfInBounds_toArray, List.set_cons_zero, List.set_cons_succ]
      refine wpAnyH_take (i := 7) (oi := { dst := some 32, op := Go.Op.pick (Go.Operand.tmp 28) (Go.Operand.tmp 31) (Go.Operand.const (Go.Value.bool false)), type := 4, pos := "head.go:58", after := #[{ on := 3, ground := Go.Ground.data }, { on := 6, ground := Go.Ground.data }], guard := none }) (v := ?_) rfl (by kernel_rfl) (by kernel_rfl) (by kernel_rfl) (fun _ _ _ h => h) (Or.inl ⟨by rfl, ?_⟩) (by assumption) ?_
      rotate_left 1
      · intro w hSw
        try dsimp only at hSw
        first | (go_simp; done) | (go_simp; with_reducible rfl)
      try simp only [Act.put, List.setIfInBounds_toArray, List.set_cons_zero, List.set_cons_succ]
      refine wpAnyH_take (i := 8) (oi := { dst := some 33, op := Go.Op.move (Go.Operand.tmp 32), type := 4, pos := "head.go:58", after := #[{ on := 7, ground := Go.Ground.data }, { on := 3, ground := Go.Ground.chain }], guard := none }) (v := ?_) rfl (by kernel_rfl) (by kernel_rfl) (by kernel_rfl) (fun _ _ _ h => h) (Or.inl ⟨by rfl, ?_⟩) (by assumption) ?_
      rotate_left 1
      · intro w hSw
        try dsimp only at hSw
        first | (go_simp; done) | (go_simp; with_reducible rfl)
      try simp only [Act.put, List.setIfInBounds_toArray, List.set_cons_zero, List.set_cons_succ]
      refine wpAnyH_take (i := 9) (oi := { dst := some 34, op := Go.Op.fieldAddr 56 (Go.Operand.tmp 10) 2, type := 0, pos := "head.go:58", after := #[{ on := 8, ground := Go.Ground.guard }], guard := some (8, true) }) (v := ?_) rfl (by kernel_rfl) (by kernel_rfl) (by kernel_rfl) (fun _ _ _ h => h) (Or.inl ⟨by rfl, ?_⟩) (by assumption) ?_
      rotate_left 1
      · intro w hSw
        try dsimp only at hSw
        first | (go_simp; done) | (go_simp; with_reducible rfl)
      try simp only [Act.put, List.setIfInBounds_toArray, List.set_cons_zero, List.set_cons_succ]
      refine wpAnyH_take (i := 10) (oi := { dst := some 35, op := Go.Op.load 3 (Go.Operand.tmp 34), type := 3, pos := "head.go:58", after := #[{ on := 9, ground := Go.Ground.data }, { on := 8, ground := Go.Ground.guard }], guard := some (8, true) }) (v := ?_) rfl (by kernel_rfl) (by kernel_rfl) (by kernel_rfl) (fun _ _ _ h => h) (Or.inl ⟨by rfl, ?_⟩) (by assumption) ?_
      rotate_left 1
      · intro w hSw
        try dsimp only at hSw
        first | (go_simp; done) | (go_simp; with_reducible rfl)
      try simp only [Act.put, List.setIfInBounds_toArray, List.set_cons_zero, List.set_cons_succ]
      refine wpAnyH_take (i := 11) (oi := { dst := some 36, op := Go.Op.binOp Go.BinOp.geq 3 (Go.Operand.tmp 35) (Go.Operand.const (Go.Value.int Go.IntKind.i64 1)) 3, type := 4, pos := "head.go:58", after := #[{ on := 10, ground := Go.Ground.data }, { on := 8, ground := Go.Ground.guard }], guard := some (8, true) }) (v := ?_) rfl (by kernel_rfl) (by kernel_rfl) (by kernel_rfl) (fun _ _ _ h => h) (Or.inl ⟨by rfl, ?_⟩) (by assumption) ?_
      rotate_left 1
      · intro w hSw
        try dsimp only at hSw
        first | (go_simp; done) | (go_simp; with_reducible rfl)
      try simp only [Act.put, List.setIfInBounds_toArray, List.set_cons_zero, List.set_cons_succ]
      refine wpAnyH_take (i := 12) (oi := { dst := some 37, op := Go.Op.pick (Go.Operand.tmp 33) (Go.Operand.tmp 36) (Go.Operand.const (Go.Value.bool false)), type := 4, pos := "head.go:58", after := #[{ on := 8, ground := Go.Ground.data }, { on := 11, ground := Go.Ground.data }], guard := none }) (v := ?_) rfl (by kernel_rfl) (by kernel_rfl) (by kernel_rfl) (fun _ _ _ h => h) (Or.inl ⟨by rfl, ?_⟩) (by assumption) ?_
      rotate_left 1
      · intro w hSw
        try dsimp only at hSw
        first | (go_simp; done) | (go_simp; with_reducible rfl)
      try simp only [Act.put, List.setIfInBounds_toArray, List.set_cons_zero, List.set_cons_succ]
      refine wpAnyH_take (i := 13) (oi := { dst := some 38, op := Go.Op.move (Go.Operand.tmp 37), type := 4, pos := "head.go:58", after := #[{ on := 12, ground := Go.Ground.data }, { on := 8, ground := Go.Ground.chain }], guard := none }) (v := ?_) rfl (by kernel_rfl) (by kernel_rfl) (by kernel_rfl) (fun _ _ _ h => h) (Or.inl ⟨by rfl, ?_⟩) (by assumption) ?_
      rotate_left 1
      · intro w hSw
        try dsimp only at hSw
        first | (go_simp; done) | (go_simp; with_reducible rfl)
      try simp only [Act.put, List.setIfInBounds_toArray, List.set_cons_zero, List.set_cons_succ]
      refine wpAnyH_take (i := 14) (oi := { dst := some 39, op := Go.Op.fieldAddr 56 (Go.Operand.tmp 10) 3, type := 0, pos := "head.go:58", after := #[{ on := 13, ground := Go.Ground.guard }], guard := some (13, true) }) (v := ?_) rfl (by kernel_rfl) (by kernel_rfl) (by kernel_rfl) (fun _ _ _ h => h) (Or.inl ⟨by rfl, ?_⟩) (by assumption) ?_
      rotate_left 1
      · intro w hSw
        try dsimp only at hSw
        first | (go_simp; done) | (go_simp; with_reducible rfl)
      try simp only [Act.put, List.setIfInBounds_toArray, List.set_cons_zero, List.set_cons_succ]
      refine wpAnyH_take (i := 15) (oi := { dst := some 40, op := Go.Op.load 3 (Go.Operand.tmp 39), type := 3, pos := "head.go:58", after := #[{ on := 14, ground := Go.Ground.data }, { on := 13, ground := Go.Ground.guard }], guard := some (13, true) }) (v := ?_) rfl (by kernel_rfl) (by kernel_rfl) (by kernel_rfl) (fun _ _ _ h => h) (Or.inl ⟨by rfl, ?_⟩) (by assumption) ?_
      rotate_left 1
      · intro w hSw
        try dsimp only at hSw
        first | (go_simp; done) | (go_simp; with_reducible rfl)
      try simp only [Act.put, List.setIfInBounds_toArray, List.set_cons_zero, List.set_cons_succ]
      refine wpAnyH_take (i := 16) (oi := { dst := some 41, op := Go.Op.fieldAddr 27 (Go.Operand.tmp 5) 1, type := 0, pos := "head.go:58", after := #[{ on := 13, ground := Go.Ground.guard }], guard := some (13, true) }) (v := ?_) rfl (by kernel_rfl) (by kernel_rfl) (by kernel_rfl) (fun _ _ _ h => h) (Or.inl ⟨by rfl, ?_⟩) (by assumption) ?_
      rotate_left 1
      · intro w hSw
        try dsimp only at hSw
        first | (go_simp; done) | (go_simp; with_reducible rfl)
      try simp only [Act.put, List.setIfInBounds_toArray, List.set_cons_zero, List.set_cons_succ]
      refine wpAnyH_take (i := 17) (oi := { dst := some 42, op := Go.Op.load 3 (Go.Operand.tmp 41), type := 3, pos := "head.go:58", after := #[{ on := 16, ground := Go.Ground.data }, { on := 13, ground := Go.Ground.guard }], guard := some (13, true) }) (v := ?_) rfl (by kernel_rfl) (by kernel_rfl) (by kernel_rfl) (fun _ _ _ h => h) (Or.inl ⟨by rfl, ?_⟩) (by assumption) ?_
      rotate_left 1
      · intro w hSw
        try dsimp only at hSw
        first | (go_simp; done) | (go_simp; with_reducible rfl)
      try simp only [Act.put, List.setIfInBounds_toArray, List.set_cons_zero, List.set_cons_succ]
      refine wpAnyH_take (i := 18) (oi := { dst := some 43, op := Go.Op.binOp Go.BinOp.mul 3 (Go.Operand.tmp 42) (Go.Operand.const (Go.Value.int Go.IntKind.i64 64)) 3, type := 3, pos := "head.go:58", after := #[{ on := 17, ground := Go.Ground.data }, { on := 13, ground := Go.Ground.guard }], guard := some (13, true) }) (v := ?_) rfl (by kernel_rfl) (by kernel_rfl) (by kernel_rfl) (fun _ _ _ h => h) (Or.inl ⟨by rfl, ?_⟩) (by assumption) ?_
      rotate_left 1
      · intro w hSw
        try dsimp only at hSw
        first | (go_simp; done) | (go_simp; with_reducible rfl)
      try simp only [Act.put, List.setIfInBounds_toArray, List.set_cons_zero, List.set_cons_succ]
      refine wpAnyH_take (i := 19) (oi := { dst := some 44, op := Go.Op.binOp Go.BinOp.leq 3 (Go.Operand.tmp 40) (Go.Operand.tmp 43) 3, type := 4, pos := "head.go:58", after := #[{ on := 15, ground := Go.Ground.data }, { on := 18, ground := Go.Ground.data }, { on := 13, ground := Go.Ground.guard }], guard := some (13, true) }) (v := ?_) rfl (by kernel_rfl) (by kernel_rfl) (by kernel_rfl) (fun _ _ _ h => h) (Or.inl ⟨by rfl, ?_⟩) (by assumption) ?_
      rotate_left 1
      · intro w hSw
        try dsimp only at hSw
        first | (go_simp; done) | (go_simp; with_reducible rfl)
      try simp only [Act.put, List.setIfInBounds_toArray, List.set_cons_zero, List.set_cons_succ]
      refine wpAnyH_take (i := 20) (oi := { dst := some 45, op := Go.Op.pick (Go.Operand.tmp 38) (Go.Operand.tmp 44) (Go.Operand.const (Go.Value.bool false)), type := 4, pos := "head.go:58", after := #[{ on := 13, ground := Go.Ground.data }, { on := 19, ground := Go.Ground.data }], guard := none }) (v := ?_) rfl (by kernel_rfl) (by kernel_rfl) (by kernel_rfl) (fun _ _ _ h => h) (Or.inl ⟨by rfl, ?_⟩) (by assumption) ?_
      rotate_left 1
      · intro w hSw
        try dsimp only at hSw
        first | (go_simp; done) | (go_simp; with_reducible rfl)
      try simp only [Act.put, List.setIfInBounds_toArray, List.set_cons_zero, List.set_cons_succ]
      refine wpAnyH_take (i := 21) (oi := { dst := some 46, op := Go.Op.move (Go.Operand.tmp 45), type := 4, pos := "head.go:58", after := #[{ on := 20, ground := Go.Ground.data }, { on := 13, ground := Go.Ground.chain }], guard := none }) (v := ?_) rfl (by kernel_rfl) (by kernel_rfl) (by kernel_rfl) (fun _ _ _ h => h) (Or.inl ⟨by rfl, ?_⟩) (by assumption) ?_
      rotate_left 1
      · intro w hSw
        try dsimp only at hSw
        first | (go_simp; done) | (go_simp; with_reducible rfl)
      try simp only [Act.put, List.setIfInBounds_toArray, List.set_cons_zero, List.set_cons_succ]
      refine wpAnyH_take (i := 22) (oi := { dst := some 47, op := Go.Op.load 56 (Go.Operand.tmp 10), type := 56, pos := "head.go:58", after := #[{ on := 21, ground := Go.Ground.guard }], guard := some (21, true) }) (v := ?_) rfl (by kernel_rfl) (by kernel_rfl) (by kernel_rfl) (fun _ _ _ h => h) (Or.inl ⟨by rfl, ?_⟩) (by assumption) ?_
      rotate_left 1
      · intro w hSw
        try dsimp only at hSw
        first | (go_simp; done) | (go_simp; with_reducible rfl)
      try simp only [Act.put, List.setIfInBounds_toArray, List.set_cons_zero, List.set_cons_succ]
      refine wpAnyH_take (i := 24) (oi := { dst := some 49, op := Go.Op.move (Go.Operand.tmp 1), type := 3, pos := "head.go:58", after := #[{ on := 21, ground := Go.Ground.guard }], guard := some (21, true) }) (v := ?_) rfl (by kernel_rfl) (by kernel_rfl) (by kernel_rfl) (fun _ _ _ h => h) (Or.inl ⟨by rfl, ?_⟩) (by assumption) ?_
      rotate_left 1
      · intro w hSw
        try dsimp only at hSw
        first | (go_simp; done) | (go_simp; with_reducible rfl)
      try simp only [Act.put, List.setIfInBounds_toArray, List.set_cons_zero, List.set_cons_succ]
      refine wpAnyH_ready (rs := [23]) (by kernel_rfl) (by simp) ?_
      refine AllReadyH.cons (o := { dst := some 48, op := Go.Op.call { callee := Go.Callee.value (Go.Operand.func 48), args := #[Go.Operand.tmp 47], argTypes := #[56] }, type := 3, pos := "head.go:59", after := #[{ on := 22, ground := Go.Ground.data }, { on := 21, ground := Go.Ground.chain }, { on := 21, ground := Go.Ground.guard }], guard := some (21, true) }) rfl (fun K hK => ?_) ?_
      rotate_left 1
      · exact AllReadyH.nil
      go_simp
      have hq := (‹Below V4.heap.size V4 _ ∧ _›).1
      refine (HPL.out _).mono ?_
      rintro e w8 ⟨rfl, hb8⟩
      have hbq := hide (chain hq hb8)
      clear hq hb8
      refine hK.out _ _ ?_ (fun hHeld2 => ?_)
      · exact HK.out _ hbq.out
      clear hK K
      try simp only [Act.put, List.setIfInBounds_toArray, List.set_cons_zero, List.set_cons_succ]
      clear hHeld
      have hHeld := hHeld2
      clear hHeld2
      refine wpAnyH_take (i := 25) (oi := { dst := some 50, op := Go.Op.binOp Go.BinOp.eql 3 (Go.Operand.tmp 48) (Go.Operand.tmp 49) 3, type := 4, pos := "head.go:58", after := #[{ on := 23, ground := Go.Ground.data }, { on := 24, ground := Go.Ground.data }, { on := 21, ground := Go.Ground.guard }], guard := some (21, true) }) (v := ?_) rfl (by kernel_rfl) (by kernel_rfl) (by kernel_rfl) (fun _ _ _ h => h) (Or.inl ⟨by rfl, ?_⟩) (by assumption) ?_
      rotate_left 1
      · intro w hSw
        try dsimp only at hSw
        first | (go_simp; done) | (go_simp; with_reducible rfl)
      try simp only [Act.put, List.setIfInBounds_toArray, List.set_cons_zero, List.set_cons_succ]
      refine wpAnyH_take (i := 26) (oi := { dst := some 51, op := Go.Op.pick (Go.Operand.tmp 46) (Go.Operand.tmp 50) (Go.Operand.const (Go.Value.bool false)), type := 4, pos := "head.go:58", after := #[{ on := 21, ground := Go.Ground.data }, { on := 25, ground := Go.Ground.data }], guard := none }) (v := ?_) rfl (by kernel_rfl) (by kernel_rfl) (by kernel_rfl) (fun _ _ _ h => h) (Or.inl ⟨by rfl, ?_⟩) (by assumption) ?_
      rotate_left 1
      · intro w hSw
        try dsimp only at hSw
        first | (go_simp; done) | (go_simp; with_reducible rfl)
      try simp only [Act.put, List.setIfInBounds_toArray, List.set_cons_zero, List.set_cons_succ]
      refine wpAnyH_take (i := 27) (oi := { dst := some 52, op := Go.Op.move (Go.Operand.tmp 51), type := 4, pos := "head.go:58", after := #[{ on := 26, ground := Go.Ground.data }, { on := 23, ground := Go.Ground.chain }], guard := none }) (v := ?_) rfl (by kernel_rfl) (by kernel_rfl) (by kernel_rfl) (fun _ _ _ h => h) (Or.inl ⟨by rfl, ?_⟩) (by assumption) ?_
      rotate_left 1
      · intro w hSw
        try dsimp only at hSw
        first | (go_simp; done) | (go_simp; with_reducible rfl)
      try simp only [Act.put, List.setIfInBounds_toArray, List.set_cons_zero, List.set_cons_succ]
      refine wpAnyH_take (i := 28) (oi := { dst := some 53, op := Go.Op.load 56 (Go.Operand.tmp 10), type := 56, pos := "head.go:58", after := #[{ on := 27, ground := Go.Ground.guard }], guard := some (27, true) }) (v := ?_) rfl (by kernel_rfl) (by kernel_rfl) (by kernel_rfl) (fun _ _ _ h => h) (Or.inl ⟨by rfl, ?_⟩) (by assumption) ?_
      rotate_left 1
      · intro w hSw
        try dsimp only at hSw
        first | (go_simp; done) | (go_simp; with_reducible rfl)
      try simp only [Act.put, List.setIfInBounds_toArray, List.set_cons_zero, List.set_cons_succ]
      refine wpAnyH_take (i := 30) (oi := { dst := some 55, op := Go.Op.load 9 (Go.Operand.tmp 3), type := 9, pos := "head.go:58", after := #[{ on := 27, ground := Go.Ground.guard }], guard := some (27, true) }) (v := ?_) rfl (by kernel_rfl) (by kernel_rfl) (by kernel_rfl) (fun _ _ _ h => h) (Or.inl ⟨by rfl, ?_⟩) (by assumption) ?_
      rotate_left 1
      · intro w hSw
        try dsimp only at hSw
        first | (go_simp; done) | (go_simp; with_reducible rfl)
      try simp only [Act.put, List.setIfInBounds_toArray, List.set_cons_zero, List.set_cons_succ]
      refine wpAnyH_ready (rs := [29]) (by kernel_rfl) (by simp) ?_
      refine AllReadyH.cons (o := { dst := some 54, op := Go.Op.call { callee := Go.Callee.value (Go.Operand.func 49), args := #[Go.Operand.tmp 53], argTypes := #[56] }, type := 9, pos := "head.go:59", after := #[{ on := 28, ground := Go.Ground.data }, { on := 27, ground := Go.Ground.chain }, { on := 27, ground := Go.Ground.guard }], guard := some (27, true) }) rfl (fun K hK => ?_) ?_
      rotate_left 1
      · exact AllReadyH.nil
      go_simp
      have hq := (‹Below V4.heap.size V4 _ ∧ _›).1
      refine (HOC.out _).mono ?_
      rintro e w8 ⟨rfl, hb8⟩
      have hbq := hide (chain hq hb8)
      clear hq hb8
      refine hK.out _ _ ?_ (fun hHeld2 => ?_)
      · exact HK.out _ hbq.out
      clear hK K
      try simp only [Act.put, List.setIfInBounds_toArray, List.set_cons_zero, List.set_cons_succ]
      clear hHeld
      have hHeld := hHeld2
      clear hHeld2
      refine wpAnyH_take (i := 31) (oi := { dst := some 56, op := Go.Op.binOp Go.BinOp.eql 9 (Go.Operand.tmp 54) (Go.Operand.tmp 55) 9, type := 4, pos := "head.go:58", after := #[{ on := 29, ground := Go.Ground.data }, { on := 30, ground := Go.Ground.data }, { on := 27, ground := Go.Ground.guard }], guard := some (27, true) }) (v := ?_) rfl (by kernel_rfl) (by kernel_rfl) (by kernel_rfl) (fun _ _ _ h => h) (Or.inl ⟨by rfl, ?_⟩) (by assumption) ?_
      rotate_left 1
      · intro w hSw
        try dsimp only at hSw
        first | (go_simp; done) | (go_simp; with_reducible rfl)
      try simp only [Act.put, List.setIfInBounds_toArray, List.set_cons_zero, List.set_cons_succ]
      refine wpAnyH_take (i := 32) (oi := { dst := some 57, op := Go.Op.pick (Go.Operand.tmp 52) (Go.Operand.tmp 56) (Go.Operand.const (Go.Value.bool false)), type := 4, pos := "head.go:58", after := #[{ on := 27, ground := Go.Ground.data }, { on := 31, ground := Go.Ground.data }], guard := none }) (v := ?_) rfl (by kernel_rfl) (by kernel_rfl) (by kernel_rfl) (fun _ _ _ h => h) (Or.inl ⟨by rfl, ?_⟩) (by assumption) ?_
      rotate_left 1
      · intro w hSw
        try dsimp only at hSw
        first | (go_simp; done) | (go_simp; with_reducible rfl)
      try simp only [Act.put, List.setIfInBounds_toArray, List.set_cons_zero, List.set_cons_succ]
      refine wpAnyH_ready (rs := [33]) (by kernel_rfl) (by simp) ?_
      refine AllReadyH.cons (o := { dst := some 11, op := Go.Op.assign (Go.Operand.tmp 57), type := 4, pos := "head.go:58", after := #[{ on := 32, ground := Go.Ground.data }, { on := 29, ground := Go.Ground.chain }, { on := 0, ground := Go.Ground.phase }, { on := 1, ground := Go.Ground.phase }, { on := 2, ground := Go.Ground.phase }, { on := 3, ground := Go.Ground.phase }, { on := 4, ground := Go.Ground.phase }, { on := 5, ground := Go.Ground.phase }, { on := 6, ground := Go.Ground.phase }, { on := 7, ground := Go.Ground.phase }, { on := 8, ground := Go.Ground.phase }, { on := 9, ground := Go.Ground.phase }, { on := 10, ground := Go.Ground.phase }, { on := 11, ground := Go.Ground.phase }, { on := 12, ground := Go.Ground.phase }, { on := 13, ground := Go.Ground.phase }, { on := 14, ground := Go.Ground.phase }, { on := 15, ground := Go.Ground.phase }, { on := 16, ground := Go.Ground.phase }, { on := 17, ground := Go.Ground.phase }, { on := 18, ground := Go.Ground.phase }, { on := 19, ground := Go.Ground.phase }, { on := 20, ground := Go.Ground.phase }, { on := 21, ground := Go.Ground.phase }, { on := 22, ground := Go.Ground.phase }, { on := 23, ground := Go.Ground.phase }, { on := 24, ground := Go.Ground.phase }, { on := 25, ground := Go.Ground.phase }, { on := 26, ground := Go.Ground.phase }, { on := 27, ground := Go.Ground.phase }, { on := 28, ground := Go.Ground.phase }, { on := 29, ground := Go.Ground.phase }, { on := 30, ground := Go.Ground.phase }, { on := 31, ground := Go.Ground.phase }, { on := 32, ground := Go.Ground.phase }], guard := none }) rfl (fun K hK => ?_) ?_
      rotate_left 1
      · exact AllReadyH.nil
      go_simp
      refine hK.out _ _ ?_ (fun hHeld2 => ?_)
      · first | exact hHeld | (exact HK.out _ hbq.out)
      clear hK K
      try simp only [Act.put, List.setIfInBounds_toArray, List.set_cons_zero, List.set_cons_succ]
      clear hHeld
      have hHeld := hHeld2
      clear hHeld2
      refine wpAnyH_done (by kernel_rfl) ?_ _
      refine NoPanic.normal ?_
      try dsimp only
      go_wp2_with fail
      go_meet
      rw [HR.out]
      exact ⟨rfl, hbq.out⟩
  case rest =>
    obtain ⟨wx, rfl⟩ : ∃ wx, wx = wc := ⟨_, rfl⟩
    obtain ⟨rfl, hb5⟩ := hcut
    have K4 := G4.next hb5
    have K2 := G2.next hb5
    have hbw := chain hbV4 hb5
    clear HBC HK HPL HOC G0 G1 G2 G3 G4 hbV4 hb5
    obtain ⟨p0, p1, p2, p3, p4, p5, p6, p7⟩ := K4.four
    obtain ⟨q0, q1, q2, q3, q4, q5, q6, q7⟩ := K2.four
    go_wp2_with fail
    exact bodyPost_ret (v := .tuple #[.agg #[.int .i64 (gn : Int), .int .i64 (hf : Int), .int .i64 (sr : Int), .int .i64 (sz : Int)], .bool ok]) (by simp [results, Tryz.results64, go_sem, q0, q1, q2, q3]) rfl ⟨rfl, below4 hbw (by omega) _ _ _ _⟩

end Go.Proofs.YtogonkoeginoaaaGreatDoor

namespace Go.Proofs.YtogonkoeginoaaaGreatDoor
open Go.RowKit

set_option maxRecDepth 100000 in
set_option maxHeartbeats 12800000 in
theorem newest_any (c0 c1 : List UInt8) (h : Hv) (w : World) (hc0 : c0.length = 64) (hc1 : c1.length = 64) (ho : h.Ok) :
    Calls Tryz.prog 32 #[.string (bs (c0 ++ c1)), hvVal h] w fun e w' => e = .returned (.tuple #[hdVal (newestOf h c0 c1), .bool (decide (0 < ((newestOf h c0 c1).gen : Int)))]) ∧ Below w.heap.size w w' := by
  have HB0 : Hid (∀ w, Calls Tryz.prog 64 #[.string (bs c0), .int .i64 0, hvVal h] w fun e w' => e = .returned (.tuple #[hdVal (hdOf c0), .bool (beOk h c0 0)]) ∧ Below w.heap.size w w') := hide (fun w => behold_any c0 0 h w hc0 ho (by decide))
  have HB1 : Hid (∀ w, Calls Tryz.prog 64 #[.string (bs c1), .int .i64 1, hvVal h] w fun e w' => e = .returned (.tuple #[hdVal (hdOf c1), .bool (beOk h c1 1)]) ∧ Below w.heap.size w w') := hide (fun w => behold_any c1 1 h w hc1 ho (by decide))
  have hx0 : (bs (c0 ++ c1)).extract 0 64 = bs c0 := by rw [bs_slice]; simp [hc0]
  have hx1 : (bs (c0 ++ c1)).extract 64 128 = bs c1 := by
    rw [bs_slice, List.drop_left' hc0, List.take_of_length_le (by omega)]
  have hsz : (bs (c0 ++ c1)).size = 128 := by rw [bs_size, List.length_append]; omega
  obtain ⟨m0, hm0⟩ : ∃ m, hdOf c0 = m := ⟨_, rfl⟩
  obtain ⟨m1, hm1⟩ : ∃ m, hdOf c1 = m := ⟨_, rfl⟩
  obtain ⟨q0, hq0⟩ : ∃ m, beOk h c0 0 = m := ⟨_, rfl⟩
  obtain ⟨q1, hq1⟩ : ∃ m, beOk h c1 1 = m := ⟨_, rfl⟩
  obtain ⟨z0, hz0⟩ : ∃ z, newStep h ⟨0, 0, 0, 0⟩ c0 0 = z := ⟨_, rfl⟩
  obtain ⟨z1, hz1⟩ : ∃ z, newestOf h c0 c1 = z := ⟨_, rfl⟩
  have hs0 : Hid (z0 = if q0 = true ∧ 0 < m0.gen then m0 else ⟨0, 0, 0, 0⟩) := hide (by rw [← hz0, ← hq0, ← hm0]; rfl)
  have hs1 : Hid (z1 = if q1 = true ∧ z0.gen < m1.gen then m1 else z0) := hide (by rw [← hz1, ← hz0, ← hq1, ← hm1]; rfl)
  rw [hm0, hq0] at HB0
  rw [hm1, hq1] at HB1
  rw [hz1]
  obtain ⟨ov, hov⟩ : ∃ z, bs (c0 ++ c1) = z := ⟨_, rfl⟩
  obtain ⟨v0, hv0⟩ : ∃ z, bs c0 = z := ⟨_, rfl⟩
  obtain ⟨v1, hv1⟩ : ∃ z, bs c1 = z := ⟨_, rfl⟩
  rw [hov] at hx0 hx1 hsz ⊢
  rw [hv0] at hx0 HB0
  rw [hv1] at hx1 HB1
  have hsz1 : (64 : Int) ≤ (ov.size : Int) := by omega
  have hsz2 : (128 : Int) ≤ (ov.size : Int) := by omega
  clear hm0 hm1 hq0 hq1 hz0 hz1 hov hv0 hv1 hc0 hc1 ho
  obtain ⟨g, t⟩ := h
  unfold hvVal at HB0 HB1 ⊢
  unfold hdVal at HB0 HB1 ⊢
  simp only at HB0 HB1 ⊢
  obtain ⟨B0, B1, B2⟩ := three_kinds w [.int .i64 (g : Int), .int .i64 (t : Int)] [.int .i64 0, .int .i64 0, .int .i64 0, .int .i64 0] [.int .i64 0, .int .i64 0, .int .i64 0, .int .i64 0] 27 56 56
  have hal : Below w.heap.size w (((w.alloc (.cells #[.int .i64 (g : Int), .int .i64 (t : Int)] 27)).alloc (.cells #[.int .i64 0, .int .i64 0, .int .i64 0, .int .i64 0] 56)).alloc (.cells #[.int .i64 0, .int .i64 0, .int .i64 0, .int .i64 0] 56)) := (((Below.refl _ _).alloc (Nat.le_refl _) _).alloc (by simp) _).alloc (by simp; omega) _
  obtain ⟨W0, hW0⟩ : ∃ z, (((w.alloc (.cells #[.int .i64 (g : Int), .int .i64 (t : Int)] 27)).alloc (.cells #[.int .i64 0, .int .i64 0, .int .i64 0, .int .i64 0] 56)).alloc (.cells #[.int .i64 0, .int .i64 0, .int .i64 0, .int .i64 0] 56)) = z := ⟨_, rfl⟩
  rw [hW0] at B0 B1 B2 hal
  go_enter Tryz.func32, Tryz.ntmps32
  go_upto_region 2 with fail
  try rw [hW0]
  clear hW0
  obtain ⟨b0, hb0⟩ : ∃ b, w.heap.size = b := ⟨_, rfl⟩
  have hbl : w.heap.size ≤ b0 := by omega
  rw [hb0] at B0 B1 B2 ⊢
  obtain ⟨b1, hb1⟩ : ∃ b, b0 + 1 = b := ⟨_, rfl⟩
  rw [hb1] at B1 ⊢
  obtain ⟨b2, hb2⟩ : ∃ b, b1 + 1 = b := ⟨_, rfl⟩
  have B2 : Blk W0 b2 [.int .i64 0, .int .i64 0, .int .i64 0, .int .i64 0] 56 := by rw [← hb2, ← hb1]; exact B2
  rw [hb2]
  have ho1 : b0 < b1 := by omega
  have ho2 : b1 < b2 := by omega
  have hl0 := B2.lt
  clear hb0 hb1 hb2
  go_wp2_with fail
  go_loopw [10] (fun s10 wr => ∃ z : Hd, ((s10 = .int .i64 0 ∧ Hid (z = ⟨0, 0, 0, 0⟩)) ∨ (s10 = .int .i64 1 ∧ Hid (z = z0)) ∨ (s10 = .int .i64 2 ∧ Hid (z = z1))) ∧ Blk wr b0 [.int .i64 (g : Int), .int .i64 (t : Int)] 27 ∧ Blk wr b1 [.int .i64 0, .int .i64 0, .int .i64 0, .int .i64 0] 56 ∧ Blk wr b2 [.int .i64 (z.gen : Int), .int .i64 (z.half : Int), .int .i64 (z.serial : Int), .int .i64 (z.size : Int)] 56 ∧ Below w.heap.size w wr) (fun i _ => 2 - (intOf i).toNat)
  case atStart => exact ⟨⟨0, 0, 0, 0⟩, .inl ⟨rfl, hide rfl⟩, B0, B1, B2, hal⟩
  case round =>
    obtain ⟨z, hcase, K0, K1, K2, hbw⟩ := hrel
    clear B0 B1 B2 hal hl0
    have hl0 := K0.lt
    have hl1 := K1.lt
    have hl2 := K2.lt
    rcases hcase with ⟨rfl, hz⟩ | ⟨rfl, hz⟩ | ⟨rfl, hz⟩
    · go_upto_region 5 with fail
      go_cut [8, 9] (fun s8 s9 wx => ∃ b : Nat, s8 = .pointer (some ⟨b, 0, none⟩) ∧ s9 = .bool q0 ∧ b2 < b ∧ Blk wx b [.int .i64 (m0.gen : Int), .int .i64 (m0.half : Int), .int .i64 (m0.serial : Int), .int .i64 (m0.size : Int)] 56 ∧ Below wr.heap.size wr wx)
      case first =>
        refine (fun h : ∀ z11 z12 z26 z27 z28 z29 z30 z31 z32 z33 z34 z35 y8 y9 y13 y14 y15 y16 y17 y18 y19 y20 y21 y22 y23 y24 y25 : Value, Code.wp Tryz.prog ?_ ?_ ⟨#[.string ov, .agg #[.int .i64 (g : Int), .int .i64 (t : Int)], undef, .pointer (some ⟨b0, 0, none⟩), .pointer (some ⟨b1, 0, none⟩), .bool false, .pointer (some ⟨b2, 0, none⟩), .int .i64 0, y8, y9, .int .i64 0, z11, z12, y13, y14, y15, y16, y17, y18, y19, y20, y21, y22, y23, y24, y25, z26, z27, z28, z29, z30, z31, z32, z33, z34, z35, undef, undef, undef, undef], []⟩ wr => h _ _ _ _ _ _ _ _ _ _ _ _ _ _ _ _ _ _ _ _ _ _ _ _ _ _ _) ?_
        intro z11 z12 z26 z27 z28 z29 z30 z31 z32 z33 z34 z35 y8 y9 y13 y14 y15 y16 y17 y18 y19 y20 y21 y22 y23 y24 y25
        refine wp_region_inv2 (fun l aa wq => ∃ x8 x9 x13 x14 x15 x16 x17 x18 x19 x20 x21 x22 x23 x24 x25 : Value, aa = ⟨#[.string ov, .agg #[.int .i64 (g : Int), .int .i64 (t : Int)], undef, .pointer (some ⟨b0, 0, none⟩), .pointer (some ⟨b1, 0, none⟩), .bool false, .pointer (some ⟨b2, 0, none⟩), .int .i64 0, x8, x9, .int .i64 0, z11, z12, x13, x14, x15, x16, x17, x18, x19, x20, x21, x22, x23, x24, x25, z26, z27, z28, z29, z30, z31, z32, z33, z34, z35, undef, undef, undef, undef], []⟩ ∧ l.size = 16 ∧ Below wr.heap.size wr wq ∧ Closed l ([(2, 1), (4, 3), (5, 4), (6, 0), (6, 2), (6, 5), (9, 6), (9, 7), (9, 8), (10, 9), (11, 10), (12, 10), (14, 11), (14, 13), (15, 12)] : List (Nat × Nat)) ∧ (fl l 0 → x14 = .string ov) ∧ (fl l 1 → x15 = .int .i64 0) ∧ (fl l 2 → x16 = .int .i64 0) ∧ (fl l 3 → x17 = .int .i64 0) ∧ (fl l 4 → x18 = .int .i64 1) ∧ (fl l 5 → x19 = .int .i64 64) ∧ (fl l 6 → x20 = .string v0) ∧ (fl l 7 → x21 = .int .i64 0) ∧ (fl l 8 → x22 = .agg #[.int .i64 (g : Int), .int .i64 (t : Int)]) ∧ (fl l 9 → x23 = .tuple #[.agg #[.int .i64 (m0.gen : Int), .int .i64 (m0.half : Int), .int .i64 (m0.serial : Int), .int .i64 (m0.size : Int)], .bool q0]) ∧ (fl l 10 → x13 = .tuple #[.agg #[.int .i64 (m0.gen : Int), .int .i64 (m0.half : Int), .int .i64 (m0.serial : Int), .int .i64 (m0.size : Int)], .bool q0]) ∧ (fl l 11 → x24 = .agg #[.int .i64 (m0.gen : Int), .int .i64 (m0.half : Int), .int .i64 (m0.serial : Int), .int .i64 (m0.size : Int)]) ∧ (fl l 12 → x25 = .bool q0) ∧ (fl l 13 → ∃ b vs, x8 = .pointer (some ⟨b, 0, none⟩) ∧ wr.heap.size ≤ b ∧ vs.length = 4 ∧ Blk wq b vs 56) ∧ (fl l 14 → ∃ b, x8 = .pointer (some ⟨b, 0, none⟩) ∧ wr.heap.size ≤ b ∧ Blk wq b [.int .i64 (m0.gen : Int), .int .i64 (m0.half : Int), .int .i64 (m0.serial : Int), .int .i64 (m0.size : Int)] 56) ∧ (fl l 15 → x9 = .bool q0)) (by kernel_rfl) (ord_of2 (by decide +kernel)) ⟨_, _, _, _, _, _, _, _, _, _, _, _, _, _, _, rfl, by simp, Below.drewed (Below.refl _ _), Closed.zero _ _, fun f => absurd f (fl_none _ _), fun f => absurd f (fl_none _ _), fun f => absurd f (fl_none _ _), fun f => absurd f (fl_none _ _), fun f => absurd f (fl_none _ _), fun f => absurd f (fl_none _ _), fun f => absurd f (fl_none _ _), fun f => absurd f (fl_none _ _), fun f => absurd f (fl_none _ _), fun f => absurd f (fl_none _ _), fun f => absurd f (fl_none _ _), fun f => absurd f (fl_none _ _), fun f => absurd f (fl_none _ _), fun f => absurd f (fl_none _ _), fun f => absurd f (fl_none _ _), fun f => absurd f (fl_none _ _)⟩ ?_ ?_
        · intro l aa w3 i o ho hI h1 h2 KK hK
          obtain ⟨x8, x9, x13, x14, x15, x16, x17, x18, x19, x20, x21, x22, x23, x24, x25, rfl, hsz, hbw3, hcl, g0, g1, g2, g3, g4, g5, g6, g7, g8, g9, g10, g11, g12, g13, g14, g15⟩ := hI
          have hi : i < 16 := (Array.getElem?_eq_some_iff.1 ho).1
          have R9 := K0.next hbw3
          have r0 : w3.cell? ⟨b0, 0, none⟩ = some (.int .i64 (g : Int)) := R9.cell 0
          have r1 : w3.cell? ⟨b0, 1, none⟩ = some (.int .i64 (t : Int)) := R9.cell 1
          have hcase : i = 0 ∨ i = 1 ∨ i = 2 ∨ i = 3 ∨ i = 4 ∨ i = 5 ∨ i = 6 ∨ i = 7 ∨ i = 8 ∨ i = 9 ∨ i = 10 ∨ i = 11 ∨ i = 12 ∨ i = 13 ∨ i = 14 ∨ i = 15 := by omega
          rcases hcase with rfl | rfl | rfl | rfl | rfl | rfl | rfl | rfl | rfl | rfl | rfl | rfl | rfl | rfl | rfl | rfl
          · cases ho
            go_simp
            exact hK _ _ ⟨_, _, _, _, _, _, _, _, _, _, _, _, _, _, _, rfl, by simpa using hsz, hbw3, hcl.step 0 [] (by decide) all_nil, fun _ => rfl, fun f => (g1 (fl_set f (by decide))), fun f => (g2 (fl_set f (by decide))), fun f => (g3 (fl_set f (by decide))), fun f => (g4 (fl_set f (by decide))), fun f => (g5 (fl_set f (by decide))), fun f => absurd (hcl.on (by decide) (fl_set f (by decide))) (fl_not h1), fun f => (g7 (fl_set f (by decide))), fun f => (g8 (fl_set f (by decide))), fun f => (g9 (fl_set f (by decide))), fun f => (g10 (fl_set f (by decide))), fun f => (g11 (fl_set f (by decide))), fun f => (g12 (fl_set f (by decide))), fun f => (g13 (fl_set f (by decide))), fun f => (g14 (fl_set f (by decide))), fun f => (g15 (fl_set f (by decide)))⟩
          · cases ho
            go_simp
            exact hK _ _ ⟨_, _, _, _, _, _, _, _, _, _, _, _, _, _, _, rfl, by simpa using hsz, hbw3, hcl.step 1 [] (by decide) all_nil, fun f => (g0 (fl_set f (by decide))), fun _ => rfl, fun f => absurd (hcl.on (by decide) (fl_set f (by decide))) (fl_not h1), fun f => (g3 (fl_set f (by decide))), fun f => (g4 (fl_set f (by decide))), fun f => (g5 (fl_set f (by decide))), fun f => (g6 (fl_set f (by decide))), fun f => (g7 (fl_set f (by decide))), fun f => (g8 (fl_set f (by decide))), fun f => (g9 (fl_set f (by decide))), fun f => (g10 (fl_set f (by decide))), fun f => (g11 (fl_set f (by decide))), fun f => (g12 (fl_set f (by decide))), fun f => (g13 (fl_set f (by decide))), fun f => (g14 (fl_set f (by decide))), fun f => (g15 (fl_set f (by decide)))⟩
          · cases ho
            have f1 : fl l 1 := h2 ⟨1, .data⟩ (by simp) rfl
            obtain rfl := g1 f1
            go_simp
            exact hK _ _ ⟨_, _, _, _, _, _, _, _, _, _, _, _, _, _, _, rfl, by simpa using hsz, hbw3, hcl.step 2 [1] (by decide) (all_cons f1 all_nil), fun f => (g0 (fl_set f (by decide))), fun f => (g1 (fl_set f (by decide))), fun _ => rfl, fun f => (g3 (fl_set f (by decide))), fun f => (g4 (fl_set f (by decide))), fun f => (g5 (fl_set f (by decide))), fun f => absurd (hcl.on (by decide) (fl_set f (by decide))) (fl_not h1), fun f => (g7 (fl_set f (by decide))), fun f => (g8 (fl_set f (by decide))), fun f => (g9 (fl_set f (by decide))), fun f => (g10 (fl_set f (by decide))), fun f => (g11 (fl_set f (by decide))), fun f => (g12 (fl_set f (by decide))), fun f => (g13 (fl_set f (by decide))), fun f => (g14 (fl_set f (by decide))), fun f => (g15 (fl_set f (by decide)))⟩
          · cases ho
            go_simp
            exact hK _ _ ⟨_, _, _, _, _, _, _, _, _, _, _, _, _, _, _, rfl, by simpa using hsz, hbw3, hcl.step 3 [] (by decide) all_nil, fun f => (g0 (fl_set f (by decide))), fun f => (g1 (fl_set f (by decide))), fun f => (g2 (fl_set f (by decide))), fun _ => rfl, fun f => absurd (hcl.on (by decide) (fl_set f (by decide))) (fl_not h1), fun f => (g5 (fl_set f (by decide))), fun f => (g6 (fl_set f (by decide))), fun f => (g7 (fl_set f (by decide))), fun f => (g8 (fl_set f (by decide))), fun f => (g9 (fl_set f (by decide))), fun f => (g10 (fl_set f (by decide))), fun f => (g11 (fl_set f (by decide))), fun f => (g12 (fl_set f (by decide))), fun f => (g13 (fl_set f (by decide))), fun f => (g14 (fl_set f (by decide))), fun f => (g15 (fl_set f (by decide)))⟩
          · cases ho
            have f3 : fl l 3 := h2 ⟨3, .data⟩ (by simp) rfl
            obtain rfl := g3 f3
            go_simp
            exact hK _ _ ⟨_, _, _, _, _, _, _, _, _, _, _, _, _, _, _, rfl, by simpa using hsz, hbw3, hcl.step 4 [3] (by decide) (all_cons f3 all_nil), fun f => (g0 (fl_set f (by decide))), fun f => (g1 (fl_set f (by decide))), fun f => (g2 (fl_set f (by decide))), fun f => (g3 (fl_set f (by decide))), fun _ => rfl, fun f => absurd (hcl.on (by decide) (fl_set f (by decide))) (fl_not h1), fun f => (g6 (fl_set f (by decide))), fun f => (g7 (fl_set f (by decide))), fun f => (g8 (fl_set f (by decide))), fun f => (g9 (fl_set f (by decide))), fun f => (g10 (fl_set f (by decide))), fun f => (g11 (fl_set f (by decide))), fun f => (g12 (fl_set f (by decide))), fun f => (g13 (fl_set f (by decide))), fun f => (g14 (fl_set f (by decide))), fun f => (g15 (fl_set f (by decide)))⟩
          · cases ho
            have f4 : fl l 4 := h2 ⟨4, .data⟩ (by simp) rfl
            obtain rfl := g4 f4
            go_simp
            exact hK _ _ ⟨_, _, _, _, _, _, _, _, _, _, _, _, _, _, _, rfl, by simpa using hsz, hbw3, hcl.step 5 [4] (by decide) (all_cons f4 all_nil), fun f => (g0 (fl_set f (by decide))), fun f => (g1 (fl_set f (by decide))), fun f => (g2 (fl_set f (by decide))), fun f => (g3 (fl_set f (by decide))), fun f => (g4 (fl_set f (by decide))), fun _ => rfl, fun f => absurd (hcl.on (by decide) (fl_set f (by decide))) (fl_not h1), fun f => (g7 (fl_set f (by decide))), fun f => (g8 (fl_set f (by decide))), fun f => (g9 (fl_set f (by decide))), fun f => (g10 (fl_set f (by decide))), fun f => (g11 (fl_set f (by decide))), fun f => (g12 (fl_set f (by decide))), fun f => (g13 (fl_set f (by decide))), fun f => (g14 (fl_set f (by decide))), fun f => (g15 (fl_set f (by decide)))⟩
          · cases ho
            have f0 : fl l 0 := h2 ⟨0, .data⟩ (by simp) rfl
            have f2 : fl l 2 := h2 ⟨2, .data⟩ (by simp) rfl
            have f5 : fl l 5 := h2 ⟨5, .data⟩ (by simp) rfl
            obtain rfl := g0 f0
            obtain rfl := g2 f2
            obtain rfl := g5 f5
            go_simp
            exact hK _ _ ⟨_, _, _, _, _, _, _, _, _, _, _, _, _, _, _, rfl, by simpa using hsz, hbw3, hcl.step 6 [0, 2, 5] (by decide) (all_cons f0 (all_cons f2 (all_cons f5 all_nil))), fun f => (g0 (fl_set f (by decide))), fun f => (g1 (fl_set f (by decide))), fun f => (g2 (fl_set f (by decide))), fun f => (g3 (fl_set f (by decide))), fun f => (g4 (fl_set f (by decide))), fun f => (g5 (fl_set f (by decide))), fun _ => rfl, fun f => (g7 (fl_set f (by decide))), fun f => (g8 (fl_set f (by decide))), fun f => absurd (hcl.on (by decide) (fl_set f (by decide))) (fl_not h1), fun f => (g10 (fl_set f (by decide))), fun f => (g11 (fl_set f (by decide))), fun f => (g12 (fl_set f (by decide))), fun f => (g13 (fl_set f (by decide))), fun f => (g14 (fl_set f (by decide))), fun f => (g15 (fl_set f (by decide)))⟩
          · cases ho
            go_simp
            exact hK _ _ ⟨_, _, _, _, _, _, _, _, _, _, _, _, _, _, _, rfl, by simpa using hsz, hbw3, hcl.step 7 [] (by decide) all_nil, fun f => (g0 (fl_set f (by decide))), fun f => (g1 (fl_set f (by decide))), fun f => (g2 (fl_set f (by decide))), fun f => (g3 (fl_set f (by decide))), fun f => (g4 (fl_set f (by decide))), fun f => (g5 (fl_set f (by decide))), fun f => (g6 (fl_set f (by decide))), fun _ => rfl, fun f => (g8 (fl_set f (by decide))), fun f => absurd (hcl.on (by decide) (fl_set f (by decide))) (fl_not h1), fun f => (g10 (fl_set f (by decide))), fun f => (g11 (fl_set f (by decide))), fun f => (g12 (fl_set f (by decide))), fun f => (g13 (fl_set f (by decide))), fun f => (g14 (fl_set f (by decide))), fun f => (g15 (fl_set f (by decide)))⟩
          · cases ho
            go_simp
            exact hK _ _ ⟨_, _, _, _, _, _, _, _, _, _, _, _, _, _, _, rfl, by simpa using hsz, hbw3, hcl.step 8 [] (by decide) all_nil, fun f => (g0 (fl_set f (by decide))), fun f => (g1 (fl_set f (by decide))), fun f => (g2 (fl_set f (by decide))), fun f => (g3 (fl_set f (by decide))), fun f => (g4 (fl_set f (by decide))), fun f => (g5 (fl_set f (by decide))), fun f => (g6 (fl_set f (by decide))), fun f => (g7 (fl_set f (by decide))), fun _ => rfl, fun f => absurd (hcl.on (by decide) (fl_set f (by decide))) (fl_not h1), fun f => (g10 (fl_set f (by decide))), fun f => (g11 (fl_set f (by decide))), fun f => (g12 (fl_set f (by decide))), fun f => (g13 (fl_set f (by decide))), fun f => (g14 (fl_set f (by decide))), fun f => (g15 (fl_set f (by decide)))⟩
          · cases ho
            have f6 : fl l 6 := h2 ⟨6, .data⟩ (by simp) rfl
            have f7 : fl l 7 := h2 ⟨7, .data⟩ (by simp) rfl
            have f8 : fl l 8 := h2 ⟨8, .data⟩ (by simp) rfl
            obtain rfl := g6 f6
            obtain rfl := g7 f7
            obtain rfl := g8 f8
            go_simp
            go_at_call 64
            refine (HB0.out _).mono ?_
            rintro e w' ⟨rfl, hb⟩
            exact hK _ _ ⟨_, _, _, _, _, _, _, _, _, _, _, _, _, _, _, rfl, by simpa using hsz, chain hbw3 hb, hcl.step 9 [6, 7, 8] (by decide) (all_cons f6 (all_cons f7 (all_cons f8 all_nil))), fun f => (g0 (fl_set f (by decide))), fun f => (g1 (fl_set f (by decide))), fun f => (g2 (fl_set f (by decide))), fun f => (g3 (fl_set f (by decide))), fun f => (g4 (fl_set f (by decide))), fun f => (g5 (fl_set f (by decide))), fun f => (g6 (fl_set f (by decide))), fun f => (g7 (fl_set f (by decide))), fun f => (g8 (fl_set f (by decide))), fun _ => rfl, fun f => absurd (hcl.on (by decide) (fl_set f (by decide))) (fl_not h1), fun f => (g11 (fl_set f (by decide))), fun f => (g12 (fl_set f (by decide))), fun f => (let ⟨b, vs, h1, h2, h3, h4⟩ := (g13 (fl_set f (by decide))); ⟨b, vs, h1, h2, h3, h4.next hb⟩), fun f => (let ⟨b, h1, h2, h3⟩ := (g14 (fl_set f (by decide))); ⟨b, h1, h2, h3.next hb⟩), fun f => (g15 (fl_set f (by decide)))⟩
          · cases ho
            have f9 : fl l 9 := h2 ⟨9, .data⟩ (by simp) rfl
            obtain rfl := g9 f9
            go_simp
            exact hK _ _ ⟨_, _, _, _, _, _, _, _, _, _, _, _, _, _, _, rfl, by simpa using hsz, hbw3, hcl.step 10 [9] (by decide) (all_cons f9 all_nil), fun f => (g0 (fl_set f (by decide))), fun f => (g1 (fl_set f (by decide))), fun f => (g2 (fl_set f (by decide))), fun f => (g3 (fl_set f (by decide))), fun f => (g4 (fl_set f (by decide))), fun f => (g5 (fl_set f (by decide))), fun f => (g6 (fl_set f (by decide))), fun f => (g7 (fl_set f (by decide))), fun f => (g8 (fl_set f (by decide))), fun f => (g9 (fl_set f (by decide))), fun _ => rfl, fun f => absurd (hcl.on (by decide) (fl_set f (by decide))) (fl_not h1), fun f => absurd (hcl.on (by decide) (fl_set f (by decide))) (fl_not h1), fun f => (g13 (fl_set f (by decide))), fun f => (g14 (fl_set f (by decide))), fun f => (g15 (fl_set f (by decide)))⟩
          · cases ho
            have f10 : fl l 10 := h2 ⟨10, .data⟩ (by simp) rfl
            obtain rfl := g10 f10
            go_simp
            exact hK _ _ ⟨_, _, _, _, _, _, _, _, _, _, _, _, _, _, _, rfl, by simpa using hsz, hbw3, hcl.step 11 [10] (by decide) (all_cons f10 all_nil), fun f => (g0 (fl_set f (by decide))), fun f => (g1 (fl_set f (by decide))), fun f => (g2 (fl_set f (by decide))), fun f => (g3 (fl_set f (by decide))), fun f => (g4 (fl_set f (by decide))), fun f => (g5 (fl_set f (by decide))), fun f => (g6 (fl_set f (by decide))), fun f => (g7 (fl_set f (by decide))), fun f => (g8 (fl_set f (by decide))), fun f => (g9 (fl_set f (by decide))), fun f => (g10 (fl_set f (by decide))), fun _ => rfl, fun f => (g12 (fl_set f (by decide))), fun f => (g13 (fl_set f (by decide))), fun f => absurd (hcl.on (by decide) (fl_set f (by decide))) (fl_not h1), fun f => (g15 (fl_set f (by decide)))⟩
          · cases ho
            have f10 : fl l 10 := h2 ⟨10, .data⟩ (by simp) rfl
            obtain rfl := g10 f10
            go_simp
            exact hK _ _ ⟨_, _, _, _, _, _, _, _, _, _, _, _, _, _, _, rfl, by simpa using hsz, hbw3, hcl.step 12 [10] (by decide) (all_cons f10 all_nil), fun f => (g0 (fl_set f (by decide))), fun f => (g1 (fl_set f (by decide))), fun f => (g2 (fl_set f (by decide))), fun f => (g3 (fl_set f (by decide))), fun f => (g4 (fl_set f (by decide))), fun f => (g5 (fl_set f (by decide))), fun f => (g6 (fl_set f (by decide))), fun f => (g7 (fl_set f (by decide))), fun f => (g8 (fl_set f (by decide))), fun f => (g9 (fl_set f (by decide))), fun f => (g10 (fl_set f (by decide))), fun f => (g11 (fl_set f (by decide))), fun _ => rfl, fun f => (g13 (fl_set f (by decide))), fun f => (g14 (fl_set f (by decide))), fun f => absurd (hcl.on (by decide) (fl_set f (by decide))) (fl_not h1)⟩
          · cases ho
            go_simp
            exact hK _ _ ⟨_, _, _, _, _, _, _, _, _, _, _, _, _, _, _, rfl, by simpa using hsz, hbw3.alloc hbw3.size _, hcl.step 13 [] (by decide) all_nil, fun f => (g0 (fl_set f (by decide))), fun f => (g1 (fl_set f (by decide))), fun f => (g2 (fl_set f (by decide))), fun f => (g3 (fl_set f (by decide))), fun f => (g4 (fl_set f (by decide))), fun f => (g5 (fl_set f (by decide))), fun f => (g6 (fl_set f (by decide))), fun f => (g7 (fl_set f (by decide))), fun f => (g8 (fl_set f (by decide))), fun f => (g9 (fl_set f (by decide))), fun f => (g10 (fl_set f (by decide))), fun f => (g11 (fl_set f (by decide))), fun f => (g12 (fl_set f (by decide))), fun _ => ⟨w3.heap.size, [.int .i64 0, .int .i64 0, .int .i64 0, .int .i64 0], rfl, hbw3.size, rfl, Blk.new w3 [.int .i64 0, .int .i64 0, .int .i64 0, .int .i64 0] _⟩, fun f => absurd (hcl.on (by decide) (fl_set f (by decide))) (fl_not h1), fun f => (g15 (fl_set f (by decide)))⟩
          · cases ho
            have f11 : fl l 11 := h2 ⟨11, .data⟩ (by simp) rfl
            have f13 : fl l 13 := h2 ⟨13, .data⟩ (by simp) rfl
            obtain rfl := g11 f11
            obtain ⟨b, vs, rfl, hB, hvs, hH⟩ := g13 f13
            obtain ⟨u0, u1, u2, u3, rfl⟩ : ∃ u0 u1 u2 u3, vs = [u0, u1, u2, u3] := by match vs, hvs with | [u0, u1, u2, u3], _ => exact ⟨u0, u1, u2, u3, rfl⟩
            obtain ⟨y0, y1, y2, y3, y4, y5, y6, y7⟩ := hH.four
            go_simp
            exact hK _ _ ⟨_, _, _, _, _, _, _, _, _, _, _, _, _, _, _, rfl, by simpa using hsz, below4 hbw3 hB _ _ _ _, hcl.step 14 [11, 13] (by decide) (all_cons f11 (all_cons f13 all_nil)), fun f => (g0 (fl_set f (by decide))), fun f => (g1 (fl_set f (by decide))), fun f => (g2 (fl_set f (by decide))), fun f => (g3 (fl_set f (by decide))), fun f => (g4 (fl_set f (by decide))), fun f => (g5 (fl_set f (by decide))), fun f => (g6 (fl_set f (by decide))), fun f => (g7 (fl_set f (by decide))), fun f => (g8 (fl_set f (by decide))), fun f => (g9 (fl_set f (by decide))), fun f => (g10 (fl_set f (by decide))), fun f => (g11 (fl_set f (by decide))), fun f => (g12 (fl_set f (by decide))), fun f => ⟨b, _, rfl, hB, rfl, hH.set4 _ _ _ _⟩, fun _ => ⟨b, rfl, hB, hH.set4 _ _ _ _⟩, fun f => (g15 (fl_set f (by decide)))⟩
          · cases ho
            have f12 : fl l 12 := h2 ⟨12, .data⟩ (by simp) rfl
            obtain rfl := g12 f12
            go_simp
            exact hK _ _ ⟨_, _, _, _, _, _, _, _, _, _, _, _, _, _, _, rfl, by simpa using hsz, hbw3, hcl.step 15 [12] (by decide) (all_cons f12 all_nil), fun f => (g0 (fl_set f (by decide))), fun f => (g1 (fl_set f (by decide))), fun f => (g2 (fl_set f (by decide))), fun f => (g3 (fl_set f (by decide))), fun f => (g4 (fl_set f (by decide))), fun f => (g5 (fl_set f (by decide))), fun f => (g6 (fl_set f (by decide))), fun f => (g7 (fl_set f (by decide))), fun f => (g8 (fl_set f (by decide))), fun f => (g9 (fl_set f (by decide))), fun f => (g10 (fl_set f (by decide))), fun f => (g11 (fl_set f (by decide))), fun f => (g12 (fl_set f (by decide))), fun f => (g13 (fl_set f (by decide))), fun f => (g14 (fl_set f (by decide))), fun _ => rfl⟩
        · intro l aa w3 hI hall
          obtain ⟨x8, x9, x13, x14, x15, x16, x17, x18, x19, x20, x21, x22, x23, x24, x25, rfl, hsz, hbw3, hcl, g0, g1, g2, g3, g4, g5, g6, g7, g8, g9, g10, g11, g12, g13, g14, g15⟩ := hI
          obtain ⟨b, rfl, hB, hH⟩ := g14 (fl_all hall hsz (by decide))
          obtain rfl := g15 (fl_all hall hsz (by decide))
          dsimp only
          go_wp2_with fail
          go_meet
          exact ⟨b, rfl, rfl, by omega, hH, hbw3⟩
      case rest =>
        obtain ⟨wx, rfl⟩ : ∃ wx, wx = wc := ⟨_, rfl⟩
        obtain ⟨b, rfl, rfl, hbb, N0, hbx⟩ := hcut
        have L0 := K0.next hbx
        have L1 := K1.next hbx
        have L2 := K2.next hbx
        have hby := chain hbw hbx
        have hlb := N0.lt
        obtain ⟨p0, p1, p2, p3, p4, p5, p6, p7⟩ := N0.four
        obtain ⟨r0, r1, r2, r3, r4, r5, r6, r7⟩ := L2.four
        clear K0 K1 K2 hbw hbx hl0 hl1 hl2 HB0 HB1
        have hnb : b ≠ b2 := by omega
        have hnb' : b2 ≠ b := by omega
        by_cases hgo : q0 = true ∧ z.gen < m0.gen
        · obtain ⟨rfl, hgt⟩ := hgo
          have hzn : Hid (m0 = z0) := hide (by
            have h1 := hs0.out
            have h2 := hz.out
            rw [h2] at hgt
            rw [if_pos ⟨rfl, hgt⟩] at h1
            exact h1.symm)
          have hd : decide ((z.gen : Int) < (m0.gen : Int)) = true := decide_eq_true (by omega)
          have hgi : (z.gen : Int) < (m0.gen : Int) := by omega
          clear hz hs0 hs1 hgt
          go_wp2_with fail
          go_roundw
          case rel =>
            refine ⟨m0, .inr (.inl ⟨rfl, hzn⟩), ?_, ?_, L2.set4 _ _ _ _, below4 hby (show w.heap.size ≤ b2 by omega) _ _ _ _⟩
            · exact L0.other4 (Nat.ne_of_lt (by omega)) _ _ _ _
            · exact L1.other4 (Nat.ne_of_lt (by omega)) _ _ _ _
          case measure => simp [intOf]
        · have hzn : Hid (z = z0) := hide (by
            have h1 := hs0.out
            have h2 := hz.out
            rw [h2] at hgo ⊢
            rw [if_neg hgo] at h1
            exact h1.symm)
          have hcs : q0 = false ∨ (q0 = true ∧ ¬ (z.gen : Int) < (m0.gen : Int)) := by
            cases q0 with
            | false => exact .inl rfl
            | true => exact .inr ⟨rfl, fun h => hgo ⟨rfl, by omega⟩⟩
          clear hz hs0 hs1 hgo
          rcases hcs with rfl | ⟨rfl, hng⟩
          · go_wp2_with fail
            go_roundw
            case rel => exact ⟨z, .inr (.inl ⟨rfl, hzn⟩), L0, L1, L2, hby⟩
            case measure => simp [intOf]
          · have hd : decide ((z.gen : Int) < (m0.gen : Int)) = false := decide_eq_false hng
            go_wp2_with fail
            go_roundw
            case rel => exact ⟨z, .inr (.inl ⟨rfl, hzn⟩), L0, L1, L2, hby⟩
            case measure => simp [intOf]
    · go_upto_region 5 with fail
      go_cut [8, 9] (fun s8 s9 wx => ∃ b : Nat, s8 = .pointer (some ⟨b, 0, none⟩) ∧ s9 = .bool q1 ∧ b2 < b ∧ Blk wx b [.int .i64 (m1.gen : Int), .int .i64 (m1.half : Int), .int .i64 (m1.serial : Int), .int .i64 (m1.size : Int)] 56 ∧ Below wr.heap.size wr wx)
      case first =>
        refine (fun h : ∀ z11 z12 z26 z27 z28 z29 z30 z31 z32 z33 z34 z35 y8 y9 y13 y14 y15 y16 y17 y18 y19 y20 y21 y22 y23 y24 y25 : Value, Code.wp Tryz.prog ?_ ?_ ⟨#[.string ov, .agg #[.int .i64 (g : Int), .int .i64 (t : Int)], undef, .pointer (some ⟨b0, 0, none⟩), .pointer (some ⟨b1, 0, none⟩), .bool false, .pointer (some ⟨b2, 0, none⟩), .int .i64 1, y8, y9, .int .i64 1, z11, z12, y13, y14, y15, y16, y17, y18, y19, y20, y21, y22, y23, y24, y25, z26, z27, z28, z29, z30, z31, z32, z33, z34, z35, undef, undef, undef, undef], []⟩ wr => h _ _ _ _ _ _ _ _ _ _ _ _ _ _ _ _ _ _ _ _ _ _ _ _ _ _ _) ?_
        intro z11 z12 z26 z27 z28 z29 z30 z31 z32 z33 z34 z35 y8 y9 y13 y14 y15 y16 y17 y18 y19 y20 y21 y22 y23 y24 y25
        refine wp_region_inv2 (fun l aa wq => ∃ x8 x9 x13 x14 x15 x16 x17 x18 x19 x20 x21 x22 x23 x24 x25 : Value, aa = ⟨#[.string ov, .agg #[.int .i64 (g : Int), .int .i64 (t : Int)], undef, .pointer (some ⟨b0, 0, none⟩), .pointer (some ⟨b1, 0, none⟩), .bool false, .pointer (some ⟨b2, 0, none⟩), .int .i64 1, x8, x9, .int .i64 1, z11, z12, x13, x14, x15, x16, x17, x18, x19, x20, x21, x22, x23, x24, x25, z26, z27, z28, z29, z30, z31, z32, z33, z34, z35, undef, undef, undef, undef], []⟩ ∧ l.size = 16 ∧ Below wr.heap.size wr wq ∧ Closed l ([(2, 1), (4, 3), (5, 4), (6, 0), (6, 2), (6, 5), (9, 6), (9, 7), (9, 8), (10, 9), (11, 10), (12, 10), (14, 11), (14, 13), (15, 12)] : List (Nat × Nat)) ∧ (fl l 0 → x14 = .string ov) ∧ (fl l 1 → x15 = .int .i64 1) ∧ (fl l 2 → x16 = .int .i64 64) ∧ (fl l 3 → x17 = .int .i64 1) ∧ (fl l 4 → x18 = .int .i64 2) ∧ (fl l 5 → x19 = .int .i64 128) ∧ (fl l 6 → x20 = .string v1) ∧ (fl l 7 → x21 = .int .i64 1) ∧ (fl l 8 → x22 = .agg #[.int .i64 (g : Int), .int .i64 (t : Int)]) ∧ (fl l 9 → x23 = .tuple #[.agg #[.int .i64 (m1.gen : Int), .int .i64 (m1.half : Int), .int .i64 (m1.serial : Int), .int .i64 (m1.size : Int)], .bool q1]) ∧ (fl l 10 → x13 = .tuple #[.agg #[.int .i64 (m1.gen : Int), .int .i64 (m1.half : Int), .int .i64 (m1.serial : Int), .int .i64 (m1.size : Int)], .bool q1]) ∧ (fl l 11 → x24 = .agg #[.int .i64 (m1.gen : Int), .int .i64 (m1.half : Int), .int .i64 (m1.serial : Int), .int .i64 (m1.size : Int)]) ∧ (fl l 12 → x25 = .bool q1) ∧ (fl l 13 → ∃ b vs, x8 = .pointer (some ⟨b, 0, none⟩) ∧ wr.heap.size ≤ b ∧ vs.length = 4 ∧ Blk wq b vs 56) ∧ (fl l 14 → ∃ b, x8 = .pointer (some ⟨b, 0, none⟩) ∧ wr.heap.size ≤ b ∧ Blk wq b [.int .i64 (m1.gen : Int), .int .i64 (m1.half : Int), .int .i64 (m1.serial : Int), .int .i64 (m1.size : Int)] 56) ∧ (fl l 15 → x9 = .bool q1)) (by kernel_rfl) (ord_of2 (by decide +kernel)) ⟨_, _, _, _, _, _, _, _, _, _, _, _, _, _, _, rfl, by simp, Below.drewed (Below.refl _ _), Closed.zero _ _, fun f => absurd f (fl_none _ _), fun f => absurd f (fl_none _ _), fun f => absurd f (fl_none _ _), fun f => absurd f (fl_none _ _), fun f => absurd f (fl_none _ _), fun f => absurd f (fl_none _ _), fun f => absurd f (fl_none _ _), fun f => absurd f (fl_none _ _), fun f => absurd f (fl_none _ _), fun f => absurd f (fl_none _ _), fun f => absurd f (fl_none _ _), fun f => absurd f (fl_none _ _), fun f => absurd f (fl_none _ _), fun f => absurd f (fl_none _ _), fun f => absurd f (fl_none _ _), fun f => absurd f (fl_none _ _)⟩ ?_ ?_
        · intro l aa w3 i o ho hI h1 h2 KK hK
          obtain ⟨x8, x9, x13, x14, x15, x16, x17, x18, x19, x20, x21, x22, x23, x24, x25, rfl, hsz, hbw3, hcl, g0, g1, g2, g3, g4, g5, g6, g7, g8, g9, g10, g11, g12, g13, g14, g15⟩ := hI
          have hi : i < 16 := (Array.getElem?_eq_some_iff.1 ho).1
          have R9 := K0.next hbw3
          have r0 : w3.cell? ⟨b0, 0, none⟩ = some (.int .i64 (g : Int)) := R9.cell 0
          have r1 : w3.cell? ⟨b0, 1, none⟩ = some (.int .i64 (t : Int)) := R9.cell 1
          have hcase : i = 0 ∨ i = 1 ∨ i = 2 ∨ i = 3 ∨ i = 4 ∨ i = 5 ∨ i = 6 ∨ i = 7 ∨ i = 8 ∨ i = 9 ∨ i = 10 ∨ i = 11 ∨ i = 12 ∨ i = 13 ∨ i = 14 ∨ i = 15 := by omega
          rcases hcase with rfl | rfl | rfl | rfl | rfl | rfl | rfl | rfl | rfl | rfl | rfl | rfl | rfl | rfl | rfl | rfl
          · cases ho
            go_simp
            exact hK _ _ ⟨_, _, _, _, _, _, _, _, _, _, _, _, _, _, _, rfl, by simpa using hsz, hbw3, hcl.step 0 [] (by decide) all_nil, fun _ => rfl, fun f => (g1 (fl_set f (by decide))), fun f => (g2 (fl_set f (by decide))), fun f => (g3 (fl_set f (by decide))), fun f => (g4 (fl_set f (by decide))), fun f => (g5 (fl_set f (by decide))), fun f => absurd (hcl.on (by decide) (fl_set f (by decide))) (fl_not h1), fun f => (g7 (fl_set f (by decide))), fun f => (g8 (fl_set f (by decide))), fun f => (g9 (fl_set f (by decide))), fun f => (g10 (fl_set f (by decide))), fun f => (g11 (fl_set f (by decide))), fun f => (g12 (fl_set f (by decide))), fun f => (g13 (fl_set f (by decide))), fun f => (g14 (fl_set f (by decide))), fun f => (g15 (fl_set f (by decide)))⟩
          · cases ho
            go_simp
            exact hK _ _ ⟨_, _, _, _, _, _, _, _, _, _, _, _, _, _, _, rfl, by simpa using hsz, hbw3, hcl.step 1 [] (by decide) all_nil, fun f => (g0 (fl_set f (by decide))), fun _ => rfl, fun f => absurd (hcl.on (by decide) (fl_set f (by decide))) (fl_not h1), fun f => (g3 (fl_set f (by decide))), fun f => (g4 (fl_set f (by decide))), fun f => (g5 (fl_set f (by decide))), fun f => (g6 (fl_set f (by decide))), fun f => (g7 (fl_set f (by decide))), fun f => (g8 (fl_set f (by decide))), fun f => (g9 (fl_set f (by decide))), fun f => (g10 (fl_set f (by decide))), fun f => (g11 (fl_set f (by decide))), fun f => (g12 (fl_set f (by decide))), fun f => (g13 (fl_set f (by decide))), fun f => (g14 (fl_set f (by decide))), fun f => (g15 (fl_set f (by decide)))⟩
          · cases ho
            have f1 : fl l 1 := h2 ⟨1, .data⟩ (by simp) rfl
            obtain rfl := g1 f1
            go_simp
            exact hK _ _ ⟨_, _, _, _, _, _, _, _, _, _, _, _, _, _, _, rfl, by simpa using hsz, hbw3, hcl.step 2 [1] (by decide) (all_cons f1 all_nil), fun f => (g0 (fl_set f (by decide))), fun f => (g1 (fl_set f (by decide))), fun _ => rfl, fun f => (g3 (fl_set f (by decide))), fun f => (g4 (fl_set f (by decide))), fun f => (g5 (fl_set f (by decide))), fun f => absurd (hcl.on (by decide) (fl_set f (by decide))) (fl_not h1), fun f => (g7 (fl_set f (by decide))), fun f => (g8 (fl_set f (by decide))), fun f => (g9 (fl_set f (by decide))), fun f => (g10 (fl_set f (by decide))), fun f => (g11 (fl_set f (by decide))), fun f => (g12 (fl_set f (by decide))), fun f => (g13 (fl_set f (by decide))), fun f => (g14 (fl_set f (by decide))), fun f => (g15 (fl_set f (by decide)))⟩
          · cases ho
            go_simp
            exact hK _ _ ⟨_, _, _, _, _, _, _, _, _, _, _, _, _, _, _, rfl, by simpa using hsz, hbw3, hcl.step 3 [] (by decide) all_nil, fun f => (g0 (fl_set f (by decide))), fun f => (g1 (fl_set f (by decide))), fun f => (g2 (fl_set f (by decide))), fun _ => rfl, fun f => absurd (hcl.on (by decide) (fl_set f (by decide))) (fl_not h1), fun f => (g5 (fl_set f (by decide))), fun f => (g6 (fl_set f (by decide))), fun f => (g7 (fl_set f (by decide))), fun f => (g8 (fl_set f (by decide))), fun f => (g9 (fl_set f (by decide))), fun f => (g10 (fl_set f (by decide))), fun f => (g11 (fl_set f (by decide))), fun f => (g12 (fl_set f (by decide))), fun f => (g13 (fl_set f (by decide))), fun f => (g14 (fl_set f (by decide))), fun f => (g15 (fl_set f (by decide)))⟩
          · cases ho
            have f3 : fl l 3 := h2 ⟨3, .data⟩ (by simp) rfl
            obtain rfl := g3 f3
            go_simp
            exact hK _ _ ⟨_, _, _, _, _, _, _, _, _, _, _, _, _, _, _, rfl, by simpa using hsz, hbw3, hcl.step 4 [3] (by decide) (all_cons f3 all_nil), fun f => (g0 (fl_set f (by decide))), fun f => (g1 (fl_set f (by decide))), fun f => (g2 (fl_set f (by decide))), fun f => (g3 (fl_set f (by decide))), fun _ => rfl, fun f => absurd (hcl.on (by decide) (fl_set f (by decide))) (fl_not h1), fun f => (g6 (fl_set f (by decide))), fun f => (g7 (fl_set f (by decide))), fun f => (g8 (fl_set f (by decide))), fun f => (g9 (fl_set f (by decide))), fun f => (g10 (fl_set f (by decide))), fun f => (g11 (fl_set f (by decide))), fun f => (g12 (fl_set f (by decide))), fun f => (g13 (fl_set f (by decide))), fun f => (g14 (fl_set f (by decide))), fun f => (g15 (fl_set f (by decide)))⟩
          · cases ho
            have f4 : fl l 4 := h2 ⟨4, .data⟩ (by simp) rfl
            obtain rfl := g4 f4
            go_simp
            exact hK _ _ ⟨_, _, _, _, _, _, _, _, _, _, _, _, _, _, _, rfl, by simpa using hsz, hbw3, hcl.step 5 [4] (by decide) (all_cons f4 all_nil), fun f => (g0 (fl_set f (by decide))), fun f => (g1 (fl_set f (by decide))), fun f => (g2 (fl_set f (by decide))), fun f => (g3 (fl_set f (by decide))), fun f => (g4 (fl_set f (by decide))), fun _ => rfl, fun f => absurd (hcl.on (by decide) (fl_set f (by decide))) (fl_not h1), fun f => (g7 (fl_set f (by decide))), fun f => (g8 (fl_set f (by decide))), fun f => (g9 (fl_set f (by decide))), fun f => (g10 (fl_set f (by decide))), fun f => (g11 (fl_set f (by decide))), fun f => (g12 (fl_set f (by decide))), fun f => (g13 (fl_set f (by decide))), fun f => (g14 (fl_set f (by decide))), fun f => (g15 (fl_set f (by decide)))⟩
          · cases ho
            have f0 : fl l 0 := h2 ⟨0, .data⟩ (by simp) rfl
            have f2 : fl l 2 := h2 ⟨2, .data⟩ (by simp) rfl
            have f5 : fl l 5 := h2 ⟨5, .data⟩ (by simp) rfl
            obtain rfl := g0 f0
            obtain rfl := g2 f2
            obtain rfl := g5 f5
            go_simp
            exact hK _ _ ⟨_, _, _, _, _, _, _, _, _, _, _, _, _, _, _, rfl, by simpa using hsz, hbw3, hcl.step 6 [0, 2, 5] (by decide) (all_cons f0 (all_cons f2 (all_cons f5 all_nil))), fun f => (g0 (fl_set f (by decide))), fun f => (g1 (fl_set f (by decide))), fun f => (g2 (fl_set f (by decide))), fun f => (g3 (fl_set f (by decide))), fun f => (g4 (fl_set f (by decide))), fun f => (g5 (fl_set f (by decide))), fun _ => rfl, fun f => (g7 (fl_set f (by decide))), fun f => (g8 (fl_set f (by decide))), fun f => absurd (hcl.on (by decide) (fl_set f (by decide))) (fl_not h1), fun f => (g10 (fl_set f (by decide))), fun f => (g11 (fl_set f (by decide))), fun f => (g12 (fl_set f (by decide))), fun f => (g13 (fl_set f (by decide))), fun f => (g14 (fl_set f (by decide))), fun f => (g15 (fl_set f (by decide)))⟩
          · cases ho
            go_simp
            exact hK _ _ ⟨_, _, _, _, _, _, _, _, _, _, _, _, _, _, _, rfl, by simpa using hsz, hbw3, hcl.step 7 [] (by decide) all_nil, fun f => (g0 (fl_set f (by decide))), fun f => (g1 (fl_set f (by decide))), fun f => (g2 (fl_set f (by decide))), fun f => (g3 (fl_set f (by decide))), fun f => (g4 (fl_set f (by decide))), fun f => (g5 (fl_set f (by decide))), fun f => (g6 (fl_set f (by decide))), fun _ => rfl, fun f => (g8 (fl_set f (by decide))), fun f => absurd (hcl.on (by decide) (fl_set f (by decide))) (fl_not h1), fun f => (g10 (fl_set f (by decide))), fun f => (g11 (fl_set f (by decide))), fun f => (g12 (fl_set f (by decide))), fun f => (g13 (fl_set f (by decide))), fun f => (g14 (fl_set f (by decide))), fun f => (g15 (fl_set f (by decide)))⟩
          · cases ho
            go_simp
            exact hK _ _ ⟨_, _, _, _, _, _, _, _, _, _, _, _, _, _, _, rfl, by simpa using hsz, hbw3, hcl.step 8 [] (by decide) all_nil, fun f => (g0 (fl_set f (by decide))), fun f => (g1 (fl_set f (by decide))), fun f => (g2 (fl_set f (by decide))), fun f => (g3 (fl_set f (by decide))), fun f => (g4 (fl_set f (by decide))), fun f => (g5 (fl_set f (by decide))), fun f => (g6 (fl_set f (by decide))), fun f => (g7 (fl_set f (by decide))), fun _ => rfl, fun f => absurd (hcl.on (by decide) (fl_set f (by decide))) (fl_not h1), fun f => (g10 (fl_set f (by decide))), fun f => (g11 (fl_set f (by decide))), fun f => (g12 (fl_set f (by decide))), fun f => (g13 (fl_set f (by decide))), fun f => (g14 (fl_set f (by decide))), fun f => (g15 (fl_set f (by decide)))⟩
          · cases ho
            have f6 : fl l 6 := h2 ⟨6, .data⟩ (by simp) rfl
            have f7 : fl l 7 := h2 ⟨7, .data⟩ (by simp) rfl
            have f8 : fl l 8 := h2 ⟨8, .data⟩ (by simp) rfl
            obtain rfl := g6 f6
            obtain rfl := g7 f7
            obtain rfl := g8 f8
            go_simp
            go_at_call 64
            refine (HB1.out _).mono ?_
            rintro e w' ⟨rfl, hb⟩
            exact hK _ _ ⟨_, _, _, _, _, _, _, _, _, _, _, _, _, _, _, rfl, by simpa using hsz, chain hbw3 hb, hcl.step 9 [6, 7, 8] (by decide) (all_cons f6 (all_cons f7 (all_cons f8 all_nil))), fun f => (g0 (fl_set f (by decide))), fun f => (g1 (fl_set f (by decide))), fun f => (g2 (fl_set f (by decide))), fun f => (g3 (fl_set f (by decide))), fun f => (g4 (fl_set f (by decide))), fun f => (g5 (fl_set f (by decide))), fun f => (g6 (fl_set f (by decide))), fun f => (g7 (fl_set f (by decide))), fun f => (g8 (fl_set f (by decide))), fun _ => rfl, fun f => absurd (hcl.on (by decide) (fl_set f (by decide))) (fl_not h1), fun f => (g11 (fl_set f (by decide))), fun f => (g12 (fl_set f (by decide))), fun f => (let ⟨b, vs, h1, h2, h3, h4⟩ := (g13 (fl_set f (by decide))); ⟨b, vs, h1, h2, h3, h4.next hb⟩), fun f => (let ⟨b, h1, h2, h3⟩ := (g14 (fl_set f (by decide))); ⟨b, h1, h2, h3.next hb⟩), fun f => (g15 (fl_set f (by decide)))⟩
          · cases ho
            have f9 : fl l 9 := h2 ⟨9, .data⟩ (by simp) rfl
            obtain rfl := g9 f9
            go_simp
            exact hK _ _ ⟨_, _, _, _, _, _, _, _, _, _, _, _, _, _, _, rfl, by simpa using hsz, hbw3, hcl.step 10 [9] (by decide) (all_cons f9 all_nil), fun f => (g0 (fl_set f (by decide))), fun f => (g1 (fl_set f (by decide))), fun f => (g2 (fl_set f (by decide))), fun f => (g3 (fl_set f (by decide))), fun f => (g4 (fl_set f (by decide))), fun f => (g5 (fl_set f (by decide))), fun f => (g6 (fl_set f (by decide))), fun f => (g7 (fl_set f (by decide))), fun f => (g8 (fl_set f (by decide))), fun f => (g9 (fl_set f (by decide))), fun _ => rfl, fun f => absurd (hcl.on (by decide) (fl_set f (by decide))) (fl_not h1), fun f => absurd (hcl.on (by decide) (fl_set f (by decide))) (fl_not h1), fun f => (g13 (fl_set f (by decide))), fun f => (g14 (fl_set f (by decide))), fun f => (g15 (fl_set f (by decide)))⟩
          · cases ho
            have f10 : fl l 10 := h2 ⟨10, .data⟩ (by simp) rfl
            obtain rfl := g10 f10
            go_simp
            exact hK _ _ ⟨_, _, _, _, _, _, _, _, _, _, _, _, _, _, _, rfl, by simpa using hsz, hbw3, hcl.step 11 [10] (by decide) (all_cons f10 all_nil), fun f => (g0 (fl_set f (by decide))), fun f => (g1 (fl_set f (by decide))), fun f => (g2 (fl_set f (by decide))), fun f => (g3 (fl_set f (by decide))), fun f => (g4 (fl_set f (by decide))), fun f => (g5 (fl_set f (by decide))), fun f => (g6 (fl_set f (by decide))), fun f => (g7 (fl_set f (by decide))), fun f => (g8 (fl_set f (by decide))), fun f => (g9 (fl_set f (by decide))), fun f => (g10 (fl_set f (by decide))), fun _ => rfl, fun f => (g12 (fl_set f (by decide))), fun f => (g13 (fl_set f (by decide))), fun f => absurd (hcl.on (by decide) (fl_set f (by decide))) (fl_not h1), fun f => (g15 (fl_set f (by decide)))⟩
          · cases ho
            have f10 : fl l 10 := h2 ⟨10, .data⟩ (by simp) rfl
            obtain rfl := g10 f10
            go_simp
            exact hK _ _ ⟨_, _, _, _, _, _, _, _, _, _, _, _, _, _, _, rfl, by simpa using hsz, hbw3, hcl.step 12 [10] (by decide) (all_cons f10 all_nil), fun f => (g0 (fl_set f (by decide))), fun f => (g1 (fl_set f (by decide))), fun f => (g2 (fl_set f (by decide))), fun f => (g3 (fl_set f (by decide))), fun f => (g4 (fl_set f (by decide))), fun f => (g5 (fl_set f (by decide))), fun f => (g6 (fl_set f (by decide))), fun f => (g7 (fl_set f (by decide))), fun f => (g8 (fl_set f (by decide))), fun f => (g9 (fl_set f (by decide))), fun f => (g10 (fl_set f (by decide))), fun f => (g11 (fl_set f (by decide))), fun _ => rfl, fun f => (g13 (fl_set f (by decide))), fun f => (g14 (fl_set f (by decide))), fun f => absurd (hcl.on (by decide) (fl_set f (by decide))) (fl_not h1)⟩
          · cases ho
            go_simp
            exact hK _ _ ⟨_, _, _, _, _, _, _, _, _, _, _, _, _, _, _, rfl, by simpa using hsz, hbw3.alloc hbw3.size _, hcl.step 13 [] (by decide) all_nil, fun f => (g0 (fl_set f (by decide))), fun f => (g1 (fl_set f (by decide))), fun f => (g2 (fl_set f (by decide))), fun f => (g3 (fl_set f (by decide))), fun f => (g4 (fl_set f (by decide))), fun f => (g5 (fl_set f (by decide))), fun f => (g6 (fl_set f (by decide))), fun f => (g7 (fl_set f (by decide))), fun f => (g8 (fl_set f (by decide))), fun f => (g9 (fl_set f (by decide))), fun f => (g10 (fl_set f (by decide))), fun f => (g11 (fl_set f (by decide))), fun f => (g12 (fl_set f (by decide))), fun _ => ⟨w3.heap.size, [.int .i64 0, .int .i64 0, .int .i64 0, .int .i64 0], rfl, hbw3.size, rfl, Blk.new w3 [.int .i64 0, .int .i64 0, .int .i64 0, .int .i64 0] _⟩, fun f => absurd (hcl.on (by decide) (fl_set f (by decide))) (fl_not h1), fun f => (g15 (fl_set f (by decide)))⟩
          · cases ho
            have f11 : fl l 11 := h2 ⟨11, .data⟩ (by simp) rfl
            have f13 : fl l 13 := h2 ⟨13, .data⟩ (by simp) rfl
            obtain rfl := g11 f11
            obtain ⟨b, vs, rfl, hB, hvs, hH⟩ := g13 f13
            obtain ⟨u0, u1, u2, u3, rfl⟩ : ∃ u0 u1 u2 u3, vs = [u0, u1, u2, u3] := by match vs, hvs with | [u0, u1, u2, u3], _ => exact ⟨u0, u1, u2, u3, rfl⟩
            obtain ⟨y0, y1, y2, y3, y4, y5, y6, y7⟩ := hH.four
            go_simp
            exact hK _ _ ⟨_, _, _, _, _, _, _, _, _, _, _, _, _, _, _, rfl, by simpa using hsz, below4 hbw3 hB _ _ _ _, hcl.step 14 [11, 13] (by decide) (all_cons f11 (all_cons f13 all_nil)), fun f => (g0 (fl_set f (by decide))), fun f => (g1 (fl_set f (by decide))), fun f => (g2 (fl_set f (by decide))), fun f => (g3 (fl_set f (by decide))), fun f => (g4 (fl_set f (by decide))), fun f => (g5 (fl_set f (by decide))), fun f => (g6 (fl_set f (by decide))), fun f => (g7 (fl_set f (by decide))), fun f => (g8 (fl_set f (by decide))), fun f => (g9 (fl_set f (by decide))), fun f => (g10 (fl_set f (by decide))), fun f => (g11 (fl_set f (by decide))), fun f => (g12 (fl_set f (by decide))), fun f => ⟨b, _, rfl, hB, rfl, hH.set4 _ _ _ _⟩, fun _ => ⟨b, rfl, hB, hH.set4 _ _ _ _⟩, fun f => (g15 (fl_set f (by decide)))⟩
          · cases ho
            have f12 : fl l 12 := h2 ⟨12, .data⟩ (by simp) rfl
            obtain rfl := g12 f12
            go_simp
            exact hK _ _ ⟨_, _, _, _, _, _, _, _, _, _, _, _, _, _, _, rfl, by simpa using hsz, hbw3, hcl.step 15 [12] (by decide) (all_cons f12 all_nil), fun f => (g0 (fl_set f (by decide))), fun f => (g1 (fl_set f (by decide))), fun f => (g2 (fl_set f (by decide))), fun f => (g3 (fl_set f (by decide))), fun f => (g4 (fl_set f (by decide))), fun f => (g5 (fl_set f (by decide))), fun f => (g6 (fl_set f (by decide))), fun f => (g7 (fl_set f (by decide))), fun f => (g8 (fl_set f (by decide))), fun f => (g9 (fl_set f (by decide))), fun f => (g10 (fl_set f (by decide))), fun f => (g11 (fl_set f (by decide))), fun f => (g12 (fl_set f (by decide))), fun f => (g13 (fl_set f (by decide))), fun f => (g14 (fl_set f (by decide))), fun _ => rfl⟩
        · intro l aa w3 hI hall
          obtain ⟨x8, x9, x13, x14, x15, x16, x17, x18, x19, x20, x21, x22, x23, x24, x25, rfl, hsz, hbw3, hcl, g0, g1, g2, g3, g4, g5, g6, g7, g8, g9, g10, g11, g12, g13, g14, g15⟩ := hI
          obtain ⟨b, rfl, hB, hH⟩ := g14 (fl_all hall hsz (by decide))
          obtain rfl := g15 (fl_all hall hsz (by decide))
          dsimp only
          go_wp2_with fail
          go_meet
          exact ⟨b, rfl, rfl, by omega, hH, hbw3⟩
      case rest =>
        obtain ⟨wx, rfl⟩ : ∃ wx, wx = wc := ⟨_, rfl⟩
        obtain ⟨b, rfl, rfl, hbb, N0, hbx⟩ := hcut
        have L0 := K0.next hbx
        have L1 := K1.next hbx
        have L2 := K2.next hbx
        have hby := chain hbw hbx
        have hlb := N0.lt
        obtain ⟨p0, p1, p2, p3, p4, p5, p6, p7⟩ := N0.four
        obtain ⟨r0, r1, r2, r3, r4, r5, r6, r7⟩ := L2.four
        clear K0 K1 K2 hbw hbx hl0 hl1 hl2 HB0 HB1
        have hnb : b ≠ b2 := by omega
        have hnb' : b2 ≠ b := by omega
        by_cases hgo : q1 = true ∧ z.gen < m1.gen
        · obtain ⟨rfl, hgt⟩ := hgo
          have hzn : Hid (m1 = z1) := hide (by
            have h1 := hs1.out
            have h2 := hz.out
            rw [h2] at hgt
            rw [if_pos ⟨rfl, hgt⟩] at h1
            exact h1.symm)
          have hd : decide ((z.gen : Int) < (m1.gen : Int)) = true := decide_eq_true (by omega)
          have hgi : (z.gen : Int) < (m1.gen : Int) := by omega
          clear hz hs0 hs1 hgt
          go_wp2_with fail
          go_roundw
          case rel =>
            refine ⟨m1, .inr (.inr ⟨rfl, hzn⟩), ?_, ?_, L2.set4 _ _ _ _, below4 hby (show w.heap.size ≤ b2 by omega) _ _ _ _⟩
            · exact L0.other4 (Nat.ne_of_lt (by omega)) _ _ _ _
            · exact L1.other4 (Nat.ne_of_lt (by omega)) _ _ _ _
          case measure => simp [intOf]
        · have hzn : Hid (z = z1) := hide (by
            have h1 := hs1.out
            have h2 := hz.out
            rw [h2] at hgo ⊢
            rw [if_neg hgo] at h1
            exact h1.symm)
          have hcs : q1 = false ∨ (q1 = true ∧ ¬ (z.gen : Int) < (m1.gen : Int)) := by
            cases q1 with
            | false => exact .inl rfl
            | true => exact .inr ⟨rfl, fun h => hgo ⟨rfl, by omega⟩⟩
          clear hz hs0 hs1 hgo
          rcases hcs with rfl | ⟨rfl, hng⟩
          · go_wp2_with fail
            go_roundw
            case rel => exact ⟨z, .inr (.inr ⟨rfl, hzn⟩), L0, L1, L2, hby⟩
            case measure => simp [intOf]
          · have hd : decide ((z.gen : Int) < (m1.gen : Int)) = false := decide_eq_false hng
            go_wp2_with fail
            go_roundw
            case rel => exact ⟨z, .inr (.inr ⟨rfl, hzn⟩), L0, L1, L2, hby⟩
            case measure => simp [intOf]
    · have hzz := hz.out
      clear hz HB0 HB1 hs0 hs1
      subst hzz
      obtain ⟨p0, p1, p2, p3, p4, p5, p6, p7⟩ := K2.four
      obtain ⟨r0, r1, r2, r3, r4, r5, r6, r7⟩ := K1.four
      have hn12 : b1 ≠ b2 := by omega
      have hn21 : b2 ≠ b1 := by omega
      go_upto_region 9 with fail
      go_region_held3 (fun w' => w'.cell? ⟨b2, 0, none⟩ = some (.int .i64 (z.gen : Int)) ∧ w'.cell? ⟨b2, 1, none⟩ = some (.int .i64 (z.half : Int)) ∧ w'.cell? ⟨b2, 2, none⟩ = some (.int .i64 (z.serial : Int)) ∧ w'.cell? ⟨b2, 3, none⟩ = some (.int .i64 (z.size : Int))) (go_keep) (fail)
      all_goals
        obtain ⟨W9, hW9⟩ : ∃ W9, ((((wr.setCell ⟨b1, 0, none⟩ (.int .i64 (z.gen : Int))).setCell ⟨b1, 1, none⟩ (.int .i64 (z.half : Int))).setCell ⟨b1, 2, none⟩ (.int .i64 (z.serial : Int))).setCell ⟨b1, 3, none⟩ (.int .i64 (z.size : Int))).drew = W9 := ⟨_, rfl⟩
        have L1 : Blk W9 b1 [.int .i64 (z.gen : Int), .int .i64 (z.half : Int), .int .i64 (z.serial : Int), .int .i64 (z.size : Int)] 56 := by rw [← hW9]; exact K1.set4 _ _ _ _
        have hb9 : Below w.heap.size w W9 := by rw [← hW9]; exact Below.drewed (below4 hbw (by omega) _ _ _ _)
        rw [hW9]
        clear hW9 p0 p1 p2 p3 p4 p5 p6 p7 r0 r1 r2 r3 r4 r5 r6 r7
        obtain ⟨p0, p1, p2, p3, p4, p5, p6, p7⟩ := L1.four
        go_wp2_with fail
        exact bodyPost_ret (v := .tuple #[.agg #[.int .i64 (z.gen : Int), .int .i64 (z.half : Int), .int .i64 (z.serial : Int), .int .i64 (z.size : Int)], .bool (decide (0 < (z.gen : Int)))]) (by simp [results, Tryz.results32, go_sem, p0, p1, p2, p3]) rfl ⟨rfl, hb9⟩

end Go.Proofs.YtogonkoeginoaaaGreatDoor
