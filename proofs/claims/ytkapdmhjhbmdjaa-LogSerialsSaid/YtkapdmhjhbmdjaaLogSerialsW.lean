/-
  The walk through the statement LogSerials: it returns true.
-/
import Derived.Test.YtkapdmhjhbmdjaaMapSet
import Derived.Test.YtkapdmhjhbmdjaaOpenMore
import Derived.Deep.CutBlock
namespace Go.Proofs.Ytkapdmhjhbmdjaa
open Go.RowKit

/-- Where records begin on a tape. -/
def firstsOf (all : List (List UInt8)) : List Int := (List.range all.length).map fun i => ((span (all.take i) : Nat) : Int)
theorem firstsOf_length (all : List (List UInt8)) : (firstsOf all).length = all.length := by simp [firstsOf]
theorem firstsOf_snoc (all : List (List UInt8)) (s : List UInt8) : firstsOf (all ++ [s]) = firstsOf all ++ [((span all : Nat) : Int)] := by
  unfold firstsOf
  rw [List.length_append, List.length_singleton, List.range_succ, List.map_append]
  congr 1
  · apply List.map_congr_left
    intro i hi
    have hi2 : i ≤ all.length := Nat.le_of_lt (List.mem_range.1 hi)
    rw [List.take_append_of_le_length hi2]
  · simp
theorem firstsOf_nil {all : List (List UInt8)} : firstsOf all = [] ↔ all = [] := by
  rw [← List.length_eq_zero_iff, ← List.length_eq_zero_iff, firstsOf_length]
theorem mem_firsts {all : List (List UInt8)} {i : Nat} (h : i < all.length) : ((span (all.take i) : Nat) : Int) ∈ firstsOf all := by
  unfold firstsOf
  exact List.mem_map.2 ⟨i, List.mem_range.2 h, rfl⟩

set_option maxRecDepth 100000 in
set_option maxHeartbeats 12800000 in
theorem serials_walk (ao : Option Addr) (n c : Nat) (xs : List (List UInt8)) (y : Int) (z : Nat) (w : World) (h : Strs w ao n xs) (hnc : n ≤ c ∧ c ≤ 9223372036854775807) (hx : ∀ y ∈ xs, y.length ≤ 9223372036854775807) (hy : -128 ≤ y ∧ y ≤ 127) (hz : z < 256) :
    Calls Try.prog 12 #[.slice ao n c, .int .i8 y, .int .u8 (z : Int)] w fun e w' => e = .returned (.bool true) ∧ Below w.heap.size w w' := by
  have HO := hide h
  have hn1 : n ≤ 9223372036854775807 := by omega
  have HS : Hid (∀ w, Calls Try.prog 50 #[.int .i64 24] w fun e w' => ∃ v, e = .returned v ∧ IsDrive w' v ⟨List.replicate 24 blank, [], -1, false⟩ ∧ Below w.heap.size w w') := hide (fun w => by
    have h := some_any 24 w
    rw [new_24] at h
    exact h)
  have HF : Hid (∀ k, k < n → ∀ w, Calls Try.prog 39 #[.string (bs (xs.getD k []))] w fun e w' => e = .returned (.string (bs (fewOf (xs.getD k [])))) ∧ Below w.heap.size w w') := hide (fun k hk w => few18_any (xs.getD k []) w (by
    have hl := h.len
    have e : xs.getD k [] ∈ xs := by
      rw [List.getD_eq_getElem?_getD, List.getElem?_eq_getElem (by omega)]
      exact List.getElem_mem _
    have := hx _ e
    omega))
  have HAW := hide (fun w => awake18_any w)
  clear h hx hnc
  have hmm := @run_makeMap Try.prog
  go_enter Try.func12, Try.ntmps12
  go_wp2_with fail
  refine (HS.out _).mono ?_
  rintro e w1 ⟨v1, rfl, hd1, hb1⟩
  have HD1 := hide hd1
  obtain ⟨a1, i1, d1, a2, i2, d2, f1, o1, rfl, _⟩ := hd1
  unfold drvVal at HD1 ⊢
  obtain ⟨K3, T8, T9⟩ := three_kinds w1 [.slice a1 i1 d1, .slice a2 i2 d2, .int .i64 f1, .bool o1] [.int .i64 3, .int .i64 20, .int .i64 0, .int .i64 500] [.int .i64 3, .int .i64 20, .int .i64 0, .int .i64 500] 25 60 60
  have hal : Below w1.heap.size w1 (((w1.alloc (.cells #[.slice a1 i1 d1, .slice a2 i2 d2, .int .i64 f1, .bool o1] 25)).alloc (.cells #[.int .i64 3, .int .i64 20, .int .i64 0, .int .i64 500] 60)).alloc (.cells #[.int .i64 3, .int .i64 20, .int .i64 0, .int .i64 500] 60)) := (((Below.refl _ _).alloc (Nat.le_refl _) _).alloc (by simp) _).alloc (by simp; omega) _
  obtain ⟨W3, hW3⟩ : ∃ W3, (((w1.alloc (.cells #[.slice a1 i1 d1, .slice a2 i2 d2, .int .i64 f1, .bool o1] 25)).alloc (.cells #[.int .i64 3, .int .i64 20, .int .i64 0, .int .i64 500] 60)).alloc (.cells #[.int .i64 3, .int .i64 20, .int .i64 0, .int .i64 500] 60)) = W3 := ⟨_, rfl⟩
  have hs3 : W3.heap.size = w1.heap.size + 3 := by rw [← hW3]; simp
  rw [hW3] at K3 T8 T9 hal
  have hal2 : Below W3.heap.size W3 (W3.alloc (.map #[] 0)) := (Below.refl _ _).alloc (Nat.le_refl _) _
  have HD3 := hide ((HD1.out.below hal).below hal2)
  have hb3 := chain (chain hb1 hal) hal2
  have hw7 := hb1.size
  have HM0 := IsSet.made W3
  obtain ⟨W4, hW4⟩ : ∃ W4, W3.alloc (.map #[] 0) = W4 := ⟨_, rfl⟩
  have hs4 : W4.heap.size = w1.heap.size + 4 := by rw [← hW4]; simp [hs3]
  have K4 := K3.next hal2
  have T84 := T8.next hal2
  have T94 := T9.next hal2
  rw [hW4] at HD3 hb3 HM0 K4 T84 T94
  rw [hs3] at HM0
  have HW3 := hide hW3
  have HW4 := hide hW4
  clear hW3 hW4 hal hal2 K3 T8 T9
  go_upto_block 0 with fail
  try rw [HW3.out]
  try rw [HW4.out]
  obtain ⟨b7, hb7⟩ : ∃ b, w1.heap.size = b := ⟨_, rfl⟩
  rw [hb7] at K4 T84 T94 hs4 hw7 HM0 ⊢
  obtain ⟨b8, hb8⟩ : ∃ b, b7 + 1 = b := ⟨_, rfl⟩
  rw [hb8] at T84 T94 ⊢
  obtain ⟨b9, hb9⟩ : ∃ b, b8 + 1 = b := ⟨_, rfl⟩
  rw [hb9] at T94 ⊢
  obtain ⟨b10, hb10⟩ : ∃ b, b9 + 1 = b := ⟨_, rfl⟩
  rw [hb10] at ⊢
  have HM1 : Hid (IsSet W4 b10 (firstsOf [])) := hide (by rw [← hb10, ← hb9, ← hb8]; exact HM0)
  have h78 : b7 < b8 := by omega
  have h89 : b8 < b9 := by omega
  have h910 : b9 < b10 := by omega
  obtain ⟨B, hBB⟩ : ∃ B, W4.heap.size = B := ⟨_, rfl⟩
  have hB : b10 < B := by omega
  have hB2 : B ≤ W4.heap.size := by omega
  have R3 : Hid (Have W4 [.box b7 ⟨List.replicate 24 blank, [], -1, false⟩, .blk b8 (tpCells ⟨3, 20, ((span [] : Nat) : Int), ((500 + ([] : List (List UInt8)).length : Nat) : Int)⟩) 60, .blk b9 (tpCells ⟨3, 20, 0, 500⟩) 60]) :=
    hide ((((Have.nil _).consB T94).consB T84).consX K4 HD3.out ((OnTape.fresh 500 500 (Nat.le_refl _)).still _ _))
  clear HW3 HW4 hb7 hb8 hb9 hb10 hBB hs4 K4 T84 T94 HD3 HD1 hb1 hs3 HM0
  go_cut [] (fun wx => ∃ (all : List (List UInt8)) (cs : List (List UInt8)), all.length ≤ 9 ∧ Hid (OnTape cs 500 500 all) ∧ Hid (Have wx [.box b7 ⟨cs, [], -1, false⟩, .blk b8 (tpCells ⟨3, 20, ((span all : Nat) : Int), ((500 + all.length : Nat) : Int)⟩) 60, .blk b9 (tpCells ⟨3, 20, 0, 500⟩) 60]) ∧ Hid (IsSet wx b10 (firstsOf all)) ∧ B ≤ wx.heap.size ∧ Below w.heap.size w wx)
  case first =>
    go_wp2_with fail
    go_loopw [11] (fun s11 wr => ∃ (k : Nat) (all : List (List UInt8)) (cs : List (List UInt8)), k ≤ n ∧ k ≤ 9 ∧ all.length ≤ k ∧ s11 = .int .i64 k ∧ Hid (OnTape cs 500 500 all) ∧ Hid (Have wr [.box b7 ⟨cs, [], -1, false⟩, .blk b8 (tpCells ⟨3, 20, ((span all : Nat) : Int), ((500 + all.length : Nat) : Int)⟩) 60, .blk b9 (tpCells ⟨3, 20, 0, 500⟩) 60]) ∧ Hid (IsSet wr b10 (firstsOf all)) ∧ B ≤ wr.heap.size ∧ Below w.heap.size w wr) (fun s11 _ => 9 - (intOf s11).toNat)
    case atStart => exact ⟨0, [], _, Nat.zero_le _, by omega, by simp, rfl, hide (OnTape.fresh 500 500 (Nat.le_refl _)), R3, HM1, hB2, hb3⟩
    case round =>
      obtain ⟨k, all, cs, hkn, hk14, hak, rfl, hT, hR, HM, hsz, hbw0⟩ := hrel
      clear R3 hb3 hB2 HM1
      by_cases hkk : k < n ∧ k < 9
      · obtain ⟨hk1, hk2⟩ := hkk
        have hneL : (k : Int) < (n : Int) := by omega
        obtain ⟨bx, ox, hlx, hix, hcx0⟩ := (HO.out.below hbw0).at c k hk1
        have HFk := hide (HF.out k hk1)
        have hsl := fewOf_length (xs.getD k [])
        obtain ⟨s, hs⟩ : ∃ s, fewOf (xs.getD k []) = s := ⟨_, rfl⟩
        rw [hs] at HFk hsl
        obtain ⟨x0, hx0⟩ : ∃ z, bs (xs.getD k []) = z := ⟨_, rfl⟩
        rw [hx0] at HFk hcx0
        have hcx := hide hcx0
        obtain ⟨sv, hsv⟩ : ∃ z, bs s = z := ⟨_, rfl⟩
        rw [hsv] at HFk
        have hapd := hT.out.appendAny s (by omega) (by omega)
        obtain ⟨SR, hSR⟩ : ∃ z, 500 + all.length = z := ⟨_, rfl⟩
        obtain ⟨SP, hSP⟩ : ∃ z, span all = z := ⟨_, rfl⟩
        have hsp20 : SP ≤ 20 := by rw [← hSP]; exact hT.out.fits
        rw [hSR, hSP] at hapd hR
        have HN := hide (And.intro hSR hSP)
        obtain ⟨⟨D1, T1, E1⟩, hDTE⟩ : ∃ r, Drv.append ⟨cs, [], -1, false⟩ ⟨3, 20, (SP : Nat), (SR : Nat)⟩ s = r := ⟨_, rfl⟩
        have HA := hide (fun v w (h : IsDrive w v ⟨cs, [], -1, false⟩) => append_any v ⟨cs, [], -1, false⟩ ⟨3, 20, (SP : Nat), (SR : Nat)⟩ s w h (by unfold Tp.In; dsimp only; omega) (by simp) (by omega))
        rw [hDTE, hsv] at HA
        rw [hDTE] at hapd
        have HAPD := hide hapd
        obtain ⟨g1, m1, q1, g2, m2, q2, fx, oy, hR2⟩ := hR.out.open
        have R := hide ((((hR2.tail.tail.tail.consB (hR2.blkAt 2 rfl)).consD (hR2.drvAt 1 rfl) (hT.out.still _ _))).consB (hR2.blkAt 0 rfl))
        clear hs hx0 hsv hcx0 hDTE hapd hSR hSP hR hR2
        unfold tpVal at HA
        dsimp only at HA
        go_wp2_with fail
        go_upto_region 8 with fail
        go_cut [12, 13, 14] (fun s12 s13 s14 wx => ∃ (b12 b13 : Nat) (v12 : Value), s12 = .pointer (some ⟨b12, 0, none⟩) ∧ s13 = .pointer (some ⟨b13, 0, none⟩) ∧ s14 = .int .i64 E1 ∧ Holds wx b12 v12 ∧ IsDrive wx v12 D1 ∧ Blk wx b13 (tpCells T1) 60 ∧ b13 ≠ b12 ∧ B ≤ b12 ∧ B ≤ b13 ∧ Hid (Have wx [.blk b7 [.slice g1 m1 q1, .slice g2 m2 q2, .int .i64 fx, .bool oy] 25, .drv (.agg #[.slice g1 m1 q1, .slice g2 m2 q2, .int .i64 fx, .bool oy]) ⟨cs, [], -1, false⟩, .blk b8 (tpCells ⟨3, 20, (SP : Nat), (SR : Nat)⟩) 60, .blk b9 (tpCells ⟨3, 20, 0, 500⟩) 60]) ∧ Hid (IsSet wx b10 (firstsOf all)) ∧ B ≤ wx.heap.size ∧ Below w.heap.size w wx)
        case first =>
          refine (fun h : ∀ z27 z28 z29 z30 z31 z32 z33 z34 z35 z36 z49 z50 z51 z52 z53 z54 z55 y12 y13 y14 y37 y38 y39 y40 y41 y42 y43 y44 y45 y46 y47 y48 : Value, Code.wp Try.prog ?_ ?_ ⟨#[.slice ao n c, .int .i8 y, .int .u8 (z : Int), undef, undef, undef, .bool false, .pointer (some ⟨b7, 0, none⟩), .pointer (some ⟨b8, 0, none⟩), .pointer (some ⟨b9, 0, none⟩), .map (some b10), .int .i64 (k : Int), y12, y13, y14, undef, undef, undef, undef, undef, undef, undef, undef, .agg #[.slice a1 i1 d1, .slice a2 i2 d2, .int .i64 f1, .bool o1], .agg #[.int .i64 3, .int .i64 20, .int .i64 0, .int .i64 500], .agg #[.int .i64 3, .int .i64 20, .int .i64 0, .int .i64 500], .map (some b10), z27, z28, z29, z30, z31, z32, z33, z34, z35, z36, y37, y38, y39, y40, y41, y42, y43, y44, y45, y46, y47, y48, z49, z50, z51, z52, z53, z54, z55, undef, undef, undef, undef, undef, undef, undef, undef, undef, undef, undef, undef, undef, undef, undef, undef, undef, undef, undef, undef, undef, undef, undef, undef, undef, undef, undef, undef, undef, undef, undef, undef, undef, undef, undef, undef, undef, undef, undef, undef, undef, undef, undef, undef, undef, undef, undef, undef, undef, undef, undef, undef, undef, undef, undef, undef, undef, undef, undef, undef, undef, undef, undef], []⟩ wr => h _ _ _ _ _ _ _ _ _ _ _ _ _ _ _ _ _ _ _ _ _ _ _ _ _ _ _ _ _ _ _ _) ?_
          intro z27 z28 z29 z30 z31 z32 z33 z34 z35 z36 z49 z50 z51 z52 z53 z54 z55 y12 y13 y14 y37 y38 y39 y40 y41 y42 y43 y44 y45 y46 y47 y48
          refine wp_region_inv2 (fun l aa w => ∃ x12 x13 x14 x37 x38 x39 x40 x41 x42 x43 x44 x45 x46 x47 x48 : Value, aa = ⟨#[.slice ao n c, .int .i8 y, .int .u8 (z : Int), undef, undef, undef, .bool false, .pointer (some ⟨b7, 0, none⟩), .pointer (some ⟨b8, 0, none⟩), .pointer (some ⟨b9, 0, none⟩), .map (some b10), .int .i64 (k : Int), x12, x13, x14, undef, undef, undef, undef, undef, undef, undef, undef, .agg #[.slice a1 i1 d1, .slice a2 i2 d2, .int .i64 f1, .bool o1], .agg #[.int .i64 3, .int .i64 20, .int .i64 0, .int .i64 500], .agg #[.int .i64 3, .int .i64 20, .int .i64 0, .int .i64 500], .map (some b10), z27, z28, z29, z30, z31, z32, z33, z34, z35, z36, x37, x38, x39, x40, x41, x42, x43, x44, x45, x46, x47, x48, z49, z50, z51, z52, z53, z54, z55, undef, undef, undef, undef, undef, undef, undef, undef, undef, undef, undef, undef, undef, undef, undef, undef, undef, undef, undef, undef, undef, undef, undef, undef, undef, undef, undef, undef, undef, undef, undef, undef, undef, undef, undef, undef, undef, undef, undef, undef, undef, undef, undef, undef, undef, undef, undef, undef, undef, undef, undef, undef, undef, undef, undef, undef, undef, undef, undef, undef, undef, undef, undef], []⟩ ∧ AppF wr 7 D1 T1 E1 l w x45 x37 x46 x47 x48 x12 x13 ∧ (fl l 0 → x38 = .agg #[.slice g1 m1 q1, .slice g2 m2 q2, .int .i64 fx, .bool oy]) ∧ (fl l 1 → x39 = .agg #[.int .i64 3, .int .i64 20, .int .i64 (SP : Nat), .int .i64 (SR : Nat)]) ∧ (fl l 2 → x40 = .slice ao n c) ∧ (fl l 3 → x41 = .int .i64 (k : Int)) ∧ (fl l 4 → x42 = .pointer (some ⟨bx, ox, none⟩)) ∧ (fl l 5 → x43 = .string x0) ∧ (fl l 6 → x44 = .string sv) ∧ (fl l 16 → x14 = x48 ∧ fl l 11)) (by kernel_rfl) (ord_of2 (by decide +kernel)) ⟨_, _, _, _, _, _, _, _, _, _, _, _, _, _, _, rfl, AppF.zero _ _ _ _ _ _ _ _ _ _ _ _, fun f => absurd f (fl_none _ _), fun f => absurd f (fl_none _ _), fun f => absurd f (fl_none _ _), fun f => absurd f (fl_none _ _), fun f => absurd f (fl_none _ _), fun f => absurd f (fl_none _ _), fun f => absurd f (fl_none _ _), fun f => absurd f (fl_none _ _)⟩ ?_ ?_
          · intro l aa w3 i o ho hI h1 h2 KK hK
            obtain ⟨x12, x13, x14, x37, x38, x39, x40, x41, x42, x43, x44, x45, x46, x47, x48, rfl, hF, g0, g1, g2, g3, g4, g5, g6, h4⟩ := hI
            have hi : i < 17 := (Array.getElem?_eq_some_iff.1 ho).1
            have R9 := R.out.next hF.below
            obtain ⟨p0, p1, p2, p3, p4, p5, p6, p7⟩ := (R9.blkAt 0 rfl).four
            obtain ⟨r0, r1, r2, r3, r4, r5, r6, r7⟩ := (R9.blkAt 2 rfl).four
            have hcx9 : w3.cell? ⟨bx, ox, none⟩ = some (.string x0) := (hF.below.cell (p := ⟨bx, ox, none⟩) hlx).trans hcx.out
            have hcase : i = 0 ∨ i = 1 ∨ i = 2 ∨ i = 3 ∨ i = 4 ∨ i = 5 ∨ i = 6 ∨ i = 7 ∨ i = 8 ∨ i = 9 ∨ i = 10 ∨ i = 11 ∨ i = 12 ∨ i = 13 ∨ i = 14 ∨ i = 15 ∨ i = 16 := by omega
            rcases hcase with rfl | rfl | rfl | rfl | rfl | rfl | rfl | rfl | rfl | rfl | rfl | rfl | rfl | rfl | rfl | rfl | rfl
            · cases ho
              go_simp
              exact hK _ _ ⟨_, _, _, _, _, _, _, _, _, _, _, _, _, _, _, rfl, hF.pre (.inl (by decide)), fun _ => rfl, fun f => g1 (fl_set f (by decide)), fun f => g2 (fl_set f (by decide)), fun f => g3 (fl_set f (by decide)), fun f => g4 (fl_set f (by decide)), fun f => g5 (fl_set f (by decide)), fun f => g6 (fl_set f (by decide)), fun f => ⟨(h4 (fl_set f (by decide))).1, fl_keep (h4 (fl_set f (by decide))).2 _⟩⟩
            · cases ho
              go_simp
              exact hK _ _ ⟨_, _, _, _, _, _, _, _, _, _, _, _, _, _, _, rfl, hF.pre (.inl (by decide)), fun f => g0 (fl_set f (by decide)), fun _ => rfl, fun f => g2 (fl_set f (by decide)), fun f => g3 (fl_set f (by decide)), fun f => g4 (fl_set f (by decide)), fun f => g5 (fl_set f (by decide)), fun f => g6 (fl_set f (by decide)), fun f => ⟨(h4 (fl_set f (by decide))).1, fl_keep (h4 (fl_set f (by decide))).2 _⟩⟩
            · cases ho
              go_simp
              exact hK _ _ ⟨_, _, _, _, _, _, _, _, _, _, _, _, _, _, _, rfl, hF.pre (.inl (by decide)), fun f => g0 (fl_set f (by decide)), fun f => g1 (fl_set f (by decide)), fun _ => rfl, fun f => g3 (fl_set f (by decide)), fun f => g4 (fl_set f (by decide)), fun f => g5 (fl_set f (by decide)), fun f => g6 (fl_set f (by decide)), fun f => ⟨(h4 (fl_set f (by decide))).1, fl_keep (h4 (fl_set f (by decide))).2 _⟩⟩
            · cases ho
              go_simp
              exact hK _ _ ⟨_, _, _, _, _, _, _, _, _, _, _, _, _, _, _, rfl, hF.pre (.inl (by decide)), fun f => g0 (fl_set f (by decide)), fun f => g1 (fl_set f (by decide)), fun f => g2 (fl_set f (by decide)), fun _ => rfl, fun f => g4 (fl_set f (by decide)), fun f => g5 (fl_set f (by decide)), fun f => g6 (fl_set f (by decide)), fun f => ⟨(h4 (fl_set f (by decide))).1, fl_keep (h4 (fl_set f (by decide))).2 _⟩⟩
            · cases ho
              have f2 : fl l 2 := h2 ⟨2, .data⟩ (by simp) rfl
              have f3 : fl l 3 := h2 ⟨3, .data⟩ (by simp) rfl
              obtain rfl := g2 f2
              obtain rfl := g3 f3
              go_simp
              exact hK _ _ ⟨_, _, _, _, _, _, _, _, _, _, _, _, _, _, _, rfl, hF.pre (.inl (by decide)), fun f => g0 (fl_set f (by decide)), fun f => g1 (fl_set f (by decide)), fun f => g2 (fl_set f (by decide)), fun f => g3 (fl_set f (by decide)), fun _ => rfl, fun f => g5 (fl_set f (by decide)), fun f => g6 (fl_set f (by decide)), fun f => ⟨(h4 (fl_set f (by decide))).1, fl_keep (h4 (fl_set f (by decide))).2 _⟩⟩
            · cases ho
              have f4 : fl l 4 := h2 ⟨4, .data⟩ (by simp) rfl
              obtain rfl := g4 f4
              go_simp
              exact hK _ _ ⟨_, _, _, _, _, _, _, _, _, _, _, _, _, _, _, rfl, hF.pre (.inl (by decide)), fun f => g0 (fl_set f (by decide)), fun f => g1 (fl_set f (by decide)), fun f => g2 (fl_set f (by decide)), fun f => g3 (fl_set f (by decide)), fun f => g4 (fl_set f (by decide)), fun _ => rfl, fun f => g6 (fl_set f (by decide)), fun f => ⟨(h4 (fl_set f (by decide))).1, fl_keep (h4 (fl_set f (by decide))).2 _⟩⟩
            · cases ho
              have f5 : fl l 5 := h2 ⟨5, .data⟩ (by simp) rfl
              obtain rfl := g5 f5
              go_simp
              go_at_call 39
              refine (HFk.out _).mono ?_
              rintro e w' ⟨rfl, hb⟩
              exact hK _ _ ⟨_, _, _, _, _, _, _, _, _, _, _, _, _, _, _, rfl, (hF.mono hb).pre (.inl (by decide)), fun f => g0 (fl_set f (by decide)), fun f => g1 (fl_set f (by decide)), fun f => g2 (fl_set f (by decide)), fun f => g3 (fl_set f (by decide)), fun f => g4 (fl_set f (by decide)), fun f => g5 (fl_set f (by decide)), fun _ => rfl, fun f => ⟨(h4 (fl_set f (by decide))).1, fl_keep (h4 (fl_set f (by decide))).2 _⟩⟩
            · cases ho
              have f0 : fl l 0 := h2 ⟨0, .data⟩ (by simp) rfl
              have f1 : fl l 1 := h2 ⟨1, .data⟩ (by simp) rfl
              have f6 : fl l 6 := h2 ⟨6, .data⟩ (by simp) rfl
              obtain rfl := g0 f0
              obtain rfl := g1 f1
              obtain rfl := g6 f6
              go_simp
              go_at_call 40
              refine (HA.out _ _ (R9.drvAt 1 rfl)).mono ?_
              rintro e w' ⟨v', rfl, hdv, hb⟩
              exact hK _ _ ⟨_, _, _, _, _, _, _, _, _, _, _, _, _, _, _, rfl, hF.call h1 hb hdv, fun f => g0 (fl_set f (by decide)), fun f => g1 (fl_set f (by decide)), fun f => g2 (fl_set f (by decide)), fun f => g3 (fl_set f (by decide)), fun f => g4 (fl_set f (by decide)), fun f => g5 (fl_set f (by decide)), fun f => g6 (fl_set f (by decide)), fun f => ⟨(h4 (fl_set f (by decide))).1, fl_keep (h4 (fl_set f (by decide))).2 _⟩⟩
            · cases ho
              have f7 : fl l 7 := h2 ⟨7, .data⟩ (by simp) rfl
              go_simp
              exact hK _ _ ⟨_, _, _, _, _, _, _, _, _, _, _, _, _, _, _, rfl, hF.move f7, fun f => g0 (fl_set f (by decide)), fun f => g1 (fl_set f (by decide)), fun f => g2 (fl_set f (by decide)), fun f => g3 (fl_set f (by decide)), fun f => g4 (fl_set f (by decide)), fun f => g5 (fl_set f (by decide)), fun f => g6 (fl_set f (by decide)), fun f => ⟨(h4 (fl_set f (by decide))).1, fl_keep (h4 (fl_set f (by decide))).2 _⟩⟩
            · cases ho
              have f8 : fl l 8 := h2 ⟨8, .data⟩ (by simp) rfl
              obtain ⟨y, rfl, hy, rfl⟩ := hF.moved f8
              go_simp
              exact hK _ _ ⟨_, _, _, _, _, _, _, _, _, _, _, _, _, _, _, rfl, hF.ex0 h1 f8 rfl, fun f => g0 (fl_set f (by decide)), fun f => g1 (fl_set f (by decide)), fun f => g2 (fl_set f (by decide)), fun f => g3 (fl_set f (by decide)), fun f => g4 (fl_set f (by decide)), fun f => g5 (fl_set f (by decide)), fun f => g6 (fl_set f (by decide)), fun f => ⟨(h4 (fl_set f (by decide))).1, fl_keep (h4 (fl_set f (by decide))).2 _⟩⟩
            · cases ho
              have f8 : fl l 8 := h2 ⟨8, .data⟩ (by simp) rfl
              obtain ⟨y, rfl, hy, rfl⟩ := hF.moved f8
              go_simp
              exact hK _ _ ⟨_, _, _, _, _, _, _, _, _, _, _, _, _, _, _, rfl, hF.ex1 f8, fun f => g0 (fl_set f (by decide)), fun f => g1 (fl_set f (by decide)), fun f => g2 (fl_set f (by decide)), fun f => g3 (fl_set f (by decide)), fun f => g4 (fl_set f (by decide)), fun f => g5 (fl_set f (by decide)), fun f => g6 (fl_set f (by decide)), fun f => ⟨(h4 (fl_set f (by decide))).1, fl_keep (h4 (fl_set f (by decide))).2 _⟩⟩
            · cases ho
              have f8 : fl l 8 := h2 ⟨8, .data⟩ (by simp) rfl
              obtain ⟨y, rfl, hy, rfl⟩ := hF.moved f8
              go_simp
              exact hK _ _ ⟨_, _, _, _, _, _, _, _, _, _, _, _, _, _, _, rfl, hF.ex2 f8, fun f => g0 (fl_set f (by decide)), fun f => g1 (fl_set f (by decide)), fun f => g2 (fl_set f (by decide)), fun f => g3 (fl_set f (by decide)), fun f => g4 (fl_set f (by decide)), fun f => g5 (fl_set f (by decide)), fun f => g6 (fl_set f (by decide)), fun f => absurd (h4 (fl_set f (by decide))).2 (fl_not h1)⟩
            · cases ho
              go_simp
              exact hK _ _ ⟨_, _, _, _, _, _, _, _, _, _, _, _, _, _, _, rfl, hF.boxa h1, fun f => g0 (fl_set f (by decide)), fun f => g1 (fl_set f (by decide)), fun f => g2 (fl_set f (by decide)), fun f => g3 (fl_set f (by decide)), fun f => g4 (fl_set f (by decide)), fun f => g5 (fl_set f (by decide)), fun f => g6 (fl_set f (by decide)), fun f => ⟨(h4 (fl_set f (by decide))).1, fl_keep (h4 (fl_set f (by decide))).2 _⟩⟩
            · cases ho
              go_simp
              exact hK _ _ ⟨_, _, _, _, _, _, _, _, _, _, _, _, _, _, _, rfl, hF.boxb h1, fun f => g0 (fl_set f (by decide)), fun f => g1 (fl_set f (by decide)), fun f => g2 (fl_set f (by decide)), fun f => g3 (fl_set f (by decide)), fun f => g4 (fl_set f (by decide)), fun f => g5 (fl_set f (by decide)), fun f => g6 (fl_set f (by decide)), fun f => ⟨(h4 (fl_set f (by decide))).1, fl_keep (h4 (fl_set f (by decide))).2 _⟩⟩
            · cases ho
              have f12 : fl l 12 := h2 ⟨12, .data⟩ (by simp) rfl
              have f9 : fl l 9 := h2 ⟨9, .data⟩ (by simp) rfl
              obtain ⟨b, u, rfl, hB, hHo, _⟩ := hF.fa f12
              have hHo2 := hHo
              obtain ⟨_, _, _, _, _, _, _, _, _, hH⟩ := hHo
              obtain ⟨y, hxc, hy, h3⟩ := hF.fc (hF.fm (hF.f0 f9)).1
              clear hxc
              obtain rfl := h3 f9
              obtain ⟨u1, m1, t1, u2, m2, t2, fu, of, rfl, _⟩ := hy
              obtain ⟨y0, y1, y2, y3, y4, y5, y6, y7⟩ := hH.four
              unfold drvVal
              go_simp
              exact hK _ _ ⟨_, _, _, _, _, _, _, _, _, _, _, _, _, _, _, rfl, hF.sta f12 f9 rfl u1 m1 t1 u2 m2 t2 fu of rfl, fun f => g0 (fl_set f (by decide)), fun f => g1 (fl_set f (by decide)), fun f => g2 (fl_set f (by decide)), fun f => g3 (fl_set f (by decide)), fun f => g4 (fl_set f (by decide)), fun f => g5 (fl_set f (by decide)), fun f => g6 (fl_set f (by decide)), fun f => ⟨(h4 (fl_set f (by decide))).1, fl_keep (h4 (fl_set f (by decide))).2 _⟩⟩
            · cases ho
              have f13 : fl l 13 := h2 ⟨13, .data⟩ (by simp) rfl
              have f10 : fl l 10 := h2 ⟨10, .data⟩ (by simp) rfl
              obtain ⟨b, u, rfl, hB, hH, _⟩ := hF.fb f13
              obtain ⟨e5, _⟩ := hF.f1 f10
              subst e5
              have hH2 := hH
              unfold tpCells at hH
              obtain ⟨y0, y1, y2, y3, y4, y5, y6, y7⟩ := hH.four
              unfold tpVal
              go_simp
              exact hK _ _ ⟨_, _, _, _, _, _, _, _, _, _, _, _, _, _, _, rfl, hF.stb f13 rfl, fun f => g0 (fl_set f (by decide)), fun f => g1 (fl_set f (by decide)), fun f => g2 (fl_set f (by decide)), fun f => g3 (fl_set f (by decide)), fun f => g4 (fl_set f (by decide)), fun f => g5 (fl_set f (by decide)), fun f => g6 (fl_set f (by decide)), fun f => ⟨(h4 (fl_set f (by decide))).1, fl_keep (h4 (fl_set f (by decide))).2 _⟩⟩
            · cases ho
              have f11 : fl l 11 := h2 ⟨11, .data⟩ (by simp) rfl
              go_simp
              exact hK _ _ ⟨_, _, _, _, _, _, _, _, _, _, _, _, _, _, _, rfl, hF.pre (.inr rfl), fun f => g0 (fl_set f (by decide)), fun f => g1 (fl_set f (by decide)), fun f => g2 (fl_set f (by decide)), fun f => g3 (fl_set f (by decide)), fun f => g4 (fl_set f (by decide)), fun f => g5 (fl_set f (by decide)), fun f => g6 (fl_set f (by decide)), fun _ => ⟨rfl, fl_keep f11 _⟩⟩
          · intro l aa w3 hI hall
            obtain ⟨x12, x13, x14, x37, x38, x39, x40, x41, x42, x43, x44, x45, x46, x47, x48, rfl, hF, g0, g1, g2, g3, g4, g5, g6, h4⟩ := hI
            obtain ⟨b, v, c, rfl, rfl, rfl, hb1, hc1, hH, hdv, hT, hcb, hbw⟩ := hF.done hall
            obtain rfl := (h4 (fl_all hall hF.size (by decide))).1
            dsimp only
            go_wp2_with fail
            go_meet
            exact ⟨b, c, v, rfl, rfl, rfl, hH, hdv, hT, hcb, by omega, by omega, hide (R.out.next hbw), hide (HM.out.next hbw), by have := hbw.size; omega, chain hbw0 hbw⟩
        case rest =>
          obtain ⟨wx, rfl⟩ : ∃ wx, wx = wc := ⟨_, rfl⟩
          clear R hbw0 hsz hix hcx HM
          obtain ⟨b12, b13, v12, rfl, rfl, rfl, hH, hdv, hT13, hne13, h12, h13, hR, HM, hszx, hbx⟩ := hcut
          rcases HAPD.out with ⟨cs', hp, hT'⟩ | ⟨E, hp, hE⟩
          · simp only [Prod.mk.injEq] at hp
            obtain ⟨rfl, rfl, rfl⟩ := hp
            clear HAPD
            obtain ⟨SP2, hSP2⟩ : ∃ z, span (all ++ [s]) = z := ⟨_, rfl⟩
            obtain ⟨SR2, hSR2⟩ : ∃ z, 500 + (all ++ [s]).length = z := ⟨_, rfl⟩
            rw [hSP2, hSR2] at hT13
            have HN2 := hide (And.intro hSP2 hSR2)
            have hT2 := hide hT'
            obtain ⟨u1, k1, t1, u2, k2, t2, fu, oz, rfl, hN12⟩ := hH
            unfold drvVal at hdv
            have h12l := hN12.lt
            have h13l := hT13.lt
            have R9 := hide (((hR.out.consB hT13).consB hN12).consD hdv (hT2.out.still _ _))
            have hl8 := (hR.out.blkAt 2 rfl).lt
            clear hSP2 hSR2 hT' hdv hN12 hT13 hR
            obtain ⟨r0, r1, r2, r3, r4, r5, r6, r7⟩ := (R9.out.blkAt 5 rfl).four
            go_wp2_with (at_mapUpdate; refine wpList_set rfl (.tmp 51) (.tmp 53) rfl b10 (firstsOf all) (SP : Nat) rfl rfl HM.out (by omega) (by rw [firstsOf_length]; omega) ?_)
            intro w10 hM10 hst10
            have HM10 : Hid (IsSet w10 b10 (firstsOf (all ++ [s]))) := hide (by rw [firstsOf_snoc, HN.out.2]; exact hM10)
            have hmne := fun (b' : Nat) (vs : List Value) (t : TypeId) (hb : Blk wx b' vs t) => HM.out.ne hb
            have R11 := hide (R9.out.step hst10 ⟨trivial, hmne _ _ _ (R9.out.blkAt 1 rfl), hmne _ _ _ (R9.out.blkAt 2 rfl), hmne _ _ _ (R9.out.blkAt 3 rfl), trivial, hmne _ _ _ (R9.out.blkAt 5 rfl), hmne _ _ _ (R9.out.blkAt 6 rfl), trivial⟩)
            have hb11 : Below w.heap.size w w10 := hbx.grown hst10.grown hbx.size (fun g hg => by injection hg with hg; omega)
            have hs10 := hst10.grown.size
            clear R9 hM10 hst10 hmne HM r0 r1 r2 r3 r4 r5 r6 r7 hbx
            go_upto_region 11 with fail
            obtain ⟨p0, p1, p2, p3, p4, p5, p6, p7⟩ := (R11.out.blkAt 1 rfl).four
            obtain ⟨r0, r1, r2, r3, r4, r5, r6, r7⟩ := (R11.out.blkAt 2 rfl).four
            obtain ⟨s0, s1, s2, s3, s4, s5, s6, s7⟩ := (R11.out.blkAt 3 rfl).four
            obtain ⟨l0, l1, l2, l3, l4, l5, l6, l7⟩ := (R11.out.blkAt 5 rfl).four
            have hne1 : b7 ≠ b12 := by omega
            have hne2 : b12 ≠ b7 := by omega
            have hne3 : b7 ≠ b13 := by omega
            have hne4 : b13 ≠ b7 := by omega
            have hne5 : b8 ≠ b12 := by omega
            have hne6 : b12 ≠ b8 := by omega
            have hne7 : b8 ≠ b13 := by omega
            have hne8 : b13 ≠ b8 := by omega
            have hne9 : b7 ≠ b8 := by omega
            have hne10 : b8 ≠ b7 := by omega
            go_region_held3 (fun w' => w'.cell? ⟨b12, 0, none⟩ = some (.slice u1 k1 t1) ∧ w'.cell? ⟨b12, 1, none⟩ = some (.slice u2 k2 t2) ∧ w'.cell? ⟨b12, 2, none⟩ = some (.int .i64 fu) ∧ w'.cell? ⟨b12, 3, none⟩ = some (.bool oz) ∧ w'.cell? ⟨b13, 0, none⟩ = some (.int .i64 3) ∧ w'.cell? ⟨b13, 1, none⟩ = some (.int .i64 20) ∧ w'.cell? ⟨b13, 2, none⟩ = some (.int .i64 (SP2 : Nat)) ∧ w'.cell? ⟨b13, 3, none⟩ = some (.int .i64 (SR2 : Nat))) (go_keep) (fail)
            clear p0 p1 p2 p3 p4 p5 p6 p7 r0 r1 r2 r3 r4 r5 r6 r7 s0 s1 s2 s3 s4 s5 s6 s7 l0 l1 l2 l3 l4 l5 l6 l7
            go_wp2_with fail
            go_roundw
            case rel =>
              have RN := (Have.nil _).consB (R11.out.blkAt 6 rfl)
              have RX := (RN.store2 (t := ⟨3, 20, (SP2 : Nat), (SR2 : Nat)⟩) (R11.out.blkAt 3 rfl) ⟨rfl, rfl, rfl, rfl⟩ (R11.out.blkAt 5 rfl) ⟨rfl, rfl, rfl, rfl⟩ (R11.out.drvAt 0 rfl) (hT2.out.still _ _) ⟨Nat.ne_of_gt (by omega), trivial⟩ ⟨Nat.ne_of_gt (by omega), trivial⟩ hne10).next (Below.drewed (Below.refl _ _))
              have hst1 := Step.set4 (R11.out.blkAt 3 rfl) ⟨rfl, rfl, rfl, rfl⟩ (.slice u1 k1 t1) (.slice u2 k2 t2) (.int .i64 fu) (.bool oz) ⟨rfl, rfl, rfl⟩
              have hM1 := HM10.out.step (R11.out.blkAt 3 rfl) hst1
              have hk8 := (R11.out.blkAt 5 rfl).other4 hne10 (.slice u1 k1 t1) (.slice u2 k2 t2) (.int .i64 fu) (.bool oz)
              have hst2 := Step.set4 hk8 ⟨rfl, rfl, rfl, rfl⟩ (.int .i64 3) (.int .i64 20) (.int .i64 (SP2 : Nat)) (.int .i64 (SR2 : Nat)) ⟨rfl, rfl, rfl⟩
              have hM2 := (hM1.step hk8 hst2).drewed
              refine ⟨k + 1, all ++ [s], cs', by omega, by omega, by simp; omega, by go_num, hT2, hide ?_, hide hM2, by simp; omega, ?_⟩
              · rw [HN2.out.1, HN2.out.2]
                exact (((Have.nil _).consB (RX.blkAt 2 rfl)).consB (RX.blkAt 0 rfl)).cons (RX.at 1 rfl)
              · exact Below.drewed (below4 (below4 hb11 (by omega) _ _ _ _) (by omega) _ _ _ _)
            case measure => simp [intOf]; omega
          · simp only [Prod.mk.injEq] at hp
            obtain ⟨rfl, rfl, rfl⟩ := hp
            clear HAPD
            have RX := hide ((((Have.nil _).consB (hR.out.blkAt 3 rfl)).consB (hR.out.blkAt 2 rfl)).consX (hR.out.blkAt 0 rfl) (hR.out.drvAt 1 rfl) (hT.out.still _ _))
            clear hH hdv hT13 hR
            rcases hE with rfl | rfl
            · go_wp2_with fail
              go_roundw
              case rel => exact ⟨k + 1, all, cs, by omega, by omega, by omega, by go_num, hT, (by rw [HN.out.1, HN.out.2]; exact RX), HM, hszx, hbx⟩
              case measure => simp [intOf]; omega
            · go_wp2_with fail
              go_roundw
              case rel => exact ⟨k + 1, all, cs, by omega, by omega, by omega, by go_num, hT, (by rw [HN.out.1, HN.out.2]; exact RX), HM, hszx, hbx⟩
              case measure => simp [intOf]; omega
      · by_cases hk1 : k < n
        · have hk2 : ¬ k < 9 := fun h => hkk ⟨hk1, h⟩
          have hneL : (k : Int) < (n : Int) := by omega
          clear hkk
          go_wp2_with fail
          go_meet
          exact ⟨all, cs, by omega, hT, hR, HM, hsz, hbw0⟩
        · have hneL : ¬ (k : Int) < (n : Int) := by omega
          clear hkk
          go_wp2_with fail
          go_meet
          exact ⟨all, cs, by omega, hT, hR, HM, hsz, hbw0⟩
  case rest =>
    obtain ⟨wr, rfl⟩ : ∃ wr, wr = wc := ⟨_, rfl⟩
    clear R3 hb3 hB2 HM1 HF HS HO hn1
    obtain ⟨all, cs, hal, hT, hR, HM, hsz, hbw⟩ := hcut
    by_cases hall : all = []
    · have HF0 := hide (firstsOf_nil.2 hall)
      clear hall
      go_wp2_with (at_len; refine wpList_setlen rfl (.tmp 56) rfl b10 (firstsOf all) rfl HM.out ?_)
      intro ml hml _
      have hm0 : ((ml : Int) == 0) = true := by rw [beq_iff_eq, hml.2 HF0.out]; rfl
      clear hml
      go_wp2_with fail
      refine (HAW.out _).mono ?_
      rintro e w3 ⟨rfl, hb4⟩
      have hb5 := chain hbw hb4
      clear hb4
      go_wp2_with fail
      go_ret
      exact ⟨rfl, hb5⟩
    · have hscan0 := hT.out.scan (f := -1) (by omega) 0 (by omega) (by omega) (by omega)
      rw [List.take_zero, Nat.add_zero] at hscan0
      change Drv.scan _ ⟨3, 20, 0, ((500 : Nat) : Int)⟩ = _ at hscan0
      rw [List.drop_zero] at hscan0
      obtain ⟨sb, hsb⟩ := Int.eq_ofNat_of_zero_le (show 0 ≤ 500 + y by omega)
      have hsb1 : 1 ≤ sb := by omega
      have hsb2 : sb ≤ 16777216 := by omega
      have hapos : 0 < all.length := by
        cases all with
        | nil => exact absurd rfl hall
        | cons x l => simp
      obtain ⟨G, T2, hG, hGy⟩ : ∃ (G : List (List UInt8)) (T2 : Tp), Drv.scan ⟨cs, [], -1, false⟩ ⟨3, 20, 0, ((sb : Nat) : Int)⟩ = (G, T2, 0) ∧ ((G.length : Int) == 0) = (y != 0) := by
        by_cases hy0 : y = 0
        · have e : sb = 500 := by omega
          subst e
          refine ⟨all, _, hscan0, ?_⟩
          subst hy0
          rw [show ((0 : Int) != 0) = false from rfl, beq_eq_false_iff_ne]
          omega
        · refine ⟨[], _, hT.out.scanOther hall sb (by omega) hsb1 hsb2 (by omega), ?_⟩
          rw [bne_iff_ne.2 hy0]
          rfl
      have hGn : G.length ≤ 9223372036854775807 := by
        have h1 := congrArg (fun r => r.1.length) hG
        simp only at h1
        by_cases hy0 : y = 0
        · have e : sb = 500 := by omega
          subst e
          rw [hscan0] at h1
          simp only at h1
          omega
        · rw [hT.out.scanOther hall sb (by omega) hsb1 hsb2 (by omega)] at h1
          simp only [List.length_nil] at h1
          omega
      have HSC := hide (fun v w (h : IsDrive w v ⟨cs, [], -1, false⟩) => scan_any v ⟨cs, [], -1, false⟩ ⟨3, 20, 0, ((sb : Nat) : Int)⟩ w h (by unfold Tp.In; dsimp only; omega))
      rw [hG] at HSC
      have hsb' : ((sb : Nat) : Int) = 500 + y := hsb.symm
      rw [hsb'] at HSC
      have HSB := hide hsb
      have HS2 := hide (fun (p s : Nat) (hp : p < 20) (h1 : 500 ≤ s) (h2 : s ≤ 1000) => hT.out.scanAt p hp s h1 (by omega) (by omega))
      obtain ⟨gb, hgb⟩ : ∃ gb, (y != 0) = gb := ⟨_, rfl⟩
      rw [hgb] at hGy
      obtain ⟨p, hp⟩ : ∃ p, z % 20 = p := ⟨_, rfl⟩
      have hzp : ((z : Int) % 20) = (p : Int) := by omega
      have hp20 : p < 20 := by omega
      obtain ⟨SR, hSR⟩ : ∃ z, 500 + all.length = z := ⟨_, rfl⟩
      obtain ⟨SP, hSP⟩ : ∃ z, span all = z := ⟨_, rfl⟩
      rw [hSR, hSP] at hR
      have hsr : SR ≤ 509 := by omega
      have hsr5 : 500 ≤ SR := by omega
      obtain ⟨g1, m1, q1, g2, m2, q2, fx, oy, hR2⟩ := hR.out.open
      have R := hide ((((hR2.tail.tail.tail.consB (hR2.blkAt 2 rfl)).consD (hR2.drvAt 1 rfl) (hT.out.still _ _))).consB (hR2.blkAt 0 rfl))
      clear hR hR2 hscan0 hsb hsb' hG hp hSP
      have HALL := hide hall
      clear hall
      go_wp2_with (at_len; refine wpList_setlen rfl (.tmp 56) rfl b10 (firstsOf all) rfl HM.out ?_)
      intro ml hml _
      have hm0 : ((ml : Int) == 0) = false := by
        rw [beq_eq_false_iff_ne]
        intro h
        exact HALL.out (firstsOf_nil.1 (hml.1 (by omega)))
      clear hml
      obtain ⟨p0, p1, p2, p3, p4, p5, p6, p7⟩ := (R.out.blkAt 0 rfl).four
      obtain ⟨r0, r1, r2, r3, r4, r5, r6, r7⟩ := (R.out.blkAt 2 rfl).four
      obtain ⟨s0, s1, s2, s3, s4, s5, s6, s7⟩ := (R.out.blkAt 3 rfl).four
      have hl7 := (R.out.blkAt 0 rfl).lt
      have hl8 := (R.out.blkAt 2 rfl).lt
      have hl9 := (R.out.blkAt 3 rfl).lt
      have HGY := hide hGy
      have HGB := hide hgb
      clear hGy hgb
      have hal := (Below.refl wr.heap.size wr).alloc (Nat.le_refl _) (.cells #[.int .i64 3, .int .i64 20, .int .i64 0, .int .i64 (500 + y)] 60)
      have R5 := (R.out.next hal).consB (Blk.new wr [.int .i64 3, .int .i64 20, .int .i64 0, .int .i64 (500 + y)] 60)
      have HM5 := hide (HM.out.next hal)
      have hb5 := chain hbw hal
      obtain ⟨W5, hW5⟩ : ∃ W5, wr.alloc (.cells #[.int .i64 3, .int .i64 20, .int .i64 0, .int .i64 (500 + y)] 60) = W5 := ⟨_, rfl⟩
      replace R5 : Have W5 _ := hW5 ▸ R5
      rw [hW5] at HM5 hb5
      have hs5 : W5.heap.size = wr.heap.size + 1 := by rw [← hW5]; simp
      have HW5 := hide hW5
      have HR5 := hide R5
      clear R5 hW5 hal HM hbw R
      go_upto_region 16 with fail
      rw [HW5.out]
      obtain ⟨b15, hb15⟩ : ∃ b, wr.heap.size = b := ⟨_, rfl⟩
      rw [hb15] at HR5 hs5 hsz hl7 hl8 hl9 ⊢
      have hB15 : B ≤ b15 := hsz
      clear HW5 hb15 p0 p1 p2 p3 p4 p5 p6 p7 r0 r1 r2 r3 r4 r5 r6 r7 s0 s1 s2 s3 s4 s5 s6 s7
      obtain ⟨p0, p1, p2, p3, p4, p5, p6, p7⟩ := (HR5.out.blkAt 1 rfl).four
      obtain ⟨r0, r1, r2, r3, r4, r5, r6, r7⟩ := (HR5.out.blkAt 0 rfl).four
      go_wp2_with fail
      refine (HSC.out _ _ (HR5.out.drvAt 2 rfl)).mono ?_
      rintro e w6 ⟨ao3, c3', rfl, _, _, _, hb6⟩
      obtain ⟨tf, tl, tp, ts⟩ := T2
      unfold tpVal
      dsimp only
      have hal := (Below.refl w6.heap.size w6).alloc (Nat.le_refl _) (.cells #[.int .i64 tf, .int .i64 tl, .int .i64 tp, .int .i64 ts] 60)
      have R6 := (HR5.out.next hb6).next hal
      have HM6 := hide ((HM5.out.next hb6).next hal)
      have hb7' := chain (chain hb5 hb6) hal
      have hs6 := hb6.size
      obtain ⟨W6, hW6⟩ : ∃ W6, w6.alloc (.cells #[.int .i64 tf, .int .i64 tl, .int .i64 tp, .int .i64 ts] 60) = W6 := ⟨_, rfl⟩
      replace R6 : Have W6 _ := hW6 ▸ R6
      rw [hW6] at HM6 hb7'
      have hs7 : W6.heap.size = w6.heap.size + 1 := by rw [← hW6]; simp
      have HW6 := hide hW6
      have HR6 := hide R6
      clear R6 hW6 hal HM5 hb5 HR5 hb6 p0 p1 p2 p3 p4 p5 p6 p7 r0 r1 r2 r3 r4 r5 r6 r7 HSC
      have hGy := HGY.out
      have hgb := HGB.out
      go_upto_region 19 with fail
      rw [HW6.out]
      clear HW6 hGy hgb
      obtain ⟨p0, p1, p2, p3, p4, p5, p6, p7⟩ := (HR6.out.blkAt 4 rfl).four
      obtain ⟨r0, r1, r2, r3, r4, r5, r6, r7⟩ := (HR6.out.blkAt 0 rfl).four
      go_upto_block 2 with fail
      have hk15 := HR6.out.blkAt 0 rfl
      have hst1 := Step.set4 hk15 ⟨rfl, rfl, rfl, rfl⟩ (.int .i64 3) (.int .i64 20) (.int .i64 0) (.int .i64 500) ⟨rfl, rfl, rfl⟩
      have hk15b := hk15.set4 (.int .i64 3) (.int .i64 20) (.int .i64 0) (.int .i64 500)
      have hst2 := Step.set hk15b (by simp [noStr]) 2 (.int .i64 (p : Int))
      have hk15c := hk15b.set 2 (.int .i64 (p : Int))
      have hst := hst1.trans hst2
      have RN := ((((Have.nil _).consB (HR6.out.blkAt 3 rfl)).consD (HR6.out.drvAt 2 rfl) (hT.out.still _ _)).consB (HR6.out.blkAt 1 rfl)).step hst ⟨Nat.ne_of_lt hl7, trivial, Nat.ne_of_lt hl8, trivial⟩
      have R7 : Hid (Have (((((W6.setCell ⟨b15, 0, none⟩ (.int .i64 3)).setCell ⟨b15, 1, none⟩ (.int .i64 20)).setCell ⟨b15, 2, none⟩ (.int .i64 0)).setCell ⟨b15, 3, none⟩ (.int .i64 500)).setCell ⟨b15, 2, none⟩ (.int .i64 (p : Int))) [.blk b15 [.int .i64 3, .int .i64 20, .int .i64 (p : Int), .int .i64 ((500 : Nat) : Int)] 60, .blk b7 [.slice g1 m1 q1, .slice g2 m2 q2, .int .i64 fx, .bool oy] 25, .drv (.agg #[.slice g1 m1 q1, .slice g2 m2 q2, .int .i64 fx, .bool oy]) ⟨cs, [], -1, false⟩, .blk b8 (tpCells ⟨3, 20, (SP : Nat), (SR : Nat)⟩) 60]) := hide (RN.consB hk15c)
      have HM7 : Hid (IsSet (((((W6.setCell ⟨b15, 0, none⟩ (.int .i64 3)).setCell ⟨b15, 1, none⟩ (.int .i64 20)).setCell ⟨b15, 2, none⟩ (.int .i64 0)).setCell ⟨b15, 3, none⟩ (.int .i64 500)).setCell ⟨b15, 2, none⟩ (.int .i64 (p : Int))) b10 (firstsOf all)) := hide (HM6.out.step hk15 hst)
      have hb8 : Below w.heap.size w (((((W6.setCell ⟨b15, 0, none⟩ (.int .i64 3)).setCell ⟨b15, 1, none⟩ (.int .i64 20)).setCell ⟨b15, 2, none⟩ (.int .i64 0)).setCell ⟨b15, 3, none⟩ (.int .i64 500)).setCell ⟨b15, 2, none⟩ (.int .i64 (p : Int))) := (below4 hb7' (by omega) _ _ _ _).setCell (p := ⟨b15, 2, none⟩) (show w.heap.size ≤ b15 by omega) _
      have hs8 : (((((W6.setCell ⟨b15, 0, none⟩ (.int .i64 3)).setCell ⟨b15, 1, none⟩ (.int .i64 20)).setCell ⟨b15, 2, none⟩ (.int .i64 0)).setCell ⟨b15, 3, none⟩ (.int .i64 500)).setCell ⟨b15, 2, none⟩ (.int .i64 (p : Int))).heap.size = W6.heap.size := by simp
      obtain ⟨W7, hW7⟩ : ∃ W7, (((((W6.setCell ⟨b15, 0, none⟩ (.int .i64 3)).setCell ⟨b15, 1, none⟩ (.int .i64 20)).setCell ⟨b15, 2, none⟩ (.int .i64 0)).setCell ⟨b15, 3, none⟩ (.int .i64 500)).setCell ⟨b15, 2, none⟩ (.int .i64 (p : Int))) = W7 := ⟨_, rfl⟩
      rw [hW7] at R7 HM7 hb8 hs8 ⊢
      clear hW7 RN hst hst1 hst2 hk15 hk15b hk15c HR6 HM6 hb7' p0 p1 p2 p3 p4 p5 p6 p7 r0 r1 r2 r3 r4 r5 r6 r7
      have hB7 : b15 < W7.heap.size := by omega
      go_wp2_with fail
      clear hzp
      go_loopw [19] (fun s19 wq => ∃ (s : Nat) (sv : Nat), 500 ≤ s ∧ s ≤ SR ∧ s19 = .int .i64 (s : Int) ∧ Hid (Have wq [.blk b15 [.int .i64 3, .int .i64 20, .int .i64 (p : Int), .int .i64 (sv : Int)] 60, .blk b7 [.slice g1 m1 q1, .slice g2 m2 q2, .int .i64 fx, .bool oy] 25, .drv (.agg #[.slice g1 m1 q1, .slice g2 m2 q2, .int .i64 fx, .bool oy]) ⟨cs, [], -1, false⟩, .blk b8 (tpCells ⟨3, 20, (SP : Nat), (SR : Nat)⟩) 60]) ∧ Hid (IsSet wq b10 (firstsOf all)) ∧ b15 < wq.heap.size ∧ Below w.heap.size w wq) (fun s19 _ => SR - (intOf s19).toNat)
      case atStart => exact ⟨500, 500, Nat.le_refl _, hsr5, rfl, R7, HM7, hB7, hb8⟩
      case round =>
        obtain ⟨wq, rfl⟩ : ∃ wq, wq = wr := ⟨_, rfl⟩
        obtain ⟨s, sv, hs1, hs2, rfl, hR, HM, hB8, hbq⟩ := hrel
        clear R7 HM7 hb8 hs8 hB7
        by_cases hlt : s < SR
        · have hsc := HS2.out p s hp20 hs1 (by omega)
          obtain ⟨⟨G2, ⟨tf2, tl2, tp2, ts2⟩, E2⟩, hG2⟩ : ∃ r, Drv.scan ⟨cs, [], -1, false⟩ ⟨3, 20, (p : Nat), (s : Nat)⟩ = r := ⟨_, rfl⟩
          have HSC := hide (fun v w (h : IsDrive w v ⟨cs, [], -1, false⟩) => scan_any v ⟨cs, [], -1, false⟩ ⟨3, 20, (p : Nat), (s : Nat)⟩ w h (by unfold Tp.In; dsimp only; omega))
          rw [hG2] at HSC hsc
          simp only at hsc
          obtain ⟨hE2, hne2⟩ := hsc
          subst hE2
          have HNE := hide hne2
          clear hG2 hne2
          obtain ⟨p0, p1, p2, p3, p4, p5, p6, p7⟩ := (hR.out.blkAt 1 rfl).four
          obtain ⟨r0, r1, r2, r3, r4, r5, r6, r7⟩ := (hR.out.blkAt 0 rfl).four
          obtain ⟨s0, s1, s2, s3, s4, s5, s6, s7⟩ := (hR.out.blkAt 3 rfl).four
          have hl7' := (hR.out.blkAt 1 rfl).lt
          have hstq := Step.set (hR.out.blkAt 0 rfl) (by simp [noStr]) 3 (.int .i64 (s : Int))
          have RQ := ((hR.out.tail).step hstq ⟨Nat.ne_of_lt (by omega), trivial, Nat.ne_of_lt (by omega), trivial⟩).consB ((hR.out.blkAt 0 rfl).set 3 (.int .i64 (s : Int)))
          have HMQ := hide (HM.out.step (hR.out.blkAt 0 rfl) hstq)
          have hbQ := hbq.setCell (p := ⟨b15, 3, none⟩) (show w.heap.size ≤ b15 by omega) (.int .i64 (s : Int))
          obtain ⟨WQ, hWQ⟩ : ∃ WQ, wq.setCell ⟨b15, 3, none⟩ (.int .i64 (s : Int)) = WQ := ⟨_, rfl⟩
          have hsQ : WQ.heap.size = wq.heap.size := by rw [← hWQ]; simp
          rw [hWQ] at RQ HMQ hbQ
          have HRQ := hide RQ
          obtain ⟨x0, x1, x2, x3, x4, x5, x6, x7⟩ := Blk.four (show Blk WQ b15 [.int .i64 3, .int .i64 20, .int .i64 (p : Int), .int .i64 (s : Int)] 60 from RQ.blkAt 0 rfl)
          obtain ⟨y0, y1, y2, y3, y4, y5, y6, y7⟩ := (RQ.blkAt 1 rfl).four
          clear RQ hstq hR HM hbq
          have hneS : (s : Int) < (SR : Int) := by omega
          go_wp2_with fail
          refine (HSC.out _ _ (HRQ.out.drvAt 2 rfl)).mono ?_
          rintro e w8 ⟨ao4, c4, rfl, hst4, _, hm4, hb9⟩
          unfold tpVal
          dsimp only
          have hG2n : G2.length ≤ 9223372036854775807 := by omega
          have hal := (Below.refl w8.heap.size w8).alloc (Nat.le_refl _) (.cells #[.int .i64 tf2, .int .i64 tl2, .int .i64 tp2, .int .i64 ts2] 60)
          have R8 := (HRQ.out.next hb9).next hal
          have HM8 := hide ((HMQ.out.next hb9).next hal)
          have hb10 := chain (chain hbQ hb9) hal
          have hs9 := hb9.size
          obtain ⟨W8, hW8⟩ : ∃ W8, w8.alloc (.cells #[.int .i64 tf2, .int .i64 tl2, .int .i64 tp2, .int .i64 ts2] 60) = W8 := ⟨_, rfl⟩
          replace R8 : Have W8 _ := hW8 ▸ R8
          rw [hW8] at HM8 hb10
          have hs10 : W8.heap.size = w8.heap.size + 1 := by rw [← hW8]; simp
          have HW8 := hide hW8
          have HR8 := hide R8
          clear R8 hW8 hal hst4 hb9 hbQ HRQ HMQ hWQ p0 p1 p2 p3 p4 p5 p6 p7 r0 r1 r2 r3 r4 r5 r6 r7 s0 s1 s2 s3 s4 s5 s6 s7 x0 x1 x2 x3 x4 x5 x6 x7 y0 y1 y2 y3 y4 y5 y6 y7 HSC
          go_upto_region 26 with fail
          rw [HW8.out]
          clear HW8
          have R9 : Hid (Have W8 [.blk b15 [.int .i64 3, .int .i64 20, .int .i64 (p : Int), .int .i64 (s : Int)] 60, .blk b7 [.slice g1 m1 q1, .slice g2 m2 q2, .int .i64 fx, .bool oy] 25, .drv (.agg #[.slice g1 m1 q1, .slice g2 m2 q2, .int .i64 fx, .bool oy]) ⟨cs, [], -1, false⟩, .blk b8 (tpCells ⟨3, 20, (SP : Nat), (SR : Nat)⟩) 60]) := HR8
          clear HR8
          by_cases hg0 : G2.length = 0
          · have hg1 : ¬ 0 < G2.length := by omega
            have hg2 : decide (0 < G2.length) = false := decide_eq_false hg1
            have HG0 := hide hg0
            clear hg0
            go_wp2_with fail
            go_roundw
            case rel => exact ⟨s + 1, s, by omega, by omega, by go_num, R9, HM8, by omega, hb10⟩
            case measure => simp [intOf]; omega
          · have hg1 : 0 < G2.length := by omega
            have hg2 : decide (0 < G2.length) = true := decide_eq_true hg1
            obtain ⟨i, hi, hpi⟩ := HNE.out (by intro h; rw [h] at hg0; exact hg0 rfl)
            have hmem : (p : Int) ∈ firstsOf all := by rw [hpi]; exact mem_firsts hi
            have hlk := HM8.out.lookup (p : Int) (by omega)
            rw [decide_eq_true hmem] at hlk
            obtain ⟨r0, r1, r2, r3, r4, r5, r6, r7⟩ := (R9.out.blkAt 0 rfl).four
            clear hmem hpi hi hg0
            go_wp2_with fail
            go_roundw
            case rel => exact ⟨s + 1, s, by omega, by omega, by go_num, R9, HM8, by omega, hb10⟩
            case measure => simp [intOf]; omega
        · have hneS : ¬ (s : Int) < (SR : Int) := by omega
          obtain ⟨s0, s1, s2, s3, s4, s5, s6, s7⟩ := (hR.out.blkAt 3 rfl).four
          go_wp2_with fail
          refine (HAW.out _).mono ?_
          rintro e w9 ⟨rfl, hb10⟩
          have hb11 := chain hbq hb10
          clear hb10
          go_wp2_with fail
          go_ret
          exact ⟨rfl, hb11⟩

theorem serials_frame {w : World} (ao : Option Addr) (n c : Nat) (xs : List (List UInt8)) (h : Strs w ao n xs) (h1 : n ≤ c) (h2 : c ≤ 9223372036854775807) (hx : ∀ y ∈ xs, y.length ≤ 9223372036854775807) (y : Int) (hy : (Lit.int .i8 y).wf = true) (z : Int) (hz : (Lit.int .u8 z).wf = true) (_ : World) :
    Calls Try.prog 12 #[.slice ao n c, .int .i8 y, .int .u8 z] w fun e w' => e = .returned (.bool true) ∧ Below w.heap.size w w' := by
  have hy' : -128 ≤ y ∧ y ≤ 127 := by
    simp [Lit.wf, IntKind.min, IntKind.max, IntKind.bits, IntKind.signed] at hy
    omega
  have hz' : 0 ≤ z ∧ z ≤ 255 := by
    simp [Lit.wf, IntKind.min, IntKind.max, IntKind.bits, IntKind.signed] at hz
    omega
  obtain ⟨zn, rfl⟩ := Int.eq_ofNat_of_zero_le hz'.1
  exact serials_walk ao n c xs y zn w h ⟨h1, h2⟩ hx hy' (by omega)

end Go.Proofs.Ytkapdmhjhbmdjaa
