/-
  The walk through the statement LogBack: it returns true.
-/
import Derived.Test.YtkapdmhjhbmdjaaBun
import Derived.Test.YtkapdmhjhbmdjaaOpenMore
import Derived.Test.YtkapdmhjhbmdjaaHoldsLaw
import Derived.Deep.CutBlock
namespace Go.Proofs.Ytkapdmhjhbmdjaa
open Go.RowKit


set_option maxRecDepth 100000 in
set_option maxHeartbeats 12800000 in
theorem back_walk (ao : Option Addr) (n c : Nat) (xs : List (List UInt8)) (kept : Nat) (tn cut : Int) (w : World) (h : Strs w ao n xs) (hnc : n ≤ c ∧ c ≤ 9223372036854775807) (hx : ∀ y ∈ xs, y.length ≤ 9223372036854775807) (hk : kept < 18446744073709551616) (ht : -9223372036854775808 ≤ tn ∧ tn < 9223372036854775808) (hcut : -9223372036854775808 ≤ cut ∧ cut < 9223372036854775808) :
    Calls Try.prog 14 #[.slice ao n c, .agg #[.int .u64 kept, .int .i64 tn, .int .i64 cut]] w fun e w' => e = .returned (.bool true) ∧ Below w.heap.size w w' := by
  have HO := hide h
  have HX := hide hx
  have HNC := hide hnc
  have hn1 : n ≤ 9223372036854775807 := by omega
  have HS : Hid (∀ w, Calls Try.prog 50 #[.int .i64 24] w fun e w' => ∃ v, e = .returned v ∧ IsDrive w' v ⟨List.replicate 24 blank, [], -1, false⟩ ∧ Below w.heap.size w w') := hide (fun w => by
    have h := some_any 24 w
    rw [new_24] at h
    exact h)
  have HC : Hid (∀ v cs w, IsDrive w v ⟨cs, [], -1, false⟩ → (⟨cs, [], -1, false⟩ : Drv).May → Calls Try.prog 24 #[v, .agg #[.int .u64 kept, .int .i64 tn, .int .i64 cut]] w fun e w' => ∃ v', e = .returned v' ∧ IsDrive w' v' ⟨cs, [], -1, false⟩ ∧ Below w.heap.size w w') := hide (fun v cs w h hm => by
    have h := crash_any v _ kept tn cut w h hk ht hcut
    rw [crash_still cs hm] at h
    exact h)
  have HF : Hid (∀ k, k < n → ∀ w, Calls Try.prog 39 #[.string (bs (xs.getD k []))] w fun e w' => e = .returned (.string (bs (fewOf (xs.getD k [])))) ∧ Below w.heap.size w w') := hide (fun k hk w => few18_any (xs.getD k []) w (by
    have hl := h.len
    have e : xs.getD k [] ∈ xs := by
      rw [List.getD_eq_getElem?_getD, List.getElem?_eq_getElem (by omega)]
      exact List.getElem_mem _
    have := hx _ e
    omega))
  have HAW := hide (fun w => awake18_any w)
  have L0 := Blk.new w [.int .u64 kept, .int .i64 tn, .int .i64 cut] 28
  have hal : Below w.heap.size w (w.alloc (.cells #[.int .u64 kept, .int .i64 tn, .int .i64 cut] 28)) := (Below.refl _ _).alloc (Nat.le_refl _) _
  clear h hx hk ht hcut hnc
  go_enter Try.func14, Try.ntmps14
  go_wp2_with fail
  refine (HS.out _).mono ?_
  rintro e w1 ⟨v1, rfl, hd1, hb1⟩
  have L1 := L0.next hb1
  have hbx := chain hal hb1
  have HD1 := hide hd1
  obtain ⟨a1, n1, c1, a2, n2, c2, f1, o1, rfl, _⟩ := hd1
  unfold drvVal at HD1 ⊢
  clear hal hb1 L0
  have hw01 := hbx.size
  have hlL := L1.lt
  obtain ⟨W1, hW1⟩ : ∃ W1, w1.alloc (.cells #[.slice a1 n1 c1, .slice a2 n2 c2, .int .i64 f1, .bool o1] 25) = W1 := ⟨_, rfl⟩
  have hal : Below w1.heap.size w1 W1 := by rw [← hW1]; exact (Below.refl _ _).alloc (Nat.le_refl _) _
  have hs1 : W1.heap.size = w1.heap.size + 1 := by rw [← hW1]; simp
  have K2 : Blk W1 w1.heap.size [.slice a1 n1 c1, .slice a2 n2 c2, .int .i64 f1, .bool o1] 25 := by rw [← hW1]; exact Blk.new _ _ _
  have hal2 : Below W1.heap.size W1 (W1.alloc (.cells #[.int .i64 3, .int .i64 20, .int .i64 0, .int .i64 9] 60)) := (Below.refl _ _).alloc (Nat.le_refl _) _
  have K3 := K2.next hal2
  have L3 := (L1.next hal).next hal2
  have HD3 := hide ((HD1.out.below hal).below hal2)
  have hb3 := chain (chain hbx hal) hal2
  obtain ⟨W2, hW2⟩ : ∃ W2, W1.alloc (.cells #[.int .i64 3, .int .i64 20, .int .i64 0, .int .i64 9] 60) = W2 := ⟨_, rfl⟩
  have T3 : Blk W2 W1.heap.size [.int .i64 3, .int .i64 20, .int .i64 0, .int .i64 9] 60 := by rw [← hW2]; exact Blk.new _ _ _
  rw [hW2] at K3 L3 HD3 hb3
  rw [hs1] at T3
  have hs2 : W2.heap.size = w1.heap.size + 2 := by rw [← hW2]; simp [hs1]
  clear hal hal2 K2 L1 HD1 hbx
  go_upto_block 0 with fail
  try rw [hW1]
  try rw [hW2]
  try rw [hs1]
  obtain ⟨b5, hb5⟩ : ∃ b, w1.heap.size = b := ⟨_, rfl⟩
  rw [hb5] at K3 T3 hs2 hw01 hlL ⊢
  obtain ⟨b6, hb6⟩ : ∃ b, b5 + 1 = b := ⟨_, rfl⟩
  rw [hb6] at T3 ⊢
  obtain ⟨bL, hbL⟩ : ∃ b, w.heap.size = b := ⟨_, rfl⟩
  rw [hbL] at L3 hw01 hlL ⊢
  have HBL := hide hbL
  clear hW1 hW2 hs1 hb5 hbL
  have h56 : b5 < b6 := by omega
  have hL5 : bL < b5 := by omega
  have hB : b6 < W2.heap.size := by omega
  have R3 : Hid (Have W2 [.box b5 ⟨List.replicate 24 blank, [], -1, false⟩, .blk b6 (tpCells ⟨3, 20, ((span [] : Nat) : Int), ((9 + ([] : List (List UInt8)).length : Nat) : Int)⟩) 60, .blk bL [.int .u64 kept, .int .i64 tn, .int .i64 cut] 28]) :=
    hide ((((Have.nil _).consB L3).consB T3).consX K3 HD3.out ((OnTape.fresh 9 9 (Nat.le_refl _)).still _ _))
  clear hs2 hb6 hlL K3 T3 L3 HD3
  obtain ⟨B, hBB⟩ : ∃ B, W2.heap.size = B := ⟨_, rfl⟩
  rw [hBB] at hB
  have hB2 : B ≤ W2.heap.size := by omega
  clear hBB
  go_cut [7, 8] (fun s7 s8 wx => ∃ (all : List (List UInt8)) (cs : List (List UInt8)), all.length ≤ 12 ∧ Hid (OnTape cs 9 9 all) ∧ Hid (Have wx [.ownT B s8 (tapesAt all 9), .ownS B s7 all, .box b5 ⟨cs, [], -1, false⟩, .blk b6 (tpCells ⟨3, 20, ((span all : Nat) : Int), ((9 + all.length : Nat) : Int)⟩) 60, .blk bL [.int .u64 kept, .int .i64 tn, .int .i64 cut] 28]) ∧ B ≤ wx.heap.size ∧ Below w.heap.size w wx)
  case first =>
    go_wp2_with fail
    go_loopw [7, 8, 9] (fun s7 s8 s9 wr => ∃ (k : Nat) (all : List (List UInt8)) (cs : List (List UInt8)), k ≤ n ∧ k ≤ 12 ∧ all.length ≤ k ∧ s9 = .int .i64 k ∧ Hid (OnTape cs 9 9 all) ∧ Hid (Have wr [.ownT B s8 (tapesAt all 9), .ownS B s7 all, .box b5 ⟨cs, [], -1, false⟩, .blk b6 (tpCells ⟨3, 20, ((span all : Nat) : Int), ((9 + all.length : Nat) : Int)⟩) 60, .blk bL [.int .u64 kept, .int .i64 tn, .int .i64 cut] 28]) ∧ B ≤ wr.heap.size ∧ Below w.heap.size w wr) (fun _ _ s9 _ => 12 - (intOf s9).toNat)
    case atStart => exact ⟨0, [], _, Nat.zero_le _, by omega, by simp, rfl, hide (OnTape.fresh 9 9 (Nat.le_refl _)), hide ((R3.out.consS (OwnS.nil _ _)).consT (OwnT.nil _ _)), hB2, hb3⟩
    case round =>
      obtain ⟨k, all, cs, hkn, hk12, hak, rfl, hT, hR, hsz, hbw⟩ := hrel
      clear R3 hb3 hB2
      by_cases hkk : k < n ∧ k < 12
      · obtain ⟨hk1, hk2⟩ := hkk
        obtain ⟨bx, ox, hlx, hix, hcx⟩ := (HO.out.below hbw).at c k hk1
        have HFk := hide (HF.out k hk1)
        have hsl := fewOf_length (xs.getD k [])
        obtain ⟨s, hs⟩ : ∃ s, fewOf (xs.getD k []) = s := ⟨_, rfl⟩
        rw [hs] at HFk hsl
        obtain ⟨x0, hx0⟩ : ∃ z, bs (xs.getD k []) = z := ⟨_, rfl⟩
        rw [hx0] at HFk hcx
        have hapd := hT.out.appendAny s (by omega) (by omega)
        have HA := hide (fun v w (h : IsDrive w v ⟨cs, [], -1, false⟩) => append_any v ⟨cs, [], -1, false⟩ ⟨3, 20, (span all : Nat), (9 + all.length : Nat)⟩ s w h (by have := hT.out.fits; unfold Tp.In; dsimp only; omega) (by simp) (by omega))
        obtain ⟨sv, hsv⟩ : ∃ z, bs s = z := ⟨_, rfl⟩
        rw [hsv] at HFk HA
        have HSV := hide hsv
        have hneL : (k : Int) < (n : Int) := by omega
        obtain ⟨SR, hSR⟩ : ∃ z, 9 + all.length = z := ⟨_, rfl⟩
        obtain ⟨SP, hSP⟩ : ∃ z, span all = z := ⟨_, rfl⟩
        rw [hSR, hSP] at hR HA hapd
        have HN := hide (And.intro hSR hSP)
        obtain ⟨g1, m1, q1, g2, m2, q2, fx, oy, hR2⟩ := hR.out.tail.tail.open
        have R := hide ((hR2.consS (hR.out.ownSAt 1 rfl)).consT (hR.out.ownTAt 0 rfl))
        clear hs hx0 hsv hR hR2 hSR hSP
        obtain ⟨p0, p1, p2, p3, p4, p5, p6, p7⟩ := (R.out.blkAt 2 rfl).four
        obtain ⟨r0, r1, r2, r3, r4, r5, r6, r7⟩ := (R.out.blkAt 4 rfl).four
        rcases hapd with ⟨cs', happ, hT'⟩ | ⟨E, happ, hE⟩
        · rw [happ] at HA
          obtain ⟨SP2, hSP2⟩ : ∃ z, span (all ++ [s]) = z := ⟨_, rfl⟩
          obtain ⟨SR2, hSR2⟩ : ∃ z, 9 + (all ++ [s]).length = z := ⟨_, rfl⟩
          rw [hSP2, hSR2] at HA
          have HN2 := hide (And.intro hSP2 hSR2)
          have hT2 := hide hT'
          clear happ hSP2 hSR2 hT'
          go_wp2_with fail
          refine (HFk.out _).mono ?_
          rintro e w4 ⟨rfl, hb4⟩
          have R4 := hide (R.out.next hb4)
          have hb5 := chain hbw hb4
          have hs4 := hb4.size
          clear p0 p1 p2 p3 p4 p5 p6 p7 r0 r1 r2 r3 r4 r5 r6 r7 R hb4 hcx
          obtain ⟨p0, p1, p2, p3, p4, p5, p6, p7⟩ := (R4.out.blkAt 2 rfl).four
          obtain ⟨r0, r1, r2, r3, r4, r5, r6, r7⟩ := (R4.out.blkAt 4 rfl).four
          go_wp2_with fail
          refine (HA.out _ _ (R4.out.drvAt 3 rfl)).mono ?_
          rintro e w6 ⟨v', rfl, hd6, hb6⟩
          obtain ⟨u1, k1, t1, u2, k2, t2, fu, oz, hve, _⟩ := id hd6
          subst hve
          unfold drvVal at hd6 ⊢
          unfold tpVal
          have hY : Below w6.heap.size w6 ((w6.alloc (.cells #[.slice u1 k1 t1, .slice u2 k2 t2, .int .i64 fu, .bool oz] 25)).alloc (.cells #[.int .i64 3, .int .i64 20, .int .i64 (SP2 : Nat), .int .i64 (SR2 : Nat)] 60)) := ((Below.refl _ _).alloc (Nat.le_refl _) _).alloc (by simp) _
          have R7 := (R4.out.next hb6).next hY
          have hb7 := chain (chain hb5 hb6) hY
          have hd7 := hd6.below hY
          obtain ⟨W8, hW8⟩ : ∃ W8, (w6.alloc (.cells #[.slice u1 k1 t1, .slice u2 k2 t2, .int .i64 fu, .bool oz] 25)).alloc (.cells #[.int .i64 3, .int .i64 20, .int .i64 (SP2 : Nat), .int .i64 (SR2 : Nat)] 60) = W8 := ⟨_, rfl⟩
          have N8 : Blk W8 w6.heap.size [.slice u1 k1 t1, .slice u2 k2 t2, .int .i64 fu, .bool oz] 25 := by rw [← hW8]; exact (Blk.new w6 _ _).alloc _
          have M8 : Blk W8 (w6.heap.size + 1) [.int .i64 3, .int .i64 20, .int .i64 (SP2 : Nat), .int .i64 (SR2 : Nat)] 60 := by
            rw [← hW8]
            have := Blk.new (w6.alloc (.cells #[.slice u1 k1 t1, .slice u2 k2 t2, .int .i64 fu, .bool oz] 25)) [.int .i64 3, .int .i64 20, .int .i64 (SP2 : Nat), .int .i64 (SR2 : Nat)] 60
            simpa using this
          rw [hW8] at R7 hb7 hd7
          have hs8 : W8.heap.size = w6.heap.size + 2 := by rw [← hW8]; simp
          have hs86 : B ≤ w6.heap.size := by have := hb6.size; omega
          have HT7 := R4.out.ownTAt 0 rfl
          have hbig : u8.ownBlock ≠ some (w6.heap.size + 1) := by have := hb6.size; exact own_size HT7 (by omega)
          have HBIG := hide hbig
          go_upto_region 13 with fail
          try rw [hW8]
          obtain ⟨b11, hb11⟩ : ∃ b, w6.heap.size = b := ⟨_, rfl⟩
          rw [hb11] at N8 M8 hs8 hs86 HBIG ⊢
          obtain ⟨b12, hb12⟩ : ∃ b, b11 + 1 = b := ⟨_, rfl⟩
          rw [hb12] at M8 HBIG ⊢
          have R8 := hide (((((R7.tail.tail.consB M8).consB N8).consD hd7 (hT2.out.still _ _)).consS (R7.ownSAt 1 rfl)).consT (R7.ownTAt 0 rfl))
          have h1112 : B ≤ b11 ∧ b11 < b12 ∧ b12 < W8.heap.size := by omega
          clear hW8 hb11 hb12 p0 p1 p2 p3 p4 p5 p6 p7 r0 r1 r2 r3 r4 r5 r6 r7 hY R4 R7 hb5 hs4 hd6 hb6 hd7 N8 M8 hs8 HT7 hbig
          obtain ⟨r0, r1, r2, r3, r4, r5, r6, r7⟩ := (R8.out.blkAt 7 rfl).four
          have hnb := Blk.new W8 [.int .i64 3, .int .i64 20, .int .i64 (SP : Nat), .int .i64 (SR : Nat)] 60
          have hal : Below W8.heap.size W8 (W8.alloc (.cells #[.int .i64 3, .int .i64 20, .int .i64 (SP : Nat), .int .i64 (SR : Nat)] 60)) := (Below.refl _ _).alloc (Nat.le_refl _) _
          have hl6 := (R8.out.blkAt 7 rfl).lt
          go_wp2_with (at_builtin; refine wpList_appT rfl (.tmp 54) (.tmp 56) rfl B u8 (tapesAt all 9) rfl ((R8.out.next hal).ownTAt 0 rfl) _ 1 ⟨3, 20, (SP : Nat), (SR : Nat)⟩ rfl (row_of_blk hnb) (by rw [tapesAt_length]; omega) (by simp; omega) ?_)
          intro v9 w9 hO9 hg9 hk9 ho9
          have hR8 := R8.out.next hal
          have R9 := hide ((hR8.tail.grow hg9 hk9 (fun b hb => ⟨own_own (hR8.ownTAt 0 rfl) (hR8.ownSAt 1 rfl) (by decide) b hb, trivial, apart_type (hR8.ownTAt 0 rfl) hb (hR8.blkAt 3 rfl) (by decide), (fun e => HBIG.out (e ▸ hb)), apart_base (hR8.ownTAt 0 rfl) hb (by omega), trivial, apart_base (hR8.ownTAt 0 rfl) hb (by omega), apart_type (hR8.ownTAt 0 rfl) hb (hR8.blkAt 8 rfl) (by decide), trivial⟩)).consT hO9)
          have hz9 := hg9.size
          have hb9 := grown_below (hb7.trans (hal.mono hb7.size)) (by have := hb7.size; simp; omega) hg9 (fun g hg => by have := ((hR8.ownTAt 0 rfl).1.lt g hg).1; have := HBL.out; omega)
          have hsz9 : W8.heap.size + 1 ≤ w9.heap.size := by simpa using hz9
          clear hR8 R8 hal hnb hg9 hk9 ho9 hz9 r0 r1 r2 r3 r4 r5 r6 r7 hl6 hO9
          have hnb := Blk.new w9 [.string sv] 9
          have hal : Below w9.heap.size w9 (w9.alloc (.cells #[.string sv] 9)) := (Below.refl _ _).alloc (Nat.le_refl _) _
          go_wp2_with (at_builtin; refine wpList_appS rfl (.tmp 58) (.tmp 60) rfl B u7 all rfl ((R9.out.next hal).ownSAt 1 rfl) _ 1 1 [s] rfl rfl (by show Row _ _ [Value.string (bs s)]; rw [HSV.out]; exact row_of_blk hnb) (by omega) (by simp; omega) ?_)
          intro v10 w10 hO10 hg10 hk10 ho10
          have hR9 := R9.out.next hal
          have R10 := hide (((hR9.tail.tail.consT (hR9.ownTAt 0 rfl)).grow hg10 hk10 (fun b hb => ⟨own_own (hR9.ownSAt 1 rfl) (hR9.ownTAt 0 rfl) (by decide) b hb, trivial, apart_type (hR9.ownSAt 1 rfl) hb (hR9.blkAt 3 rfl) (by decide), apart_type (hR9.ownSAt 1 rfl) hb (hR9.blkAt 4 rfl) (by decide), apart_base (hR9.ownSAt 1 rfl) hb (by omega), trivial, apart_base (hR9.ownSAt 1 rfl) hb (by omega), apart_type (hR9.ownSAt 1 rfl) hb (hR9.blkAt 8 rfl) (by decide), trivial⟩)).consS hO10)
          have hz10 := hg10.size
          have hb10 := grown_below (hb9.trans (hal.mono hb9.size)) (by have := hb9.size; simp; omega) hg10 (fun g hg => by have := ((hR9.ownSAt 1 rfl).1.lt g hg).1; have := HBL.out; omega)
          have hsz10 : w9.heap.size + 1 ≤ w10.heap.size := by simpa using hz10
          clear hR9 R9 hal hnb hg10 hk10 ho10 hz10 hO10 hb9 hb7
          go_upto_region 14 with fail
          obtain ⟨p0, p1, p2, p3, p4, p5, p6, p7⟩ := (R10.out.blkAt 3 rfl).four
          obtain ⟨r0, r1, r2, r3, r4, r5, r6, r7⟩ := (R10.out.blkAt 4 rfl).four
          obtain ⟨l0, l1, l2, l3, l4, l5⟩ := (R10.out.blkAt 8 rfl).three'
          have hl11 := (R10.out.blkAt 3 rfl).lt
          have hl12 := (R10.out.blkAt 4 rfl).lt
          have hlL := (R10.out.blkAt 8 rfl).lt
          have HCR := hide (fun v w h => HC.out v cs' w h (hT2.out.may (f := -1) (by omega)))
          go_region_held3 (fun w' => w'.cell? ⟨b11, 0, none⟩ = some (.slice u1 k1 t1) ∧ w'.cell? ⟨b11, 1, none⟩ = some (.slice u2 k2 t2) ∧ w'.cell? ⟨b11, 2, none⟩ = some (.int .i64 fu) ∧ w'.cell? ⟨b11, 3, none⟩ = some (.bool oz) ∧ w'.cell? ⟨b12, 0, none⟩ = some (.int .i64 3) ∧ w'.cell? ⟨b12, 1, none⟩ = some (.int .i64 20) ∧ w'.cell? ⟨b12, 2, none⟩ = some (.int .i64 (SP2 : Nat)) ∧ w'.cell? ⟨b12, 3, none⟩ = some (.int .i64 (SR2 : Nat)) ∧ w'.cell? ⟨bL, 0, none⟩ = some (.int .u64 (kept : Int)) ∧ w'.cell? ⟨bL, 1, none⟩ = some (.int .i64 tn) ∧ w'.cell? ⟨bL, 2, none⟩ = some (.int .i64 cut)) (go_keep) (
            (go_at_call 24
             refine (HCR.out _ _ ((R10.out.drvAt 2 rfl).below (Below.drewed (Below.refl _ _)))).mono ?_
             rintro e w11 ⟨v11, rfl, hd11, hb⟩
             have hbq := hide (undrew1 hb)
             have HD11 := hide hd11
             obtain ⟨y1, j1, z1, y2, j2, z2, fy, og, rfl, _⟩ := hd11
             unfold drvVal at HD11 ⊢
             have R11 := hide ((R10.out.next hbq.out).consD HD11.out (hT2.out.still _ _))
             have hbV := chain hb10 hbq.out
             have hs11 : w10.heap.size ≤ w11.heap.size := hbq.out.size
             obtain ⟨p0', p1', p2', p3', p4', p5', p6', p7'⟩ := (R11.out.blkAt 6 rfl).four
             obtain ⟨r0', r1', r2', r3', r4', r5', r6', r7'⟩ := (R11.out.blkAt 8 rfl).four
             obtain ⟨s0', s1', s2', s3', s4', s5', s6', s7'⟩ := (R11.out.blkAt 4 rfl).four
             obtain ⟨t0', t1', t2', t3', t4', t5', t6', t7'⟩ := (R11.out.blkAt 5 rfl).four
             obtain ⟨l0', l1', l2', l3', l4', l5'⟩ := (R11.out.blkAt 9 rfl).three'
             have hl5 := (R11.out.blkAt 6 rfl).lt
             have hl6 := (R11.out.blkAt 8 rfl).lt
             have hne1 : b5 ≠ b12 := by omega
             have hne2 : b12 ≠ b5 := by omega
             have hne3 : b5 ≠ b11 := by omega
             have hne4 : b11 ≠ b5 := by omega
             have hne5 : b5 ≠ b6 := by omega
             have hne6 : b6 ≠ b5 := by omega
             have hne7 : b5 ≠ bL := by omega
             have hne8 : bL ≠ b5 := by omega
             have hne9 : b6 ≠ b12 := by omega
             have hne10 : b12 ≠ b6 := by omega
             have hne11 : b6 ≠ b11 := by omega
             have hne12 : b11 ≠ b6 := by omega
             have hne13 : b6 ≠ bL := by omega
             have hne14 : bL ≠ b6 := by omega
             clear hb))
          clear p0 p1 p2 p3 p4 p5 p6 p7 r0 r1 r2 r3 r4 r5 r6 r7 l0 l1 l2 l3 l4 l5 p0' p1' p2' p3' p4' p5' p6' p7' r0' r1' r2' r3' r4' r5' r6' r7' s0' s1' s2' s3' s4' s5' s6' s7' t0' t1' t2' t3' t4' t5' t6' t7' l0' l1' l2' l3' l4' l5' R10 hb10
          go_wp2_with fail
          go_roundw
          case rel =>
            have RN := (((Have.nil _).consB (R11.out.blkAt 9 rfl)).consS (R11.out.ownSAt 1 rfl)).consT (R11.out.ownTAt 2 rfl)
            have RX := RN.store2 (t := ⟨3, 20, (SP2 : Nat), (SR2 : Nat)⟩) (R11.out.blkAt 6 rfl) ⟨rfl, rfl, rfl, rfl⟩ (R11.out.blkAt 8 rfl) ⟨rfl, rfl, rfl, rfl⟩ (R11.out.drvAt 0 rfl) (hT2.out.still _ _) ⟨own_base (R11.out.ownTAt 2 rfl) (by omega), own_base (R11.out.ownSAt 1 rfl) (by omega), hne8, trivial⟩ ⟨own_base (R11.out.ownTAt 2 rfl) (by omega), own_base (R11.out.ownSAt 1 rfl) (by omega), hne14, trivial⟩ hne6
            refine ⟨k + 1, all ++ [s], cs', by omega, by omega, by simp; omega, by go_num, hT2, hide ?_, by simp; omega, ?_⟩
            · rw [tapesAt_snoc, HN2.out.1, HN2.out.2, HN.out.1, HN.out.2]
              exact ((((Have.nil _).consB (RX.blkAt 4 rfl)).consB (RX.blkAt 0 rfl)).cons (RX.at 1 rfl)).consS (RX.ownSAt 3 rfl) |>.consT (RX.ownTAt 2 rfl)
            · have := HBL.out
              exact below4 (below4 hbV (by omega) _ _ _ _) (by omega) _ _ _ _
          case measure => simp [intOf]; omega
        · rw [happ] at HA
          clear happ
          go_wp2_with fail
          refine (HFk.out _).mono ?_
          rintro e w4 ⟨rfl, hb4⟩
          have R4 := hide (R.out.next hb4)
          have hb5 := chain hbw hb4
          have hs4 := hb4.size
          clear p0 p1 p2 p3 p4 p5 p6 p7 r0 r1 r2 r3 r4 r5 r6 r7 R hb4 hcx
          obtain ⟨p0, p1, p2, p3, p4, p5, p6, p7⟩ := (R4.out.blkAt 2 rfl).four
          obtain ⟨r0, r1, r2, r3, r4, r5, r6, r7⟩ := (R4.out.blkAt 4 rfl).four
          go_wp2_with fail
          refine (HA.out _ _ (R4.out.drvAt 3 rfl)).mono ?_
          rintro e w6 ⟨v', rfl, hd6, hb6⟩
          obtain ⟨u1, k1, t1, u2, k2, t2, fu, oz, rfl, _⟩ := hd6
          unfold drvVal tpVal Tp.zero
          have hY : Below w6.heap.size w6 ((w6.alloc (.cells #[.slice u1 k1 t1, .slice u2 k2 t2, .int .i64 fu, .bool oz] 25)).alloc (.cells #[.int .i64 0, .int .i64 0, .int .i64 0, .int .i64 0] 60)) := ((Below.refl _ _).alloc (Nat.le_refl _) _).alloc (by simp) _
          have R7 := hide ((R4.out.next hb6).next hY)
          have hb7 := chain (chain hb5 hb6) hY
          have hs7 : B ≤ ((w6.alloc (.cells #[.slice u1 k1 t1, .slice u2 k2 t2, .int .i64 fu, .bool oz] 25)).alloc (.cells #[.int .i64 0, .int .i64 0, .int .i64 0, .int .i64 0] 60)).heap.size := by
            have := hY.size
            have := hb6.size
            omega
          clear p0 p1 p2 p3 p4 p5 p6 p7 r0 r1 r2 r3 r4 r5 r6 r7 R4 hb5 hb6 hY hs4
          have RX := hide (((((Have.nil _).consB (R7.out.blkAt 5 rfl)).consB (R7.out.blkAt 4 rfl)).consX (R7.out.blkAt 2 rfl) (R7.out.drvAt 3 rfl) (hT.out.still _ _)).consS (R7.out.ownSAt 1 rfl) |>.consT (R7.out.ownTAt 0 rfl))
          clear R7
          rcases hE with rfl | rfl
          · go_wp2_with fail
            go_roundw
            case rel => exact ⟨k + 1, all, cs, by omega, by omega, by omega, by go_num, hT, (by rw [HN.out.1, HN.out.2]; exact RX), hs7, hb7⟩
            case measure => simp [intOf]; omega
          · go_wp2_with fail
            go_roundw
            case rel => exact ⟨k + 1, all, cs, by omega, by omega, by omega, by go_num, hT, (by rw [HN.out.1, HN.out.2]; exact RX), hs7, hb7⟩
            case measure => simp [intOf]; omega
      · by_cases hk1 : k < n
        · have hk2 : ¬ k < 12 := fun h => hkk ⟨hk1, h⟩
          have hneL : (k : Int) < (n : Int) := by omega
          clear hkk
          go_wp2_with fail
          go_meet
          exact ⟨all, cs, by omega, hT, hR, hsz, hbw⟩
        · have hneL : ¬ (k : Int) < (n : Int) := by omega
          clear hkk
          go_wp2_with fail
          go_meet
          exact ⟨all, cs, by omega, hT, hR, hsz, hbw⟩
  case rest =>
    obtain ⟨all, cs, hal, hT, hR, hsz, hbw⟩ := hcut
    clear R3 hb3 hB2 HF HS HC HO HX HNC hn1
    obtain ⟨SR, hSR⟩ : ∃ z, 9 + all.length = z := ⟨_, rfl⟩
    obtain ⟨SP, hSP⟩ : ∃ z, span all = z := ⟨_, rfl⟩
    rw [hSR, hSP] at hR
    have HN := hide (And.intro hSR hSP)
    obtain ⟨g1, m1, q1, g2, m2, q2, fx, oy, hR2⟩ := hR.out.tail.tail.open
    have R := hide ((hR2.consS (hR.out.ownSAt 1 rfl)).consT (hR.out.ownTAt 0 rfl))
    clear hR hR2 hSR hSP
    have h8 := (R.out.ownTAt 0 rfl).form
    rw [tapesAt_length] at h8
    obtain ⟨a8, c8, rfl, hc8, hm8, _⟩ := h8
    obtain ⟨a7, c7, rfl, hc7, hm7, _⟩ := (R.out.ownSAt 1 rfl).form
    go_wp2_with fail
    go_loopw [14] (fun s14 wr => ∃ (k : Nat), k ≤ all.length ∧ s14 = .int .i64 k ∧ Hid (Have wr [.ownT B (.slice a8 all.length c8) (tapesAt all 9), .ownS B (.slice a7 all.length c7) all, .blk b5 [.slice g1 m1 q1, .slice g2 m2 q2, .int .i64 fx, .bool oy] 25, .drv (.agg #[.slice g1 m1 q1, .slice g2 m2 q2, .int .i64 fx, .bool oy]) ⟨cs, [], -1, false⟩, .blk b6 (tpCells ⟨3, 20, (SP : Nat), (SR : Nat)⟩) 60, .blk bL [.int .u64 kept, .int .i64 tn, .int .i64 cut] 28]) ∧ B ≤ wr.heap.size ∧ Below w.heap.size w wr) (fun s14 _ => all.length - (intOf s14).toNat)
    case atStart => exact ⟨0, Nat.zero_le _, rfl, R, hsz, hbw⟩
    case round =>
      obtain ⟨k, hk, rfl, hR, hsz2, hbw2⟩ := hrel
      clear R hsz hbw
      obtain ⟨p0, p1, p2, p3, p4, p5, p6, p7⟩ := (hR.out.blkAt 2 rfl).four
      obtain ⟨r0, r1, r2, r3, r4, r5, r6, r7⟩ := (hR.out.blkAt 4 rfl).four
      by_cases hkl : k < all.length
      · have hscan := hT.out.scan (f := -1) (by omega) k (by omega) (by omega) (by omega)
        obtain ⟨bt, ot, hbt, hix, ht0, ht1, ht2, ht3⟩ := tapes_at (own_row (hR.out.ownTAt 0 rfl).1) all.length c8 k (by rw [tapesAt_length]) hkl
        rw [tapesAt_getD all 9 k hkl] at ht0 ht1 ht2 ht3
        have HSC := hide (fun v w (h : IsDrive w v ⟨cs, [], -1, false⟩) => scan_any v ⟨cs, [], -1, false⟩ ⟨3, 20, (span (all.take k) : Nat), (9 + k : Nat)⟩ w h (by have := hT.out.fits; have := span_take_le all k; unfold Tp.In; dsimp only; omega))
        rw [hscan, HN.out.1, HN.out.2] at HSC
        obtain ⟨SK, hSK⟩ : ∃ z, span (all.take k) = z := ⟨_, rfl⟩
        obtain ⟨NK, hNK⟩ : ∃ z, 9 + k = z := ⟨_, rfl⟩
        rw [hSK, hNK] at HSC
        rw [hSK] at ht2
        rw [hNK] at ht3
        obtain ⟨gl, hgl⟩ : ∃ z, all.drop k = z := ⟨_, rfl⟩
        rw [hgl] at HSC
        have HGL := hide hgl
        have hkl2 : (k : Int) < (all.length : Int) := by omega
        have hall2 : all.length ≤ 9223372036854775807 := by omega
        have hl5 := (hR.out.blkAt 2 rfl).lt
        clear hscan hSK hNK hgl
        go_upto_region 18 with fail
        go_cut [15, 16, 17] (fun s15 s16 s17 wx => ∃ (ao' : Option Addr) (c' b16 : Nat), s15 = .slice ao' gl.length c' ∧ s16 = .pointer (some ⟨b16, 0, none⟩) ∧ s17 = .int .i64 0 ∧ gl.length ≤ c' ∧ c' ≤ 9223372036854775807 ∧ Hid (Strs wx ao' gl.length gl) ∧ Hid (Have wx [.blk b16 (tpCells ⟨3, 20, (SP : Nat), (SR : Nat)⟩) 60, .ownT B (.slice a8 all.length c8) (tapesAt all 9), .ownS B (.slice a7 all.length c7) all, .blk b5 [.slice g1 m1 q1, .slice g2 m2 q2, .int .i64 fx, .bool oy] 25, .drv (.agg #[.slice g1 m1 q1, .slice g2 m2 q2, .int .i64 fx, .bool oy]) ⟨cs, [], -1, false⟩, .blk b6 (tpCells ⟨3, 20, (SP : Nat), (SR : Nat)⟩) 60, .blk bL [.int .u64 kept, .int .i64 tn, .int .i64 cut] 28]) ∧ B ≤ wx.heap.size ∧ Below w.heap.size w wx)
        case first =>
          go_region_held3 (fun w' => w'.cell? ⟨b5, 0, none⟩ = some (.slice g1 m1 q1) ∧ w'.cell? ⟨b5, 1, none⟩ = some (.slice g2 m2 q2) ∧ w'.cell? ⟨b5, 2, none⟩ = some (.int .i64 fx) ∧ w'.cell? ⟨b5, 3, none⟩ = some (.bool oy) ∧ w'.cell? ⟨bt, ot, none⟩ = some (.int .i64 3) ∧ w'.cell? ⟨bt, ot + 1, none⟩ = some (.int .i64 20) ∧ w'.cell? ⟨bt, ot + 2, none⟩ = some (.int .i64 (SK : Nat)) ∧ w'.cell? ⟨bt, ot + 3, none⟩ = some (.int .i64 (NK : Nat))) (go_keep) (
            (go_at_call 47
             refine (HSC.out _ _ ((hR.out.drvAt 3 rfl).below (by first | exact Below.drewed (Below.refl _ _) | exact (Below.drewed (Below.refl _ _)).alloc (Nat.le_refl _) _))).mono ?_
             rintro e w3 ⟨ao3, c3, rfl, hst3, hc31, hc32, hb⟩
             try unfold tpVal
             have hst3' := hide hst3
             (first
               | (have hbq : Hid (Below wr.heap.size wr w3) := hide (undrew1 hb)
                  obtain ⟨hcc, hff⟩ := bcell hbq.out
                  clear hb)
               | (have hbq : Hid (Below wr.heap.size wr w3) := hide (undrew_alloc hb)
                  obtain ⟨hcc, hff⟩ := bcell hbq.out
                  have NB : Blk w3 wr.heap.size [.int .i64 0, .int .i64 0, .int .i64 0, .int .i64 0] 60 := Blk.next (Blk.new wr.drew _ _) hb
                  have hnl := NB.lt
                  have hq1 : bt ≠ wr.heap.size := by omega
                  have hq2 : wr.heap.size ≠ bt := by omega
                  have hq3 : b5 ≠ wr.heap.size := by omega
                  have hq4 : wr.heap.size ≠ b5 := by omega
                  obtain ⟨n0', n1', n2', n3', n4', n5', n6', n7'⟩ := NB.four
                  clear hb))
             clear hst3))
          · have hR3 := hR.out.next hbq.out
            have hal := (Below.refl w3.heap.size w3).alloc (Nat.le_refl _) (.cells #[.int .i64 3, .int .i64 20, .int .i64 (SP : Nat), .int .i64 (SR : Nat)] 60)
            have hs3 := hbq.out.size
            go_wp2_with fail
            go_meet
            exact ⟨ao3, c3, w3.heap.size, rfl, rfl, rfl, hc31, hc32, hide (hst3'.out.below hal), hide ((hR3.next hal).consB (Blk.new _ _ _)), by simp; omega, chain (chain hbw2 hbq.out) hal⟩
          · have hR3 := hR.out.next hbq.out
            have hs3 := hbq.out.size
            have hl6 := (hR.out.blkAt 4 rfl).lt
            have hlL := (hR.out.blkAt 5 rfl).lt
            have RX := hR3.storeT (t := ⟨3, 20, (SP : Nat), (SR : Nat)⟩) NB ⟨rfl, rfl, rfl, rfl⟩ ⟨own_size (hR.out.ownTAt 0 rfl) (Nat.le_refl _), own_size (hR.out.ownSAt 1 rfl) (Nat.le_refl _), hq3, trivial, Nat.ne_of_lt hl6, Nat.ne_of_lt hlL, trivial⟩
            have HBO := HBL.out
            go_wp2_with fail
            go_meet
            exact ⟨ao3, c3, wr.heap.size, rfl, rfl, rfl, hc31, hc32, hide (hst3'.out.set4t NB _ _ _ _), hide RX, by simp; omega, below4 (chain hbw2 hbq.out) (by omega) _ _ _ _⟩
        case rest =>
          obtain ⟨wx, rfl⟩ : ∃ wx, wx = wc := ⟨_, rfl⟩
          clear hR hbw2 hsz2 p0 p1 p2 p3 p4 p5 p6 p7 r0 r1 r2 r3 r4 r5 r6 r7 ht0 ht1 ht2 ht3 hix
          obtain ⟨ao3, c3, b16, rfl, rfl, rfl, hc31, hc32, hst, hR, hsz2, hbw2⟩ := hcut
          obtain ⟨g7, rfl⟩ : ∃ g, a7 = some ⟨g, 0, none⟩ := by
            rcases (hR.out.ownSAt 2 rfl).1.2 with ⟨_, h⟩ | ⟨g, cap, cur, h, _⟩
            · omega
            · injection h with h
              exact ⟨g, h⟩
          have hck : ¬ c7 = k := by omega
          have hck' : ¬ k = c7 := by omega
          have hSt : Strs wx (some ⟨g7, k, none⟩) (all.length - k) gl := by
            have h1 := row_part (xs := all) ⟨rfl, own_row (hR.out.ownSAt 2 rfl).1⟩ k (all.length - k) c7 hc7 (by omega)
            rw [if_neg hck, Nat.zero_add, List.take_of_length_le (by rw [List.length_drop]; omega), HGL.out] at h1
            exact ⟨by rw [← HGL.out, List.length_drop], h1⟩
          have HSM := hide (ref2same_any ao3 (some ⟨g7, k, none⟩) gl.length c3 (all.length - k) (c7 - k) gl gl wx hst.out hSt (by omega) (by omega))
          rw [decide_eq_true rfl] at HSM
          clear hSt
          go_wp2_with fail
          refine HSM.out.mono ?_
          rintro e w4 ⟨rfl, hb4⟩
          have R4 := hide (hR.out.next hb4)
          have hb5 := chain hbw2 hb4
          have hs4 := hb4.size
          obtain ⟨p0, p1, p2, p3, p4, p5, p6, p7⟩ := (R4.out.blkAt 0 rfl).four
          obtain ⟨r0, r1, r2, r3, r4, r5, r6, r7⟩ := (R4.out.blkAt 5 rfl).four
          clear hb4 hR
          go_wp2_with fail
          go_roundw
          case rel => exact ⟨k + 1, by omega, by go_num, hide R4.out.tail, by omega, hb5⟩
          case measure => simp [intOf]; omega
      · obtain rfl : k = all.length := by omega
        have hscan := hT.out.scan (f := -1) (by omega) all.length (by omega) (by omega) (by omega)
        rw [List.take_length, List.drop_length] at hscan
        have HSC := hide (fun v w (h : IsDrive w v ⟨cs, [], -1, false⟩) => scan_any v ⟨cs, [], -1, false⟩ ⟨3, 20, (span all : Nat), (9 + all.length : Nat)⟩ w h (by have := hT.out.fits; unfold Tp.In; dsimp only; omega))
        rw [hscan, HN.out.1, HN.out.2] at HSC
        have hkl2 : ¬ (all.length : Int) < (all.length : Int) := by omega
        clear hscan
        go_wp2_with fail
        refine (HSC.out _ _ (hR.out.drvAt 3 rfl)).mono ?_
        rintro e w3 ⟨ao3, c3, rfl, hst3, hc31, hc32, hb⟩
        unfold tpVal
        have R4 := hide (hR.out.next hb)
        have hb5 := chain hbw2 hb
        have hl6 := (R4.out.blkAt 4 rfl).lt
        obtain ⟨r0, r1, r2, r3, r4, r5, r6, r7⟩ := (R4.out.blkAt 4 rfl).four
        have hal := (Below.refl w3.heap.size w3).alloc (Nat.le_refl _) (.cells #[.int .i64 3, .int .i64 20, .int .i64 (SP : Nat), .int .i64 (SR : Nat)] 60)
        have hb6 := chain hb5 hal
        clear hb hR hst3 hal p0 p1 p2 p3 p4 p5 p6 p7
        go_wp2_with fail
        refine (HAW.out _).mono ?_
        rintro e w5 ⟨rfl, hb7⟩
        have hb8 := chain hb6 hb7
        clear hb7 hb6 hb5
        go_wp2_with fail
        go_ret
        exact ⟨rfl, hb8⟩

theorem back_frame {w : World} (ao : Option Addr) (n c : Nat) (xs : List (List UInt8)) (h : Strs w ao n xs) (h1 : n ≤ c) (h2 : c ≤ 9223372036854775807) (hx : ∀ y ∈ xs, y.length ≤ 9223372036854775807) (kept : Nat) (tn cut : Int) (hk : kept < 18446744073709551616) (ht : -9223372036854775808 ≤ tn ∧ tn < 9223372036854775808) (hcut : -9223372036854775808 ≤ cut ∧ cut < 9223372036854775808) (_ : World) :
    Calls Try.prog 14 #[.slice ao n c, .agg #[.int .u64 kept, .int .i64 tn, .int .i64 cut]] w fun e w' => e = .returned (.bool true) ∧ Below w.heap.size w w' := back_walk ao n c xs kept tn cut w h ⟨h1, h2⟩ hx hk ht hcut

end Go.Proofs.Ytkapdmhjhbmdjaa
