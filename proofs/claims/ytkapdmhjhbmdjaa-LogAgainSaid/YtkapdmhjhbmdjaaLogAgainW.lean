/-
  The walk through the statement LogAgain: it returns true.
-/
import Derived.Test.YtkapdmhjhbmdjaaBun
import Derived.Test.YtkapdmhjhbmdjaaOpenMore
import Derived.Test.YtkapdmhjhbmdjaaRefLay
import Derived.Deep.CutBlock
namespace Go.Proofs.Ytkapdmhjhbmdjaa
open Go.RowKit

def forged : List UInt8 := [102, 111, 114, 103, 101, 100]

set_option maxRecDepth 100000 in
set_option maxHeartbeats 12800000 in
theorem again_walk (ao : Option Addr) (n c : Nat) (xs : List (List UInt8)) (bo : Option Addr) (n2 c2 : Nat) (ys : List (List UInt8)) (ko : Option Addr) (n3 c3 : Nat) (ks : List UInt8) (w : World) (h : Strs w ao n xs) (hnc : n ≤ c ∧ c ≤ 9223372036854775807) (hx : ∀ y ∈ xs, y.length ≤ 9223372036854775807)
    (hys : Strs w bo n2 ys) (hnc2 : n2 ≤ c2 ∧ c2 ≤ 9223372036854775807) (hy : ∀ y ∈ ys, y.length ≤ 9223372036854775807) (hks : Octs w ko n3 ks) (hnc3 : n3 ≤ c3 ∧ c3 ≤ 9223372036854775807) :
    Calls Try.prog 11 #[.slice ao n c, .slice bo n2 c2, .slice ko n3 c3] w fun e w' => e = .returned (.bool true) ∧ Below w.heap.size w w' := by
  have HO := hide h
  have HO2 := hide hys
  have HKS := hide hks
  have hn1 : n ≤ 9223372036854775807 := by omega
  have hn2 : n2 ≤ 9223372036854775807 := by omega
  have hn3 : n3 ≤ 9223372036854775807 := by omega
  have HS : Hid (∀ w, Calls Try.prog 50 #[.int .i64 24] w fun e w' => ∃ v, e = .returned v ∧ IsDrive w' v ⟨List.replicate 24 blank, [], -1, false⟩ ∧ Below w.heap.size w w') := hide (fun w => by
    have h := some_any 24 w
    rw [new_24] at h
    exact h)
  have HF : Hid (∀ k, k < n → ∀ w, Calls Try.prog 39 #[.string (bs (xs.getD k []))] w fun e w' => e = .returned (.string (bs (fewOf (xs.getD k [])))) ∧ Below w.heap.size w w') := hide (fun k hk w => few18_any (xs.getD k []) w (by
    have hl := h.len
    have e : xs.getD k [] ∈ xs := by
      rw [List.getD_eq_getElem?_getD, List.getElem?_eq_getElem (by omega)]
      exact List.getElem_mem _
    have := hx _ e
    omega))
  have HF2 : Hid (∀ k, k < n2 → ∀ w, Calls Try.prog 39 #[.string (bs (ys.getD k []))] w fun e w' => e = .returned (.string (bs (fewOf (ys.getD k [])))) ∧ Below w.heap.size w w') := hide (fun k hk w => few18_any (ys.getD k []) w (by
    have hl := hys.len
    have e : ys.getD k [] ∈ ys := by
      rw [List.getD_eq_getElem?_getD, List.getElem?_eq_getElem (by omega)]
      exact List.getElem_mem _
    have := hy _ e
    omega))
  have HAW := hide (fun w => awake18_any w)
  have HLY : Hid (∀ (sr : Nat), sr ≤ 1000 → ∀ w, Calls Try.prog 51 #[.int .i64 (sr : Int), .string ⟨#[102, 111, 114, 103, 101, 100]⟩] w fun e w' => e = .returned (.string (bs (lay forged sr))) ∧ Below w.heap.size w w') := hide (fun sr hs w => reflay_any forged sr w (by decide) (by omega))
  clear h hx hnc hys hy hks hnc2 hnc3
  go_enter Try.func11, Try.ntmps11
  go_wp2_with fail
  refine (HS.out _).mono ?_
  rintro e w1 ⟨v1, rfl, hd1, hb1⟩
  have HD1 := hide hd1
  obtain ⟨a1, i1, d1, a2, i2, d2, f1, o1, rfl, _⟩ := hd1
  unfold drvVal at HD1 ⊢
  obtain ⟨K3, T8⟩ := two_kinds w1 [.slice a1 i1 d1, .slice a2 i2 d2, .int .i64 f1, .bool o1] [.int .i64 3, .int .i64 20, .int .i64 0, .int .i64 1] 25 60
  have hal : Below w1.heap.size w1 ((w1.alloc (.cells #[.slice a1 i1 d1, .slice a2 i2 d2, .int .i64 f1, .bool o1] 25)).alloc (.cells #[.int .i64 3, .int .i64 20, .int .i64 0, .int .i64 1] 60)) := ((Below.refl _ _).alloc (Nat.le_refl _) _).alloc (by simp) _
  obtain ⟨W3, hW3⟩ : ∃ W3, ((w1.alloc (.cells #[.slice a1 i1 d1, .slice a2 i2 d2, .int .i64 f1, .bool o1] 25)).alloc (.cells #[.int .i64 3, .int .i64 20, .int .i64 0, .int .i64 1] 60)) = W3 := ⟨_, rfl⟩
  rw [hW3] at K3 T8 hal
  have HD3 := hide (HD1.out.below hal)
  have hb3 := chain hb1 hal
  have hs3 : W3.heap.size = w1.heap.size + 2 := by rw [← hW3]; simp
  have hw7 := hb1.size
  go_upto_block 0 with fail
  try rw [hW3]
  obtain ⟨b7, hb7⟩ : ∃ b, w1.heap.size = b := ⟨_, rfl⟩
  rw [hb7] at K3 T8 hs3 hw7 ⊢
  obtain ⟨b8, hb8⟩ : ∃ b, b7 + 1 = b := ⟨_, rfl⟩
  rw [hb8] at T8 ⊢
  have h78 : b7 < b8 := by omega
  obtain ⟨B, hBB⟩ : ∃ B, W3.heap.size = B := ⟨_, rfl⟩
  have hB : b8 < B := by omega
  have hB2 : B ≤ W3.heap.size := by omega
  have R3 : Hid (Have W3 [.box b7 ⟨List.replicate 24 blank, [], -1, false⟩, .blk b8 (tpCells ⟨3, 20, ((span [] : Nat) : Int), ((1 + ([] : List (List UInt8)).length : Nat) : Int)⟩) 60]) :=
    hide (((Have.nil _).consB T8).consX K3 HD3.out ((OnTape.fresh 1 1 (Nat.le_refl _)).still _ _))
  clear hW3 hb7 hb8 hBB hs3 K3 T8 HD3 HD1 hal hb1
  go_cut [] (fun wx => ∃ (all : List (List UInt8)) (cs : List (List UInt8)), all.length ≤ 10 ∧ Hid (OnTape cs 1 1 all) ∧ Hid (Have wx [.box b7 ⟨cs, [], -1, false⟩, .blk b8 (tpCells ⟨3, 20, ((span all : Nat) : Int), ((1 + all.length : Nat) : Int)⟩) 60]) ∧ B ≤ wx.heap.size ∧ Below w.heap.size w wx)
  case first =>
    go_wp2_with fail
    go_loopw [9] (fun s9 wr => ∃ (k : Nat) (all : List (List UInt8)) (cs : List (List UInt8)), k ≤ n ∧ k ≤ 10 ∧ all.length ≤ k ∧ s9 = .int .i64 k ∧ Hid (OnTape cs 1 1 all) ∧ Hid (Have wr [.box b7 ⟨cs, [], -1, false⟩, .blk b8 (tpCells ⟨3, 20, ((span all : Nat) : Int), ((1 + all.length : Nat) : Int)⟩) 60]) ∧ B ≤ wr.heap.size ∧ Below w.heap.size w wr) (fun s9 _ => 10 - (intOf s9).toNat)
    case atStart => exact ⟨0, [], _, Nat.zero_le _, by omega, by simp, rfl, hide (OnTape.fresh 1 1 (Nat.le_refl _)), R3, hB2, hb3⟩
    case round =>
      obtain ⟨k, all, cs, hkn, hk14, hak, rfl, hT, hR, hsz, hbw⟩ := hrel
      clear R3 hb3 hB2
      by_cases hkk : k < n ∧ k < 10
      · obtain ⟨hk1, hk2⟩ := hkk
        obtain ⟨bx, ox, hlx, hix, hcx⟩ := (HO.out.below hbw).at c k hk1
        have HFk := hide (HF.out k hk1)
        have hsl := fewOf_length (xs.getD k [])
        obtain ⟨s, hs⟩ : ∃ s, fewOf (xs.getD k []) = s := ⟨_, rfl⟩
        rw [hs] at HFk hsl
        obtain ⟨x0, hx0⟩ : ∃ z, bs (xs.getD k []) = z := ⟨_, rfl⟩
        rw [hx0] at HFk hcx
        obtain ⟨sv, hsv⟩ : ∃ z, bs s = z := ⟨_, rfl⟩
        have hss : sv.size ≤ 4001 := by rw [← hsv]; exact hsl
        rw [hsv] at HFk
        have hneL : (k : Int) < (n : Int) := by omega
        clear hs hx0 hsv
        go_wp2_with fail
        refine (HFk.out _).mono ?_
        rintro e w4 ⟨rfl, hb4⟩
        have R4 := hide (hR.out.next hb4)
        have hb5 := chain hbw hb4
        have hs4 := hb4.size
        clear hR hb4 hcx HFk hix
        obtain ⟨SR, hSR⟩ : ∃ z, 1 + all.length = z := ⟨_, rfl⟩
        obtain ⟨SP, hSP⟩ : ∃ z, span all = z := ⟨_, rfl⟩
        have hsr : SR ≤ 11 := by omega
        rw [hSR, hSP] at R4
        have HN := hide (And.intro hSR hSP)
        clear hSR hSP
        go_upto_block 2 with fail
        go_cut [10] (fun s10 wx => ∃ (tv : ByteArray), s10 = .string tv ∧ tv.size ≤ 5000 ∧ Hid (Have wx [.box b7 ⟨cs, [], -1, false⟩, .blk b8 (tpCells ⟨3, 20, (SP : Nat), (SR : Nat)⟩) 60]) ∧ B ≤ wx.heap.size ∧ Below w.heap.size w wx)
        case first =>
          obtain ⟨wo, rfl⟩ : ∃ wo : World, wo = w4 := ⟨_, rfl⟩
          by_cases hk3 : k < n3
          · have hneK : (k : Int) < (n3 : Int) := by omega
            obtain ⟨z, hzz⟩ : ∃ z, (ks.getD k 0).toNat = z := ⟨_, rfl⟩
            obtain ⟨m, hm⟩ : ∃ m, z % 3 = m := ⟨_, rfl⟩
            have hm2 : m ≤ 2 := by omega
            have hzm : ((z : Int) % 3) = (m : Int) := by omega
            have hz : z < 256 := by rw [← hzz]; exact UInt8.toNat_lt _
            have HZ := hide hzz
            clear hzz hm
            go_wp2_with fail
            go_loopw [10, 11] (fun s10 s11 wq => ∃ (j : Nat) (tv : ByteArray), j ≤ m ∧ s11 = .int .i64 (j : Int) ∧ s10 = .string tv ∧ tv.size ≤ 4001 + 64 * j ∧ Hid (Have wq [.box b7 ⟨cs, [], -1, false⟩, .blk b8 (tpCells ⟨3, 20, (SP : Nat), (SR : Nat)⟩) 60]) ∧ B ≤ wq.heap.size ∧ Below w.heap.size w wq) (fun _ s11 _ => m - (intOf s11).toNat)
            case atStart => exact ⟨0, sv, Nat.zero_le _, rfl, rfl, by omega, R4, by omega, hb5⟩
            case round =>
              obtain ⟨j, tv, hj, rfl, rfl, htv, hR, hszq, hbq⟩ := hrel
              clear R4 hb5 hs4
              obtain ⟨kb, ko', hkb, hix, hkc⟩ := (HKS.out.below hbq).at c3 k hk3
              rw [HZ.out] at hkc
              obtain ⟨r0, r1, r2, r3, r4, r5, r6, r7⟩ := (hR.out.blkAt 1 rfl).four
              by_cases hjm : j < m
              · have hHL := hide (HLY.out (SR + j) (by omega))
                obtain ⟨zv, hzv⟩ : ∃ zv, bs (lay forged (SR + j)) = zv := ⟨_, rfl⟩
                have hzs : zv.size = 64 := by rw [← hzv, bs_size, lay_length]; rfl
                rw [hzv] at hHL
                clear hzv
                have hcast : ((SR + j : Nat) : Int) = (SR : Int) + (j : Int) := by omega
                rw [hcast] at hHL
                clear hcast
                go_wp2_with fail
                refine (hHL.out _).mono ?_
                rintro e w6 ⟨rfl, hb6⟩
                have R6 := hide (hR.out.next hb6)
                have hb7' := chain hbq hb6
                have hs6 := hb6.size
                clear hR hb6 hkc r0 r1 r2 r3 r4 r5 r6 r7
                go_wp2_with fail
                go_roundw
                case rel => exact ⟨j + 1, _, by omega, by go_num, rfl, by rw [ByteArray.size_append]; omega, R6, by omega, hb7'⟩
                case measure => simp [intOf]; omega
              · go_wp2_with fail
                go_meet
                exact ⟨tv, rfl, by omega, hR, hszq, hbq⟩
          · have hneK : ¬ (k : Int) < (n3 : Int) := by omega
            go_wp2_with fail
            go_loopw [10, 11] (fun s10 s11 wq => s10 = .string sv ∧ s11 = .int .i64 0 ∧ Hid (Have wq [.box b7 ⟨cs, [], -1, false⟩, .blk b8 (tpCells ⟨3, 20, (SP : Nat), (SR : Nat)⟩) 60]) ∧ B ≤ wq.heap.size ∧ Below w.heap.size w wq) (fun _ _ _ => 0)
            case atStart => exact ⟨rfl, rfl, R4, by omega, hb5⟩
            case round =>
              obtain ⟨rfl, rfl, hR, hszq, hbq⟩ := hrel
              go_wp2_with fail
              go_meet
              exact ⟨sv, rfl, by omega, hR, hszq, hbq⟩
        case rest =>
          obtain ⟨wx, rfl⟩ : ∃ wx, wx = wc := ⟨_, rfl⟩
          clear R4 hb5 hs4 hss hsl
          obtain ⟨tv, rfl, htv, hR, hsz5, hb5⟩ := hcut
          obtain ⟨s, hs⟩ : ∃ s, tv.data.toList = s := ⟨_, rfl⟩
          have hsv : bs s = tv := by rw [← hs]; rfl
          have hsl : s.length ≤ 5000 := by rw [← hs]; simpa using htv
          have hapd := hT.out.appendAny s (by omega) (by have := HN.out.1; omega)
          have HA := hide (fun v w (h : IsDrive w v ⟨cs, [], -1, false⟩) => append_any v ⟨cs, [], -1, false⟩ ⟨3, 20, (span all : Nat), (1 + all.length : Nat)⟩ s w h (by have := hT.out.fits; have := HN.out.1; unfold Tp.In; dsimp only; omega) (by simp) (by omega))
          rw [hsv, HN.out.1, HN.out.2] at HA
          rw [HN.out.1, HN.out.2] at hapd
          obtain ⟨g1, m1, q1, g2, m2, q2, fx, oy, hR2⟩ := hR.out.open
          have R := hide hR2
          clear hR hR2 hs hsv
          obtain ⟨p0, p1, p2, p3, p4, p5, p6, p7⟩ := (R.out.blkAt 0 rfl).four
          obtain ⟨r0, r1, r2, r3, r4, r5, r6, r7⟩ := (R.out.blkAt 2 rfl).four
          rcases hapd with ⟨cs', happ, hT'⟩ | ⟨E, happ, hE⟩
          · rw [happ] at HA
            obtain ⟨SP2, hSP2⟩ : ∃ z, span (all ++ [s]) = z := ⟨_, rfl⟩
            obtain ⟨SR2, hSR2⟩ : ∃ z, 1 + (all ++ [s]).length = z := ⟨_, rfl⟩
            rw [hSP2, hSR2] at HA
            have HN2 := hide (And.intro hSP2 hSR2)
            have hT2 := hide hT'
            clear happ hSP2 hSR2 hT'
            go_wp2_with fail
            refine (HA.out _ _ (R.out.drvAt 1 rfl)).mono ?_
            rintro e w6 ⟨v', rfl, hd6, hb6⟩
            obtain ⟨u1, k1, t1, u2, k2, t2, fu, oz, hve, _⟩ := id hd6
            subst hve
            unfold drvVal at hd6 ⊢
            unfold tpVal
            obtain ⟨N8, M8⟩ := two_kinds w6 [.slice u1 k1 t1, .slice u2 k2 t2, .int .i64 fu, .bool oz] [.int .i64 3, .int .i64 20, .int .i64 (SP2 : Nat), .int .i64 (SR2 : Nat)] 25 60
            have hY : Below w6.heap.size w6 ((w6.alloc (.cells #[.slice u1 k1 t1, .slice u2 k2 t2, .int .i64 fu, .bool oz] 25)).alloc (.cells #[.int .i64 3, .int .i64 20, .int .i64 (SP2 : Nat), .int .i64 (SR2 : Nat)] 60)) := ((Below.refl _ _).alloc (Nat.le_refl _) _).alloc (by simp) _
            obtain ⟨W8, hW8⟩ : ∃ W8, (w6.alloc (.cells #[.slice u1 k1 t1, .slice u2 k2 t2, .int .i64 fu, .bool oz] 25)).alloc (.cells #[.int .i64 3, .int .i64 20, .int .i64 (SP2 : Nat), .int .i64 (SR2 : Nat)] 60) = W8 := ⟨_, rfl⟩
            have hs8 : W8.heap.size = w6.heap.size + 2 := by rw [← hW8]; simp
            rw [hW8] at N8 M8 hY
            have R8 := hide (((((R.out.next hb6).next hY).consB M8).consB N8).consD (hd6.below hY) (hT2.out.still _ _))
            have hb8 := chain (chain hb5 hb6) hY
            have hs86 : B ≤ w6.heap.size := by have := hb6.size; omega
            have HW8 := hide hW8
            clear hW8 N8 M8 hY R hb5 hd6 hb6
            go_upto_region 13 with fail
            rw [HW8.out]
            obtain ⟨b12, hb12⟩ : ∃ b, w6.heap.size = b := ⟨_, rfl⟩
            rw [hb12] at R8 hs8 hs86 ⊢
            obtain ⟨b13, hb13⟩ : ∃ b, b12 + 1 = b := ⟨_, rfl⟩
            rw [hb13] at R8 ⊢
            have h1213 : B ≤ b12 ∧ b12 < b13 ∧ b13 < W8.heap.size := by omega
            clear HW8 hb12 hb13 p0 p1 p2 p3 p4 p5 p6 p7 r0 r1 r2 r3 r4 r5 r6 r7 hs8
            obtain ⟨p0, p1, p2, p3, p4, p5, p6, p7⟩ := (R8.out.blkAt 1 rfl).four
            obtain ⟨r0, r1, r2, r3, r4, r5, r6, r7⟩ := (R8.out.blkAt 2 rfl).four
            obtain ⟨s0, s1, s2, s3, s4, s5, s6, s7⟩ := (R8.out.blkAt 3 rfl).four
            obtain ⟨l0, l1, l2, l3, l4, l5, l6, l7⟩ := (R8.out.blkAt 5 rfl).four
            have hne1 : b7 ≠ b12 := by omega
            have hne2 : b12 ≠ b7 := by omega
            have hne3 : b7 ≠ b13 := by omega
            have hne4 : b13 ≠ b7 := by omega
            have hne5 : b8 ≠ b12 := by omega
            have hne6 : b12 ≠ b8 := by omega
            have hne7 : b8 ≠ b13 := by omega
            have hne8 : b13 ≠ b8 := by omega
            have hne9 : b7 ≠ b8 := by omega
            have hne10 : b8 ≠ b7 := by omega
            go_region_held3 (fun w' => w'.cell? ⟨b12, 0, none⟩ = some (.slice u1 k1 t1) ∧ w'.cell? ⟨b12, 1, none⟩ = some (.slice u2 k2 t2) ∧ w'.cell? ⟨b12, 2, none⟩ = some (.int .i64 fu) ∧ w'.cell? ⟨b12, 3, none⟩ = some (.bool oz) ∧ w'.cell? ⟨b13, 0, none⟩ = some (.int .i64 3) ∧ w'.cell? ⟨b13, 1, none⟩ = some (.int .i64 20) ∧ w'.cell? ⟨b13, 2, none⟩ = some (.int .i64 (SP2 : Nat)) ∧ w'.cell? ⟨b13, 3, none⟩ = some (.int .i64 (SR2 : Nat))) (go_keep) (fail)
            clear p0 p1 p2 p3 p4 p5 p6 p7 r0 r1 r2 r3 r4 r5 r6 r7 s0 s1 s2 s3 s4 s5 s6 s7 l0 l1 l2 l3 l4 l5 l6 l7
            go_wp2_with fail
            go_roundw
            case rel =>
              have RX := ((Have.nil _).store2 (t := ⟨3, 20, (SP2 : Nat), (SR2 : Nat)⟩) (R8.out.blkAt 3 rfl) ⟨rfl, rfl, rfl, rfl⟩ (R8.out.blkAt 5 rfl) ⟨rfl, rfl, rfl, rfl⟩ (R8.out.drvAt 0 rfl) (hT2.out.still _ _) trivial trivial hne10).next (Below.drewed (Below.refl _ _))
              refine ⟨k + 1, all ++ [s], cs', by omega, by omega, by simp; omega, by go_num, hT2, hide ?_, by simp; omega, ?_⟩
              · rw [HN2.out.1, HN2.out.2]
                exact ((Have.nil _).consB (RX.blkAt 0 rfl)).cons (RX.at 1 rfl)
              · exact Below.drewed (below4 (below4 hb8 (by omega) _ _ _ _) (by omega) _ _ _ _)
            case measure => simp [intOf]; omega
          · rw [happ] at HA
            clear happ
            go_wp2_with fail
            refine (HA.out _ _ (R.out.drvAt 1 rfl)).mono ?_
            rintro e w6 ⟨v', rfl, hd6, hb6⟩
            obtain ⟨u1, k1, t1, u2, k2, t2, fu, oz, rfl, _⟩ := hd6
            unfold drvVal tpVal Tp.zero
            have hY : Below w6.heap.size w6 ((w6.alloc (.cells #[.slice u1 k1 t1, .slice u2 k2 t2, .int .i64 fu, .bool oz] 25)).alloc (.cells #[.int .i64 0, .int .i64 0, .int .i64 0, .int .i64 0] 60)) := ((Below.refl _ _).alloc (Nat.le_refl _) _).alloc (by simp) _
            have R7 := hide ((R.out.next hb6).next hY)
            have hb7' := chain (chain hb5 hb6) hY
            have hs7 : B ≤ ((w6.alloc (.cells #[.slice u1 k1 t1, .slice u2 k2 t2, .int .i64 fu, .bool oz] 25)).alloc (.cells #[.int .i64 0, .int .i64 0, .int .i64 0, .int .i64 0] 60)).heap.size := by
              have := hY.size
              have := hb6.size
              omega
            clear p0 p1 p2 p3 p4 p5 p6 p7 r0 r1 r2 r3 r4 r5 r6 r7 R hb5 hb6 hY
            have RX := hide (((Have.nil _).consB (R7.out.blkAt 2 rfl)).consX (R7.out.blkAt 0 rfl) (R7.out.drvAt 1 rfl) (hT.out.still _ _))
            clear R7
            rcases hE with rfl | rfl
            · go_wp2_with fail
              go_roundw
              case rel => exact ⟨k + 1, all, cs, by omega, by omega, by omega, by go_num, hT, (by rw [HN.out.1, HN.out.2]; exact RX), hs7, hb7'⟩
              case measure => simp [intOf]; omega
            · go_wp2_with fail
              go_roundw
              case rel => exact ⟨k + 1, all, cs, by omega, by omega, by omega, by go_num, hT, (by rw [HN.out.1, HN.out.2]; exact RX), hs7, hb7'⟩
              case measure => simp [intOf]; omega
      · by_cases hk1 : k < n
        · have hk2 : ¬ k < 10 := fun h => hkk ⟨hk1, h⟩
          have hneL : (k : Int) < (n : Int) := by omega
          clear hkk
          go_wp2_with fail
          go_meet
          exact ⟨all, cs, by omega, hT, hR, hsz, hbw⟩
        · have hneL : ¬ (k : Int) < (n : Int) := by omega
          clear hkk
          go_wp2_with fail
          go_meet
          exact ⟨all, cs, by omega, hT, hR, hsz, hbw⟩
  case rest =>
    obtain ⟨wr, rfl⟩ : ∃ wr, wr = wc := ⟨_, rfl⟩
    clear R3 hb3 hB2 HF HS HO HKS HLY hn1 hn3
    obtain ⟨olds, cs0, hol, hT0, hR, hsz, hbw⟩ := hcut
    obtain ⟨M, hM⟩ : ∃ M, 1 + olds.length = M := ⟨_, rfl⟩
    obtain ⟨SP0, hSP0⟩ : ∃ z, span olds = z := ⟨_, rfl⟩
    have hTA := hT0.out.again (by omega) (by omega)
    rw [hM] at hTA hR
    rw [hSP0] at hR
    have hM1 : 1 ≤ M := by omega
    have hM2 : M ≤ 11 := by omega
    have HTA := hide hTA
    clear hTA hM hSP0 hol hT0
    obtain ⟨r0, r1, r2, r3, r4, r5, r6, r7⟩ := (hR.out.blkAt 1 rfl).four
    have hl8 := (hR.out.blkAt 1 rfl).lt
    have hl7 : b7 < wr.heap.size := by omega
    have RY := (((Have.nil _).cons (hR.out.at 0 rfl)).storeT (t := ⟨3, 20, 0, (M : Nat)⟩) (hR.out.blkAt 1 rfl) ⟨rfl, rfl, rfl, rfl⟩ ⟨Nat.ne_of_lt h78, trivial⟩)
    have hbx : Below w.heap.size w ((((wr.setCell ⟨b8, 0, none⟩ (.int .i64 3)).setCell ⟨b8, 1, none⟩ (.int .i64 20)).setCell ⟨b8, 2, none⟩ (.int .i64 0)).setCell ⟨b8, 3, none⟩ (.int .i64 (M : Nat))) := below4 hbw (by omega) _ _ _ _
    have hal := (Below.refl ((((wr.setCell ⟨b8, 0, none⟩ (.int .i64 3)).setCell ⟨b8, 1, none⟩ (.int .i64 20)).setCell ⟨b8, 2, none⟩ (.int .i64 0)).setCell ⟨b8, 3, none⟩ (.int .i64 (M : Nat))).heap.size ((((wr.setCell ⟨b8, 0, none⟩ (.int .i64 3)).setCell ⟨b8, 1, none⟩ (.int .i64 20)).setCell ⟨b8, 2, none⟩ (.int .i64 0)).setCell ⟨b8, 3, none⟩ (.int .i64 (M : Nat)))).alloc (Nat.le_refl _) (.cells #[.int .i64 3, .int .i64 20, .int .i64 0, .int .i64 (M : Nat)] 60)
    have R4 := (RY.next hal).consB (Blk.new ((((wr.setCell ⟨b8, 0, none⟩ (.int .i64 3)).setCell ⟨b8, 1, none⟩ (.int .i64 20)).setCell ⟨b8, 2, none⟩ (.int .i64 0)).setCell ⟨b8, 3, none⟩ (.int .i64 (M : Nat))) [.int .i64 3, .int .i64 20, .int .i64 0, .int .i64 (M : Nat)] 60)
    have hb4 := chain hbx hal
    have hsS : ((((wr.setCell ⟨b8, 0, none⟩ (.int .i64 3)).setCell ⟨b8, 1, none⟩ (.int .i64 20)).setCell ⟨b8, 2, none⟩ (.int .i64 0)).setCell ⟨b8, 3, none⟩ (.int .i64 (M : Nat))).heap.size = wr.heap.size := by simp
    rw [hsS] at R4
    obtain ⟨W5, hW5⟩ : ∃ W5, ((((wr.setCell ⟨b8, 0, none⟩ (.int .i64 3)).setCell ⟨b8, 1, none⟩ (.int .i64 20)).setCell ⟨b8, 2, none⟩ (.int .i64 0)).setCell ⟨b8, 3, none⟩ (.int .i64 (M : Nat))).alloc (.cells #[.int .i64 3, .int .i64 20, .int .i64 0, .int .i64 (M : Nat)] 60) = W5 := ⟨_, rfl⟩
    replace R4 : Have W5 _ := hW5 ▸ R4
    rw [hW5] at hb4
    have hs5 : W5.heap.size = wr.heap.size + 1 := by rw [← hW5]; simp
    have HW5 := hide hW5
    have HR4 := hide R4
    clear R4 hR hal hbw hbx RY hsS hW5
    go_upto_block 4 with fail
    rw [HW5.out]
    obtain ⟨b15, hb15⟩ : ∃ b, wr.heap.size = b := ⟨_, rfl⟩
    rw [hb15] at HR4 hs5 hl7 hl8 ⊢
    have R3 : Hid (Have W5 [.box b7 ⟨cs0, [], -1, false⟩, .blk b8 (tpCells ⟨3, 20, ((span [] : Nat) : Int), ((M + ([] : List (List UInt8)).length : Nat) : Int)⟩) 60, .blk b15 (tpCells ⟨3, 20, 0, (M : Nat)⟩) 60]) := hide ((((Have.nil _).consB (HR4.out.blkAt 0 rfl)).consB (HR4.out.blkAt 1 rfl)).cons (HR4.out.at 2 rfl))
    clear hb15 HW5 HR4 r0 r1 r2 r3 r4 r5 r6 r7 hsz
    clear hB
    obtain ⟨B2, hBB⟩ : ∃ B, W5.heap.size = B := ⟨_, rfl⟩
    have hB : b15 < B2 := by omega
    have hB2 : B2 ≤ W5.heap.size := by omega
    clear hs5 hBB
    go_cut [16] (fun s16 wx => ∃ (all : List (List UInt8)) (cs : List (List UInt8)), all.length ≤ 10 ∧ Hid (OnTape cs M M all) ∧ Hid (Have wx [.ownS B2 s16 all, .box b7 ⟨cs, [], -1, false⟩, .blk b8 (tpCells ⟨3, 20, ((span all : Nat) : Int), ((M + all.length : Nat) : Int)⟩) 60, .blk b15 (tpCells ⟨3, 20, 0, (M : Nat)⟩) 60]) ∧ B2 ≤ wx.heap.size ∧ Below w.heap.size w wx)
    case first =>
      go_wp2_with fail
      go_loopw [16, 17] (fun s16 s17 wr => ∃ (k : Nat) (all : List (List UInt8)) (cs : List (List UInt8)), k ≤ n2 ∧ k ≤ 10 ∧ all.length ≤ k ∧ s17 = .int .i64 k ∧ Hid (OnTape cs M M all) ∧ Hid (Have wr [.ownS B2 s16 all, .box b7 ⟨cs, [], -1, false⟩, .blk b8 (tpCells ⟨3, 20, ((span all : Nat) : Int), ((M + all.length : Nat) : Int)⟩) 60, .blk b15 (tpCells ⟨3, 20, 0, (M : Nat)⟩) 60]) ∧ B2 ≤ wr.heap.size ∧ Below w.heap.size w wr) (fun _ s17 _ => 10 - (intOf s17).toNat)
      case atStart => exact ⟨0, [], _, Nat.zero_le _, by omega, by simp, rfl, HTA, hide (R3.out.consS (OwnS.nil _ _)), hB2, hb4⟩
      case round =>
        obtain ⟨k, all, cs, hkn, hk14, hak, rfl, hT, hR, hsz, hbw⟩ := hrel
        clear R3 hb4 hB2 HTA
        by_cases hkk : k < n2 ∧ k < 10
        · obtain ⟨hk1, hk2⟩ := hkk
          have hneL : (k : Int) < (n2 : Int) := by omega
          have hscan := hT.out.scan (f := -1) (by omega) 0 (by omega) (by omega) (by omega)
          rw [List.take_zero, Nat.add_zero] at hscan
          change Drv.scan _ ⟨3, 20, 0, (M : Nat)⟩ = _ at hscan
          have HSC := hide (fun v w (h : IsDrive w v ⟨cs, [], -1, false⟩) => scan_own v ⟨cs, [], -1, false⟩ ⟨3, 20, 0, (M : Nat)⟩ w h (by unfold Tp.In; dsimp only; omega))
          rw [hscan, List.drop_zero] at HSC
          obtain ⟨SR, hSR⟩ : ∃ z, M + all.length = z := ⟨_, rfl⟩
          obtain ⟨SP, hSP⟩ : ∃ z, span all = z := ⟨_, rfl⟩
          rw [hSR, hSP] at hR HSC
          have HN := hide (And.intro hSR hSP)
          obtain ⟨g1, m1, q1, g2, m2, q2, fx, oy, hR2⟩ := hR.out.tail.open
          have R := hide (hR2.consS (hR.out.ownSAt 0 rfl))
          clear hR hR2 hSR hSP hscan
          obtain ⟨a16, c16, rfl, hc16, hm16, _⟩ := (R.out.ownSAt 0 rfl).form
          obtain ⟨p0, p1, p2, p3, p4, p5, p6, p7⟩ := (R.out.blkAt 1 rfl).four
          obtain ⟨r0, r1, r2, r3, r4, r5, r6, r7⟩ := (R.out.blkAt 4 rfl).four
          go_wp2_with fail
          refine (HSC.out _ _ (R.out.drvAt 2 rfl)).mono ?_
          rintro e w6 ⟨ao3, c3', rfl, ho3, hb6⟩
          unfold tpVal
          have hal := (Below.refl w6.heap.size w6).alloc (Nat.le_refl _) (.cells #[.int .i64 3, .int .i64 20, .int .i64 (SP : Nat), .int .i64 (SR : Nat)] 60)
          have R7 := ((((R.out.next hb6).consS (OwnZ.base ho3 hsz : OwnS w6 B2 _ _)).next hal).consB (Blk.new w6 [.int .i64 3, .int .i64 20, .int .i64 (SP : Nat), .int .i64 (SR : Nat)] 60))
          have hb7' := chain (chain hbw hb6) hal
          have hs6 := hb6.size
          obtain ⟨W7, hW7⟩ : ∃ W7, w6.alloc (.cells #[.int .i64 3, .int .i64 20, .int .i64 (SP : Nat), .int .i64 (SR : Nat)] 60) = W7 := ⟨_, rfl⟩
          replace R7 : Have W7 _ := hW7 ▸ R7
          rw [hW7] at hb7'
          have hs7 : W7.heap.size = w6.heap.size + 1 := by rw [← hW7]; simp
          have HW7 := hide hW7
          have HR7 := hide R7
          clear R7 hW7 hal ho3 hb6 hbw R HSC p0 p1 p2 p3 p4 p5 p6 p7 r0 r1 r2 r3 r4 r5 r6 r7
          go_upto_region 21 with fail
          rw [HW7.out]
          obtain ⟨b19, hb19⟩ : ∃ b, w6.heap.size = b := ⟨_, rfl⟩
          rw [hb19] at HR7 hs6 hs7 ⊢
          have h19 : B2 ≤ b19 := by omega
          clear HW7 hb19
          obtain ⟨_, _, hxe, hc3, hm3, hst3⟩ := (HR7.out.ownSAt 1 rfl).form
          injection hxe with hxe1 hxe0 hxe2
          subst hxe1
          subst hxe2
          clear hxe0
          obtain ⟨_, _, hxe, _, _, hst16⟩ := (HR7.out.ownSAt 2 rfl).form
          injection hxe with hxe1 hxe0 hxe2
          subst hxe1
          subst hxe2
          clear hxe0
          have HSM := hide (ref2same_any ao3 a16 all.length c3' all.length c16 all all W7 hst3 hst16 (by omega) (by omega))
          rw [decide_eq_true rfl] at HSM
          clear hst3 hst16
          go_wp2_with fail
          refine HSM.out.mono ?_
          rintro e w8 ⟨rfl, hb8⟩
          have R8 := hide (((HR7.out.next hb8).tail.tail).consB ((HR7.out.next hb8).blkAt 0 rfl))
          have hb9 := chain hb7' hb8
          have hs8 := hb8.size
          clear HR7 hb7' hb8 HSM hs6 hc3 hm3
          obtain ⟨p0, p1, p2, p3, p4, p5, p6, p7⟩ := (R8.out.blkAt 0 rfl).four
          obtain ⟨r0, r1, r2, r3, r4, r5, r6, r7⟩ := (R8.out.blkAt 4 rfl).four
          go_upto_region 23 with fail
          clear p0 p1 p2 p3 p4 p5 p6 p7 r0 r1 r2 r3 r4 r5 r6 r7
          obtain ⟨bx, ox, hlx, hix, hcx0⟩ := (HO2.out.below hb9).at c2 k hk1
          have HFk := hide (HF2.out k hk1)
          have hsl := fewOf_length (ys.getD k [])
          obtain ⟨s, hs⟩ : ∃ s, fewOf (ys.getD k []) = s := ⟨_, rfl⟩
          rw [hs] at HFk hsl
          obtain ⟨x0, hx0⟩ : ∃ z, bs (ys.getD k []) = z := ⟨_, rfl⟩
          rw [hx0] at HFk hcx0
          have hcx := hide hcx0
          obtain ⟨sv, hsv⟩ : ∃ z, bs s = z := ⟨_, rfl⟩
          rw [hsv] at HFk
          have HSV := hide hsv
          have HFS := hide hs
          have hapd := hT.out.appendAny s (by omega) (by omega)
          rw [HN.out.1, HN.out.2] at hapd
          obtain ⟨⟨D1, T1, E1⟩, hDTE⟩ : ∃ r, Drv.append ⟨cs, [], -1, false⟩ ⟨3, 20, (SP : Nat), (SR : Nat)⟩ s = r := ⟨_, rfl⟩
          have HA := hide (fun v w (h : IsDrive w v ⟨cs, [], -1, false⟩) => append_any v ⟨cs, [], -1, false⟩ ⟨3, 20, (SP : Nat), (SR : Nat)⟩ s w h (by have := hT.out.fits; have := HN.out.1; have := HN.out.2; unfold Tp.In; dsimp only; omega) (by simp) (by omega))
          rw [hDTE, hsv] at HA
          rw [hDTE] at hapd
          have HAPD := hide hapd
          clear hs hx0 hsv hcx0 hDTE hapd
          unfold tpVal at HA
          dsimp only at HA
          go_cut [21, 22, 23] (fun s21 s22 s23 wx => ∃ (b21 b22 : Nat) (v21 : Value), s21 = .pointer (some ⟨b21, 0, none⟩) ∧ s22 = .pointer (some ⟨b22, 0, none⟩) ∧ s23 = .int .i64 E1 ∧ Holds wx b21 v21 ∧ IsDrive wx v21 D1 ∧ Blk wx b22 (tpCells T1) 60 ∧ b22 ≠ b21 ∧ B2 ≤ b21 ∧ B2 ≤ b22 ∧ Hid (Have wx [.blk b19 (tpCells ⟨3, 20, (SP : Nat), (SR : Nat)⟩) 60, .ownS B2 (.slice a16 all.length c16) all, .blk b7 [.slice g1 m1 q1, .slice g2 m2 q2, .int .i64 fx, .bool oy] 25, .drv (.agg #[.slice g1 m1 q1, .slice g2 m2 q2, .int .i64 fx, .bool oy]) ⟨cs, [], -1, false⟩, .blk b8 (tpCells ⟨3, 20, (SP : Nat), (SR : Nat)⟩) 60, .blk b15 (tpCells ⟨3, 20, 0, (M : Nat)⟩) 60]) ∧ B2 ≤ wx.heap.size ∧ Below w.heap.size w wx)
          case first =>
            refine (fun h : ∀ z83 z84 z85 z86 z87 z88 z89 z90 z91 z92 z93 z94 z95 z96 z97 z98 z99 z100 z101 z102 z103 z104 z105 z106 z107 z108 z109 z110 z111 z112 z125 z126 z127 z128 z129 z130 z131 z132 z133 z134 z135 z136 y21 y22 y23 y113 y114 y115 y116 y117 y118 y119 y120 y121 y122 y123 y124 : Value, Code.wp Try.prog ?_ ?_ ⟨#[.slice ao n c, .slice bo n2 c2, .slice ko n3 c3, undef, undef, undef, u6, .pointer (some ⟨b7, 0, none⟩), .pointer (some ⟨b8, 0, none⟩), u9, u10, u11, u12, u13, u14, .pointer (some ⟨b15, 0, none⟩), .slice a16 all.length c16, .int .i64 (k : Int), .slice ao3 all.length c3', .pointer (some ⟨b19, 0, none⟩), .int .i64 0, y21, y22, y23, undef, undef, undef, .agg #[.slice a1 i1 d1, .slice a2 i2 d2, .int .i64 f1, .bool o1], .agg #[.int .i64 3, .int .i64 20, .int .i64 0, .int .i64 1], u29, u30, u31, u32, u33, u34, u35, u36, u37, u38, u39, u40, u41, u42, u43, u44, u45, u46, u47, u48, u49, u50, u51, u52, u53, u54, u55, u56, u57, u58, u59, u60, u61, u62, u63, u64, u65, u66, u67, u68, u69, u70, u71, u72, u73, u74, u75, u76, u77, u78, .pointer (some ⟨b8, 3, none⟩), .int .i64 (M : Nat), .agg #[.int .i64 3, .int .i64 20, .int .i64 0, .int .i64 (M : Nat)], .agg #[.int .i64 3, .int .i64 20, .int .i64 0, .int .i64 (M : Nat)], z83, z84, z85, z86, z87, z88, z89, z90, z91, z92, z93, z94, z95, z96, z97, z98, z99, z100, z101, z102, z103, z104, z105, z106, z107, z108, z109, z110, z111, z112, y113, y114, y115, y116, y117, y118, y119, y120, y121, y122, y123, y124, z125, z126, z127, z128, z129, z130, z131, z132, z133, z134, z135, z136, undef, undef, undef, undef, undef, undef, undef, undef, undef, undef, undef, undef, undef, undef, undef, undef, undef, undef, undef, undef, undef, undef], []⟩ w8 => h _ _ _ _ _ _ _ _ _ _ _ _ _ _ _ _ _ _ _ _ _ _ _ _ _ _ _ _ _ _ _ _ _ _ _ _ _ _ _ _ _ _ _ _ _ _ _ _ _ _ _ _ _ _ _ _ _) ?_
            intro z83 z84 z85 z86 z87 z88 z89 z90 z91 z92 z93 z94 z95 z96 z97 z98 z99 z100 z101 z102 z103 z104 z105 z106 z107 z108 z109 z110 z111 z112 z125 z126 z127 z128 z129 z130 z131 z132 z133 z134 z135 z136 y21 y22 y23 y113 y114 y115 y116 y117 y118 y119 y120 y121 y122 y123 y124
            refine wp_region_inv2 (fun l aa w => ∃ x21 x22 x23 x113 x114 x115 x116 x117 x118 x119 x120 x121 x122 x123 x124 : Value, aa = ⟨#[.slice ao n c, .slice bo n2 c2, .slice ko n3 c3, undef, undef, undef, u6, .pointer (some ⟨b7, 0, none⟩), .pointer (some ⟨b8, 0, none⟩), u9, u10, u11, u12, u13, u14, .pointer (some ⟨b15, 0, none⟩), .slice a16 all.length c16, .int .i64 (k : Int), .slice ao3 all.length c3', .pointer (some ⟨b19, 0, none⟩), .int .i64 0, x21, x22, x23, undef, undef, undef, .agg #[.slice a1 i1 d1, .slice a2 i2 d2, .int .i64 f1, .bool o1], .agg #[.int .i64 3, .int .i64 20, .int .i64 0, .int .i64 1], u29, u30, u31, u32, u33, u34, u35, u36, u37, u38, u39, u40, u41, u42, u43, u44, u45, u46, u47, u48, u49, u50, u51, u52, u53, u54, u55, u56, u57, u58, u59, u60, u61, u62, u63, u64, u65, u66, u67, u68, u69, u70, u71, u72, u73, u74, u75, u76, u77, u78, .pointer (some ⟨b8, 3, none⟩), .int .i64 (M : Nat), .agg #[.int .i64 3, .int .i64 20, .int .i64 0, .int .i64 (M : Nat)], .agg #[.int .i64 3, .int .i64 20, .int .i64 0, .int .i64 (M : Nat)], z83, z84, z85, z86, z87, z88, z89, z90, z91, z92, z93, z94, z95, z96, z97, z98, z99, z100, z101, z102, z103, z104, z105, z106, z107, z108, z109, z110, z111, z112, x113, x114, x115, x116, x117, x118, x119, x120, x121, x122, x123, x124, z125, z126, z127, z128, z129, z130, z131, z132, z133, z134, z135, z136, undef, undef, undef, undef, undef, undef, undef, undef, undef, undef, undef, undef, undef, undef, undef, undef, undef, undef, undef, undef, undef, undef], []⟩ ∧ AppF w8 7 D1 T1 E1 l w x121 x113 x122 x123 x124 x21 x22 ∧ (fl l 0 → x114 = .agg #[.slice g1 m1 q1, .slice g2 m2 q2, .int .i64 fx, .bool oy]) ∧ (fl l 1 → x115 = .agg #[.int .i64 3, .int .i64 20, .int .i64 (SP : Nat), .int .i64 (SR : Nat)]) ∧ (fl l 2 → x116 = .slice bo n2 c2) ∧ (fl l 3 → x117 = .int .i64 (k : Int)) ∧ (fl l 4 → x118 = .pointer (some ⟨bx, ox, none⟩)) ∧ (fl l 5 → x119 = .string x0) ∧ (fl l 6 → x120 = .string sv) ∧ (fl l 16 → x23 = x124 ∧ fl l 11)) (by kernel_rfl) (ord_of2 (by decide +kernel)) ⟨_, _, _, _, _, _, _, _, _, _, _, _, _, _, _, rfl, AppF.zero _ _ _ _ _ _ _ _ _ _ _ _, fun f => absurd f (fl_none _ _), fun f => absurd f (fl_none _ _), fun f => absurd f (fl_none _ _), fun f => absurd f (fl_none _ _), fun f => absurd f (fl_none _ _), fun f => absurd f (fl_none _ _), fun f => absurd f (fl_none _ _), fun f => absurd f (fl_none _ _)⟩ ?_ ?_
            · intro l aa w3 i o ho hI h1 h2 KK hK
              obtain ⟨x21, x22, x23, x113, x114, x115, x116, x117, x118, x119, x120, x121, x122, x123, x124, rfl, hF, g0, g1, g2, g3, g4, g5, g6, h4⟩ := hI
              have hi : i < 17 := (Array.getElem?_eq_some_iff.1 ho).1
              have R9 := R8.out.next hF.below
              obtain ⟨p0, p1, p2, p3, p4, p5, p6, p7⟩ := (R9.blkAt 2 rfl).four
              obtain ⟨r0, r1, r2, r3, r4, r5, r6, r7⟩ := (R9.blkAt 4 rfl).four
              have hcx9 : w3.cell? ⟨bx, ox, none⟩ = some (.string x0) := (hF.below.cell (p := ⟨bx, ox, none⟩) hlx).trans hcx.out
              have hcase : i = 0 ∨ i = 1 ∨ i = 2 ∨ i = 3 ∨ i = 4 ∨ i = 5 ∨ i = 6 ∨ i = 7 ∨ i = 8 ∨ i = 9 ∨ i = 10 ∨ i = 11 ∨ i = 12 ∨ i = 13 ∨ i = 14 ∨ i = 15 ∨ i = 16 := by omega
              rcases hcase with rfl | rfl | rfl | rfl | rfl | rfl | rfl | rfl | rfl | rfl | rfl | rfl | rfl | rfl | rfl | rfl | rfl
              · cases ho
                go_simp
                exact hK _ _ ⟨_, _, _, _, _, _, _, _, _, _, _, _, _, _, _, rfl, hF.pre (.inl (by decide)), fun _ => rfl, fun f => g1 (fl_set f (by decide)), fun f => g2 (fl_set f (by decide)), fun f => g3 (fl_set f (by decide)), fun f => g4 (fl_set f (by decide)), fun f => g5 (fl_set f (by decide)), fun f => g6 (fl_set f (by decide)), fun f => ⟨(h4 (fl_set f (by decide))).1, fl_keep (h4 (fl_set f (by decide))).2 _⟩⟩
              · cases ho
                go_simp
                exact hK _ _ ⟨_, _, _, _, _, _, _, _, _, _, _, _, _, _, _, rfl, hF.pre (.inl (by decide)), fun f => g0 (fl_set f (by decide)), fun _ => rfl, fun f => g2 (fl_set f (by decide)), fun f => g3 (fl_set f (by decide)), fun f => g4 (fl_set f (by decide)), fun f => g5 (fl_set f (by decide)), fun f => g6 (fl_set f (by decide)), fun f => ⟨(h4 (fl_set f (by decide))).1, fl_keep (h4 (fl_set f (by decide))).2 _⟩⟩
              · cases ho
                go_simp
                exact hK _ _ ⟨_, _, _, _, _, _, _, _, _, _, _, _, _, _, _, rfl, hF.pre (.inl (by decide)), fun f => g0 (fl_set f (by decide)), fun f => g1 (fl_set f (by decide)), fun _ => rfl, fun f => g3 (fl_set f (by decide)), fun f => g4 (fl_set f (by decide)), fun f => g5 (fl_set f (by decide)), fun f => g6 (fl_set f (by decide)), fun f => ⟨(h4 (fl_set f (by decide))).1, fl_keep (h4 (fl_set f (by decide))).2 _⟩⟩
              · cases ho
                go_simp
                exact hK _ _ ⟨_, _, _, _, _, _, _, _, _, _, _, _, _, _, _, rfl, hF.pre (.inl (by decide)), fun f => g0 (fl_set f (by decide)), fun f => g1 (fl_set f (by decide)), fun f => g2 (fl_set f (by decide)), fun _ => rfl, fun f => g4 (fl_set f (by decide)), fun f => g5 (fl_set f (by decide)), fun f => g6 (fl_set f (by decide)), fun f => ⟨(h4 (fl_set f (by decide))).1, fl_keep (h4 (fl_set f (by decide))).2 _⟩⟩
              · cases ho
                have f2 : fl l 2 := h2 ⟨2, .data⟩ (by simp) rfl
                have f3 : fl l 3 := h2 ⟨3, .data⟩ (by simp) rfl
                obtain rfl := g2 f2
                obtain rfl := g3 f3
                go_simp
                exact hK _ _ ⟨_, _, _, _, _, _, _, _, _, _, _, _, _, _, _, rfl, hF.pre (.inl (by decide)), fun f => g0 (fl_set f (by decide)), fun f => g1 (fl_set f (by decide)), fun f => g2 (fl_set f (by decide)), fun f => g3 (fl_set f (by decide)), fun _ => rfl, fun f => g5 (fl_set f (by decide)), fun f => g6 (fl_set f (by decide)), fun f => ⟨(h4 (fl_set f (by decide))).1, fl_keep (h4 (fl_set f (by decide))).2 _⟩⟩
              · cases ho
                have f4 : fl l 4 := h2 ⟨4, .data⟩ (by simp) rfl
                obtain rfl := g4 f4
                go_simp
                exact hK _ _ ⟨_, _, _, _, _, _, _, _, _, _, _, _, _, _, _, rfl, hF.pre (.inl (by decide)), fun f => g0 (fl_set f (by decide)), fun f => g1 (fl_set f (by decide)), fun f => g2 (fl_set f (by decide)), fun f => g3 (fl_set f (by decide)), fun f => g4 (fl_set f (by decide)), fun _ => rfl, fun f => g6 (fl_set f (by decide)), fun f => ⟨(h4 (fl_set f (by decide))).1, fl_keep (h4 (fl_set f (by decide))).2 _⟩⟩
              · cases ho
                have f5 : fl l 5 := h2 ⟨5, .data⟩ (by simp) rfl
                obtain rfl := g5 f5
                go_simp
                go_at_call 39
                refine (HFk.out _).mono ?_
                rintro e w' ⟨rfl, hb⟩
                exact hK _ _ ⟨_, _, _, _, _, _, _, _, _, _, _, _, _, _, _, rfl, (hF.mono hb).pre (.inl (by decide)), fun f => g0 (fl_set f (by decide)), fun f => g1 (fl_set f (by decide)), fun f => g2 (fl_set f (by decide)), fun f => g3 (fl_set f (by decide)), fun f => g4 (fl_set f (by decide)), fun f => g5 (fl_set f (by decide)), fun _ => rfl, fun f => ⟨(h4 (fl_set f (by decide))).1, fl_keep (h4 (fl_set f (by decide))).2 _⟩⟩
              · cases ho
                have f0 : fl l 0 := h2 ⟨0, .data⟩ (by simp) rfl
                have f1 : fl l 1 := h2 ⟨1, .data⟩ (by simp) rfl
                have f6 : fl l 6 := h2 ⟨6, .data⟩ (by simp) rfl
                obtain rfl := g0 f0
                obtain rfl := g1 f1
                obtain rfl := g6 f6
                go_simp
                go_at_call 40
                refine (HA.out _ _ (R9.drvAt 3 rfl)).mono ?_
                rintro e w' ⟨v', rfl, hdv, hb⟩
                exact hK _ _ ⟨_, _, _, _, _, _, _, _, _, _, _, _, _, _, _, rfl, hF.call h1 hb hdv, fun f => g0 (fl_set f (by decide)), fun f => g1 (fl_set f (by decide)), fun f => g2 (fl_set f (by decide)), fun f => g3 (fl_set f (by decide)), fun f => g4 (fl_set f (by decide)), fun f => g5 (fl_set f (by decide)), fun f => g6 (fl_set f (by decide)), fun f => ⟨(h4 (fl_set f (by decide))).1, fl_keep (h4 (fl_set f (by decide))).2 _⟩⟩
              · cases ho
                have f7 : fl l 7 := h2 ⟨7, .data⟩ (by simp) rfl
                go_simp
                exact hK _ _ ⟨_, _, _, _, _, _, _, _, _, _, _, _, _, _, _, rfl, hF.move f7, fun f => g0 (fl_set f (by decide)), fun f => g1 (fl_set f (by decide)), fun f => g2 (fl_set f (by decide)), fun f => g3 (fl_set f (by decide)), fun f => g4 (fl_set f (by decide)), fun f => g5 (fl_set f (by decide)), fun f => g6 (fl_set f (by decide)), fun f => ⟨(h4 (fl_set f (by decide))).1, fl_keep (h4 (fl_set f (by decide))).2 _⟩⟩
              · cases ho
                have f8 : fl l 8 := h2 ⟨8, .data⟩ (by simp) rfl
                obtain ⟨y, rfl, hy, rfl⟩ := hF.moved f8
                go_simp
                exact hK _ _ ⟨_, _, _, _, _, _, _, _, _, _, _, _, _, _, _, rfl, hF.ex0 h1 f8 rfl, fun f => g0 (fl_set f (by decide)), fun f => g1 (fl_set f (by decide)), fun f => g2 (fl_set f (by decide)), fun f => g3 (fl_set f (by decide)), fun f => g4 (fl_set f (by decide)), fun f => g5 (fl_set f (by decide)), fun f => g6 (fl_set f (by decide)), fun f => ⟨(h4 (fl_set f (by decide))).1, fl_keep (h4 (fl_set f (by decide))).2 _⟩⟩
              · cases ho
                have f8 : fl l 8 := h2 ⟨8, .data⟩ (by simp) rfl
                obtain ⟨y, rfl, hy, rfl⟩ := hF.moved f8
                go_simp
                exact hK _ _ ⟨_, _, _, _, _, _, _, _, _, _, _, _, _, _, _, rfl, hF.ex1 f8, fun f => g0 (fl_set f (by decide)), fun f => g1 (fl_set f (by decide)), fun f => g2 (fl_set f (by decide)), fun f => g3 (fl_set f (by decide)), fun f => g4 (fl_set f (by decide)), fun f => g5 (fl_set f (by decide)), fun f => g6 (fl_set f (by decide)), fun f => ⟨(h4 (fl_set f (by decide))).1, fl_keep (h4 (fl_set f (by decide))).2 _⟩⟩
              · cases ho
                have f8 : fl l 8 := h2 ⟨8, .data⟩ (by simp) rfl
                obtain ⟨y, rfl, hy, rfl⟩ := hF.moved f8
                go_simp
                exact hK _ _ ⟨_, _, _, _, _, _, _, _, _, _, _, _, _, _, _, rfl, hF.ex2 f8, fun f => g0 (fl_set f (by decide)), fun f => g1 (fl_set f (by decide)), fun f => g2 (fl_set f (by decide)), fun f => g3 (fl_set f (by decide)), fun f => g4 (fl_set f (by decide)), fun f => g5 (fl_set f (by decide)), fun f => g6 (fl_set f (by decide)), fun f => absurd (h4 (fl_set f (by decide))).2 (fl_not h1)⟩
              · cases ho
                go_simp
                exact hK _ _ ⟨_, _, _, _, _, _, _, _, _, _, _, _, _, _, _, rfl, hF.boxa h1, fun f => g0 (fl_set f (by decide)), fun f => g1 (fl_set f (by decide)), fun f => g2 (fl_set f (by decide)), fun f => g3 (fl_set f (by decide)), fun f => g4 (fl_set f (by decide)), fun f => g5 (fl_set f (by decide)), fun f => g6 (fl_set f (by decide)), fun f => ⟨(h4 (fl_set f (by decide))).1, fl_keep (h4 (fl_set f (by decide))).2 _⟩⟩
              · cases ho
                go_simp
                exact hK _ _ ⟨_, _, _, _, _, _, _, _, _, _, _, _, _, _, _, rfl, hF.boxb h1, fun f => g0 (fl_set f (by decide)), fun f => g1 (fl_set f (by decide)), fun f => g2 (fl_set f (by decide)), fun f => g3 (fl_set f (by decide)), fun f => g4 (fl_set f (by decide)), fun f => g5 (fl_set f (by decide)), fun f => g6 (fl_set f (by decide)), fun f => ⟨(h4 (fl_set f (by decide))).1, fl_keep (h4 (fl_set f (by decide))).2 _⟩⟩
              · cases ho
                have f12 : fl l 12 := h2 ⟨12, .data⟩ (by simp) rfl
                have f9 : fl l 9 := h2 ⟨9, .data⟩ (by simp) rfl
                obtain ⟨b, u, rfl, hB, hHo, _⟩ := hF.fa f12
                have hHo2 := hHo
                obtain ⟨_, _, _, _, _, _, _, _, _, hH⟩ := hHo
                obtain ⟨y, hxc, hy, h3⟩ := hF.fc (hF.fm (hF.f0 f9)).1
                clear hxc
                obtain rfl := h3 f9
                obtain ⟨u1, m1, t1, u2, m2, t2, fu, of, rfl, _⟩ := hy
                obtain ⟨y0, y1, y2, y3, y4, y5, y6, y7⟩ := hH.four
                unfold drvVal
                go_simp
                exact hK _ _ ⟨_, _, _, _, _, _, _, _, _, _, _, _, _, _, _, rfl, hF.sta f12 f9 rfl u1 m1 t1 u2 m2 t2 fu of rfl, fun f => g0 (fl_set f (by decide)), fun f => g1 (fl_set f (by decide)), fun f => g2 (fl_set f (by decide)), fun f => g3 (fl_set f (by decide)), fun f => g4 (fl_set f (by decide)), fun f => g5 (fl_set f (by decide)), fun f => g6 (fl_set f (by decide)), fun f => ⟨(h4 (fl_set f (by decide))).1, fl_keep (h4 (fl_set f (by decide))).2 _⟩⟩
              · cases ho
                have f13 : fl l 13 := h2 ⟨13, .data⟩ (by simp) rfl
                have f10 : fl l 10 := h2 ⟨10, .data⟩ (by simp) rfl
                obtain ⟨b, u, rfl, hB, hH, _⟩ := hF.fb f13
                obtain ⟨e5, _⟩ := hF.f1 f10
                subst e5
                have hH2 := hH
                unfold tpCells at hH
                obtain ⟨y0, y1, y2, y3, y4, y5, y6, y7⟩ := hH.four
                unfold tpVal
                go_simp
                exact hK _ _ ⟨_, _, _, _, _, _, _, _, _, _, _, _, _, _, _, rfl, hF.stb f13 rfl, fun f => g0 (fl_set f (by decide)), fun f => g1 (fl_set f (by decide)), fun f => g2 (fl_set f (by decide)), fun f => g3 (fl_set f (by decide)), fun f => g4 (fl_set f (by decide)), fun f => g5 (fl_set f (by decide)), fun f => g6 (fl_set f (by decide)), fun f => ⟨(h4 (fl_set f (by decide))).1, fl_keep (h4 (fl_set f (by decide))).2 _⟩⟩
              · cases ho
                have f11 : fl l 11 := h2 ⟨11, .data⟩ (by simp) rfl
                go_simp
                exact hK _ _ ⟨_, _, _, _, _, _, _, _, _, _, _, _, _, _, _, rfl, hF.pre (.inr rfl), fun f => g0 (fl_set f (by decide)), fun f => g1 (fl_set f (by decide)), fun f => g2 (fl_set f (by decide)), fun f => g3 (fl_set f (by decide)), fun f => g4 (fl_set f (by decide)), fun f => g5 (fl_set f (by decide)), fun f => g6 (fl_set f (by decide)), fun _ => ⟨rfl, fl_keep f11 _⟩⟩
            · intro l aa w3 hI hall
              obtain ⟨x21, x22, x23, x113, x114, x115, x116, x117, x118, x119, x120, x121, x122, x123, x124, rfl, hF, g0, g1, g2, g3, g4, g5, g6, h4⟩ := hI
              obtain ⟨b, v, c, rfl, rfl, rfl, hb1, hc1, hH, hdv, hT, hcb, hbw⟩ := hF.done hall
              obtain rfl := (h4 (fl_all hall hF.size (by decide))).1
              dsimp only
              go_wp2_with fail
              go_meet
              exact ⟨b, c, v, rfl, rfl, rfl, hH, hdv, hT, hcb, by omega, by omega, hide (R8.out.next hbw), by have := hbw.size; omega, chain hb9 hbw⟩
          case rest =>
            obtain ⟨wx, rfl⟩ : ∃ wx, wx = wc := ⟨_, rfl⟩
            clear R8 hb9 hs8 hsz hix hcx hs7
            obtain ⟨b21, b22, v21, rfl, rfl, rfl, hH, hdv, hT22, hne22, h21, h22, hR, hszx, hbx⟩ := hcut
            rcases HAPD.out with ⟨cs', hp, hT'⟩ | ⟨E, hp, hE⟩
            · simp only [Prod.mk.injEq] at hp
              obtain ⟨rfl, rfl, rfl⟩ := hp
              clear HAPD
              obtain ⟨SP2, hSP2⟩ : ∃ z, span (all ++ [s]) = z := ⟨_, rfl⟩
              obtain ⟨SR2, hSR2⟩ : ∃ z, M + (all ++ [s]).length = z := ⟨_, rfl⟩
              rw [hSP2, hSR2] at hT22
              have HN2 := hide (And.intro hSP2 hSR2)
              have hT2 := hide hT'
              obtain ⟨u1, k1, t1, u2, k2, t2, fu, oz, rfl, hN21⟩ := hH
              unfold drvVal at hdv
              have h21l := hN21.lt
              have h22l := hT22.lt
              have R9 := hide ((((hR.out.tail.tail.consB hT22).consB hN21).consD hdv (hT2.out.still _ _)).consS (hR.out.ownSAt 1 rfl))
              have HBIG := hide (own_type (hR.out.ownSAt 1 rfl) hT22 (by decide))
              clear hSP2 hSR2 hT' hdv hN21 hT22 hR
              obtain ⟨bx, ox, hlx, hix, hcx⟩ := (HO2.out.below hbx).at c2 k hk1
              have HFk := hide (HF2.out k hk1)
              rw [HFS.out, HSV.out] at HFk
              obtain ⟨x1, hx1⟩ : ∃ z, bs (ys.getD k []) = z := ⟨_, rfl⟩
              rw [hx1] at HFk hcx
              clear hx1
              go_wp2_with fail
              refine (HFk.out _).mono ?_
              rintro e w9 ⟨rfl, hb9⟩
              have R10 := hide (R9.out.next hb9)
              have hb10 := chain hbx hb9
              have hs9 := hb9.size
              clear R9 hbx hb9 hix hcx HFk
              have hnb := Blk.new w9 [.string sv] 9
              have hal : Below w9.heap.size w9 (w9.alloc (.cells #[.string sv] 9)) := (Below.refl _ _).alloc (Nat.le_refl _) _
              go_wp2_with (at_builtin; refine wpList_appS rfl (.tmp 127) (.tmp 133) rfl B2 (.slice a16 all.length c16) all rfl ((R10.out.next hal).ownSAt 0 rfl) _ 1 1 [s] rfl rfl (by show Row _ _ [Value.string (bs s)]; rw [HSV.out]; exact row_of_blk hnb) (by omega) (by simp; omega) ?_)
              intro v10 w10 hO10 hg10 hk10 ho10
              have hR8 := R10.out.next hal
              have R11 := hide ((hR8.tail.grow hg10 hk10 (fun b hb => ⟨trivial, apart_type (hR8.ownSAt 0 rfl) hb (hR8.blkAt 2 rfl) (by decide), (fun e => HBIG.out (e ▸ hb)), apart_base (hR8.ownSAt 0 rfl) hb (by omega), trivial, apart_base (hR8.ownSAt 0 rfl) hb (by omega), apart_base (hR8.ownSAt 0 rfl) hb (by omega), trivial⟩)).consS hO10)
              have hz10 := hg10.size
              have hb11 := grown_below (hb10.trans (hal.mono hb10.size)) (by have := hb10.size; simp; omega) hg10 (fun g hg => by have := ((hR8.ownSAt 0 rfl).1.lt g hg).1; omega)
              have hsz10 : w9.heap.size + 1 ≤ w10.heap.size := by simpa using hz10
              clear hR8 R10 hal hnb hg10 hk10 ho10 hz10 hO10 hb10
              go_upto_region 26 with fail
              obtain ⟨p0, p1, p2, p3, p4, p5, p6, p7⟩ := (R11.out.blkAt 2 rfl).four
              obtain ⟨r0, r1, r2, r3, r4, r5, r6, r7⟩ := (R11.out.blkAt 3 rfl).four
              obtain ⟨s0, s1, s2, s3, s4, s5, s6, s7⟩ := (R11.out.blkAt 4 rfl).four
              obtain ⟨l0, l1, l2, l3, l4, l5, l6, l7⟩ := (R11.out.blkAt 6 rfl).four
              have hne1 : b7 ≠ b21 := by omega
              have hne2 : b21 ≠ b7 := by omega
              have hne3 : b7 ≠ b22 := by omega
              have hne4 : b22 ≠ b7 := by omega
              have hne5 : b8 ≠ b21 := by omega
              have hne6 : b21 ≠ b8 := by omega
              have hne7 : b8 ≠ b22 := by omega
              have hne8 : b22 ≠ b8 := by omega
              have hne9 : b7 ≠ b8 := by omega
              have hne10 : b8 ≠ b7 := by omega
              go_region_held3 (fun w' => w'.cell? ⟨b21, 0, none⟩ = some (.slice u1 k1 t1) ∧ w'.cell? ⟨b21, 1, none⟩ = some (.slice u2 k2 t2) ∧ w'.cell? ⟨b21, 2, none⟩ = some (.int .i64 fu) ∧ w'.cell? ⟨b21, 3, none⟩ = some (.bool oz) ∧ w'.cell? ⟨b22, 0, none⟩ = some (.int .i64 3) ∧ w'.cell? ⟨b22, 1, none⟩ = some (.int .i64 20) ∧ w'.cell? ⟨b22, 2, none⟩ = some (.int .i64 (SP2 : Nat)) ∧ w'.cell? ⟨b22, 3, none⟩ = some (.int .i64 (SR2 : Nat))) (go_keep) (fail)
              clear p0 p1 p2 p3 p4 p5 p6 p7 r0 r1 r2 r3 r4 r5 r6 r7 s0 s1 s2 s3 s4 s5 s6 s7 l0 l1 l2 l3 l4 l5 l6 l7
              go_wp2_with fail
              go_roundw
              case rel =>
                have RN := ((Have.nil _).consB (R11.out.blkAt 7 rfl)).consS (R11.out.ownSAt 0 rfl)
                have RX := (RN.store2 (t := ⟨3, 20, (SP2 : Nat), (SR2 : Nat)⟩) (R11.out.blkAt 4 rfl) ⟨rfl, rfl, rfl, rfl⟩ (R11.out.blkAt 6 rfl) ⟨rfl, rfl, rfl, rfl⟩ (R11.out.drvAt 1 rfl) (hT2.out.still _ _) ⟨own_base (R11.out.ownSAt 0 rfl) (by omega), Nat.ne_of_gt (by omega), trivial⟩ ⟨own_base (R11.out.ownSAt 0 rfl) (by omega), Nat.ne_of_gt (by omega), trivial⟩ hne10).next (Below.drewed (Below.refl _ _))
                refine ⟨k + 1, all ++ [s], cs', by omega, by omega, by simp; omega, by go_num, hT2, hide ?_, by simp; omega, ?_⟩
                · rw [HN2.out.1, HN2.out.2]
                  exact ((((Have.nil _).consB (RX.blkAt 3 rfl)).consB (RX.blkAt 0 rfl)).cons (RX.at 1 rfl)).consS (RX.ownSAt 2 rfl)
                · exact Below.drewed (below4 (below4 hb11 (by omega) _ _ _ _) (by omega) _ _ _ _)
              case measure => simp [intOf]; omega
            · simp only [Prod.mk.injEq] at hp
              obtain ⟨rfl, rfl, rfl⟩ := hp
              clear HAPD
              have RX := hide (((((Have.nil _).consB (hR.out.blkAt 5 rfl)).consB (hR.out.blkAt 4 rfl)).consX (hR.out.blkAt 2 rfl) (hR.out.drvAt 3 rfl) (hT.out.still _ _)).consS (hR.out.ownSAt 1 rfl))
              clear hH hdv hT22 hR
              rcases hE with rfl | rfl
              · go_wp2_with fail
                go_roundw
                case rel => exact ⟨k + 1, all, cs, by omega, by omega, by omega, by go_num, hT, (by rw [HN.out.1, HN.out.2]; exact RX), hszx, hbx⟩
                case measure => simp [intOf]; omega
              · go_wp2_with fail
                go_roundw
                case rel => exact ⟨k + 1, all, cs, by omega, by omega, by omega, by go_num, hT, (by rw [HN.out.1, HN.out.2]; exact RX), hszx, hbx⟩
                case measure => simp [intOf]; omega
        · by_cases hk1 : k < n2
          · have hk2 : ¬ k < 10 := fun h => hkk ⟨hk1, h⟩
            have hneL : (k : Int) < (n2 : Int) := by omega
            clear hkk
            go_wp2_with fail
            go_meet
            exact ⟨all, cs, by omega, hT, hR, hsz, hbw⟩
          · have hneL : ¬ (k : Int) < (n2 : Int) := by omega
            clear hkk
            go_wp2_with fail
            go_meet
            exact ⟨all, cs, by omega, hT, hR, hsz, hbw⟩
    case rest =>
      obtain ⟨wq, rfl⟩ : ∃ wq, wq = wc := ⟨_, rfl⟩
      clear R3 hb4 hB2 HTA HF2 HO2 hn2
      obtain ⟨all, cs, hal, hT, hR, hsz, hbw⟩ := hcut
      have hscan := hT.out.scan (f := -1) (by omega) 0 (by omega) (by omega) (by omega)
      rw [List.take_zero, Nat.add_zero] at hscan
      change Drv.scan _ ⟨3, 20, 0, (M : Nat)⟩ = _ at hscan
      have HSC := hide (fun v w (h : IsDrive w v ⟨cs, [], -1, false⟩) => scan_own v ⟨cs, [], -1, false⟩ ⟨3, 20, 0, (M : Nat)⟩ w h (by unfold Tp.In; dsimp only; omega))
      rw [hscan, List.drop_zero] at HSC
      obtain ⟨SR, hSR⟩ : ∃ z, M + all.length = z := ⟨_, rfl⟩
      obtain ⟨SP, hSP⟩ : ∃ z, span all = z := ⟨_, rfl⟩
      rw [hSR, hSP] at hR HSC
      obtain ⟨g1, m1, q1, g2, m2, q2, fx, oy, hR2⟩ := hR.out.tail.open
      have R := hide (hR2.consS (hR.out.ownSAt 0 rfl))
      clear hR hR2 hSR hSP hscan
      obtain ⟨a16, c16, rfl, hc16, hm16, _⟩ := (R.out.ownSAt 0 rfl).form
      obtain ⟨p0, p1, p2, p3, p4, p5, p6, p7⟩ := (R.out.blkAt 1 rfl).four
      obtain ⟨r0, r1, r2, r3, r4, r5, r6, r7⟩ := (R.out.blkAt 4 rfl).four
      go_wp2_with fail
      refine (HSC.out _ _ (R.out.drvAt 2 rfl)).mono ?_
      rintro e w6 ⟨ao3, c3', rfl, ho3, hb6⟩
      unfold tpVal
      have hal := (Below.refl w6.heap.size w6).alloc (Nat.le_refl _) (.cells #[.int .i64 3, .int .i64 20, .int .i64 (SP : Nat), .int .i64 (SR : Nat)] 60)
      have R7 := ((((R.out.next hb6).consS (OwnZ.base ho3 hsz : OwnS w6 B2 _ _)).next hal).consB (Blk.new w6 [.int .i64 3, .int .i64 20, .int .i64 (SP : Nat), .int .i64 (SR : Nat)] 60))
      have hb7' := chain (chain hbw hb6) hal
      obtain ⟨W7, hW7⟩ : ∃ W7, w6.alloc (.cells #[.int .i64 3, .int .i64 20, .int .i64 (SP : Nat), .int .i64 (SR : Nat)] 60) = W7 := ⟨_, rfl⟩
      replace R7 : Have W7 _ := hW7 ▸ R7
      rw [hW7] at hb7'
      have HW7 := hide hW7
      have HR7 := hide R7
      clear R7 hW7 hal ho3 hb6 hbw R HSC p0 p1 p2 p3 p4 p5 p6 p7 r0 r1 r2 r3 r4 r5 r6 r7
      go_upto_region 28 with fail
      rw [HW7.out]
      obtain ⟨b25, hb25⟩ : ∃ b, w6.heap.size = b := ⟨_, rfl⟩
      rw [hb25] at HR7 ⊢
      clear HW7 hb25
      obtain ⟨_, _, hxe, hc3, hm3, hst3⟩ := (HR7.out.ownSAt 1 rfl).form
      injection hxe with hxe1 hxe0 hxe2
      subst hxe1
      subst hxe2
      clear hxe0
      obtain ⟨_, _, hxe, _, _, hst16⟩ := (HR7.out.ownSAt 2 rfl).form
      injection hxe with hxe1 hxe0 hxe2
      subst hxe1
      subst hxe2
      clear hxe0
      have HSM := hide (ref2same_any ao3 a16 all.length c3' all.length c16 all all W7 hst3 hst16 (by omega) (by omega))
      rw [decide_eq_true rfl] at HSM
      clear hst3 hst16
      go_wp2_with fail
      refine HSM.out.mono ?_
      rintro e w8 ⟨rfl, hb8⟩
      have R8 := HR7.out.next hb8
      have hb9 := chain hb7' hb8
      obtain ⟨p0, p1, p2, p3, p4, p5, p6, p7⟩ := (R8.blkAt 0 rfl).four
      obtain ⟨r0, r1, r2, r3, r4, r5, r6, r7⟩ := (R8.blkAt 5 rfl).four
      clear HR7 hb7' hb8 HSM R8
      go_wp2_with fail
      refine (HAW.out _).mono ?_
      rintro e w9 ⟨rfl, hb10⟩
      have hb11 := chain hb9 hb10
      clear hb10 hb9
      go_wp2_with fail
      go_ret
      exact ⟨rfl, hb11⟩

theorem again_frame {w : World} (ao : Option Addr) (n c : Nat) (xs : List (List UInt8)) (h : Strs w ao n xs) (h1 : n ≤ c) (h2 : c ≤ 9223372036854775807) (hx : ∀ y ∈ xs, y.length ≤ 9223372036854775807)
    (bo : Option Addr) (n2 c2 : Nat) (ys : List (List UInt8)) (hys : Strs w bo n2 ys) (h3 : n2 ≤ c2) (h4 : c2 ≤ 9223372036854775807) (hy : ∀ y ∈ ys, y.length ≤ 9223372036854775807)
    (ko : Option Addr) (n3 c3 : Nat) (ks : List UInt8) (hks : Octs w ko n3 ks) (h5 : n3 ≤ c3) (h6 : c3 ≤ 9223372036854775807) (_ : True) (_ : World) :
    Calls Try.prog 11 #[.slice ao n c, .slice bo n2 c2, .slice ko n3 c3] w fun e w' => e = .returned (.bool true) ∧ Below w.heap.size w w' := again_walk ao n c xs bo n2 c2 ys ko n3 c3 ks w h ⟨h1, h2⟩ hx hys ⟨h3, h4⟩ hy hks ⟨h5, h6⟩

end Go.Proofs.Ytkapdmhjhbmdjaa
