/-
  The walk through the statement LogRooms: it returns true.
-/
import Derived.Test.YtkapdmhjhbmdjaaLogAwake
import Derived.Test.YtkapdmhjhbmdjaaDiskTearsW
namespace Go.Proofs.Ytkapdmhjhbmdjaa
open Go.RowKit

theorem new_twenty : (Drv.new 20).1 = ⟨List.replicate 20 blank, [], -1, false⟩ := by kernel_rfl
theorem twenty_may : (⟨List.replicate 20 blank, [], -1, false⟩ : Drv).May := ⟨by simp, by simp, by simp, (by intro c hc; rw [List.eq_of_mem_replicate hc]; rfl), by intro w hw; cases hw⟩
/-- A record that the tape has room for goes on it. -/
theorem rooms_app {k a : Nat} (hk : k < 8) (ha : a ≤ 300) : ∃ D, Drv.append ⟨List.replicate 20 blank, [], -1, false⟩ ⟨0, (k + kOf a : Nat), (k : Nat), 1⟩ (List.replicate a 120) = (D, ⟨0, (k + kOf a : Nat), (k + kOf a : Nat), 2⟩, 0) := by
  have h1 : kOf a ≤ 6 := by unfold kOf; omega
  have h2 := kOf_pos a
  have hl : (List.replicate a (120 : UInt8)).length = a := List.length_replicate
  have hok : tapeOk ⟨List.replicate 20 blank, [], -1, false⟩ ⟨(0 : Nat), (k + kOf a : Nat), (k : Nat), (1 : Nat)⟩ = true := by
    unfold tapeOk
    rw [mayB_yes twenty_may]
    simp only [Bool.true_and, decide_eq_true_eq, List.length_replicate]
    omega
  obtain ⟨f', h, _, _⟩ := append_ok twenty_may 0 (k + kOf a) k 1 (List.replicate a 120) hok (by rw [hl]; omega) (by rw [hl]; exact Nat.le_refl _) (by omega) (.inl rfl)
  rw [hl] at h
  exact ⟨_, h⟩
/-- A record that the tape lacks a cell for does not. -/
theorem rooms_full {k a : Nat} (hk : k < 8) (ha : a ≤ 300) (h0 : 2 ≤ k + kOf a) : Drv.append ⟨List.replicate 20 blank, [], -1, false⟩ ⟨0, (k + kOf a - 1 : Nat), (k : Nat), 1⟩ (List.replicate a 120) = (Drv.zero, Tp.zero, 6) := by
  have h1 : kOf a ≤ 6 := by unfold kOf; omega
  have h2 := kOf_pos a
  have hl : (List.replicate a (120 : UInt8)).length = a := List.length_replicate
  have hok : tapeOk ⟨List.replicate 20 blank, [], -1, false⟩ ⟨0, (k + kOf a - 1 : Nat), (k : Nat), 1⟩ = true := by
    unfold tapeOk
    rw [mayB_yes twenty_may]
    simp only [Bool.true_and, decide_eq_true_eq, List.length_replicate]
    omega
  unfold Drv.append
  rw [if_neg (by rintro (h | h); · rw [hok] at h; cases h
                 · rw [hl] at h; omega), if_pos (by rw [hl]; left; simp only; omega)]

set_option maxRecDepth 100000 in
set_option maxHeartbeats 12800000 in
theorem rooms_walk (x y z : Nat) (w : World) (hx : x < 65536) (hy : y < 65536) (hz : z < 256) :
    Calls Try.prog 13 #[.int .u16 (x : Int), .int .u16 (y : Int), .int .u8 (z : Int)] w fun e w' => e = .returned (.bool true) ∧ Below w.heap.size w w' := by
  obtain ⟨a, ha⟩ : ∃ a, x % 4100 = a := ⟨_, rfl⟩
  obtain ⟨b, hb⟩ : ∃ a, y % 4100 = a := ⟨_, rfl⟩
  obtain ⟨k, hk⟩ : ∃ a, z % 8 = a := ⟨_, rfl⟩
  have ha1 : a < 4100 := by omega
  have hb1 : b < 4100 := by omega
  have hk1 : k < 8 := by omega
  have ra : ((x : Int) % 4100) = (a : Int) := by omega
  have rb : ((y : Int) % 4100) = (b : Int) := by omega
  have rk : ((z : Int) % 8) = (k : Int) := by omega
  have HAW := hide (fun w => awake18_any w)
  have HC : Hid (∀ w, Calls Try.prog 44 #[.int .i64 (a : Int)] w fun e w' => e = .returned (.int .i64 (cellsOf (a : Int))) ∧ w = w') := hide (fun w => lcells_any (a : Int) w (by omega))
  have HCB : Hid (∀ w, Calls Try.prog 44 #[.int .i64 (b : Int)] w fun e w' => e = .returned (.int .i64 (cellsOf (b : Int))) ∧ w = w') := hide (fun w => lcells_any (b : Int) w (by omega))
  clear ha hb hk
  by_cases h4 : 4000 < a
  · have hc : cellsOf (a : Int) = 0 := if_pos (.inr (by omega))
    rw [hc] at HC
    clear hc
    go_enter Try.func13, Try.ntmps13
    go_wp2_with fail
    refine (HC.out _).mono ?_
    rintro e w1 ⟨rfl, rfl⟩
    by_cases hab : a ≤ b
    · go_wp2_with fail
      refine (HAW.out _).mono ?_
      rintro e w1 ⟨rfl, hbw⟩
      go_wp2_with fail
      go_ret
      exact ⟨rfl, hbw⟩
    · go_wp2_with fail
      refine (HAW.out _).mono ?_
      rintro e w1 ⟨rfl, hbw⟩
      go_wp2_with fail
      go_ret
      exact ⟨rfl, hbw⟩
  · have hc : cellsOf (a : Int) = ((kOf a : Nat) : Int) := by unfold cellsOf; rw [if_neg (by omega)]; rfl
    have hk67 := kOf_max (n := a) (by omega)
    have hkp := kOf_pos a
    have hkb := fun (h : a ≤ b) => kOf_mono h
    have hcb : b ≤ 4000 → cellsOf (b : Int) = ((kOf b : Nat) : Int) := fun h => by unfold cellsOf; rw [if_neg (by omega)]; rfl
    have HRA := hide (fun (h : a ≤ 300) => rooms_app hk1 h)
    have HRF := hide (fun (h : a ≤ 300) (h0 : 2 ≤ k + kOf a) => rooms_full hk1 h h0)
    have HK6 := hide (fun (h : a ≤ 300) => (show kOf a ≤ 6 by unfold kOf; omega))
    obtain ⟨sz, hsz⟩ : ∃ s, kOf a = s := ⟨_, rfl⟩
    rw [hc] at HC
    rw [hsz] at HC hk67 hkp hkb HRA HRF HK6
    clear hc
    go_enter Try.func13, Try.ntmps13
    go_upto_region 3 with fail
    refine (HC.out _).mono ?_
    rintro e w1 ⟨rfl, rfl⟩
    go_upto_region 3 with fail
    have hz0 : ((sz : Int) == 0) = false := by rw [beq_eq_false_iff_ne]; omega
    have h40 : decide (4000 < (a : Int)) = false := decide_eq_false (by omega)
    go_cut [45] (fun s45 wx => s45 = .bool false ∧ wx = w)
    case first =>
      by_cases h5 : a ≤ b ∧ b ≤ 4000
      · have hcb2 := hcb h5.2
        have hkb2 := hkb h5.1
        rw [hcb2] at HCB
        obtain ⟨sb, hsb⟩ : ∃ s, kOf b = s := ⟨_, rfl⟩
        rw [hsb] at HCB hkb2
        have hdl : decide (sb < sz) = false := decide_eq_false (by omega)
        clear hcb hkb hcb2 hsb
        obtain ⟨h51, h52⟩ := h5
        go_wp2_with fail
        refine (HCB.out _).mono ?_
        rintro e w1 ⟨rfl, rfl⟩
        go_wp2_with fail
        go_meet
        exact ⟨rfl, rfl⟩
      · clear hcb hkb
        by_cases hab : a ≤ b
        · have hb4 : ¬ b ≤ 4000 := fun h => h5 ⟨hab, h⟩
          clear h5
          go_wp2_with fail
          go_meet
          exact ⟨rfl, rfl⟩
        · clear h5
          go_wp2_with fail
          go_meet
          exact ⟨rfl, rfl⟩
    case rest =>
      obtain ⟨wx, rfl⟩ : ∃ wx, wx = wc := ⟨_, rfl⟩
      obtain ⟨rfl, rfl⟩ := hcut
      clear hcb hkb HCB HC ra rb hsz hx hy hz0 h40
      by_cases h3 : 300 < a
      · go_wp2_with fail
        refine (HAW.out _).mono ?_
        rintro e w1 ⟨rfl, hbw⟩
        go_wp2_with fail
        go_ret
        exact ⟨rfl, hbw⟩
      · have ha3 : a ≤ 300 := by omega
        have hs6 := HK6.out ha3
        obtain ⟨D, hD⟩ := HRA.out ha3
        have HRG := hide (HRF.out ha3)
        obtain ⟨E, hE⟩ : ∃ E, k + sz = E := ⟨_, rfl⟩
        have hEi : (k : Int) + (sz : Int) = (E : Int) := by omega
        have HLO := hide (fun w => long_any a w (by omega))
        have HSL := hide (show (List.replicate a (120 : UInt8)).length < 9223372036854775808 by rw [List.length_replicate]; omega)
        rw [hE] at hD HRG
        obtain ⟨S, hS⟩ : ∃ S, List.replicate a (120 : UInt8) = S := ⟨_, rfl⟩
        rw [hS] at hD HRG HLO HSL
        have HSO : Hid (∀ w, Calls Try.prog 50 #[.int .i64 20] w fun e w' => ∃ v, e = .returned v ∧ IsDrive w' v ⟨List.replicate 20 blank, [], -1, false⟩ ∧ Below w.heap.size w w') := hide (fun w => by
          have h := some_any 20 w
          rw [new_twenty] at h
          exact h)
        obtain ⟨D0, hD0⟩ : ∃ D0 : Drv, ⟨List.replicate 20 blank, [], -1, false⟩ = D0 := ⟨_, rfl⟩
        have HQ := hide (show D0.queue.length ≤ 1000 by rw [← hD0]; simp)
        rw [hD0] at hD HRG HSO
        have HAP : Hid (∀ v w, IsDrive w v D0 → Calls Try.prog 40 #[v, .agg #[.int .i64 0, .int .i64 (E : Int), .int .i64 (k : Int), .int .i64 1], .string (bs S)] w fun e w' => ∃ v', e = .returned (.tuple #[v', tpVal ⟨0, E, E, 2⟩, .int .i64 0]) ∧ IsDrive w' v' D ∧ Below w.heap.size w w') := hide (fun v w h => by
          have h := append_any v D0 ⟨0, E, k, 1⟩ S w h (by unfold Tp.In; dsimp only; omega) HQ.out HSL.out
          rw [hD] at h
          exact h)
        have HAG : Hid (2 ≤ E → ∀ v w, IsDrive w v D0 → Calls Try.prog 40 #[v, .agg #[.int .i64 0, .int .i64 ((E - 1 : Nat) : Int), .int .i64 (k : Int), .int .i64 1], .string (bs S)] w fun e w' => ∃ v', e = .returned (.tuple #[v', tpVal Tp.zero, .int .i64 6]) ∧ IsDrive w' v' Drv.zero ∧ Below w.heap.size w w') := hide (fun h2 v w h => by
          have h := append_any v D0 ⟨0, (E - 1 : Nat), k, 1⟩ S w h (by unfold Tp.In; dsimp only; omega) HQ.out HSL.out
          rw [HRG.out h2] at h
          exact h)
        clear hD HRA HRF HRG HK6 hS hD0 HSL
        have hE14 : E ≤ 14 := by omega
        go_upto_region 9 with fail
        refine (HLO.out _).mono ?_
        rintro e w2 ⟨rfl, hb2⟩
        obtain ⟨s, hs⟩ : ∃ s, bs S = s := ⟨_, rfl⟩
        rw [hs] at HAP HAG ⊢
        clear hs HLO
        go_upto_region 9 with fail
        rw [rk]
        go_cut [13, 14] (fun s13 s14 wx => ∃ c : Nat, s13 = .pointer (some ⟨c, 0, none⟩) ∧ s14 = .int .i64 0 ∧ Blk wx c (tpCells ⟨0, E, E, 2⟩) 60 ∧ Below w2.heap.size w2 wx)
        case first =>
          go_wp2_with fail
          refine (HSO.out _).mono ?_
          rintro e w3 ⟨v3, rfl, hd3, hb3⟩
          go_wp2_with fail
          refine (HAP.out _ _ hd3).mono ?_
          rintro e w4 ⟨v4, rfl, hd4, hb4⟩
          have hb5 := chain hb3 hb4
          obtain ⟨u1, m1, t1, u2, m2, t2, fu, of, rfl, _⟩ := hd4
          unfold drvVal tpVal
          clear hb3 hb4 hd3
          go_wp2_with fail
          go_meet
          have hT := Blk.new (w4.alloc (.cells #[.slice u1 m1 t1, .slice u2 m2 t2, .int .i64 fu, .bool of] 25)) (tpCells ⟨0, E, E, 2⟩) 60
          rw [show (w4.alloc (.cells #[.slice u1 m1 t1, .slice u2 m2 t2, .int .i64 fu, .bool of] 25)).heap.size = w4.heap.size + 1 by simp] at hT
          exact ⟨_, rfl, rfl, hT, (hb5.alloc hb5.size _).alloc (by have := hb5.size; simp; omega) _⟩
        case rest =>
          obtain ⟨wy, rfl⟩ : ∃ wy, wy = wc := ⟨_, rfl⟩
          obtain ⟨c, rfl, rfl, hT, hb3⟩ := hcut
          have hb4 := chain hb2 hb3
          unfold tpCells at hT
          simp only at hT
          obtain ⟨q0, q1, q2, q3, q4, q5, q6, q7⟩ := hT.four
          have hlt := hT.lt
          clear hb2 hb3 HAP
          by_cases h1 : E = 1
          · subst h1
            go_wp2_with fail
            refine (HAW.out _).mono ?_
            rintro e w4 ⟨rfl, hbw⟩
            have hb5 := chain hb4 hbw
            go_wp2_with fail
            go_ret
            exact ⟨rfl, hb5⟩
          · have hE2 : 2 ≤ E := by omega
            have HAF := hide (HAG.out hE2)
            obtain ⟨F, hF⟩ : ∃ F, E - 1 = F := ⟨_, rfl⟩
            rw [hF] at HAF
            have hFi : (E : Int) - 1 = (F : Int) := by omega
            clear hF HAG
            go_upto_region 14 with fail
            go_cut [17] (fun s17 wx => s17 = .int .i64 6 ∧ Below wy.heap.size wy wx)
            case first =>
              go_wp2_with fail
              refine (HSO.out _).mono ?_
              rintro e w3 ⟨v3, rfl, hd3, hb3⟩
              go_wp2_with fail
              refine (HAF.out _ _ hd3).mono ?_
              rintro e w4 ⟨v4, rfl, hd4, hb4⟩
              have hb5 := chain hb3 hb4
              obtain ⟨u1, m1, t1, u2, m2, t2, fu, of, rfl, _⟩ := hd4
              unfold drvVal tpVal Tp.zero
              clear hb3 hb4 hd3
              go_wp2_with fail
              go_meet
              exact ⟨rfl, (hb5.alloc hb5.size _).alloc (by have := hb5.size; simp; omega) _⟩
            case rest =>
              obtain ⟨wz, rfl⟩ : ∃ wz, wz = wc := ⟨_, rfl⟩
              obtain ⟨rfl, hb5⟩ := hcut
              have hb6 := chain hb4 hb5
              clear q0 q1 q2 q3 q4 q5 q6 q7 hT hb4 hb5 hlt
              go_wp2_with fail
              refine (HAW.out _).mono ?_
              rintro e w7 ⟨rfl, hbw⟩
              have hb8 := chain hb6 hbw
              clear hbw hb6
              go_wp2_with fail
              go_ret
              exact ⟨rfl, hb8⟩

theorem u16_bd {a : Int} (h : (Lit.int .u16 a).wf = true) : ∃ n : Nat, a = (n : Int) ∧ n < 65536 := by
  have h2 : 0 ≤ a ∧ a < 65536 := by
    simp [Lit.wf, IntKind.min, IntKind.max, IntKind.bits, IntKind.signed] at h
    omega
  exact ⟨a.toNat, by omega, by omega⟩
theorem rooms_frame (a : Int) (ha : (Lit.int .u16 a).wf = true) (b : Int) (hb : (Lit.int .u16 b).wf = true) (c : Int) (hc : (Lit.int .u8 c).wf = true) (w : World) :
    Calls Try.prog 13 #[.int .u16 a, .int .u16 b, .int .u8 c] w fun e w' => e = .returned (.bool true) ∧ Below w.heap.size w w' := by
  obtain ⟨x, rfl, hx⟩ := u16_bd ha
  obtain ⟨y, rfl, hy⟩ := u16_bd hb
  obtain ⟨z, rfl⟩ := u8_byte hc
  exact rooms_walk x y z.toNat w hx hy z.toNat_lt

end Go.Proofs.Ytkapdmhjhbmdjaa
