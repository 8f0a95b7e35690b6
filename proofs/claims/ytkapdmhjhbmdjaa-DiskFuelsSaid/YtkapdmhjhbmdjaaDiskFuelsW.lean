/-
  The walk through the statement DiskFuels: it returns true.
-/
import Derived.Test.YtkapdmhjhbmdjaaFuelLaw
import Derived.Test.YtkapdmhjhbmdjaaOpenMore
namespace Go.Proofs.Ytkapdmhjhbmdjaa
open Go.RowKit

theorem new_five : Drv.new 5 = (⟨List.replicate 5 blank, [], -1, false⟩, 0) := by kernel_rfl
theorem five_may (n : Nat) : (⟨List.replicate 5 blank, [], (n : Int), false⟩ : Drv).May := ⟨by simp, by simp, by simp only; omega, (by intro c hc; rw [List.eq_of_mem_replicate hc]; rfl), by intro w hw; cases hw⟩
theorem tell_five (n : Nat) : (⟨List.replicate 5 blank, [], -1, false⟩ : Drv).tell (n : Int) = (⟨List.replicate 5 blank, [], (n : Int), false⟩, 0) := by
  unfold Drv.tell
  rw [if_neg (by
    have : (⟨List.replicate 5 blank, [], -1, false⟩ : Drv).mayB = true := by kernel_rfl
    rw [this]
    simp
    try omega)]

set_option maxRecDepth 100000 in
set_option maxHeartbeats 12800000 in
theorem fuels_walk (fu : UInt8) (ao : Option Addr) (n c : Nat) (l : List UInt8) (w : World) (h : Octs w ao n l) (hnc : n ≤ c ∧ c ≤ 9223372036854775807) :
    Calls Try.prog 8 #[.int .u8 (fu.toNat : Int), .slice ao n c] w fun e w' => e = .returned (.bool true) ∧ Below w.heap.size w w' := by
  have HO := hide h
  have HNC := hide hnc
  have hnc1 : n ≤ 9223372036854775807 := by omega
  have HN : Hid (∀ w, Calls Try.prog 33 #[.int .i64 5] w fun e w' => ∃ v, e = .returned (.tuple #[v, .int .i64 0]) ∧ IsDrive w' v ⟨List.replicate 5 blank, [], -1, false⟩ ∧ Below w.heap.size w w') := hide (fun w => by
    have := new_any 5 w
    rw [new_five] at this
    exact this)
  obtain ⟨m0, hm0⟩ : ∃ m : Nat, fu.toNat % 24 = m := ⟨_, rfl⟩
  have hm24 : m0 < 24 := by omega
  have HT : Hid (∀ (v : Value) (w : World), IsDrive w v ⟨List.replicate 5 blank, [], -1, false⟩ → Calls Try.prog 22 #[v, .int .i64 (m0 : Int)] w fun e w' => ∃ v', e = .returned (.tuple #[v', .int .i64 0]) ∧ IsDrive w' v' ⟨List.replicate 5 blank, [], (m0 : Int), false⟩ ∧ Below w.heap.size w w') := hide (fun v w h => by
    have := tell_any v ⟨List.replicate 5 blank, [], -1, false⟩ m0 w h (by omega)
    rw [tell_five] at this
    exact this)
  have HA := hide (fun w => lawawake_any w)
  have hmi : ((fu.toNat : Int) % 24) = (m0 : Int) := by omega
  have hfb : fu.toNat < 256 := fu.toNat_lt
  obtain ⟨z, hz⟩ : ∃ z, fu.toNat = z := ⟨_, rfl⟩
  rw [hz] at hmi hfb
  rw [hz]
  have HC5 := hide (show (⟨List.replicate 5 blank, [], (m0 : Int), false⟩ : Drv).cells.length = 5 from rfl)
  have HMY := hide (five_may m0)
  clear h hnc hm0 hz
  go_enter Try.func8, Try.ntmps8
  go_wp2_with fail
  refine (HN.out _).mono ?_
  rintro e w1 ⟨v1, rfl, hd1, hb1⟩
  have HD1 := hide hd1
  obtain ⟨a1, n1, c1, a2, n2, c2, f1, o1, rfl, _⟩ := hd1
  unfold drvVal at HD1 ⊢
  have hal : Below w1.heap.size w1 (w1.alloc (.cells #[.slice a1 n1 c1, .slice a2 n2 c2, .int .i64 f1, .bool o1] 25)) := (Below.refl _ _).alloc (Nat.le_refl _) _
  have K1 := Blk.new w1 [.slice a1 n1 c1, .slice a2 n2 c2, .int .i64 f1, .bool o1] 25
  have HD2 := hide (HD1.out.below hal)
  have hb2 := chain hb1 hal
  have hw1 := hb1.size
  obtain ⟨p0, p1, p2, p3, p4, p5, p6, p7⟩ := K1.four
  clear hal hb1 HD1
  go_wp2_with fail
  refine (HT.out _ _ HD2.out).mono ?_
  rintro e w3 ⟨v3, rfl, hd3, hb3⟩
  have K3 := K1.next hb3
  have hb4 := chain hb2 hb3
  have HD3 := hide hd3
  obtain ⟨a1', n1', c1', a2', n2', c2', f1', o1', rfl, _⟩ := hd3
  unfold drvVal at HD3 ⊢
  clear p0 p1 p2 p3 p4 p5 p6 p7 K1 HD2 hb2 hb3
  obtain ⟨p0, p1, p2, p3, p4, p5, p6, p7⟩ := K3.four
  obtain ⟨W4, hW4⟩ : ∃ W4, (((w3.setCell ⟨w1.heap.size, 0, none⟩ (.slice a1' n1' c1')).setCell ⟨w1.heap.size, 1, none⟩ (.slice a2' n2' c2')).setCell ⟨w1.heap.size, 2, none⟩ (.int .i64 f1')).setCell ⟨w1.heap.size, 3, none⟩ (.bool o1') = W4 := ⟨_, rfl⟩
  have L4 : Blk W4 w1.heap.size [.slice a1' n1' c1', .slice a2' n2' c2', .int .i64 f1', .bool o1'] 25 := by rw [← hW4]; exact K3.set4 _ _ _ _
  have HD4 : Hid (IsDrive W4 (.agg #[.slice a1' n1' c1', .slice a2' n2' c2', .int .i64 f1', .bool o1']) ⟨List.replicate 5 blank, [], (m0 : Int), false⟩) := hide (by rw [← hW4]; exact HD3.out.set4 (blk_holds K3) _ _ _ _)
  have hb5 : Below w.heap.size w W4 := by rw [← hW4]; exact below4 hb4 hw1 _ _ _ _
  go_wp2_with fail
  clear hW4 p0 p1 p2 p3 p4 p5 p6 p7 K3 HD3 hb4
  go_loopw [7, 9] (fun nv i wr => ∃ (k m : Nat) (cs : List (List UInt8)) (q : List Wt) (v : Value), k ≤ n ∧ k ≤ 30 ∧ m ≤ 24 ∧ i = .int .i64 k ∧ nv = .int .i64 m ∧ Holds wr w1.heap.size v ∧ IsDrive wr v ⟨cs, q, (m : Int), false⟩ ∧ (⟨cs, q, (m : Int), false⟩ : Drv).May ∧ cs.length = 5 ∧ q.length ≤ 3 * k ∧ Below w.heap.size w wr) (fun _ i _ => 30 - (intOf i).toNat)
  case atStart => exact ⟨0, m0, List.replicate 5 blank, [], _, Nat.zero_le _, by omega, by omega, rfl, rfl, blk_holds L4, HD4.out, HMY.out, HC5.out, by simp, hb5⟩
  case round =>
    obtain ⟨k, m, cs, q, v, hk, hk30, hm, rfl, rfl, hH, hD, hmay, hc5, hql, hbr⟩ := hrel
    clear L4 HD4 hb5
    by_cases hkt : k < n ∧ k < 30
    · obtain ⟨hkn, hk3⟩ := hkt
      obtain ⟨a1, n1, c1, a2, n2, c2, f1, o1, rfl, K⟩ := hH
      unfold drvVal at hD
      obtain ⟨kb, ko, hkb, hix, hkc⟩ := (HO.out.below hbr).at c k hkn
      obtain ⟨z, hz⟩ : ∃ z, (l.getD k 0).toNat = z := ⟨_, rfl⟩
      have hz256 : z < 256 := by rw [← hz]; exact (l.getD k 0).toNat_lt
      rw [hz] at hkc
      have hkw : kb < w.heap.size ∨ True := .inr trivial
      clear hz
      have hfs := flush_steps cs q m hmay
      have hws := write_steps cs q m hmay
      have HFL := hide (fun (v : Value) (w : World) (h : IsDrive w v ⟨cs, q, (m : Int), false⟩) => flush_any v _ w h)
      have HWR := hide (fun (p nd : Nat) (hp : p ≤ 1) (hnd : nd ≤ 3) (v : Value) (w : World) (h : IsDrive w v ⟨cs, q, (m : Int), false⟩) => write_any v _ (p : Int) (List.replicate (64 * nd) 97) w h (by simp only; omega) (by omega) (by rw [List.length_replicate]; omega))
      have HWS := hide (fun (p nd : Nat) (hp : p ≤ 1) (hn1 : 1 ≤ nd) (hnd : nd ≤ 3) => hws p nd hn1 (by rw [hc5]; omega) 97)
      have HAL := hide (fun (nd : Nat) (hnd : nd ≤ 3) (w : World) => all_any 97 nd w (by omega))
      have HDD := hide hD
      have HC := hide hc5
      have HQL := hide hql
      have HMY2 := hide hmay
      clear hws hD hc5 hql hmay
      obtain ⟨p0, p1, p2, p3, p4, p5, p6, p7⟩ := K.four
      have hKlt := K.lt
      by_cases hz4 : z % 4 = 0
      · obtain ⟨⟨X, E⟩, hX⟩ : ∃ p, Drv.flush ⟨cs, q, (m : Int), false⟩ = p := ⟨_, rfl⟩
        rw [hX] at HFL hfs
        have HFS := hide hfs
        have hneed : True := trivial
        have hzi : ((z : Int) % 4) = 0 := by omega
        clear hX hfs HWR HWS HAL hz4
        go_wp2_with fail
        refine (HFL.out _ _ HDD.out).mono ?_
        rintro e w5 ⟨v5, rfl, hd5, hb5⟩
        have HX0 := hide hd5
        obtain ⟨x1, y1, z1, x2, y2, z2, fx, ox, rfl, hDX⟩ := hd5
        have HXF0 := hide (And.intro hDX.fuel_eq hDX.off_eq)
        unfold drvVal at HX0 ⊢
        have K5 := K.next hb5
        have hb6 := chain hbr hb5
        have hkc5 : w5.cell? ⟨kb, ko, none⟩ = some (.int .u8 (z : Int)) := (hb5.cell (p := ⟨kb, ko, none⟩) hkb).trans hkc
        have hkb5 : kb < w5.heap.size := by have := hb5.size; omega
        have hal : Below w5.heap.size w5 (w5.alloc (.cells #[.slice x1 y1 z1, .slice x2 y2 z2, .int .i64 fx, .bool ox] 25)) := (Below.refl _ _).alloc (Nat.le_refl _) _
        have B10 := Blk.new w5 [.slice x1 y1 z1, .slice x2 y2 z2, .int .i64 fx, .bool ox] 25
        have K6 := K5.next hal
        have HX := hide (HX0.out.below hal)
        have hb7 := chain hb6 hal
        clear hDX hb5 p0 p1 p2 p3 p4 p5 p6 p7 K hal HX0
        obtain ⟨s0, s1, s2, s3, s4, s5, s6, s7⟩ := B10.four
        obtain ⟨k0, k1, k2, k3, k4, k5, k6, k7⟩ := K6.four
        have hltk := K6.lt
        have hlty := B10.lt
        rcases HFS.out.out with ⟨hle, hE, hxf, hxo⟩ | ⟨hlt, hE, hxo, hxf⟩
        · have hXe : Hid (X = ⟨X.cells, X.queue, ((m - 1 : Nat) : Int), false⟩) := hide (by rw [← hxf, ← hxo])
          have hmn : ((m : Int) - 1) = ((m - 1 : Nat) : Int) := by omega
          have HLE := hide hle
          have hdle : decide (1 ≤ m) = true := decide_eq_true hle
          have hdli : decide ((1 : Int) ≤ (m : Int)) = true := decide_eq_true (by omega)
          have hdlj : (1 : Int) ≤ (m : Int) := by omega
          have HXF := hide (And.intro hxf hxo)
          clear hxf hxo
          go_wp2_with fail
          go_roundw
          case rel => exact ⟨k + 1, m - 1, X.cells, X.queue, drvVal x1 y1 z1 x2 y2 z2 fx ox, by omega, by omega, by omega, by go_num, rfl, blk_holds (K6.set4 _ _ _ _), (by have h9 := HX.out.set4 (blk_holds K6) (.slice x1 y1 z1) (.slice x2 y2 z2) (.int .i64 fx) (.bool ox); rw [hXe.out] at h9; exact h9), (by rw [← hXe.out]; exact HFS.out.may), by rw [HFS.out.cells]; exact HC.out, (by have := HFS.out.queue; have := HQL.out; have := hneed; simp only at *; omega), below4 hb7 (by omega) _ _ _ _⟩
          case measure => simp [intOf]; omega
        · obtain ⟨rfl, rfl⟩ : fx = 0 ∧ ox = true := ⟨by rw [← HXF0.out.1, hxf], by rw [← HXF0.out.2, hxo]⟩
          have hmay := HFS.out.may
          have hc5 : X.cells.length = 5 := by rw [HFS.out.cells]; exact HC.out
          have HR := hide (fun (v : Value) (w : World) (h : IsDrive w v X) => read_any v X 0 1 w h (by decide) (by decide))
          rw [read_off hmay hc5 hxo] at HR
          have HCR := hide (fun (v : Value) (w : World) (h : IsDrive w v X) => crash_int v X 0 0 0 w h (by decide) (by decide) (by decide))
          have HRC := hide (fun (v : Value) (w : World) (h : IsDrive w v (X.crash 0 0 0)) => read_any v (X.crash 0 0 0) 0 1 w h (by decide) (by decide))
          rw [read_crash hmay hc5 0 0 0] at HRC
          have hdle : decide (1 ≤ m) = false := decide_eq_false (by omega)
          have hdli : decide ((1 : Int) ≤ (m : Int)) = false := decide_eq_false (by omega)
          have hdlj : (m : Int) < (1 : Int) := by omega
          clear hmay hc5 hxf hxo
          go_wp2_with fail
          refine (HR.out _ _ HX.out).mono ?_
          rintro e wa ⟨rfl, hba⟩
          have Ba := B10.next hba
          have HXa := hide (HX.out.below hba)
          have hbA := chain hb7 hba
          clear s0 s1 s2 s3 s4 s5 s6 s7 k0 k1 k2 k3 k4 k5 k6 k7 hba
          obtain ⟨s0, s1, s2, s3, s4, s5, s6, s7⟩ := Ba.four
          go_wp2_with fail
          refine (HCR.out _ _ HXa.out).mono ?_
          rintro e wb ⟨vb, rfl, hdb, hbb⟩
          have Bb := Ba.next hbb
          have hbB := chain hbA hbb
          have HDB := hide hdb
          clear hdb hbb s0 s1 s2 s3 s4 s5 s6 s7
          go_wp2_with fail
          refine (HRC.out _ _ HDB.out).mono ?_
          rintro e wd ⟨rfl, hbd⟩
          have Bd := Bb.next hbd
          have hbD := chain hbB hbd
          clear hbd
          obtain ⟨s0, s1, s2, s3, s4, s5, s6, s7⟩ := Bd.four
          go_wp2_with fail
          refine (HA.out _).mono ?_
          rintro e we ⟨rfl, hbe⟩
          go_wp2_with fail
          go_ret
          exact ⟨rfl, chain hbD hbe⟩
      · obtain ⟨nd, hnd⟩ : ∃ nd, z % 4 = nd := ⟨_, rfl⟩
        obtain ⟨p, hp⟩ : ∃ p, z / 4 % 2 = p := ⟨_, rfl⟩
        have hnd1 : 1 ≤ nd := by omega
        have hnd3 : nd ≤ 3 := by omega
        have hp1 : p ≤ 1 := by omega
        have hneed : nd ≤ 3 := hnd3
        have hzi : ((z : Int) % 4) = (nd : Int) := by omega
        have hzp : ((z : Int) / 4 % 2) = (p : Int) := by omega
        have hal := HAL.out nd hnd3
        have hwr := HWR.out p nd hp1 hnd3
        have hws := HWS.out p nd hp1 hnd1 hnd3
        obtain ⟨sl, hsl⟩ : ∃ s, bs (List.replicate (64 * nd) 97) = s := ⟨_, rfl⟩
        obtain ⟨⟨X, E⟩, hX⟩ : ∃ r, Drv.write ⟨cs, q, (m : Int), false⟩ p (List.replicate (64 * nd) 97) = r := ⟨_, rfl⟩
        rw [hX] at hwr hws
        rw [hsl] at hal hwr
        have HAL2 : Hid (∀ w, Calls Try.prog 34 #[.int .u8 97, .int .i64 (nd : Int)] w fun e w' => e = .returned (.string sl) ∧ Below w.heap.size w w') := hide hal
        have HWR2 := hide hwr
        have HFS := hide hws
        obtain ⟨⟨XF, EF⟩, hXF⟩ : ∃ r, Drv.flush ⟨cs, q, (m : Int), false⟩ = r := ⟨_, rfl⟩
        rw [hXF] at HFL
        clear hX hfs hwr hws hal hsl HWR HWS HAL hz4 hnd hp hXF
        go_wp2_with fail
        refine (HFL.out _ _ HDD.out).mono ?_
        rintro e w5 ⟨v5, rfl, hd5, hb5⟩
        obtain ⟨x1, y1, z1, x2, y2, z2, fx, ox, rfl, hDX⟩ := hd5
        unfold drvVal
        have K5 := K.next hb5
        have hb6 := chain hbr hb5
        have HDD5 := hide (HDD.out.below hb5)
        have hkc5 : w5.cell? ⟨kb, ko, none⟩ = some (.int .u8 (z : Int)) := (hb5.cell (p := ⟨kb, ko, none⟩) hkb).trans hkc
        have hkb5 : kb < w5.heap.size := by have := hb5.size; omega
        have hal : Below w5.heap.size w5 (w5.alloc (.cells #[.slice x1 y1 z1, .slice x2 y2 z2, .int .i64 fx, .bool ox] 25)) := (Below.refl _ _).alloc (Nat.le_refl _) _
        have B10 := Blk.new w5 [.slice x1 y1 z1, .slice x2 y2 z2, .int .i64 fx, .bool ox] 25
        have K6 := K5.next hal
        have HDD6 := hide (HDD5.out.below hal)
        have hb7 := chain hb6 hal
        have hkc6 : (w5.alloc (.cells #[.slice x1 y1 z1, .slice x2 y2 z2, .int .i64 fx, .bool ox] 25)).cell? ⟨kb, ko, none⟩ = some (.int .u8 (z : Int)) := (hal.cell (p := ⟨kb, ko, none⟩) hkb5).trans hkc5
        have hK5 : w1.heap.size < w5.heap.size := K5.lt
        have hne1 : w5.heap.size ≠ w1.heap.size := by omega
        have hne2 : w5.heap.size ≠ kb := by omega
        have hkb6 : kb < w5.heap.size + 1 := by omega
        have hK6 : w1.heap.size < w5.heap.size + 1 := by omega
        clear hDX hb5 p0 p1 p2 p3 p4 p5 p6 p7 K hal
        obtain ⟨p0, p1, p2, p3, p4, p5, p6, p7⟩ := K6.four
        go_wp2_with fail
        obtain ⟨W6, hW6⟩ : ∃ W6, w5.alloc (.cells #[.slice x1 y1 z1, .slice x2 y2 z2, .int .i64 fx, .bool ox] 25) = W6 := ⟨_, rfl⟩
        clear p0 p1 p2 p3 p4 p5 p6 p7
        rw [hW6] at B10 K6 HDD6 hb7 hkc6 ⊢
        clear hW6 hkb6 hK6
        obtain ⟨p0, p1, p2, p3, p4, p5, p6, p7⟩ := K6.four
        have hl6 := B10.lt
        have hpw : IntKind.i64.wrap ((IntKind.u8.wrap ((z : Int) / 4)).tmod 2) = (p : Int) := by
          have e1 : IntKind.u8.wrap ((z : Int) / 4) = (z : Int) / 4 := by rw [IntKind.wrap_u8']; omega
          rw [e1, Int.tmod_eq_emod_of_nonneg (by omega), hzp]
          exact IntWalk.i64_in _ (by omega)
        have hkb6 : kb < W6.heap.size := by omega
        have hK6 : w1.heap.size < W6.heap.size := K6.lt
        go_cut [11] (fun s11 wx => ∃ (x1 : Option Addr) (y1 z1 : Nat) (x2 : Option Addr) (y2 z2 : Nat) (fx : Int) (ox : Bool), s11 = .int .i64 E ∧ Blk wx w5.heap.size [.slice x1 y1 z1, .slice x2 y2 z2, .int .i64 fx, .bool ox] 25 ∧ IsDrive wx (.agg #[.slice x1 y1 z1, .slice x2 y2 z2, .int .i64 fx, .bool ox]) X ∧ Blk wx w1.heap.size [.slice a1 n1 c1, .slice a2 n2 c2, .int .i64 f1, .bool o1] 25 ∧ (X.fuel = fx ∧ X.off = ox) ∧ Below w.heap.size w wx)
        case first =>
          go_region_held3 (fun w' => w'.cell? ⟨w1.heap.size, 0, none⟩ = some (.slice a1 n1 c1) ∧ w'.cell? ⟨w1.heap.size, 1, none⟩ = some (.slice a2 n2 c2) ∧ w'.cell? ⟨w1.heap.size, 2, none⟩ = some (.int .i64 f1) ∧ w'.cell? ⟨w1.heap.size, 3, none⟩ = some (.bool o1) ∧ w'.cell? ⟨kb, ko, none⟩ = some (.int .u8 (z : Int))) (go_keep) (first
            | (go_at_call 34
               refine (HAL2.out _).mono ?_
               rintro e w6 ⟨rfl, hb⟩
               have hbq := hide (undrew1 hb)
               obtain ⟨hcc, hff⟩ := bcell hbq.out
               clear hb)
            | (go_at_call 29
               try rw [hpw]
               refine (HWR2.out _ _ (HDD6.out.below hbq.out)).mono ?_
               rintro e w7 ⟨v7, rfl, hd7, hb⟩
               have hbq7 := hide (chain hbq.out hb)
               have HX7 := hide hd7
               obtain ⟨u1, r1, t1, u2, r2, t2, fy, oy, rfl, hDY⟩ := hd7
               have HXF0 := hide (And.intro hDY.fuel_eq hDY.off_eq)
               unfold drvVal at HX7 ⊢
               obtain ⟨hcc7, hff7⟩ := bcell hbq7.out
               have B7 := B10.next hbq7.out
               have K7 := K6.next hbq7.out
               have hbV := chain hb7 hbq7.out
               obtain ⟨s0, s1, s2, s3, s4, s5, s6, s7⟩ := B7.four
               obtain ⟨k0, k1, k2, k3, k4, k5, k6, k7⟩ := K7.four
               have hl7 := B7.lt
               have hl8 := K7.lt
               have hkc7 : w7.cell? ⟨kb, ko, none⟩ = some (.int .u8 (z : Int)) := (hbq7.out.cell (p := ⟨kb, ko, none⟩) hkb6).trans hkc6
               have hne3 : w1.heap.size ≠ w5.heap.size := fun h => hne1 h.symm
               have hne4 : kb ≠ w5.heap.size := fun h => hne2 h.symm
               clear hb hDY hcc hff hcc7 hff7))
          go_wp2_with fail
          go_meet
          exact ⟨u1, r1, t1, u2, r2, t2, fy, oy, rfl, B7.set4 _ _ _ _, HX7.out.set4 (blk_holds B7) _ _ _ _, K7.other4 (by omega) _ _ _ _, HXF0.out, below4 hbV (by omega) _ _ _ _⟩
        case rest =>
          obtain ⟨wx, rfl⟩ : ∃ wx, wx = wc := ⟨_, rfl⟩
          clear p0 p1 p2 p3 p4 p5 p6 p7 B10 K6 K5 HDD6 HDD5 hb7 hb6
          obtain ⟨x1, y1, z1, x2, y2, z2, fx, ox, rfl, BB, hXd, KK, hxx, hbW⟩ := hcut
          have HX := hide hXd
          have HXF0 := hide hxx
          clear hXd hxx
          obtain ⟨s0, s1, s2, s3, s4, s5, s6, s7⟩ := BB.four
          obtain ⟨k0, k1, k2, k3, k4, k5, k6, k7⟩ := KK.four
          have hltk := KK.lt
          have hlty := BB.lt
          rcases HFS.out.out with ⟨hle, hE, hxf, hxo⟩ | ⟨hlt, hE, hxo, hxf⟩
          · have hXe : Hid (X = ⟨X.cells, X.queue, ((m - nd : Nat) : Int), false⟩) := hide (by rw [← hxf, ← hxo])
            have hmn : ((m : Int) - nd) = ((m - nd : Nat) : Int) := by omega
            have HLE := hide hle
            have hdle : decide (nd ≤ m) = true := decide_eq_true hle
            have hdli : decide ((nd : Int) ≤ (m : Int)) = true := decide_eq_true (by omega)
            have hdlj : (nd : Int) ≤ (m : Int) := by omega
            have HXF := hide (And.intro hxf hxo)
            clear hxf hxo
            go_wp2_with fail
            go_roundw
            case rel => exact ⟨k + 1, m - nd, X.cells, X.queue, drvVal x1 y1 z1 x2 y2 z2 fx ox, by omega, by omega, by omega, by go_num, rfl, blk_holds (KK.set4 _ _ _ _), (by have h9 := HX.out.set4 (blk_holds KK) (.slice x1 y1 z1) (.slice x2 y2 z2) (.int .i64 fx) (.bool ox); rw [hXe.out] at h9; exact h9), (by rw [← hXe.out]; exact HFS.out.may), by rw [HFS.out.cells]; exact HC.out, (by have := HFS.out.queue; have := HQL.out; have := hneed; simp only at *; omega), below4 hbW (by omega) _ _ _ _⟩
            case measure => simp [intOf]; omega
          · obtain ⟨rfl, rfl⟩ : fx = 0 ∧ ox = true := ⟨by rw [← HXF0.out.1, hxf], by rw [← HXF0.out.2, hxo]⟩
            have hmay := HFS.out.may
            have hc5 : X.cells.length = 5 := by rw [HFS.out.cells]; exact HC.out
            have HR := hide (fun (v : Value) (w : World) (h : IsDrive w v X) => read_any v X 0 1 w h (by decide) (by decide))
            rw [read_off hmay hc5 hxo] at HR
            have HCR := hide (fun (v : Value) (w : World) (h : IsDrive w v X) => crash_int v X 0 0 0 w h (by decide) (by decide) (by decide))
            have HRC := hide (fun (v : Value) (w : World) (h : IsDrive w v (X.crash 0 0 0)) => read_any v (X.crash 0 0 0) 0 1 w h (by decide) (by decide))
            rw [read_crash hmay hc5 0 0 0] at HRC
            have hdle : decide (nd ≤ m) = false := decide_eq_false (by omega)
            have hdli : decide ((nd : Int) ≤ (m : Int)) = false := decide_eq_false (by omega)
            have hdlj : (m : Int) < (nd : Int) := by omega
            clear hmay hc5 hxf hxo
            go_wp2_with fail
            refine (HR.out _ _ HX.out).mono ?_
            rintro e wa ⟨rfl, hba⟩
            have Ba := BB.next hba
            have HXa := hide (HX.out.below hba)
            have hbA := chain hbW hba
            clear s0 s1 s2 s3 s4 s5 s6 s7 k0 k1 k2 k3 k4 k5 k6 k7 hba
            obtain ⟨s0, s1, s2, s3, s4, s5, s6, s7⟩ := Ba.four
            go_wp2_with fail
            refine (HCR.out _ _ HXa.out).mono ?_
            rintro e wb ⟨vb, rfl, hdb, hbb⟩
            have Bb := Ba.next hbb
            have hbB := chain hbA hbb
            have HDB := hide hdb
            clear hdb hbb s0 s1 s2 s3 s4 s5 s6 s7
            go_wp2_with fail
            refine (HRC.out _ _ HDB.out).mono ?_
            rintro e wd ⟨rfl, hbd⟩
            have Bd := Bb.next hbd
            have hbD := chain hbB hbd
            clear hbd
            obtain ⟨s0, s1, s2, s3, s4, s5, s6, s7⟩ := Bd.four
            go_wp2_with fail
            refine (HA.out _).mono ?_
            rintro e we ⟨rfl, hbe⟩
            go_wp2_with fail
            go_ret
            exact ⟨rfl, chain hbD hbe⟩
    · have hend : n ≤ k ∨ (k < n ∧ 30 ≤ k) := by omega
      clear hkt hmay hD hH
      rcases hend with hend | ⟨h1, h2⟩
      all_goals
        go_wp2_with fail
        refine (HA.out _).mono ?_
        rintro e w7 ⟨rfl, hb⟩
        go_wp2_with fail
        go_ret
        exact ⟨rfl, chain hbr hb⟩

/-- The walk, as the frame calls it. -/
theorem fuels_frame (fu : Int) (hf : (Lit.int .u8 fu).wf = true) (ao : Option Addr) (n c : Nat) (l : List UInt8) {w : World} (h : Octs w ao n l) (h1 : n ≤ c) (h2 : c ≤ 9223372036854775807) (_ : True) (w' : World) (e : w' = w := by rfl) :
    Calls Try.prog 8 #[.int .u8 fu, .slice ao n c] w' fun e w2 => e = .returned (.bool true) ∧ Below w'.heap.size w' w2 := by
  subst e
  obtain ⟨x, rfl⟩ := u8_byte hf
  exact fuels_walk x ao n c l _ h ⟨h1, h2⟩

end Go.Proofs.Ytkapdmhjhbmdjaa
