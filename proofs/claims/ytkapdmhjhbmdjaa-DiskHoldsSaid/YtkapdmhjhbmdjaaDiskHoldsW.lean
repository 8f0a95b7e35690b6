/-
  The walk through the statement DiskHolds: it returns true.
-/
import Derived.Test.YtkapdmhjhbmdjaaHoldsLaw
import Derived.Test.YtkapdmhjhbmdjaaOpenMore
import Derived.Deep.CutBlock
namespace Go.Proofs.Ytkapdmhjhbmdjaa
open Go.RowKit

theorem new_four : Drv.new 4 = (⟨List.replicate 4 blank, [], -1, false⟩, 0) := by kernel_rfl
theorem four_may : (⟨List.replicate 4 blank, [], -1, false⟩ : Drv).May := ⟨by simp, by simp, by simp, (by intro c hc; rw [List.eq_of_mem_replicate hc]; rfl), by intro w hw; cases hw⟩

/-- An octet of a string. -/
theorem str_at (l : List UInt8) (k : Nat) (hk : k < l.length) : ∃ (s : ByteArray) (z : Nat), bs l = s ∧ ∃ h : k < s.size, s[k].toNat = z ∧ z = (l.getD k 0).toNat ∧ z < 256 := by
  refine ⟨bs l, (l.getD k 0).toNat, rfl, by rw [bs_size]; exact hk, ?_, rfl, (l.getD k 0).toNat_lt⟩
  rw [List.getD_eq_getElem?_getD, List.getElem?_eq_getElem hk]
  rfl

/-- What the innermost loop has found: the octet is the flushed one, or some write that waits says it. -/
def SameTo (q : List Wt) (a : Int) (k vy : Nat) (e0 : Bool) (i : Nat) (same : Bool) : Prop := same = true ∨ (same = false ∧ e0 = false ∧ ∀ j, j < i → ¬ ((q.getD j ⟨0, []⟩).pos = a ∧ ((q.getD j ⟨0, []⟩).s.getD k 0).toNat = vy))
theorem SameTo.next_true {q : List Wt} {a : Int} {k vy : Nat} {e0 : Bool} {i : Nat} (_h : SameTo q a k vy e0 i true) : SameTo q a k vy e0 (i + 1) true := .inl rfl
theorem SameTo.next_false {q : List Wt} {a : Int} {k vy : Nat} {e0 : Bool} {i : Nat} (h : SameTo q a k vy e0 i false) {e1 : Bool} (he : e1 = true ↔ ((q.getD i ⟨0, []⟩).pos = a ∧ ((q.getD i ⟨0, []⟩).s.getD k 0).toNat = vy)) : SameTo q a k vy e0 (i + 1) e1 := by
  cases e1 with
  | true => exact .inl rfl
  | false =>
    rcases h with h | ⟨_, h2, h3⟩
    · cases h
    · refine .inr ⟨rfl, h2, fun j hj => ?_⟩
      by_cases hji : j = i
      · subst hji; intro hc; have := he.2 hc; cases this
      · exact h3 j (by omega)
theorem SameTo.done {q : List Wt} {a : Int} {k vy : Nat} {e0 : Bool} {i : Nat} {same : Bool} (h : SameTo q a k vy e0 i same) (hx : e0 = true ∨ ∃ j, j < i ∧ (q.getD j ⟨0, []⟩).pos = a ∧ ((q.getD j ⟨0, []⟩).s.getD k 0).toNat = vy) : same = true := by
  rcases h with h | ⟨_, h2, h3⟩
  · exact h
  · rcases hx with hx | ⟨j, hj, h4, h5⟩
    · rw [hx] at h2; cases h2
    · exact absurd ⟨h4, h5⟩ (h3 j hj)

/-- What the second loop keeps: the loss, and the flushed drive in its box. -/
def Kp2 (w : World) (b0 b7 : Nat) (kept : Nat) (tn cut : Int) (a1 : Option Addr) (c1 : Nat) (a2 : Option Addr) (c2 : Nat) (cs : List (List UInt8)) : Prop :=
  Blk w b0 [.int .u64 kept, .int .i64 tn, .int .i64 cut] 28 ∧ Blk w b7 [.slice a1 4 c1, .slice a2 0 c2, .int .i64 (-1), .bool false] 25 ∧ IsDrive w (.agg #[.slice a1 4 c1, .slice a2 0 c2, .int .i64 (-1), .bool false]) ⟨cs, [], -1, false⟩
theorem Kp2.next {w w' : World} {b0 b7 kept : Nat} {tn cut : Int} {a1 : Option Addr} {c1 : Nat} {a2 : Option Addr} {c2 : Nat} {cs : List (List UInt8)} (h : Kp2 w b0 b7 kept tn cut a1 c1 a2 c2 cs) (hb : Below w.heap.size w w') : Kp2 w' b0 b7 kept tn cut a1 c1 a2 c2 cs :=
  ⟨h.1.next hb, h.2.1.next hb, h.2.2.below hb⟩
theorem Kp2.lt {w : World} {b0 b7 kept : Nat} {tn cut : Int} {a1 : Option Addr} {c1 : Nat} {a2 : Option Addr} {c2 : Nat} {cs : List (List UInt8)} (h : Kp2 w b0 b7 kept tn cut a1 c1 a2 c2 cs) : b0 < w.heap.size := h.1.lt
theorem Kp2.lt7 {w : World} {b0 b7 kept : Nat} {tn cut : Int} {a1 : Option Addr} {c1 : Nat} {a2 : Option Addr} {c2 : Nat} {cs : List (List UInt8)} (h : Kp2 w b0 b7 kept tn cut a1 c1 a2 c2 cs) : b7 < w.heap.size := h.2.1.lt
theorem Kp2.other4 {w : World} {b0 b7 kept : Nat} {tn cut : Int} {a1 : Option Addr} {c1 : Nat} {a2 : Option Addr} {c2 : Nat} {cs : List (List UInt8)} (h : Kp2 w b0 b7 kept tn cut a1 c1 a2 c2 cs) {b : Nat} (h0 : b0 ≠ b) (h7 : b7 ≠ b) {u : Value} (hu : Holds w b u) (v0 v1 v2 v3 : Value) : Kp2 ((((w.setCell ⟨b, 0, none⟩ v0).setCell ⟨b, 1, none⟩ v1).setCell ⟨b, 2, none⟩ v2).setCell ⟨b, 3, none⟩ v3) b0 b7 kept tn cut a1 c1 a2 c2 cs :=
  ⟨h.1.other4 h0 _ _ _ _, h.2.1.other4 h7 _ _ _ _, h.2.2.set4 hu _ _ _ _⟩

set_option maxRecDepth 100000 in
set_option maxHeartbeats 12800000 in
theorem holds_walk (ao bo : Option Addr) (n c n' c' : Nat) (qa qb : List Wt) (kept : Nat) (tn cut : Int) (w : World) (ha : Waits w ao n qa) (hb : Waits w bo n' qb) (hnc : n ≤ c ∧ c ≤ 9223372036854775807) (hnc' : n' ≤ c' ∧ c' ≤ 9223372036854775807)
    (hal : ∀ y ∈ qa, y.s.length ≤ 9223372036854775807) (hbl : ∀ y ∈ qb, y.s.length ≤ 9223372036854775807)
    (hk : kept < 18446744073709551616) (ht : -9223372036854775808 ≤ tn ∧ tn < 9223372036854775808) (hcut : -9223372036854775808 ≤ cut ∧ cut < 9223372036854775808) :
    Calls Try.prog 5 #[.slice ao n c, .slice bo n' c', .agg #[.int .u64 kept, .int .i64 tn, .int .i64 cut]] w fun e w' => e = .returned (.bool true) ∧ Below w.heap.size w w' := by
  have HOA := hide ha
  have HOB := hide hb
  have HNC := hide hnc
  have HNC2 := hide hnc'
  have HAL := hide hal
  have HBL := hide hbl
  have HK := hide hk
  have HT := hide ht
  have HCU := hide hcut
  have hn1 : n ≤ 9223372036854775807 := by omega
  have hn2 : n' ≤ 9223372036854775807 := by omega
  have HN : Hid (∀ w, Calls Try.prog 33 #[.int .i64 4] w fun e w' => ∃ v, e = .returned (.tuple #[v, .int .i64 0]) ∧ IsDrive w' v ⟨List.replicate 4 blank, [], -1, false⟩ ∧ Below w.heap.size w w') := hide (fun w => by
    have := new_any 4 w
    rw [new_four] at this
    exact this)
  have HA := hide (fun w => lawawake_any w)
  have hbx : Below w.heap.size w (w.alloc (.cells #[.int .u64 kept, .int .i64 tn, .int .i64 cut] 28)) := (Below.refl _ _).alloc (Nat.le_refl _) _
  have BL0 := Blk.new w [.int .u64 kept, .int .i64 tn, .int .i64 cut] 28
  clear ha hb hnc hnc' hal hbl hk ht hcut
  go_enter Try.func5, Try.ntmps5
  go_wp2_with fail
  refine (HN.out _).mono ?_
  rintro e w1 ⟨v1, rfl, hd1, hb1⟩
  have HD1 := hide hd1
  obtain ⟨a1, n1, c1, a2, n2, c2, f1, o1, rfl, _⟩ := hd1
  unfold drvVal at HD1 ⊢
  have hal : Below w1.heap.size w1 (w1.alloc (.cells #[.slice a1 n1 c1, .slice a2 n2 c2, .int .i64 f1, .bool o1] 25)) := (Below.refl _ _).alloc (Nat.le_refl _) _
  have K1 := Blk.new w1 [.slice a1 n1 c1, .slice a2 n2 c2, .int .i64 f1, .bool o1] 25
  have BL1 := BL0.next (chain hb1 hal)
  have HD2 := hide (HD1.out.below hal)
  have hb2 := chain (chain hbx hb1) hal
  have hw1 := (chain hbx hb1).size
  have hl1 : w.heap.size < w1.heap.size := (BL0.next hb1).lt
  clear hal hb1 HD1 BL0 hbx
  go_upto_block 0 with fail
  have L4 := K1
  have HM4 := hide four_may
  go_cut [] (fun wx => ∃ (q : List Wt) (v : Value), Holds wx w1.heap.size v ∧ IsDrive wx v ⟨List.replicate 4 blank, q, -1, false⟩ ∧ (⟨List.replicate 4 blank, q, -1, false⟩ : Drv).May ∧ q.length ≤ 90 ∧ Blk wx w.heap.size [.int .u64 kept, .int .i64 tn, .int .i64 cut] 28 ∧ Below w.heap.size w wx)
  case first =>
    go_wp2_with fail
    go_loopw [9] (fun i wr => ∃ (k : Nat) (q : List Wt) (v : Value), k ≤ n ∧ k ≤ 9 ∧ i = .int .i64 k ∧ Holds wr w1.heap.size v ∧ IsDrive wr v ⟨List.replicate 4 blank, q, -1, false⟩ ∧ (⟨List.replicate 4 blank, q, -1, false⟩ : Drv).May ∧ q.length ≤ 10 * k ∧ Blk wr w.heap.size [.int .u64 kept, .int .i64 tn, .int .i64 cut] 28 ∧ Below w.heap.size w wr) (fun i _ => 9 - (intOf i).toNat)
    case atStart => exact ⟨0, [], _, Nat.zero_le _, by omega, rfl, blk_holds L4, HD2.out, HM4.out, by simp, BL1, hb2⟩
    case round =>
      obtain ⟨k, q, v, hk, hk9, rfl, hH, hD, hmay, hql, BL, hbr⟩ := hrel
      clear L4 K1 HD2 hb2 HM4
      by_cases hkt : k < n ∧ k < 9
      · obtain ⟨hkn, hk3⟩ := hkt
        obtain ⟨a1, n1, c1, a2, n2, c2, f1, o1, rfl, K⟩ := hH
        unfold drvVal at hD
        obtain ⟨kb, ko, hkb, hix, hkp, hks⟩ := (HOA.out.below hbr).at c k hkn
        have HDD := hide hD
        have HQL := hide hql
        have HMY2 := hide hmay
        clear hD hql hmay
        obtain ⟨p0, p1, p2, p3, p4, p5, p6, p7⟩ := K.four
        have hKlt := K.lt
        have hrg : -9223372036854775808 ≤ (qa.getD k ⟨0, []⟩).pos ∧ (qa.getD k ⟨0, []⟩).pos < 9223372036854775808 := by
          have hkl : k < qa.length := by rw [HOA.out.len]; exact hkn
          rw [List.getD_eq_getElem?_getD, List.getElem?_eq_getElem hkl]
          exact HOA.out.range _ (List.getElem_mem hkl)
        have hsl : (qa.getD k ⟨0, []⟩).s.length ≤ 9223372036854775807 := by
          have hkl : k < qa.length := by rw [HOA.out.len]; exact hkn
          rw [List.getD_eq_getElem?_getD, List.getElem?_eq_getElem hkl]
          exact HAL.out _ (List.getElem_mem hkl)
        obtain ⟨pp, hpp⟩ : ∃ x, (qa.getD k ⟨0, []⟩).pos = x := ⟨_, rfl⟩
        obtain ⟨ss, hss⟩ : ∃ x, (qa.getD k ⟨0, []⟩).s = x := ⟨_, rfl⟩
        rw [hpp] at hkp hrg
        rw [hss] at hks hsl
        have hwf := write_full (List.replicate 4 blank) q HMY2.out pp (ss.take 640) (by rw [List.length_take]; omega)
        have HWR := hide (fun (v : Value) (w : World) (h : IsDrive w v ⟨List.replicate 4 blank, q, -1, false⟩) => write_any v _ pp (ss.take 640) w h (by have := HQL.out; simp only; omega) hrg (by rw [List.length_take]; omega))
        have HOC := hide (fun w => octets_any ss w (by omega))
        obtain ⟨⟨X, E⟩, hX⟩ : ∃ r, Drv.write ⟨List.replicate 4 blank, q, -1, false⟩ pp (ss.take 640) = r := ⟨_, rfl⟩
        obtain ⟨sv, hsv⟩ : ∃ x, bs ss = x := ⟨_, rfl⟩
        obtain ⟨so, hso⟩ : ∃ x, bs (ss.take 640) = x := ⟨_, rfl⟩
        rw [hX] at hwf HWR
        rw [hso] at HWR HOC
        rw [hsv] at HOC hks
        have HWF := hide hwf
        clear hwf hX hrg hsl hpp hss hsv hso
        go_wp2_with fail
        go_cut [10, 11] (fun s10 s11 wx => ∃ (b : Nat) (x1 : Option Addr) (y1 z1 : Nat) (x2 : Option Addr) (y2 z2 : Nat) (fx : Int) (ox : Bool), s10 = .pointer (some ⟨b, 0, none⟩) ∧ s11 = .int .i64 E ∧ b ≠ w1.heap.size ∧ b ≠ w.heap.size ∧ Blk wx b [.slice x1 y1 z1, .slice x2 y2 z2, .int .i64 fx, .bool ox] 25 ∧ IsDrive wx (.agg #[.slice x1 y1 z1, .slice x2 y2 z2, .int .i64 fx, .bool ox]) X ∧ Blk wx w1.heap.size [.slice a1 n1 c1, .slice a2 n2 c2, .int .i64 f1, .bool o1] 25 ∧ IsDrive wx (.agg #[.slice a1 n1 c1, .slice a2 n2 c2, .int .i64 f1, .bool o1]) ⟨List.replicate 4 blank, q, -1, false⟩ ∧ Blk wx w.heap.size [.int .u64 kept, .int .i64 tn, .int .i64 cut] 28 ∧ Below w.heap.size w wx)
        case first =>
          go_region_held3 (fun w' => w'.cell? ⟨w1.heap.size, 0, none⟩ = some (.slice a1 n1 c1) ∧ w'.cell? ⟨w1.heap.size, 1, none⟩ = some (.slice a2 n2 c2) ∧ w'.cell? ⟨w1.heap.size, 2, none⟩ = some (.int .i64 f1) ∧ w'.cell? ⟨w1.heap.size, 3, none⟩ = some (.bool o1) ∧ w'.cell? ⟨kb, ko, none⟩ = some (.int .i64 pp) ∧ w'.cell? ⟨kb, ko + 1, none⟩ = some (.string sv)) (go_keep) (first
            | (go_at_call 28
               refine (HOC.out _).mono ?_
               rintro e w6 ⟨rfl, hb⟩
               have hb' := undrew1 hb
               have hbq : Below wr.heap.size wr w6 := by first | exact hb' | exact chain ((Below.refl _ _).alloc (Nat.le_refl _) _) hb'
               have K5 := K.next hbq
               have BL5 := BL.next hbq
               have HD5 := hide (HDD.out.below hbq)
               have hb7 := chain hbr hbq
               have hkp5 : w6.cell? ⟨kb, ko, none⟩ = some (.int .i64 pp) := (hbq.cell (p := ⟨kb, ko, none⟩) hkb).trans hkp
               have hks5 : w6.cell? ⟨kb, ko + 1, none⟩ = some (.string sv) := (hbq.cell (p := ⟨kb, ko + 1, none⟩) hkb).trans hks
               have hkb5 : kb < w6.heap.size := by have := hbq.size; omega
               first
                 | (have Z5 := (Blk.new wr [.slice none 0 0, .slice none 0 0, .int .i64 0, .bool false] 25).next hb')
                 | skip
               have hl5 : w1.heap.size < w6.heap.size := K5.lt
               have hl5' : w.heap.size < w6.heap.size := BL5.lt
               have hne5 : w6.heap.size ≠ w1.heap.size := Nat.ne_of_gt K5.lt
               obtain ⟨q0, q1, q2, q3, q4, q5, q6, q7⟩ := K5.four)
            | (go_at_call 29
               refine (HWR.out _ _ (by first | exact HD5.out | exact HD5.out.below ((Below.refl _ _).alloc (Nat.le_refl _) _))).mono ?_
               rintro e w7 ⟨v7, rfl, hd7, hb8⟩
               have hbq7 : Below w6.heap.size w6 w7 := by first | exact hb8 | exact chain ((Below.refl _ _).alloc (Nat.le_refl _) _) hb8
               have K7 := K5.next hbq7
               have BL7 := BL5.next hbq7
               have HD7 := hide (HD5.out.below hbq7)
               have hb9 := chain hb7 hbq7
               have HX7 := hide hd7
               obtain ⟨u1, r1, t1, u2, r2, t2, fy, oy, rfl, _⟩ := hd7
               unfold drvVal at HX7 ⊢
               have hkp7 : w7.cell? ⟨kb, ko, none⟩ = some (.int .i64 pp) := (hbq7.cell (p := ⟨kb, ko, none⟩) hkb5).trans hkp5
               have hks7 : w7.cell? ⟨kb, ko + 1, none⟩ = some (.string sv) := (hbq7.cell (p := ⟨kb, ko + 1, none⟩) hkb5).trans hks5
               have hkb7 : kb < w7.heap.size := by have := hbq7.size; omega
               first
                 | (have Z7 := Z5.next hb8
                    obtain ⟨z0, z1, z2, z3, z4, z5, z6, z7⟩ := Z7.four)
                 | (have Z7 := (Blk.new w6 [.slice none 0 0, .slice none 0 0, .int .i64 0, .bool false] 25).next hb8
                    obtain ⟨z0, z1, z2, z3, z4, z5, z6, z7⟩ := Z7.four)
                 | skip
               have hl7 : w1.heap.size < w7.heap.size := K7.lt
               have hl7' : w.heap.size < w7.heap.size := BL7.lt
               have hne7 : w7.heap.size ≠ w1.heap.size := Nat.ne_of_gt K7.lt
               have hl4 : w1.heap.size < wr.heap.size := K.lt
               have hl4' : w.heap.size < wr.heap.size := BL.lt
               have hne4 : wr.heap.size ≠ w1.heap.size := Nat.ne_of_gt K.lt
               have hne4b : wr.heap.size ≠ kb := by omega
               have hne5b : w6.heap.size ≠ kb := by omega
               have hne7b : w7.heap.size ≠ kb := by omega
               obtain ⟨r0, r1', r2', r3, r4, r5, r6, r7⟩ := K7.four))
          all_goals
            go_wp2_with fail
            go_meet
          · exact ⟨_, u1, r1, t1, u2, r2, t2, fy, oy, rfl, rfl, by omega, by omega, Blk.new _ _ _, HX7.out.below ((Below.refl _ _).alloc (Nat.le_refl _) _), K7.next ((Below.refl _ _).alloc (Nat.le_refl _) _), HD7.out.below ((Below.refl _ _).alloc (Nat.le_refl _) _), BL7.next ((Below.refl _ _).alloc (Nat.le_refl _) _), chain hb9 ((Below.refl _ _).alloc (Nat.le_refl _) _)⟩
          · exact ⟨_, u1, r1, t1, u2, r2, t2, fy, oy, rfl, rfl, by omega, by omega, Z7.set4 _ _ _ _, HX7.out.set4 (blk_holds Z7) _ _ _ _, K7.other4 (by omega) _ _ _ _, HD7.out.set4 (blk_holds Z7) _ _ _ _, BL7.other4 (by omega) _ _ _ _, below4 hb9 (by omega) _ _ _ _⟩
          · exact ⟨_, u1, r1, t1, u2, r2, t2, fy, oy, rfl, rfl, by omega, by omega, Z7.set4 _ _ _ _, HX7.out.set4 (blk_holds Z7) _ _ _ _, K7.other4 (by omega) _ _ _ _, HD7.out.set4 (blk_holds Z7) _ _ _ _, BL7.other4 (by omega) _ _ _ _, below4 hb9 (by omega) _ _ _ _⟩
        case rest =>
          obtain ⟨wx, rfl⟩ : ∃ wx, wx = wc := ⟨_, rfl⟩
          clear p0 p1 p2 p3 p4 p5 p6 p7 BL
          obtain ⟨b, x1, y1, z1, x2, y2, z2, fx, ox, rfl, rfl, hne1, hne2, BB, hXd, KK, hDo, BL, hbW⟩ := hcut
          have HX := hide hXd
          have HDO := hide hDo
          clear hXd hDo
          obtain ⟨s0, s1, s2, s3, s4, s5, s6, s7⟩ := BB.four
          obtain ⟨k0, k1, k2, k3, k4, k5, k6, k7⟩ := KK.four
          have hltk := KK.lt
          have hltb := BB.lt
          rcases HWF.out with ⟨q', e, hm', hq'⟩ | he
          · obtain ⟨rfl, rfl⟩ : X = ⟨List.replicate 4 blank, q', -1, false⟩ ∧ E = 0 := by
              simpa using e
            have HM' := hide hm'
            have HQ' := hide hq'
            clear e hm' hq' HWF
            go_wp2_with fail
            go_roundw
            case rel => exact ⟨k + 1, q', _, by omega, by omega, by go_num, blk_holds (KK.set4 _ _ _ _), HX.out.set4 (blk_holds KK) _ _ _ _, HM'.out, by have := HQ'.out; have := HQL.out; omega, BL.other4 (by omega) _ _ _ _, below4 hbW (by omega) _ _ _ _⟩
            case measure => simp [intOf]; omega
          · have hE : decide (E = 0) = false := decide_eq_false he
            clear HWF
            go_wp2_with fail
            go_roundw
            case rel => exact ⟨k + 1, q, _, by omega, by omega, by go_num, blk_holds KK, HDO.out, HMY2.out, by have := HQL.out; omega, BL, hbW⟩
            case measure => simp [intOf]; omega
      · have hend : n ≤ k ∨ (k < n ∧ 9 ≤ k) := by omega
        clear hkt
        have HQX := hide (show q.length ≤ 90 by omega)
        have HMX := hide hmay
        have HDX := hide hD
        clear hql hmay hD
        rcases hend with hend | ⟨h1, h2⟩
        · go_wp2_with fail
          go_meet
          exact ⟨q, v, hH, HDX.out, HMX.out, HQX.out, BL, hbr⟩
        · go_wp2_with fail
          go_meet
          exact ⟨q, v, hH, HDX.out, HMX.out, HQX.out, BL, hbr⟩
  case rest =>
    obtain ⟨wa, rfl⟩ : ∃ wa, wa = wc := ⟨_, rfl⟩
    clear L4 K1 HD2 hb2 HM4 BL1 HOA HNC HAL hn1 HN
    obtain ⟨q, v, hH, hD, hmay, hql, BL, hbW⟩ := hcut
    have hfl := flush_full _ q hmay
    have hfm := flushed_may _ q hmay
    have HFL := hide (fun (v : Value) (w : World) (h : IsDrive w v ⟨List.replicate 4 blank, q, -1, false⟩) => flush_any v _ w h)
    rw [hfl] at HFL
    have hcl : (puts (List.replicate 4 blank) q).length = 4 := by rw [puts_length]; rfl
    obtain ⟨cs, hcs⟩ : ∃ cs, puts (List.replicate 4 blank) q = cs := ⟨_, rfl⟩
    rw [hcs] at HFL hfm hcl
    have HFM := hide hfm
    have HCL := hide hcl
    obtain ⟨a1, n1, c1, a2, n2, c2, f1, o1, rfl, K⟩ := hH
    unfold drvVal at hD
    have HDD := hide hD
    clear hfl hfm hcl hcs hmay hql hD
    obtain ⟨p0, p1, p2, p3, p4, p5, p6, p7⟩ := K.four
    have hKlt := K.lt
    go_wp2_with fail
    refine (HFL.out _ _ HDD.out).mono ?_
    rintro e w5 ⟨v5, rfl, hd5, hb5⟩
    obtain ⟨a17, c17, a27, c27, rfl, _⟩ := drv_form hd5
    simp only [List.length_nil] at hd5 ⊢
    rw [HCL.out] at hd5 ⊢
    have K5 := K.next hb5
    have BL5 := BL.next hb5
    have HD5 := hide hd5
    have hb6 := chain hbW hb5
    clear hd5 hb5 p0 p1 p2 p3 p4 p5 p6 p7 K BL HDD hbW
    have hlt5 := K5.lt
    have hlt6 := BL5.lt
    obtain ⟨p0, p1, p2, p3, p4, p5, p6, p7⟩ := K5.four
    obtain ⟨W6, hW6⟩ : ∃ W6, (((w5.setCell ⟨w1.heap.size, 0, none⟩ (.slice a17 4 c17)).setCell ⟨w1.heap.size, 1, none⟩ (.slice a27 0 c27)).setCell ⟨w1.heap.size, 2, none⟩ (.int .i64 (-1))).setCell ⟨w1.heap.size, 3, none⟩ (.bool false) = W6 := ⟨_, rfl⟩
    have K6 : Blk W6 w1.heap.size [.slice a17 4 c17, .slice a27 0 c27, .int .i64 (-1), .bool false] 25 := by rw [← hW6]; exact K5.set4 _ _ _ _
    have BL6 : Blk W6 w.heap.size [.int .u64 kept, .int .i64 tn, .int .i64 cut] 28 := by rw [← hW6]; exact BL5.other4 (by omega) _ _ _ _
    have HD6 : Hid (IsDrive W6 (.agg #[.slice a17 4 c17, .slice a27 0 c27, .int .i64 (-1), .bool false]) ⟨cs, [], -1, false⟩) := hide (by rw [← hW6]; exact HD5.out.set4 (blk_holds K5) _ _ _ _)
    have hb7 : Below w.heap.size w W6 := by rw [← hW6]; exact below4 hb6 (by omega) _ _ _ _
    go_wp2_with fail
    clear hW6 p0 p1 p2 p3 p4 p5 p6 p7 K5 BL5 HD5 hb6
    obtain ⟨p0, p1, p2, p3, p4, p5, p6, p7⟩ := K6.four
    obtain ⟨r0, r1, r2, r3, r4, r5⟩ := BL6.three
    have hlt7 := K6.lt
    have hlt8 := BL6.lt
    have HCR := hide (fun (v : Value) (w : World) (h : IsDrive w v ⟨cs, [], -1, false⟩) => crash_any v _ kept tn cut w h HK.out HT.out HCU.out)
    rw [crash_still cs HFM.out kept tn cut] at HCR
    go_region_held3 (fun w' => w'.cell? ⟨w1.heap.size, 0, none⟩ = some (.slice a17 4 c17) ∧ w'.cell? ⟨w1.heap.size, 1, none⟩ = some (.slice a27 0 c27) ∧ w'.cell? ⟨w1.heap.size, 2, none⟩ = some (.int .i64 (-1)) ∧ w'.cell? ⟨w1.heap.size, 3, none⟩ = some (.bool false) ∧ w'.cell? ⟨w.heap.size, 0, none⟩ = some (.int .u64 (kept : Int)) ∧ w'.cell? ⟨w.heap.size, 1, none⟩ = some (.int .i64 tn) ∧ w'.cell? ⟨w.heap.size, 2, none⟩ = some (.int .i64 cut)) (go_keep) (first
      | (go_at_call 24
         refine (HCR.out _ _ (HD6.out.below (Below.drewed (Below.refl _ _)))).mono ?_
         rintro e w7 ⟨v7, rfl, hd7, hb⟩
         have hb' := undrew1 hb
         have HD7 := hide hd7
         have hbq7 := hide hb'
         obtain ⟨hcc7, hff7⟩ := bcell hb'
         clear hd7 hb)
      | (go_at_call 23
         refine (same_any _ _ ⟨cs, [], -1, false⟩ _ HD7.out (HD6.out.below hbq7.out)).mono ?_
         rintro e w8 ⟨rfl, hb8⟩
         have hbq8 := hide (chain hbq7.out hb8)
         obtain ⟨hcc8, hff8⟩ := bcell hbq8.out
         clear hb8))
    go_upto_block 2 with fail
    have hb9 := chain hb7 hbq8.out
    have hal : Below w8.heap.size w8 (w8.alloc (.cells #[.slice a17 4 c17, .slice a27 0 c27, .int .i64 (-1), .bool false] 25)) := (Below.refl _ _).alloc (Nat.le_refl _) _
    have hba := chain hbq8.out hal
    have LX := Blk.new w8 [.slice a17 4 c17, .slice a27 0 c27, .int .i64 (-1), .bool false] 25
    have HDX := hide (HD6.out.below hba)
    have BLX : Kp2 _ w.heap.size w1.heap.size kept tn cut a17 c17 a27 c27 cs := ⟨BL6.next hba, K6.next hba, HD6.out.below hba⟩
    have hbX := chain hb9 hal
    have hbx7 : w1.heap.size < w8.heap.size := by have := hbq8.out.size; omega
    have hbx0 : w.heap.size < w8.heap.size := by have := hbq8.out.size; omega
    clear hal hba hb9 hb7 hbq7 hbq8 hcc7 hff7 hcc8 hff8 BL6 K6 HD6 HD7 HCR p0 p1 p2 p3 p4 p5 p6 p7 r0 r1 r2 r3 r4 r5 hlt7 hlt8 HFL hlt5 hlt6
    obtain ⟨W9, hW9⟩ : ∃ W9, w8.alloc (.cells #[.slice a17 4 c17, .slice a27 0 c27, .int .i64 (-1), .bool false] 25) = W9 := ⟨_, rfl⟩
    rw [hW9] at LX HDX BLX hbX ⊢
    clear hW9
    obtain ⟨bx, hbx⟩ : ∃ b, w8.heap.size = b := ⟨_, rfl⟩
    rw [hbx] at LX hbx7 hbx0 ⊢
    clear hbx
    go_cut [] (fun wx => ∃ (q : List Wt) (v : Value), Holds wx bx v ∧ IsDrive wx v ⟨cs, q, -1, false⟩ ∧ (⟨cs, q, -1, false⟩ : Drv).May ∧ q.length ≤ 90 ∧ Kp2 wx w.heap.size w1.heap.size kept tn cut a17 c17 a27 c27 cs ∧ Below w.heap.size w wx)
    case first =>
      go_wp2_with fail
      go_loopw [14] (fun i wr => ∃ (k : Nat) (q : List Wt) (v : Value), k ≤ n' ∧ k ≤ 9 ∧ i = .int .i64 k ∧ Holds wr bx v ∧ IsDrive wr v ⟨cs, q, -1, false⟩ ∧ (⟨cs, q, -1, false⟩ : Drv).May ∧ q.length ≤ 10 * k ∧ Kp2 wr w.heap.size w1.heap.size kept tn cut a17 c17 a27 c27 cs ∧ Below w.heap.size w wr) (fun i _ => 9 - (intOf i).toNat)
      case atStart => exact ⟨0, [], _, Nat.zero_le _, by omega, rfl, blk_holds LX, HDX.out, HFM.out, by simp, BLX, hbX⟩
      case round =>
        obtain ⟨k, q, v, hk, hk9, rfl, hH, hD, hmay, hql, BL, hbr⟩ := hrel
        clear LX HDX BLX hbX
        by_cases hkt : k < n' ∧ k < 9
        · obtain ⟨hkn, hk3⟩ := hkt
          obtain ⟨a1, n1, c1, a2, n2, c2, f1, o1, rfl, K⟩ := hH
          unfold drvVal at hD
          obtain ⟨kb, ko, hkb, hix, hkp, hks⟩ := (HOB.out.below hbr).at c' k hkn
          have HDD := hide hD
          have HQL := hide hql
          have HMY2 := hide hmay
          clear hD hql hmay
          obtain ⟨p0, p1, p2, p3, p4, p5, p6, p7⟩ := K.four
          have hKlt := K.lt
          have hrg : -9223372036854775808 ≤ (qb.getD k ⟨0, []⟩).pos ∧ (qb.getD k ⟨0, []⟩).pos < 9223372036854775808 := by
            have hkl : k < qb.length := by rw [HOB.out.len]; exact hkn
            rw [List.getD_eq_getElem?_getD, List.getElem?_eq_getElem hkl]
            exact HOB.out.range _ (List.getElem_mem hkl)
          have hsl : (qb.getD k ⟨0, []⟩).s.length ≤ 9223372036854775807 := by
            have hkl : k < qb.length := by rw [HOB.out.len]; exact hkn
            rw [List.getD_eq_getElem?_getD, List.getElem?_eq_getElem hkl]
            exact HBL.out _ (List.getElem_mem hkl)
          obtain ⟨pp, hpp⟩ : ∃ x, (qb.getD k ⟨0, []⟩).pos = x := ⟨_, rfl⟩
          obtain ⟨ss, hss⟩ : ∃ x, (qb.getD k ⟨0, []⟩).s = x := ⟨_, rfl⟩
          rw [hpp] at hkp hrg
          rw [hss] at hks hsl
          have hwf := write_full (cs) q HMY2.out pp (ss.take 640) (by rw [List.length_take]; omega)
          have HWR := hide (fun (v : Value) (w : World) (h : IsDrive w v ⟨cs, q, -1, false⟩) => write_any v _ pp (ss.take 640) w h (by have := HQL.out; simp only; omega) hrg (by rw [List.length_take]; omega))
          have HOC := hide (fun w => octets_any ss w (by omega))
          obtain ⟨⟨X, E⟩, hX⟩ : ∃ r, Drv.write ⟨cs, q, -1, false⟩ pp (ss.take 640) = r := ⟨_, rfl⟩
          obtain ⟨sv, hsv⟩ : ∃ x, bs ss = x := ⟨_, rfl⟩
          obtain ⟨so, hso⟩ : ∃ x, bs (ss.take 640) = x := ⟨_, rfl⟩
          rw [hX] at hwf HWR
          rw [hso] at HWR HOC
          rw [hsv] at HOC hks
          have HWF := hide hwf
          clear hwf hX hrg hsl hpp hss hsv hso
          go_wp2_with fail
          go_cut [15, 16] (fun s10 s11 wx => ∃ (b : Nat) (x1 : Option Addr) (y1 z1 : Nat) (x2 : Option Addr) (y2 z2 : Nat) (fx : Int) (ox : Bool), s10 = .pointer (some ⟨b, 0, none⟩) ∧ s11 = .int .i64 E ∧ b ≠ bx ∧ b ≠ w.heap.size ∧ Blk wx b [.slice x1 y1 z1, .slice x2 y2 z2, .int .i64 fx, .bool ox] 25 ∧ IsDrive wx (.agg #[.slice x1 y1 z1, .slice x2 y2 z2, .int .i64 fx, .bool ox]) X ∧ Blk wx bx [.slice a1 n1 c1, .slice a2 n2 c2, .int .i64 f1, .bool o1] 25 ∧ IsDrive wx (.agg #[.slice a1 n1 c1, .slice a2 n2 c2, .int .i64 f1, .bool o1]) ⟨cs, q, -1, false⟩ ∧ Kp2 wx w.heap.size w1.heap.size kept tn cut a17 c17 a27 c27 cs ∧ Below w.heap.size w wx)
          case first =>
            go_region_held3 (fun w' => w'.cell? ⟨bx, 0, none⟩ = some (.slice a1 n1 c1) ∧ w'.cell? ⟨bx, 1, none⟩ = some (.slice a2 n2 c2) ∧ w'.cell? ⟨bx, 2, none⟩ = some (.int .i64 f1) ∧ w'.cell? ⟨bx, 3, none⟩ = some (.bool o1) ∧ w'.cell? ⟨kb, ko, none⟩ = some (.int .i64 pp) ∧ w'.cell? ⟨kb, ko + 1, none⟩ = some (.string sv)) (go_keep) (first
              | (go_at_call 28
                 refine (HOC.out _).mono ?_
                 rintro e w6 ⟨rfl, hb⟩
                 have hb' := undrew1 hb
                 have hbq : Below wr.heap.size wr w6 := by first | exact hb' | exact chain ((Below.refl _ _).alloc (Nat.le_refl _) _) hb'
                 have K5 := K.next hbq
                 have BL5 := BL.next hbq
                 have HD5 := hide (HDD.out.below hbq)
                 have hb7 := chain hbr hbq
                 have hkp5 : w6.cell? ⟨kb, ko, none⟩ = some (.int .i64 pp) := (hbq.cell (p := ⟨kb, ko, none⟩) hkb).trans hkp
                 have hks5 : w6.cell? ⟨kb, ko + 1, none⟩ = some (.string sv) := (hbq.cell (p := ⟨kb, ko + 1, none⟩) hkb).trans hks
                 have hkb5 : kb < w6.heap.size := by have := hbq.size; omega
                 first
                   | (have Z5 := (Blk.new wr [.slice none 0 0, .slice none 0 0, .int .i64 0, .bool false] 25).next hb')
                   | skip
                 have hl5 : bx < w6.heap.size := K5.lt
                 have hl5' : w.heap.size < w6.heap.size := BL5.lt
                 have hl5q : w1.heap.size < w6.heap.size := BL5.lt7
                 have hne5 : w6.heap.size ≠ bx := Nat.ne_of_gt K5.lt
                 obtain ⟨q0, q1, q2, q3, q4, q5, q6, q7⟩ := K5.four)
              | (go_at_call 29
                 refine (HWR.out _ _ (by first | exact HD5.out | exact HD5.out.below ((Below.refl _ _).alloc (Nat.le_refl _) _))).mono ?_
                 rintro e w7 ⟨v7, rfl, hd7, hb8⟩
                 have hbq7 : Below w6.heap.size w6 w7 := by first | exact hb8 | exact chain ((Below.refl _ _).alloc (Nat.le_refl _) _) hb8
                 have K7 := K5.next hbq7
                 have BL7 := BL5.next hbq7
                 have HD7 := hide (HD5.out.below hbq7)
                 have hb9 := chain hb7 hbq7
                 have HX7 := hide hd7
                 obtain ⟨u1, r1, t1, u2, r2, t2, fy, oy, rfl, _⟩ := hd7
                 unfold drvVal at HX7 ⊢
                 have hkp7 : w7.cell? ⟨kb, ko, none⟩ = some (.int .i64 pp) := (hbq7.cell (p := ⟨kb, ko, none⟩) hkb5).trans hkp5
                 have hks7 : w7.cell? ⟨kb, ko + 1, none⟩ = some (.string sv) := (hbq7.cell (p := ⟨kb, ko + 1, none⟩) hkb5).trans hks5
                 have hkb7 : kb < w7.heap.size := by have := hbq7.size; omega
                 first
                   | (have Z7 := Z5.next hb8
                      obtain ⟨z0, z1, z2, z3, z4, z5, z6, z7⟩ := Z7.four)
                   | (have Z7 := (Blk.new w6 [.slice none 0 0, .slice none 0 0, .int .i64 0, .bool false] 25).next hb8
                      obtain ⟨z0, z1, z2, z3, z4, z5, z6, z7⟩ := Z7.four)
                   | skip
                 have hl7 : bx < w7.heap.size := K7.lt
                 have hl7' : w.heap.size < w7.heap.size := BL7.lt
                 have hl7q : w1.heap.size < w7.heap.size := BL7.lt7
                 have hne7 : w7.heap.size ≠ bx := Nat.ne_of_gt K7.lt
                 have hl4 : bx < wr.heap.size := K.lt
                 have hl4' : w.heap.size < wr.heap.size := BL.lt
                 have hl4q : w1.heap.size < wr.heap.size := BL.lt7
                 have hne4 : wr.heap.size ≠ bx := Nat.ne_of_gt K.lt
                 have hne4b : wr.heap.size ≠ kb := by omega
                 have hne5b : w6.heap.size ≠ kb := by omega
                 have hne7b : w7.heap.size ≠ kb := by omega
                 obtain ⟨r0, r1', r2', r3, r4, r5, r6, r7⟩ := K7.four))
            all_goals
              go_wp2_with fail
              go_meet
            · exact ⟨_, u1, r1, t1, u2, r2, t2, fy, oy, rfl, rfl, by omega, by omega, Blk.new _ _ _, HX7.out.below ((Below.refl _ _).alloc (Nat.le_refl _) _), K7.next ((Below.refl _ _).alloc (Nat.le_refl _) _), HD7.out.below ((Below.refl _ _).alloc (Nat.le_refl _) _), BL7.next ((Below.refl _ _).alloc (Nat.le_refl _) _), chain hb9 ((Below.refl _ _).alloc (Nat.le_refl _) _)⟩
            · exact ⟨_, u1, r1, t1, u2, r2, t2, fy, oy, rfl, rfl, by omega, by omega, Z7.set4 _ _ _ _, HX7.out.set4 (blk_holds Z7) _ _ _ _, K7.other4 (by omega) _ _ _ _, HD7.out.set4 (blk_holds Z7) _ _ _ _, BL7.other4 (by omega) (by omega) (blk_holds Z7) _ _ _ _, below4 hb9 (by omega) _ _ _ _⟩
            · exact ⟨_, u1, r1, t1, u2, r2, t2, fy, oy, rfl, rfl, by omega, by omega, Z7.set4 _ _ _ _, HX7.out.set4 (blk_holds Z7) _ _ _ _, K7.other4 (by omega) _ _ _ _, HD7.out.set4 (blk_holds Z7) _ _ _ _, BL7.other4 (by omega) (by omega) (blk_holds Z7) _ _ _ _, below4 hb9 (by omega) _ _ _ _⟩
          case rest =>
            obtain ⟨wx, rfl⟩ : ∃ wx, wx = wc := ⟨_, rfl⟩
            clear p0 p1 p2 p3 p4 p5 p6 p7 BL
            obtain ⟨b, x1, y1, z1, x2, y2, z2, fx, ox, rfl, rfl, hne1, hne2, BB, hXd, KK, hDo, BL, hbW⟩ := hcut
            have HX := hide hXd
            have HDO := hide hDo
            clear hXd hDo
            obtain ⟨s0, s1, s2, s3, s4, s5, s6, s7⟩ := BB.four
            obtain ⟨k0, k1, k2, k3, k4, k5, k6, k7⟩ := KK.four
            have hltk := KK.lt
            have hltb := BB.lt
            rcases HWF.out with ⟨q', e, hm', hq'⟩ | he
            · obtain ⟨rfl, rfl⟩ : X = ⟨cs, q', -1, false⟩ ∧ E = 0 := by
                simpa using e
              have HM' := hide hm'
              have HQ' := hide hq'
              clear e hm' hq' HWF
              go_wp2_with fail
              go_roundw
              case rel => exact ⟨k + 1, q', _, by omega, by omega, by go_num, blk_holds (KK.set4 _ _ _ _), HX.out.set4 (blk_holds KK) _ _ _ _, HM'.out, by have := HQ'.out; have := HQL.out; omega, BL.other4 (by omega) (by omega) (blk_holds KK) _ _ _ _, below4 hbW (by omega) _ _ _ _⟩
              case measure => simp [intOf]; omega
            · have hE : decide (E = 0) = false := decide_eq_false he
              clear HWF
              go_wp2_with fail
              go_roundw
              case rel => exact ⟨k + 1, q, _, by omega, by omega, by go_num, blk_holds KK, HDO.out, HMY2.out, by have := HQL.out; omega, BL, hbW⟩
              case measure => simp [intOf]; omega
        · have hend : n' ≤ k ∨ (k < n' ∧ 9 ≤ k) := by omega
          clear hkt
          have HQX := hide (show q.length ≤ 90 by omega)
          have HMX := hide hmay
          have HDX := hide hD
          clear hql hmay hD
          rcases hend with hend | ⟨h1, h2⟩
          · go_wp2_with fail
            go_meet
            exact ⟨q, v, hH, HDX.out, HMX.out, HQX.out, BL, hbr⟩
          · go_wp2_with fail
            go_meet
            exact ⟨q, v, hH, HDX.out, HMX.out, HQX.out, BL, hbr⟩
    case rest =>
      obtain ⟨wb, rfl⟩ : ∃ wb, wb = wc := ⟨_, rfl⟩
      clear LX HDX BLX hbX
      obtain ⟨q, v, hH, hD, hmay, hql, BL, hbW⟩ := hcut
      have hcm := crash_may hmay kept tn cut
      have hco := crash_oct hmay kept tn cut
      have HCR := hide (fun (v : Value) (w : World) (h : IsDrive w v ⟨cs, q, -1, false⟩) => crash_any v _ kept tn cut w h HK.out HT.out HCU.out)
      have HQM := hide hmay
      obtain ⟨Y, hY⟩ : ∃ Y, Drv.crash ⟨cs, q, -1, false⟩ kept tn cut = Y := ⟨_, rfl⟩
      rw [hY] at HCR hcm hco
      obtain ⟨hm1, hm2, hm3, hm4, hm5⟩ := hcm
      simp only at hm2 hco
      rw [HCL.out] at hm2 hco
      have HMR := hide (fun (v : Value) (w : World) (h : IsDrive w v Y) => refmay_any v Y w h)
      rw [Y.mayB_iff.2 hm1] at HMR
      have HYM := hide hm1
      have HYL := hide hm2
      have HYR := hide (And.intro hm3 (And.intro hm4 hm5))
      have HCO := hide hco
      obtain ⟨xa, xc1, xq, xcq, rfl, KX, hDX⟩ := holds_form hH hD
      simp only at hD KX hDX
      rw [HCL.out] at hD KX hDX
      have HXQ := hide hDX.queue
      have HXR := hDX.room2
      obtain ⟨m, hm⟩ : ∃ m, q.length = m := ⟨_, rfl⟩
      rw [hm] at hD KX hql HXQ HXR HCO
      have HQN := hide hm
      have HDD := hide hD
      clear hY hm1 hm2 hm3 hm4 hm5 hco hmay hD hH hDX hm
      obtain ⟨p0, p1, p2, p3, p4, p5, p6, p7⟩ := KX.four
      obtain ⟨r0, r1, r2, r3, r4, r5⟩ := BL.1.three
      have hltx := KX.lt
      have hlt0 := BL.lt
      go_wp2_with fail
      refine (HCR.out _ _ HDD.out).mono ?_
      rintro e w5 ⟨v5, rfl, hd5, hb5⟩
      obtain ⟨ya, yc, yq, ycq, rfl, _⟩ := drv_form hd5
      rw [HYR.out.1, HYR.out.2.1, HYR.out.2.2, HYL.out] at hd5 ⊢
      simp only [List.length_nil] at hd5 ⊢
      have hal : Below w5.heap.size w5 (w5.alloc (.cells #[.slice ya 4 yc, .slice yq 0 ycq, .int .i64 (-1), .bool false] 25)) := (Below.refl _ _).alloc (Nat.le_refl _) _
      have hba := chain hb5 hal
      have KY := Blk.new w5 [.slice ya 4 yc, .slice yq 0 ycq, .int .i64 (-1), .bool false] 25
      have KX2 := KX.next hba
      have BL2 := BL.next hba
      have HDY := hide (hd5.below hal)
      have HXQ2 := hide (HXQ.out.below hba)
      have hbV := chain hbW hba
      clear p0 p1 p2 p3 p4 p5 p6 p7 r0 r1 r2 r3 r4 r5 hal hba hb5 hd5 KX BL HXQ hbW HDD HCR
      go_upto_region 21 with fail
      obtain ⟨W6, hW6⟩ : ∃ W6, w5.alloc (.cells #[.slice ya 4 yc, .slice yq 0 ycq, .int .i64 (-1), .bool false] 25) = W6 := ⟨_, rfl⟩
      rw [hW6] at KY KX2 BL2 HDY HXQ2 hbV ⊢
      obtain ⟨by_, hby⟩ : ∃ b, w5.heap.size = b := ⟨_, rfl⟩
      rw [hby] at KY ⊢
      clear hW6 hby
      obtain ⟨p0, p1, p2, p3, p4, p5, p6, p7⟩ := KY.four
      have hlty := KY.lt
      go_wp2_with fail
      refine (HMR.out _ _ HDY.out).mono ?_
      rintro e w7 ⟨rfl, hb7⟩
      have KY3 := KY.next hb7
      have KX3 := KX2.next hb7
      have BL3 := BL2.next hb7
      have HDY3 := hide (HDY.out.below hb7)
      have HXQ3 := hide (HXQ2.out.below hb7)
      have hbU := chain hbV hb7
      clear p0 p1 p2 p3 p4 p5 p6 p7 KY KX2 BL2 HDY HXQ2 hbV hb7
      obtain ⟨p0, p1, p2, p3, p4, p5, p6, p7⟩ := KY3.four
      go_wp2_with fail
      have Z7 := BL3.2.1
      have HZD := hide BL3.2.2
      clear p0 p1 p2 p3 p4 p5 p6 p7 BL3
      obtain ⟨wZ, rfl⟩ : ∃ wZ, wZ = w7 := ⟨_, rfl⟩
      have HYC := hide ((by
        obtain ⟨_, _, _, _, _, _, _, _, e, hd⟩ := HDY3.out
        have e5 := congrArg (fun v : Value => match v with | .agg l => l.toList | _ => []) e
        simp only [drvVal, List.cons.injEq, Value.slice.injEq, and_true] at e5
        obtain ⟨⟨rfl, rfl, rfl⟩, _⟩ := e5
        exact hd.cells) : Strs wZ ya 4 Y.cells)
      have HZC := hide ((by
        obtain ⟨_, _, _, _, _, _, _, _, e, hd⟩ := HZD.out
        have e5 := congrArg (fun v : Value => match v with | .agg l => l.toList | _ => []) e
        simp only [drvVal, List.cons.injEq, Value.slice.injEq, and_true] at e5
        obtain ⟨⟨rfl, rfl, rfl⟩, _⟩ := e5
        exact hd.cells) : Strs wZ a17 4 cs)
      clear HDY3 HZD
      have hm1 : m ≤ 9223372036854775807 := by omega
      go_loopw [18] (fun i wr => ∃ a : Nat, a ≤ 4 ∧ i = .int .i64 a ∧ Below wZ.heap.size wZ wr) (fun i _ => 4 - (intOf i).toNat)
      case atStart => exact ⟨0, by omega, rfl, Below.refl _ _⟩
      case round =>
        obtain ⟨a, ha, rfl, hb1⟩ := hrel
        obtain ⟨wA, rfl⟩ : ∃ wA, wA = wr := ⟨_, rfl⟩
        by_cases ha4 : a < 4
        · obtain ⟨o1, o2, hbo, hixy, hcy⟩ := (HYC.out.below hb1).at yc a ha4
          obtain ⟨u1, u2, hbu, hixd, hcd⟩ := (HZC.out.below hb1).at c17 a ha4
          have hly : (Y.cells.getD a []).length = 64 := getD_all HYM.out.cell (by rw [HYL.out]; exact ha4)
          have hld : (cs.getD a []).length = 64 := getD_all HFM.out.cell (by rw [HCL.out]; exact ha4)
          have HLY := hide hly
          have HLD := hide hld
          have HCA := hide (fun k => HCO.out a k ha4)
          obtain ⟨ly, hly'⟩ : ∃ l, Y.cells.getD a [] = l := ⟨_, rfl⟩
          obtain ⟨ld, hld'⟩ : ∃ l, cs.getD a [] = l := ⟨_, rfl⟩
          rw [hly'] at hcy HLY HCA
          rw [hld'] at hcd HLD HCA
          clear hly hld hly' hld'
          go_wp2_with fail
          go_loopw [19] (fun i wr => ∃ k : Nat, k ≤ 64 ∧ i = .int .i64 k ∧ Below wA.heap.size wA wr) (fun i _ => 64 - (intOf i).toNat)
          case atStart => exact ⟨0, by omega, rfl, Below.refl _ _⟩
          case round =>
            obtain ⟨k, hk, rfl, hb2⟩ := hrel
            obtain ⟨wK, rfl⟩ : ∃ wK, wK = wr := ⟨_, rfl⟩
            have hb12 := chain hb1 hb2
            by_cases hk64 : k < 64
            · have hcy2 : wK.cell? ⟨o1, o2, none⟩ = some (.string (bs ly)) := (hb2.cell (p := ⟨o1, o2, none⟩) hbo).trans hcy
              have hcd2 : wK.cell? ⟨u1, u2, none⟩ = some (.string (bs ld)) := (hb2.cell (p := ⟨u1, u2, none⟩) hbu).trans hcd
              have hbo2 : o1 < wK.heap.size := by have := hb2.size; omega
              obtain ⟨sy, vy, hsy, hky, hvy, hey, hvy2⟩ := str_at ly k (by rw [HLY.out]; exact hk64)
              obtain ⟨sd, vd, hsd, hkd, hvd, hed, hvd2⟩ := str_at ld k (by rw [HLD.out]; exact hk64)
              rw [hsy] at hcy2
              rw [hsd] at hcd2
              have HSY := hide hsy
              have HEY := hide hey
              have HED := hide hed
              have HCK := hide (HCA.out k)
              obtain ⟨e0, hbeq, he0⟩ : ∃ e0, ((vy : Int) == (vd : Int)) = e0 ∧ (e0 = true ↔ vy = vd) := ⟨_, rfl, by rw [beq_iff_eq]; omega⟩
              have HE0 := hide he0
              have HVY := hide hvy
              have KY4 := KY3.next hb12
              have KX4 := KX3.next hb12
              have Z4 := Z7.next hb12
              have HXQ4 := hide (HXQ3.out.below hb12)
              obtain ⟨p0, p1, p2, p3, p4, p5, p6, p7⟩ := KY4.four
              obtain ⟨q0, q1, q2, q3, q4, q5, q6, q7⟩ := Z4.four
              clear hsy hsd hey hed he0
              go_wp2_with fail
              go_quiet (fail)
              go_wp2_with fail
              have hbq : Below wK.heap.size wK wK := Below.refl _ _
              clear p0 p1 p2 p3 p4 p5 p6 p7 q0 q1 q2 q3 q4 q5 q6 q7 hixd hcd2 hbeq hvd
              have HS0 : SameTo q (a : Int) k vy e0 0 e0 := by
                cases e0 with
                | true => exact .inl rfl
                | false => exact .inr ⟨rfl, rfl, fun j hj => by omega⟩
              have HSH := hide HS0
              clear HS0
              go_loopw [20, 21] (fun s20 j wz => ∃ (i : Nat) (same : Bool), i ≤ m ∧ j = .int .i64 i ∧ s20 = .bool same ∧ Hid (SameTo q (a : Int) k vy e0 i same) ∧ Below wK.heap.size wK wz) (fun _ j _ => m - (intOf j).toNat)
              case atStart => exact ⟨0, e0, by omega, rfl, rfl, HSH, Below.trans hbq ⟨rfl, rfl, rfl, Nat.le_refl _, fun _ _ => rfl⟩⟩
              case round =>
                obtain ⟨i, same, hi, rfl, rfl, hS, hb3⟩ := hrel
                clear HSH
                obtain ⟨wJ, rfl⟩ : ∃ wJ, wJ = wr := ⟨_, rfl⟩
                obtain ⟨p0, p1, p2, p3, p4, p5, p6, p7⟩ := (KY4.next hb3).four
                obtain ⟨q0, q1, q2, q3, q4, q5, q6, q7⟩ := (KX4.next hb3).four
                by_cases him : i < m
                · obtain ⟨o3, o4, hbj, hixj, hcp, hcs⟩ := (HXQ4.out.below hb3).at xcq i him
                  have hcy3 : wJ.cell? ⟨o1, o2, none⟩ = some (.string sy) := (hb3.cell (p := ⟨o1, o2, none⟩) hbo2).trans hcy2
                  have hlj : (q.getD i ⟨0, []⟩).s.length = 64 := by
                    have hil : i < q.length := by rw [HQN.out]; exact him
                    rw [List.getD_eq_getElem?_getD, List.getElem?_eq_getElem hil]
                    exact (HQM.out.wait _ (List.getElem_mem hil)).2.2
                  obtain ⟨ls, hls⟩ : ∃ l, (q.getD i ⟨0, []⟩).s = l := ⟨_, rfl⟩
                  obtain ⟨pp, hpp⟩ : ∃ l, (q.getD i ⟨0, []⟩).pos = l := ⟨_, rfl⟩
                  rw [hls] at hcs hlj
                  rw [hpp] at hcp
                  obtain ⟨ss, vs, hss, hks, hvs, hes, hvs2⟩ := str_at ls k (by omega)
                  have hsz64 : ss.size = 64 := by rw [← hss, bs_size]; exact hlj
                  have hs64 : ((ss.size : Int) == 64) = true := by rw [beq_iff_eq]; omega
                  rw [hss] at hcs
                  have HLS := hide hls
                  have HPP := hide hpp
                  have HES := hide hes
                  clear hls hpp hss hes hlj hsz64
                  cases same with
                  | true =>
                    have hs1 := hide (hS.out.next_true)
                    clear hvs hs64
                    go_wp2_with fail
                    go_quiet (fail)
                    go_wp2_with fail
                    go_roundw
                    case rel => exact ⟨i + 1, true, by omega, by go_num, rfl, hs1, Below.trans hb3 ⟨rfl, rfl, rfl, Nat.le_refl _, fun _ _ => rfl⟩⟩
                    case measure => simp [intOf]; omega
                  | false =>
                    by_cases hpa : pp = (a : Int)
                    · have hpb : (pp == (a : Int)) = true := by rw [beq_iff_eq]; exact hpa
                      obtain ⟨e1, hbe1, he1⟩ : ∃ e1, ((vs : Int) == (vy : Int)) = e1 ∧ (e1 = true ↔ vs = vy) := ⟨_, rfl, by rw [beq_iff_eq]; omega⟩
                      have hs1 : Hid (SameTo q (a : Int) k vy e0 (i + 1) e1) := hide (hS.out.next_false (by rw [HPP.out, HLS.out]; rw [he1]; rw [HES.out]; exact ⟨fun h => ⟨hpa, h⟩, fun h => h.2⟩))
                      clear hpa he1
                      go_wp2_with fail
                      go_quiet (fail)
                      go_wp2_with fail
                      go_roundw
                      case rel => exact ⟨i + 1, e1, by omega, by go_num, rfl, hs1, Below.trans hb3 ⟨rfl, rfl, rfl, Nat.le_refl _, fun _ _ => rfl⟩⟩
                      case measure => simp [intOf]; omega
                    · have hpb : (pp == (a : Int)) = false := by rw [beq_eq_false_iff_ne]; exact hpa
                      have hs1 : Hid (SameTo q (a : Int) k vy e0 (i + 1) false) := hide (hS.out.next_false (by rw [HPP.out]; exact ⟨fun h => (by cases h), fun h => absurd h.1 hpa⟩))
                      clear hpa hvs hs64
                      go_wp2_with fail
                      go_quiet (fail)
                      go_wp2_with fail
                      go_roundw
                      case rel => exact ⟨i + 1, false, by omega, by go_num, rfl, hs1, Below.trans hb3 ⟨rfl, rfl, rfl, Nat.le_refl _, fun _ _ => rfl⟩⟩
                      case measure => simp [intOf]; omega
                · obtain rfl : i = m := by omega
                  have hsame : same = true := by
                    refine hS.out.done ?_
                    rcases HCK.out with h | ⟨j, hj, h1, h2⟩
                    · left; rw [HE0.out, HEY.out, HED.out, h]
                    · right; exact ⟨j, hj, h1, by rw [h2, HEY.out]⟩
                  subst hsame
                  go_wp2_with fail
                  go_roundw
                  case rel => exact ⟨k + 1, by omega, by go_num, chain hb2 hb3⟩
                  case measure => simp [intOf]; omega
            · obtain rfl : k = 64 := by omega
              go_wp2_with fail
              go_roundw
              case rel => exact ⟨a + 1, by omega, by go_num, hb12⟩
              case measure => simp [intOf]; omega
        · obtain rfl : a = 4 := by omega
          go_wp2_with fail
          refine (HA.out _).mono ?_
          rintro e w12 ⟨rfl, hb12⟩
          go_wp2_with fail
          go_ret
          exact ⟨rfl, chain (chain hbU hb1) hb12⟩

/-- The walk, as the frame calls it. -/
theorem holds_frame (ao : Option Addr) (n c : Nat) (qa : List Wt) {w : World} (ha : Waits w ao n qa) (h1 : n ≤ c) (h2 : c ≤ 9223372036854775807) (h3 : ∀ y ∈ qa, y.s.length ≤ 9223372036854775807) (bo : Option Addr) (n' c' : Nat) (qb : List Wt) (hb : Waits w bo n' qb) (h4 : n' ≤ c') (h5 : c' ≤ 9223372036854775807) (h6 : ∀ y ∈ qb, y.s.length ≤ 9223372036854775807)
    (kept : Nat) (tn cut : Int) (hk : kept < 18446744073709551616) (ht : -9223372036854775808 ≤ tn ∧ tn < 9223372036854775808) (hcut : -9223372036854775808 ≤ cut ∧ cut < 9223372036854775808) (w' : World) (e : w' = w := by rfl) :
    Calls Try.prog 5 #[.slice ao n c, .slice bo n' c', .agg #[.int .u64 kept, .int .i64 tn, .int .i64 cut]] w' fun e w2 => e = .returned (.bool true) ∧ Below w'.heap.size w' w2 := by
  subst e
  exact holds_walk ao bo n c n' c' qa qb kept tn cut _ ha hb ⟨h1, h2⟩ ⟨h4, h5⟩ h3 h6 hk ht hcut

end Go.Proofs.Ytkapdmhjhbmdjaa
