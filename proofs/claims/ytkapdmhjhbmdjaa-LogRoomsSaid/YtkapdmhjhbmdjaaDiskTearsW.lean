/-
  The walk through the statement DiskTears: it returns true.
-/
import Derived.Test.YtkapdmhjhbmdjaaDiskCrashesW
namespace Go.Proofs.Ytkapdmhjhbmdjaa
open Go.RowKit

def all64 (c : UInt8) : List UInt8 := List.replicate 64 c
theorem all64_length (c : UInt8) : (all64 c).length = 64 := List.length_replicate
theorem all_two (c : UInt8) : List.replicate (64 * 2) c = all64 c ++ all64 c := by
  unfold all64
  rw [List.replicate_append_replicate]
theorem chunks_two (x y : List UInt8) (hx : x.length = 64) (hy : y.length = 64) : chunks 2 (x ++ y) = [x, y] := by
  simp only [chunks]
  rw [List.take_left' hx, List.drop_left' hx, List.take_of_length_le (by omega)]
theorem chunks_one (x : List UInt8) (hx : x.length = 64) : chunks 1 x = [x] := by
  simp only [chunks]
  rw [List.take_of_length_le (by omega)]
/-- A drive of n cells that may be, without writes that wait. -/
theorem mayB_of {d : Drv} (h : d.May) : d.mayB = true := d.mayB_iff.2 h
theorem may_plain {cs : List (List UInt8)} {q : List Wt} {f : Int} {o : Bool} (h1 : 1 ≤ cs.length) (h2 : cs.length ≤ 6000) (hf : -1 ≤ f) (h3 : ∀ c ∈ cs, c.length = 64) (h4 : ∀ w ∈ q, 0 ≤ w.pos ∧ w.pos < cs.length ∧ w.s.length = 64) : (⟨cs, q, f, o⟩ : Drv).May := ⟨h1, h2, hf, h3, h4⟩
theorem blank_length : blank.length = 64 := rfl

def t0 : Drv := ⟨[blank, blank], [], -1, false⟩
def t1 (o : UInt8) : Drv := ⟨[blank, blank], [⟨0, all64 o⟩, ⟨1, all64 o⟩], -1, false⟩
def t2 (o : UInt8) : Drv := ⟨[all64 o, all64 o], [], -1, false⟩
def t3 (o a : UInt8) : Drv := ⟨[all64 o, all64 o], [⟨1, all64 a⟩], -1, false⟩
def t4 (o a : UInt8) (cut : Int) : Drv := ⟨[all64 o, torn cut (all64 o) (all64 a)], [], -1, false⟩
theorem new_two : Drv.new 2 = (t0, 0) := by kernel_rfl
theorem t0_may : t0.mayB = true := by kernel_rfl
theorem t1_may (o : UInt8) : (t1 o).mayB = true := mayB_of (may_plain (by decide) (by decide) (by decide) (by intro c hc; simp [] at hc; subst hc; rfl) (by
  intro w hw
  simp at hw
  rcases hw with rfl | rfl
  · exact ⟨by simp, by simp, all64_length o⟩
  · exact ⟨by simp, by simp, all64_length o⟩))
theorem t2_may (o : UInt8) : (t2 o).mayB = true := mayB_of (may_plain (by simp) (by simp) (by decide) (by intro c hc; simp at hc; subst hc; exact all64_length o) (by intro w hw; simp at hw))
theorem t3_may (o a : UInt8) : (t3 o a).mayB = true := mayB_of (may_plain (by simp) (by simp) (by decide) (by intro c hc; simp at hc; subst hc; exact all64_length o) (by
  intro w hw
  simp at hw
  subst hw
  exact ⟨by simp, by simp, all64_length a⟩))
theorem write_two (o : UInt8) : t0.write 0 (List.replicate (64 * 2) o) = (t1 o, 0) := by
  unfold Drv.write
  rw [if_neg (by rw [t0_may]; simp), List.length_replicate, if_neg (by decide), all_two]
  show wrs (chunks 2 _) 0 t0 = _
  rw [chunks_two _ _ (all64_length o) (all64_length o)]
  rfl
theorem flush_two (o : UInt8) : (t1 o).flush = (t2 o, 0) := by
  unfold Drv.flush
  rw [if_neg (by rw [t1_may]; decide)]
  rfl
theorem write_one (o a : UInt8) : (t2 o).write 1 (List.replicate (64 * 1) a) = (t3 o a, 0) := by
  unfold Drv.write
  rw [if_neg (by rw [t2_may]; simp), List.length_replicate, if_neg (by
    have : (t2 o).there 1 ((64 * 1 / 64 : Nat) : Int) = true := by simp [Drv.there, t2]
    rw [this]; decide)]
  show wrs (chunks 1 (all64 a)) 1 (t2 o) = _
  rw [chunks_one _ (all64_length a)]
  rfl
theorem crash_one (o a : UInt8) (cut : Int) : (t3 o a).crash 0 0 cut = t4 o a cut := by
  unfold Drv.crash
  rw [if_pos (t3_may o a)]
  rfl

theorem u8_byte {a : Int} (h : (Lit.int .u8 a).wf = true) : ∃ c : UInt8, a = (c.toNat : Int) := by
  simp [Lit.wf, IntKind.min, IntKind.max, IntKind.bits, IntKind.signed] at h
  refine ⟨UInt8.ofNat a.toNat, ?_⟩
  have : (UInt8.ofNat a.toNat).toNat = a.toNat := by
    rw [UInt8.toNat_ofNat']
    omega
  omega
theorem extract_parts (x y : List UInt8) (c : Nat) : bs (y.take c ++ x.drop c) = (bs y).extract 0 c ++ (bs x).extract c (bs x).size := by
  have e : (((bs y).extract 0 c ++ (bs x).extract c (bs x).size)).data.toList = y.take c ++ x.drop c := by
    simp only [bs, ByteArray.data_append, ByteArray.data_extract, Array.toList_append, Array.toList_extract, List.extract_eq_take_drop]
    rw [List.drop_zero, Nat.sub_zero]
    congr 1
    rw [List.take_of_length_le]
    rw [List.length_drop]
    exact Nat.le_refl _
  rw [← e]; rfl
theorem torn_parts (cut : Int) (o a : UInt8) : bs (torn cut (all64 o) (all64 a)) = (bs (List.replicate (64 * 1) a)).extract 0 (min (max cut 0) 64).toNat ++ (bs (List.replicate (64 * 1) o)).extract (min (max cut 0) 64).toNat (bs (List.replicate (64 * 1) o)).size := extract_parts _ _ _

set_option maxRecDepth 100000 in
set_option maxHeartbeats 6400000 in
theorem tears_walk (o a : UInt8) (cut : Int) (w : World) (hcut : -9223372036854775808 ≤ cut ∧ cut < 9223372036854775808) :
    Calls Try.prog 6 #[.int .u8 (o.toNat : Int), .int .u8 (a.toNat : Int), .int .i64 cut] w fun e w' => e = .returned (.bool true) ∧ Below w.heap.size w w' := by
  obtain ⟨sw, hsw⟩ : ∃ s, bs (List.replicate (64 * 2) o) = s := ⟨_, rfl⟩
  obtain ⟨so, hso⟩ : ∃ s, bs (List.replicate (64 * 1) o) = s := ⟨_, rfl⟩
  obtain ⟨sa, hsa⟩ : ∃ s, bs (List.replicate (64 * 1) a) = s := ⟨_, rfl⟩
  have HCUT := hide hcut
  have HA2 := hide (fun w => all_any o 2 w (by decide))
  have HO1 := hide (fun w => all_any o 1 w (by decide))
  have HA1 := hide (fun w => all_any a 1 w (by decide))
  have HN : Hid (∀ w, Calls Try.prog 33 #[.int .i64 2] w fun e w' => ∃ v, e = .returned (.tuple #[v, .int .i64 0]) ∧ IsDrive w' v t0 ∧ Below w.heap.size w w') := hide (fun w => by
    have := new_any 2 w
    rw [new_two] at this
    exact this)
  have HW : Hid (∀ (v : Value) (w : World), IsDrive w v t0 → Calls Try.prog 29 #[v, .int .i64 0, .string sw] w fun e w' => ∃ v', e = .returned (.tuple #[v', .int .i64 0]) ∧ IsDrive w' v' (t1 o) ∧ Below w.heap.size w w') := hide (fun v w h => by
    have := write_any v t0 0 (List.replicate (64 * 2) o) w h (by decide) (by decide) (by rw [List.length_replicate]; decide)
    rw [write_two, hsw] at this
    exact this)
  have HF : Hid (∀ (v : Value) (w : World), IsDrive w v (t1 o) → Calls Try.prog 31 #[v] w fun e w' => ∃ v', e = .returned (.tuple #[v', .int .i64 0]) ∧ IsDrive w' v' (t2 o) ∧ Below w.heap.size w w') := hide (fun v w h => by
    have := flush_any v (t1 o) w h
    rw [flush_two] at this
    exact this)
  have HW2 : Hid (∀ (v : Value) (w : World), IsDrive w v (t2 o) → Calls Try.prog 29 #[v, .int .i64 1, .string sa] w fun e w' => ∃ v', e = .returned (.tuple #[v', .int .i64 0]) ∧ IsDrive w' v' (t3 o a) ∧ Below w.heap.size w w') := hide (fun v w h => by
    have := write_any v (t2 o) 1 (List.replicate (64 * 1) a) w h (by simp [t2]) (by decide) (by rw [List.length_replicate]; decide)
    rw [write_one, hsa] at this
    exact this)
  have HC : Hid (∀ (v : Value) (w : World), IsDrive w v (t3 o a) → Calls Try.prog 24 #[v, .agg #[.int .u64 0, .int .i64 0, .int .i64 cut]] w fun e w' => ∃ v', e = .returned v' ∧ IsDrive w' v' (t4 o a cut) ∧ Below w.heap.size w w') := hide (fun v w h => by
    have := crash_int v (t3 o a) 0 0 cut w h (by decide) (by decide) hcut
    rw [show (t3 o a).crash (0 : Int).toNat 0 cut = t4 o a cut from crash_one o a cut] at this
    exact this)
  have HAW := hide (fun w => lawawake_any w)
  rw [hsw] at HA2
  rw [hso] at HO1
  rw [hsa] at HA1
  have HSO := hide hso
  have HSA := hide hsa
  obtain ⟨xo, hxo⟩ : ∃ x : Int, (o.toNat : Int) = x := ⟨_, rfl⟩
  obtain ⟨xa, hxa⟩ : ∃ x : Int, (a.toNat : Int) = x := ⟨_, rfl⟩
  rw [hxo] at HA2 HO1
  rw [hxa] at HA1
  rw [hxo, hxa]
  clear hsw hso hsa hxo hxa hcut
  go_enter Try.func6, Try.ntmps6
  go_wp2_with fail
  refine (HN.out _).mono ?_
  rintro e w1 ⟨v1, rfl, hd1, hb1⟩
  obtain ⟨a1, c1, a2, c2, rfl, hD1⟩ := drv_form hd1
  have HD1 := hide hd1
  clear hd1 hD1
  have e1 : t0.cells.length = 2 ∧ t0.queue.length = 0 ∧ t0.fuel = -1 ∧ t0.off = false := ⟨rfl, rfl, rfl, rfl⟩
  rw [e1.1, e1.2.1, e1.2.2.1, e1.2.2.2] at HD1 ⊢
  clear e1
  have hal : Below w1.heap.size w1 (w1.alloc (.cells #[.slice a1 2 c1, .slice a2 0 c2, .int .i64 (-1), .bool false] 25)) := (Below.refl _ _).alloc (Nat.le_refl _) _
  have K1 := Blk.new w1 [.slice a1 2 c1, .slice a2 0 c2, .int .i64 (-1), .bool false] 25
  have HD2 := hide (HD1.out.below hal)
  have hb2 := chain hb1 hal
  have hw1 := hb1.size
  obtain ⟨p0, p1, p2, p3, p4, p5, p6, p7⟩ := K1.four
  clear hal hb1 HD1
  go_wp2_with fail
  go_cut [9] (fun s9 wx => ∃ (a1 : Option Addr) (c1 : Nat) (a2 : Option Addr) (c2 : Nat), s9 = .int .i64 0 ∧ Blk wx w1.heap.size [.slice a1 2 c1, .slice a2 2 c2, .int .i64 (-1), .bool false] 25 ∧ IsDrive wx (.agg #[.slice a1 2 c1, .slice a2 2 c2, .int .i64 (-1), .bool false]) (t1 o) ∧ Below w.heap.size w wx)
  case first =>
    go_region_law (first
      | (go_simp
         go_at_call 34
         refine (HA2.out _).mono ?_
         rintro e w5 ⟨rfl, hb5⟩
         have hb5' := undrew1 hb5
         have K5 := K1.next hb5'
         have HD5 := hide (HD2.out.below hb5')
         have hb6 := chain hb2 hb5'
         clear hb5
         obtain ⟨q0, q1, q2, q3, q4, q5, q6, q7⟩ := K5.four)
      | (go_simp
         go_at_call 29
         refine (HW.out _ _ HD5.out).mono ?_
         rintro e w7 ⟨v7, rfl, hd7, hb7⟩
         have K7 := K5.next hb7
         have hb8 := chain hb6 hb7
         obtain ⟨b1, f1, b2, f2, rfl, hD7⟩ := drv_form hd7
         have HE7 := hide hd7
         clear hd7 hD7
         have e1 : (t1 o).cells.length = 2 ∧ (t1 o).queue.length = 2 ∧ (t1 o).fuel = -1 ∧ (t1 o).off = false := ⟨rfl, rfl, rfl, rfl⟩
         rw [e1.1, e1.2.1, e1.2.2.1, e1.2.2.2] at HE7 ⊢
         clear e1
         obtain ⟨r0, r1, r2, r3, r4, r5, r6, r7⟩ := K7.four))
    all_goals
      go_wp2_with fail
      go_meet
      exact ⟨b1, f1, b2, f2, rfl, K7.set4 _ _ _ _, HE7.out.set4 (blk_holds K7) _ _ _ _, below4 hb8 hw1 _ _ _ _⟩
  case rest =>
    obtain ⟨wx, rfl⟩ : ∃ wx, wx = wc := ⟨_, rfl⟩
    clear p0 p1 p2 p3 p4 p5 p6 p7 K1 HD2
    obtain ⟨a1, c1, a2, c2, rfl, G1, hd, hbx⟩ := hcut
    have HD := hide hd
    clear hd
    obtain ⟨p0, p1, p2, p3, p4, p5, p6, p7⟩ := G1.four
    go_wp2_with fail
    refine (HF.out _ _ HD.out).mono ?_
    rintro e w3 ⟨v3, rfl, hd3, hb3⟩
    have G3 := G1.next hb3
    have hb4 := chain hbx hb3
    obtain ⟨b1, f1, b2, f2, rfl, hD3⟩ := drv_form hd3
    have HE := hide hd3
    have e1 : (t2 o).cells.length = 2 ∧ (t2 o).queue.length = 0 ∧ (t2 o).fuel = -1 ∧ (t2 o).off = false := ⟨rfl, rfl, rfl, rfl⟩
    rw [e1.1, e1.2.1, e1.2.2.1, e1.2.2.2] at HE ⊢
    clear e1 hd3 hD3 p0 p1 p2 p3 p4 p5 p6 p7 G1 HD
    obtain ⟨p0, p1, p2, p3, p4, p5, p6, p7⟩ := G3.four
    obtain ⟨W4, hW4⟩ : ∃ W4, (((w3.setCell ⟨w1.heap.size, 0, none⟩ (.slice b1 2 f1)).setCell ⟨w1.heap.size, 1, none⟩ (.slice b2 0 f2)).setCell ⟨w1.heap.size, 2, none⟩ (.int .i64 (-1))).setCell ⟨w1.heap.size, 3, none⟩ (.bool false) = W4 := ⟨_, rfl⟩
    have L4 : Blk W4 w1.heap.size [.slice b1 2 f1, .slice b2 0 f2, .int .i64 (-1), .bool false] 25 := by rw [← hW4]; exact G3.set4 _ _ _ _
    have HE4 : Hid (IsDrive W4 (.agg #[.slice b1 2 f1, .slice b2 0 f2, .int .i64 (-1), .bool false]) (t2 o)) := hide (by rw [← hW4]; exact HE.out.set4 (blk_holds G3) _ _ _ _)
    have hb5 : Below w.heap.size w W4 := by rw [← hW4]; exact below4 hb4 hw1 _ _ _ _
    obtain ⟨q0, q1, q2, q3, q4, q5, q6, q7⟩ := L4.four
    go_wp2_with fail
    clear hW4 p0 p1 p2 p3 p4 p5 p6 p7 G3 HE hb4 hb3 hbx
    go_cut [11, 12] (fun s11 s12 wx => ∃ (b : Nat) (a1 : Option Addr) (c1 : Nat) (a2 : Option Addr) (c2 : Nat), s11 = .pointer (some ⟨b, 0, none⟩) ∧ s12 = .int .i64 0 ∧ Blk wx b [.slice a1 2 c1, .slice a2 1 c2, .int .i64 (-1), .bool false] 25 ∧ IsDrive wx (.agg #[.slice a1 2 c1, .slice a2 1 c2, .int .i64 (-1), .bool false]) (t3 o a) ∧ Below w.heap.size w wx)
    case first =>
      go_region_held3 (fun w' => w'.cell? ⟨w1.heap.size, 0, none⟩ = some (.slice b1 2 f1) ∧ w'.cell? ⟨w1.heap.size, 1, none⟩ = some (.slice b2 0 f2) ∧ w'.cell? ⟨w1.heap.size, 2, none⟩ = some (.int .i64 (-1)) ∧ w'.cell? ⟨w1.heap.size, 3, none⟩ = some (.bool false)) (go_keep) (first
        | (go_at_call 34
           refine (HA1.out _).mono ?_
           rintro e w5 ⟨rfl, hb6⟩
           have hb6' := undrew1 hb6
           have K5 := Blk.next (by first | exact L4 | exact L4.alloc _) hb6'
           have HD5 := hide (IsDrive.below (by first | exact HE4.out | exact HE4.out.below ((Below.refl _ _).alloc (Nat.le_refl _) _)) hb6')
           have hb7 := chain (by first | exact hb5 | exact hb5.alloc hb5.size _) hb6'
           first
             | (have Z5 := (Blk.new W4 [.slice none 0 0, .slice none 0 0, .int .i64 0, .bool false] 25).next hb6')
             | skip
           have hl5 : w1.heap.size < w5.heap.size := Blk.lt K5
           have hne5 : w5.heap.size ≠ w1.heap.size := Nat.ne_of_gt (Blk.lt K5)
           obtain ⟨q0, q1, q2, q3, q4, q5, q6, q7⟩ := K5.four)
        | (go_at_call 29
           refine (HW2.out _ _ (by first | exact HD5.out | exact HD5.out.below ((Below.refl _ _).alloc (Nat.le_refl _) _))).mono ?_
           rintro e w7 ⟨v7, rfl, hd7, hb8⟩
           have K7 := Blk.next (by first | exact K5 | exact K5.alloc _) hb8
           have hb9 := chain (by first | exact hb7 | exact hb7.alloc hb7.size _) hb8
           obtain ⟨d1, g1, d2, g2, rfl, hD7⟩ := drv_form hd7
           have HE7 := hide hd7
           have e1 : (t3 o a).cells.length = 2 ∧ (t3 o a).queue.length = 1 ∧ (t3 o a).fuel = -1 ∧ (t3 o a).off = false := ⟨rfl, rfl, rfl, rfl⟩
           rw [e1.1, e1.2.1, e1.2.2.1, e1.2.2.2] at HE7 ⊢
           clear e1 hd7 hD7
           first
             | (have Z7 := Z5.next hb8
                obtain ⟨z0, z1, z2, z3, z4, z5, z6, z7⟩ := Z7.four)
             | (have Z7 := (Blk.new w5 [.slice none 0 0, .slice none 0 0, .int .i64 0, .bool false] 25).next hb8
                obtain ⟨z0, z1, z2, z3, z4, z5, z6, z7⟩ := Z7.four)
             | skip
           have hl7 : w1.heap.size < w7.heap.size := Blk.lt K7
           have hne7 : w7.heap.size ≠ w1.heap.size := Nat.ne_of_gt (Blk.lt K7)
           have hl4 : w1.heap.size < W4.heap.size := L4.lt
           have hne4 : W4.heap.size ≠ w1.heap.size := Nat.ne_of_gt (Blk.lt L4)
           obtain ⟨r0, r1, r2, r3, r4, r5, r6, r7⟩ := K7.four))
      all_goals
        go_wp2_with fail
        go_meet
      · exact ⟨_, d1, g1, d2, g2, rfl, rfl, Blk.new _ _ _, HE7.out.below ((Below.refl _ _).alloc (Nat.le_refl _) _), hb9.alloc hb9.size _⟩
      · exact ⟨_, d1, g1, d2, g2, rfl, rfl, Z7.set4 _ _ _ _, HE7.out.set4 (blk_holds Z7) _ _ _ _, below4 hb9 (by omega) _ _ _ _⟩
      · exact ⟨_, d1, g1, d2, g2, rfl, rfl, Z7.set4 _ _ _ _, HE7.out.set4 (blk_holds Z7) _ _ _ _, below4 hb9 (by omega) _ _ _ _⟩
    case rest =>
      obtain ⟨wy, rfl⟩ : ∃ wy, wy = wc := ⟨_, rfl⟩
      clear q0 q1 q2 q3 q4 q5 q6 q7 L4 HE4 hb5
      obtain ⟨b11, a1, c1, a2, c2, rfl, rfl, G1, hd, hbx⟩ := hcut
      have HD := hide hd
      clear hd
      obtain ⟨p0, p1, p2, p3, p4, p5, p6, p7⟩ := G1.four
      go_wp2_with fail
      refine (HC.out _ _ HD.out).mono ?_
      rintro e w9 ⟨v9, rfl, hd9, hb9⟩
      have hb10 := chain hbx hb9
      obtain ⟨b1, f1, b2, f2, rfl, hD9⟩ := drv_form hd9
      obtain ⟨g0, n0, hg0, hix0, hcl0⟩ := hD9.cells.at f1 0 (by simp [t4])
      obtain ⟨g1, n1, hg1, hix1, hcl1⟩ := hD9.cells.at f1 1 (by simp [t4])
      have e1 : (t4 o a cut).cells.length = 2 ∧ (t4 o a cut).queue.length = 0 ∧ (t4 o a cut).fuel = -1 ∧ (t4 o a cut).off = false := ⟨rfl, rfl, rfl, rfl⟩
      rw [e1.1] at hix0 hix1
      rw [e1.1, e1.2.1, e1.2.2.1, e1.2.2.2]
      have hix0z : ∀ W, (Instr.indexAt 22 (.slice b1 2 f1) (.int .i64 0)).run Try.prog W = .ok (.pointer (some ⟨g0, n0, none⟩)) W := fun W => hix0 W
      have hix1z : ∀ W, (Instr.indexAt 22 (.slice b1 2 f1) (.int .i64 1)).run Try.prog W = .ok (.pointer (some ⟨g1, n1, none⟩)) W := fun W => hix1 W
      have k0 : bs ((t4 o a cut).cells.getD 0 []) = so := HSO.out
      have k1 : bs ((t4 o a cut).cells.getD 1 []) = bs (torn cut (all64 o) (all64 a)) := rfl
      rw [k0] at hcl0
      rw [k1] at hcl1
      clear hix0 hix1 e1 hd9 hD9 k0 k1 HD p0 p1 p2 p3 p4 p5 p6 p7 G1 hb9 hbx HC HF HW HW2 HN HA2
      have K := Blk.new w9 [.slice b1 2 f1, .slice b2 0 f2, .int .i64 (-1), .bool false] 25
      have hal : Below w9.heap.size w9 (w9.alloc (.cells #[.slice b1 2 f1, .slice b2 0 f2, .int .i64 (-1), .bool false] 25)) := (Below.refl _ _).alloc (Nat.le_refl _) _
      have hc0 : (w9.alloc (.cells #[.slice b1 2 f1, .slice b2 0 f2, .int .i64 (-1), .bool false] 25)).cell? ⟨g0, n0, none⟩ = some (.string so) := (hal.cell (p := ⟨g0, n0, none⟩) hg0).trans hcl0
      have hc1 : (w9.alloc (.cells #[.slice b1 2 f1, .slice b2 0 f2, .int .i64 (-1), .bool false] 25)).cell? ⟨g1, n1, none⟩ = some (.string (bs (torn cut (all64 o) (all64 a)))) := (hal.cell (p := ⟨g1, n1, none⟩) hg1).trans hcl1
      have hb11 := chain hb10 hal
      obtain ⟨m, hm, hm64, hmt⟩ : ∃ m : Nat, (m : Int) = min (max cut 0) 64 ∧ m ≤ 64 ∧ bs (torn cut (all64 o) (all64 a)) = sa.extract 0 m ++ so.extract m so.size := by
        refine ⟨(min (max cut 0) 64).toNat, by omega, by omega, ?_⟩
        rw [← HSO.out, ← HSA.out]
        exact torn_parts cut o a
      rw [hmt] at hc1
      have hsa : sa.size = 64 := by rw [← HSA.out]; simp [bs_size]
      have hso : so.size = 64 := by rw [← HSO.out]; simp [bs_size]
      rw [hso] at hc1
      obtain ⟨st, hst⟩ : ∃ s, sa.extract 0 m ++ so.extract m 64 = s := ⟨_, rfl⟩
      rw [hst] at hc1
      have hsts : st.size ≤ 64 := by
        rw [← hst, ByteArray.size_append, ByteArray.size_extract, ByteArray.size_extract]
        omega
      clear hcl0 hcl1 hmt hal hb10
      have hcase : (cut < 0 ∧ m = 0) ∨ (64 < cut ∧ m = 64) ∨ (cut = (m : Int)) := by omega
      have hsi1 : (m : Int) ≤ (sa.size : Int) := by omega
      have hsi2 : (m : Int) ≤ (so.size : Int) := by omega
      obtain ⟨p0, p1, p2, p3, p4, p5, p6, p7⟩ := K.four
      have hl0 := World.block_lt_of_cell? _ _ hc0
      have hl1 := World.block_lt_of_cell? _ _ hc1
      have hlK := K.lt
      rw [World.size_alloc] at hl0 hl1 hlK
      have HSI := hide hso
      clear hm K hg0 hg1
      rcases hcase with ⟨h1, rfl⟩ | ⟨h1, rfl⟩ | hcm
      · have hs0 : st.toList = (so.extract 0 64).toList := by rw [← hst]; simp
        go_wp2_with fail
        go_region_held3 (fun w' => w'.cell? ⟨w9.heap.size, 0, none⟩ = some (.slice b1 2 f1) ∧ w'.cell? ⟨g0, n0, none⟩ = some (.string so) ∧ w'.cell? ⟨g1, n1, none⟩ = some (.string st)) (go_keep) (first
          | (go_at_call_of 34 (Value.int IntKind.u8 xo)
             refine (HO1.out _).mono ?_
             rintro e w12 ⟨rfl, hb⟩
             have hbq := hide (by first | exact chain hbq.out hb | exact undrew1 hb)
             obtain ⟨hcc, hff⟩ := bcell hbq.out
             clear hb)
          | (go_at_call_of 34 (Value.int IntKind.u8 xa)
             refine (HA1.out _).mono ?_
             rintro e w12 ⟨rfl, hb⟩
             have hbq := hide (chain hbq.out hb)
             obtain ⟨hcc, hff⟩ := bcell hbq.out
             clear hb)
          | (go_at_call 27
             refine (HAW.out _).mono ?_
             rintro e w12 ⟨rfl, hb⟩
             have hbq := hide (chain hbq.out hb)
             obtain ⟨hcc, hff⟩ := bcell hbq.out
             clear hb))
        go_wp2_with fail
        go_ret
        exact ⟨rfl, chain hb11 hbq.out⟩
      · have hs0 : st.toList = (sa.extract 0 64).toList := by rw [← hst]; simp
        go_wp2_with fail
        go_region_held3 (fun w' => w'.cell? ⟨w9.heap.size, 0, none⟩ = some (.slice b1 2 f1) ∧ w'.cell? ⟨g0, n0, none⟩ = some (.string so) ∧ w'.cell? ⟨g1, n1, none⟩ = some (.string st)) (go_keep) (first
          | (go_at_call_of 34 (Value.int IntKind.u8 xo)
             refine (HO1.out _).mono ?_
             rintro e w12 ⟨rfl, hb⟩
             have hbq := hide (by first | exact chain hbq.out hb | exact undrew1 hb)
             obtain ⟨hcc, hff⟩ := bcell hbq.out
             clear hb)
          | (go_at_call_of 34 (Value.int IntKind.u8 xa)
             refine (HA1.out _).mono ?_
             rintro e w12 ⟨rfl, hb⟩
             have hbq := hide (chain hbq.out hb)
             obtain ⟨hcc, hff⟩ := bcell hbq.out
             clear hb)
          | (go_at_call 27
             refine (HAW.out _).mono ?_
             rintro e w12 ⟨rfl, hb⟩
             have hbq := hide (chain hbq.out hb)
             obtain ⟨hcc, hff⟩ := bcell hbq.out
             clear hb))
        go_wp2_with fail
        go_ret
        exact ⟨rfl, chain hb11 hbq.out⟩
      · go_wp2_with fail
        go_region_held3 (fun w' => w'.cell? ⟨w9.heap.size, 0, none⟩ = some (.slice b1 2 f1) ∧ w'.cell? ⟨g0, n0, none⟩ = some (.string so) ∧ w'.cell? ⟨g1, n1, none⟩ = some (.string st)) (go_keep) (first
          | (go_at_call_of 34 (Value.int IntKind.u8 xo)
             refine (HO1.out _).mono ?_
             rintro e w12 ⟨rfl, hb⟩
             have hbq := hide (by first | exact chain hbq.out hb | exact undrew1 hb)
             obtain ⟨hcc, hff⟩ := bcell hbq.out
             clear hb)
          | (go_at_call_of 34 (Value.int IntKind.u8 xa)
             refine (HA1.out _).mono ?_
             rintro e w12 ⟨rfl, hb⟩
             have hbq := hide (chain hbq.out hb)
             obtain ⟨hcc, hff⟩ := bcell hbq.out
             clear hb)
          | (go_at_call 27
             refine (HAW.out _).mono ?_
             rintro e w12 ⟨rfl, hb⟩
             have hbq := hide (chain hbq.out hb)
             obtain ⟨hcc, hff⟩ := bcell hbq.out
             clear hb))
        go_wp2_with fail
        go_ret
        exact ⟨rfl, chain hb11 hbq.out⟩

/-- The walk, as the frame calls it. -/
theorem tears_frame (o : Int) (ho : (Lit.int .u8 o).wf = true) (a : Int) (ha : (Lit.int .u8 a).wf = true) (cut : Int) (hc : (Lit.int .i64 cut).wf = true) (w : World) :
    Calls Try.prog 6 #[.int .u8 o, .int .u8 a, .int .i64 cut] w fun e w2 => e = .returned (.bool true) ∧ Below w.heap.size w w2 := by
  obtain ⟨x, rfl⟩ := u8_byte ho
  obtain ⟨y, rfl⟩ := u8_byte ha
  exact tears_walk x y cut w (i64_bd hc)

end Go.Proofs.Ytkapdmhjhbmdjaa
