/-
  The walk through disk.Write.
-/
import Derived.Test.YtogonkoeginoaaaGreatDoorDskRead
namespace Go.Proofs.YtogonkoeginoaaaGreatDoor
open Go.RowKit

/-- 'make([]T, n, c)'. -/
theorem wpList_make_cap {P : Program} (w : World) {ops : Array Oper} {rest : List Oper} {o : Oper} {a : Act} {Q : Exit → Act → World → Prop}
    (hg : o.guard = none) (l c : Operand) (t : TypeId) (hop : o.op = Op.makeSlice t l c)
    (base : Nat) (e : TypeId) (i : TypeInfo) (z : Value) (size : Nat) (h1 : P.underlying t = some (.slice e)) (h2 : P.info? e = some i) (h3 : i.zero = some z) (h4 : i.size = size)
    (kl kc : IntKind) (L C : Int) (n m : Nat) (hl : a.eval l = .int kl L) (hc : a.eval c = .int kc C) (hL : L = (n : Int)) (hC : C = (m : Int)) (hnm : n ≤ m) (b2 : i.bytes * m ≤ 281474976710656) (b3 : m ≤ 9223372036854775807) (b4 : base ≤ w.heap.size)
    (hK : ∀ w' xs, w'.ownsRow base e size (.slice (some ⟨w.heap.size, 0, none⟩) n m) n xs → w.grownBy w' none → wpList P ops Q rest (a.put o.dst (.slice (some ⟨w.heap.size, 0, none⟩) n m)) w') :
    wpList P ops Q (o :: rest) a w := by
  refine wpList_plain hg fun K hK' => ?_
  subst hL
  subst hC
  subst h4
  have hb : (i.bytes : Int) * (m : Int) ≤ 281474976710656 := by
    have h : ((i.bytes * m : Nat) : Int) ≤ 281474976710656 := by omega
    rwa [Int.natCast_mul] at h
  have hr := run_make (P := P) w t e i z h1 h2 h3 kl kc n m (by omega) (by omega) hb (by omega)
  simp only [Int.toNat_natCast] at hr
  unfold Oper.wp
  simp [execOp, hop, hl, hc, hr, Result.andThen]
  refine hK' _ _ (hK _ ((madeCells z.cells (m * i.size)).toList.take (n * i.size)) ?_ (World.grownBy_alloc w _ none))
  refine ⟨?_, .inr ⟨w.heap.size, m, _, rfl, b4, heap_alloc_new w _, hnm, by simp only [maxLen]; omega, size_madeCells _ _, rfl⟩⟩
  rw [List.length_take, Array.length_toList, size_madeCells]
  exact Nat.min_eq_left (Nat.mul_le_mul_right _ hnm)

theorem burn_mk (cs : List (List UInt8)) (q : List Wt) (f : Int) (o : Bool) : (⟨cs, q, f, o⟩ : Drv).burnOk = !burnOff f o ∧ (⟨cs, q, f, o⟩ : Drv).burn = ⟨cs, q, burnFuel f o, burnOff f o⟩ := by
  have h : (⟨cs, q, f, o⟩ : Drv).burnOk = !burnOff f o := rfl
  refine ⟨h, ?_⟩
  unfold Drv.burn
  rw [h]
  cases o <;> simp [burnOff, burnFuel]
  by_cases hf : f = 0 <;> simp [hf]
theorem burnFuel_range {f : Int} (o : Bool) (h : -9223372036854775808 ≤ f ∧ f < 9223372036854775808) : -9223372036854775808 ≤ burnFuel f o ∧ burnFuel f o < 9223372036854775808 := by
  unfold burnFuel; split <;> (try split) <;> omega

/-- What the loop holds: i writes wait. -/
structure WrRel (d : Drv) (a n i : Nat) (s : List UInt8) (q : List Wt) (f : Int) (o : Bool) : Prop where
  le : i ≤ n
  all : wrs (chunks n s) a d = wrs (chunks (n - i) (s.drop (64 * i))) ((a : Int) + i) ⟨d.cells, q, f, o⟩
  len : q.length = d.queue.length + i
  range : ∀ x ∈ q, -9223372036854775808 ≤ x.pos ∧ x.pos < 9223372036854775808
  fuel : -9223372036854775808 ≤ f ∧ f < 9223372036854775808

theorem WrRel.go {d : Drv} {a n i : Nat} {s : List UInt8} {q : List Wt} {f : Int} {o : Bool} (h : WrRel d a n i s q f o) (hi : i < n) (hn : a + n ≤ 6000) (hb : burnOff f o = false) :
    WrRel d a n (i + 1) s (q ++ [⟨(a : Int) + i, (s.drop (64 * i)).take 64⟩]) (burnFuel f o) false := by
  obtain ⟨h1, h2⟩ := burn_mk d.cells q f o
  refine ⟨by omega, ?_, by rw [List.length_append, h.len]; simp; omega, ?_, burnFuel_range o h.fuel⟩
  · rw [h.all, show n - i = (n - (i + 1)) + 1 by omega, chunks, wrs, h1, hb, if_pos (by decide), h2, hb, List.drop_drop]
    congr 1
  · intro x hx
    rcases List.mem_append.1 hx with hx | hx
    · exact h.range x hx
    · simp at hx; subst hx; simp only; omega
theorem WrRel.stop {d : Drv} {a n i : Nat} {s : List UInt8} {q : List Wt} {f : Int} {o : Bool} (h : WrRel d a n i s q f o) (hi : i < n) (hb : burnOff f o = true) :
    wrs (chunks n s) a d = (⟨d.cells, q, burnFuel f o, true⟩, 10) := by
  obtain ⟨h1, h2⟩ := burn_mk d.cells q f o
  rw [h.all, show n - i = (n - (i + 1)) + 1 by omega, chunks, wrs, h1, hb, if_neg (by decide), h2, hb]
theorem WrRel.done {d : Drv} {a n : Nat} {s : List UInt8} {q : List Wt} {f : Int} {o : Bool} (h : WrRel d a n n s q f o) : wrs (chunks n s) a d = (⟨d.cells, q, f, o⟩, 0) := by
  rw [h.all, Nat.sub_self, chunks, wrs]

theorem piece_eq (l : List UInt8) (i : Nat) : (bs l).extract (i * 64) ((i + 1) * 64) = bs ((l.drop (64 * i)).take 64) := by
  have e : ((bs l).extract (i * 64) ((i + 1) * 64)).data.toList = (l.drop (64 * i)).take 64 := by
    have h1 : (i + 1) * 64 - i * 64 = 64 := by omega
    simp only [bs, ByteArray.data_extract, Array.toList_extract, List.extract_eq_take_drop, h1]
    rw [Nat.mul_comm i 64]
  rw [← e]
  rfl

theorem ownsRow4 {w : World} {base : Nat} {e : TypeId} {size : Nat} {s : Value} {n : Nat} {xs : List Value} (h : w.ownsRow base e size s n xs) {b : Nat} (hb : b < base) (v0 v1 v2 v3 : Value) :
    ((((w.setCell ⟨b, 0, none⟩ v0).setCell ⟨b, 1, none⟩ v1).setCell ⟨b, 2, none⟩ v2).setCell ⟨b, 3, none⟩ v3).ownsRow base e size s n xs :=
  ownsRow_setCell_below (a := ⟨b, 3, none⟩) (ownsRow_setCell_below (a := ⟨b, 2, none⟩) (ownsRow_setCell_below (a := ⟨b, 1, none⟩) (ownsRow_setCell_below (a := ⟨b, 0, none⟩) h hb v0) hb v1) hb v2) hb v3

set_option maxRecDepth 100000 in
set_option maxHeartbeats 12800000 in
theorem write_main (a1 a2 : Option Addr) (n1 c1 n2 c2 : Nat) (fuel : Int) (off : Bool) (d : Drv) (a n : Nat) (l : List UInt8) (w : World) (h : DriveAt w a1 n1 c1 a2 n2 c2 fuel off d) (hmay : d.May) (hth : a + n ≤ n1) (hn1 : 1 ≤ n) (hl : l.length = n * 64) (hq : n2 ≤ 1000000) :
    Calls Tryz.prog 77 #[.agg #[.slice a1 n1 c1, .slice a2 n2 c2, .int .i64 fuel, .bool off], .int .i64 (a : Int), .string (bs l)] w fun e w' => ∃ v, e = .returned (.tuple #[v, .int .i64 (wrs (chunks n l) a d).2]) ∧ IsDrive w' v (wrs (chunks n l) a d).1 ∧ Below w.heap.size w w' := by
  obtain ⟨i0, hi, hz0, hz1, hz2⟩ := info_parts info_wait
  have HD := hide h
  have HM := hide (fun w => may_any (.agg #[.slice a1 n1 c1, .slice a2 n2 c2, .int .i64 fuel, .bool off]) d w)
  rw [d.mayB_iff.2 hmay] at HM
  have hN : d.cells.length = n1 := h.cells.len
  have hQ : d.queue.length = n2 := h.queue.len
  have hn6 : n1 ≤ 6000 := by rw [← hN]; exact hmay.most
  have hc2 : n2 ≤ c2 := h.room2.1
  have hr2 := h.room2
  have HFU := hide (And.intro h.fuel_eq h.off_eq)
  have HRG := hide h.range
  have HN := hide (And.intro hN hQ)
  have HT := hide (fun w => there_any a1 a2 n1 c1 n2 c2 fuel off a n w (by omega) (by omega) (by omega))
  have hdt : decide (0 ≤ (a : Int) ∧ 0 ≤ (n : Int) ∧ (a : Int) ≤ n1 ∧ (n : Int) ≤ n1 - a) = true := decide_eq_true (by omega)
  rw [hdt] at HT
  have hsz : (bs l).size = n * 64 := by rw [bs_size]; exact hl
  have HPC := hide (fun i => piece_eq l i)
  obtain ⟨s, hs⟩ : ∃ s, bs l = s := ⟨_, rfl⟩
  rw [hs] at hsz HPC
  have hse := toList_some (s := s) (by omega)
  have hsn : ((s.size : Int) / 64) = n := by omega
  have hsn2 : ((s.size : Int) != (n : Int) * 64) = false := by rw [bne_eq_false_iff_eq]; omega
  have hsz2 : s.size ≤ 384000 := by omega
  rw [hs]
  have HSZ := hide hsz
  have hR0 : WrRel d a n 0 l d.queue fuel off := ⟨by omega, by rw [← h.fuel_eq, ← h.off_eq, Nat.mul_zero, List.drop_zero]; simp, rfl, h.queue.range, h.range⟩
  have HR0 := hide hR0
  clear h hmay hN hQ hdt hs hl hsz hR0
  go_enter Tryz.func77, Tryz.ntmps77
  go_wp2_with fail
  refine (HM.out _ ((HD.out.below (((Below.refl _ _).alloc (Nat.le_refl _) _).alloc (by simp) _)).is)).mono ?_
  rintro e w1 ⟨rfl, hb1⟩
  obtain ⟨B0, B1⟩ := two_boxes w [.slice a1 n1 c1, .slice a2 n2 c2, .int .i64 fuel, .bool off] [.slice none 0 0, .slice none 0 0, .int .i64 0, .bool false] 44
  have C0 := B0.next hb1
  have C1 := B1.next hb1
  have hbw : Below w.heap.size w w1 := (((Below.refl _ _).alloc (Nat.le_refl _) _).alloc (by simp) _).trans (hb1.mono (by simp; omega))
  obtain ⟨p0, p1, p2, p3, p4, p5, p6, p7⟩ := C0.four
  clear B0 B1 hb1
  go_wp2_with fail
  refine (HT.out _).mono ?_
  rintro e w2 ⟨rfl, hb2⟩
  clear p0 p1 p2 p3 p4 p5 p6 p7
  have D0 := C0.next hb2
  have D1 := C1.next hb2
  have hbw2 := chain hbw hb2
  obtain ⟨p0, p1, p2, p3, p4, p5, p6, p7⟩ := D0.four
  clear C0 C1 hb2 hbw
  go_wp2_with (refine wpList_make_cap _ rfl _ _ 42 rfl w2.heap.size 96 i0 (.agg #[.int .i64 0, .string ⟨#[]⟩]) 2 Tryz.underlying42 hi hz0 hz1 _ _ _ _ n2 (n2 + n) rfl rfl ?c0 ?c1 ?c2 ?c3 ?c4 ?c5 ?_)
  case c0 => rfl
  case c1 => omega
  case c2 => omega
  case c3 => rw [hz2]; omega
  case c4 => omega
  case c5 => simp
  intro w3 xs0 hown hgrow
  clear p0 p1 p2 p3 p4 p5 p6 p7
  have E0 := D0.grown hgrow (by simp)
  have E1 := D1.grown hgrow (by simp)
  have hbw3 := hbw2.grown hgrow hbw2.size (by simp)
  have hgw := D1.lt
  obtain ⟨p0, p1, p2, p3, p4, p5, p6, p7⟩ := E0.four
  have HRW := HD.out.queue.row.below hbw3
  clear hgrow D0 D1 hbw2
  go_wp2_with (refine wpList_copy_all rfl _ _ 42 42 rfl 96 2 Tryz.underlying42 cells_wait w2.heap.size 96 _ _ _ _ _ _ _ rfl rfl rfl hown (waitVals d.queue) ?d1 HRW (waitVals_one _) ?_)
  case d1 => rw [waitVals_length, HN.out.2]
  intro w4 hown2 hgrow2
  clear p0 p1 p2 p3 p4 p5 p6 p7 HRW
  have F0 := E0.grown hgrow2 (by intro h; injection h with h; omega)
  have F1 := E1.grown hgrow2 (by intro h; injection h with h; omega)
  have hbw4 := hbw3.grown hgrow2 hbw3.size (by rintro k h; injection h with h; omega)
  have hown3 : w4.ownsRow w2.heap.size 96 2 (.slice (some ⟨w2.heap.size, 0, none⟩) (n2 + 0) (n2 + n)) (n2 + 0) (waitVals d.queue) := hown2
  clear hgrow2 hown E0 E1 hbw3 hown2
  go_wp2_with fail
  have HI := hide (And.intro hi hz1)
  clear hsn hsn2 hsz2 hse hi hz0 hz1 hz2
  go_loopw [9, 10, 11, 50] (fun v _ _ i wr => ∃ (k : Nat) (q : List Wt) (f : Int) (o : Bool), i = .int .i64 k ∧ v = .slice (some ⟨w2.heap.size, 0, none⟩) (n2 + k) (n2 + n) ∧ WrRel d a n k l q f o ∧ Blk wr w.heap.size [.slice a1 n1 c1, .slice a2 n2 c2, .int .i64 f, .bool o] 44 ∧ Blk wr (w.heap.size + 1) [.slice none 0 0, .slice none 0 0, .int .i64 0, .bool false] 44 ∧ wr.ownsRow w2.heap.size 96 2 (.slice (some ⟨w2.heap.size, 0, none⟩) (n2 + k) (n2 + n)) (n2 + k) (waitVals q) ∧ Below w.heap.size w wr) (fun _ _ _ i _ => n - (intOf i).toNat)
  case atStart => exact ⟨0, d.queue, fuel, off, rfl, rfl, HR0.out, F0, F1, hown3, hbw4⟩
  case round =>
    obtain ⟨k, q, f, o, rfl, rfl, hrl, G0, G1, ho, hbr⟩ := hrel
    clear hown3 F0 F1 hbw4
    have hgw4 : w.heap.size < w2.heap.size := by omega
    have hk := hrl.le
    have hfr := hrl.fuel
    by_cases hkt : k < n
    · have hg2 : w2.heap.size < wr.heap.size := (ho.lt w2.heap.size rfl).2
      have HBN := hide (fun (w : World) => burn_any a1 a2 n1 c1 n2 c2 f o w hfr)
      have hfr2 := burnFuel_range o hfr
      have hst := fun hb => hrl.stop hkt hb
      have hgo := fun hb => hrl.go hkt (by omega) hb
      have hql := hrl.len
      obtain ⟨f2, hf2⟩ : ∃ f2, burnFuel f o = f2 := ⟨_, rfl⟩
      obtain ⟨o2, ho2⟩ : ∃ o2, burnOff f o = o2 := ⟨_, rfl⟩
      rw [hf2, ho2] at HBN
      rw [hf2] at hfr2
      rw [hf2, ho2] at hst hgo
      have HQL := hide hql
      have HRL := hide hrl
      have HFR := hide hfr
      have HFR2 := hide hfr2
      have HRR := hide hr2
      clear hf2 ho2 hql hrl hfr hfr2 hr2
      obtain ⟨p0, p1, p2, p3, p4, p5, p6, p7⟩ := G0.four
      cases o2 with
      | true =>
        have HST := hide (hst rfl)
        clear hst hgo
        go_wp2_with fail
        refine (HBN.out wr).mono ?_
        rintro e w5 ⟨rfl, hb5⟩
        clear p0 p1 p2 p3 p4 p5 p6 p7
        have H0 := G0.next hb5
        have H1 := G1.next hb5
        have ho5 := ho.kept (row := none) ⟨hb5.os, hb5.tape, hb5.output, hb5.size, fun k hk _ => hb5.block k hk⟩ (by simp [Value.ownBlock])
        have hbr5 := chain hbr hb5
        have hs5 := hb5.size
        clear G0 G1 hb5 hbr HBN
        have HO := hide ho
        have HO5 := hide ho5
        clear ho ho5
        obtain ⟨p0, p1, p2, p3, p4, p5, p6, p7⟩ := H0.four
        obtain ⟨W6, hW6⟩ : ∃ W6, (((w5.setCell ⟨w.heap.size, 0, none⟩ (.slice a1 n1 c1)).setCell ⟨w.heap.size, 1, none⟩ (.slice a2 n2 c2)).setCell ⟨w.heap.size, 2, none⟩ (.int .i64 f2)).setCell ⟨w.heap.size, 3, none⟩ (.bool true) = W6 := ⟨_, rfl⟩
        have HB6 : Hid (Below w.heap.size w W6) := hide (by rw [← hW6]; exact below4 hbr5 (Nat.le_refl _) _ _ _ _)
        have I0 : Blk W6 w.heap.size [.slice a1 n1 c1, .slice a2 n2 c2, .int .i64 f2, .bool true] 44 := by rw [← hW6]; exact H0.set4 _ _ _ _
        have I1 : Blk W6 (w.heap.size + 1) [.slice none 0 0, .slice none 0 0, .int .i64 0, .bool false] 44 := by rw [← hW6]; exact H1.other4 (by omega) _ _ _ _
        have HO6 := hide (ownsRow4 HO5.out hgw4 (Value.slice a1 n1 c1) (Value.slice a2 n2 c2) (.int .i64 f2) (.bool true))
        rw [hW6] at HO6
        obtain ⟨q0, q1, q2, q3, q4, q5, q6, q7⟩ := I0.four
        obtain ⟨r0, r1, r2, r3, r4, r5, r6, r7⟩ := I1.four
        go_wp2_with fail
        rw [HST.out]
        refine bodyPost_ret (v := .tuple #[.agg #[.slice a1 n1 c1, .slice (some ⟨w2.heap.size, 0, none⟩) (n2 + k) (n2 + n), .int .i64 f2, .bool true], .int .i64 10]) (by simp [results, Tryz.results77, go_sem, r0, r1, r2, r3]) rfl ⟨_, rfl, ?_, ?_⟩
        · refine DriveAt.is ⟨HD.out.cells.below (below4 ((HB6.out).setCell (p := ⟨w.heap.size, 1, none⟩) (Nat.le_refl _) _) (Nat.le_succ _) _ _ _ _), ⟨by rw [HQL.out, HN.out.2], HRL.out.range, ?_⟩, HD.out.room1, by omega, rfl, rfl, HFR2.out⟩
          exact row_of_own (ownsRow4 (ownsRow_setCell_below (a := ⟨w.heap.size, 1, none⟩) HO6.out hgw4 _) hgw _ _ _ _)
        · exact below4 ((HB6.out).setCell (p := ⟨w.heap.size, 1, none⟩) (Nat.le_refl _) _) (Nat.le_succ _) _ _ _ _
      | false =>
        have HGO := hide (hgo rfl)
        clear hst hgo
        go_wp2_with fail
        refine (HBN.out wr).mono ?_
        rintro e w5 ⟨rfl, hb5⟩
        clear p0 p1 p2 p3 p4 p5 p6 p7
        have H0 := G0.next hb5
        have H1 := G1.next hb5
        have ho5 := ho.kept (row := none) ⟨hb5.os, hb5.tape, hb5.output, hb5.size, fun k hk _ => hb5.block k hk⟩ (by simp [Value.ownBlock])
        have hbr5 := chain hbr hb5
        have hs5 := hb5.size
        clear G0 G1 hb5 hbr HBN
        have HO5 := hide ho5
        clear ho ho5
        obtain ⟨p0, p1, p2, p3, p4, p5, p6, p7⟩ := H0.four
        obtain ⟨W6, hW6⟩ : ∃ W6, (((w5.setCell ⟨w.heap.size, 0, none⟩ (.slice a1 n1 c1)).setCell ⟨w.heap.size, 1, none⟩ (.slice a2 n2 c2)).setCell ⟨w.heap.size, 2, none⟩ (.int .i64 f2)).setCell ⟨w.heap.size, 3, none⟩ (.bool false) = W6 := ⟨_, rfl⟩
        have hB6 : Below w.heap.size w W6 := by rw [← hW6]; exact below4 hbr5 (Nat.le_refl _) _ _ _ _
        have HB6 := hide hB6
        have I0 : Blk W6 w.heap.size [.slice a1 n1 c1, .slice a2 n2 c2, .int .i64 f2, .bool false] 44 := by rw [← hW6]; exact H0.set4 _ _ _ _
        have I1 : Blk W6 (w.heap.size + 1) [.slice none 0 0, .slice none 0 0, .int .i64 0, .bool false] 44 := by rw [← hW6]; exact H1.other4 (by omega) _ _ _ _
        have HO6 := hide (ownsRow4 HO5.out hgw4 (Value.slice a1 n1 c1) (Value.slice a2 n2 c2) (.int .i64 f2) (.bool false))
        rw [hW6] at HO6
        have hpc := HPC.out k
        obtain ⟨pc, hpce⟩ : ∃ pc, bs ((l.drop (64 * k)).take 64) = pc := ⟨_, rfl⟩
        rw [hpce] at hpc
        have HPE := hide hpce
        have hszk : (k + 1) * 64 ≤ s.size := by have := HSZ.out; omega
        have hak : a + n ≤ 6000 := by omega
        clear hpce H0 H1 hbr5 HO5 hB6
        go_wp2_with (refine wpList_append_fits _ rfl _ _ 42 rfl w2.heap.size 96 i0 2 Tryz.underlying42 HI.out.1 HI.out.2 w2.heap.size (n2 + k) (n2 + n) (waitVals q) rfl (HO6.out.alloc _) ⟨W6.heap.size, 0, none⟩ 1 1 [.int .i64 ((a : Int) + k), .string pc] rfl rfl ?d1 ?d2 ?d3 ?_)
        case d1 =>
          intro j u hj
          have := Blk.new W6 [.int .i64 ((a : Int) + k), .string pc] 96
          have h2 := this.cell j
          rw [hj] at h2
          cases j with
          | zero => simpa [Addr.add] using h2
          | succ j => simpa [Addr.add] using h2
        case d2 => intro u hu; simp at hu; rcases hu with rfl | rfl <;> rfl
        case d3 => omega
        intro w7 ho7 hg7
        have J0 := (I0.alloc (.cells #[.int .i64 ((a : Int) + k), .string pc] 96)).grown hg7 (by intro h; injection h with h; omega)
        have J1 := (I1.alloc (.cells #[.int .i64 ((a : Int) + k), .string pc] 96)).grown hg7 (by intro h; injection h with h; omega)
        have hb6 := HB6.out
        have hb7 := (hb6.alloc hb6.size (.cells #[.int .i64 ((a : Int) + k), .string pc] 96)).grown hg7 (by have := hb6.size; simp; omega) (by rintro k h; injection h with h; omega)
        have ho8 : w7.ownsRow w2.heap.size 96 2 (.slice (some ⟨w2.heap.size, 0, none⟩) (n2 + (k + 1)) (n2 + n)) (n2 + (k + 1)) (waitVals (q ++ [⟨(a : Int) + k, (l.drop (64 * k)).take 64⟩])) := by
          rw [waitVals_append]
          have e : waitVals [⟨(a : Int) + k, (l.drop (64 * k)).take 64⟩] = [.int .i64 ((a : Int) + k), .string pc] := by rw [← HPE.out]; rfl
          rw [e]
          exact ho7
        clear ho7 hg7 I0 I1 hb6 hW6 p0 p1 p2 p3 p4 p5 p6 p7
        go_wp2_with fail
        go_roundw
        case rel => exact ⟨k + 1, _, f2, false, by go_num, rfl, HGO.out, J0, J1, ho8, hb7⟩
        case measure => simp [intOf]; omega
    · obtain rfl : k = n := by omega
      have HRL := hide hrl
      have HFR := hide hfr
      have HO := hide ho
      clear hrl hfr ho
      obtain ⟨q0, q1, q2, q3, q4, q5, q6, q7⟩ := G0.four
      obtain ⟨r0, r1, r2, r3, r4, r5, r6, r7⟩ := G1.four
      have HRR := hide hr2
      clear hr2
      go_wp2_with fail
      rw [HRL.out.done]
      refine bodyPost_ret (v := .tuple #[.agg #[.slice a1 n1 c1, .slice (some ⟨w2.heap.size, 0, none⟩) (n2 + k) (n2 + k), .int .i64 f, .bool o], .int .i64 0]) (by simp [results, Tryz.results77, go_sem, r0, r1, r2, r3]) rfl ⟨_, rfl, ?_, ?_⟩
      · refine DriveAt.is ⟨HD.out.cells.below (below4 ((hbr).setCell (p := ⟨w.heap.size, 1, none⟩) (Nat.le_refl _) _) (Nat.le_succ _) _ _ _ _), ⟨by rw [HRL.out.len, HN.out.2], HRL.out.range, ?_⟩, HD.out.room1, by omega, rfl, rfl, HFR.out⟩
        exact row_of_own (ownsRow4 (ownsRow_setCell_below (a := ⟨w.heap.size, 1, none⟩) HO.out hgw4 _) hgw _ _ _ _)
      · exact below4 ((hbr).setCell (p := ⟨w.heap.size, 1, none⟩) (Nat.le_refl _) _) (Nat.le_succ _) _ _ _ _

set_option maxRecDepth 100000 in
set_option maxHeartbeats 3200000 in
theorem write_not (a1 a2 : Option Addr) (n1 c1 n2 c2 : Nat) (fuel : Int) (off : Bool) (d : Drv) (at_ : Int) (s : ByteArray) (w : World) (h : DriveAt w a1 n1 c1 a2 n2 c2 fuel off d) (_hat : -9223372036854775808 ≤ at_ ∧ at_ < 9223372036854775808) (hl : s.size < 9223372036854775808) (hbad : d.mayB = false ∨ s.size = 0 ∨ s.size % 64 ≠ 0) :
    Calls Tryz.prog 77 #[.agg #[.slice a1 n1 c1, .slice a2 n2 c2, .int .i64 fuel, .bool off], .int .i64 at_, .string s] w fun e w' => ∃ v, e = .returned (.tuple #[v, .int .i64 1]) ∧ IsDrive w' v Drv.zero ∧ Below w.heap.size w w' := by
  have HD := hide h
  have HM := hide (fun w => may_any (.agg #[.slice a1 n1 c1, .slice a2 n2 c2, .int .i64 fuel, .bool off]) d w)
  obtain ⟨m, hm⟩ : ∃ m, d.mayB = m := ⟨_, rfl⟩
  rw [hm] at HM hbad
  clear h hm _hat
  cases m with
  | false =>
    clear hbad
    go_enter Tryz.func77, Tryz.ntmps77
    go_wp2_with fail
    refine (HM.out _ ((HD.out.below (((Below.refl _ _).alloc (Nat.le_refl _) _).alloc (by simp) _)).is)).mono ?_
    rintro e w1 ⟨rfl, hb1⟩
    obtain ⟨B0, B1⟩ := two_boxes w [.slice a1 n1 c1, .slice a2 n2 c2, .int .i64 fuel, .bool off] [.slice none 0 0, .slice none 0 0, .int .i64 0, .bool false] 44
    obtain ⟨p0, p1, p2, p3, p4, p5, p6, p7⟩ := (B1.next hb1).four
    have hbw : Below w.heap.size w w1 := (((Below.refl _ _).alloc (Nat.le_refl _) _).alloc (by simp) _).trans (hb1.mono (by simp; omega))
    clear B0 B1 hb1
    go_wp2_with fail
    refine bodyPost_ret (v := .tuple #[.agg #[.slice none 0 0, .slice none 0 0, .int .i64 0, .bool false], .int .i64 1]) (by simp [results, Tryz.results77, go_sem, p0, p1, p2, p3]) rfl ⟨_, rfl, zero_drive _, ?_⟩
    exact below4 hbw (Nat.le_succ _) _ _ _ _
  | true =>
    by_cases h0 : s.size = 0
    · obtain rfl : s = ⟨#[]⟩ := ByteArray.ext (Array.eq_empty_of_size_eq_zero h0)
      clear hbad h0
      go_enter Tryz.func77, Tryz.ntmps77
      go_wp2_with fail
      refine (HM.out _ ((HD.out.below (((Below.refl _ _).alloc (Nat.le_refl _) _).alloc (by simp) _)).is)).mono ?_
      rintro e w1 ⟨rfl, hb1⟩
      obtain ⟨B0, B1⟩ := two_boxes w [.slice a1 n1 c1, .slice a2 n2 c2, .int .i64 fuel, .bool off] [.slice none 0 0, .slice none 0 0, .int .i64 0, .bool false] 44
      obtain ⟨p0, p1, p2, p3, p4, p5, p6, p7⟩ := (B1.next hb1).four
      have hbw : Below w.heap.size w w1 := (((Below.refl _ _).alloc (Nat.le_refl _) _).alloc (by simp) _).trans (hb1.mono (by simp; omega))
      clear B0 B1 hb1
      go_wp2_with fail
      refine bodyPost_ret (v := .tuple #[.agg #[.slice none 0 0, .slice none 0 0, .int .i64 0, .bool false], .int .i64 1]) (by simp [results, Tryz.results77, go_sem, p0, p1, p2, p3]) rfl ⟨_, rfl, zero_drive _, ?_⟩
      exact below4 hbw (Nat.le_succ _) _ _ _ _
    · have hr : s.size % 64 ≠ 0 := by rcases hbad with h | h | h; · cases h
                                      · exact absurd h h0
                                      · exact h
      have hse := toList_some (s := s) (by omega)
      have hsn2 : ((s.size : Int) != (s.size : Int) / 64 * 64) = true := by rw [bne_iff_ne]; omega
      clear hbad h0
      go_enter Tryz.func77, Tryz.ntmps77
      go_wp2_with fail
      refine (HM.out _ ((HD.out.below (((Below.refl _ _).alloc (Nat.le_refl _) _).alloc (by simp) _)).is)).mono ?_
      rintro e w1 ⟨rfl, hb1⟩
      obtain ⟨B0, B1⟩ := two_boxes w [.slice a1 n1 c1, .slice a2 n2 c2, .int .i64 fuel, .bool off] [.slice none 0 0, .slice none 0 0, .int .i64 0, .bool false] 44
      obtain ⟨p0, p1, p2, p3, p4, p5, p6, p7⟩ := (B1.next hb1).four
      have hbw : Below w.heap.size w w1 := (((Below.refl _ _).alloc (Nat.le_refl _) _).alloc (by simp) _).trans (hb1.mono (by simp; omega))
      clear B0 B1 hb1
      go_wp2_with fail
      refine bodyPost_ret (v := .tuple #[.agg #[.slice none 0 0, .slice none 0 0, .int .i64 0, .bool false], .int .i64 1]) (by simp [results, Tryz.results77, go_sem, p0, p1, p2, p3]) rfl ⟨_, rfl, zero_drive _, ?_⟩
      exact below4 hbw (Nat.le_succ _) _ _ _ _

set_option maxRecDepth 100000 in
set_option maxHeartbeats 3200000 in
theorem write_off (a1 a2 : Option Addr) (n1 c1 n2 c2 : Nat) (fuel : Int) (off : Bool) (d : Drv) (at_ : Int) (n : Nat) (s : ByteArray) (w : World) (h : DriveAt w a1 n1 c1 a2 n2 c2 fuel off d) (hmay : d.mayB = true) (hat : -9223372036854775808 ≤ at_ ∧ at_ < 9223372036854775808) (hl : s.size < 9223372036854775808) (hn1 : 1 ≤ n) (hsz : s.size = n * 64) (hth : d.there at_ (n : Nat) = false) :
    Calls Tryz.prog 77 #[.agg #[.slice a1 n1 c1, .slice a2 n2 c2, .int .i64 fuel, .bool off], .int .i64 at_, .string s] w fun e w' => ∃ v, e = .returned (.tuple #[v, .int .i64 12]) ∧ IsDrive w' v Drv.zero ∧ Below w.heap.size w w' := by
  have HD := hide h
  have HM := hide (fun w => may_any (.agg #[.slice a1 n1 c1, .slice a2 n2 c2, .int .i64 fuel, .bool off]) d w)
  rw [hmay] at HM
  have hN : d.cells.length = n1 := h.cells.len
  have hnn : n1 ≤ 6000 := by rw [← hN]; exact (d.mayB_iff.1 hmay).most
  have HT := hide (fun w => there_any a1 a2 n1 c1 n2 c2 fuel off at_ n w (by omega) (by omega) (by omega))
  have hdt : decide (0 ≤ at_ ∧ 0 ≤ (n : Int) ∧ at_ ≤ n1 ∧ (n : Int) ≤ n1 - at_) = false := by rw [← hN]; exact hth
  rw [hdt] at HT
  have hse := toList_some (s := s) (by omega)
  have hsn : ((s.size : Int) / 64) = n := by omega
  have hsn2 : ((s.size : Int) != (n : Int) * 64) = false := by rw [bne_eq_false_iff_eq]; omega
  have hn64 : n * 64 < 9223372036854775808 := by omega
  clear h hmay hN hdt hth hat hsz hnn
  go_enter Tryz.func77, Tryz.ntmps77
  go_wp2_with fail
  refine (HM.out _ ((HD.out.below (((Below.refl _ _).alloc (Nat.le_refl _) _).alloc (by simp) _)).is)).mono ?_
  rintro e w1 ⟨rfl, hb1⟩
  obtain ⟨B0, B1⟩ := two_boxes w [.slice a1 n1 c1, .slice a2 n2 c2, .int .i64 fuel, .bool off] [.slice none 0 0, .slice none 0 0, .int .i64 0, .bool false] 44
  have C0 := B0.next hb1
  have C1 := B1.next hb1
  have hbw : Below w.heap.size w w1 := (((Below.refl _ _).alloc (Nat.le_refl _) _).alloc (by simp) _).trans (hb1.mono (by simp; omega))
  obtain ⟨p0, p1, p2, p3, p4, p5, p6, p7⟩ := C0.four
  clear B0 B1 hb1
  go_wp2_with fail
  refine (HT.out _).mono ?_
  rintro e w2 ⟨rfl, hb2⟩
  clear p0 p1 p2 p3 p4 p5 p6 p7
  obtain ⟨p0, p1, p2, p3, p4, p5, p6, p7⟩ := (C1.next hb2).four
  have hbw2 := chain hbw hb2
  clear C0 C1 hb2 hbw
  go_wp2_with fail
  refine bodyPost_ret (v := .tuple #[.agg #[.slice none 0 0, .slice none 0 0, .int .i64 0, .bool false], .int .i64 12]) (by simp [results, Tryz.results77, go_sem, p0, p1, p2, p3]) rfl ⟨_, rfl, zero_drive _, ?_⟩
  exact below4 hbw2 (Nat.le_succ _) _ _ _ _

/-- disk.Write. -/
theorem write_any (v : Value) (d : Drv) (at_ : Int) (l : List UInt8) (w : World) (h : IsDrive w v d) (hq : d.queue.length ≤ 1000000) (hat : -9223372036854775808 ≤ at_ ∧ at_ < 9223372036854775808) (hl : l.length < 9223372036854775808) :
    Calls Tryz.prog 77 #[v, .int .i64 at_, .string (bs l)] w fun e w' => ∃ v', e = .returned (.tuple #[v', .int .i64 (d.write at_ l).2]) ∧ IsDrive w' v' (d.write at_ l).1 ∧ Below w.heap.size w w' := by
  obtain ⟨a1, n1, c1, a2, n2, c2, fuel, off, rfl, hd⟩ := h
  unfold Drv.write
  by_cases hbad : d.mayB = false ∨ l = [] ∨ l.length % 64 ≠ 0
  · rw [if_pos hbad]
    refine write_not a1 a2 n1 c1 n2 c2 fuel off d at_ (bs l) w hd hat (by rw [bs_size]; exact hl) ?_
    rw [bs_size]
    exact hbad.imp id (Or.imp (fun h => by rw [h]; rfl) id)
  · rw [if_neg hbad]
    have hm : d.mayB = true := by cases hmm : d.mayB with
      | true => rfl
      | false => exact absurd (.inl hmm) hbad
    have hne : l ≠ [] := fun h => hbad (.inr (.inl h))
    have hmod : l.length % 64 = 0 := by by_cases hx : l.length % 64 = 0
                                        · exact hx
                                        · exact absurd (.inr (.inr hx)) hbad
    have hpos : 0 < l.length := List.length_pos_iff.2 hne
    obtain ⟨n, hn⟩ : ∃ n, l.length / 64 = n := ⟨_, rfl⟩
    have hln : l.length = n * 64 := by omega
    rw [hn]
    cases hth : d.there at_ (n : Nat) with
    | false =>
      rw [if_pos rfl]
      exact write_off a1 a2 n1 c1 n2 c2 fuel off d at_ n (bs l) w hd hm hat (by rw [bs_size]; exact hl) (by omega) (by rw [bs_size]; exact hln) hth
    | true =>
      rw [if_neg (by decide)]
      unfold Drv.there at hth
      have ht := of_decide_eq_true hth
      obtain ⟨a, rfl⟩ := Int.eq_ofNat_of_zero_le ht.1
      rw [hd.cells.len] at ht
      exact write_main a1 a2 n1 c1 n2 c2 fuel off d a n l w hd (d.mayB_iff.1 hm) (by omega) (by omega) hln (by rw [hd.queue.len] at hq; exact hq)

end Go.Proofs.YtogonkoeginoaaaGreatDoor
