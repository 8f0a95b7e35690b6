/-
  The walk through the document's Write of layer 17.
-/
import Derived.Test.YtkapdmhjhbmdjaaRefFlush
namespace Go.Proofs.Ytkapdmhjhbmdjaa
open Go.RowKit

/-- A piece of 64 octets. -/
theorem piece_eq2 (l : List UInt8) (i : Nat) : (bs l).extract (64 * i) (64 * i + 64) = bs ((l.drop (64 * i)).take 64) := by
  have := piece_eq l i
  rw [show i * 64 = 64 * i by omega, show (i + 1) * 64 = 64 * i + 64 by omega] at this
  exact this

/-- A row of cells outside the blocks from B1 to B2. -/
def RowOut (w : World) (ao : Option Addr) (vs : List Value) (B1 B2 : Nat) : Prop := vs = [] ∨ ∃ b off, ao = some ⟨b, off, none⟩ ∧ (b < B1 ∨ B2 ≤ b) ∧ ∀ j v, vs[j]? = some v → w.cell? ⟨b, off + j, none⟩ = some v
theorem RowOut.row {w : World} {ao : Option Addr} {vs : List Value} {B1 B2 : Nat} (h : RowOut w ao vs B1 B2) : Row w ao vs := h.imp id fun ⟨b, off, e, _, hc⟩ => ⟨b, off, e, hc⟩
theorem RowOut.below {w w' : World} {ao : Option Addr} {vs : List Value} {B1 B2 : Nat} (h : RowOut w ao vs B1 B2) (hb : Below w.heap.size w w') : RowOut w' ao vs B1 B2 := by
  refine h.imp id ?_
  rintro ⟨b, off, e, ho, hc⟩
  refine ⟨b, off, e, ho, fun j v hj => ?_⟩
  rw [hb.cell (p := ⟨b, off + j, none⟩) (World.block_lt_of_cell? w _ (hc j v hj))]
  exact hc j v hj
theorem RowOut.set {w : World} {ao : Option Addr} {vs : List Value} {B1 B2 : Nat} (h : RowOut w ao vs B1 B2) {a : Addr} (h1 : B1 ≤ a.block) (h2 : a.block < B2) (v : Value) : RowOut (w.setCell a v) ao vs B1 B2 := by
  refine h.imp id ?_
  rintro ⟨b, off, e, ho, hc⟩
  refine ⟨b, off, e, ho, fun j v hj => ?_⟩
  rw [World.cell?_setCell_other _ _ _ _ (fun e => by subst e; simp at h1 h2; omega)]
  exact hc j v hj
theorem RowOut.set4 {w : World} {ao : Option Addr} {vs : List Value} {B1 B2 : Nat} (h : RowOut w ao vs B1 B2) {b : Nat} (h1 : B1 ≤ b) (h2 : b < B2) (v0 v1 v2 v3 : Value) : RowOut ((((w.setCell ⟨b, 0, none⟩ v0).setCell ⟨b, 1, none⟩ v1).setCell ⟨b, 2, none⟩ v2).setCell ⟨b, 3, none⟩ v3) ao vs B1 B2 :=
  (((h.set (a := ⟨b, 0, none⟩) h1 h2 v0).set (a := ⟨b, 1, none⟩) h1 h2 v1).set (a := ⟨b, 2, none⟩) h1 h2 v2).set (a := ⟨b, 3, none⟩) h1 h2 v3
theorem RowOut.old {w w' : World} {ao : Option Addr} {vs : List Value} {B2 : Nat} (h : Row w ao vs) (hb : Below w.heap.size w w') : RowOut w' ao vs w.heap.size B2 := by
  by_cases hv : vs = []
  · exact .inl hv
  · refine h.imp id ?_
    rintro ⟨b, off, e, hc⟩
    have hl : 0 < vs.length := List.length_pos_iff.2 hv
    have hlt : b < w.heap.size := World.block_lt_of_cell? w _ (hc 0 _ (List.getElem?_eq_getElem hl))
    refine ⟨b, off, e, .inl hlt, fun j v hj => ?_⟩
    rw [hb.cell (p := ⟨b, off + j, none⟩) hlt]
    exact hc j v hj
theorem RowOut.own {w : World} {base : Nat} {e : TypeId} {size : Nat} {ao : Option Addr} {n c m : Nat} {xs : List Value} {B1 : Nat} (h : w.ownsRow base e size (.slice ao n c) m xs) : RowOut w ao xs B1 base := by
  rcases h.2 with ⟨h1, h2⟩ | ⟨g, cap, cur, h1, hb, hh, hnc, hcm, hcs, htk⟩
  · refine .inl (List.eq_nil_of_length_eq_zero ?_)
    rw [h.1, h2, Nat.zero_mul]
  · injection h1 with h1
    subst h1
    refine .inr ⟨g, 0, rfl, .inr hb, fun j v hj => ?_⟩
    rcases own_row h with h3 | ⟨b, off, h3, h4⟩
    · subst h3; simp at hj
    · injection h3 with h3
      injection h3 with h3 h5
      subst h3; subst h5
      exact h4 j v hj

set_option maxRecDepth 100000 in
set_option maxHeartbeats 12800000 in
theorem refwrite_main (a1 a2 : Option Addr) (n1 c1 n2 c2 : Nat) (fuel : Int) (off : Bool) (d : Drv) (a n : Nat) (l : List UInt8) (w : World) (h : DriveAt w a1 n1 c1 a2 n2 c2 fuel off d) (hmay : d.May) (hth : a + n ≤ n1) (hn1 : 1 ≤ n) (hl : l.length = n * 64) (hq : n2 ≤ 1000000) :
    Calls Try.prog 30 #[.agg #[.slice a1 n1 c1, .slice a2 n2 c2, .int .i64 fuel, .bool off], .int .i64 (a : Int), .string (bs l)] w fun e w' => ∃ v, e = .returned (.tuple #[v, .int .i64 (wrs (chunks n l) a d).2]) ∧ IsDrive w' v (wrs (chunks n l) a d).1 ∧ Below w.heap.size w w' := by
  obtain ⟨i0, hi0⟩ := info_parts info_wait
  have HI0 := hide hi0
  clear hi0
  have HD := hide h
  have HM := hide (fun w => refmay_any (.agg #[.slice a1 n1 c1, .slice a2 n2 c2, .int .i64 fuel, .bool off]) d w)
  rw [d.mayB_iff.2 hmay] at HM
  have hN : d.cells.length = n1 := h.cells.len
  have hQ : d.queue.length = n2 := h.queue.len
  have hn6 : n1 ≤ 6000 := by rw [← hN]; exact hmay.most
  have HFU := hide (And.intro h.fuel_eq h.off_eq)
  have HRG := hide h.range
  have HN := hide (And.intro hN hQ)
  have hsz : (bs l).size = n * 64 := by rw [bs_size]; exact hl
  have HPC := hide (fun i => piece_eq2 l i)
  obtain ⟨s, hs⟩ : ∃ s, bs l = s := ⟨_, rfl⟩
  rw [hs] at hsz HPC
  have hse := toList_some (s := s) (by omega)
  have hsn : ((s.size : Int) / 64) = n := by omega
  have hsn2 : ((s.size : Int) % 64 != 0) = false := by rw [bne_eq_false_iff_eq]; omega
  have hsz2 : s.size ≤ 384000 := by omega
  rw [hs]
  have HSZ := hide hsz
  have hR0 : WrRel d a n 0 l d.queue fuel off := ⟨by omega, by rw [← h.fuel_eq, ← h.off_eq, Nat.mul_zero, List.drop_zero]; simp, rfl, h.queue.range, h.range⟩
  have HR0 := hide hR0
  have HQ0 := hide h.queue.row
  have HC2 := hide h.room2
  clear h hmay hN hQ hs hl hsz hR0
  have d1 : decide ((a : Int) < 0) = false := by simp
  have d2 : decide ((n : Int) < 0) = false := by simp
  have d3 : decide (n1 < a) = false := by simp; omega
  have d4 : decide ((n1 : Int) - a < n) = false := by simp; omega
  go_enter Try.func30, Try.ntmps30
  go_wp2_with fail
  refine (HM.out _ ((HD.out.below (((Below.refl _ _).alloc (Nat.le_refl _) _).alloc (by simp) _)).is)).mono ?_
  rintro e w1 ⟨rfl, hb1⟩
  obtain ⟨B0, B1⟩ := two_boxes w [.slice a1 n1 c1, .slice a2 n2 c2, .int .i64 fuel, .bool off] [.slice none 0 0, .slice none 0 0, .int .i64 0, .bool false] 25
  have C0 := B0.next hb1
  have C1 := B1.next hb1
  have hbw : Below w.heap.size w w1 := (((Below.refl _ _).alloc (Nat.le_refl _) _).alloc (by simp) _).trans (hb1.mono (by simp; omega))
  obtain ⟨p0, p1, p2, p3, p4, p5, p6, p7⟩ := C0.four
  clear B0 B1 hb1
  go_wp2_with fail
  clear d1 d2 d3 d4 p0 p1 p2 p3 p4 p5 p6 p7 hse hsn hsn2
  have hq0 : RowOut w1 a2 (waitVals d.queue) w.heap.size (w.heap.size + 2) := RowOut.old HQ0.out hbw
  go_loopw [9] (fun i wr => ∃ (k m : Nat) (q : List Wt) (f : Int) (o : Bool) (qo : Option Addr) (qc : Nat), i = .int .i64 k ∧ m = n2 + k ∧ WrRel d a n k l q f o ∧ (m ≤ qc ∧ qc ≤ 9223372036854775807) ∧ Blk wr w.heap.size [.slice a1 n1 c1, .slice qo m qc, .int .i64 f, .bool o] 25 ∧ Blk wr (w.heap.size + 1) [.slice none 0 0, .slice none 0 0, .int .i64 0, .bool false] 25 ∧ RowOut wr qo (waitVals q) w.heap.size (w.heap.size + 2) ∧ Below w.heap.size w wr) (fun i _ => n - (intOf i).toNat)
  case atStart => exact ⟨0, n2, d.queue, fuel, off, a2, c2, rfl, rfl, HR0.out, HC2.out, C0, C1, hq0, hbw⟩
  case round =>
    obtain ⟨k, m, q, f, o, qo, qc, rfl, hm, hrl, hqc, G0, G1, hqr, hbr⟩ := hrel
    have HM2 := hide hm
    clear hq0 C0 C1 hbw
    have hk := hrl.le
    have hfr := hrl.fuel
    obtain ⟨p0, p1, p2, p3, p4, p5, p6, p7⟩ := G0.four
    have hwr := G1.lt
    have HQC := hide hqc
    have hqc1 := hqc.1
    clear hqc
    by_cases hkt : k < n
    · have HBN := hide (fun (w : World) => burns_any a1 qo n1 c1 m qc f o w hfr)
      have hfr2 := burnFuel_range o hfr
      have hst := fun hb => hrl.stop hkt hb
      have hgo := fun hb => hrl.go hkt (by omega) hb
      have hql := hrl.len
      obtain ⟨f2, hf2⟩ : ∃ f2, burnFuel f o = f2 := ⟨_, rfl⟩
      obtain ⟨o2, ho2⟩ : ∃ o2, burnOff f o = o2 := ⟨_, rfl⟩
      rw [hf2, ho2] at HBN
      rw [hf2] at hfr2
      rw [hf2, ho2] at hst hgo
      have HQL := hide hql
      have HRL := hide hrl
      have HFR := hide hfr
      have HFR2 := hide hfr2
      clear hf2 ho2 hql hrl hfr hfr2 hm
      cases o2 with
      | true =>
        have HST := hide (hst rfl)
        clear hst hgo
        go_wp2_with fail
        refine (HBN.out wr).mono ?_
        rintro e w5 ⟨rfl, hb5⟩
        clear p0 p1 p2 p3 p4 p5 p6 p7
        have H0 := (G0.next hb5).alloc (.cells #[.slice a1 n1 c1, .slice qo m qc, .int .i64 f2, .bool true] 25)
        have H1 := (G1.next hb5).alloc (.cells #[.slice a1 n1 c1, .slice qo m qc, .int .i64 f2, .bool true] 25)
        have HX := Blk.new w5 [.slice a1 n1 c1, .slice qo m qc, .int .i64 f2, .bool true] 25
        have hbr5 := chain hbr hb5
        have hbr6 := hbr5.alloc hbr5.size (.cells #[.slice a1 n1 c1, .slice qo m qc, .int .i64 f2, .bool true] 25)
        have hqr6 := hide ((hqr.below hb5).below ((Below.refl _ _).alloc (Nat.le_refl _) (.cells #[.slice a1 n1 c1, .slice qo m qc, .int .i64 f2, .bool true] 25)))
        obtain ⟨p0, p1, p2, p3, p4, p5, p6, p7⟩ := H0.four
        have hs5 : w.heap.size + 1 < w5.heap.size := by have := hb5.size; omega
        obtain ⟨W6, hW6⟩ : ∃ W6, ((((w5.alloc (.cells #[.slice a1 n1 c1, .slice qo m qc, .int .i64 f2, .bool true] 25)).setCell ⟨w.heap.size, 0, none⟩ (.slice a1 n1 c1)).setCell ⟨w.heap.size, 1, none⟩ (.slice qo m qc)).setCell ⟨w.heap.size, 2, none⟩ (.int .i64 f2)).setCell ⟨w.heap.size, 3, none⟩ (.bool true) = W6 := ⟨_, rfl⟩
        have I0 : Blk W6 w.heap.size [.slice a1 n1 c1, .slice qo m qc, .int .i64 f2, .bool true] 25 := by rw [← hW6]; exact H0.set4 _ _ _ _
        have I1 : Blk W6 (w.heap.size + 1) [.slice none 0 0, .slice none 0 0, .int .i64 0, .bool false] 25 := by rw [← hW6]; exact H1.other4 (by omega) _ _ _ _
        have HB6 : Hid (Below w.heap.size w W6) := hide (by rw [← hW6]; exact below4 hbr6 (Nat.le_refl _) _ _ _ _)
        have HQ6 : Hid (RowOut W6 qo (waitVals q) w.heap.size (w.heap.size + 2)) := hide (by rw [← hW6]; exact hqr6.out.set4 (Nat.le_refl _) (by omega) _ _ _ _)
        obtain ⟨q0, q1, q2, q3, q4, q5, q6, q7⟩ := I0.four
        obtain ⟨r0, r1, r2, r3, r4, r5, r6, r7⟩ := I1.four
        clear hbr hbr5 hbr6 hb5 G0 G1 H0 H1
        go_wp2_with fail
        rw [HST.out]
        refine bodyPost_ret (v := .tuple #[.agg #[.slice a1 n1 c1, .slice qo m qc, .int .i64 f2, .bool true], .int .i64 10]) (by simp [results, Try.results30, go_sem, r0, r1, r2, r3]) rfl ⟨_, rfl, ?_, ?_⟩
        · refine DriveAt.is ⟨HD.out.cells.below (below4 (HB6.out) (Nat.le_succ _) _ _ _ _), ⟨by rw [HQL.out, HN.out.2, HM2.out], HRL.out.range, ?_⟩, HD.out.room1, HQC.out, rfl, rfl, HFR2.out⟩
          exact (HQ6.out.set4 (Nat.le_succ _) (by omega) _ _ _ _).row
        · exact below4 (HB6.out) (Nat.le_succ _) _ _ _ _
      | false =>
        have HGO := hide (hgo rfl)
        clear hst hgo
        go_wp2_with fail
        refine (HBN.out wr).mono ?_
        rintro e w5 ⟨rfl, hb5⟩
        clear p0 p1 p2 p3 p4 p5 p6 p7
        have H0 := (G0.next hb5).alloc (.cells #[.slice a1 n1 c1, .slice qo m qc, .int .i64 f2, .bool false] 25)
        have H1 := (G1.next hb5).alloc (.cells #[.slice a1 n1 c1, .slice qo m qc, .int .i64 f2, .bool false] 25)
        have HX := Blk.new w5 [.slice a1 n1 c1, .slice qo m qc, .int .i64 f2, .bool false] 25
        have hbr5 := chain hbr hb5
        have hbr6 := hbr5.alloc hbr5.size (.cells #[.slice a1 n1 c1, .slice qo m qc, .int .i64 f2, .bool false] 25)
        have hqr6 := hide ((hqr.below hb5).below ((Below.refl _ _).alloc (Nat.le_refl _) (.cells #[.slice a1 n1 c1, .slice qo m qc, .int .i64 f2, .bool false] 25)))
        obtain ⟨p0, p1, p2, p3, p4, p5, p6, p7⟩ := H0.four
        have hs5 : w.heap.size + 1 < w5.heap.size := by have := hb5.size; omega
        obtain ⟨W6, hW6⟩ : ∃ W6, ((((w5.alloc (.cells #[.slice a1 n1 c1, .slice qo m qc, .int .i64 f2, .bool false] 25)).setCell ⟨w.heap.size, 0, none⟩ (.slice a1 n1 c1)).setCell ⟨w.heap.size, 1, none⟩ (.slice qo m qc)).setCell ⟨w.heap.size, 2, none⟩ (.int .i64 f2)).setCell ⟨w.heap.size, 3, none⟩ (.bool false) = W6 := ⟨_, rfl⟩
        have I0 : Blk W6 w.heap.size [.slice a1 n1 c1, .slice qo m qc, .int .i64 f2, .bool false] 25 := by rw [← hW6]; exact H0.set4 _ _ _ _
        have I1 : Blk W6 (w.heap.size + 1) [.slice none 0 0, .slice none 0 0, .int .i64 0, .bool false] 25 := by rw [← hW6]; exact H1.other4 (by omega) _ _ _ _
        have HB6 : Hid (Below w.heap.size w W6) := hide (by rw [← hW6]; exact below4 hbr6 (Nat.le_refl _) _ _ _ _)
        have HQ6 : Hid (RowOut W6 qo (waitVals q) w.heap.size (w.heap.size + 2)) := hide (by rw [← hW6]; exact hqr6.out.set4 (Nat.le_refl _) (by omega) _ _ _ _)
        obtain ⟨q0, q1, q2, q3, q4, q5, q6, q7⟩ := I0.four
        obtain ⟨r0, r1, r2, r3, r4, r5, r6, r7⟩ := I1.four
        have hpc := HPC.out k
        obtain ⟨pc, hpce⟩ : ∃ pc, bs ((l.drop (64 * k)).take 64) = pc := ⟨_, rfl⟩
        rw [hpce] at hpc
        have HPE := hide hpce
        have hszk : 64 * k + 64 ≤ s.size := by have := HSZ.out; omega
        have hak : a + n ≤ 6000 := by omega
        clear hbr hbr5 hbr6 hb5 G0 G1 H0 H1 hpce
        go_wp2_with fail
        have e1 : IntKind.i64.wrap (64 * (k : Int)) = 64 * (k : Int) := IntWalk.i64_in _ (by omega)
        have e2 : IntKind.i64.wrap (64 * (k : Int) + 64) = 64 * (k : Int) + 64 := IntWalk.i64_in _ (by omega)
        have e3 : IntKind.i64.wrap ((a : Int) + (k : Int)) = (a : Int) + (k : Int) := IntWalk.i64_in _ (by omega)
        have e4 : (0 : Int) ≤ 64 * (k : Int) := by omega
        have e5 : (64 : Int) * (k : Int) ≤ 64 * (k : Int) + 64 := by omega
        have e6 : (64 : Int) * (k : Int) + 64 ≤ (s.size : Int) := by omega
        have e7 : (64 * (k : Int)).toNat = 64 * k := by omega
        have e8 : (64 * (k : Int) + 64).toNat = 64 * k + 64 := by omega
        have hW6a : w.heap.size < W6.heap.size := I0.lt
        have hW6b : w.heap.size + 1 < W6.heap.size := I1.lt
        have hqb : m ≤ 1007000 := by have := HM2.out; omega
        have BE1 : Blk (W6.alloc (.cells #[] 47)) W6.heap.size [] 47 := Blk.new _ _ _
        have BE2 : Blk ((W6.alloc (.cells #[] 47)).alloc (.cells #[.int .i64 ((a : Int) + k), .string pc] 47)) W6.heap.size [] 47 := BE1.alloc _
        have BP1 : Blk (W6.alloc (.cells #[.int .i64 ((a : Int) + k), .string pc] 47)) W6.heap.size [.int .i64 ((a : Int) + k), .string pc] 47 := Blk.new _ _ _
        have BP3 : Blk ((W6.alloc (.cells #[.int .i64 ((a : Int) + k), .string pc] 47)).alloc (.cells #[] 47)).drew W6.heap.size [.int .i64 ((a : Int) + k), .string pc] 47 := BP1.alloc _
        have BE3 : Blk ((W6.alloc (.cells #[.int .i64 ((a : Int) + k), .string pc] 47)).alloc (.cells #[] 47)) (W6.heap.size + 1) [] 47 := by
          have := Blk.new (W6.alloc (.cells #[.int .i64 ((a : Int) + k), .string pc] 47)) [] 47
          simpa using this
        have BP2 : Blk ((W6.alloc (.cells #[] 47)).alloc (.cells #[.int .i64 ((a : Int) + k), .string pc] 47)).drew (W6.heap.size + 1) [.int .i64 ((a : Int) + k), .string pc] 47 := by
          have := Blk.new (W6.alloc (.cells #[] 47)) [.int .i64 ((a : Int) + k), .string pc] 47
          have h2 : Blk ((W6.alloc (.cells #[] 47)).alloc (.cells #[.int .i64 ((a : Int) + k), .string pc] 47)) (W6.heap.size + 1) [.int .i64 ((a : Int) + k), .string pc] 47 := by simpa using this
          exact h2
        have BX1 : Below W6.heap.size W6 (W6.alloc (.cells #[] 47)).drew := (Below.drewed ((Below.refl _ _).alloc (Nat.le_refl _) _))
        have K01 : Blk (W6.alloc (.cells #[] 47)).drew w.heap.size [.slice a1 n1 c1, .slice qo m qc, .int .i64 f2, .bool false] 25 := I0.next BX1
        have K11 : Blk (W6.alloc (.cells #[] 47)).drew (w.heap.size + 1) [.slice none 0 0, .slice none 0 0, .int .i64 0, .bool false] 25 := I1.next BX1
        have RX1 : Hid (Row (W6.alloc (.cells #[] 47)).drew qo (waitVals q)) := hide (HQ6.out.row.below BX1)
        have BW1 : Hid (Below w.heap.size w (W6.alloc (.cells #[] 47)).drew) := hide (chain HB6.out BX1)
        have BX2 : Below W6.heap.size W6 ((W6.alloc (.cells #[] 47)).alloc (.cells #[.int .i64 ((a : Int) + k), .string pc] 47)).drew := (Below.drewed (((Below.refl _ _).alloc (Nat.le_refl _) _).alloc (by simp) _))
        have K02 : Blk ((W6.alloc (.cells #[] 47)).alloc (.cells #[.int .i64 ((a : Int) + k), .string pc] 47)).drew w.heap.size [.slice a1 n1 c1, .slice qo m qc, .int .i64 f2, .bool false] 25 := I0.next BX2
        have K12 : Blk ((W6.alloc (.cells #[] 47)).alloc (.cells #[.int .i64 ((a : Int) + k), .string pc] 47)).drew (w.heap.size + 1) [.slice none 0 0, .slice none 0 0, .int .i64 0, .bool false] 25 := I1.next BX2
        have RX2 : Hid (Row ((W6.alloc (.cells #[] 47)).alloc (.cells #[.int .i64 ((a : Int) + k), .string pc] 47)).drew qo (waitVals q)) := hide (HQ6.out.row.below BX2)
        have BW2 : Hid (Below w.heap.size w ((W6.alloc (.cells #[] 47)).alloc (.cells #[.int .i64 ((a : Int) + k), .string pc] 47)).drew) := hide (chain HB6.out BX2)
        have BX3 : Below W6.heap.size W6 ((W6.alloc (.cells #[.int .i64 ((a : Int) + k), .string pc] 47)).alloc (.cells #[] 47)).drew := (Below.drewed (((Below.refl _ _).alloc (Nat.le_refl _) _).alloc (by simp) _))
        have K03 : Blk ((W6.alloc (.cells #[.int .i64 ((a : Int) + k), .string pc] 47)).alloc (.cells #[] 47)).drew w.heap.size [.slice a1 n1 c1, .slice qo m qc, .int .i64 f2, .bool false] 25 := I0.next BX3
        have K13 : Blk ((W6.alloc (.cells #[.int .i64 ((a : Int) + k), .string pc] 47)).alloc (.cells #[] 47)).drew (w.heap.size + 1) [.slice none 0 0, .slice none 0 0, .int .i64 0, .bool false] 25 := I1.next BX3
        have RX3 : Hid (Row ((W6.alloc (.cells #[.int .i64 ((a : Int) + k), .string pc] 47)).alloc (.cells #[] 47)).drew qo (waitVals q)) := hide (HQ6.out.row.below BX3)
        have BW3 : Hid (Below w.heap.size w ((W6.alloc (.cells #[.int .i64 ((a : Int) + k), .string pc] 47)).alloc (.cells #[] 47)).drew) := hide (chain HB6.out BX3)
        clear BX1 BX2 BX3
        go_region_law (first
          | (refine step_app rfl (.tmp 62) (.tmp 64) 23 rfl (w.heap.size + 2) 47 i0 (.agg #[.int .i64 0, .string ⟨#[]⟩]) 2 24 Try.underlying23 HI0.out.1 HI0.out.2.1 HI0.out.2.2.1 HI0.out.2.2.2 rfl (by decide) _ 0 [] rfl (own_empty (by first | exact BE1 | exact BE2 | exact BE3) (by omega)) qo m qc (waitVals q) rfl (by rw [waitVals_length, HQL.out, HN.out.2, HM2.out]) (by first | exact RX1.out | exact RX2.out | exact RX3.out) (waitVals_one _) (by unfold maxLen; omega) (by omega) (by simp; omega) ?_
             intro v7 w7 hown7 hg7 hob7
             change World.grownBy _ w7 (Value.ownBlock (Value.slice (some ⟨_, 0, none⟩) 0 0)) at hg7
             have J0 := Blk.grown (by first | exact K01 | exact K02 | exact K03) hg7 (b := w.heap.size) (by simp [Value.ownBlock]; omega)
             have J1 := Blk.grown (by first | exact K11 | exact K12 | exact K13) hg7 (b := w.heap.size + 1) (by simp [Value.ownBlock]; omega)
             have hb7 := grown_below (by first | exact BW1.out | exact BW2.out | exact BW3.out) (by simp; omega) hg7 (by simp [Value.ownBlock]; omega)
             have hs7 : w.heap.size + 1 < w7.heap.size := J1.lt
             have hs7' : w.heap.size < w7.heap.size := J0.lt
             first
               | (have hP7 := row_of_blk (Blk.grown BP2 hg7 (by simp [Value.ownBlock])))
               | (have hP7 := row_of_blk (Blk.grown BP3 hg7 (by simp [Value.ownBlock])))
               | skip
             rw [Nat.zero_add, List.nil_append] at hown7
             have hfm := own_form hown7
             obtain ⟨a7, c7, rfl, hc7, hm7, hr7, hl7⟩ := hfm
             have HOWN7 := hide hown7
             clear hown7 hg7 hob7 hc7 hm7 hr7 hl7
             obtain ⟨x0, x1, x2, x3, x4, x5, x6, x7⟩ := J0.four)
          | (refine step_app rfl (.tmp 65) (.tmp 77) 23 rfl (w.heap.size + 2) 47 i0 (.agg #[.int .i64 0, .string ⟨#[]⟩]) 2 24 Try.underlying23 HI0.out.1 HI0.out.2.1 HI0.out.2.2.1 HI0.out.2.2.2 rfl (by decide) _ m (waitVals q) rfl (by first | exact HOWN7.out | exact HOWN7.out.alloc _) _ 1 1 [.int .i64 ((a : Int) + k), .string pc] rfl rfl (by first | exact hP7 | exact row_of_blk (Blk.new _ _ _)) (by simp [Value.oneCell']) (by unfold maxLen; omega) (by omega) (by first | omega | (simp; omega)) ?_
             intro v8 w8 hown8 hg8 hob8
             have L0 := Blk.grown (by first | exact J0 | exact J0.alloc _) hg8 (own_ne HOWN7.out (b := w.heap.size) (by omega))
             have L1 := Blk.grown (by first | exact J1 | exact J1.alloc _) hg8 (own_ne HOWN7.out (b := w.heap.size + 1) (by omega))
             have hb8 := grown_below (by first | exact hb7 | exact hb7.alloc (by omega) _) (by first | omega | (simp; omega)) hg8 (fun k hk => by have := (HOWN7.out.lt k hk).1; omega)
             obtain ⟨a8, c8, rfl, hc8, hm8, hr8, hl8⟩ := own_form hown8
             have HOWN8 := hide hown8
             have HC8 := hide (And.intro hc8 hm8)
             clear hown8 hg8 hob8 hc8 hm8 hr8 hl8 x0 x1 x2 x3 x4 x5 x6 x7
             obtain ⟨x0, x1, x2, x3, x4, x5, x6, x7⟩ := L0.four))
        all_goals
          go_wp2_with fail
          go_roundw
          case rel =>
            have e : waitVals q ++ [.int .i64 ((a : Int) + k), .string pc] = waitVals (q ++ [⟨(a : Int) + k, (l.drop (64 * k)).take 64⟩]) := by
              rw [waitVals_append, ← HPE.out]; rfl
            have hw8 := HOWN8.out
            rw [e] at hw8
            exact ⟨k + 1, m + 1, _, f2, false, a8, c8, by go_num, by have := HM2.out; omega, HGO.out, HC8.out, L0.set 1 _, L1.other (a := ⟨w.heap.size, 1, none⟩) (by simp) _, (RowOut.own hw8).set (a := ⟨w.heap.size, 1, none⟩) (Nat.le_refl _) (by simp) _, hb8.setCell (p := ⟨w.heap.size, 1, none⟩) (Nat.le_refl _) _⟩
          case measure => simp [intOf]; omega
    · obtain rfl : k = n := by omega
      obtain ⟨r0, r1, r2, r3, r4, r5, r6, r7⟩ := G1.four
      have HRL := hide hrl
      have HFR := hide hfr
      have HQR := hide hqr
      have hdn := hrl.done
      have HDN := hide hdn
      clear hrl hfr hqr hdn hm
      go_wp2_with fail
      rw [HDN.out]
      refine bodyPost_ret (v := .tuple #[.agg #[.slice a1 n1 c1, .slice qo m qc, .int .i64 f, .bool o], .int .i64 0]) (by simp [results, Try.results30, go_sem, r0, r1, r2, r3]) rfl ⟨_, rfl, ?_, ?_⟩
      · refine DriveAt.is ⟨HD.out.cells.below (below4 hbr (Nat.le_succ _) _ _ _ _), ⟨by rw [HRL.out.len, HN.out.2, HM2.out], HRL.out.range, ?_⟩, HD.out.room1, HQC.out, rfl, rfl, HFR.out⟩
        exact (HQR.out.set4 (Nat.le_succ _) (by omega) _ _ _ _).row
      · exact below4 hbr (Nat.le_succ _) _ _ _ _

end Go.Proofs.Ytkapdmhjhbmdjaa
