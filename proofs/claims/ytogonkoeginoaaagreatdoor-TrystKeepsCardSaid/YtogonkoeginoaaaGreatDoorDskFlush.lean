/-
  The walk through disk.Flush.
-/
import Derived.Test.YtogonkoeginoaaaGreatDoorDskBase
import Derived.Test.YtogonkoeginoaaaGreatDoorBlk
namespace Go.Proofs.YtogonkoeginoaaaGreatDoor
open Go.RowKit

theorem zero_drive (w : World) : IsDrive w (.agg #[.slice none 0 0, .slice none 0 0, .int .i64 0, .bool false]) Drv.zero :=
  ⟨none, 0, 0, none, 0, 0, 0, false, rfl, ⟨⟨rfl, .inl rfl⟩, ⟨rfl, (by intro x hx; cases hx), .inl rfl⟩, by omega, by omega, rfl, rfl, by omega⟩⟩

theorem DriveAt.is {w : World} {a1 n1 c1 a2 n2 c2 fuel off d} (h : DriveAt w a1 n1 c1 a2 n2 c2 fuel off d) : IsDrive w (.agg #[.slice a1 n1 c1, .slice a2 n2 c2, .int .i64 fuel, .bool off]) d :=
  ⟨a1, n1, c1, a2, n2, c2, fuel, off, rfl, h⟩

theorem DriveAt.turn {w w' : World} {a1 n1 c1 a2 n2 c2 fuel off d} (h : DriveAt w a1 n1 c1 a2 n2 c2 fuel off d) (hb : Below w.heap.size w w') (f' : Int) (o' : Bool) (hf : -9223372036854775808 ≤ f' ∧ f' < 9223372036854775808) : DriveAt w' a1 n1 c1 a2 n2 c2 f' o' ⟨d.cells, d.queue, f', o'⟩ :=
  ⟨h.cells.below hb, h.queue.below hb, h.room1, h.room2, rfl, rfl, hf⟩

theorem puts_take (cs : List (List UInt8)) (q : List Wt) (j : Nat) (h : j < q.length) : puts cs (q.take (j + 1)) = (puts cs (q.take j)).set (q.getD j ⟨0, []⟩).pos.toNat (q.getD j ⟨0, []⟩).s := by
  rw [List.take_succ_eq_append_getElem h, puts_snoc]
  have e : q.getD j ⟨0, []⟩ = q[j] := by rw [List.getD_eq_getElem?_getD, List.getElem?_eq_getElem h]; rfl
  rw [e]

set_option maxRecDepth 100000 in
set_option maxHeartbeats 1600000 in
theorem flush_run (a1 a2 : Option Addr) (n1 c1 n2 c2 : Nat) (fuel : Int) (off : Bool) (d : Drv) (w : World) (h : DriveAt w a1 n1 c1 a2 n2 c2 fuel off d) :
    Calls Tryz.prog 60 #[.agg #[.slice a1 n1 c1, .slice a2 n2 c2, .int .i64 fuel, .bool off]] w fun e w' => ∃ v, e = .returned (.tuple #[v, .int .i64 d.flush.2]) ∧ IsDrive w' v d.flush.1 ∧ Below w.heap.size w w' := by
  have HD := hide h
  cases hm : d.mayB with
  | false =>
    have HM := hide (fun w => may_any (.agg #[.slice a1 n1 c1, .slice a2 n2 c2, .int .i64 fuel, .bool off]) d w)
    rw [hm] at HM
    have HF : Hid (d.flush = (Drv.zero, 1)) := hide (by unfold Drv.flush; rw [if_pos hm])
    clear hm h
    go_enter Tryz.func60, Tryz.ntmps60
    go_wp2_with fail
    refine (HM.out _ ((HD.out.below (((Below.refl _ _).alloc (Nat.le_refl _) _).alloc (by simp) _)).is)).mono ?_
    rintro e w1 ⟨rfl, hb1⟩
    obtain ⟨B0, B1⟩ := two_boxes w [.slice a1 n1 c1, .slice a2 n2 c2, .int .i64 fuel, .bool off] [.slice none 0 0, .slice none 0 0, .int .i64 0, .bool false] 44
    obtain ⟨p0, p1, p2, p3, p4, p5, p6, p7⟩ := (B1.next hb1).four
    have hbw : Below w.heap.size w w1 := (((Below.refl _ _).alloc (Nat.le_refl _) _).alloc (by simp) _).trans (hb1.mono (by simp; omega))
    clear B0 B1 hb1
    go_wp2_with fail
    rw [HF.out]
    refine bodyPost_ret (v := .tuple #[.agg #[.slice none 0 0, .slice none 0 0, .int .i64 0, .bool false], .int .i64 1]) (by simp [results, Tryz.results60, go_sem, p0, p1, p2, p3]) rfl ⟨_, rfl, zero_drive _, ?_⟩
    exact (((hbw.setCell (by simp) _).setCell (by simp) _).setCell (by simp) _).setCell (by simp) _
  | true =>
    have hmay := d.mayB_iff.1 hm
    have HM := hide (fun w => may_any (.agg #[.slice a1 n1 c1, .slice a2 n2 c2, .int .i64 fuel, .bool off]) d w)
    rw [hm] at HM
    have hN : d.cells.length = n1 := h.cells.len
    have hQ : d.queue.length = n2 := h.queue.len
    have hn6 : n1 ≤ 6000 := by rw [← hN]; exact hmay.most
    have hn2 : n2 ≤ 9223372036854775807 := by have := h.room2; omega
    have hc2 : n2 ≤ c2 := h.room2.1
    have hrf := h.range
    have HMAY := hide hmay
    have HN := hide (And.intro hN hQ)
    have HB := hide (fun w => burn_any a1 a2 n1 c1 n2 c2 fuel off w hrf)
    have hbo : d.burnOk = !burnOff fuel off := by unfold Drv.burnOk burnOff; rw [h.fuel_eq, h.off_eq]
    have hburn : d.burn = ⟨d.cells, d.queue, burnFuel fuel off, burnOff fuel off⟩ := by
      unfold Drv.burn
      rw [hbo]
      have e1 := h.fuel_eq
      have e2 := h.off_eq
      cases d
      simp only at e1 e2
      subst e1; subst e2
      rename_i cs q f o
      cases o <;> simp [burnOff, burnFuel]
      by_cases hf : f = 0 <;> simp [hf]
    have hfr : -9223372036854775808 ≤ burnFuel fuel off ∧ burnFuel fuel off < 9223372036854775808 := by unfold burnFuel; split <;> (try split) <;> omega
    have hflush : d.flush = if d.burnOk then ({ d.burn with cells := d.full, queue := [] }, 0) else (d.burn, 10) := by unfold Drv.flush; rw [if_neg (by rw [hm]; decide)]
    rw [hbo, hburn] at hflush
    obtain ⟨f', hf'⟩ : ∃ f', burnFuel fuel off = f' := ⟨_, rfl⟩
    obtain ⟨o', ho'⟩ : ∃ o', burnOff fuel off = o' := ⟨_, rfl⟩
    rw [hf', ho'] at HB
    rw [hf', ho'] at hflush
    rw [hf'] at hfr
    have HFL := hide hflush
    clear hm hN hQ hmay h hrf hbo hburn hflush hf' ho'
    cases o' with
    | true =>
      have HF : Hid (d.flush = (⟨d.cells, d.queue, f', true⟩, 10)) := hide (by rw [HFL.out]; rfl)
      go_enter Tryz.func60, Tryz.ntmps60
      go_wp2_with fail
      refine (HM.out _ ((HD.out.below (((Below.refl _ _).alloc (Nat.le_refl _) _).alloc (by simp) _)).is)).mono ?_
      rintro e w1 ⟨rfl, hb1⟩
      obtain ⟨B0, B1⟩ := two_boxes w [.slice a1 n1 c1, .slice a2 n2 c2, .int .i64 fuel, .bool off] [.slice none 0 0, .slice none 0 0, .int .i64 0, .bool false] 44
      have C0 := B0.next hb1
      have C1 := B1.next hb1
      have hbw : Below w.heap.size w w1 := (((Below.refl _ _).alloc (Nat.le_refl _) _).alloc (by simp) _).trans (hb1.mono (by simp; omega))
      obtain ⟨p0, p1, p2, p3, p4, p5, p6, p7⟩ := C0.four
      clear B0 B1 hb1
      go_wp2_with fail
      refine (HB.out _).mono ?_
      rintro e w2 ⟨rfl, hb2⟩
      clear p0 p1 p2 p3 p4 p5 p6 p7
      obtain ⟨p0, p1, p2, p3, p4, p5, p6, p7⟩ := (C0.next hb2).four
      obtain ⟨q0, q1, q2, q3, q4, q5, q6, q7⟩ := (C1.next hb2).four
      have hbw2 := chain hbw hb2
      clear C0 C1 hb2
      go_wp2_with fail
      rw [HF.out]
      refine bodyPost_ret (v := .tuple #[.agg #[.slice a1 n1 c1, .slice a2 n2 c2, .int .i64 f', .bool true], .int .i64 10]) (by simp [results, Tryz.results60, go_sem, q0, q1, q2, q3]) rfl ⟨_, rfl, ?_, ?_⟩
      · exact (HD.out.turn (below4 (below4 hbw2 (Nat.le_refl _) _ _ _ _) (Nat.le_succ _) _ _ _ _) f' true hfr).is
      · exact below4 (below4 hbw2 (Nat.le_refl _) _ _ _ _) (Nat.le_succ _) _ _ _ _
    | false =>
      have HF : Hid (d.flush = (⟨d.full, [], f', false⟩, 0)) := hide (by rw [HFL.out]; rfl)
      go_enter Tryz.func60, Tryz.ntmps60
      go_wp2_with fail
      refine (HM.out _ ((HD.out.below (((Below.refl _ _).alloc (Nat.le_refl _) _).alloc (by simp) _)).is)).mono ?_
      rintro e w1 ⟨rfl, hb1⟩
      obtain ⟨B0, B1⟩ := two_boxes w [.slice a1 n1 c1, .slice a2 n2 c2, .int .i64 fuel, .bool off] [.slice none 0 0, .slice none 0 0, .int .i64 0, .bool false] 44
      have C0 := B0.next hb1
      have C1 := B1.next hb1
      have hbw : Below w.heap.size w w1 := (((Below.refl _ _).alloc (Nat.le_refl _) _).alloc (by simp) _).trans (hb1.mono (by simp; omega))
      obtain ⟨p0, p1, p2, p3, p4, p5, p6, p7⟩ := C0.four
      clear B0 B1 hb1
      go_wp2_with fail
      refine (HB.out _).mono ?_
      rintro e w2 ⟨rfl, hb2⟩
      clear p0 p1 p2 p3 p4 p5 p6 p7
      obtain ⟨p0, p1, p2, p3, p4, p5, p6, p7⟩ := (C0.next hb2).four
      have D0 := C0.next hb2
      have D1 := C1.next hb2
      have hbw2 := chain hbw hb2
      clear C0 C1 hb2 hbw
      go_wp2_with fail
      obtain ⟨W3, hW3⟩ : ∃ W3, (((w2.setCell ⟨w.heap.size, 0, none⟩ (.slice a1 n1 c1)).setCell ⟨w.heap.size, 1, none⟩ (.slice a2 n2 c2)).setCell ⟨w.heap.size, 2, none⟩ (.int .i64 f')).setCell ⟨w.heap.size, 3, none⟩ (.bool false) = W3 := ⟨_, rfl⟩
      have hbw3 : Below w.heap.size w W3 := by rw [← hW3]; exact below4 hbw2 (Nat.le_refl _) _ _ _ _
      have E0 : Blk W3 w.heap.size [.slice a1 n1 c1, .slice a2 n2 c2, .int .i64 f', .bool false] 44 := by rw [← hW3]; exact D0.set4 _ _ _ _
      have E1 : Blk W3 (w.heap.size + 1) [.slice none 0 0, .slice none 0 0, .int .i64 0, .bool false] 44 := by rw [← hW3]; exact D1.other4 (by omega) _ _ _ _
      rw [hW3]
      clear hW3 D0 D1 hbw2 p0 p1 p2 p3 p4 p5 p6 p7
      refine (own_any a1 a2 n1 c1 n2 c2 f' false W3 d.cells (HD.out.cells.below hbw3) hn6).mono ?_
      rintro e w4 ⟨g, rfl, hg, hown, hb4⟩
      have F0 := E0.next hb4
      have F1 := E1.next hb4
      have hbw4 := chain hbw3 hb4
      have hgw : w.heap.size + 2 ≤ g := by have := E1.lt; omega
      have hW3s : w.heap.size + 2 ≤ W3.heap.size := by have := E1.lt; omega
      obtain ⟨p0, p1, p2, p3, p4, p5, p6, p7⟩ := F0.four
      clear E0 E1 hb4 hbw3
      go_wp2_with fail
      clear p0 p1 p2 p3 p4 p5 p6 p7
      go_loopw [7, 25] (fun _ i wr => ∃ j : Nat, j ≤ n2 ∧ i = .int .i64 j ∧ wr.ownsRow W3.heap.size 9 1 (.slice (some ⟨g, 0, none⟩) n1 n1) n1 (strVals (puts d.cells (d.queue.take j))) ∧ Below (w.heap.size + 2) w4 wr) (fun _ i _ => n2 - (intOf i).toNat)
      case atStart => exact ⟨0, Nat.zero_le _, rfl, hown, Below.refl _ _⟩
      case round =>
        obtain ⟨j, hj, rfl, ho, hbr⟩ := hrel
        have hbwr : Below w.heap.size w wr := hbw4.trans (hbr.mono (by omega))
        have G0 := F0.below hbr (by omega)
        have G1 := F1.below hbr (by omega)
        by_cases hjt : j < n2
        · obtain ⟨b, o, hb, hix, hcp, hcs⟩ := (HD.out.queue.below hbwr).at c2 j hjt
          have hw := HMAY.out.wait _ (getD_mem d.queue j ⟨0, []⟩ (by rw [HN.out.2]; exact hjt))
          have hpt := puts_take d.cells d.queue j (by rw [HN.out.2]; exact hjt)
          obtain ⟨x, hx⟩ : ∃ x, d.queue.getD j ⟨0, []⟩ = x := ⟨_, rfl⟩
          rw [hx] at hcp hcs hw hpt
          obtain ⟨pos, l⟩ := x
          obtain ⟨hw0, hw1, _⟩ := hw
          rw [HN.out.1] at hw1
          simp only at hcp hcs hw0 hw1 hpt
          obtain ⟨p, rfl⟩ := Int.eq_ofNat_of_zero_le hw0
          rw [Int.toNat_natCast] at hpt
          have hs := ho.stored p (.string (bs l))
          rw [strVals_set, ← hpt] at hs
          have hs1 := hide hs.1
          obtain ⟨vc, hvc⟩ : ∃ v, wr.cell? ⟨g, p, none⟩ = some v := by
            rw [ho.cellAt p (by omega)]
            exact ⟨_, List.getElem?_eq_getElem (by rw [ho.1]; omega)⟩
          have hvf := ho.frozenAt p
          have hglt : g < wr.heap.size := (ho.lt g rfl).2
          obtain ⟨s, hsl⟩ : ∃ s, bs l = s := ⟨_, rfl⟩
          rw [hsl] at hcs hs1
          clear hs hpt hx hsl hw0 ho G0 G1
          have hp1 : p < n1 := by omega
          clear hw1
          go_wp2_with fail
          go_roundw
          case rel => exact ⟨j + 1, by omega, by go_num, hs1.out.alloc _, (hbr.setCell (p := ⟨g, p, none⟩) hgw _).alloc (by simp; omega) _⟩
          case measure => simp [intOf]; omega
        · obtain rfl : j = n2 := by omega
          have htk : d.queue.take j = d.queue := List.take_of_length_le (by rw [HN.out.2]; exact Nat.le_refl _)
          rw [htk] at ho
          obtain ⟨p0, p1, p2, p3, p4, p5, p6, p7⟩ := G0.four
          obtain ⟨q0, q1, q2, q3, q4, q5, q6, q7⟩ := G1.four
          clear htk G0 G1
          go_wp2_with fail
          rw [HF.out]
          refine bodyPost_ret (v := .tuple #[.agg #[.slice (some ⟨g, 0, none⟩) n1 n1, .slice none 0 0, .int .i64 f', .bool false], .int .i64 0]) (by simp [results, Tryz.results60, go_sem, q0, q1, q2, q3]) rfl ⟨_, rfl, ?_, ?_⟩
          · refine DriveAt.is ⟨⟨by rw [Drv.full, puts_length]; exact HN.out.1, ?_⟩, ⟨rfl, (by intro x hx; cases hx), .inl rfl⟩, ⟨Nat.le_refl _, by omega⟩, by omega, rfl, rfl, hfr⟩
            have h2 : ∀ (wz : World) (b i : Nat) (v : Value), b < W3.heap.size → wz.ownsRow W3.heap.size 9 1 (.slice (some ⟨g, 0, none⟩) n1 n1) n1 (strVals (puts d.cells d.queue)) → (wz.setCell ⟨b, i, none⟩ v).ownsRow W3.heap.size 9 1 (.slice (some ⟨g, 0, none⟩) n1 n1) n1 (strVals (puts d.cells d.queue)) := fun wz b i v hlt h => ownsRow_setCell_below h hlt v
            have hA : w.heap.size < W3.heap.size := by omega
            have hB : w.heap.size + 1 < W3.heap.size := by omega
            exact row_of_own (h2 _ _ 3 _ hB (h2 _ _ 2 _ hB (h2 _ _ 1 _ hB (h2 _ _ 0 _ hB (h2 _ _ 1 _ hA (h2 _ _ 0 _ hA ho))))))
          · exact below4 ((hbwr.setCell (p := ⟨w.heap.size, 0, none⟩) (Nat.le_refl _) _).setCell (p := ⟨w.heap.size, 1, none⟩) (Nat.le_refl _) _) (Nat.le_succ _) _ _ _ _

/-- disk.Flush. -/
theorem flush_any (v : Value) (d : Drv) (w : World) (h : IsDrive w v d) : Calls Tryz.prog 60 #[v] w fun e w' => ∃ v', e = .returned (.tuple #[v', .int .i64 d.flush.2]) ∧ IsDrive w' v' d.flush.1 ∧ Below w.heap.size w w' := by
  obtain ⟨a1, n1, c1, a2, n2, c2, fuel, off, rfl, hd⟩ := h
  exact flush_run a1 a2 n1 c1 n2 c2 fuel off d w hd

end Go.Proofs.YtogonkoeginoaaaGreatDoor
