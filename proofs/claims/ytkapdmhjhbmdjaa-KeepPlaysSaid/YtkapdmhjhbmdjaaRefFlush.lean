/-
  The walk through the document's Flush of layer 17.
-/
import Derived.Test.YtkapdmhjhbmdjaaRefRead
import Derived.Test.YtkapdmhjhbmdjaaDskFlush
import Derived.Test.YtkapdmhjhbmdjaaDskWrite
namespace Go.Proofs.Ytkapdmhjhbmdjaa
open Go.RowKit

set_option maxRecDepth 100000 in
set_option maxHeartbeats 1600000 in
theorem refflush_run (a1 a2 : Option Addr) (n1 c1 n2 c2 : Nat) (fuel : Int) (off : Bool) (d : Drv) (w : World) (h : DriveAt w a1 n1 c1 a2 n2 c2 fuel off d) :
    Calls Try.prog 32 #[.agg #[.slice a1 n1 c1, .slice a2 n2 c2, .int .i64 fuel, .bool off]] w fun e w' => ∃ v, e = .returned (.tuple #[v, .int .i64 d.flush.2]) ∧ IsDrive w' v d.flush.1 ∧ Below w.heap.size w w' := by
  have HD := hide h
  cases hm : d.mayB with
  | false =>
    have HM := hide (fun w => refmay_any (.agg #[.slice a1 n1 c1, .slice a2 n2 c2, .int .i64 fuel, .bool off]) d w)
    rw [hm] at HM
    have HF : Hid (d.flush = (Drv.zero, 1)) := hide (by unfold Drv.flush; rw [if_pos hm])
    clear hm h
    go_enter Try.func32, Try.ntmps32
    go_wp2_with fail
    refine (HM.out _ ((HD.out.below (((Below.refl _ _).alloc (Nat.le_refl _) _).alloc (by simp) _)).is)).mono ?_
    rintro e w1 ⟨rfl, hb1⟩
    obtain ⟨B0, B1⟩ := two_boxes w [.slice a1 n1 c1, .slice a2 n2 c2, .int .i64 fuel, .bool off] [.slice none 0 0, .slice none 0 0, .int .i64 0, .bool false] 25
    obtain ⟨p0, p1, p2, p3, p4, p5, p6, p7⟩ := (B1.next hb1).four
    have hbw : Below w.heap.size w w1 := (((Below.refl _ _).alloc (Nat.le_refl _) _).alloc (by simp) _).trans (hb1.mono (by simp; omega))
    clear B0 B1 hb1
    go_wp2_with fail
    rw [HF.out]
    refine bodyPost_ret (v := .tuple #[.agg #[.slice none 0 0, .slice none 0 0, .int .i64 0, .bool false], .int .i64 1]) (by simp [results, Try.results32, go_sem, p0, p1, p2, p3]) rfl ⟨_, rfl, zero_drive _, ?_⟩
    exact (((hbw.setCell (by simp) _).setCell (by simp) _).setCell (by simp) _).setCell (by simp) _
  | true =>
    have hmay := d.mayB_iff.1 hm
    have HM := hide (fun w => refmay_any (.agg #[.slice a1 n1 c1, .slice a2 n2 c2, .int .i64 fuel, .bool off]) d w)
    rw [hm] at HM
    have hN : d.cells.length = n1 := h.cells.len
    have hQ : d.queue.length = n2 := h.queue.len
    have hn6 : n1 ≤ 6000 := by rw [← hN]; exact hmay.most
    have hn2 : n2 ≤ 9223372036854775807 := by have := h.room2; omega
    have hc2 : n2 ≤ c2 := h.room2.1
    have hrf := h.range
    have HMAY := hide hmay
    have HN := hide (And.intro hN hQ)
    have HB := hide (fun w => burns_any a1 a2 n1 c1 n2 c2 fuel off w hrf)
    have hbo : d.burnOk = !burnOff fuel off := by unfold Drv.burnOk burnOff; rw [h.fuel_eq, h.off_eq]
    have hburn : d.burn = ⟨d.cells, d.queue, burnFuel fuel off, burnOff fuel off⟩ := by
      unfold Drv.burn
      rw [hbo]
      have e1 := h.fuel_eq
      have e2 := h.off_eq
      cases d
      simp only at e1 e2
      subst e1; subst e2
      rename_i cs q f o
      cases o <;> simp [burnOff, burnFuel]
      by_cases hf : f = 0 <;> simp [hf]
    have hfr : -9223372036854775808 ≤ burnFuel fuel off ∧ burnFuel fuel off < 9223372036854775808 := by unfold burnFuel; split <;> (try split) <;> omega
    have hflush : d.flush = if d.burnOk then ({ d.burn with cells := d.full, queue := [] }, 0) else (d.burn, 10) := by unfold Drv.flush; rw [if_neg (by rw [hm]; decide)]
    rw [hbo, hburn] at hflush
    obtain ⟨f', hf'⟩ : ∃ f', burnFuel fuel off = f' := ⟨_, rfl⟩
    obtain ⟨o', ho'⟩ : ∃ o', burnOff fuel off = o' := ⟨_, rfl⟩
    rw [hf', ho'] at HB
    rw [hf', ho'] at hflush
    rw [hf'] at hfr
    have hfb : -1 ≤ f' := by rw [← hf']; have := hmay.fuel; rw [h.fuel_eq] at this; unfold burnFuel; split <;> (try split) <;> omega
    have HFB := hide hfb
    clear hfb
    have HFL := hide hflush
    clear hm hN hQ hmay h hrf hbo hburn hflush hf' ho'
    cases o' with
    | true =>
      have HF : Hid (d.flush = (⟨d.cells, d.queue, f', true⟩, 10)) := hide (by rw [HFL.out]; rfl)
      go_enter Try.func32, Try.ntmps32
      go_wp2_with fail
      refine (HM.out _ ((HD.out.below (((Below.refl _ _).alloc (Nat.le_refl _) _).alloc (by simp) _)).is)).mono ?_
      rintro e w1 ⟨rfl, hb1⟩
      obtain ⟨B0, B1⟩ := two_boxes w [.slice a1 n1 c1, .slice a2 n2 c2, .int .i64 fuel, .bool off] [.slice none 0 0, .slice none 0 0, .int .i64 0, .bool false] 25
      have C0 := B0.next hb1
      have C1 := B1.next hb1
      have hbw : Below w.heap.size w w1 := (((Below.refl _ _).alloc (Nat.le_refl _) _).alloc (by simp) _).trans (hb1.mono (by simp; omega))
      obtain ⟨p0, p1, p2, p3, p4, p5, p6, p7⟩ := C0.four
      clear B0 B1 hb1
      go_wp2_with fail
      refine (HB.out _).mono ?_
      rintro e w2 ⟨rfl, hb2⟩
      clear p0 p1 p2 p3 p4 p5 p6 p7
      obtain ⟨p0, p1, p2, p3, p4, p5, p6, p7⟩ := (C0.next hb2).four
      obtain ⟨q0, q1, q2, q3, q4, q5, q6, q7⟩ := (C1.next hb2).four
      have hbw2 := chain hbw hb2
      clear C0 C1 hb2
      go_wp2_with fail
      rw [HF.out]
      refine bodyPost_ret (v := .tuple #[.agg #[.slice a1 n1 c1, .slice a2 n2 c2, .int .i64 f', .bool true], .int .i64 10]) (by simp [results, Try.results32, go_sem, q0, q1, q2, q3]) rfl ⟨_, rfl, ?_, ?_⟩
      · exact (HD.out.turn (below4 (below4 hbw2 (Nat.le_refl _) _ _ _ _) (Nat.le_succ _) _ _ _ _) f' true hfr).is
      · exact below4 (below4 hbw2 (Nat.le_refl _) _ _ _ _) (Nat.le_succ _) _ _ _ _
    | false =>
      have HF : Hid (d.flush = (⟨d.full, [], f', false⟩, 0)) := hide (by rw [HFL.out]; rfl)
      go_enter Try.func32, Try.ntmps32
      go_wp2_with fail
      refine (HM.out _ ((HD.out.below (((Below.refl _ _).alloc (Nat.le_refl _) _).alloc (by simp) _)).is)).mono ?_
      rintro e w1 ⟨rfl, hb1⟩
      obtain ⟨B0, B1⟩ := two_boxes w [.slice a1 n1 c1, .slice a2 n2 c2, .int .i64 fuel, .bool off] [.slice none 0 0, .slice none 0 0, .int .i64 0, .bool false] 25
      have C0 := B0.next hb1
      have C1 := B1.next hb1
      have hbw : Below w.heap.size w w1 := (((Below.refl _ _).alloc (Nat.le_refl _) _).alloc (by simp) _).trans (hb1.mono (by simp; omega))
      obtain ⟨p0, p1, p2, p3, p4, p5, p6, p7⟩ := C0.four
      clear B0 B1 hb1
      go_wp2_with fail
      refine (HB.out _).mono ?_
      rintro e w2 ⟨rfl, hb2⟩
      clear p0 p1 p2 p3 p4 p5 p6 p7
      obtain ⟨p0, p1, p2, p3, p4, p5, p6, p7⟩ := (C0.next hb2).four
      have D0 := C0.next hb2
      have D1 := C1.next hb2
      have hbw2 := chain hbw hb2
      clear C0 C1 hb2 hbw
      go_wp2_with fail
      obtain ⟨W3, hW3⟩ : ∃ W3, (((w2.setCell ⟨w.heap.size, 0, none⟩ (.slice a1 n1 c1)).setCell ⟨w.heap.size, 1, none⟩ (.slice a2 n2 c2)).setCell ⟨w.heap.size, 2, none⟩ (.int .i64 f')).setCell ⟨w.heap.size, 3, none⟩ (.bool false) = W3 := ⟨_, rfl⟩
      have hW3s : W3.heap.size = w2.heap.size := by rw [← hW3]; simp
      have hbw3 : Below w.heap.size w W3 := by rw [← hW3]; exact below4 hbw2 (Nat.le_refl _) _ _ _ _
      have E0 : Blk W3 w.heap.size [.slice a1 n1 c1, .slice a2 n2 c2, .int .i64 f', .bool false] 25 := by rw [← hW3]; exact D0.set4 _ _ _ _
      have E1 : Blk W3 (w.heap.size + 1) [.slice none 0 0, .slice none 0 0, .int .i64 0, .bool false] 25 := by rw [← hW3]; exact D1.other4 (by omega) _ _ _ _
      rw [hW3]
      have F0 := E0.alloc (.cells #[.slice none 0 0, .slice none 0 0, .int .i64 f', .bool false] 25)
      have F1 := E1.alloc (.cells #[.slice none 0 0, .slice none 0 0, .int .i64 f', .bool false] 25)
      have F2 := Blk.new W3 [.slice none 0 0, .slice none 0 0, .int .i64 f', .bool false] 25
      have hbw4 := hbw3.alloc (by have := hbw3.size; omega) (.cells #[.slice none 0 0, .slice none 0 0, .int .i64 f', .bool false] 25)
      have hx1 : w.heap.size + 1 < w2.heap.size := D1.lt
      rw [hW3s] at F2
      have HC := hide (fun (p : Nat) (w' : World) (hp : p < n1) (hb : Below w.heap.size w w') => refcell_any a1 a2 n1 c1 n2 c2 f' false ⟨d.cells, d.queue, f', false⟩ p w' (HD.out.turn hb f' false hfr) hp)
      have HFU := hide (fun (p : Nat) (hp : p < n1) => by have := cellFrom_full ⟨d.cells, d.queue, f', false⟩ ⟨HMAY.out.some, HMAY.out.most, HFB.out, HMAY.out.cell, HMAY.out.wait⟩ p (by rw [HN.out.1]; exact hp); rw [HN.out.2] at this; exact this)
      have HTK := hide (fun (k : Nat) (hk : k < n1) => take_getD_snoc d.full k [] (by rw [full_length, HN.out.1]; exact hk))
      have HI := hide (info_parts info_str)
      clear hW3 D0 D1 hbw2 p0 p1 p2 p3 p4 p5 p6 p7 E0 E1 hbw3 hW3s
      go_loopw [6] (fun i wr => ∃ (k : Nat) (ao : Option Addr) (c : Nat), k ≤ n1 ∧ i = .int .i64 k ∧ Blk wr w.heap.size [.slice a1 n1 c1, .slice a2 n2 c2, .int .i64 f', .bool false] 25 ∧ Blk wr (w.heap.size + 1) [.slice none 0 0, .slice none 0 0, .int .i64 0, .bool false] 25 ∧ Blk wr w2.heap.size [.slice ao k c, .slice none 0 0, .int .i64 f', .bool false] 25 ∧ wr.ownsRow (w2.heap.size + 1) 9 1 (.slice ao k c) k (strVals (d.full.take k)) ∧ Below w.heap.size w wr) (fun i _ => n1 - (intOf i).toNat)
      case atStart => exact ⟨0, none, 0, Nat.zero_le _, rfl, F0, F1, F2, World.ownsRow_nil _ _ _ _, hbw4⟩
      case round =>
        obtain ⟨k, ao, c, hk, rfl, G0, G1, G2, ho, hbr⟩ := hrel
        clear F0 F1 F2 hbw4
        obtain ⟨p0, p1, p2, p3, p4, p5, p6, p7⟩ := G0.four
        obtain ⟨q0, q1, q2, q3, q4, q5, q6, q7⟩ := G2.four
        have hszr := G2.lt
        by_cases hlt : k < n1
        · have hct := HC.out k wr.drew hlt (Below.drewed hbr)
          rw [HFU.out k hlt] at hct
          have htk := HTK.out k hlt
          have hfe : (Drv.full ⟨d.cells, d.queue, f', false⟩) = d.full := rfl
          rw [hfe] at hct
          obtain ⟨x, hx⟩ : ∃ x, d.full.getD k [] = x := ⟨_, rfl⟩
          rw [hx] at hct htk
          have hsv : strVals (d.full.take (k + 1)) = strVals (d.full.take k) ++ [.string (bs x)] := by rw [htk, strVals_append]; rfl
          obtain ⟨sb, hsb⟩ : ∃ s, bs x = s := ⟨_, rfl⟩
          rw [hsb] at hct hsv
          have HCT := hide hct
          have HSV := hide hsv
          have HO := hide ho
          have hi0 := HI.out
          obtain ⟨i0, hi0⟩ := hi0
          have HI0 := hide hi0
          clear hct hsv htk hx hsb hfe ho hi0
          go_wp2_with fail
          go_region_law (first
            | (go_simp
               go_at_call 74
               refine (HCT.out).mono ?_
               rintro e w5 ⟨rfl, hb5⟩
               have hb5' : Below wr.heap.size wr w5 := below_undrew hb5
               clear hb5
               have H0 := G0.next hb5'
               have H1 := G1.next hb5'
               have H2 := G2.next hb5'
               have HO5 := hide (own_below HO.out hb5')
               have hbr5 := chain hbr hb5'
               have hs5 := H1.lt
               have hs6 := H2.lt
               obtain ⟨q0, q1, q2, q3, q4, q5, q6, q7⟩ := H2.four)
            | (refine step_app rfl (.tmp 30) (.tmp 34) 22 rfl (w2.heap.size + 1) 9 i0 (.string ⟨#[]⟩) 1 16 Try.underlying22 HI0.out.1 HI0.out.2.1 HI0.out.2.2.1 HI0.out.2.2.2 rfl (by decide) _ k _ rfl (HO5.out.alloc _) _ 1 1 [.string sb] rfl rfl (row_new _ _ _) (by simp [Value.oneCell']) (by unfold maxLen; omega) (by omega) (by have := hb5'.size; simp; omega) ?_
               intro v6 w6 hown6 hg6 hob6
               have I0 := (H0.alloc (.cells #[.string sb] 9)).grown hg6 (own_ne HO5.out (by omega))
               have I1 := (H1.alloc (.cells #[.string sb] 9)).grown hg6 (own_ne HO5.out (by omega))
               have I2 := (H2.alloc (.cells #[.string sb] 9)).grown hg6 (own_ne HO5.out (by omega))
               have hbr6 := grown_below (hbr5.alloc (by have := hbr5.size; omega) (.cells #[.string sb] 9)) (by have := hbr5.size; simp; omega) hg6 (fun k hk => by have := (HO5.out.lt k hk).1; omega)
               obtain ⟨a6, c6, rfl, hc6, hm6, hr6, hl6⟩ := own_form hown6
               obtain ⟨r0, r1, r2, r3, r4, r5, r6, r7⟩ := I2.four
               clear hm6 hr6 hl6 hob6 hg6 q0 q1 q2 q3 q4 q5 q6 q7))
          all_goals
            go_wp2_with fail
            go_roundw
            case rel =>
              rw [← HSV.out] at hown6
              exact ⟨k + 1, a6, c6, by omega, by go_num, I0.other (a := ⟨w2.heap.size, 0, none⟩) (by simp; omega) _, I1.other (a := ⟨w2.heap.size, 0, none⟩) (by simp; omega) _, I2.set 0 _, ownsRow_setCell_below (a := ⟨w2.heap.size, 0, none⟩) hown6 (by simp) _, hbr6.setCell (p := ⟨w2.heap.size, 0, none⟩) (by simp; omega) _⟩
            case measure => simp [intOf]; omega
        · obtain rfl : k = n1 := by omega
          obtain ⟨ao', c', e, hc', hm', hr', hl'⟩ := own_form ho
          injection e with e1 e2 e3
          subst e1; subst e3
          obtain ⟨r0, r1, r2, r3, r4, r5, r6, r7⟩ := G1.four
          have HR' := hide hr'
          have HM' := hide hm'
          have HO' := hide ho
          clear hr' hl' hm' ho
          go_wp2_with fail
          rw [HF.out]
          refine bodyPost_ret (v := .tuple #[.agg #[.slice ao k c, .slice none 0 0, .int .i64 f', .bool false], .int .i64 0]) (by simp [results, Try.results32, go_sem, r0, r1, r2, r3]) rfl ⟨_, rfl, ?_, ?_⟩
          · refine DriveAt.is ⟨⟨by rw [full_length]; exact HN.out.1, ?_⟩, ⟨rfl, (by intro x hx; cases hx), .inl rfl⟩, ⟨hc', HM'.out⟩, by omega, rfl, rfl, hfr⟩
            have htk : d.full.take k = d.full := List.take_of_length_le (by rw [full_length, HN.out.1]; exact Nat.le_refl _)
            have := own_row (ownsRow4 HO'.out (b := w.heap.size + 1) (by omega) (.slice ao k c) (.slice none 0 0) (.int .i64 f') (.bool false))
            rw [htk] at this
            exact this
          · exact below4 hbr (Nat.le_succ _) _ _ _ _

/-- The document's Flush. -/
theorem refflush_any (v : Value) (d : Drv) (w : World) (h : IsDrive w v d) : Calls Try.prog 32 #[v] w fun e w' => ∃ v', e = .returned (.tuple #[v', .int .i64 d.flush.2]) ∧ IsDrive w' v' d.flush.1 ∧ Below w.heap.size w w' := by
  obtain ⟨a1, n1, c1, a2, n2, c2, fuel, off, rfl, hd⟩ := h
  exact refflush_run a1 a2 n1 c1 n2 c2 fuel off d w hd

end Go.Proofs.Ytkapdmhjhbmdjaa
