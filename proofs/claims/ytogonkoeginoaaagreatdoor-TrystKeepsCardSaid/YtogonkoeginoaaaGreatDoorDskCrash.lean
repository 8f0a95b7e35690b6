/-
  The walk through disk.Crash.
-/
import Derived.Test.YtogonkoeginoaaaGreatDoorDskLoss
import Derived.Test.YtogonkoeginoaaaGreatDoorDskWrite
import Derived.Deep.RegionHeld3
namespace Go.Proofs.YtogonkoeginoaaaGreatDoor
open Go.RowKit

/-- One write that waited, behind a crash. -/
def crashOne (kept : Nat) (tornAt cut : Int) (i : Nat) (w : Wt) (cs : List (List UInt8)) : List (List UInt8) :=
  if (i : Int) = tornAt then cs.set w.pos.toNat (torn cut (cs.getD w.pos.toNat []) w.s) else if keepsB kept i then cs.set w.pos.toNat w.s else cs

theorem crashes_snoc (kept : Nat) (tn cut : Int) (x : Wt) (q : List Wt) : ∀ (i : Nat) (cs : List (List UInt8)), crashes kept tn cut i (q ++ [x]) cs = crashOne kept tn cut (i + q.length) x (crashes kept tn cut i q cs) := by
  induction q with
  | nil => intro i cs; rfl
  | cons y q ih =>
    intro i cs
    rw [List.cons_append, crashes, ih, crashes, List.length_cons, show i + 1 + q.length = i + (q.length + 1) by omega]
theorem crashes_take (kept : Nat) (tn cut : Int) (cs : List (List UInt8)) (q : List Wt) (j : Nat) (h : j < q.length) : crashes kept tn cut 0 (q.take (j + 1)) cs = crashOne kept tn cut j (q.getD j ⟨0, []⟩) (crashes kept tn cut 0 (q.take j) cs) := by
  rw [List.take_succ_eq_append_getElem h, crashes_snoc, List.length_take, Nat.min_eq_left (Nat.le_of_lt h), Nat.zero_add]
  have e : q.getD j ⟨0, []⟩ = q[j] := by rw [List.getD_eq_getElem?_getD, List.getElem?_eq_getElem h]; rfl
  rw [e]
theorem crashOne_length (kept : Nat) (tn cut : Int) (i : Nat) (w : Wt) (cs : List (List UInt8)) : (crashOne kept tn cut i w cs).length = cs.length := by
  unfold crashOne; split
  · simp
  · split <;> simp
theorem torn_length (cut : Int) (x y : List UInt8) (hx : x.length = 64) (hy : y.length = 64) : (torn cut x y).length = 64 := by
  unfold torn; rw [List.length_append, List.length_take, List.length_drop]; omega
theorem crashOne_all (kept : Nat) (tn cut : Int) (i : Nat) (w : Wt) (cs : List (List UInt8)) (hw : w.s.length = 64) (hp : w.pos.toNat < cs.length) (h : ∀ c ∈ cs, c.length = 64) : ∀ c ∈ crashOne kept tn cut i w cs, c.length = 64 := by
  have hg : (cs.getD w.pos.toNat []).length = 64 := h _ (getD_mem _ _ _ hp)
  intro c hc
  unfold crashOne at hc
  split at hc
  · rcases List.mem_or_eq_of_mem_set hc with hc | rfl
    · exact h c hc
    · exact torn_length _ _ _ hg hw
  · split at hc
    · rcases List.mem_or_eq_of_mem_set hc with hc | rfl
      · exact h c hc
      · exact hw
    · exact h c hc

theorem Blk.three {w : World} {b : Nat} {v0 v1 v2 : Value} {t : TypeId} (h : Blk w b [v0, v1, v2] t) :
    w.cell? ⟨b, 0, none⟩ = some v0 ∧ w.cell? ⟨b, 1, none⟩ = some v1 ∧ w.cell? ⟨b, 2, none⟩ = some v2 ∧
    w.frozen? ⟨b, 0, none⟩ = false ∧ w.frozen? ⟨b, 1, none⟩ = false ∧ w.frozen? ⟨b, 2, none⟩ = false :=
  ⟨h.cell 0, h.cell 1, h.cell 2, h.free 0, h.free 1, h.free 2⟩
theorem three_boxes (w : World) (vs us xs : List Value) (t t2 t3 : TypeId) : Blk (((w.alloc (.cells vs.toArray t)).alloc (.cells us.toArray t2)).alloc (.cells xs.toArray t3)) w.heap.size vs t ∧ Blk (((w.alloc (.cells vs.toArray t)).alloc (.cells us.toArray t2)).alloc (.cells xs.toArray t3)) (w.heap.size + 1) us t2 ∧ Blk (((w.alloc (.cells vs.toArray t)).alloc (.cells us.toArray t2)).alloc (.cells xs.toArray t3)) (w.heap.size + 1 + 1) xs t3 := by
  refine ⟨((Blk.new w vs t).alloc _).alloc _, ?_, ?_⟩
  · have := (Blk.new (w.alloc (.cells vs.toArray t)) us t2).alloc (.cells xs.toArray t3)
    simpa using this
  · have := Blk.new ((w.alloc (.cells vs.toArray t)).alloc (.cells us.toArray t2)) xs t3
    simpa using this

set_option maxRecDepth 100000 in
set_option maxHeartbeats 6400000 in
theorem crash_main (a1 a2 : Option Addr) (n1 c1 n2 c2 : Nat) (fuel : Int) (off : Bool) (d : Drv) (kept : Nat) (tn cut : Int) (w : World) (h : DriveAt w a1 n1 c1 a2 n2 c2 fuel off d) (hmay : d.May) (hk : kept < 18446744073709551616) (ht : -9223372036854775808 ≤ tn ∧ tn < 9223372036854775808) (hcut : -9223372036854775808 ≤ cut ∧ cut < 9223372036854775808) :
    Calls Tryz.prog 11 #[.agg #[.slice a1 n1 c1, .slice a2 n2 c2, .int .i64 fuel, .bool off], .agg #[.int .u64 kept, .int .i64 tn, .int .i64 cut]] w fun e w' => ∃ v, e = .returned v ∧ IsDrive w' v ⟨crashes kept tn cut 0 d.queue d.cells, [], -1, false⟩ ∧ Below w.heap.size w w' := by
  have HD := hide h
  have HM := hide (fun w => may_any (.agg #[.slice a1 n1 c1, .slice a2 n2 c2, .int .i64 fuel, .bool off]) d w)
  rw [d.mayB_iff.2 hmay] at HM
  have hN : d.cells.length = n1 := h.cells.len
  have hQ : d.queue.length = n2 := h.queue.len
  have hn6 : n1 ≤ 6000 := by rw [← hN]; exact hmay.most
  have hc2 : n2 ≤ c2 := h.room2.1
  have HR2 := hide h.room2
  have HMAY := hide hmay
  have HN := hide (And.intro hN hQ)
  have HK := hide hk
  have HT := hide ht
  have HCUT := hide hcut
  have hmf : ∀ (fn : Fn) (first cap : Array Value) (w : World), (Instr.makeFunc fn first cap).run Tryz.prog w = .ok (.func fn first cap) w := fun _ _ _ _ => rfl
  clear h hmay hN hQ hk ht hcut
  go_enter Tryz.func11, Tryz.ntmps11
  go_wp2_with fail
  refine (HM.out _ ((HD.out.below ((((Below.refl _ _).alloc (Nat.le_refl _) _).alloc (by simp) _).alloc (by simp; omega) _)).is)).mono ?_
  rintro e w1 ⟨rfl, hb1⟩
  obtain ⟨B0, B1, B2⟩ := three_boxes w [.slice a1 n1 c1, .slice a2 n2 c2, .int .i64 fuel, .bool off] [.int .u64 kept, .int .i64 tn, .int .i64 cut] [.slice none 0 0, .slice none 0 0, .int .i64 0, .bool false] 44 25 44
  have C0 := B0.next hb1
  have C1 := B1.next hb1
  have C2 := B2.next hb1
  have hbw : Below w.heap.size w w1 := ((((Below.refl _ _).alloc (Nat.le_refl _) _).alloc (by simp) _).alloc (by simp; omega) _).trans (hb1.mono (by simp; omega))
  obtain ⟨p0, p1, p2, p3, p4, p5, p6, p7⟩ := C0.four
  clear B0 B1 B2 hb1
  go_wp2_with fail
  have hStr := HD.out.cells.below hbw
  refine (own_any a1 a2 n1 c1 n2 c2 fuel off w1 d.cells hStr hn6).mono ?_
  rintro e w2 ⟨g, rfl, hg, hown, hb2⟩
  clear p0 p1 p2 p3 p4 p5 p6 p7 hStr
  have D0 := C0.next hb2
  have D1 := C1.next hb2
  have D2 := C2.next hb2
  have hbw2 := chain hbw hb2
  have hgw : w.heap.size + 3 ≤ g := by have := C2.lt; omega
  have hW1 : w.heap.size + 3 ≤ w1.heap.size := by have := C2.lt; omega
  obtain ⟨p0, p1, p2, p3, p4, p5, p6, p7⟩ := D0.four
  obtain ⟨q0, q1, q2, q3, q4, q5⟩ := D1.three
  clear C0 C1 C2 hb2 hbw hg
  go_wp2_with fail
  clear p0 p1 p2 p3 p4 p5 p6 p7 q0 q1 q2 q3 q4 q5
  go_loopw [7, 8, 20] (fun _ _ i wr => ∃ (j : Nat) (xs : List (List UInt8)), j ≤ n2 ∧ i = .int .i64 j ∧ crashes kept tn cut 0 (d.queue.take j) d.cells = xs ∧ xs.length = n1 ∧ (∀ c ∈ xs, c.length = 64) ∧ wr.ownsRow w1.heap.size 9 1 (.slice (some ⟨g, 0, none⟩) n1 n1) n1 (strVals xs) ∧ Below (w.heap.size + 3) w2 wr) (fun _ _ i _ => n2 - (intOf i).toNat)
  case atStart => exact ⟨0, d.cells, Nat.zero_le _, rfl, rfl, HN.out.1, HMAY.out.cell, hown, Below.refl _ _⟩
  case round =>
    obtain ⟨j, xs, hj, rfl, hxe, hxl, hxa, ho, hbr⟩ := hrel
    have hbwr : Below w.heap.size w wr := hbw2.trans (hbr.mono (by omega))
    have E0 := D0.below hbr (by omega)
    have E1 := D1.below hbr (by omega)
    have E2 := D2.below hbr (by omega)
    have hglt : g < wr.heap.size := (ho.lt g rfl).2
    have hwr3 : w.heap.size + 1 + 1 < wr.heap.size := E2.lt
    have hwr2 : w.heap.size + 1 < wr.heap.size := E1.lt
    have hwr1 : w.heap.size < wr.heap.size := E0.lt
    clear hown hbw2 D0 D1 D2
    by_cases hjt : j < n2
    · obtain ⟨b, o, hb, hix, hcp, hcs⟩ := (HD.out.queue.below hbwr).at c2 j hjt
      have hw := HMAY.out.wait _ (getD_mem d.queue j ⟨0, []⟩ (by rw [HN.out.2]; exact hjt))
      have hct := crashes_take kept tn cut d.cells d.queue j (by rw [HN.out.2]; exact hjt)
      rw [hxe] at hct
      obtain ⟨x, hx⟩ : ∃ x, d.queue.getD j ⟨0, []⟩ = x := ⟨_, rfl⟩
      rw [hx] at hcp hcs hw hct
      obtain ⟨pos, l⟩ := x
      obtain ⟨hw0, hw1, hw2⟩ := hw
      rw [HN.out.1] at hw1
      simp only at hcp hcs hw0 hw1 hw2
      obtain ⟨p, rfl⟩ := Int.eq_ofNat_of_zero_le hw0
      have hp1 : p < n1 := by omega
      have hol := crashOne_length kept tn cut j ⟨p, l⟩ xs
      have hoa := crashOne_all kept tn cut j ⟨p, l⟩ xs hw2 (by simp only [Int.toNat_natCast]; omega) hxa
      have hstep : crashOne kept tn cut j ⟨p, l⟩ xs = if (j : Int) = tn then xs.set p (torn cut (xs.getD p []) l) else if keepsB kept j then xs.set p l else xs := by
        unfold crashOne; simp only [Int.toNat_natCast]
      have hxp : (xs.getD p []).length = 64 := hxa _ (getD_mem _ _ _ (by omega))
      obtain ⟨xp, hxpe⟩ : ∃ xp, xs.getD p [] = xp := ⟨_, rfl⟩
      have hvc : wr.cell? ⟨g, p, none⟩ = some (.string (bs xp)) := by
        rw [ho.cellAt p (by omega), strVals_at xs p (by omega), hxpe]
      have hvf := ho.frozenAt p
      have hsx : (strVals xs)[p]? = some (.string (bs xp)) := by rw [strVals_at xs p (by omega), hxpe]
      rw [hxpe] at hstep hxp
      have hn2 : n2 ≤ 9223372036854775807 := by have := HR2.out; omega
      have HCT := hide hct
      have HOL := hide hol
      have HOA := hide hoa
      have HST := hide hstep
      have HXP := hide hxp
      have HW2 := hide hw2
      have HO := hide ho
      have HBR := hide hbr
      have HXA := hide hxa
      have HX := hide (And.intro hxe hxl)
      have HKP := hide (fun w => keeps_any kept tn cut j w HK.out (by have := HR2.out; omega))
      have HTN := hide (fun w => torn_any kept tn cut xp l w HCUT.out hxp hw2)
      obtain ⟨s, hsl⟩ : ∃ s, bs l = s := ⟨_, rfl⟩
      obtain ⟨s2, hsl2⟩ : ∃ s2, bs xp = s2 := ⟨_, rfl⟩
      rw [hsl] at hcs HTN
      rw [hsl2] at hvc HTN hsx
      have HSX := hide hsx
      have HSL := hide hsl
      clear hsx hct hol hoa hstep hxp hw2 ho hbr hxa hxe hxl hx hsl hsl2 hw0 hw1 hxpe
      obtain ⟨p0, p1, p2, p3, p4, p5, p6, p7⟩ := E0.four
      obtain ⟨q0, q1, q2, q3, q4, q5⟩ := E1.three
      have N0 := E0.alloc (.cells #[.int .i64 (p : Int), .string s] 96)
      have N1 := E1.alloc (.cells #[.int .i64 (p : Int), .string s] 96)
      have N2 := E2.alloc (.cells #[.int .i64 (p : Int), .string s] 96)
      have N3 := Blk.new wr [.int .i64 (p : Int), .string s] 96
      have NO := hide (HO.out.alloc (.cells #[.int .i64 (p : Int), .string s] 96))
      have NB := hide (HBR.out.alloc (by omega) (.cells #[.int .i64 (p : Int), .string s] 96))
      by_cases htn : (j : Int) = tn
      · subst htn
        go_wp2_with fail
        have hne1 : g ≠ wr.heap.size := by omega
        have hne2 : g ≠ w.heap.size + 1 := by omega
        refine wp_region_noPanic ?_
        refine wp_region_held_drew (S := (fun w' => w'.cell? ⟨wr.heap.size, 0, none⟩ = some (.int .i64 (p : Int)) ∧ w'.cell? ⟨wr.heap.size, 1, none⟩ = some (.string s) ∧ w'.cell? ⟨w.heap.size + 1, 0, none⟩ = some (.int .u64 kept) ∧ w'.cell? ⟨w.heap.size + 1, 1, none⟩ = some (.int .i64 (j : Int)) ∧ w'.cell? ⟨w.heap.size + 1, 2, none⟩ = some (.int .i64 cut))) (by kernel_rfl) ?_ (fun hHeld => ?_)
        · first | (dsimp only; go_keep) | go_keep
        refine wpAnyH_take (i := 0) (v := ?_) rfl (by kernel_rfl) (by kernel_rfl) (by kernel_rfl) (fun _ _ _ h => h) (Or.inl ⟨by rfl, ?_⟩) (by assumption) ?_
        rotate_left 1
        · intro w hSw
          try dsimp only at hSw
          first | (go_simp; done) | (go_simp; with_reducible rfl)
        try simp only [Act.put, List.setIfInBounds_toArray]
        refine wpAnyH_take (i := 1) (v := ?_) rfl (by kernel_rfl) (by kernel_rfl) (by kernel_rfl) (fun _ _ _ h => h) (Or.inl ⟨by rfl, ?_⟩) (by assumption) ?_
        rotate_left 1
        · intro w hSw
          try dsimp only at hSw
          first | (go_simp; done) | (go_simp; with_reducible rfl)
        try simp only [Act.put]
        refine wpAnyH_take (i := 2) (v := ?_) rfl (by kernel_rfl) (by kernel_rfl) (by kernel_rfl) (fun _ _ _ h => h) (Or.inl ⟨by rfl, ?_⟩) (by assumption) ?_
        rotate_left 1
        · intro w hSw
          try dsimp only at hSw
          first | (go_simp; done) | (go_simp; with_reducible rfl)
        try simp only [Act.put]
        refine wpAnyH_take (i := 3) (v := ?_) rfl (by kernel_rfl) (by kernel_rfl) (by kernel_rfl) (fun _ _ _ h => h) (Or.inl ⟨by rfl, ?_⟩) (by assumption) ?_
        rotate_left 1
        · intro w hSw
          try dsimp only at hSw
          first | (go_simp; done) | (go_simp; with_reducible rfl)
        try simp only [Act.put]
        refine wpAnyH_take (i := 4) (v := ?_) rfl (by kernel_rfl) (by kernel_rfl) (by kernel_rfl) (fun _ _ _ h => h) (Or.inl ⟨by rfl, ?_⟩) (by assumption) ?_
        rotate_left 1
        · intro w hSw
          try dsimp only at hSw
          first | (go_simp; done) | (go_simp; with_reducible rfl)
        try simp only [Act.put]
        refine wpAnyH_take (i := 5) (v := ?_) rfl (by kernel_rfl) (by kernel_rfl) (by kernel_rfl) (fun _ _ _ h => h) (Or.inl ⟨by rfl, ?_⟩) (by assumption) ?_
        rotate_left 1
        · intro w hSw
          try dsimp only at hSw
          first | (go_simp; done) | (go_simp; with_reducible rfl)
        try simp only [Act.put]
        refine wpAnyH_take (i := 6) (v := ?_) rfl (by kernel_rfl) (by kernel_rfl) (by kernel_rfl) (fun _ _ _ h => h) (Or.inl ⟨by rfl, ?_⟩) (by assumption) ?_
        rotate_left 1
        · intro w hSw
          try dsimp only at hSw
          first | (go_simp; done) | (go_simp; with_reducible rfl)
        try simp only [Act.put]
        refine wpAnyH_take (i := 7) (v := ?_) rfl (by kernel_rfl) (by kernel_rfl) (by kernel_rfl) (fun _ _ _ h => h) (Or.inl ⟨by rfl, ?_⟩) (by assumption) ?_
        rotate_left 1
        · intro w hSw
          try dsimp only at hSw
          first | (go_simp; done) | (go_simp; with_reducible rfl)
        try simp only [Act.put]
        refine wpAnyH_take (i := 9) (v := ?_) rfl (by kernel_rfl) (by kernel_rfl) (by kernel_rfl) (fun _ _ _ h => h) (Or.inl ⟨by rfl, ?_⟩) (by assumption) ?_
        rotate_left 1
        · intro w hSw
          try dsimp only at hSw
          first | (go_simp; done) | (go_simp; with_reducible rfl)
        try simp only [Act.put]
        refine wpAnyH_take (i := 10) (v := ?_) rfl (by kernel_rfl) (by kernel_rfl) (by kernel_rfl) (fun _ _ _ h => h) (Or.inl ⟨by rfl, ?_⟩) (by assumption) ?_
        rotate_left 1
        · intro w hSw
          try dsimp only at hSw
          first | (go_simp; done) | (go_simp; with_reducible rfl)
        try simp only [Act.put]
        refine wpAnyH_ready (rs := [8]) (by kernel_rfl) (by simp) ?_
        refine AllReadyH.cons rfl (fun K hK => ?_) ?_
        rotate_left 1
        · exact AllReadyH.nil
        go_simp
        refine hK.out _ _ ?_ (fun hHeld2 => ?_)
        · first | (dsimp only; go_keep) | go_keep
        clear hK K
        try simp only [Act.put, List.setIfInBounds_toArray, List.set_cons_zero, List.set_cons_succ]
        clear hHeld
        have hHeld := hHeld2
        clear hHeld2
        refine wpAnyH_ready (rs := [11]) (by kernel_rfl) (by simp) ?_
        refine AllReadyH.cons rfl (fun K hK => ?_) ?_
        rotate_left 1
        · exact AllReadyH.nil
        go_simp
        go_at_call 38
        refine (HTN.out _).mono ?_
        rintro e w5 ⟨rfl, hb5⟩
        have MB : Hid (Below (w.heap.size + 3) w2 w5) := hide (Below.trans (by first | exact NB.out | exact NB.out.drew) (hb5.mono (by simp; omega)))
        have M3 : Blk w5 wr.heap.size [.int .i64 (p : Int), .string s] 96 := (hb5.block wr.heap.size (by simp)).trans N3
        have M1 : Blk w5 (w.heap.size + 1) [.int .u64 kept, .int .i64 (j : Int), .int .i64 cut] 25 := (hb5.block (w.heap.size + 1) (by simp; omega)).trans N1
        have hm0 := M3.cell 0
        have hm1 := M3.cell 1
        simp only [List.getElem?_cons_zero, List.getElem?_cons_succ] at hm0 hm1
        obtain ⟨m0, m1, m2, m3, m4, m5⟩ := M1.three
        have MO : Hid (w5.ownsRow w1.heap.size 9 1 (.slice (some ⟨g, 0, none⟩) n1 n1) n1 (strVals xs)) := hide (World.ownsRow.kept NO.out (row := none) ⟨hb5.os, hb5.tape, hb5.output, hb5.size, fun k hk _ => hb5.block k hk⟩ (by simp [Value.ownBlock]))
        have hvf5 := MO.out.frozenAt p
        have hvc5 : w5.cell? ⟨g, p, none⟩ = some (.string s2) := by
          rw [MO.out.cellAt p (by omega)]
          exact HSX.out
        clear M3 M1 hb5
        go_wp2_with fail
        refine hK.out _ _ ?_ (fun hHeld2 => ?_)
        · first | (dsimp only; go_keep) | go_keep
        clear hK K
        try simp only [Act.put, List.setIfInBounds_toArray, List.set_cons_zero, List.set_cons_succ]
        clear hHeld
        have hHeld := hHeld2
        clear hHeld2
        refine wpAnyH_take (i := 12) (v := ?_) rfl (by kernel_rfl) (by kernel_rfl) (by kernel_rfl) (fun _ _ _ h => h) (Or.inl ⟨by rfl, ?_⟩) (by assumption) ?_
        rotate_left 1
        · intro w hSw
          try dsimp only at hSw
          first | (go_simp; done) | (go_simp; with_reducible rfl)
        try simp only [Act.put, List.setIfInBounds_toArray]
        refine wpAnyH_ready (rs := [13]) (by kernel_rfl) (by simp) ?_
        refine AllReadyH.cons rfl (fun K hK => ?_) ?_
        rotate_left 1
        · exact AllReadyH.nil
        go_simp
        refine hK.out _ _ ?_ (fun hHeld2 => ?_)
        · first | (dsimp only; go_keep) | go_keep
        clear hK K
        try simp only [Act.put, List.setIfInBounds_toArray, List.set_cons_zero, List.set_cons_succ]
        clear hHeld
        have hHeld := hHeld2
        clear hHeld2
        refine wpAnyH_done (by kernel_rfl) ?_ _
        refine NoPanic.normal ?_
        have hst : crashOne kept j cut j ⟨p, l⟩ xs = xs.set p (torn cut xp l) := by rw [HST.out]; exact if_pos trivial
        go_wp2_with fail
        go_roundw
        case rel =>
          have hown6 := (MO.out.stored p (.string (bs (torn cut xp l)))).1
          rw [strVals_set] at hown6
          exact ⟨j + 1, xs.set p (torn cut xp l), by omega, by go_num, by rw [HCT.out, hst], by rw [List.length_set]; exact HX.out.2, by rw [← hst]; exact HOA.out, hown6, MB.out.setCell (p := ⟨g, p, none⟩) (by omega) _⟩
        case measure => simp [intOf]; omega
      · cases hkp : keepsB kept j with
        | true =>
          rw [hkp] at HKP HST
          have HTN2 := hide htn
          go_wp2_with fail
          refine (HKP.out _).mono ?_
          rintro e w5 ⟨rfl, hb5⟩
          have hs5 : wr.heap.size < w5.heap.size := by have := hb5.size; simp at this; omega
          have M3 := N3.next hb5
          have hm0 := M3.cell 0
          have hm1 := M3.cell 1
          simp only [List.getElem?_cons_zero, List.getElem?_cons_succ] at hm0 hm1
          have MO := hide (NO.out.kept (row := none) ⟨hb5.os, hb5.tape, hb5.output, hb5.size, fun k hk _ => hb5.block k hk⟩ (by simp [Value.ownBlock]))
          have MB := hide (NB.out.trans (hb5.mono (by simp; omega)))
          have hvc5 : w5.cell? ⟨g, p, none⟩ = some (.string s2) := by
            rw [MO.out.cellAt p (by omega)]
            exact HSX.out
          have hvf5 := MO.out.frozenAt p
          clear N0 N1 N2 N3 M3 E0 E1 E2 hb5 p0 p1 p2 p3 p4 p5 p6 p7 q0 q1 q2 q3 q4 q5 hcp hcs hix hvc hvf
          have hst : crashOne kept tn cut j ⟨p, l⟩ xs = xs.set p l := by rw [HST.out, if_neg HTN2.out]; rfl
          go_wp2_with fail
          go_roundw
          case rel =>
            have hown6 := (MO.out.stored p (.string s)).1
            rw [← HSL.out, strVals_set] at hown6
            exact ⟨j + 1, xs.set p l, by omega, by go_num, by rw [HCT.out, hst], by rw [List.length_set]; exact HX.out.2, by rw [← hst]; exact HOA.out, by rw [← HSL.out]; exact hown6, MB.out.setCell (p := ⟨g, p, none⟩) (by omega) _⟩
          case measure => simp [intOf]; omega
        | false =>
          rw [hkp] at HKP HST
          have HTN2 := hide htn
          go_wp2_with fail
          refine (HKP.out _).mono ?_
          rintro e w5 ⟨rfl, hb5⟩
          have MO := NO.out.kept (row := none) ⟨hb5.os, hb5.tape, hb5.output, hb5.size, fun k hk _ => hb5.block k hk⟩ (by simp [Value.ownBlock])
          have MB := NB.out.trans (hb5.mono (by simp; omega))
          clear N0 N1 N2 N3 E0 E1 E2 p0 p1 p2 p3 p4 p5 p6 p7 q0 q1 q2 q3 q4 q5 hcp hcs hix hvc hvf hb5
          have hst : crashOne kept tn cut j ⟨p, l⟩ xs = xs := by rw [HST.out, if_neg HTN2.out]; rfl
          go_wp2_with fail
          go_roundw
          case rel => exact ⟨j + 1, xs, by omega, by go_num, by rw [HCT.out, hst], HX.out.2, HXA.out, MO, MB⟩
          case measure => simp [intOf]; omega
    · obtain rfl : j = n2 := by omega
      have htk : d.queue.take j = d.queue := List.take_of_length_le (by rw [HN.out.2]; exact Nat.le_refl _)
      rw [htk] at hxe
      have HO := hide ho
      obtain ⟨p0, p1, p2, p3, p4, p5, p6, p7⟩ := E2.four
      clear htk ho E0 E1
      go_wp2_with fail
      rw [hxe]
      refine bodyPost_ret (v := .agg #[.slice (some ⟨g, 0, none⟩) n1 n1, .slice none 0 0, .int .i64 (-1), .bool false]) (by simp [results, Tryz.results11, go_sem, p0, p1, p2, p3]) rfl ⟨_, rfl, ?_, ?_⟩
      · refine DriveAt.is ⟨⟨hxl, ?_⟩, ⟨rfl, (by intro x hx; cases hx), .inl rfl⟩, ⟨Nat.le_refl _, by omega⟩, by omega, rfl, rfl, by omega⟩
        exact row_of_own (ownsRow4 HO.out (by omega) _ _ _ _)
      · exact below4 hbwr (by omega) _ _ _ _

set_option maxRecDepth 100000 in
set_option maxHeartbeats 1600000 in
theorem crash_no (a1 a2 : Option Addr) (n1 c1 n2 c2 : Nat) (fuel : Int) (off : Bool) (d : Drv) (kept : Nat) (tn cut : Int) (w : World) (h : DriveAt w a1 n1 c1 a2 n2 c2 fuel off d) (hm : d.mayB = false) :
    Calls Tryz.prog 11 #[.agg #[.slice a1 n1 c1, .slice a2 n2 c2, .int .i64 fuel, .bool off], .agg #[.int .u64 kept, .int .i64 tn, .int .i64 cut]] w fun e w' => ∃ v, e = .returned v ∧ IsDrive w' v Drv.zero ∧ Below w.heap.size w w' := by
  have HD := hide h
  have HM := hide (fun w => may_any (.agg #[.slice a1 n1 c1, .slice a2 n2 c2, .int .i64 fuel, .bool off]) d w)
  rw [hm] at HM
  clear h hm
  go_enter Tryz.func11, Tryz.ntmps11
  go_wp2_with fail
  refine (HM.out _ ((HD.out.below ((((Below.refl _ _).alloc (Nat.le_refl _) _).alloc (by simp) _).alloc (by simp; omega) _)).is)).mono ?_
  rintro e w1 ⟨rfl, hb1⟩
  obtain ⟨B0, B1, B2⟩ := three_boxes w [.slice a1 n1 c1, .slice a2 n2 c2, .int .i64 fuel, .bool off] [.int .u64 kept, .int .i64 tn, .int .i64 cut] [.slice none 0 0, .slice none 0 0, .int .i64 0, .bool false] 44 25 44
  have hbw : Below w.heap.size w w1 := ((((Below.refl _ _).alloc (Nat.le_refl _) _).alloc (by simp) _).alloc (by simp; omega) _).trans (hb1.mono (by simp; omega))
  obtain ⟨p0, p1, p2, p3, p4, p5, p6, p7⟩ := (B2.next hb1).four
  clear B0 B1 B2 hb1
  go_wp2_with fail
  refine bodyPost_ret (v := .agg #[.slice none 0 0, .slice none 0 0, .int .i64 0, .bool false]) (by simp [results, Tryz.results11, go_sem, p0, p1, p2, p3]) rfl ⟨_, rfl, zero_drive _, ?_⟩
  exact below4 hbw (by omega) _ _ _ _

/-- disk.Crash. -/
theorem crash_any (v : Value) (d : Drv) (kept : Nat) (tn cut : Int) (w : World) (h : IsDrive w v d) (hk : kept < 18446744073709551616) (ht : -9223372036854775808 ≤ tn ∧ tn < 9223372036854775808) (hcut : -9223372036854775808 ≤ cut ∧ cut < 9223372036854775808) :
    Calls Tryz.prog 11 #[v, .agg #[.int .u64 kept, .int .i64 tn, .int .i64 cut]] w fun e w' => ∃ v', e = .returned v' ∧ IsDrive w' v' (d.crash kept tn cut) ∧ Below w.heap.size w w' := by
  obtain ⟨a1, n1, c1, a2, n2, c2, fuel, off, rfl, hd⟩ := h
  unfold Drv.crash
  cases hm : d.mayB with
  | false => exact crash_no a1 a2 n1 c1 n2 c2 fuel off d kept tn cut w hd hm
  | true => exact crash_main a1 a2 n1 c1 n2 c2 fuel off d kept tn cut w hd (d.mayB_iff.1 hm) hk ht hcut

end Go.Proofs.YtogonkoeginoaaaGreatDoor
