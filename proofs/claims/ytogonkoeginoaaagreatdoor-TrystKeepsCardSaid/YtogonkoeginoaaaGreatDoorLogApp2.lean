/-
  The walk through log.Append, where there is room.
-/
import Derived.Test.YtogonkoeginoaaaGreatDoorLogApp
namespace Go.Proofs.YtogonkoeginoaaaGreatDoor
open Go.RowKit

/-- No row of strings lies in a tape's box. -/
theorem tape_not {w : World} {b b' off : Nat} {i0 i1 i2 i3 : Int} {x : ByteArray} (h : Blk w b [.int .i64 i0, .int .i64 i1, .int .i64 i2, .int .i64 i3] 63) (hc : w.cell? ⟨b', off, none⟩ = some (.string x)) : b' ≠ b := by
  rintro rfl
  rw [h.cell off] at hc
  match off with
  | 0 => simp at hc
  | 1 => simp at hc
  | 2 => simp at hc
  | 3 => simp at hc
  | n + 4 => simp at hc
/-- Stores into a tape's box let drives be. -/
theorem Strs.set4t {w : World} {ao : Option Addr} {n : Nat} {xs : List (List UInt8)} (h : Strs w ao n xs) {b : Nat} {i0 i1 i2 i3 : Int} (hb : Blk w b [.int .i64 i0, .int .i64 i1, .int .i64 i2, .int .i64 i3] 63) (v0 v1 v2 v3 : Value) : Strs ((((w.setCell ⟨b, 0, none⟩ v0).setCell ⟨b, 1, none⟩ v1).setCell ⟨b, 2, none⟩ v2).setCell ⟨b, 3, none⟩ v3) ao n xs := by
  refine ⟨h.len, ?_⟩
  rcases h.row with h0 | ⟨b', off, e, hc⟩
  · exact .inl h0
  · refine .inr ⟨b', off, e, fun j u hj => ?_⟩
    have h1 := hc j u hj
    obtain ⟨x, _, rfl⟩ := List.mem_map.1 (List.mem_of_getElem? hj)
    rw [cell_set4 (tape_not hb h1)]
    exact h1
theorem Waits.set4t {w : World} {ao : Option Addr} {n : Nat} {q : List Wt} (h : Waits w ao n q) {b : Nat} {i0 i1 i2 i3 : Int} (hb : Blk w b [.int .i64 i0, .int .i64 i1, .int .i64 i2, .int .i64 i3] 63) (v0 v1 v2 v3 : Value) : Waits ((((w.setCell ⟨b, 0, none⟩ v0).setCell ⟨b, 1, none⟩ v1).setCell ⟨b, 2, none⟩ v2).setCell ⟨b, 3, none⟩ v3) ao n q := by
  refine ⟨h.len, h.range, ?_⟩
  rcases h.row with h0 | ⟨b', off, e, hc⟩
  · exact .inl h0
  · cases q with
    | nil => exact .inl rfl
    | cons x q =>
      have hne := tape_not hb (hc 1 (.string (bs x.s)) rfl)
      refine .inr ⟨b', off, e, fun j u hj => ?_⟩
      rw [cell_set4 hne]
      exact hc j u hj
theorem IsDrive.set4t {w : World} {v : Value} {d : Drv} (h : IsDrive w v d) {b : Nat} {i0 i1 i2 i3 : Int} (hb : Blk w b [.int .i64 i0, .int .i64 i1, .int .i64 i2, .int .i64 i3] 63) (v0 v1 v2 v3 : Value) : IsDrive ((((w.setCell ⟨b, 0, none⟩ v0).setCell ⟨b, 1, none⟩ v1).setCell ⟨b, 2, none⟩ v2).setCell ⟨b, 3, none⟩ v3) v d := by
  obtain ⟨a1, n1, c1, a2, n2, c2, f, o, e, h⟩ := h
  exact ⟨a1, n1, c1, a2, n2, c2, f, o, e, h.cells.set4t hb _ _ _ _, h.queue.set4t hb _ _ _ _, h.room1, h.room2, h.fuel_eq, h.off_eq, h.range⟩

theorem cell_set23 {w : World} {b b' off : Nat} (hne : b' ≠ b) (v2 v3 : Value) : ((w.setCell ⟨b, 2, none⟩ v2).setCell ⟨b, 3, none⟩ v3).cell? ⟨b', off, none⟩ = w.cell? ⟨b', off, none⟩ := by
  have e : ∀ (w : World) (i : Nat) (v : Value), (w.setCell ⟨b, i, none⟩ v).cell? ⟨b', off, none⟩ = w.cell? ⟨b', off, none⟩ := fun w i v => World.cell?_setCell_other _ _ _ _ (fun e => by injection e with e; exact hne e.symm)
  rw [e, e]
theorem IsDrive.tape23 {w : World} {v : Value} {d : Drv} (h : IsDrive w v d) {b : Nat} {i0 i1 i2 i3 : Int} (hb : Blk w b [.int .i64 i0, .int .i64 i1, .int .i64 i2, .int .i64 i3] 63) (v2 v3 : Value) : IsDrive ((w.setCell ⟨b, 2, none⟩ v2).setCell ⟨b, 3, none⟩ v3) v d := by
  obtain ⟨a1, n1, c1, a2, n2, c2, f, o, e, h⟩ := h
  refine ⟨a1, n1, c1, a2, n2, c2, f, o, e, ⟨h.cells.len, ?_⟩, ⟨h.queue.len, h.queue.range, ?_⟩, h.room1, h.room2, h.fuel_eq, h.off_eq, h.range⟩
  · rcases h.cells.row with h0 | ⟨b', off, e, hc⟩
    · exact .inl h0
    · refine .inr ⟨b', off, e, fun j u hj => ?_⟩
      have h1 := hc j u hj
      obtain ⟨x, _, rfl⟩ := List.mem_map.1 (List.mem_of_getElem? hj)
      rw [cell_set23 (tape_not hb h1)]
      exact h1
  · rcases h.queue.row with h0 | ⟨b', off, e, hc⟩
    · exact .inl h0
    · generalize d.queue = q at hc ⊢
      cases q with
      | nil => exact .inl rfl
      | cons x q =>
        have hne := tape_not hb (hc 1 (.string (bs x.s)) rfl)
        refine .inr ⟨b', off, e, fun j u hj => ?_⟩
        rw [cell_set23 hne]
        exact hc j u hj

theorem blk_drew {w : World} {b : Nat} {vs : List Value} {t : TypeId} (h : Blk w b vs t) : Blk w.drew b vs t := h
/-- log.write makes a step. -/
theorem logwrite_step (p : Int) (s : List UInt8) (w : World) (hp : -9223372036854775808 ≤ p ∧ p < 9223372036854775808) (hs : s.length ≤ 6400) :
    Calls Tryz.prog 59 #[.int .i64 p, .string (bs s)] w fun e w' => ∃ b2 b3, e = .returned (Stp.write b2 b3 p s).val ∧ (Stp.write b2 b3 p s).Lies w' ∧ Below w.heap.size w w' := by
  refine (logwrite_any p (bs s) w).mono ?_
  rintro e w' ⟨rfl, rfl⟩
  have hK := two_kinds w [.int .i64 p] [.string (bs s)] 3 9
  exact ⟨_, _, rfl, ⟨hK.1, hK.2, hp, hs⟩, ((Below.refl _ _).alloc (Nat.le_refl _) _).alloc (by simp) _⟩

theorem own_type_ne {w : World} {base : Nat} {e : TypeId} {size : Nat} {v : Value} {n : Nat} {xs : List Value} (h : w.ownsRow base e size v n xs) {b : Nat} {vs : List Value} {ty : TypeId} (hb : Blk w b vs ty) (hne : ty ≠ e) : some b ≠ v.ownBlock := by
  rcases h.2 with ⟨rfl, _⟩ | ⟨g, cap, cur, rfl, _, hh, _⟩
  · simp [Value.ownBlock]
  · intro he
    have : b = g := by simpa [Value.ownBlock] using he
    subst this
    unfold Blk at hb
    rw [hh] at hb
    injection hb with hb
    injection hb with _ hb
    exact hne hb.symm
theorem Stp.Lies.grown {w w' : World} {t : Stp} (h : t.Lies w) {row : Option Nat} (hg : w.grownBy w' row) (hne : ∀ b vs ty, Blk w b vs ty → ty ≠ 124 → some b ≠ row) : t.Lies w' := by
  cases t with
  | flush => trivial
  | write b2 b3 p s => exact ⟨h.1.grown hg (hne _ _ _ h.1 (by decide)), h.2.1.grown hg (hne _ _ _ h.2.1 (by decide)), h.2.2⟩

/-- What the rest of an append does. -/
def AppRest (d : Drv) (t : Tp) (s : List UInt8) (l : List Stp) : Prop := l.length ≤ 2 ∧ ∀ b4 b5, d.append t s = (let r := stepsRun (l ++ [.write b4 b5 (t.from_ + t.pos) ((lay s t.serial.toNat).take 64), .flush]) d
      if r.2 = 0 then (r.1, ⟨t.from_, t.len, t.pos + kOf s.length, t.serial + 1⟩, 0) else (r.1, Tp.zero, r.2))

/-- Steps that lie in memory, as a slice. -/
structure StepsAt (w : World) (B : Nat) (v : Value) (l : List Stp) : Prop where
  own : w.ownsRow B 124 1 v l.length (l.map Stp.val)
  lies : ∀ t ∈ l, t.Lies w
theorem StepsAt.next {w w' : World} {B : Nat} {v : Value} {l : List Stp} (h : StepsAt w B v l) (hb : Below w.heap.size w w') : StepsAt w' B v l := ⟨own_below h.own hb, fun t ht => (h.lies t ht).next hb⟩

theorem steps_grow {B : Nat} {wx w4 w5 : World} {ao : Option Addr} {c : Nat} {l : List Stp} {v5 : Value} {p : Int} {s : List UInt8} {b2 b3 : Nat} (hst : StepsAt wx B (.slice ao l.length c) l) (hb4 : Below wx.heap.size wx w4) (hl4 : (Stp.write b2 b3 p s).Lies w4) (hsx : B ≤ wx.heap.size)
    (hown5 : w5.ownsRow B 124 1 v5 (l.length + 2) (l.map Stp.val ++ [.func (.func 85) #[] #[.pointer (some ⟨b2, 0, none⟩), .pointer (some ⟨b3, 0, none⟩)], .func (.func 60) #[] #[]]))
    (hg5 : (w4.alloc (.cells #[.func (.func 85) #[] #[.pointer (some ⟨b2, 0, none⟩), .pointer (some ⟨b3, 0, none⟩)], .func (.func 60) #[] #[]] 124)).grownBy w5 (Value.slice ao l.length c).ownBlock) :
    ∃ a5 c5, v5 = .slice a5 (l.length + 2) c5 ∧ Hid (StepsAt w5 B v5 (l ++ [.write b2 b3 p s, .flush])) ∧ Below B wx w5 := by
  have hown4 := (own_below hst.own hb4).alloc (.cells #[.func (.func 85) #[] #[.pointer (some ⟨b2, 0, none⟩), .pointer (some ⟨b3, 0, none⟩)], .func (.func 60) #[] #[]] 124)
  have hA4 : Below wx.heap.size wx (w4.alloc (.cells #[.func (.func 85) #[] #[.pointer (some ⟨b2, 0, none⟩), .pointer (some ⟨b3, 0, none⟩)], .func (.func 60) #[] #[]] 124)) := hb4.alloc hb4.size _
  have hB4 : Below w4.heap.size w4 (w4.alloc (.cells #[.func (.func 85) #[] #[.pointer (some ⟨b2, 0, none⟩), .pointer (some ⟨b3, 0, none⟩)], .func (.func 60) #[] #[]] 124)) := (Below.refl _ _).alloc (Nat.le_refl _) _
  obtain ⟨a5, c5, rfl, _, _, _, _⟩ := own_form hown5
  refine ⟨a5, c5, rfl, hide ⟨by simpa [Stp.val] using hown5, ?_⟩, grown_below (hA4.mono hsx) (by have := hA4.size; omega) hg5 (fun k hk => (hst.own.lt k hk).1)⟩
  intro t ht
  rcases List.mem_append.1 ht with ht | ht
  · exact ((hst.lies t ht).next hA4).grown hg5 (fun b vs ty hb hne => own_type_ne hown4 hb hne)
  · simp only [List.mem_cons, List.not_mem_nil, or_false] at ht
    rcases ht with rfl | rfl
    · exact (hl4.next hB4).grown hg5 (fun b vs ty hb hne => own_type_ne hown4 hb hne)
    · trivial

set_option maxRecDepth 100000 in
set_option maxHeartbeats 12800000 in
theorem append_good (v : Value) (d : Drv) (t : Tp) (s : List UInt8) (w : World) (h : IsDrive w v d) (ht : t.In) (hq : d.queue.length ≤ 1000) (hm : tapeOk d t = true) (hs : s.length ≤ 4000) (hr : (kOf s.length : Int) ≤ t.len - t.pos) (hsr : t.serial ≤ 16777215) :
    Calls Tryz.prog 29 #[v, tpVal t, .string (bs s)] w fun e w' => ∃ v', e = .returned (.tuple #[v', tpVal (d.append t s).2.1, .int .i64 (d.append t s).2.2]) ∧ IsDrive w' v' (d.append t s).1 ∧ Below w.heap.size w w' := by
  have HM := hide (fun (v : Value) (w : World) (h : IsDrive w v d) => logmay_any v d t w h ht)
  rw [hm] at HM
  obtain ⟨i1, i2, i3, i4, i5, i6, i7, i8, i9, i10⟩ := tapeOk_in hm
  have HC := hide (fun w => lcells_any (s.length : Int) w (by omega))
  rw [show cellsOf (s.length : Int) = (kOf s.length : Int) from by unfold cellsOf; rw [if_neg (by omega), Int.toNat_natCast]] at HC
  have hll := lay_length s t.serial.toNat
  have hk67 := kOf_max hs
  have hk1 := kOf_pos s.length
  have HLY := hide (fun w => lay_any s t.serial.toNat w hs (by omega))
  rw [Int.toNat_of_nonneg (by omega)] at HLY
  obtain ⟨ly, hly⟩ : ∃ z, lay s t.serial.toNat = z := ⟨_, rfl⟩
  rw [hly] at HLY hll
  have HW1 := hide (fun w => logwrite_step (t.from_ + t.pos + 1) (ly.drop 64) w (by omega) (by rw [List.length_drop]; omega))
  have HW2 := hide (fun w => logwrite_step (t.from_ + t.pos) (ly.take 64) w (by omega) (by rw [List.length_take]; omega))
  have hA1 : kOf s.length = 1 → AppRest d t s [] := fun hk => ⟨by simp, fun b4 b5 => append_steps1 d t s hm hs hr hsr hk b4 b5⟩
  have hA2 : 1 < kOf s.length → ∀ b2 b3, AppRest d t s [.write b2 b3 (t.from_ + t.pos + 1) (ly.drop 64), .flush] := fun hk b2 b3 => ⟨by simp, fun b4 b5 => by rw [← hly]; exact append_steps2 d t s hm hs hr hsr hk b2 b3 b4 b5⟩
  have hcz : (bs ly).size = ly.length := bs_size ly
  have hx1 := bs_drop ly 64
  have hx2 := bs_take ly 64
  obtain ⟨x1, hxx1⟩ : ∃ z, bs (ly.drop 64) = z := ⟨_, rfl⟩
  obtain ⟨x2, hxx2⟩ : ∃ z, bs (ly.take 64) = z := ⟨_, rfl⟩
  obtain ⟨cv, hcv⟩ : ∃ z, bs ly = z := ⟨_, rfl⟩
  rw [hxx1] at HW1 hx1
  rw [hxx2] at HW2 hx2
  rw [hcv] at HLY hcz hx1 hx2
  have hx2' := hx2.symm
  clear hx2
  have hcz1 : 64 ≤ cv.size := by omega
  have hcz2 : cv.size ≤ 4288 := by omega
  have HLYE := hide hly
  obtain ⟨f, ln, p, sr⟩ := t
  obtain ⟨h1, h2, h3, h4⟩ := ht
  simp only at h1 h2 h3 h4 hr hsr i2 i3 i4 i5 i6 i7 i8 i9 HLY HW1 HW2 HLYE hA1 hA2
  have HI := hide h
  obtain ⟨a1, n1, c1, a2, n2, c2, fu, of, rfl, _⟩ := h
  unfold drvVal at HI ⊢
  unfold tpVal at HM ⊢
  simp only at HM ⊢
  obtain ⟨B0, B1, B2, B3⟩ := four_boxes w [.slice a1 n1 c1, .slice a2 n2 c2, .int .i64 fu, .bool of] [.int .i64 f, .int .i64 ln, .int .i64 p, .int .i64 sr] [.slice none 0 0, .slice none 0 0, .int .i64 0, .bool false] [.int .i64 0, .int .i64 0, .int .i64 0, .int .i64 0] 44 63 44 63
  obtain ⟨W0, hW0⟩ : ∃ W0, ((((w.alloc (.cells #[.slice a1 n1 c1, .slice a2 n2 c2, .int .i64 fu, .bool of] 44)).alloc (.cells #[.int .i64 f, .int .i64 ln, .int .i64 p, .int .i64 sr] 63)).alloc (.cells #[.slice none 0 0, .slice none 0 0, .int .i64 0, .bool false] 44)).alloc (.cells #[.int .i64 0, .int .i64 0, .int .i64 0, .int .i64 0] 63)) = W0 := ⟨_, rfl⟩
  have hb0 : Below w.heap.size w W0 := by rw [← hW0]; exact ((((Below.refl _ _).alloc (Nat.le_refl _) _).alloc (by simp) _).alloc (by simp; omega) _).alloc (by simp; omega) _
  rw [hW0] at B0 B1 B2 B3
  have B2 : Blk W0 (w.heap.size + 1 + 1) [.slice none 0 0, .slice none 0 0, .int .i64 0, .bool false] 44 := B2
  have B3 : Blk W0 (w.heap.size + 1 + 1 + 1) [.int .i64 0, .int .i64 0, .int .i64 0, .int .i64 0] 63 := B3
  have HD0 := hide (HI.out.below hb0)
  have hsz : (bs s).size = s.length := bs_size s
  obtain ⟨sv, hsv⟩ : ∃ z, bs s = z := ⟨_, rfl⟩
  rw [hsv] at hsz HLY ⊢
  have hs4 : (sv.size : Int) ≤ 4000 := by omega
  rw [← hsz] at HC
  obtain ⟨kk, hkk⟩ : ∃ kk : Nat, kOf s.length = kk := ⟨_, rfl⟩
  rw [hsz, hkk] at HC
  rw [← hsz] at HC
  rw [hkk] at hk67 hk1 hr hll hA1 hA2
  have HKK := hide hkk
  have HSZ := hide hsz
  have HA1 := hide hA1
  have HA2 := hide hA2
  have HQ := hide hq
  obtain ⟨p0, p1, p2, p3, p4, p5, p6, p7⟩ := B0.four
  obtain ⟨q0, q1, q2, q3, q4, q5, q6, q7⟩ := B1.four
  have hfp : f + p ≤ 12000 := by omega
  have hf6 : f ≤ 6000 := by omega
  have hl6 : ln ≤ 6000 := by omega
  have hp6 : p ≤ 6000 := by omega
  clear hly hxx1 hxx2 hcv hcz hll hsv hkk hsz hA1 hA2 hs hm i1 h1 h2 h3 h4 hq i10 i3 i5
  go_enter Tryz.func29, Tryz.ntmps29
  go_wp2_with fail
  refine (HM.out _ _ HD0.out).mono ?_
  rintro e w1 ⟨rfl, hb1⟩
  have C0 := B0.next hb1
  have C1 := B1.next hb1
  have C2 := B2.next hb1
  have C3 := B3.next hb1
  have HD1 := hide (HD0.out.below hb1)
  have hbx := chain hb0 hb1
  clear p0 p1 p2 p3 p4 p5 p6 p7 q0 q1 q2 q3 q4 q5 q6 q7 hb1 hb0 B0 B1 B2 B3 HD0 hW0
  obtain ⟨q0, q1, q2, q3, q4, q5, q6, q7⟩ := C1.four
  go_wp2_with fail
  refine (HC.out _).mono ?_
  rintro e w2 ⟨rfl, rfl⟩
  go_wp2_with fail
  refine (HLY.out _).mono ?_
  rintro e w3 ⟨rfl, hb3⟩
  have D0 := C0.next hb3
  have D1 := C1.next hb3
  have D2 := C2.next hb3
  have D3 := C3.next hb3
  have HD3 := hide (HD1.out.below hb3)
  have hby := chain hbx hb3
  clear q0 q1 q2 q3 q4 q5 q6 q7 hb3 hbx C0 C1 C2 C3 HD1
  obtain ⟨q0, q1, q2, q3, q4, q5, q6, q7⟩ := D1.four
  go_upto_if 52 with fail
  obtain ⟨i0, hi, hz0, hz1, hz2⟩ := info_parts info_step
  have HIF := hide (And.intro hi (And.intro hz0 (And.intro hz1 hz2)))
  clear hi hz0 hz1 hz2
  have hlt0 := D0.lt
  have hlt1 := D1.lt
  have hlt2 := D2.lt
  have hlt3 := D3.lt
  have hlw : w.heap.size + 3 < w3.heap.size := hlt3
  go_cut [12] (fun s12 wx => ∃ (l : List Stp) (ao : Option Addr) (c : Nat), s12 = .slice ao l.length c ∧ StepsAt wx w3.heap.size s12 l ∧ AppRest d ⟨f, ln, p, sr⟩ s l ∧ Blk wx w.heap.size [.slice a1 n1 c1, .slice a2 n2 c2, .int .i64 fu, .bool of] 44 ∧ Blk wx (w.heap.size + 1) [.int .i64 f, .int .i64 ln, .int .i64 p, .int .i64 sr] 63 ∧ Blk wx (w.heap.size + 1 + 1) [.slice none 0 0, .slice none 0 0, .int .i64 0, .bool false] 44 ∧ Blk wx (w.heap.size + 1 + 1 + 1) [.int .i64 0, .int .i64 0, .int .i64 0, .int .i64 0] 63 ∧ IsDrive wx (.agg #[.slice a1 n1 c1, .slice a2 n2 c2, .int .i64 fu, .bool of]) d ∧ Below w.heap.size w wx ∧ w3.heap.size ≤ wx.heap.size)
  case first =>
    by_cases hk2 : 1 < kk
    · have hk2i : (1 : Int) < (kk : Int) := by omega
      go_wp2_with fail
      refine (HW1.out _).mono ?_
      rintro e w4 ⟨b2, b3, rfl, hl4, hb4⟩
      simp only [Stp.val]
      have HL4 := hide hl4
      have F0 := D0.next hb4
      have F1 := D1.next hb4
      have F2 := D2.next hb4
      have F3 := D3.next hb4
      have HD4 := hide (HD3.out.below hb4)
      have hbz := chain hby hb4
      have hs34 := hb4.size
      clear hb4 hl4 q0 q1 q2 q3 q4 q5 q6 q7
      have hnb := Blk.new w4 [.func (.func 85) #[] #[.pointer (some ⟨b2, 0, none⟩), .pointer (some ⟨b3, 0, none⟩)], .func (.func 60) #[] #[]] 124
      go_wp2_with (at_builtin; refine wpList_app rfl (.tmp 53) (.tmp 59) 122 rfl w3.heap.size 124 i0 .nilFunc 1 8 Tryz.underlying122 HIF.out.1 HIF.out.2.1 HIF.out.2.2.1 HIF.out.2.2.2 rfl (by decide) _ 0 [] rfl (World.ownsRow_nil _ _ _ _) _ 2 2 [.func (.func 85) #[] #[.pointer (some ⟨b2, 0, none⟩), .pointer (some ⟨b3, 0, none⟩)], .func (.func 60) #[] #[]] rfl rfl (row_of_blk hnb) (by simp [Value.oneCell']) (by unfold maxLen; omega) (by omega) (by simp; omega) ?_)
      intro v5 w5 hown5 hg5 hob5
      have G0 := (F0.alloc (.cells #[.func (.func 85) #[] #[.pointer (some ⟨b2, 0, none⟩), .pointer (some ⟨b3, 0, none⟩)], .func (.func 60) #[] #[]] 124)).grown hg5 (by simp [Value.ownBlock])
      have G1 := (F1.alloc (.cells #[.func (.func 85) #[] #[.pointer (some ⟨b2, 0, none⟩), .pointer (some ⟨b3, 0, none⟩)], .func (.func 60) #[] #[]] 124)).grown hg5 (by simp [Value.ownBlock])
      have G2 := (F2.alloc (.cells #[.func (.func 85) #[] #[.pointer (some ⟨b2, 0, none⟩), .pointer (some ⟨b3, 0, none⟩)], .func (.func 60) #[] #[]] 124)).grown hg5 (by simp [Value.ownBlock])
      have G3 := (F3.alloc (.cells #[.func (.func 85) #[] #[.pointer (some ⟨b2, 0, none⟩), .pointer (some ⟨b3, 0, none⟩)], .func (.func 60) #[] #[]] 124)).grown hg5 (by simp [Value.ownBlock])
      have hb45 : Below w4.heap.size w4 w5 := grown_below ((Below.refl _ _).alloc (Nat.le_refl _) _) (by simp) hg5 (by simp [Value.ownBlock])
      have HD5 := hide (HD4.out.below hb45)
      have hbv := chain hbz hb45
      have hs45 := hb45.size
      obtain ⟨a5, c5, rfl, hc5, hm5, hr5, hl5⟩ := own_form hown5
      have HO5 := hide hown5
      have HLI5 := hide ((HL4.out).next hb45)
      clear hown5 hg5 hob5 hr5 hl5 hb45 hnb F0 F1 F2 F3 HL4 HD4 hbz D0 D1 D2 D3 HD3 hby hc5 hm5
      go_wp2_with fail
      go_meet
      refine ⟨[.write b2 b3 (f + p + 1) (ly.drop 64), .flush], a5, c5, rfl, ⟨HO5.out, ?_⟩, HA2.out hk2 b2 b3, G0, G1, G2, G3, HD5.out, hbv, by omega⟩
      intro t ht
      simp only [List.mem_cons, List.not_mem_nil, or_false] at ht
      rcases ht with rfl | rfl
      · exact HLI5.out
      · trivial
    · obtain rfl : kk = 1 := by omega
      go_wp2_with fail
      go_meet
      exact ⟨[], none, 0, rfl, ⟨World.ownsRow_nil _ _ _ _, by intro t ht; cases ht⟩, HA1.out trivial, D0, D1, D2, D3, HD3.out, hby, Nat.le_refl _⟩
  case rest =>
    obtain ⟨wx, rfl⟩ : ∃ wx, wx = wc := ⟨_, rfl⟩
    clear D0 D1 D2 D3 HD3 hby q0 q1 q2 q3 q4 q5 q6 q7 HA1 HA2
    obtain ⟨l, ao, c, rfl, hst, hAR, E0, E1, E2, E3, hde, hby, hsx⟩ := hcut
    have HST := hide hst
    have HAR := hide hAR
    have HDE := hide hde
    have hl2 := hAR.1
    obtain ⟨p0, p1, p2, p3, p4, p5, p6, p7⟩ := E0.four
    obtain ⟨q0, q1, q2, q3, q4, q5, q6, q7⟩ := E1.four
    have hlx1 := E1.lt
    have hlx0 := E0.lt
    have hlx3 := E3.lt
    have hcz1i : (64 : Int) ≤ (cv.size : Int) := by omega
    clear hst hAR hde
    go_wp2_with fail
    go_cut [13] (fun s13 wy => ∃ (X : Drv) (E : Int) (u1 : Option Addr) (r1 t1 : Nat) (u2 : Option Addr) (r2 t2 : Nat) (fy : Int) (oy : Bool), s13 = .int .i64 E ∧ d.append ⟨f, ln, p, sr⟩ s = (if (X, E).2 = 0 then ((X, E).1, ⟨f, ln, p + kOf s.length, sr + 1⟩, 0) else ((X, E).1, Tp.zero, (X, E).2)) ∧ Blk wy w.heap.size [.slice u1 r1 t1, .slice u2 r2 t2, .int .i64 fy, .bool oy] 44 ∧ IsDrive wy (.agg #[.slice u1 r1 t1, .slice u2 r2 t2, .int .i64 fy, .bool oy]) X ∧ Blk wy (w.heap.size + 1) [.int .i64 f, .int .i64 ln, .int .i64 p, .int .i64 sr] 63 ∧ Blk wy (w.heap.size + 1 + 1) [.slice none 0 0, .slice none 0 0, .int .i64 0, .bool false] 44 ∧ Blk wy (w.heap.size + 1 + 1 + 1) [.int .i64 0, .int .i64 0, .int .i64 0, .int .i64 0] 63 ∧ Below w.heap.size w wy)
    case first =>
      refine wp_region_noPanic ?_
      refine wp_region_held_drew (S := (fun _ => True)) (by kernel_rfl) trivial (fun hHeld => ?_)
      refine wpAnyH_take (i := 1) (v := ?_) rfl (by kernel_rfl) (by kernel_rfl) (by kernel_rfl) (fun _ _ _ h => h) (Or.inl ⟨by rfl, ?_⟩) (by assumption) ?_
      rotate_left 1
      · intro w hSw
        first | (go_simp; done) | (go_simp; with_reducible rfl)
      try simp only [Act.put, List.setIfInBounds_toArray]
      refine wpAnyH_take (i := 2) (v := ?_) rfl (by kernel_rfl) (by kernel_rfl) (by kernel_rfl) (fun _ _ _ h => h) (Or.inl ⟨by rfl, ?_⟩) (by assumption) ?_
      rotate_left 1
      · intro w hSw
        first | (go_simp; done) | (go_simp; with_reducible rfl)
      try simp only [Act.put]
      refine wpAnyH_take (i := 3) (v := ?_) rfl (by kernel_rfl) (by kernel_rfl) (by kernel_rfl) (fun _ _ _ h => h) (Or.inl ⟨by rfl, ?_⟩) (by assumption) ?_
      rotate_left 1
      · intro w hSw
        first | (go_simp; done) | (go_simp; with_reducible rfl)
      try simp only [Act.put]
      refine wpAnyH_take (i := 4) (v := ?_) rfl (by kernel_rfl) (by kernel_rfl) (by kernel_rfl) (fun _ _ _ h => h) (Or.inl ⟨by rfl, ?_⟩) (by assumption) ?_
      rotate_left 1
      · intro w hSw
        first | (go_simp; done) | (go_simp; with_reducible rfl)
      try simp only [Act.put]
      refine wpAnyH_ready (rs := [0, 5]) (by kernel_rfl) (by simp) ?_
      refine AllReadyH.cons rfl (fun K hK => ?_) (AllReadyH.cons rfl (fun K hK => ?_) AllReadyH.nil)
      · skip
        go_simp
        refine hK.out _ _ trivial (fun hHeld2 => ?_)
        clear hK K
        try simp only [Act.put, List.setIfInBounds_toArray, List.set_cons_zero, List.set_cons_succ]
        clear hHeld
        have hHeld := hHeld2
        clear hHeld2
        refine wpAnyH_ready (rs := [5]) (by kernel_rfl) (by simp) ?_
        refine AllReadyH.cons rfl (fun K hK => ?_) AllReadyH.nil
        go_simp
        go_at_call 59
        refine (HW2.out _).mono ?_
        rintro e w4 ⟨b2, b3, rfl, hl4, hb4⟩
        simp only [Stp.val]
        have hb4' := undrew1 hb4
        have hbq4 := hide hb4'
        have HL4 := hide hl4
        obtain ⟨p0, p1, p2, p3, p4, p5, p6, p7⟩ := (E0.next hb4').four
        have hl4a := (E0.next hb4').lt
        clear hl4 hb4 hb4'
        refine hK.out _ _ trivial (fun hHeld2 => ?_)
        clear hK K
        try simp only [Act.put, List.setIfInBounds_toArray, List.set_cons_zero, List.set_cons_succ]
        clear hHeld
        have hHeld := hHeld2
        clear hHeld2
        refine wpAnyH_ready (rs := [6]) (by kernel_rfl) (by simp) ?_
        refine AllReadyH.cons rfl (fun K hK => ?_) AllReadyH.nil
        go_simp
        refine hK.out _ _ trivial (fun hHeld2 => ?_)
        clear hK K
        try simp only [Act.put, List.setIfInBounds_toArray, List.set_cons_zero, List.set_cons_succ]
        clear hHeld
        have hHeld := hHeld2
        clear hHeld2
        refine wpAnyH_ready (rs := [7]) (by kernel_rfl) (by simp) ?_
        refine AllReadyH.cons rfl (fun K hK => ?_) AllReadyH.nil
        refine step_app (by rfl) (.tmp 63) (.tmp 68) 122 (by rfl) w3.heap.size 124 i0 .nilFunc 1 8 Tryz.underlying122 HIF.out.1 HIF.out.2.1 HIF.out.2.2.1 HIF.out.2.2.2 (by rfl) (by decide) (.slice ao l.length c) l.length (l.map Stp.val) (by rfl) ?q1_1 (some ⟨w4.heap.size, 0, none⟩) 2 2 [.func (.func 85) #[] #[.pointer (some ⟨b2, 0, none⟩), .pointer (some ⟨b3, 0, none⟩)], .func (.func 60) #[] #[]] (by rfl) (by rfl) ?q1_2 ?q1_3 ?q1_4 ?q1_5 ?q1_6 ?q1_7
        case q1_1 => exact ((own_below HST.out.own hbq4.out).alloc _)
        case q1_2 => exact (row_of_blk (Blk.new w4 _ _))
        case q1_3 => simp [Value.oneCell']
        case q1_4 => unfold maxLen; omega
        case q1_5 => omega
        case q1_6 => have := hbq4.out.size; simp; omega
        intro v5 w5 hown5 hg5 hob5
        obtain ⟨a5, c5, rfl, HS5, hb35⟩ := steps_grow HST.out hbq4.out HL4.out hsx hown5 hg5
        have hbw5 : Below w.heap.size w w5 := hby.trans (hb35.mono (by omega))
        have G0 := E0.below hb35 (by omega)
        have G1 := E1.below hb35 (by omega)
        have G2 := E2.below hb35 (by omega)
        have G3 := E3.below hb35 (by omega)
        have HD5 := hide (HI.out.below hbw5)
        clear hown5 hg5 hob5
        obtain ⟨p0, p1, p2, p3, p4, p5, p6, p7⟩ := G0.four
        refine hK.out _ _ trivial (fun hHeld2 => ?_)
        clear hK K
        try simp only [Act.put, List.setIfInBounds_toArray]
        clear hHeld
        have hHeld := hHeld2
        clear hHeld2
        refine wpAnyH_ready (rs := [8]) (by kernel_rfl) (by simp) ?_
        refine AllReadyH.cons rfl (fun K hK => ?_) AllReadyH.nil
        go_simp
        go_at_call 61
        refine (do_any _ d (l ++ [.write b2 b3 (f + p) (ly.take 64), .flush]) a5 (l.length + 2) c5 _ HD5.out (by have := HQ.out; omega) (own_row HS5.out.own) (by simp) (by omega) HS5.out.lies).mono ?_
        rintro e w6 ⟨v6, rfl, hd6, hb6⟩
        obtain ⟨⟨X, E⟩, hX⟩ : ∃ r, stepsRun (l ++ [.write b2 b3 (f + p) (ly.take 64), .flush]) d = r := ⟨_, rfl⟩
        rw [hX] at hd6 ⊢
        have HX := hide hX
        have HX6 := hide hd6
        clear hX
        obtain ⟨u1, r1, t1, u2, r2, t2, fy, oy, rfl, _⟩ := hd6
        unfold drvVal at HX6 ⊢
        have K0 := G0.next hb6
        have K1 := G1.next hb6
        have K2 := G2.next hb6
        have K3 := G3.next hb6
        have hbw6 := chain hbw5 hb6
        clear hb6 p0 p1 p2 p3 p4 p5 p6 p7
        obtain ⟨p0, p1, p2, p3, p4, p5, p6, p7⟩ := K0.four
        have hkl := K0.lt
        refine hK.out _ _ trivial (fun hHeld2 => ?_)
        clear hK K
        try simp only []
        clear hHeld
        have hHeld := hHeld2
        clear hHeld2
        refine wpAnyH_take (i := 9) (v := ?_) rfl (by kernel_rfl) (by kernel_rfl) (by kernel_rfl) (fun _ _ _ h => h) (Or.inl ⟨by rfl, ?_⟩) (by assumption) ?_
        rotate_left 1
        · intro w hSw
          first | (go_simp; done) | (go_simp; with_reducible rfl)
        try simp only [Act.put, List.setIfInBounds_toArray]
        refine wpAnyH_take (i := 10) (v := ?_) rfl (by kernel_rfl) (by kernel_rfl) (by kernel_rfl) (fun _ _ _ h => h) (Or.inl ⟨by rfl, ?_⟩) (by assumption) ?_
        rotate_left 1
        · intro w hSw
          first | (go_simp; done) | (go_simp; with_reducible rfl)
        try simp only [Act.put]
        refine wpAnyH_take (i := 11) (v := ?_) rfl (by kernel_rfl) (by kernel_rfl) (by kernel_rfl) (fun _ _ _ h => h) (Or.inl ⟨by rfl, ?_⟩) (by assumption) ?_
        rotate_left 1
        · intro w hSw
          first | (go_simp; done) | (go_simp; with_reducible rfl)
        try simp only [Act.put]
        refine wpAnyH_ready (rs := [12]) (by kernel_rfl) (by simp) ?_
        refine AllReadyH.cons rfl (fun K hK => ?_) AllReadyH.nil
        go_simp
        refine hK.out _ _ trivial (fun hHeld2 => ?_)
        clear hK K
        try simp only [Act.put, List.setIfInBounds_toArray, List.set_cons_zero, List.set_cons_succ]
        clear hHeld
        have hHeld := hHeld2
        clear hHeld2
        refine wpAnyH_take (i := 13) (v := ?_) rfl (by kernel_rfl) (by kernel_rfl) (by kernel_rfl) (fun _ _ _ h => h) (Or.inl ⟨by rfl, ?_⟩) (by assumption) ?_
        rotate_left 1
        · intro w hSw
          first | (go_simp; done) | (go_simp; with_reducible rfl)
        try simp only [Act.put, List.setIfInBounds_toArray]
        refine wpAnyH_done (by kernel_rfl) ?_ _
        refine NoPanic.normal ?_
        go_wp2_with fail
        go_meet
        exact ⟨X, E, u1, r1, t1, u2, r2, t2, fy, oy, rfl, by rw [HAR.out.2 b2 b3, HLYE.out, HX.out], K0.set4 _ _ _ _, HX6.out.set4 (blk_holds K0) _ _ _ _, K1.other4 (by omega) _ _ _ _, K2.other4 (by omega) _ _ _ _, K3.other4 (by omega) _ _ _ _, below4 hbw6 (Nat.le_refl _) _ _ _ _⟩
      · skip
        go_simp
        go_at_call 59
        refine (HW2.out _).mono ?_
        rintro e w4 ⟨b2, b3, rfl, hl4, hb4⟩
        simp only [Stp.val]
        have hb4' := undrew1 hb4
        have hbq4 := hide hb4'
        have HL4 := hide hl4
        obtain ⟨p0, p1, p2, p3, p4, p5, p6, p7⟩ := (E0.next hb4').four
        have hl4a := (E0.next hb4').lt
        clear hl4 hb4 hb4'
        refine hK.out _ _ trivial (fun hHeld2 => ?_)
        clear hK K
        try simp only [Act.put, List.setIfInBounds_toArray, List.set_cons_zero, List.set_cons_succ]
        clear hHeld
        have hHeld := hHeld2
        clear hHeld2
        refine wpAnyH_ready (rs := [0, 6]) (by kernel_rfl) (by simp) ?_
        refine AllReadyH.cons rfl (fun K hK => ?_) (AllReadyH.cons rfl (fun K hK => ?_) AllReadyH.nil)
        · skip
          go_simp
          refine hK.out _ _ trivial (fun hHeld2 => ?_)
          clear hK K
          try simp only [Act.put, List.setIfInBounds_toArray, List.set_cons_zero, List.set_cons_succ]
          clear hHeld
          have hHeld := hHeld2
          clear hHeld2
          refine wpAnyH_ready (rs := [6]) (by kernel_rfl) (by simp) ?_
          refine AllReadyH.cons rfl (fun K hK => ?_) AllReadyH.nil
          go_simp
          refine hK.out _ _ trivial (fun hHeld2 => ?_)
          clear hK K
          try simp only [Act.put, List.setIfInBounds_toArray, List.set_cons_zero, List.set_cons_succ]
          clear hHeld
          have hHeld := hHeld2
          clear hHeld2
          refine wpAnyH_ready (rs := [7]) (by kernel_rfl) (by simp) ?_
          refine AllReadyH.cons rfl (fun K hK => ?_) AllReadyH.nil
          refine step_app (by rfl) (.tmp 63) (.tmp 68) 122 (by rfl) w3.heap.size 124 i0 .nilFunc 1 8 Tryz.underlying122 HIF.out.1 HIF.out.2.1 HIF.out.2.2.1 HIF.out.2.2.2 (by rfl) (by decide) (.slice ao l.length c) l.length (l.map Stp.val) (by rfl) ?q2_1 (some ⟨w4.heap.size, 0, none⟩) 2 2 [.func (.func 85) #[] #[.pointer (some ⟨b2, 0, none⟩), .pointer (some ⟨b3, 0, none⟩)], .func (.func 60) #[] #[]] (by rfl) (by rfl) ?q2_2 ?q2_3 ?q2_4 ?q2_5 ?q2_6 ?q2_7
          case q2_1 => exact ((own_below HST.out.own hbq4.out).alloc _)
          case q2_2 => exact (row_of_blk (Blk.new w4 _ _))
          case q2_3 => simp [Value.oneCell']
          case q2_4 => unfold maxLen; omega
          case q2_5 => omega
          case q2_6 => have := hbq4.out.size; simp; omega
          intro v5 w5 hown5 hg5 hob5
          obtain ⟨a5, c5, rfl, HS5, hb35⟩ := steps_grow HST.out hbq4.out HL4.out hsx hown5 hg5
          have hbw5 : Below w.heap.size w w5 := hby.trans (hb35.mono (by omega))
          have G0 := E0.below hb35 (by omega)
          have G1 := E1.below hb35 (by omega)
          have G2 := E2.below hb35 (by omega)
          have G3 := E3.below hb35 (by omega)
          have HD5 := hide (HI.out.below hbw5)
          clear hown5 hg5 hob5
          obtain ⟨p0, p1, p2, p3, p4, p5, p6, p7⟩ := G0.four
          refine hK.out _ _ trivial (fun hHeld2 => ?_)
          clear hK K
          try simp only [Act.put, List.setIfInBounds_toArray]
          clear hHeld
          have hHeld := hHeld2
          clear hHeld2
          refine wpAnyH_ready (rs := [8]) (by kernel_rfl) (by simp) ?_
          refine AllReadyH.cons rfl (fun K hK => ?_) AllReadyH.nil
          go_simp
          go_at_call 61
          refine (do_any _ d (l ++ [.write b2 b3 (f + p) (ly.take 64), .flush]) a5 (l.length + 2) c5 _ HD5.out (by have := HQ.out; omega) (own_row HS5.out.own) (by simp) (by omega) HS5.out.lies).mono ?_
          rintro e w6 ⟨v6, rfl, hd6, hb6⟩
          obtain ⟨⟨X, E⟩, hX⟩ : ∃ r, stepsRun (l ++ [.write b2 b3 (f + p) (ly.take 64), .flush]) d = r := ⟨_, rfl⟩
          rw [hX] at hd6 ⊢
          have HX := hide hX
          have HX6 := hide hd6
          clear hX
          obtain ⟨u1, r1, t1, u2, r2, t2, fy, oy, rfl, _⟩ := hd6
          unfold drvVal at HX6 ⊢
          have K0 := G0.next hb6
          have K1 := G1.next hb6
          have K2 := G2.next hb6
          have K3 := G3.next hb6
          have hbw6 := chain hbw5 hb6
          clear hb6 p0 p1 p2 p3 p4 p5 p6 p7
          obtain ⟨p0, p1, p2, p3, p4, p5, p6, p7⟩ := K0.four
          have hkl := K0.lt
          refine hK.out _ _ trivial (fun hHeld2 => ?_)
          clear hK K
          try simp only []
          clear hHeld
          have hHeld := hHeld2
          clear hHeld2
          refine wpAnyH_take (i := 9) (v := ?_) rfl (by kernel_rfl) (by kernel_rfl) (by kernel_rfl) (fun _ _ _ h => h) (Or.inl ⟨by rfl, ?_⟩) (by assumption) ?_
          rotate_left 1
          · intro w hSw
            first | (go_simp; done) | (go_simp; with_reducible rfl)
          try simp only [Act.put, List.setIfInBounds_toArray]
          refine wpAnyH_take (i := 10) (v := ?_) rfl (by kernel_rfl) (by kernel_rfl) (by kernel_rfl) (fun _ _ _ h => h) (Or.inl ⟨by rfl, ?_⟩) (by assumption) ?_
          rotate_left 1
          · intro w hSw
            first | (go_simp; done) | (go_simp; with_reducible rfl)
          try simp only [Act.put]
          refine wpAnyH_take (i := 11) (v := ?_) rfl (by kernel_rfl) (by kernel_rfl) (by kernel_rfl) (fun _ _ _ h => h) (Or.inl ⟨by rfl, ?_⟩) (by assumption) ?_
          rotate_left 1
          · intro w hSw
            first | (go_simp; done) | (go_simp; with_reducible rfl)
          try simp only [Act.put]
          refine wpAnyH_ready (rs := [12]) (by kernel_rfl) (by simp) ?_
          refine AllReadyH.cons rfl (fun K hK => ?_) AllReadyH.nil
          go_simp
          refine hK.out _ _ trivial (fun hHeld2 => ?_)
          clear hK K
          try simp only [Act.put, List.setIfInBounds_toArray, List.set_cons_zero, List.set_cons_succ]
          clear hHeld
          have hHeld := hHeld2
          clear hHeld2
          refine wpAnyH_take (i := 13) (v := ?_) rfl (by kernel_rfl) (by kernel_rfl) (by kernel_rfl) (fun _ _ _ h => h) (Or.inl ⟨by rfl, ?_⟩) (by assumption) ?_
          rotate_left 1
          · intro w hSw
            first | (go_simp; done) | (go_simp; with_reducible rfl)
          try simp only [Act.put, List.setIfInBounds_toArray]
          refine wpAnyH_done (by kernel_rfl) ?_ _
          refine NoPanic.normal ?_
          go_wp2_with fail
          go_meet
          exact ⟨X, E, u1, r1, t1, u2, r2, t2, fy, oy, rfl, by rw [HAR.out.2 b2 b3, HLYE.out, HX.out], K0.set4 _ _ _ _, HX6.out.set4 (blk_holds K0) _ _ _ _, K1.other4 (by omega) _ _ _ _, K2.other4 (by omega) _ _ _ _, K3.other4 (by omega) _ _ _ _, below4 hbw6 (Nat.le_refl _) _ _ _ _⟩
        · skip
          go_simp
          refine hK.out _ _ trivial (fun hHeld2 => ?_)
          clear hK K
          try simp only [Act.put, List.setIfInBounds_toArray, List.set_cons_zero, List.set_cons_succ]
          clear hHeld
          have hHeld := hHeld2
          clear hHeld2
          refine wpAnyH_ready (rs := [0, 7]) (by kernel_rfl) (by simp) ?_
          refine AllReadyH.cons rfl (fun K hK => ?_) (AllReadyH.cons rfl (fun K hK => ?_) AllReadyH.nil)
          · skip
            go_simp
            refine hK.out _ _ trivial (fun hHeld2 => ?_)
            clear hK K
            try simp only [Act.put, List.setIfInBounds_toArray, List.set_cons_zero, List.set_cons_succ]
            clear hHeld
            have hHeld := hHeld2
            clear hHeld2
            refine wpAnyH_ready (rs := [7]) (by kernel_rfl) (by simp) ?_
            refine AllReadyH.cons rfl (fun K hK => ?_) AllReadyH.nil
            refine step_app (by rfl) (.tmp 63) (.tmp 68) 122 (by rfl) w3.heap.size 124 i0 .nilFunc 1 8 Tryz.underlying122 HIF.out.1 HIF.out.2.1 HIF.out.2.2.1 HIF.out.2.2.2 (by rfl) (by decide) (.slice ao l.length c) l.length (l.map Stp.val) (by rfl) ?q3_1 (some ⟨w4.heap.size, 0, none⟩) 2 2 [.func (.func 85) #[] #[.pointer (some ⟨b2, 0, none⟩), .pointer (some ⟨b3, 0, none⟩)], .func (.func 60) #[] #[]] (by rfl) (by rfl) ?q3_2 ?q3_3 ?q3_4 ?q3_5 ?q3_6 ?q3_7
            case q3_1 => exact ((own_below HST.out.own hbq4.out).alloc _)
            case q3_2 => exact (row_of_blk (Blk.new w4 _ _))
            case q3_3 => simp [Value.oneCell']
            case q3_4 => unfold maxLen; omega
            case q3_5 => omega
            case q3_6 => have := hbq4.out.size; simp; omega
            intro v5 w5 hown5 hg5 hob5
            obtain ⟨a5, c5, rfl, HS5, hb35⟩ := steps_grow HST.out hbq4.out HL4.out hsx hown5 hg5
            have hbw5 : Below w.heap.size w w5 := hby.trans (hb35.mono (by omega))
            have G0 := E0.below hb35 (by omega)
            have G1 := E1.below hb35 (by omega)
            have G2 := E2.below hb35 (by omega)
            have G3 := E3.below hb35 (by omega)
            have HD5 := hide (HI.out.below hbw5)
            clear hown5 hg5 hob5
            obtain ⟨p0, p1, p2, p3, p4, p5, p6, p7⟩ := G0.four
            refine hK.out _ _ trivial (fun hHeld2 => ?_)
            clear hK K
            try simp only [Act.put, List.setIfInBounds_toArray]
            clear hHeld
            have hHeld := hHeld2
            clear hHeld2
            refine wpAnyH_ready (rs := [8]) (by kernel_rfl) (by simp) ?_
            refine AllReadyH.cons rfl (fun K hK => ?_) AllReadyH.nil
            go_simp
            go_at_call 61
            refine (do_any _ d (l ++ [.write b2 b3 (f + p) (ly.take 64), .flush]) a5 (l.length + 2) c5 _ HD5.out (by have := HQ.out; omega) (own_row HS5.out.own) (by simp) (by omega) HS5.out.lies).mono ?_
            rintro e w6 ⟨v6, rfl, hd6, hb6⟩
            obtain ⟨⟨X, E⟩, hX⟩ : ∃ r, stepsRun (l ++ [.write b2 b3 (f + p) (ly.take 64), .flush]) d = r := ⟨_, rfl⟩
            rw [hX] at hd6 ⊢
            have HX := hide hX
            have HX6 := hide hd6
            clear hX
            obtain ⟨u1, r1, t1, u2, r2, t2, fy, oy, rfl, _⟩ := hd6
            unfold drvVal at HX6 ⊢
            have K0 := G0.next hb6
            have K1 := G1.next hb6
            have K2 := G2.next hb6
            have K3 := G3.next hb6
            have hbw6 := chain hbw5 hb6
            clear hb6 p0 p1 p2 p3 p4 p5 p6 p7
            obtain ⟨p0, p1, p2, p3, p4, p5, p6, p7⟩ := K0.four
            have hkl := K0.lt
            refine hK.out _ _ trivial (fun hHeld2 => ?_)
            clear hK K
            try simp only []
            clear hHeld
            have hHeld := hHeld2
            clear hHeld2
            refine wpAnyH_take (i := 9) (v := ?_) rfl (by kernel_rfl) (by kernel_rfl) (by kernel_rfl) (fun _ _ _ h => h) (Or.inl ⟨by rfl, ?_⟩) (by assumption) ?_
            rotate_left 1
            · intro w hSw
              first | (go_simp; done) | (go_simp; with_reducible rfl)
            try simp only [Act.put, List.setIfInBounds_toArray]
            refine wpAnyH_take (i := 10) (v := ?_) rfl (by kernel_rfl) (by kernel_rfl) (by kernel_rfl) (fun _ _ _ h => h) (Or.inl ⟨by rfl, ?_⟩) (by assumption) ?_
            rotate_left 1
            · intro w hSw
              first | (go_simp; done) | (go_simp; with_reducible rfl)
            try simp only [Act.put]
            refine wpAnyH_take (i := 11) (v := ?_) rfl (by kernel_rfl) (by kernel_rfl) (by kernel_rfl) (fun _ _ _ h => h) (Or.inl ⟨by rfl, ?_⟩) (by assumption) ?_
            rotate_left 1
            · intro w hSw
              first | (go_simp; done) | (go_simp; with_reducible rfl)
            try simp only [Act.put]
            refine wpAnyH_ready (rs := [12]) (by kernel_rfl) (by simp) ?_
            refine AllReadyH.cons rfl (fun K hK => ?_) AllReadyH.nil
            go_simp
            refine hK.out _ _ trivial (fun hHeld2 => ?_)
            clear hK K
            try simp only [Act.put, List.setIfInBounds_toArray, List.set_cons_zero, List.set_cons_succ]
            clear hHeld
            have hHeld := hHeld2
            clear hHeld2
            refine wpAnyH_take (i := 13) (v := ?_) rfl (by kernel_rfl) (by kernel_rfl) (by kernel_rfl) (fun _ _ _ h => h) (Or.inl ⟨by rfl, ?_⟩) (by assumption) ?_
            rotate_left 1
            · intro w hSw
              first | (go_simp; done) | (go_simp; with_reducible rfl)
            try simp only [Act.put, List.setIfInBounds_toArray]
            refine wpAnyH_done (by kernel_rfl) ?_ _
            refine NoPanic.normal ?_
            go_wp2_with fail
            go_meet
            exact ⟨X, E, u1, r1, t1, u2, r2, t2, fy, oy, rfl, by rw [HAR.out.2 b2 b3, HLYE.out, HX.out], K0.set4 _ _ _ _, HX6.out.set4 (blk_holds K0) _ _ _ _, K1.other4 (by omega) _ _ _ _, K2.other4 (by omega) _ _ _ _, K3.other4 (by omega) _ _ _ _, below4 hbw6 (Nat.le_refl _) _ _ _ _⟩
          · skip
            refine step_app (by rfl) (.tmp 63) (.tmp 68) 122 (by rfl) w3.heap.size 124 i0 .nilFunc 1 8 Tryz.underlying122 HIF.out.1 HIF.out.2.1 HIF.out.2.2.1 HIF.out.2.2.2 (by rfl) (by decide) (.slice ao l.length c) l.length (l.map Stp.val) (by rfl) ?q4_1 (some ⟨w4.heap.size, 0, none⟩) 2 2 [.func (.func 85) #[] #[.pointer (some ⟨b2, 0, none⟩), .pointer (some ⟨b3, 0, none⟩)], .func (.func 60) #[] #[]] (by rfl) (by rfl) ?q4_2 ?q4_3 ?q4_4 ?q4_5 ?q4_6 ?q4_7
            case q4_1 => exact ((own_below HST.out.own hbq4.out).alloc _)
            case q4_2 => exact (row_of_blk (Blk.new w4 _ _))
            case q4_3 => simp [Value.oneCell']
            case q4_4 => unfold maxLen; omega
            case q4_5 => omega
            case q4_6 => have := hbq4.out.size; simp; omega
            intro v5 w5 hown5 hg5 hob5
            obtain ⟨a5, c5, rfl, HS5, hb35⟩ := steps_grow HST.out hbq4.out HL4.out hsx hown5 hg5
            have hbw5 : Below w.heap.size w w5 := hby.trans (hb35.mono (by omega))
            have G0 := E0.below hb35 (by omega)
            have G1 := E1.below hb35 (by omega)
            have G2 := E2.below hb35 (by omega)
            have G3 := E3.below hb35 (by omega)
            have HD5 := hide (HI.out.below hbw5)
            clear hown5 hg5 hob5
            obtain ⟨p0, p1, p2, p3, p4, p5, p6, p7⟩ := G0.four
            refine hK.out _ _ trivial (fun hHeld2 => ?_)
            clear hK K
            try simp only [Act.put, List.setIfInBounds_toArray]
            clear hHeld
            have hHeld := hHeld2
            clear hHeld2
            refine wpAnyH_ready (rs := [0]) (by kernel_rfl) (by simp) ?_
            refine AllReadyH.cons rfl (fun K hK => ?_) AllReadyH.nil
            go_simp
            refine hK.out _ _ trivial (fun hHeld2 => ?_)
            clear hK K
            try simp only [Act.put, List.setIfInBounds_toArray, List.set_cons_zero, List.set_cons_succ]
            clear hHeld
            have hHeld := hHeld2
            clear hHeld2
            refine wpAnyH_ready (rs := [8]) (by kernel_rfl) (by simp) ?_
            refine AllReadyH.cons rfl (fun K hK => ?_) AllReadyH.nil
            go_simp
            go_at_call 61
            refine (do_any _ d (l ++ [.write b2 b3 (f + p) (ly.take 64), .flush]) a5 (l.length + 2) c5 _ HD5.out (by have := HQ.out; omega) (own_row HS5.out.own) (by simp) (by omega) HS5.out.lies).mono ?_
            rintro e w6 ⟨v6, rfl, hd6, hb6⟩
            obtain ⟨⟨X, E⟩, hX⟩ : ∃ r, stepsRun (l ++ [.write b2 b3 (f + p) (ly.take 64), .flush]) d = r := ⟨_, rfl⟩
            rw [hX] at hd6 ⊢
            have HX := hide hX
            have HX6 := hide hd6
            clear hX
            obtain ⟨u1, r1, t1, u2, r2, t2, fy, oy, rfl, _⟩ := hd6
            unfold drvVal at HX6 ⊢
            have K0 := G0.next hb6
            have K1 := G1.next hb6
            have K2 := G2.next hb6
            have K3 := G3.next hb6
            have hbw6 := chain hbw5 hb6
            clear hb6 p0 p1 p2 p3 p4 p5 p6 p7
            obtain ⟨p0, p1, p2, p3, p4, p5, p6, p7⟩ := K0.four
            have hkl := K0.lt
            refine hK.out _ _ trivial (fun hHeld2 => ?_)
            clear hK K
            try simp only []
            clear hHeld
            have hHeld := hHeld2
            clear hHeld2
            refine wpAnyH_take (i := 9) (v := ?_) rfl (by kernel_rfl) (by kernel_rfl) (by kernel_rfl) (fun _ _ _ h => h) (Or.inl ⟨by rfl, ?_⟩) (by assumption) ?_
            rotate_left 1
            · intro w hSw
              first | (go_simp; done) | (go_simp; with_reducible rfl)
            try simp only [Act.put, List.setIfInBounds_toArray]
            refine wpAnyH_take (i := 10) (v := ?_) rfl (by kernel_rfl) (by kernel_rfl) (by kernel_rfl) (fun _ _ _ h => h) (Or.inl ⟨by rfl, ?_⟩) (by assumption) ?_
            rotate_left 1
            · intro w hSw
              first | (go_simp; done) | (go_simp; with_reducible rfl)
            try simp only [Act.put]
            refine wpAnyH_take (i := 11) (v := ?_) rfl (by kernel_rfl) (by kernel_rfl) (by kernel_rfl) (fun _ _ _ h => h) (Or.inl ⟨by rfl, ?_⟩) (by assumption) ?_
            rotate_left 1
            · intro w hSw
              first | (go_simp; done) | (go_simp; with_reducible rfl)
            try simp only [Act.put]
            refine wpAnyH_ready (rs := [12]) (by kernel_rfl) (by simp) ?_
            refine AllReadyH.cons rfl (fun K hK => ?_) AllReadyH.nil
            go_simp
            refine hK.out _ _ trivial (fun hHeld2 => ?_)
            clear hK K
            try simp only [Act.put, List.setIfInBounds_toArray, List.set_cons_zero, List.set_cons_succ]
            clear hHeld
            have hHeld := hHeld2
            clear hHeld2
            refine wpAnyH_take (i := 13) (v := ?_) rfl (by kernel_rfl) (by kernel_rfl) (by kernel_rfl) (fun _ _ _ h => h) (Or.inl ⟨by rfl, ?_⟩) (by assumption) ?_
            rotate_left 1
            · intro w hSw
              first | (go_simp; done) | (go_simp; with_reducible rfl)
            try simp only [Act.put, List.setIfInBounds_toArray]
            refine wpAnyH_done (by kernel_rfl) ?_ _
            refine NoPanic.normal ?_
            go_wp2_with fail
            go_meet
            exact ⟨X, E, u1, r1, t1, u2, r2, t2, fy, oy, rfl, by rw [HAR.out.2 b2 b3, HLYE.out, HX.out], K0.set4 _ _ _ _, HX6.out.set4 (blk_holds K0) _ _ _ _, K1.other4 (by omega) _ _ _ _, K2.other4 (by omega) _ _ _ _, K3.other4 (by omega) _ _ _ _, below4 hbw6 (Nat.le_refl _) _ _ _ _⟩
    case rest =>
      obtain ⟨wy, rfl⟩ : ∃ wy, wy = wc := ⟨_, rfl⟩
      clear p0 p1 p2 p3 p4 p5 p6 p7 q0 q1 q2 q3 q4 q5 q6 q7 E0 E1 E2 E3
      obtain ⟨X, E, u1, r1, t1, u2, r2, t2, fy, oy, rfl, hap, K0, HXd, K1, K2, K3, hbw⟩ := hcut
      obtain ⟨b1, hb1'⟩ : ∃ b, w.heap.size + 1 = b := ⟨_, rfl⟩
      rw [hb1'] at K1 K2 K3 ⊢
      obtain ⟨b2, hb2'⟩ : ∃ b, b1 + 1 = b := ⟨_, rfl⟩
      rw [hb2'] at K2 K3 ⊢
      obtain ⟨b3, hb3'⟩ : ∃ b, b2 + 1 = b := ⟨_, rfl⟩
      rw [hb3'] at K3 ⊢
      have ho1 : w.heap.size < b1 := by omega
      have ho2 : b1 < b2 := by omega
      have ho3 : b2 < b3 := by omega
      have hn20 : b2 ≠ w.heap.size := by omega
      have hn30 : b3 ≠ w.heap.size := by omega
      have hn21 : b2 ≠ b1 := by omega
      have hn31 : b3 ≠ b1 := by omega
      have hn10 : b1 ≠ w.heap.size := by omega
      have hn32 : b3 ≠ b2 := by omega
      have hn02 : w.heap.size ≠ b2 := by omega
      have hn03 : w.heap.size ≠ b3 := by omega
      have hn12 : b1 ≠ b2 := by omega
      have hn13 : b1 ≠ b3 := by omega
      have hn01 : w.heap.size ≠ b1 := by omega
      have hn23 : b2 ≠ b3 := by omega
      clear hb1' hb2' hb3'
      have HXD := hide HXd
      have HAP := hide hap
      clear HXd hap
      obtain ⟨p0, p1, p2, p3, p4, p5, p6, p7⟩ := K0.four
      obtain ⟨q0, q1, q2, q3, q4, q5, q6, q7⟩ := K1.four
      obtain ⟨g0, g1, g2, g3, g4, g5, g6, g7⟩ := K2.four
      obtain ⟨k0, k1, k2, k3, k4, k5, k6, k7⟩ := K3.four
      have hl0 := K0.lt
      have hl1 := K1.lt
      have hl2 := K2.lt
      have hl3 := K3.lt
      by_cases hE : E = 0
      · subst hE
        have hap := HAP.out
        rw [if_pos rfl, HKK.out] at hap
        have HAQ := hide hap
        have hpk : p + (kk : Int) ≤ 6000 := by omega
        clear hap HAP
        obtain ⟨W7, hW7⟩ : ∃ W7, (wy.setCell ⟨b1, 2, none⟩ (.int .i64 (p + (kk : Int)))).setCell ⟨b1, 3, none⟩ (.int .i64 (sr + 1)) = W7 := ⟨_, rfl⟩
        have L0 : Blk W7 w.heap.size [.slice u1 r1 t1, .slice u2 r2 t2, .int .i64 fy, .bool oy] 44 := by rw [← hW7]; exact (K0.other (a := ⟨b1, 2, none⟩) hn01 _).other (a := ⟨b1, 3, none⟩) hn01 _
        have L1 : Blk W7 (b1) [.int .i64 f, .int .i64 ln, .int .i64 (p + (kk : Int)), .int .i64 (sr + 1)] 63 := by rw [← hW7]; exact (K1.set 2 _).set 3 _
        have L2 : Blk W7 (b2) [.slice none 0 0, .slice none 0 0, .int .i64 0, .bool false] 44 := by rw [← hW7]; exact (K2.other (a := ⟨b1, 2, none⟩) hn21 _).other (a := ⟨b1, 3, none⟩) hn21 _
        have L3 : Blk W7 (b3) [.int .i64 0, .int .i64 0, .int .i64 0, .int .i64 0] 63 := by rw [← hW7]; exact (K3.other (a := ⟨b1, 2, none⟩) hn31 _).other (a := ⟨b1, 3, none⟩) hn31 _
        have HX7 : Hid (IsDrive W7 (.agg #[.slice u1 r1 t1, .slice u2 r2 t2, .int .i64 fy, .bool oy]) X) := hide (by rw [← hW7]; exact HXD.out.tape23 K1 _ _)
        have hb7 : Below w.heap.size w W7 := by rw [← hW7]; exact (hbw.setCell (p := ⟨b1, 2, none⟩) (Nat.le_of_lt ho1) _).setCell (p := ⟨b1, 3, none⟩) (Nat.le_of_lt ho1) _
        have hl7 : b3 < W7.heap.size := L3.lt
        go_wp2_with fail
        clear hW7 p0 p1 p2 p3 p4 p5 p6 p7 q0 q1 q2 q3 q4 q5 q6 q7 g0 g1 g2 g3 g4 g5 g6 g7 k0 k1 k2 k3 k4 k5 k6 k7 K0 K1 K2 K3 HXD hbw hl0 hl1 hl2 hl3
        obtain ⟨p0, p1, p2, p3, p4, p5, p6, p7⟩ := L0.four
        obtain ⟨q0, q1, q2, q3, q4, q5, q6, q7⟩ := L1.four
        obtain ⟨g0, g1, g2, g3, g4, g5, g6, g7⟩ := L2.four
        obtain ⟨k0, k1, k2, k3, k4, k5, k6, k7⟩ := L3.four
        go_region_held3 (fun w' => w'.cell? ⟨w.heap.size, 0, none⟩ = some (.slice u1 r1 t1) ∧ w'.cell? ⟨w.heap.size, 1, none⟩ = some (.slice u2 r2 t2) ∧ w'.cell? ⟨w.heap.size, 2, none⟩ = some (.int .i64 fy) ∧ w'.cell? ⟨w.heap.size, 3, none⟩ = some (.bool oy) ∧ w'.cell? ⟨b1, 0, none⟩ = some (.int .i64 f) ∧ w'.cell? ⟨b1, 1, none⟩ = some (.int .i64 ln) ∧ w'.cell? ⟨b1, 2, none⟩ = some (.int .i64 (p + (kk : Int))) ∧ w'.cell? ⟨b1, 3, none⟩ = some (.int .i64 (sr + 1))) (go_keep) (fail)
        have hw8 : Below w.heap.size w ((((((((W7.setCell ⟨b2, 0, none⟩ (.slice u1 r1 t1)).setCell ⟨b2, 1, none⟩ (.slice u2 r2 t2)).setCell ⟨b2, 2, none⟩ (.int .i64 fy)).setCell ⟨b2, 3, none⟩ (.bool oy)).setCell ⟨b3, 0, none⟩ (.int .i64 f)).setCell ⟨b3, 1, none⟩ (.int .i64 ln)).setCell ⟨b3, 2, none⟩ (.int .i64 (p + (kk : Int)))).setCell ⟨b3, 3, none⟩ (.int .i64 (sr + 1))).drew := Below.drewed (below4 (below4 hb7 (by omega) _ _ _ _) (by omega) _ _ _ _)
        have M2 : Blk (((((((((W7.setCell ⟨b2, 0, none⟩ (.slice u1 r1 t1)).setCell ⟨b2, 1, none⟩ (.slice u2 r2 t2)).setCell ⟨b2, 2, none⟩ (.int .i64 fy)).setCell ⟨b2, 3, none⟩ (.bool oy)).setCell ⟨b3, 0, none⟩ (.int .i64 f)).setCell ⟨b3, 1, none⟩ (.int .i64 ln)).setCell ⟨b3, 2, none⟩ (.int .i64 (p + (kk : Int)))).setCell ⟨b3, 3, none⟩ (.int .i64 (sr + 1))).drew) b2 [.slice u1 r1 t1, .slice u2 r2 t2, .int .i64 fy, .bool oy] 44 := blk_drew ((L2.set4 _ _ _ _).other4 hn23 _ _ _ _)
        have M3 : Blk (((((((((W7.setCell ⟨b2, 0, none⟩ (.slice u1 r1 t1)).setCell ⟨b2, 1, none⟩ (.slice u2 r2 t2)).setCell ⟨b2, 2, none⟩ (.int .i64 fy)).setCell ⟨b2, 3, none⟩ (.bool oy)).setCell ⟨b3, 0, none⟩ (.int .i64 f)).setCell ⟨b3, 1, none⟩ (.int .i64 ln)).setCell ⟨b3, 2, none⟩ (.int .i64 (p + (kk : Int)))).setCell ⟨b3, 3, none⟩ (.int .i64 (sr + 1))).drew) b3 [.int .i64 f, .int .i64 ln, .int .i64 (p + (kk : Int)), .int .i64 (sr + 1)] 63 := blk_drew ((L3.other4 hn32 _ _ _ _).set4 _ _ _ _)
        have HX8 : Hid (IsDrive (((((((((W7.setCell ⟨b2, 0, none⟩ (.slice u1 r1 t1)).setCell ⟨b2, 1, none⟩ (.slice u2 r2 t2)).setCell ⟨b2, 2, none⟩ (.int .i64 fy)).setCell ⟨b2, 3, none⟩ (.bool oy)).setCell ⟨b3, 0, none⟩ (.int .i64 f)).setCell ⟨b3, 1, none⟩ (.int .i64 ln)).setCell ⟨b3, 2, none⟩ (.int .i64 (p + (kk : Int)))).setCell ⟨b3, 3, none⟩ (.int .i64 (sr + 1))).drew) (.agg #[.slice u1 r1 t1, .slice u2 r2 t2, .int .i64 fy, .bool oy]) X) := hide (((HX7.out.set4 (blk_holds L2) _ _ _ _).set4t (L3.other4 hn32 _ _ _ _) _ _ _ _).below (Below.drewed (Below.refl _ _)))
        obtain ⟨W8, hW8⟩ : ∃ W8, (((((((((W7.setCell ⟨b2, 0, none⟩ (.slice u1 r1 t1)).setCell ⟨b2, 1, none⟩ (.slice u2 r2 t2)).setCell ⟨b2, 2, none⟩ (.int .i64 fy)).setCell ⟨b2, 3, none⟩ (.bool oy)).setCell ⟨b3, 0, none⟩ (.int .i64 f)).setCell ⟨b3, 1, none⟩ (.int .i64 ln)).setCell ⟨b3, 2, none⟩ (.int .i64 (p + (kk : Int)))).setCell ⟨b3, 3, none⟩ (.int .i64 (sr + 1))).drew) = W8 := ⟨_, rfl⟩
        rw [hW8] at hw8 M2 M3 HX8 ⊢
        clear hW8 hn20 hn30 hn21 hn31 hn10 hn32 hn02 hn03 hn12 hn13 hn01 hn23 p0 p1 p2 p3 p4 p5 p6 p7 q0 q1 q2 q3 q4 q5 q6 q7 g0 g1 g2 g3 g4 g5 g6 g7 k0 k1 k2 k3 k4 k5 k6 k7 L0 L1 L2 L3 HX7 hb7
        obtain ⟨g0, g1, g2, g3, g4, g5, g6, g7⟩ := M2.four
        obtain ⟨k0, k1, k2, k3, k4, k5, k6, k7⟩ := M3.four
        go_wp2_with fail
        rw [HAQ.out]
        exact bodyPost_ret (v := .tuple #[.agg #[.slice u1 r1 t1, .slice u2 r2 t2, .int .i64 fy, .bool oy], .agg #[.int .i64 f, .int .i64 ln, .int .i64 (p + (kk : Int)), .int .i64 (sr + 1)], .int .i64 0]) (by simp [results, Tryz.results29, go_sem, g0, g1, g2, g3, k0, k1, k2, k3]) rfl ⟨_, rfl, HX8.out, hw8⟩
      · have hap := HAP.out
        rw [if_neg hE] at hap
        have HAQ := hide hap
        have hEd : decide (E = 0) = false := decide_eq_false hE
        have hEb : (E != 0) = true := by rw [bne_iff_ne]; exact hE
        clear hap HAP hE
        go_wp2_with fail
        rw [HAQ.out]
        refine bodyPost_ret (v := .tuple #[.agg #[.slice u1 r1 t1, .slice u2 r2 t2, .int .i64 fy, .bool oy], .agg #[.int .i64 0, .int .i64 0, .int .i64 0, .int .i64 0], .int .i64 E]) (by simp [results, Tryz.results29, go_sem, g0, g1, g2, g3, k0, k1, k2, k3]) rfl ⟨_, rfl, (HXD.out.set4 (blk_holds K2) _ _ _ _).set4t (K3.other4 (by omega) _ _ _ _) _ _ _ _, ?_⟩
        exact below4 (below4 hbw (by omega) _ _ _ _) (by omega) _ _ _ _

/-- log.Append. -/
theorem append_any (v : Value) (d : Drv) (t : Tp) (s : List UInt8) (w : World) (h : IsDrive w v d) (ht : t.In) (hq : d.queue.length ≤ 1000) (hs : s.length < 9223372036854775808) :
    Calls Tryz.prog 29 #[v, tpVal t, .string (bs s)] w fun e w' => ∃ v', e = .returned (.tuple #[v', tpVal (d.append t s).2.1, .int .i64 (d.append t s).2.2]) ∧ IsDrive w' v' (d.append t s).1 ∧ Below w.heap.size w w' := by
  by_cases hok : tapeOk d t = true ∧ s.length ≤ 4000 ∧ (kOf s.length : Int) ≤ t.len - t.pos ∧ t.serial ≤ 16777215
  · exact append_good v d t s w h ht hq hok.1 hok.2.1 hok.2.2.1 hok.2.2.2
  · exact append_bad v d t s w h ht hs hok

end Go.Proofs.YtogonkoeginoaaaGreatDoor
