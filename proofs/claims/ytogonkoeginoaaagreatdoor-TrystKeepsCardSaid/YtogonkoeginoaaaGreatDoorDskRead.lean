/-
  The walk through disk.Read.
-/
import Derived.Test.YtogonkoeginoaaaGreatDoorDskNew
namespace Go.Proofs.YtogonkoeginoaaaGreatDoor
open Go.RowKit

/-- A stretch of a list, where one of its cells is set. -/
theorem window_in {α : Type} (l : List α) (a n p : Nat) (x : α) (h1 : a ≤ p) : ((l.set p x).drop a).take n = ((l.drop a).take n).set (p - a) x := by
  rw [List.drop_set, if_neg (by omega), List.take_set]
theorem window_out {α : Type} (l : List α) (a n p : Nat) (x : α) (h : p < a ∨ a + n ≤ p) : ((l.set p x).drop a).take n = (l.drop a).take n := by
  rw [List.drop_set]
  rcases h with h | h
  · rw [if_pos h]
  · rw [if_neg (by omega), List.take_set]
    exact List.set_eq_of_length_le (by rw [List.length_take]; omega)

theorem puts_mem {cs : List (List UInt8)} {q : List Wt} (hc : ∀ c ∈ cs, c.length = 64) (hq : ∀ w ∈ q, w.s.length = 64) : ∀ c ∈ puts cs q, c.length = 64 := by
  induction q generalizing cs with
  | nil => exact hc
  | cons w q ih =>
    refine ih (cs := cs.set w.pos.toNat w.s) ?_ (fun x hx => hq x (by simp [hx]))
    intro c h
    rcases List.mem_or_eq_of_mem_set h with h | rfl
    · exact hc c h
    · exact hq w (by simp)
theorem full_mem {d : Drv} (h : d.May) : ∀ c ∈ d.full, c.length = 64 := puts_mem h.cell fun w hw => (h.wait w hw).2.2

theorem flatten_64 (l : List (List UInt8)) (h : ∀ c ∈ l, c.length = 64) : l.flatten.length = 64 * l.length := by
  induction l with
  | nil => rfl
  | cons c l ih =>
    rw [List.flatten_cons, List.length_append, h c (by simp), ih (fun x hx => h x (by simp [hx])), List.length_cons]
    omega

theorem join_empty (xs : List (List UInt8)) : Lib.join xs [] = xs.flatten := by
  induction xs with
  | nil => rfl
  | cons x xs ih =>
    cases xs with
    | nil => simp [Lib.join, List.intercalate]
    | cons y r =>
      unfold Lib.join at ih ⊢
      simp [List.intercalate] at ih ⊢
      exact ih

/-- strings.Join with nothing between, of an owned row. -/
theorem join_own {w : World} {base g n c : Nat} {xs : List (List UInt8)} (h : w.ownsRow base 9 1 (.slice (some ⟨g, 0, none⟩) n c) n (strVals xs)) (hn : n ≤ 6000) (hx : ∀ x ∈ xs, x.length = 64) :
    Calls Tryz.prog 63 #[.slice (some ⟨g, 0, none⟩) n c, .string ⟨#[]⟩] w fun e w' => e = .returned (.string (bs xs.flatten)) ∧ Below w.heap.size w w' := by
  have hl : xs.length = n := by have := h.1; rw [strVals_length] at this; omega
  subst hl
  by_cases h0 : xs.length = 0
  · have : xs = [] := List.eq_nil_of_length_eq_zero h0
    subst this
    refine (Tryz.strings_Join_none _ _ _ _).mono ?_
    rintro e w' ⟨rfl, rfl⟩
    exact ⟨rfl, Below.refl _ _⟩
  · have e1 : ((xs.map bs).map (·.data.toList)) = xs := by rw [List.map_map]; simp [Function.comp_def, bs_data]
    have hfl := flatten_64 xs hx
    have hj := Tryz.strings_Join g 0 c (xs.map bs) ⟨#[]⟩ w (by
      intro j x hjx
      have := h.cellAt j (by
        have := (List.getElem?_eq_some_iff.1 hjx).1
        simp at this; omega)
      have e2 : strVals xs = (xs.map bs).map Value.string := by simp [strVals]
      rw [Nat.zero_add, this, e2, List.getElem?_map, hjx]
      rfl) (h.lt g rfl).2 (by simp; omega) (by
        rcases h.2 with ⟨h3, _⟩ | ⟨g', cap', cur, h3, _, _, hnc, _⟩
        · simp at h3
        · simp only [Value.slice.injEq] at h3; simp; omega) (by rw [e1, join_empty, hfl]; omega)
    rw [e1, join_empty, List.length_map] at hj
    exact hj

/-- The window of d's cells after j of the waiting writes. -/
def win (d : Drv) (a n j : Nat) : List (List UInt8) := ((puts d.cells (d.queue.take j)).drop a).take n
theorem win_length (d : Drv) (a n j : Nat) (h : a + n ≤ d.cells.length) : (win d a n j).length = n := by
  unfold win
  rw [List.length_take, List.length_drop, puts_length]
  omega
theorem win_in (d : Drv) (a n j : Nat) (h : j < d.queue.length) (hp : a ≤ (d.queue.getD j ⟨0, []⟩).pos.toNat) : win d a n (j + 1) = (win d a n j).set ((d.queue.getD j ⟨0, []⟩).pos.toNat - a) (d.queue.getD j ⟨0, []⟩).s := by
  unfold win
  rw [puts_take _ _ _ h, window_in _ _ _ _ _ hp]
theorem win_out (d : Drv) (a n j : Nat) (h : j < d.queue.length) (hp : (d.queue.getD j ⟨0, []⟩).pos.toNat < a ∨ a + n ≤ (d.queue.getD j ⟨0, []⟩).pos.toNat) : win d a n (j + 1) = win d a n j := by
  unfold win
  rw [puts_take _ _ _ h, window_out _ _ _ _ _ hp]

/-- A part of a row of strings. -/
theorem row_part {w : World} {b o n1 : Nat} {xs : List (List UInt8)} (h : Strs w (some ⟨b, o, none⟩) n1 xs) (a n c : Nat) (hc : n1 ≤ c) (hn : a + n ≤ n1) : Row w (if c = a then some ⟨b, o, none⟩ else some ⟨b, o + a, none⟩) (strVals ((xs.drop a).take n)) := by
  by_cases h0 : c = a
  · have : n = 0 := by omega
    subst this
    exact .inl (by simp [strVals])
  · rw [if_neg h0]
    refine .inr ⟨b, o + a, rfl, fun j v hj => ?_⟩
    rcases h.row with hr | ⟨b', o', e, hc'⟩
    · exfalso
      have h1 := strVals_length xs
      rw [hr, h.len] at h1
      have h2 := (List.getElem?_eq_some_iff.1 hj).1
      rw [strVals_length, List.length_take] at h2
      simp at h1
      omega
    · simp only [Option.some.injEq, Addr.mk.injEq, and_true] at e
      obtain ⟨rfl, rfl⟩ := e
      rw [Nat.add_assoc]
      refine hc' (a + j) v ?_
      have h2 := (List.getElem?_eq_some_iff.1 hj).1
      rw [strVals_length, List.length_take] at h2
      simp only [strVals, List.map_take, List.map_drop] at hj ⊢
      rw [List.getElem?_take, if_pos (by omega), List.getElem?_drop] at hj
      exact hj

set_option maxRecDepth 100000 in
set_option maxHeartbeats 3200000 in
theorem read_main (b1 o1 : Nat) (a2 : Option Addr) (n1 c1 n2 c2 : Nat) (fuel : Int) (d : Drv) (a n : Nat) (w : World) (h : DriveAt w (some ⟨b1, o1, none⟩) n1 c1 a2 n2 c2 fuel false d) (hmay : d.May) (hth : a + n ≤ n1) :
    Calls Tryz.prog 31 #[.agg #[.slice (some ⟨b1, o1, none⟩) n1 c1, .slice a2 n2 c2, .int .i64 fuel, .bool false], .int .i64 (a : Int), .int .i64 (n : Int)] w fun e w' => e = .returned (.tuple #[.string (bs ((d.full.drop a).take n).flatten), .int .i64 0]) ∧ Below w.heap.size w w' := by
  obtain ⟨i0, hi, hz0, hz1, hz2⟩ := info_parts info_str
  have HD := hide h
  have HM := hide (fun w => may_any (.agg #[.slice (some ⟨b1, o1, none⟩) n1 c1, .slice a2 n2 c2, .int .i64 fuel, .bool false]) d w)
  rw [d.mayB_iff.2 hmay] at HM
  have hN : d.cells.length = n1 := h.cells.len
  have hQ : d.queue.length = n2 := h.queue.len
  have hn6 : n1 ≤ 6000 := by rw [← hN]; exact hmay.most
  have hn2 : n2 ≤ 9223372036854775807 := by have := h.room2; omega
  have hc2 : n2 ≤ c2 := h.room2.1
  have hc1 := h.room1
  have HMAY := hide hmay
  have HN := hide (And.intro hN hQ)
  have HT := hide (fun w => there_any (some ⟨b1, o1, none⟩) a2 n1 c1 n2 c2 fuel false a n w (by omega) (by omega) (by omega))
  have hdt : decide (0 ≤ (a : Int) ∧ 0 ≤ (n : Int) ∧ (a : Int) ≤ n1 ∧ (n : Int) ≤ n1 - a) = true := decide_eq_true (by omega)
  rw [hdt] at HT
  have HX := hide hth
  clear h hmay hN hQ hdt
  have hth : a + n ≤ n1 := HX.out
  obtain ⟨sp, hsp⟩ : ∃ sp, (if c1 = a then (some ⟨b1, o1, none⟩ : Option Addr) else some ⟨b1, o1 + a, none⟩) = sp := ⟨_, rfl⟩
  go_enter Tryz.func31, Tryz.ntmps31
  go_wp2_with fail
  refine (HM.out _ ((HD.out.below ((Below.refl _ _).alloc (Nat.le_refl _) _)).is)).mono ?_
  rintro e w1 ⟨rfl, hb1⟩
  have B0 := (Blk.new w [.slice (some ⟨b1, o1, none⟩) n1 c1, .slice a2 n2 c2, .int .i64 fuel, .bool false] 44).next hb1
  have hbw : Below w.heap.size w w1 := ((Below.refl _ _).alloc (Nat.le_refl _) _).trans (hb1.mono (by simp))
  obtain ⟨p0, p1, p2, p3, p4, p5, p6, p7⟩ := B0.four
  clear hb1
  go_wp2_with fail
  refine (HT.out _).mono ?_
  rintro e w2 ⟨rfl, hb2⟩
  clear p0 p1 p2 p3 p4 p5 p6 p7
  have C0 := B0.next hb2
  have hbw2 := chain hbw hb2
  obtain ⟨p0, p1, p2, p3, p4, p5, p6, p7⟩ := C0.four
  clear B0 hb2 hbw
  go_wp2_with (refine wpList_make_full _ rfl _ _ 32 rfl w2.heap.size 9 i0 (.string ⟨#[]⟩) 1 Tryz.underlying32 hi hz0 hz1 _ _ _ _ n rfl rfl rfl rfl ?c1 ?c2 ?c3 ?_)
  case c1 => rw [hz2]; omega
  case c2 => unfold maxLen; omega
  case c3 => simp
  intro w3 hown hgrow
  clear p0 p1 p2 p3 p4 p5 p6 p7
  have D0 := C0.grown hgrow (by simp)
  have hbw3 := hbw2.grown hgrow hbw2.size (by simp)
  have hgw := C0.lt
  obtain ⟨p0, p1, p2, p3, p4, p5, p6, p7⟩ := D0.four
  have HRP : Row w3 sp (strVals ((d.cells.drop a).take n)) := by rw [← hsp]; exact row_part (HD.out.cells.below hbw3) a n c1 hc1.1 hth
  clear hgrow C0 hbw2
  go_wp2_with (refine wpList_copy_all rfl _ _ 32 32 rfl 9 1 Tryz.underlying32 cells_str w2.heap.size 9 _ _ _ _ _ _ _ rfl rfl ?d0 hown (strVals ((d.cells.drop a).take n)) ?d1 HRP (strVals_one _) ?_)
  case d0 => omega
  case d1 => rw [strVals_length, List.length_take, List.length_drop, HN.out.1]; omega
  intro w4 hown2 hgrow2
  clear p0 p1 p2 p3 p4 p5 p6 p7
  have hwin : (d.cells.drop a).take n = win d a n 0 := rfl
  rw [hwin] at hown2
  have E0 := D0.grown hgrow2 (by intro h; injection h with h; omega)
  have hbw4 := hbw3.grown hgrow2 hbw3.size (by rintro k h; injection h with h; omega)
  obtain ⟨p0, p1, p2, p3, p4, p5, p6, p7⟩ := E0.four
  clear hgrow2 hown D0 hbw3 hwin
  go_wp2_with fail
  clear p0 p1 p2 p3 p4 p5 p6 p7
  go_loopw [10, 35] (fun _ i wr => ∃ j : Nat, j ≤ n2 ∧ i = .int .i64 j ∧ wr.ownsRow w2.heap.size 9 1 (.slice (some ⟨w2.heap.size, 0, none⟩) n n) n (strVals (win d a n j)) ∧ Below w2.heap.size w4 wr) (fun _ i _ => n2 - (intOf i).toNat)
  case atStart => exact ⟨0, Nat.zero_le _, rfl, hown2, Below.refl _ _⟩
  case round =>
    obtain ⟨j, hj, rfl, ho, hbr⟩ := hrel
    have hbwr : Below w.heap.size w wr := hbw4.trans (hbr.mono (by omega))
    by_cases hjt : j < n2
    · obtain ⟨b, o, hb, hix, hcp, hcs⟩ := (HD.out.queue.below hbwr).at c2 j hjt
      have hw := HMAY.out.wait _ (getD_mem d.queue j ⟨0, []⟩ (by rw [HN.out.2]; exact hjt))
      have hwi := win_in d a n j (by rw [HN.out.2]; exact hjt)
      have hwo := win_out d a n j (by rw [HN.out.2]; exact hjt)
      obtain ⟨x, hx⟩ : ∃ x, d.queue.getD j ⟨0, []⟩ = x := ⟨_, rfl⟩
      rw [hx] at hcp hcs hw hwi hwo
      obtain ⟨pos, l⟩ := x
      obtain ⟨hw0, hw1, _⟩ := hw
      rw [HN.out.1] at hw1
      simp only at hcp hcs hw0 hw1 hwi hwo
      obtain ⟨p, rfl⟩ := Int.eq_ofNat_of_zero_le hw0
      rw [Int.toNat_natCast] at hwi hwo
      have hp1 : p < n1 := by omega
      have hglt : w2.heap.size < wr.heap.size := (ho.lt w2.heap.size rfl).2
      clear hx hw0 hw1
      by_cases hin : a ≤ p ∧ p < a + n
      · obtain ⟨hin1, hin2⟩ := hin
        have hs := ho.stored (p - a) (.string (bs l))
        rw [strVals_set, ← hwi hin1] at hs
        have hs1 := hide hs.1
        obtain ⟨vc, hvc⟩ : ∃ v, wr.cell? ⟨w2.heap.size, p - a, none⟩ = some v := by
          rw [ho.cellAt (p - a) (by omega)]
          exact ⟨_, List.getElem?_eq_getElem (by rw [ho.1]; omega)⟩
        have hvf := ho.frozenAt (p - a)
        obtain ⟨s, hsl⟩ : ∃ s, bs l = s := ⟨_, rfl⟩
        rw [hsl] at hcs hs1
        clear hs hsl ho hwi hwo
        go_wp2_with fail
        go_roundw
        case rel => exact ⟨j + 1, by omega, by go_num, hs1.out.alloc _, (hbr.setCell (p := ⟨w2.heap.size, p - a, none⟩) (Nat.le_refl _) _).alloc (by simp; omega) _⟩
        case measure => simp [intOf]; omega
      · have hout : p < a ∨ a + n ≤ p := by omega
        have ho2 := hide ho
        have hwo2 := hide (hwo hout)
        clear hin ho hwi hwo
        rcases hout with hout | hout
        all_goals
          go_wp2_with fail
          go_roundw
          case rel => exact ⟨j + 1, by omega, by go_num, by rw [hwo2.out]; exact ho2.out.alloc _, hbr.alloc (by omega) _⟩
          case measure => simp [intOf]; omega
    · obtain rfl : j = n2 := by omega
      have hwf : win d a n j = (d.full.drop a).take n := by
        unfold win Drv.full
        rw [List.take_of_length_le (l := d.queue) (by rw [HN.out.2]; exact Nat.le_refl _)]
      rw [hwf] at ho
      have hmem : ∀ x ∈ (d.full.drop a).take n, x.length = 64 := fun x hx => full_mem HMAY.out x (List.mem_of_mem_drop (List.mem_of_mem_take hx))
      have HJ := hide (join_own ho (by omega) hmem)
      obtain ⟨s, hsl⟩ : ∃ s, bs ((d.full.drop a).take n).flatten = s := ⟨_, rfl⟩
      rw [hsl] at HJ
      have HS := hide hsl
      clear hwf hmem hsl ho
      go_wp2_with fail
      refine HJ.out.mono ?_
      rintro e w5 ⟨rfl, hb5⟩
      go_wp2_with fail
      go_ret2
      rw [HS.out]
      exact ⟨rfl, chain hbwr hb5⟩

set_option maxRecDepth 100000 in
set_option maxHeartbeats 1600000 in
theorem read_run (a1 a2 : Option Addr) (n1 c1 n2 c2 : Nat) (fuel : Int) (off : Bool) (d : Drv) (at_ n : Int) (w : World) (h : DriveAt w a1 n1 c1 a2 n2 c2 fuel off d) (hat : -9223372036854775808 ≤ at_ ∧ at_ < 9223372036854775808) (hn : -9223372036854775808 ≤ n ∧ n < 9223372036854775808) :
    Calls Tryz.prog 31 #[.agg #[.slice a1 n1 c1, .slice a2 n2 c2, .int .i64 fuel, .bool off], .int .i64 at_, .int .i64 n] w fun e w' => e = .returned (.tuple #[.string (bs (d.read at_ n).1), .int .i64 (d.read at_ n).2]) ∧ Below w.heap.size w w' := by
  have HM := hide (fun w => may_any (.agg #[.slice a1 n1 c1, .slice a2 n2 c2, .int .i64 fuel, .bool off]) d w)
  have HT := hide (fun w => there_any a1 a2 n1 c1 n2 c2 fuel off at_ n w (by have := h.room1; omega) hat hn)
  have hth : d.there at_ n = decide (0 ≤ at_ ∧ 0 ≤ n ∧ at_ ≤ n1 ∧ n ≤ n1 - at_) := by unfold Drv.there; rw [h.cells.len]
  rw [← hth] at HT
  have e0 : bs [] = ⟨#[]⟩ := rfl
  cases hm : d.mayB with
  | false =>
    have HR : Hid (d.read at_ n = ([], 1)) := hide (by unfold Drv.read; rw [if_pos hm])
    rw [hm] at HM
    have HD := hide h
    clear h hm hth HT hat hn
    go_enter Tryz.func31, Tryz.ntmps31
    go_wp2_with fail
    refine (HM.out _ ((HD.out.below ((Below.refl _ _).alloc (Nat.le_refl _) _)).is)).mono ?_
    rintro e w1 ⟨rfl, hb1⟩
    go_wp2_with fail
    go_ret2
    rw [HR.out]
    exact ⟨rfl, ((Below.refl _ _).alloc (Nat.le_refl _) _).trans (hb1.mono (by simp))⟩
  | true =>
    cases ht : d.there at_ n with
    | false =>
      have HR : Hid (d.read at_ n = ([], 12)) := hide (by unfold Drv.read; rw [if_neg (by rw [hm]; decide), if_pos ht])
      rw [hm] at HM
      rw [ht] at HT
      have HD := hide h
      clear h hm hth ht hat hn
      go_enter Tryz.func31, Tryz.ntmps31
      go_wp2_with fail
      refine (HM.out _ ((HD.out.below ((Below.refl _ _).alloc (Nat.le_refl _) _)).is)).mono ?_
      rintro e w1 ⟨rfl, hb1⟩
      have B0 := (Blk.new w [.slice a1 n1 c1, .slice a2 n2 c2, .int .i64 fuel, .bool off] 44).next hb1
      have hbw : Below w.heap.size w w1 := ((Below.refl _ _).alloc (Nat.le_refl _) _).trans (hb1.mono (by simp))
      obtain ⟨p0, p1, p2, p3, p4, p5, p6, p7⟩ := B0.four
      clear hb1 B0
      go_wp2_with fail
      refine (HT.out _).mono ?_
      rintro e w2 ⟨rfl, hb2⟩
      go_wp2_with fail
      go_ret2
      rw [HR.out]
      exact ⟨rfl, chain hbw hb2⟩
    | true =>
      have hth2 := hth
      rw [ht] at hth2
      have hth3 := of_decide_eq_true hth2.symm
      cases hoff : off with
      | true =>
        subst hoff
        have HR : Hid (d.read at_ n = ([], 10)) := hide (by unfold Drv.read; rw [if_neg (by rw [hm]; decide), if_neg (by rw [ht]; decide), if_pos h.off_eq])
        rw [hm] at HM
        rw [ht] at HT
        have HD := hide h
        clear h hm hth ht hth2 hth3 hat hn
        go_enter Tryz.func31, Tryz.ntmps31
        go_wp2_with fail
        refine (HM.out _ ((HD.out.below ((Below.refl _ _).alloc (Nat.le_refl _) _)).is)).mono ?_
        rintro e w1 ⟨rfl, hb1⟩
        have B0 := (Blk.new w [.slice a1 n1 c1, .slice a2 n2 c2, .int .i64 fuel, .bool true] 44).next hb1
        have hbw : Below w.heap.size w w1 := ((Below.refl _ _).alloc (Nat.le_refl _) _).trans (hb1.mono (by simp))
        obtain ⟨p0, p1, p2, p3, p4, p5, p6, p7⟩ := B0.four
        clear hb1
        go_wp2_with fail
        refine (HT.out _).mono ?_
        rintro e w2 ⟨rfl, hb2⟩
        clear p0 p1 p2 p3 p4 p5 p6 p7
        obtain ⟨p0, p1, p2, p3, p4, p5, p6, p7⟩ := (B0.next hb2).four
        clear B0
        go_wp2_with fail
        go_ret2
        rw [HR.out]
        exact ⟨rfl, chain hbw hb2⟩
      | false =>
        subst hoff
        have hmay := d.mayB_iff.1 hm
        have hlen := h.cells.len
        have hne : 1 ≤ n1 := by rw [← hlen]; exact hmay.some
        have hrow := h.cells.row
        rcases hrow with hr | ⟨b1, o1, rfl, _⟩
        · have := strVals_length d.cells; rw [hr, hlen] at this; simp at this; omega
        · obtain ⟨x0, x1, x2, x3⟩ := hth3
          obtain ⟨a, rfl⟩ := Int.eq_ofNat_of_zero_le x0
          obtain ⟨m, rfl⟩ := Int.eq_ofNat_of_zero_le x1
          have HR : d.read a m = ((((d.full).drop a).take m).flatten, 0) := by
            unfold Drv.read
            rw [if_neg (by rw [hm]; decide), if_neg (by rw [ht]; decide), if_neg (by rw [h.off_eq]; decide)]
            rfl
          rw [HR]
          exact read_main b1 o1 a2 n1 c1 n2 c2 fuel d a m w h hmay (by omega)

/-- disk.Read. -/
theorem read_any (v : Value) (d : Drv) (at_ n : Int) (w : World) (h : IsDrive w v d) (hat : -9223372036854775808 ≤ at_ ∧ at_ < 9223372036854775808) (hn : -9223372036854775808 ≤ n ∧ n < 9223372036854775808) :
    Calls Tryz.prog 31 #[v, .int .i64 at_, .int .i64 n] w fun e w' => e = .returned (.tuple #[.string (bs (d.read at_ n).1), .int .i64 (d.read at_ n).2]) ∧ Below w.heap.size w w' := by
  obtain ⟨a1, n1, c1, a2, n2, c2, fuel, off, rfl, hd⟩ := h
  exact read_run a1 a2 n1 c1 n2 c2 fuel off d at_ n w hd hat hn

end Go.Proofs.YtogonkoeginoaaaGreatDoor
