/-
  The walk through the iterator log.pieces: what a record's cells have ahead of the serial.
-/
import Derived.Test.YtogonkoeginoaaaGreatDoorLogSmall
import Derived.Test.YtogonkoeginoaaaGreatDoorNumPut
import Derived.Test.YtogonkoeginoaaaGreatDoorNumGet
import Derived.RangeFuncNested
import Derived.RangeFuncBox
import Derived.RangeFuncBound
import Derived.RangeFuncCalls
import Derived.RangeFuncLeaves
import Derived.Shelf.Abstract
import Derived.Shelf.RegionOpen
import Derived.OwnWalkIn
import Derived.TacticsInMore
import Derived.LoopNIn
import Derived.LoopIn
namespace Go.Proofs.YtogonkoeginoaaaGreatDoor
open Go.RowKit Go.Shelf

attribute [local go_sem] Oper.semAt_some

/-- Sixty octets. -/
abbrev P60 := { x : List UInt8 // x.length = 60 }
def pieceS (l : List UInt8) (i : Nat) : P60 := ⟨piece l i, piece_length l i⟩
def piecesS (l : List UInt8) (k : Nat) : List P60 := (List.range k).map (pieceS l)
theorem piecesS_succ (l : List UInt8) (k : Nat) : piecesS l (k + 1) = piecesS l k ++ [pieceS l k] := by simp [piecesS, List.range_succ]
theorem piecesS_length (l : List UInt8) (k : Nat) : (piecesS l k).length = k := by simp [piecesS]
theorem below_grown {W W' : World} (h : Below W.heap.size W W') : W.grownBy W' none := by
  obtain ⟨a, b, c, d, e⟩ := h
  exact ⟨a, b, c, d, fun k hk _ => e k hk⟩

theorem bs_drop (l : List UInt8) (n : Nat) : (bs l).extract n (bs l).size = bs (l.drop n) := by
  have e : ((bs l).extract n (bs l).size).data.toList = l.drop n := by
    simp only [bs, ByteArray.data_extract, Array.toList_extract, List.extract_eq_take_drop]
    rw [List.take_of_length_le]
    rw [List.length_drop]
    exact Nat.le_refl _
  rw [← e]; rfl

theorem piece_front (l : List UInt8) : (recAll l).take 60 = octs 2 l.length ++ l.take (min l.length 58) := by
  unfold recAll
  rw [List.take_append, octs_length, List.take_of_length_le (by rw [octs_length]; decide)]
  congr 1
  rw [List.take_eq_take_iff]
  omega
theorem piece_later (l : List UInt8) (k : Nat) (hk : 1 ≤ k) : piece l k = pad60 ((l.drop (60 * k - 2)).take 60) := by
  unfold piece recAll
  rw [List.drop_append, octs_length, List.drop_of_length_le (by rw [octs_length]; omega), List.nil_append]
theorem kOf_lt {m k : Nat} (hk : 1 ≤ k) : 60 * k - 2 < m ↔ k < kOf m := by unfold kOf; omega

theorem put_octs (m w : Nat) (h1 : 1 ≤ w) (h8 : w ≤ 8) (hm : m < 256 ^ w) (W : World) (hm2 : m < 18446744073709551616) : Calls Tryz.prog 83 #[.int .u64 (m : Int), .int .i64 (w : Int)] W fun e w' => e = .returned (.tuple #[.string (bs (octs w m)), .int .i64 0]) ∧ Below W.heap.size W w' := by
  have h := put_any m w W (by omega) (by omega)
  have hok : putOk m (w : Int) = true := by
    unfold putOk
    rw [Int.toNat_natCast]
    exact decide_eq_true ⟨by omega, by omega, hm⟩
  rw [Int.toNat_natCast] at h
  unfold putS putE at h
  rw [hok, Int.toNat_natCast] at h
  exact h

/-- What a round keeps: the iterator's box. -/
def KpBox (b : Nat) (t : TypeId) (v : Value) (W W' : World) : Prop := Boxed W b t v → Boxed W' b t v
theorem kpBox_t {b : Nat} {t : TypeId} {v : Value} {A B C : World} (h : KpBox b t v A B) (k : KpBox b t v B C) : KpBox b t v A C := fun x => k (h x)
theorem kpBox_b {b : Nat} {t : TypeId} {v : Value} {w : World} (W : World) (l : Nat) (o o' : Obj) (_ : w.heap.size ≤ l) (h : W.heap[l]? = some o) (ho : o.isCells = false) (_ : o.isWalk = false) : KpBox b t v W (W.putObj l o') := by
  intro x
  refine x.kept (grownBy_putObj' W l o') (fun e => ?_)
  injection e with e
  subst e
  unfold Boxed at x
  rw [x] at h
  injection h with h
  subst h
  cases ho
theorem boxed_next {W W' : World} {b : Nat} {t : TypeId} {v : Value} (h : Boxed W b t v) (hb : Below W.heap.size W W') : Boxed W' b t v := (hb.block b h.lt).trans h

set_option maxRecDepth 100000 in
set_option maxHeartbeats 1600000 in
theorem pieces1_in (n : Nat) (hn : 1 ≤ n) (l Bn : Nat) (s : List UInt8) (hs : s.length ≤ 4000) (J Jx : List P60 → World → Prop) (hJ : ∀ p W W', J p W → W.grownBy W' none → J p W')
    (hY : ∀ pre x W, J pre W → pre.length < kOf s.length → YieldAt Fence.wide (n - 1) Tryz.prog l #[.string (bs x.1)] W fun e W' =>
      (e = .returned (.bool true) ∧ J (pre ++ [x]) W' ∧ KpBox Bn 9 (.string (bs s)) W W') ∨ (e = .returned (.bool false) ∧ Jx (pre ++ [x]) W'))
    (W : World) (hBn : Boxed W Bn 9 (.string (bs s))) (h0 : J [] W) :
    CallsIn Fence.wide n Tryz.prog 103 #[.func (.yield l) #[] #[], .pointer (some ⟨Bn, 0, none⟩)] W fun e W' => (∃ v, e = .returned v) ∧
      ((∃ ys, ys = piecesS s (kOf s.length) ∧ J ys W') ∨ (∃ pre, True ∧ Jx pre W')) := by
  have hsz : (bs s).size = s.length := bs_size s
  have hc0 := hBn.cell
  have HP : Hid (∀ W, Calls Tryz.prog 83 #[.int .u64 (s.length : Int), .int .i64 2] W fun e w' => e = .returned (.tuple #[.string (bs (octs 2 s.length)), .int .i64 0]) ∧ Below W.heap.size W w') := hide (fun W => put_octs s.length 2 (by omega) (by omega) (by omega) W (by omega))
  have hf := piece_front s
  have HF := hide (fun W => filled_any ((recAll s).take 60) W (by rw [List.length_take]; omega))
  have e0 : pad60 ((recAll s).take 60) = piece s 0 := rfl
  rw [e0, hf, ← bs_append, bs_take] at HF
  obtain ⟨n0, hn0⟩ : ∃ n0 : Nat, min s.length 58 = n0 := ⟨_, rfl⟩
  rw [hn0] at HF
  have hmin : min (s.length : Int) 58 = (n0 : Int) := by omega
  have hle0 : n0 ≤ s.length := by omega
  have hD0 := bs_drop s n0
  have HN0 := hide hn0
  obtain ⟨so, hso⟩ : ∃ z, bs (octs 2 s.length) = z := ⟨_, rfl⟩
  have hso2 : so.size ≤ 2 := by rw [← hso, bs_size, octs_length]; omega
  rw [hso] at HP HF
  obtain ⟨sv, hsv⟩ : ∃ z, bs s = z := ⟨_, rfl⟩
  have HSV := hide hsv
  rw [hsv] at HF hsz hD0 hBn hc0
  obtain ⟨p0, hp0⟩ : ∃ z, so ++ sv.extract 0 n0 = z := ⟨_, rfl⟩
  rw [hp0] at HF
  obtain ⟨q0, hq0⟩ : ∃ z, bs (piece s 0) = z := ⟨_, rfl⟩
  rw [hq0] at HF
  have HQ0 := hide hq0
  rw [← hsz] at HP hmin hle0 hs
  have HSZ := hide hsz
  clear e0 hf hn0 hso hsv hq0 hsz
  have hn2 : 1 ≤ n - 1 - 1 ∨ True := .inr trivial
  refine callsIn_of_wp Tryz.func103 rfl trivial ?_ rfl
  simp only [Tryz.ntmps103, List.size_toArray, List.length_cons, List.length_nil, Nat.reduceAdd, Nat.reduceSub, Array.replicate_succ, Array.replicate_zero, List.push_toArray, List.append_toArray, List.nil_append, List.cons_append]
  gi_wp2_with fail
  refine ⟨trivial, (callsIn_wide.2 (HP.out _)).mono ?_⟩
  rintro e w1 ⟨rfl, hb1⟩
  have hB1 := boxed_next hBn hb1
  have hc1 := hB1.cell
  have h1 := hJ _ _ _ h0 (below_grown hb1)
  clear hb1 h0 hBn hc0
  gi_wp2_with fail
  refine ⟨trivial, (callsIn_wide.2 (HF.out _)).mono ?_⟩
  rintro e w2 ⟨rfl, hb2⟩
  have hB2 := boxed_next hB1 hb2
  have hc2 := hB2.cell
  have h2 := hJ _ _ _ h1 (below_grown hb2)
  clear hb2 h1 hB1 hc1
  obtain ⟨fn, tmps, assign, body, hy, hR⟩ := hY [] (pieceS s 0) w2 h2 (kOf_pos _)
  have hy' : (Instr.yield l #[.string q0]).run Tryz.prog w2 = .ok (.round l fn tmps assign body) w2 := by rw [← HQ0.out]; exact hy
  clear hy
  gi_wp2_with fail
  refine hR.mono ?_
  rintro e w3 (⟨rfl, hJ3, hk3⟩ | ⟨rfl, hJx3⟩)
  · have hB3 : Boxed w3 Bn 9 (.string sv) := by
      have := hk3 (by rw [HSV.out]; exact hB2)
      rwa [HSV.out] at this
    have hc3 := hB3.cell
    have hlen0 : ∃ z : ByteArray, bs (s.drop n0) = z := ⟨_, rfl⟩
    obtain ⟨z0, hz0⟩ := hlen0
    rw [hz0] at hD0
    have HZ0 := hide hz0
    clear hR hy' h2 hB2 hk3 hz0 hc2
    gi_wp2_with fail
    gi_loopw [6] (fun rest wr => ∃ k : Nat, 1 ≤ k ∧ k ≤ kOf s.length ∧ rest = .string (bs (s.drop (60 * k - 2))) ∧ J (piecesS s k) wr) (fun rest _ => match rest with | .string z => z.size | _ => 0)
    case atStart =>
      have e58 : s.drop n0 = s.drop (60 * 1 - 2) := by
        by_cases h58 : s.length ≤ 58
        · rw [List.drop_of_length_le (by have := HN0.out; omega), List.drop_of_length_le (by omega)]
        · have : n0 = 58 := by have := HN0.out; omega
          rw [this]
      exact ⟨1, Nat.le_refl _, kOf_pos _, by rw [← e58, HZ0.out], hJ3⟩
    case round =>
      obtain ⟨k, hk1, hk, rfl, hJk⟩ := hrel
      obtain ⟨x, hx⟩ : ∃ x, s.drop (60 * k - 2) = x := ⟨_, rfl⟩
      have hxl : x.length = s.length - (60 * k - 2) := by rw [← hx, List.length_drop]
      rw [hx]
      by_cases hlt : k < kOf s.length
      · have hlt2 := (kOf_lt (m := s.length) hk1).2 hlt
        obtain ⟨n1, hn1⟩ : ∃ n1 : Nat, min x.length 60 = n1 := ⟨_, rfl⟩
        have hp : bs (x.take n1) = bs (x.take 60) := by
          congr 1
          rw [List.take_eq_take_iff]
          omega
        have HF1 := hide (fun W => filled_any (x.take 60) W (by rw [List.length_take]; omega))
        have e1 : pad60 (x.take 60) = piece s k := by rw [piece_later s k hk1, hx]
        rw [e1, ← hp, bs_take] at HF1
        have hd1 := bs_drop x n1
        have e2 : x.drop n1 = s.drop (60 * (k + 1) - 2) := by
          rw [← hx, List.drop_drop]
          by_cases h60 : 60 ≤ x.length
          · congr 1; omega
          · rw [List.drop_of_length_le (by omega), List.drop_of_length_le (by omega)]
        rw [e2] at hd1
        have hrs : (bs x).size = x.length := bs_size x
        obtain ⟨r, hr⟩ : ∃ r, bs x = r := ⟨_, rfl⟩
        rw [hr] at HF1 hd1 hrs ⊢
        have hs0 : r.toList.isEmpty = false := toList_some (by omega)
        have hs1 : ¬ (r.toList = []) := by intro h; rw [h] at hs0; cases hs0
        have hrp : 0 < r.size := by omega
        have hmin1 : min (r.size : Int) 60 = (n1 : Int) := by omega
        have hn1r : n1 ≤ r.size := by omega
        have hr4 : r.size ≤ 4000 := by have := HSZ.out; omega
        obtain ⟨p1, hp1⟩ : ∃ z, r.extract 0 n1 = z := ⟨_, rfl⟩
        rw [hp1] at HF1
        obtain ⟨q1, hq1⟩ : ∃ z, bs (piece s k) = z := ⟨_, rfl⟩
        rw [hq1] at HF1
        have HQ1 := hide hq1
        obtain ⟨r2, hr2⟩ : ∃ z, bs (s.drop (60 * (k + 1) - 2)) = z := ⟨_, rfl⟩
        have hr2s : r2.size < r.size := by rw [← hr2, bs_size, hrs, List.length_drop]; omega
        rw [hr2] at hd1
        have HR2 := hide hr2
        clear hp e1 e2 hr hrs hq1 hr2 hn1 hx hxl hlt2 hD0
        gi_wp2_with fail
        refine ⟨trivial, (callsIn_wide.2 (HF1.out _)).mono ?_⟩
        rintro e w4 ⟨rfl, hb4⟩
        have h4 := hJ _ _ _ hJk (below_grown hb4)
        clear hb4 hJk
        obtain ⟨fn, tmps, assign, body, hy, hR⟩ := hY (piecesS s k) (pieceS s k) w4 h4 (by rw [piecesS_length]; exact hlt)
        have hy' : (Instr.yield l #[.string q1]).run Tryz.prog w4 = .ok (.round l fn tmps assign body) w4 := by rw [← HQ1.out]; exact hy
        clear hy
        gi_wp2_with fail
        refine hR.mono ?_
        rintro e w5 (⟨rfl, hJ5, hk5⟩ | ⟨rfl, hJx5⟩)
        · clear hR hy' h4 hk5
          gi_wp2_with fail
          go_roundw
          case rel => exact ⟨k + 1, by omega, by omega, by rw [HR2.out], by rw [piecesS_succ]; exact hJ5⟩
          case measure => exact hr2s
        · clear hR hy' h4
          gi_wp2_with fail
          refine bodyPost_ret (results_none rfl _ _ _) rfl ?_
          exact ⟨⟨_, rfl⟩, .inr ⟨_, trivial, hJx5⟩⟩
      · obtain rfl : k = kOf s.length := by omega
        have hx0 : x = [] := List.eq_nil_of_length_eq_zero (by
          have := (kOf_lt (m := s.length) hk1)
          omega)
        subst hx0
        have hs0 : (bs []).toList.isEmpty = true := toList_empty rfl
        clear hx hxl
        gi_wp2_with fail
        go_end0
        exact ⟨⟨_, rfl⟩, .inl ⟨_, rfl, hJk⟩⟩
  · gi_wp2_with fail
    refine bodyPost_ret (results_none rfl _ _ _) rfl ?_
    exact ⟨⟨_, rfl⟩, .inr ⟨_, trivial, hJx3⟩⟩

set_option maxRecDepth 100000 in
set_option maxHeartbeats 400000 in
theorem pieces_in (n : Nat) (s : ByteArray) (w : World) :
    CallsIn Fence.wide n Tryz.prog 84 #[.string s] w fun e w' => e = .returned (.func (.func 103) #[] #[.pointer (some ⟨w.heap.size, 0, none⟩)]) ∧ w' = w.alloc (.cells #[.string s] 9) := by
  refine callsIn_of_wp Tryz.func84 rfl trivial ?_ rfl
  simp only [Tryz.ntmps84, List.size_toArray, List.length_cons, List.length_nil, Nat.reduceAdd, Nat.reduceSub, Array.replicate_succ, Array.replicate_zero, List.push_toArray, List.append_toArray, List.nil_append, List.cons_append]
  gi_wp2
  go_ret
  exact ⟨rfl, rfl⟩

theorem pieces_stops (n : Nat) (hn : 1 ≤ n) (Bn : Nat) (s : List UInt8) (hs : s.length ≤ 4000) (w : World) (hc : Boxed w Bn 9 (.string (bs s))) :
    SeqStopsK Fence.wide n Tryz.prog 103 #[.pointer (some ⟨Bn, 0, none⟩)] (fun x : P60 => #[Value.string (bs x.1)]) (KpBox Bn 9 (.string (bs s))) (fun ys => ys = piecesS s (kOf s.length)) (fun _ => True) (kOf s.length) w := fun l J Jx W hW hJ _ hY h0 =>
  pieces1_in n hn l Bn s hs J Jx (fun p W W' hp hg => hJ p W W' none hp hg (fun r e => by cases e)) hY W (boxed_next hc hW) h0

end Go.Proofs.YtogonkoeginoaaaGreatDoor
