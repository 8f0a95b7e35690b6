/-
  An event and its octets, in plain Lean: what may be, what is laid. No program in sight. The walks through a topic's name and a field's: part, all, Topic, Field. An event's fields in memory, and the walk through val.May. The walk through event.May: may an event be?
-/
import Derived.Test.YtogonkoeginoaaaGreatDoorNumLaw
import Derived.Test.YtogonkoeginoaaaGreatDoorShelf
import Derived.Test.YtogonkoeginoaaaGreatDoorBlk
import Derived.Test.YtogonkoeginoaaaGreatDoorNumUnpack
import Derived.Laws.RangeAny
import Derived.Lib.IndexAny
import Derived.Lib.IndexMore
import Derived.Test.YtogonkoeginoaaaGreatDoorDrvMem
import Derived.Test.YtogonkoeginoaaaGreatDoorApp
import Derived.Deep.RegionHeld3
namespace Go.Proofs.YtogonkoeginoaaaGreatDoor

/-- May an octet be in a part of a topic's name? -/
def chOk (c : UInt8) : Bool := decide (97 ≤ c.toNat ∧ c.toNat ≤ 122 ∨ 48 ≤ c.toNat ∧ c.toNat ≤ 57 ∨ c.toNat = 95)
def partB (s : List UInt8) : Bool := !s.isEmpty && s.all chOk
/-- At most so many parts, with dots between. -/
def allB : Nat → List UInt8 → Bool
  | 0, _ => false
  | k + 1, s => if partB (s.takeWhile (· != 46)) = false then false else if s.contains 46 then allB k (s.drop ((s.takeWhile (· != 46)).length + 1)) else true
def topicB (s : List UInt8) : Bool := decide (s.length ≤ 40) && allB 8 s
def fieldB (s : List UInt8) : Bool := decide (s.length ≤ 16) && !s.contains 46 && topicB s

/-- A field: its name, and its value, a number or a text. -/
structure Fd where
  name : List UInt8
  num : Bool
  n : Int
  s : List UInt8
structure Ev where
  topic : List UInt8
  prod : List UInt8
  seq : Nat
  l : List Fd
def Fd.zero : Fd := ⟨[], false, 0, []⟩
def valB (f : Fd) : Bool := if f.num then f.s.isEmpty else decide (f.n = 0 ∧ f.s.length ≤ 60)
/-- What stands of the fields before the k-th. -/
def riseB (l : List Fd) (k : Nat) : Bool := decide (k = 0) || Op.bytesLess (l.getD (k - 1) .zero).name (l.getD k .zero).name
def fdB (l : List Fd) (k : Nat) : Bool := fieldB (l.getD k .zero).name && valB (l.getD k .zero) && riseB l k
def fdsB (l : List Fd) : Nat → Bool
  | 0 => true
  | k + 1 => fdsB l k && fdB l k
def mayE (e : Ev) : Bool := topicB e.topic && fieldB e.prod && decide (1 ≤ e.seq) && decide (e.l.length ≤ 8) && fdsB e.l e.l.length
theorem fdsB_at (l : List Fd) : ∀ k, fdsB l k = true → ∀ i, i < k → fdB l i = true := by
  intro k
  induction k with
  | zero => intro _ i hi; omega
  | succ k ih =>
    intro h i hi
    rw [fdsB, Bool.and_eq_true] at h
    rcases Nat.lt_succ_iff_lt_or_eq.1 hi with h1 | h1
    · exact ih h.1 i h1
    · rw [h1]; exact h.2
theorem fdsB_le (l : List Fd) : ∀ k j, j ≤ k → fdsB l k = true → fdsB l j = true := by
  intro k
  induction k with
  | zero => intro j hj h; obtain rfl : j = 0 := by omega
            exact h
  | succ k ih =>
    intro j hj h
    by_cases e : j = k + 1
    · rw [e]; exact h
    · rw [fdsB, Bool.and_eq_true] at h
      exact ih j (by omega) h.1

/-- Its octets. -/
def layT (s : List UInt8) : List UInt8 := pack s.length ++ s
def layV (f : Fd) : List UInt8 := if f.num then 1 :: pack (foldN f.n).toNat else 2 :: layT f.s
def layF (f : Fd) : List UInt8 := layT f.name ++ layV f
def layFs (l : List Fd) : List UInt8 := (l.map layF).flatten
def layE (e : Ev) : List UInt8 := layT e.topic ++ (layT e.prod ++ (pack e.seq ++ (pack e.l.length ++ layFs e.l)))

theorem packF_len (f : Nat) : ∀ n, n < 128 → (packF (f + 1) n).length = 1 := fun n h => by rw [packF_small h]; rfl
theorem pack_small {n : Nat} (h : n < 128) : pack n = [UInt8.ofNat n] := packF_small h
theorem layT_length {s : List UInt8} (h : s.length < 128) : (layT s).length = 1 + s.length := by
  unfold layT
  rw [List.length_append, pack_small h]
  rfl
theorem fieldB_length {s : List UInt8} (h : fieldB s = true) : s.length ≤ 16 := by
  unfold fieldB at h
  simp only [Bool.and_eq_true, decide_eq_true_eq] at h
  exact h.1.1
theorem topicB_length {s : List UInt8} (h : topicB s = true) : s.length ≤ 40 := by
  unfold topicB at h
  simp only [Bool.and_eq_true, decide_eq_true_eq] at h
  exact h.1
theorem layV_length {f : Fd} (h : valB f = true) : 2 ≤ (layV f).length ∧ (layV f).length ≤ 62 := by
  unfold valB at h
  unfold layV
  split
  · rw [List.length_cons]
    have h1 := pack_length_pos (foldN f.n).toNat
    have h2 := pack_length_le (foldN f.n).toNat
    omega
  · rename_i hn
    rw [if_neg hn] at h
    simp only [decide_eq_true_eq] at h
    rw [List.length_cons, layT_length (by omega)]
    omega
theorem layF_length {f : Fd} (h1 : fieldB f.name = true) (h2 : valB f = true) : 3 ≤ (layF f).length ∧ (layF f).length ≤ 79 := by
  have a := layV_length h2
  have b := fieldB_length h1
  unfold layF
  rw [List.length_append, layT_length (by omega)]
  omega
theorem layFs_take (l : List Fd) (i : Nat) (h : i < l.length) : layFs (l.take (i + 1)) = layFs (l.take i) ++ layF (l.getD i .zero) := by
  have e : l.take (i + 1) = l.take i ++ [l.getD i .zero] := by
    rw [List.take_add_one, List.getElem?_eq_getElem h, List.getD_eq_getElem?_getD, List.getElem?_eq_getElem h]
    rfl
  unfold layFs
  rw [e, List.map_append, List.flatten_append]
  simp only [List.map_cons, List.map_nil, List.flatten_cons, List.flatten_nil, List.append_nil]
theorem layFs_split (l : List Fd) (i : Nat) (h : i < l.length) : layFs (l.drop i) = layF (l.getD i .zero) ++ layFs (l.drop (i + 1)) := by
  have e : l.drop i = l.getD i .zero :: l.drop (i + 1) := by
    rw [List.drop_eq_getElem_cons h, List.getD_eq_getElem?_getD, List.getElem?_eq_getElem h]
    rfl
  unfold layFs
  rw [e, List.map_cons, List.flatten_cons]
theorem layFs_all (l : List Fd) (i : Nat) : layFs l = layFs (l.take i) ++ layFs (l.drop i) := by
  unfold layFs
  conv => lhs; rw [← List.take_append_drop i l, List.map_append, List.flatten_append]
theorem layFs_length (l : List Fd) : ∀ k, k ≤ l.length → fdsB l k = true → (layFs (l.take k)).length ≤ 79 * k := by
  intro k
  induction k with
  | zero => intro _ _; simp [layFs]
  | succ k ih =>
    intro hk h
    rw [fdsB, Bool.and_eq_true] at h
    rw [layFs_take l k (by omega), List.length_append]
    have h1 := ih (by omega) h.1
    have h2 := h.2
    unfold fdB at h2
    simp only [Bool.and_eq_true] at h2
    have h3 := layF_length h2.1.1 h2.1.2
    omega
theorem layE_length {e : Ev} (h : mayE e = true) : 1 ≤ (layE e).length ∧ (layE e).length ≤ 701 := by
  unfold mayE at h
  simp only [Bool.and_eq_true, decide_eq_true_eq] at h
  obtain ⟨⟨⟨⟨h1, h2⟩, h3⟩, h4⟩, h5⟩ := h
  have a1 := topicB_length h1
  have a2 := fieldB_length h2
  have a3 := layFs_length e.l e.l.length (Nat.le_refl _) h5
  rw [List.take_length] at a3
  have a4 := pack_length_le e.seq
  have a5 : (pack e.l.length).length = 1 := by rw [pack_small (by omega)]; rfl
  unfold layE
  rw [List.length_append, List.length_append, List.length_append, List.length_append, layT_length (by omega), layT_length (by omega), a5]
  omega

/-- Signed numbers come back. -/
theorem unfold_foldN (n : Int) : unfoldN (foldN n) = n := by
  unfold foldN unfoldN
  split <;> split <;> omega
theorem foldN_range (n : Int) (h0 : -9223372036854775808 ≤ n) (h1 : n < 9223372036854775808) : 0 ≤ foldN n ∧ foldN n < 18446744073709551616 := by
  unfold foldN
  split <;> omega

end Go.Proofs.YtogonkoeginoaaaGreatDoor

namespace Go.Proofs.YtogonkoeginoaaaGreatDoor
open Go.RowKit

/-- The library's variable MaxLen lies in the world. -/
structure Vars (w : World) : Prop where
  max : ∃ m, w.cell? ⟨1, 0, none⟩ = some (.int .i64 m)
theorem Vars.next {w w' : World} (h : Vars w) (hb : Below w.heap.size w w') : Vars w' := by
  obtain ⟨m, hm⟩ := h.max
  have hlt : 1 < w.heap.size := World.block_lt_of_cell? w _ hm
  exact ⟨⟨m, by rw [hb.cell (p := ⟨1, 0, none⟩) hlt]; exact hm⟩⟩

theorem takeWhile_index (r : List UInt8) : Lib.index r [46] = if r.contains 46 then ((r.takeWhile (· != 46)).length : Int) else -1 := by
  rw [Lib.index_one]
  induction r with
  | nil => rfl
  | cons b l ih =>
    unfold Lib.indexByte
    by_cases hb : b = 46
    · subst hb
      simp
    · have h1 : (b == 46) = false := by simp [hb]
      have h2 : (b != 46) = true := by simp [hb]
      rw [h1, ih]
      by_cases hc : l.contains 46 = true
      · have h3 : (b :: l).contains 46 = true := by simp at hc ⊢; exact .inr hc
        rw [hc, h3]
        simp only [Bool.false_eq_true, if_false, if_true, List.takeWhile_cons, h2, List.length_cons]
        have : ((((l.takeWhile (· != 46)).length : Nat) : Int) == -1) = false := by rw [beq_eq_false_iff_ne]; omega
        rw [this]
        simp
      · have h3 : ¬ (b :: l).contains 46 = true := by simp at hc ⊢; exact ⟨fun h => hb h.symm, hc⟩
        rw [if_neg hc, if_neg h3]
        simp
theorem tw_take (r : List UInt8) : r.take (r.takeWhile (· != 46)).length = r.takeWhile (· != 46) := by
  conv => lhs; arg 2; rw [← List.takeWhile_append_dropWhile (p := (· != 46)) (l := r)]
  exact List.take_left' rfl
theorem tw_all (r : List UInt8) (h : r.contains 46 = false) : r.takeWhile (· != 46) = r := by
  induction r with
  | nil => rfl
  | cons b l ih =>
    simp at h
    have h2 : (b != 46) = true := by simp; exact fun e => h.1 e.symm
    rw [List.takeWhile_cons, h2, if_pos rfl, ih (by simp; exact h.2)]
theorem cut_dot (r : List UInt8) : Lib.cut r [46] = (r.takeWhile (· != 46), (if r.contains 46 then r.drop ((r.takeWhile (· != 46)).length + 1) else []), r.contains 46) := by
  unfold Lib.cut
  rw [takeWhile_index]
  by_cases h : r.contains 46 = true
  · rw [if_pos h, if_pos (by omega), if_pos h, h, Int.toNat_natCast, tw_take]
    rfl
  · have h' : r.contains 46 = false := by simpa using h
    rw [if_neg h, if_neg (by omega), if_neg h, h', tw_all r h']

/-- A rune that may be in a part. -/
def runeB (r : Nat) : Bool := decide (97 ≤ r ∧ r ≤ 122 ∨ 48 ≤ r ∧ r ≤ 57 ∨ r = 95)
set_option maxRecDepth 100000 in
theorem partf_any (r : Nat) (w : World) (hr : r ≤ 2147483647) : Calls Tryz.prog 91 #[.int .i32 (r : Int)] w fun e w' => e = .returned (.bool (runeB r)) ∧ w = w' := by
  have hB : ∀ b, (97 ≤ r ∧ r ≤ 122 ∨ 48 ≤ r ∧ r ≤ 57 ∨ r = 95 ↔ b = true) → runeB r = b := fun b h => by
    unfold runeB
    cases b with
    | true => exact decide_eq_true (h.2 rfl)
    | false => exact decide_eq_false (fun x => by have := h.1 x; cases this)
  have HB := hide hB
  clear hB
  by_cases a : (97 : Int) ≤ (r : Int)
  · by_cases b : (r : Int) ≤ 122
    · have e := HB.out true (by simp; omega)
      rw [e]
      clear e HB
      go_enter Tryz.func91, Tryz.ntmps91
      go_wp2
      go_ret
      exact ⟨rfl, rfl⟩
    · have e := HB.out false (by simp; omega)
      rw [e]
      have c : (48 : Int) ≤ (r : Int) := by omega
      have d : ¬ (r : Int) ≤ 57 := by omega
      have f : ¬ (r : Int) = 95 := by omega
      have f2 : ((r : Int) == 95) = false := by rw [beq_eq_false_iff_ne]; exact f
      clear e HB
      go_enter Tryz.func91, Tryz.ntmps91
      go_wp2
      go_ret
      exact ⟨rfl, rfl⟩
  · by_cases c : (48 : Int) ≤ (r : Int)
    · by_cases d : (r : Int) ≤ 57
      · have e := HB.out true (by simp; omega)
        rw [e]
        clear e HB
        go_enter Tryz.func91, Tryz.ntmps91
        go_wp2
        go_ret
        exact ⟨rfl, rfl⟩
      · by_cases f : (r : Int) = 95
        · have f2 : ((r : Int) == 95) = true := by rw [beq_iff_eq]; exact f
          have e := HB.out true (by simp; omega)
          rw [e]
          clear e HB
          go_enter Tryz.func91, Tryz.ntmps91
          go_wp2
          go_ret
          exact ⟨rfl, rfl⟩
        · have f2 : ((r : Int) == 95) = false := by rw [beq_eq_false_iff_ne]; exact f
          have e := HB.out false (by simp; omega)
          rw [e]
          clear e HB
          go_enter Tryz.func91, Tryz.ntmps91
          go_wp2
          go_ret
          exact ⟨rfl, rfl⟩
    · have f : ¬ (r : Int) = 95 := by omega
      have f2 : ((r : Int) == 95) = false := by rw [beq_eq_false_iff_ne]; exact f
      have e := HB.out false (by simp; omega)
      rw [e]
      clear e HB
      go_enter Tryz.func91, Tryz.ntmps91
      go_wp2
      go_ret
      exact ⟨rfl, rfl⟩

theorem runeB_ch (c : UInt8) : runeB c.toNat = chOk c := rfl
theorem runeB_high {r : Nat} (h : 128 ≤ r) : runeB r = false := by
  unfold runeB
  exact decide_eq_false (by omega)
theorem chOk_high {c : UInt8} (h : 128 ≤ c.toNat) : chOk c = false := by
  unfold chOk
  exact decide_eq_false (by omega)
theorem part_false {s : List UInt8} {p : Nat} (hp : p < s.length) (hc : chOk (s.getD p 0) = false) : partB s = false := by
  unfold partB
  rw [Bool.and_eq_false_iff]
  refine .inr (Bool.eq_false_iff.2 fun h => ?_)
  have h1 := List.all_eq_true.1 h (s.getD p 0) (by
    rw [List.getD_eq_getElem?_getD, List.getElem?_eq_getElem hp]
    exact List.getElem_mem _)
  rw [hc] at h1
  cases h1
theorem part_true {s : List UInt8} (hc : ∀ j, j < s.length → chOk (s.getD j 0) = true) : partB s = !s.isEmpty := by
  unfold partB
  have : s.all chOk = true := by
    rw [List.all_eq_true]
    intro x hx
    obtain ⟨i, hi, rfl⟩ := List.getElem_of_mem hx
    have := hc i hi
    rw [List.getD_eq_getElem?_getD, List.getElem?_eq_getElem hi] at this
    exact this
  rw [this, Bool.and_true]

set_option maxRecDepth 100000 in
set_option maxHeartbeats 1600000 in
theorem part_any (s : List UInt8) (w : World) (_hs : s.length ≤ 1000) : Calls Tryz.prog 69 #[.string (bs s)] w fun e w' => e = .returned (.bool (partB s)) ∧ Below w.heap.size w w' := by
  have hsz : (bs s).size = s.length := bs_size s
  have HP := hide (fun (r : Nat) (w : World) (hr : r ≤ 2147483647) => partf_any r w hr)
  have hem : (bs s).toList.isEmpty = s.isEmpty := by
    rw [ByteArray.toList_eq]
    rfl
  have HPF : Hid (∀ p, p < s.length → chOk (s.getD p 0) = false → partB s = false) := hide (fun p hp hc => part_false hp hc)
  have HPT : Hid ((∀ j, j < s.length → chOk (s.getD j 0) = true) → partB s = !s.isEmpty) := hide (fun h => part_true h)
  have HGET : Hid (∀ p (hp : p < (bs s).size), (bs s)[p]'hp = s.getD p 0) := hide (fun p hp => by
    have h := byte_getD (bs s) p hp
    rw [← h]
    rfl)
  go_enter Tryz.func69, Tryz.ntmps69
  go_wp2_with fail
  obtain ⟨sv, hsv⟩ : ∃ z, bs s = z := ⟨_, rfl⟩
  rw [hsv] at hsz hem HGET ⊢
  clear hsv
  go_loopw [] (fun wr => ∃ p : Nat, p ≤ sv.size ∧ wr = w.iter sv p ∧ Hid (∀ j, j < p → chOk (s.getD j 0) = true)) (fun wr => sv.size - wr.iterPos w.heap.size)
  case atStart => exact ⟨0, Nat.zero_le _, rfl, hide (fun j hj => by omega)⟩
  case round =>
    obtain ⟨p, hp, rfl, hall⟩ := hrel
    have hb : Below w.heap.size w (w.iter sv p) := (Below.refl _ _).alloc (Nat.le_refl _) _
    by_cases hlt : p < sv.size
    · have hg := HGET.out p hlt
      by_cases ha : (sv[p]'hlt).toNat < 128
      · have hnx := fun ty => run_next_ascii (P := Tryz.prog) w sv p ty hlt ha
        rw [hg] at hnx ha
        obtain ⟨c, hc⟩ : ∃ c, s.getD p 0 = c := ⟨_, rfl⟩
        rw [hc] at hnx ha
        have HR := hide (fun w => HP.out c.toNat w (by omega))
        rw [runeB_ch] at HR
        cases hch : chOk c with
        | true =>
          rw [hch] at HR
          have HN : Hid (∀ j, j < p + 1 → chOk (s.getD j 0) = true) := hide (fun j hj => by
            rcases Nat.lt_succ_iff_lt_or_eq.1 hj with h | h
            · exact hall.out j h
            · rw [h, hc]; exact hch)
          clear hg hc hch
          go_wp2_with fail
          refine (HR.out _).mono ?_
          rintro e w2 ⟨rfl, rfl⟩
          go_wp2_with fail
          go_roundw
          case rel => exact ⟨p + 1, by omega, rfl, HN⟩
          case measure => simp; omega
        | false =>
          rw [hch] at HR
          have hF := HPF.out p (by omega) (by rw [hc]; exact hch)
          have HFF := hide hF
          have hb2 : Below w.heap.size w (w.iter sv (p + 1)) := (Below.refl _ _).alloc (Nat.le_refl _) _
          clear hg hc hch hF
          go_wp2_with fail
          refine (HR.out _).mono ?_
          rintro e w2 ⟨rfl, rfl⟩
          go_wp2_with fail
          go_ret
          rw [HFF.out]
          exact ⟨rfl, hb2⟩
      · have hnx := fun ty => run_next_any (P := Tryz.prog) w sv p ty hlt
        have hd := decode_high sv p hlt (by omega)
        have hdl := decode_le sv p
        obtain ⟨⟨r, k⟩, hr⟩ : ∃ z, Utf8.decode sv p = z := ⟨_, rfl⟩
        rw [hr] at hnx hd hdl
        simp only at hnx hd hdl
        have HR := hide (fun w => HP.out r w hdl)
        rw [runeB_high hd.1] at HR
        have hF := HPF.out p (by omega) (chOk_high (by rw [← hg]; omega))
        have HFF := hide hF
        have hb2 : Below w.heap.size w (w.iter sv (p + k)) := (Below.refl _ _).alloc (Nat.le_refl _) _
        clear hg hr hF hd hdl ha
        go_wp2_with fail
        refine (HR.out _).mono ?_
        rintro e w2 ⟨rfl, rfl⟩
        go_wp2_with fail
        go_ret
        rw [HFF.out]
        exact ⟨rfl, hb2⟩
    · obtain rfl : p = sv.size := by omega
      have hnx := fun ty => run_next_end (P := Tryz.prog) w sv sv.size ty (by omega)
      have hF := HPT.out (fun j hj => hall.out j (by omega))
      rw [← hem] at hF
      have HFF := hide hF
      clear hF hem hsz HGET HPT HPF
      go_wp2_with fail
      go_ret
      rw [HFF.out]
      exact ⟨rfl, hb⟩

theorem dotcut_any (r : List UInt8) (w : World) (hv : Vars w) (hr : r.length ≤ 40) : Calls Tryz.prog 90 #[.string (bs r), .string ⟨#[46]⟩] w fun e w' => e = .returned (.tuple #[.string (bs (r.takeWhile (· != 46))), .string (bs (if r.contains 46 then r.drop ((r.takeWhile (· != 46)).length + 1) else [])), .bool (r.contains 46)]) ∧ Below w.heap.size w w' := by
  obtain ⟨m, hm⟩ := hv.max
  refine (Tryz.strings_Cut (bs r) ⟨#[46]⟩ m w (by rw [bs_size]; omega) hm).mono ?_
  rintro e w' ⟨rfl, n, rfl⟩
  refine ⟨?_, ⟨rfl, rfl, rfl, Nat.le_refl _, fun _ _ => rfl⟩⟩
  have e : Lib.cut (bs r).data.toList (⟨#[46]⟩ : ByteArray).data.toList = Lib.cut r [46] := rfl
  rw [e, cut_dot]
  rfl

theorem allB_step {k : Nat} {r : List UInt8} : allB (k + 1) r = if partB (r.takeWhile (· != 46)) = false then false else if r.contains 46 then allB k (r.drop ((r.takeWhile (· != 46)).length + 1)) else true := rfl

set_option maxRecDepth 100000 in
set_option maxHeartbeats 1600000 in
theorem all_any (s : List UInt8) (w : World) (hv : Vars w) (hs : s.length < 9223372036854775808) : Calls Tryz.prog 68 #[.string (bs s), .func (Fn.func 69) #[] #[]] w fun e w' => e = .returned (.bool (topicB s)) ∧ Below w.heap.size w w' := by
  have hsz : (bs s).size = s.length := bs_size s
  have HV := hide hv
  by_cases hbig : 40 < s.length
  · have HF : Hid (topicB s = false) := hide (by unfold topicB; rw [decide_eq_false (by omega)]; rfl)
    have hb := Below.refl w.heap.size w
    obtain ⟨sv, hsv⟩ : ∃ z, bs s = z := ⟨_, rfl⟩
    rw [hsv] at hsz ⊢
    have hbi : (40 : Int) < (sv.size : Int) := by omega
    rw [HF.out]
    clear hsv hsz HF
    go_enter Tryz.func68, Tryz.ntmps68
    go_wp2_with fail
    go_ret
    exact ⟨rfl, hb⟩
  · have HT : Hid (topicB s = allB 8 s) := hide (by unfold topicB; rw [decide_eq_true (by omega), Bool.true_and])
    have HP := hide (fun (s : List UInt8) (w : World) (h : s.length ≤ 1000) => part_any s w h)
    have HC := hide (fun (r : List UInt8) (w : World) (hv : Vars w) (hr : r.length ≤ 40) => dotcut_any r w hv hr)
    have hbi : ¬ (40 : Int) < ((bs s).size : Int) := by omega
    have hs40 : s.length ≤ 40 := by omega
    have hb := Below.refl w.heap.size w
    rw [HT.out]
    obtain ⟨R, hR⟩ : ∃ z, allB 8 s = z := ⟨_, rfl⟩
    have HR := hide hR
    rw [hR]
    clear hR HT hbig
    go_enter Tryz.func68, Tryz.ntmps68
    go_wp2_with fail
    go_loopw [0, 11] (fun s0 s11 wr => ∃ (k : Nat) (r : List UInt8), k ≤ 8 ∧ s11 = .int .i64 (k : Int) ∧ s0 = .string (bs r) ∧ r.length ≤ 40 ∧ Hid (allB (8 - k) r = R) ∧ Below w.heap.size w wr) (fun _ s11 _ => 8 - (intOf s11).toNat)
    case atStart => exact ⟨0, s, by omega, rfl, rfl, hs40, HR, hb⟩
    case round =>
      obtain ⟨k, r, hk, rfl, rfl, hr, hA, hbw⟩ := hrel
      clear hb HR hbi hsz
      by_cases hk8 : k < 8
      · have hki : (k : Int) < 8 := by omega
        have hst := hA.out
        rw [show 8 - k = (7 - k) + 1 by omega, allB_step] at hst
        have htl : (r.takeWhile (· != 46)).length ≤ 40 := Nat.le_trans (List.takeWhile_prefix _).length_le hr
        have hdl : (r.drop ((r.takeWhile (· != 46)).length + 1)).length ≤ 40 := by rw [List.length_drop]; omega
        have HCr := hide (fun (w : World) (hv : Vars w) => HC.out r w hv hr)
        have HPr := hide (fun (w : World) => HP.out (r.takeWhile (· != 46)) w (by omega))
        obtain ⟨b, hbb⟩ : ∃ z, r.takeWhile (· != 46) = z := ⟨_, rfl⟩
        rw [hbb] at hst htl hdl HCr HPr
        obtain ⟨a, haa⟩ : ∃ z, r.drop (b.length + 1) = z := ⟨_, rfl⟩
        rw [haa] at hst hdl HCr
        obtain ⟨f, hff⟩ : ∃ z, r.contains 46 = z := ⟨_, rfl⟩
        rw [hff] at hst HCr
        obtain ⟨pb, hpb⟩ : ∃ z, partB b = z := ⟨_, rfl⟩
        rw [hpb] at hst HPr
        obtain ⟨rv, hrv⟩ : ∃ z, bs r = z := ⟨_, rfl⟩
        obtain ⟨bv, hbv⟩ : ∃ z, bs b = z := ⟨_, rfl⟩
        rw [hrv, hbv] at HCr
        rw [hbv] at HPr
        rw [hrv]
        have HST := hide hst
        clear hbb haa hff hpb hrv hbv htl hst hA
        cases f with
        | true =>
          rw [if_pos rfl] at HCr
          go_wp2_with fail
          refine (HCr.out _ (HV.out.next hbw)).mono ?_
          rintro e w2 ⟨rfl, hb2⟩
          have hb3 := chain hbw hb2
          clear hbw hb2
          go_wp2_with fail
          refine (HPr.out _).mono ?_
          rintro e w3 ⟨rfl, hb4⟩
          have hb5 := chain hb3 hb4
          clear hb3 hb4
          cases pb with
          | false =>
            have he : R = false := by have := HST.out; rw [if_pos rfl] at this; exact this.symm
            subst he
            go_wp2_with fail
            go_ret
            exact ⟨rfl, hb5⟩
          | true =>
            have he : allB (7 - k) a = R := by have := HST.out; simpa using this
            have HE := hide he
            clear he
            go_wp2_with fail
            go_roundw
            case rel => exact ⟨k + 1, a, by omega, by go_num, rfl, hdl, hide (by rw [show 8 - (k + 1) = 7 - k by omega]; exact HE.out), hb5⟩
            case measure => simp [intOf]; omega
        | false =>
          go_wp2_with fail
          refine (HCr.out _ (HV.out.next hbw)).mono ?_
          rintro e w2 ⟨rfl, hb2⟩
          have hb3 := chain hbw hb2
          clear hbw hb2
          go_wp2_with fail
          refine (HPr.out _).mono ?_
          rintro e w3 ⟨rfl, hb4⟩
          have hb5 := chain hb3 hb4
          clear hb3 hb4
          cases pb with
          | false =>
            have he : R = false := by have := HST.out; rw [if_pos rfl] at this; exact this.symm
            subst he
            go_wp2_with fail
            go_ret
            exact ⟨rfl, hb5⟩
          | true =>
            have he : R = true := by have := HST.out; simpa using this.symm
            subst he
            go_wp2_with fail
            go_ret
            exact ⟨rfl, hb5⟩
      · obtain rfl : k = 8 := by omega
        have he : R = false := hA.out.symm
        subst he
        go_wp2_with fail
        go_ret
        exact ⟨rfl, hbw⟩

set_option maxRecDepth 100000 in
theorem topic_any (s : List UInt8) (w : World) (hv : Vars w) (hs : s.length < 9223372036854775808) : Calls Tryz.prog 43 #[.string (bs s)] w fun e w' => e = .returned (.bool (topicB s)) ∧ Below w.heap.size w w' := by
  have HA := hide (all_any s w hv hs)
  obtain ⟨sv, hsv⟩ : ∃ z, bs s = z := ⟨_, rfl⟩
  rw [hsv] at HA ⊢
  clear hsv
  go_enter Tryz.func43, Tryz.ntmps43
  go_wp2_with fail
  refine HA.out.mono ?_
  rintro e w2 ⟨rfl, hb⟩
  go_wp2_with fail
  go_ret
  exact ⟨rfl, hb⟩

theorem contains_any (s : List UInt8) (w : World) : Calls Tryz.prog 70 #[.string (bs s), .string ⟨#[46]⟩] w fun e w' => e = .returned (.bool (s.contains 46)) ∧ w = w' := by
  refine (Tryz.strings_Contains_one (bs s) 46 w).mono ?_
  rintro e w' ⟨rfl, rfl⟩
  refine ⟨?_, rfl⟩
  rw [bs_data, ← Lib.contains_iff_indexByte]

set_option maxRecDepth 100000 in
theorem field_any (s : List UInt8) (w : World) (hv : Vars w) (hs : s.length < 9223372036854775808) : Calls Tryz.prog 44 #[.string (bs s)] w fun e w' => e = .returned (.bool (fieldB s)) ∧ Below w.heap.size w w' := by
  have HT := hide (topic_any s w hv hs)
  have HC := hide (contains_any s w)
  have hsz : (bs s).size = s.length := bs_size s
  have hb := Below.refl w.heap.size w
  obtain ⟨tb, htb⟩ : ∃ z, topicB s = z := ⟨_, rfl⟩
  obtain ⟨cb, hcb⟩ : ∃ z, s.contains 46 = z := ⟨_, rfl⟩
  obtain ⟨R, hR⟩ : ∃ z, fieldB s = z := ⟨_, rfl⟩
  have hdef := hR
  unfold fieldB at hdef
  rw [htb] at HT hdef
  rw [hcb] at HC hdef
  rw [hR]
  obtain ⟨sv, hsv⟩ : ∃ z, bs s = z := ⟨_, rfl⟩
  rw [hsv] at HT HC hsz ⊢
  have HD := hide hdef
  by_cases h16 : s.length ≤ 16
  · have h16i : (sv.size : Int) ≤ 16 := by omega
    have hd2 : (!cb && tb) = R := by have := HD.out; rw [decide_eq_true h16, Bool.true_and] at this; exact this
    clear hR hdef hsv htb hcb HD
    cases cb with
    | true =>
      have hR : R = false := hd2.symm
      subst hR
      go_enter Tryz.func44, Tryz.ntmps44
      go_wp2_with fail
      refine HC.out.mono ?_
      rintro e w2 ⟨rfl, rfl⟩
      go_wp2_with fail
      go_ret
      exact ⟨rfl, hb⟩
    | false =>
      have hR : R = tb := hd2.symm
      subst hR
      go_enter Tryz.func44, Tryz.ntmps44
      go_wp2_with fail
      refine HC.out.mono ?_
      rintro e w2 ⟨rfl, rfl⟩
      go_wp2_with fail
      refine HT.out.mono ?_
      rintro e w3 ⟨rfl, hb3⟩
      go_wp2_with fail
      go_ret
      exact ⟨rfl, hb3⟩
  · have h16i : ¬ (sv.size : Int) ≤ 16 := by omega
    have hR : R = false := by have := HD.out; rw [decide_eq_false h16] at this; exact this.symm
    subst hR
    clear hdef hsv htb hcb HD
    go_enter Tryz.func44, Tryz.ntmps44
    go_wp2_with fail
    go_ret
    exact ⟨rfl, hb⟩

end Go.Proofs.YtogonkoeginoaaaGreatDoor

namespace Go.Proofs.YtogonkoeginoaaaGreatDoor
open Go.RowKit

/-- The cells of fields: four each. -/
def fdVals (l : List Fd) : List Value := l.flatMap fun f => [Value.string (bs f.name), Value.bool f.num, Value.int .i64 f.n, Value.string (bs f.s)]
theorem fdVals_length (q : List Fd) : (fdVals q).length = q.length * 4 := by
  induction q with
  | nil => rfl
  | cons x q ih =>
    have e : fdVals (x :: q) = [Value.string (bs x.name), Value.bool x.num, Value.int .i64 x.n, Value.string (bs x.s)] ++ fdVals q := rfl
    rw [e, List.length_append, ih]; simp; omega
theorem fdVals_at (q : List Fd) : ∀ i, i < q.length → (fdVals q)[i * 4]? = some (.string (bs (q.getD i .zero).name)) ∧ (fdVals q)[i * 4 + 1]? = some (.bool (q.getD i .zero).num) ∧ (fdVals q)[i * 4 + 2]? = some (.int .i64 (q.getD i .zero).n) ∧ (fdVals q)[i * 4 + 3]? = some (.string (bs (q.getD i .zero).s)) := by
  induction q with
  | nil => intro i h; simp at h
  | cons x q ih =>
    intro i h
    have e : fdVals (x :: q) = Value.string (bs x.name) :: Value.bool x.num :: Value.int .i64 x.n :: Value.string (bs x.s) :: fdVals q := rfl
    cases i with
    | zero => rw [e]; exact ⟨rfl, rfl, rfl, rfl⟩
    | succ i =>
      have h2 := ih i (by simpa using h)
      rw [e, show (i + 1) * 4 = i * 4 + 1 + 1 + 1 + 1 by omega]
      simpa using h2
def Fd.In (f : Fd) : Prop := (-9223372036854775808 ≤ f.n ∧ f.n < 9223372036854775808) ∧ f.name.length ≤ 9223372036854775807 ∧ f.s.length ≤ 9223372036854775807
structure Fds (w : World) (ao : Option Addr) (n : Nat) (q : List Fd) : Prop where
  len : q.length = n
  range : ∀ x ∈ q, x.In
  row : Row w ao (fdVals q)
theorem Fds.below {w w' : World} {ao : Option Addr} {n : Nat} {q : List Fd} (h : Fds w ao n q) (hb : Below w.heap.size w w') : Fds w' ao n q := ⟨h.len, h.range, h.row.below hb⟩
theorem idx_fds (b off n c k : Nat) (hk : k < n) (w : World) : (Instr.indexAt 35 (.slice (some ⟨b, off, none⟩) n c) (.int .i64 (k : Int))).run Tryz.prog w = .ok (.pointer (some ⟨b, off + k * 4, none⟩)) w := by
  simp [go_sem, hk]
theorem Fds.at {w : World} {ao : Option Addr} {n : Nat} {q : List Fd} (h : Fds w ao n q) (c k : Nat) (hk : k < n) : ∃ b o, b < w.heap.size ∧
    (∀ W, (Instr.indexAt 35 (.slice ao n c) (.int .i64 (k : Int))).run Tryz.prog W = .ok (.pointer (some ⟨b, o, none⟩)) W) ∧
    w.cell? ⟨b, o, none⟩ = some (.string (bs (q.getD k .zero).name)) ∧ w.cell? ⟨b, o + 1, none⟩ = some (.bool (q.getD k .zero).num) ∧ w.cell? ⟨b, o + 2, none⟩ = some (.int .i64 (q.getD k .zero).n) ∧ w.cell? ⟨b, o + 3, none⟩ = some (.string (bs (q.getD k .zero).s)) ∧ (q.getD k .zero).In := by
  have hl := h.len
  rcases h.row with h0 | ⟨b, off, rfl, hc⟩
  · have := fdVals_length q; rw [h0] at this; simp at this; omega
  · obtain ⟨e0, e1, e2, e3⟩ := fdVals_at q k (by omega)
    have h0 := hc _ _ e0
    have h1 := hc _ _ e1
    have h2 := hc _ _ e2
    have h3 := hc _ _ e3
    refine ⟨b, off + k * 4, World.block_lt_of_cell? w _ h0, fun W => idx_fds b off n c k hk W, h0, by rw [Nat.add_assoc]; exact h1, by rw [Nat.add_assoc]; exact h2, by rw [Nat.add_assoc]; exact h3, ?_⟩
    refine h.range _ ?_
    rw [List.getD_eq_getElem?_getD, List.getElem?_eq_getElem (by omega)]
    exact List.getElem_mem _

set_option maxRecDepth 100000 in
/-- May a value be? -/
theorem valmay_any (f : Fd) (w : World) (hf : f.In) : Calls Tryz.prog 45 #[.agg #[.bool f.num, .int .i64 f.n, .string (bs f.s)]] w fun e w' => e = .returned (.bool (valB f)) ∧ Below w.heap.size w w' := by
  obtain ⟨nm, num, n, s⟩ := f
  obtain ⟨⟨h1, h2⟩, h3, h4⟩ := hf
  simp only at h1 h2 h3 h4
  simp only
  have hsz : (bs s).size = s.length := bs_size s
  have hem : (bs s).toList.isEmpty = s.isEmpty := by
    rw [ByteArray.toList_eq]
    rfl
  obtain ⟨R, hR⟩ : ∃ z, valB ⟨nm, num, n, s⟩ = z := ⟨_, rfl⟩
  rw [hR]
  have hdef := hR
  unfold valB at hdef
  simp only at hdef
  have hb : Below w.heap.size w (w.alloc (.cells #[.bool num, .int .i64 n, .string (bs s)] 78)) := (Below.refl _ _).alloc (Nat.le_refl _) _
  have hB := Blk.new w [.bool num, .int .i64 n, .string (bs s)] 78
  have q0 := hB.cell 0
  have q1 := hB.cell 1
  have q2 := hB.cell 2
  obtain ⟨sv, hsv⟩ : ∃ z, bs s = z := ⟨_, rfl⟩
  rw [hsv] at hsz hem hb hB q0 q1 q2 ⊢
  have HD := hide hdef
  clear hR hdef hsv
  cases num with
  | true =>
    have e : R = s.isEmpty := HD.out.symm
    subst e
    rw [← hem]
    clear hem HD
    go_enter Tryz.func45, Tryz.ntmps45
    go_wp2_with fail
    go_ret
    exact ⟨rfl, hb⟩
  | false =>
    by_cases hn : n = 0
    · have e : R = decide (s.length ≤ 60) := by have := HD.out; simp [hn] at this; simp [← this]
      subst hn
      by_cases h60 : s.length ≤ 60
      · rw [decide_eq_true h60] at e
        have hi : (sv.size : Int) ≤ 60 := by omega
        subst e
        clear HD hsz h60
        go_enter Tryz.func45, Tryz.ntmps45
        go_wp2_with fail
        go_ret
        exact ⟨rfl, hb⟩
      · rw [decide_eq_false h60] at e
        have hi : ¬ (sv.size : Int) ≤ 60 := by omega
        subst e
        clear HD hsz h60
        go_enter Tryz.func45, Tryz.ntmps45
        go_wp2_with fail
        go_ret
        exact ⟨rfl, hb⟩
    · have e : R = false := by have := HD.out; simp [hn] at this; exact this
      have hi : (n == 0) = false := by rw [beq_eq_false_iff_ne]; exact hn
      subst e
      clear HD hsz
      go_enter Tryz.func45, Tryz.ntmps45
      go_wp2_with fail
      go_ret
      exact ⟨rfl, hb⟩

end Go.Proofs.YtogonkoeginoaaaGreatDoor

namespace Go.Proofs.YtogonkoeginoaaaGreatDoor
open Go.RowKit

structure Ev.In (e : Ev) : Prop where
  topic : e.topic.length ≤ 9223372036854775807
  prod : e.prod.length ≤ 9223372036854775807
  seq : e.seq < 18446744073709551616

theorem fdsB_false {l : List Fd} {i n : Nat} (hi : i < n) (h : fdB l i = false) : fdsB l n = false := by
  cases h2 : fdsB l n with
  | false => rfl
  | true =>
    have := fdsB_at l n h2 i hi
    rw [h] at this
    cases this
theorem fdB_cases (l : List Fd) (i : Nat) : (fieldB (l.getD i .zero).name = false ∧ fdB l i = false) ∨ (fieldB (l.getD i .zero).name = true ∧ valB (l.getD i .zero) = false ∧ fdB l i = false) ∨
    (fieldB (l.getD i .zero).name = true ∧ valB (l.getD i .zero) = true ∧ i = 0 ∧ fdB l i = true) ∨
    (fieldB (l.getD i .zero).name = true ∧ valB (l.getD i .zero) = true ∧ 0 < i ∧ Op.bytesLess (l.getD (i - 1) .zero).name (l.getD i .zero).name = fdB l i) := by
  unfold fdB riseB
  cases fieldB (l.getD i .zero).name with
  | false => exact .inl ⟨rfl, by simp⟩
  | true =>
    cases valB (l.getD i .zero) with
    | false => exact .inr (.inl ⟨rfl, rfl, by simp⟩)
    | true =>
      by_cases h0 : i = 0
      · exact .inr (.inr (.inl ⟨rfl, rfl, h0, by simp [h0]⟩))
      · exact .inr (.inr (.inr ⟨rfl, rfl, by omega, by simp [h0]⟩))

set_option maxRecDepth 100000 in
set_option maxHeartbeats 12800000 in
theorem evmay_any (e : Ev) (a : Option Addr) (n c : Nat) (w : World) (hf : Fds w a n e.l) (hnc : n ≤ c ∧ c ≤ 9223372036854775807) (hin : e.In) (hv : Vars w) :
    Calls Tryz.prog 17 #[.agg #[.string (bs e.topic), .string (bs e.prod), .int .u64 (e.seq : Int), .slice a n c]] w fun x w' => x = .returned (.bool (mayE e)) ∧ Below w.heap.size w w' := by
  obtain ⟨i1, i2, i3⟩ := hin
  have HT := hide (fun (w : World) (hv : Vars w) => topic_any e.topic w hv (by omega))
  have HPF := hide (fun (w : World) (hv : Vars w) => field_any e.prod w hv (by omega))
  have HF : Hid (∀ (s : List UInt8) (w : World), Vars w → s.length ≤ 9223372036854775807 → Calls Tryz.prog 44 #[.string (bs s)] w fun x w' => x = .returned (.bool (fieldB s)) ∧ Below w.heap.size w w') := hide (fun s w hv h => field_any s w hv (by omega))
  have HVM := hide (fun (f : Fd) (w : World) (h : f.In) => valmay_any f w h)
  have HFD := hide hf
  have HV := hide hv
  have hln := hf.len
  obtain ⟨R, hR⟩ : ∃ z, mayE e = z := ⟨_, rfl⟩
  have hdef := hR
  unfold mayE at hdef
  rw [hln] at hdef
  rw [hR]
  obtain ⟨tb, htb⟩ : ∃ z, topicB e.topic = z := ⟨_, rfl⟩
  obtain ⟨pb, hpb⟩ : ∃ z, fieldB e.prod = z := ⟨_, rfl⟩
  rw [htb] at HT hdef
  rw [hpb] at HPF hdef
  obtain ⟨tv, htv⟩ : ∃ z, bs e.topic = z := ⟨_, rfl⟩
  obtain ⟨pv, hpv⟩ : ∃ z, bs e.prod = z := ⟨_, rfl⟩
  obtain ⟨sq, hsq⟩ : ∃ z, e.seq = z := ⟨_, rfl⟩
  rw [htv] at HT ⊢
  rw [hpv] at HPF ⊢
  rw [hsq] at i3 hdef ⊢
  obtain ⟨L, hL⟩ : ∃ z, e.l = z := ⟨_, rfl⟩
  rw [hL] at HFD hdef
  have HD := hide hdef
  have hb : Below w.heap.size w (w.alloc (.cells #[.string tv, .string pv, .int .u64 (sq : Int), .slice a n c] 37)) := (Below.refl _ _).alloc (Nat.le_refl _) _
  have hB := Blk.new w [.string tv, .string pv, .int .u64 (sq : Int), .slice a n c] 37
  obtain ⟨W0, hW0⟩ : ∃ z, w.alloc (.cells #[.string tv, .string pv, .int .u64 (sq : Int), .slice a n c] 37) = z := ⟨_, rfl⟩
  rw [hW0] at hb
  have C1 : Blk W0 w.heap.size [.string tv, .string pv, .int .u64 (sq : Int), .slice a n c] 37 := by rw [← hW0]; exact hB
  clear hR hdef htb hpb htv hpv hsq hf hv hL hB hln i1 i2
  go_enter Tryz.func17, Tryz.ntmps17
  go_upto_region 1 with fail
  try rw [hW0]
  clear hW0
  obtain ⟨b1, hb1⟩ : ∃ z, w.heap.size = z := ⟨_, rfl⟩
  rw [hb1] at C1 ⊢
  have HB1 := hide hb1
  clear hb1
  obtain ⟨p0, p1, p2, p3, p4, p5, p6, p7⟩ := C1.four
  go_wp2_with fail
  refine (HT.out _ (HV.out.next hb)).mono ?_
  rintro x w2 ⟨rfl, hb2⟩
  have D1 := C1.next hb2
  have hb3 := chain hb hb2
  clear p0 p1 p2 p3 p4 p5 p6 p7 C1 hb hb2 HT
  obtain ⟨p0, p1, p2, p3, p4, p5, p6, p7⟩ := D1.four
  cases tb with
  | false =>
    have e0 : R = false := by have := HD.out; simpa using this.symm
    subst e0
    clear HD
    go_wp2_with fail
    go_ret
    exact ⟨rfl, hb3⟩
  | true =>
    go_wp2_with fail
    refine (HPF.out _ (HV.out.next hb3)).mono ?_
    rintro x w4 ⟨rfl, hb4⟩
    have E1 := D1.next hb4
    have hb5 := chain hb3 hb4
    clear p0 p1 p2 p3 p4 p5 p6 p7 D1 hb3 hb4 HPF
    obtain ⟨p0, p1, p2, p3, p4, p5, p6, p7⟩ := E1.four
    cases pb with
    | false =>
      have e0 : R = false := by have := HD.out; simpa using this.symm
      subst e0
      clear HD
      go_wp2_with fail
      go_ret
      exact ⟨rfl, hb5⟩
    | true =>
      have HD2 : Hid ((decide (1 ≤ sq) && decide (n ≤ 8) && fdsB L n) = R) := hide (by have := HD.out; simpa using this)
      clear HD
      by_cases h1 : 1 ≤ sq
      · have h1i : ¬ (sq : Int) < 1 := by omega
        by_cases h8 : n ≤ 8
        · have h8i : ¬ (8 : Int) < (n : Int) := by omega
          have HD3 : Hid (fdsB L n = R) := hide (by have := HD2.out; rw [decide_eq_true h1, decide_eq_true h8] at this; simpa using this)
          clear HD2
          go_wp2_with fail
          clear p0 p1 p2 p3 p4 p5 p6 p7
          go_loopw [29] (fun s29 wr => ∃ i : Nat, i ≤ n ∧ s29 = .int .i64 (i : Int) ∧ Hid (fdsB L i = true) ∧ Below w.heap.size w wr ∧ Hid (Blk wr b1 [.string tv, .string pv, .int .u64 (sq : Int), .slice a n c] 37)) (fun s29 _ => n - (intOf s29).toNat)
          case atStart => exact ⟨0, Nat.zero_le _, rfl, hide rfl, hb5, hide E1⟩
          case round =>
            obtain ⟨i, hin, rfl, hall, hbw, hE⟩ := hrel
            clear E1 hb5
            by_cases hlt : i < n
            · obtain ⟨bx, ox, hlx, hix, x0, x1, x2, x3, hfi⟩ := (HFD.out.below hbw).at c i hlt
              have hfc := fdB_cases L i
              have HFi := hide (fun (w : World) (hv : Vars w) => HF.out (L.getD i .zero).name w hv hfi.2.1)
              have HVi := hide (fun (w : World) => HVM.out (L.getD i .zero) w hfi)
              have hlti : (i : Int) < (n : Int) := by omega
              have HNEXT : Hid (fdB L i = true → fdsB L (i + 1) = true) := hide (fun h => by rw [fdsB, hall.out, h]; rfl)
              have HFALSE : Hid (fdB L i = false → R = false) := hide (fun h => by rw [← HD3.out]; exact fdsB_false hlt h)
              have HPREV : Hid (0 < i → ∃ bp op, (∀ W, (Instr.indexAt 35 (.slice a n c) (.int .i64 ((i : Int) - 1))).run Tryz.prog W = .ok (.pointer (some ⟨bp, op, none⟩)) W) ∧ wr.cell? ⟨bp, op, none⟩ = some (.string (bs (L.getD (i - 1) .zero).name)) ∧ bp < wr.heap.size) := hide (fun h => by
                obtain ⟨bp, op, q1, q2, q3, _⟩ := (HFD.out.below hbw).at c (i - 1) (by omega)
                rw [show (((i - 1 : Nat) : Nat) : Int) = (i : Int) - 1 by omega] at q2
                exact ⟨bp, op, q2, q3, q1⟩)
              have hbl : ((bs (L.getD (i - 1) .zero).name).toList) = (L.getD (i - 1) .zero).name := by rw [ByteArray.toList_eq]; rfl
              have hbr : ((bs (L.getD i .zero).name).toList) = (L.getD i .zero).name := by rw [ByteArray.toList_eq]; rfl
              clear hfi
              obtain ⟨fnum, hfnum⟩ : ∃ z, (L.getD i .zero).num = z := ⟨_, rfl⟩
              obtain ⟨fn, hfn⟩ : ∃ z, (L.getD i .zero).n = z := ⟨_, rfl⟩
              obtain ⟨sv, hsv⟩ : ∃ z, bs (L.getD i .zero).s = z := ⟨_, rfl⟩
              obtain ⟨nv, hnv⟩ : ∃ z, bs (L.getD i .zero).name = z := ⟨_, rfl⟩
              obtain ⟨fb, hfb⟩ : ∃ z, fieldB (L.getD i .zero).name = z := ⟨_, rfl⟩
              obtain ⟨vb, hvb⟩ : ∃ z, valB (L.getD i .zero) = z := ⟨_, rfl⟩
              obtain ⟨db, hdb⟩ : ∃ z, fdB L i = z := ⟨_, rfl⟩
              rw [hfb] at HFi hfc
              rw [hvb] at HVi hfc
              rw [hdb] at HNEXT HFALSE hfc
              rw [← hbl, ← hbr] at hfc
              obtain ⟨pn, hpn⟩ : ∃ z, bs (L.getD (i - 1) .zero).name = z := ⟨_, rfl⟩
              rw [hpn] at hfc HPREV
              clear hbl hbr
              rw [hnv] at HFi x0 hfc
              rw [hfnum, hfn, hsv] at HVi
              rw [hfnum] at x1
              rw [hfn] at x2
              rw [hsv] at x3
              clear hfnum hfn hsv hnv hfb hvb hdb hpn
              have HFC := hide hfc
              have E2 := hE.out
              obtain ⟨p0, p1, p2, p3, p4, p5, p6, p7⟩ := E2.four
              have hal : Below wr.heap.size wr (wr.alloc (.cells #[.string nv, .bool fnum, .int .i64 fn, .string sv] 80)) := (Below.refl _ _).alloc (Nat.le_refl _) _
              have hFB := Blk.new wr [.string nv, .bool fnum, .int .i64 fn, .string sv] 80
              obtain ⟨W1, hW1⟩ : ∃ z, wr.alloc (.cells #[.string nv, .bool fnum, .int .i64 fn, .string sv] 80) = z := ⟨_, rfl⟩
              rw [hW1] at hal
              have F4 : Blk W1 wr.heap.size [.string nv, .bool fnum, .int .i64 fn, .string sv] 80 := by rw [← hW1]; exact hFB
              clear hfc hFB
              go_upto_region 6 with fail
              try rw [hW1]
              clear hW1
              obtain ⟨b4, hb4⟩ : ∃ z, wr.heap.size = z := ⟨_, rfl⟩
              have HB4 := hide hb4
              rw [hb4] at F4 ⊢
              clear hb4 p0 p1 p2 p3 p4 p5 p6 p7 x0 x1 x2 x3 hix
              have G1 := E2.next hal
              have hbx := chain hbw hal
              have HVW := hide (HV.out.next hbx)
              clear hnc i3 h1i h8i
              rcases HFC.out with ⟨rfl, rfl⟩ | ⟨rfl, rfl, rfl⟩ | ⟨rfl, rfl, rfl, rfl⟩ | ⟨rfl, rfl, h0, hless⟩
              · have HK := hide (fun w' (h : Below W1.heap.size W1 w') => show (fun w' => Below W1.heap.size W1 w' ∧ w'.cell? ⟨b4, 0, none⟩ = some (.string nv) ∧ w'.cell? ⟨b4, 1, none⟩ = some (.bool fnum) ∧ w'.cell? ⟨b4, 2, none⟩ = some (.int .i64 fn) ∧ w'.cell? ⟨b4, 3, none⟩ = some (.string sv) ∧ w'.cell? ⟨b1, 3, none⟩ = some (.slice a n c)) w' from ⟨h, (F4.next h).cell 0, (F4.next h).cell 1, (F4.next h).cell 2, (F4.next h).cell 3, (G1.next h).cell 3⟩)
                clear HFC
                have HR0 := hide (HFALSE.out rfl)
                clear HFALSE HNEXT
                refine wp_region_noPanic ?_
                refine wp_region_held_drew (S := (fun w' => Below W1.heap.size W1 w' ∧ w'.cell? ⟨b4, 0, none⟩ = some (.string nv) ∧ w'.cell? ⟨b4, 1, none⟩ = some (.bool fnum) ∧ w'.cell? ⟨b4, 2, none⟩ = some (.int .i64 fn) ∧ w'.cell? ⟨b4, 3, none⟩ = some (.string sv) ∧ w'.cell? ⟨b1, 3, none⟩ = some (.slice a n c))) (by kernel_rfl) ?_ (fun hHeld => ?_)
                · exact HK.out _ (Below.drewed (Below.refl _ _))
                refine wpAnyH_take (i := 0) (oi := { dst := some 34, op := Go.Op.fieldAddr 80 (Go.Operand.tmp 4) 0, type := 0, pos := "event.go:25", after := #[], guard := none }) (v := ?_) rfl (by kernel_rfl) (by kernel_rfl) (by kernel_rfl) (fun _ _ _ h => h) (Or.inl ⟨by rfl, ?_⟩) (by assumption) ?_
                rotate_left 1
                · intro w hSw
                  try dsimp only at hSw
                  first | (go_simp; done) | (go_simp; with_reducible rfl)
                try simp only [Act.put, List.setIfInBounds_toArray, List.set_cons_zero, List.set_cons_succ]
                refine wpAnyH_take (i := 1) (oi := { dst := some 35, op := Go.Op.load 9 (Go.Operand.tmp 34), type := 9, pos := "event.go:25", after := #[{ on := 0, ground := Go.Ground.data }], guard := none }) (v := ?_) rfl (by kernel_rfl) (by kernel_rfl) (by kernel_rfl) (fun _ _ _ h => h) (Or.inl ⟨by rfl, ?_⟩) (by assumption) ?_
                rotate_left 1
                · intro w hSw
                  try dsimp only at hSw
                  first | (go_simp; done) | (go_simp; with_reducible rfl)
                try simp only [Act.put, List.setIfInBounds_toArray, List.set_cons_zero, List.set_cons_succ]
                refine wpAnyH_ready (rs := [2]) (by kernel_rfl) (by simp) ?_
                refine AllReadyH.cons (o := { dst := some 36, op := Go.Op.call { callee := Go.Callee.value (Go.Operand.func 44), args := #[Go.Operand.tmp 35], argTypes := #[9] }, type := 4, pos := "event.go:25", after := #[{ on := 1, ground := Go.Ground.data }], guard := none }) rfl (fun K hK => ?_) ?_
                rotate_left 1
                · exact AllReadyH.nil
                go_simp
                have hq := (‹Below W1.heap.size W1 _ ∧ _›).1
                refine (HFi.out _ (HVW.out.next hq)).mono ?_
                rintro x w8 ⟨rfl, hb8⟩
                have hbq := hide (chain hq hb8)
                clear hq hb8
                refine hK.out _ _ ?_ (fun hHeld2 => ?_)
                · exact HK.out _ hbq.out
                clear hK K
                try simp only [Act.put, List.setIfInBounds_toArray, List.set_cons_zero, List.set_cons_succ]
                clear hHeld
                have hHeld := hHeld2
                clear hHeld2
                refine wpAnyH_take (i := 3) (oi := { dst := some 37, op := Go.Op.unOp Go.UnOp.not 4 (Go.Operand.tmp 36), type := 4, pos := "event.go:25", after := #[{ on := 2, ground := Go.Ground.data }], guard := none }) (v := ?_) rfl (by kernel_rfl) (by kernel_rfl) (by kernel_rfl) (fun _ _ _ h => h) (Or.inl ⟨by rfl, ?_⟩) (by assumption) ?_
                rotate_left 1
                · intro w hSw
                  try dsimp only at hSw
                  first | (go_simp; done) | (go_simp; with_reducible rfl)
                try simp only [Act.put, List.setIfInBounds_toArray, List.set_cons_zero, List.set_cons_succ]
                refine wpAnyH_take (i := 4) (oi := { dst := some 38, op := Go.Op.move (Go.Operand.tmp 37), type := 4, pos := "event.go:25", after := #[{ on := 3, ground := Go.Ground.data }, { on := 2, ground := Go.Ground.chain }], guard := none }) (v := ?_) rfl (by kernel_rfl) (by kernel_rfl) (by kernel_rfl) (fun _ _ _ h => h) (Or.inl ⟨by rfl, ?_⟩) (by assumption) ?_
                rotate_left 1
                · intro w hSw
                  try dsimp only at hSw
                  first | (go_simp; done) | (go_simp; with_reducible rfl)
                try simp only [Act.put, List.setIfInBounds_toArray, List.set_cons_zero, List.set_cons_succ]
                refine wpAnyH_take (i := 5) (oi := { dst := some 39, op := Go.Op.fieldAddr 80 (Go.Operand.tmp 4) 1, type := 0, pos := "event.go:25", after := #[{ on := 4, ground := Go.Ground.guard }], guard := some (4, false) }) (v := undef) rfl (by kernel_rfl) (by kernel_rfl) (by kernel_rfl) (fun _ _ _ h => h) (Or.inr ⟨by rfl, rfl⟩) (by assumption) ?_
                try simp only [Act.put, List.setIfInBounds_toArray, List.set_cons_zero, List.set_cons_succ]
                refine wpAnyH_take (i := 6) (oi := { dst := some 40, op := Go.Op.load 78 (Go.Operand.tmp 39), type := 78, pos := "event.go:25", after := #[{ on := 5, ground := Go.Ground.data }, { on := 4, ground := Go.Ground.guard }], guard := some (4, false) }) (v := undef) rfl (by kernel_rfl) (by kernel_rfl) (by kernel_rfl) (fun _ _ _ h => h) (Or.inr ⟨by rfl, rfl⟩) (by assumption) ?_
                try simp only [Act.put, List.setIfInBounds_toArray, List.set_cons_zero, List.set_cons_succ]
                refine wpAnyH_take (i := 7) (oi := { dst := some 41, op := Go.Op.call { callee := Go.Callee.value (Go.Operand.func 45), args := #[Go.Operand.tmp 40], argTypes := #[78] }, type := 4, pos := "event.go:25", after := #[{ on := 6, ground := Go.Ground.data }, { on := 4, ground := Go.Ground.chain }, { on := 4, ground := Go.Ground.guard }], guard := some (4, false) }) (v := undef) rfl (by kernel_rfl) (by kernel_rfl) (by kernel_rfl) (fun _ _ _ h => h) (Or.inr ⟨by rfl, rfl⟩) (by assumption) ?_
                try simp only [Act.put, List.setIfInBounds_toArray, List.set_cons_zero, List.set_cons_succ]
                refine wpAnyH_take (i := 8) (oi := { dst := some 42, op := Go.Op.unOp Go.UnOp.not 4 (Go.Operand.tmp 41), type := 4, pos := "event.go:25", after := #[{ on := 7, ground := Go.Ground.data }, { on := 4, ground := Go.Ground.guard }], guard := some (4, false) }) (v := undef) rfl (by kernel_rfl) (by kernel_rfl) (by kernel_rfl) (fun _ _ _ h => h) (Or.inr ⟨by rfl, rfl⟩) (by assumption) ?_
                try simp only [Act.put, List.setIfInBounds_toArray, List.set_cons_zero, List.set_cons_succ]
                refine wpAnyH_take (i := 9) (oi := { dst := some 43, op := Go.Op.pick (Go.Operand.tmp 38) (Go.Operand.const (Go.Value.bool true)) (Go.Operand.tmp 42), type := 4, pos := "event.go:25", after := #[{ on := 4, ground := Go.Ground.data }, { on := 8, ground := Go.Ground.data }], guard := none }) (v := ?_) rfl (by kernel_rfl) (by kernel_rfl) (by kernel_rfl) (fun _ _ _ h => h) (Or.inl ⟨by rfl, ?_⟩) (by assumption) ?_
                rotate_left 1
                · intro w hSw
                  try dsimp only at hSw
                  first | (go_simp; done) | (go_simp; with_reducible rfl)
                try simp only [Act.put, List.setIfInBounds_toArray, List.set_cons_zero, List.set_cons_succ]
                refine wpAnyH_take (i := 10) (oi := { dst := some 44, op := Go.Op.move (Go.Operand.tmp 43), type := 4, pos := "event.go:25", after := #[{ on := 9, ground := Go.Ground.data }, { on := 7, ground := Go.Ground.chain }], guard := none }) (v := ?_) rfl (by kernel_rfl) (by kernel_rfl) (by kernel_rfl) (fun _ _ _ h => h) (Or.inl ⟨by rfl, ?_⟩) (by assumption) ?_
                rotate_left 1
                · intro w hSw
                  try dsimp only at hSw
                  first | (go_simp; done) | (go_simp; with_reducible rfl)
                try simp only [Act.put, List.setIfInBounds_toArray, List.set_cons_zero, List.set_cons_succ]
                refine wpAnyH_take (i := 11) (oi := { dst := some 45, op := Go.Op.move (Go.Operand.tmp 3), type := 3, pos := "event.go:25", after := #[{ on := 10, ground := Go.Ground.guard }], guard := some (10, false) }) (v := undef) rfl (by kernel_rfl) (by kernel_rfl) (by kernel_rfl) (fun _ _ _ h => h) (Or.inr ⟨by rfl, rfl⟩) (by assumption) ?_
                try simp only [Act.put, List.setIfInBounds_toArray, List.set_cons_zero, List.set_cons_succ]
                refine wpAnyH_take (i := 12) (oi := { dst := some 46, op := Go.Op.binOp Go.BinOp.gtr 3 (Go.Operand.tmp 45) (Go.Operand.const (Go.Value.int Go.IntKind.i64 0)) 3, type := 4, pos := "event.go:25", after := #[{ on := 11, ground := Go.Ground.data }, { on := 10, ground := Go.Ground.guard }], guard := some (10, false) }) (v := undef) rfl (by kernel_rfl) (by kernel_rfl) (by kernel_rfl) (fun _ _ _ h => h) (Or.inr ⟨by rfl, rfl⟩) (by assumption) ?_
                try simp only [Act.put, List.setIfInBounds_toArray, List.set_cons_zero, List.set_cons_succ]
                refine wpAnyH_take (i := 13) (oi := { dst := some 47, op := Go.Op.move (Go.Operand.tmp 46), type := 4, pos := "event.go:25", after := #[{ on := 12, ground := Go.Ground.data }, { on := 10, ground := Go.Ground.chain }, { on := 10, ground := Go.Ground.guard }], guard := some (10, false) }) (v := undef) rfl (by kernel_rfl) (by kernel_rfl) (by kernel_rfl) (fun _ _ _ h => h) (Or.inr ⟨by rfl, rfl⟩) (by assumption) ?_
                try simp only [Act.put, List.setIfInBounds_toArray, List.set_cons_zero, List.set_cons_succ]
                refine wpAnyH_take (i := 14) (oi := { dst := some 48, op := Go.Op.fieldAddr 37 (Go.Operand.tmp 1) 3, type := 0, pos := "event.go:25", after := #[{ on := 13, ground := Go.Ground.guard }], guard := some (13, true) }) (v := undef) rfl (by kernel_rfl) (by kernel_rfl) (by kernel_rfl) (fun _ _ _ h => h) (Or.inr ⟨by rfl, rfl⟩) (by assumption) ?_
                try simp only [Act.put, List.setIfInBounds_toArray, List.set_cons_zero, List.set_cons_succ]
                refine wpAnyH_take (i := 15) (oi := { dst := some 49, op := Go.Op.load 35 (Go.Operand.tmp 48), type := 35, pos := "event.go:25", after := #[{ on := 14, ground := Go.Ground.data }, { on := 13, ground := Go.Ground.guard }], guard := some (13, true) }) (v := undef) rfl (by kernel_rfl) (by kernel_rfl) (by kernel_rfl) (fun _ _ _ h => h) (Or.inr ⟨by rfl, rfl⟩) (by assumption) ?_
                try simp only [Act.put, List.setIfInBounds_toArray, List.set_cons_zero, List.set_cons_succ]
                refine wpAnyH_take (i := 16) (oi := { dst := some 50, op := Go.Op.move (Go.Operand.tmp 3), type := 3, pos := "event.go:25", after := #[{ on := 13, ground := Go.Ground.guard }], guard := some (13, true) }) (v := undef) rfl (by kernel_rfl) (by kernel_rfl) (by kernel_rfl) (fun _ _ _ h => h) (Or.inr ⟨by rfl, rfl⟩) (by assumption) ?_
                try simp only [Act.put, List.setIfInBounds_toArray, List.set_cons_zero, List.set_cons_succ]
                refine wpAnyH_take (i := 17) (oi := { dst := some 51, op := Go.Op.binOp Go.BinOp.sub 3 (Go.Operand.tmp 50) (Go.Operand.const (Go.Value.int Go.IntKind.i64 1)) 3, type := 3, pos := "event.go:25", after := #[{ on := 16, ground := Go.Ground.data }, { on := 13, ground := Go.Ground.guard }], guard := some (13, true) }) (v := undef) rfl (by kernel_rfl) (by kernel_rfl) (by kernel_rfl) (fun _ _ _ h => h) (Or.inr ⟨by rfl, rfl⟩) (by assumption) ?_
                try simp only [Act.put, List.setIfInBounds_toArray, List.set_cons_zero, List.set_cons_succ]
                refine wpAnyH_take (i := 18) (oi := { dst := some 52, op := Go.Op.indexAddr 35 (Go.Operand.tmp 49) (Go.Operand.tmp 51), type := 0, pos := "event.go:25", after := #[{ on := 15, ground := Go.Ground.data }, { on := 17, ground := Go.Ground.data }, { on := 13, ground := Go.Ground.guard }], guard := some (13, true) }) (v := undef) rfl (by kernel_rfl) (by kernel_rfl) (by kernel_rfl) (fun _ _ _ h => h) (Or.inr ⟨by rfl, rfl⟩) (by assumption) ?_
                try simp only [Act.put, List.setIfInBounds_toArray, List.set_cons_zero, List.set_cons_succ]
                refine wpAnyH_take (i := 19) (oi := { dst := some 53, op := Go.Op.fieldAddr 80 (Go.Operand.tmp 52) 0, type := 0, pos := "event.go:25", after := #[{ on := 18, ground := Go.Ground.data }, { on := 13, ground := Go.Ground.guard }], guard := some (13, true) }) (v := undef) rfl (by kernel_rfl) (by kernel_rfl) (by kernel_rfl) (fun _ _ _ h => h) (Or.inr ⟨by rfl, rfl⟩) (by assumption) ?_
                try simp only [Act.put, List.setIfInBounds_toArray, List.set_cons_zero, List.set_cons_succ]
                refine wpAnyH_take (i := 20) (oi := { dst := some 54, op := Go.Op.load 9 (Go.Operand.tmp 53), type := 9, pos := "event.go:25", after := #[{ on := 19, ground := Go.Ground.data }, { on := 13, ground := Go.Ground.guard }], guard := some (13, true) }) (v := undef) rfl (by kernel_rfl) (by kernel_rfl) (by kernel_rfl) (fun _ _ _ h => h) (Or.inr ⟨by rfl, rfl⟩) (by assumption) ?_
                try simp only [Act.put, List.setIfInBounds_toArray, List.set_cons_zero, List.set_cons_succ]
                refine wpAnyH_take (i := 21) (oi := { dst := some 55, op := Go.Op.fieldAddr 80 (Go.Operand.tmp 4) 0, type := 0, pos := "event.go:25", after := #[{ on := 13, ground := Go.Ground.guard }], guard := some (13, true) }) (v := undef) rfl (by kernel_rfl) (by kernel_rfl) (by kernel_rfl) (fun _ _ _ h => h) (Or.inr ⟨by rfl, rfl⟩) (by assumption) ?_
                try simp only [Act.put, List.setIfInBounds_toArray, List.set_cons_zero, List.set_cons_succ]
                refine wpAnyH_take (i := 22) (oi := { dst := some 56, op := Go.Op.load 9 (Go.Operand.tmp 55), type := 9, pos := "event.go:25", after := #[{ on := 21, ground := Go.Ground.data }, { on := 13, ground := Go.Ground.guard }], guard := some (13, true) }) (v := undef) rfl (by kernel_rfl) (by kernel_rfl) (by kernel_rfl) (fun _ _ _ h => h) (Or.inr ⟨by rfl, rfl⟩) (by assumption) ?_
                try simp only [Act.put, List.setIfInBounds_toArray, List.set_cons_zero, List.set_cons_succ]
                refine wpAnyH_take (i := 23) (oi := { dst := some 57, op := Go.Op.binOp Go.BinOp.geq 9 (Go.Operand.tmp 54) (Go.Operand.tmp 56) 9, type := 4, pos := "event.go:25", after := #[{ on := 20, ground := Go.Ground.data }, { on := 22, ground := Go.Ground.data }, { on := 13, ground := Go.Ground.guard }], guard := some (13, true) }) (v := undef) rfl (by kernel_rfl) (by kernel_rfl) (by kernel_rfl) (fun _ _ _ h => h) (Or.inr ⟨by rfl, rfl⟩) (by assumption) ?_
                try simp only [Act.put, List.setIfInBounds_toArray, List.set_cons_zero, List.set_cons_succ]
                refine wpAnyH_take (i := 24) (oi := { dst := some 58, op := Go.Op.pick (Go.Operand.tmp 47) (Go.Operand.tmp 57) (Go.Operand.const (Go.Value.bool false)), type := 4, pos := "event.go:25", after := #[{ on := 13, ground := Go.Ground.data }, { on := 23, ground := Go.Ground.data }, { on := 10, ground := Go.Ground.guard }], guard := some (10, false) }) (v := undef) rfl (by kernel_rfl) (by kernel_rfl) (by kernel_rfl) (fun _ _ _ h => h) (Or.inr ⟨by rfl, rfl⟩) (by assumption) ?_
                try simp only [Act.put, List.setIfInBounds_toArray, List.set_cons_zero, List.set_cons_succ]
                refine wpAnyH_take (i := 25) (oi := { dst := some 59, op := Go.Op.pick (Go.Operand.tmp 44) (Go.Operand.const (Go.Value.bool true)) (Go.Operand.tmp 58), type := 4, pos := "event.go:25", after := #[{ on := 10, ground := Go.Ground.data }, { on := 24, ground := Go.Ground.data }], guard := none }) (v := ?_) rfl (by kernel_rfl) (by kernel_rfl) (by kernel_rfl) (fun _ _ _ h => h) (Or.inl ⟨by rfl, ?_⟩) (by assumption) ?_
                rotate_left 1
                · intro w hSw
                  try dsimp only at hSw
                  first | (go_simp; done) | (go_simp; with_reducible rfl)
                try simp only [Act.put, List.setIfInBounds_toArray, List.set_cons_zero, List.set_cons_succ]
                refine wpAnyH_done (by kernel_rfl) ?_ _
                refine NoPanic.normal ?_
                try dsimp only
                go_wp2_with fail
                go_ret
                rw [HR0.out]
                exact ⟨rfl, chain hbx hbq.out⟩
              · have HK := hide (fun w' (h : Below W1.heap.size W1 w') => show (fun w' => Below W1.heap.size W1 w' ∧ w'.cell? ⟨b4, 0, none⟩ = some (.string nv) ∧ w'.cell? ⟨b4, 1, none⟩ = some (.bool fnum) ∧ w'.cell? ⟨b4, 2, none⟩ = some (.int .i64 fn) ∧ w'.cell? ⟨b4, 3, none⟩ = some (.string sv) ∧ w'.cell? ⟨b1, 3, none⟩ = some (.slice a n c)) w' from ⟨h, (F4.next h).cell 0, (F4.next h).cell 1, (F4.next h).cell 2, (F4.next h).cell 3, (G1.next h).cell 3⟩)
                clear HFC
                have HR0 := hide (HFALSE.out rfl)
                clear HFALSE HNEXT
                refine wp_region_noPanic ?_
                refine wp_region_held_drew (S := (fun w' => Below W1.heap.size W1 w' ∧ w'.cell? ⟨b4, 0, none⟩ = some (.string nv) ∧ w'.cell? ⟨b4, 1, none⟩ = some (.bool fnum) ∧ w'.cell? ⟨b4, 2, none⟩ = some (.int .i64 fn) ∧ w'.cell? ⟨b4, 3, none⟩ = some (.string sv) ∧ w'.cell? ⟨b1, 3, none⟩ = some (.slice a n c))) (by kernel_rfl) ?_ (fun hHeld => ?_)
                · exact HK.out _ (Below.drewed (Below.refl _ _))
                refine wpAnyH_take (i := 0) (oi := { dst := some 34, op := Go.Op.fieldAddr 80 (Go.Operand.tmp 4) 0, type := 0, pos := "event.go:25", after := #[], guard := none }) (v := ?_) rfl (by kernel_rfl) (by kernel_rfl) (by kernel_rfl) (fun _ _ _ h => h) (Or.inl ⟨by rfl, ?_⟩) (by assumption) ?_
                rotate_left 1
                · intro w hSw
                  try dsimp only at hSw
                  first | (go_simp; done) | (go_simp; with_reducible rfl)
                try simp only [Act.put, List.setIfInBounds_toArray, List.set_cons_zero, List.set_cons_succ]
                refine wpAnyH_take (i := 1) (oi := { dst := some 35, op := Go.Op.load 9 (Go.Operand.tmp 34), type := 9, pos := "event.go:25", after := #[{ on := 0, ground := Go.Ground.data }], guard := none }) (v := ?_) rfl (by kernel_rfl) (by kernel_rfl) (by kernel_rfl) (fun _ _ _ h => h) (Or.inl ⟨by rfl, ?_⟩) (by assumption) ?_
                rotate_left 1
                · intro w hSw
                  try dsimp only at hSw
                  first | (go_simp; done) | (go_simp; with_reducible rfl)
                try simp only [Act.put, List.setIfInBounds_toArray, List.set_cons_zero, List.set_cons_succ]
                refine wpAnyH_ready (rs := [2]) (by kernel_rfl) (by simp) ?_
                refine AllReadyH.cons (o := { dst := some 36, op := Go.Op.call { callee := Go.Callee.value (Go.Operand.func 44), args := #[Go.Operand.tmp 35], argTypes := #[9] }, type := 4, pos := "event.go:25", after := #[{ on := 1, ground := Go.Ground.data }], guard := none }) rfl (fun K hK => ?_) ?_
                rotate_left 1
                · exact AllReadyH.nil
                go_simp
                have hq := (‹Below W1.heap.size W1 _ ∧ _›).1
                refine (HFi.out _ (HVW.out.next hq)).mono ?_
                rintro x w8 ⟨rfl, hb8⟩
                have hbq := hide (chain hq hb8)
                clear hq hb8
                refine hK.out _ _ ?_ (fun hHeld2 => ?_)
                · exact HK.out _ hbq.out
                clear hK K
                try simp only [Act.put, List.setIfInBounds_toArray, List.set_cons_zero, List.set_cons_succ]
                clear hHeld
                have hHeld := hHeld2
                clear hHeld2
                refine wpAnyH_take (i := 3) (oi := { dst := some 37, op := Go.Op.unOp Go.UnOp.not 4 (Go.Operand.tmp 36), type := 4, pos := "event.go:25", after := #[{ on := 2, ground := Go.Ground.data }], guard := none }) (v := ?_) rfl (by kernel_rfl) (by kernel_rfl) (by kernel_rfl) (fun _ _ _ h => h) (Or.inl ⟨by rfl, ?_⟩) (by assumption) ?_
                rotate_left 1
                · intro w hSw
                  try dsimp only at hSw
                  first | (go_simp; done) | (go_simp; with_reducible rfl)
                try simp only [Act.put, List.setIfInBounds_toArray, List.set_cons_zero, List.set_cons_succ]
                refine wpAnyH_take (i := 4) (oi := { dst := some 38, op := Go.Op.move (Go.Operand.tmp 37), type := 4, pos := "event.go:25", after := #[{ on := 3, ground := Go.Ground.data }, { on := 2, ground := Go.Ground.chain }], guard := none }) (v := ?_) rfl (by kernel_rfl) (by kernel_rfl) (by kernel_rfl) (fun _ _ _ h => h) (Or.inl ⟨by rfl, ?_⟩) (by assumption) ?_
                rotate_left 1
                · intro w hSw
                  try dsimp only at hSw
                  first | (go_simp; done) | (go_simp; with_reducible rfl)
                try simp only [Act.put, List.setIfInBounds_toArray, List.set_cons_zero, List.set_cons_succ]
                refine wpAnyH_take (i := 5) (oi := { dst := some 39, op := Go.Op.fieldAddr 80 (Go.Operand.tmp 4) 1, type := 0, pos := "event.go:25", after := #[{ on := 4, ground := Go.Ground.guard }], guard := some (4, false) }) (v := ?_) rfl (by kernel_rfl) (by kernel_rfl) (by kernel_rfl) (fun _ _ _ h => h) (Or.inl ⟨by rfl, ?_⟩) (by assumption) ?_
                rotate_left 1
                · intro w hSw
                  try dsimp only at hSw
                  first | (go_simp; done) | (go_simp; with_reducible rfl)
                try simp only [Act.put, List.setIfInBounds_toArray, List.set_cons_zero, List.set_cons_succ]
                refine wpAnyH_take (i := 6) (oi := { dst := some 40, op := Go.Op.load 78 (Go.Operand.tmp 39), type := 78, pos := "event.go:25", after := #[{ on := 5, ground := Go.Ground.data }, { on := 4, ground := Go.Ground.guard }], guard := some (4, false) }) (v := ?_) rfl (by kernel_rfl) (by kernel_rfl) (by kernel_rfl) (fun _ _ _ h => h) (Or.inl ⟨by rfl, ?_⟩) (by assumption) ?_
                rotate_left 1
                · intro w hSw
                  try dsimp only at hSw
                  first | (go_simp; done) | (go_simp; with_reducible rfl)
                try simp only [Act.put, List.setIfInBounds_toArray, List.set_cons_zero, List.set_cons_succ]
                refine wpAnyH_ready (rs := [7]) (by kernel_rfl) (by simp) ?_
                refine AllReadyH.cons (o := { dst := some 41, op := Go.Op.call { callee := Go.Callee.value (Go.Operand.func 45), args := #[Go.Operand.tmp 40], argTypes := #[78] }, type := 4, pos := "event.go:25", after := #[{ on := 6, ground := Go.Ground.data }, { on := 4, ground := Go.Ground.chain }, { on := 4, ground := Go.Ground.guard }], guard := some (4, false) }) rfl (fun K hK => ?_) ?_
                rotate_left 1
                · exact AllReadyH.nil
                go_simp
                have hq := (‹Below W1.heap.size W1 _ ∧ _›).1
                refine (HVi.out _).mono ?_
                rintro x w8 ⟨rfl, hb8⟩
                have hbq := hide (chain hq hb8)
                clear hq hb8
                refine hK.out _ _ ?_ (fun hHeld2 => ?_)
                · exact HK.out _ hbq.out
                clear hK K
                try simp only [Act.put, List.setIfInBounds_toArray, List.set_cons_zero, List.set_cons_succ]
                clear hHeld
                have hHeld := hHeld2
                clear hHeld2
                refine wpAnyH_take (i := 8) (oi := { dst := some 42, op := Go.Op.unOp Go.UnOp.not 4 (Go.Operand.tmp 41), type := 4, pos := "event.go:25", after := #[{ on := 7, ground := Go.Ground.data }, { on := 4, ground := Go.Ground.guard }], guard := some (4, false) }) (v := ?_) rfl (by kernel_rfl) (by kernel_rfl) (by kernel_rfl) (fun _ _ _ h => h) (Or.inl ⟨by rfl, ?_⟩) (by assumption) ?_
                rotate_left 1
                · intro w hSw
                  try dsimp only at hSw
                  first | (go_simp; done) | (go_simp; with_reducible rfl)
                try simp only [Act.put, List.setIfInBounds_toArray, List.set_cons_zero, List.set_cons_succ]
                refine wpAnyH_take (i := 9) (oi := { dst := some 43, op := Go.Op.pick (Go.Operand.tmp 38) (Go.Operand.const (Go.Value.bool true)) (Go.Operand.tmp 42), type := 4, pos := "event.go:25", after := #[{ on := 4, ground := Go.Ground.data }, { on := 8, ground := Go.Ground.data }], guard := none }) (v := ?_) rfl (by kernel_rfl) (by kernel_rfl) (by kernel_rfl) (fun _ _ _ h => h) (Or.inl ⟨by rfl, ?_⟩) (by assumption) ?_
                rotate_left 1
                · intro w hSw
                  try dsimp only at hSw
                  first | (go_simp; done) | (go_simp; with_reducible rfl)
                try simp only [Act.put, List.setIfInBounds_toArray, List.set_cons_zero, List.set_cons_succ]
                refine wpAnyH_take (i := 10) (oi := { dst := some 44, op := Go.Op.move (Go.Operand.tmp 43), type := 4, pos := "event.go:25", after := #[{ on := 9, ground := Go.Ground.data }, { on := 7, ground := Go.Ground.chain }], guard := none }) (v := ?_) rfl (by kernel_rfl) (by kernel_rfl) (by kernel_rfl) (fun _ _ _ h => h) (Or.inl ⟨by rfl, ?_⟩) (by assumption) ?_
                rotate_left 1
                · intro w hSw
                  try dsimp only at hSw
                  first | (go_simp; done) | (go_simp; with_reducible rfl)
                try simp only [Act.put, List.setIfInBounds_toArray, List.set_cons_zero, List.set_cons_succ]
                refine wpAnyH_take (i := 11) (oi := { dst := some 45, op := Go.Op.move (Go.Operand.tmp 3), type := 3, pos := "event.go:25", after := #[{ on := 10, ground := Go.Ground.guard }], guard := some (10, false) }) (v := undef) rfl (by kernel_rfl) (by kernel_rfl) (by kernel_rfl) (fun _ _ _ h => h) (Or.inr ⟨by rfl, rfl⟩) (by assumption) ?_
                try simp only [Act.put, List.setIfInBounds_toArray, List.set_cons_zero, List.set_cons_succ]
                refine wpAnyH_take (i := 12) (oi := { dst := some 46, op := Go.Op.binOp Go.BinOp.gtr 3 (Go.Operand.tmp 45) (Go.Operand.const (Go.Value.int Go.IntKind.i64 0)) 3, type := 4, pos := "event.go:25", after := #[{ on := 11, ground := Go.Ground.data }, { on := 10, ground := Go.Ground.guard }], guard := some (10, false) }) (v := undef) rfl (by kernel_rfl) (by kernel_rfl) (by kernel_rfl) (fun _ _ _ h => h) (Or.inr ⟨by rfl, rfl⟩) (by assumption) ?_
                try simp only [Act.put, List.setIfInBounds_toArray, List.set_cons_zero, List.set_cons_succ]
                refine wpAnyH_take (i := 13) (oi := { dst := some 47, op := Go.Op.move (Go.Operand.tmp 46), type := 4, pos := "event.go:25", after := #[{ on := 12, ground := Go.Ground.data }, { on := 10, ground := Go.Ground.chain }, { on := 10, ground := Go.Ground.guard }], guard := some (10, false) }) (v := undef) rfl (by kernel_rfl) (by kernel_rfl) (by kernel_rfl) (fun _ _ _ h => h) (Or.inr ⟨by rfl, rfl⟩) (by assumption) ?_
                try simp only [Act.put, List.setIfInBounds_toArray, List.set_cons_zero, List.set_cons_succ]
                refine wpAnyH_take (i := 14) (oi := { dst := some 48, op := Go.Op.fieldAddr 37 (Go.Operand.tmp 1) 3, type := 0, pos := "event.go:25", after := #[{ on := 13, ground := Go.Ground.guard }], guard := some (13, true) }) (v := undef) rfl (by kernel_rfl) (by kernel_rfl) (by kernel_rfl) (fun _ _ _ h => h) (Or.inr ⟨by rfl, rfl⟩) (by assumption) ?_
                try simp only [Act.put, List.setIfInBounds_toArray, List.set_cons_zero, List.set_cons_succ]
                refine wpAnyH_take (i := 15) (oi := { dst := some 49, op := Go.Op.load 35 (Go.Operand.tmp 48), type := 35, pos := "event.go:25", after := #[{ on := 14, ground := Go.Ground.data }, { on := 13, ground := Go.Ground.guard }], guard := some (13, true) }) (v := undef) rfl (by kernel_rfl) (by kernel_rfl) (by kernel_rfl) (fun _ _ _ h => h) (Or.inr ⟨by rfl, rfl⟩) (by assumption) ?_
                try simp only [Act.put, List.setIfInBounds_toArray, List.set_cons_zero, List.set_cons_succ]
                refine wpAnyH_take (i := 16) (oi := { dst := some 50, op := Go.Op.move (Go.Operand.tmp 3), type := 3, pos := "event.go:25", after := #[{ on := 13, ground := Go.Ground.guard }], guard := some (13, true) }) (v := undef) rfl (by kernel_rfl) (by kernel_rfl) (by kernel_rfl) (fun _ _ _ h => h) (Or.inr ⟨by rfl, rfl⟩) (by assumption) ?_
                try simp only [Act.put, List.setIfInBounds_toArray, List.set_cons_zero, List.set_cons_succ]
                refine wpAnyH_take (i := 17) (oi := { dst := some 51, op := Go.Op.binOp Go.BinOp.sub 3 (Go.Operand.tmp 50) (Go.Operand.const (Go.Value.int Go.IntKind.i64 1)) 3, type := 3, pos := "event.go:25", after := #[{ on := 16, ground := Go.Ground.data }, { on := 13, ground := Go.Ground.guard }], guard := some (13, true) }) (v := undef) rfl (by kernel_rfl) (by kernel_rfl) (by kernel_rfl) (fun _ _ _ h => h) (Or.inr ⟨by rfl, rfl⟩) (by assumption) ?_
                try simp only [Act.put, List.setIfInBounds_toArray, List.set_cons_zero, List.set_cons_succ]
                refine wpAnyH_take (i := 18) (oi := { dst := some 52, op := Go.Op.indexAddr 35 (Go.Operand.tmp 49) (Go.Operand.tmp 51), type := 0, pos := "event.go:25", after := #[{ on := 15, ground := Go.Ground.data }, { on := 17, ground := Go.Ground.data }, { on := 13, ground := Go.Ground.guard }], guard := some (13, true) }) (v := undef) rfl (by kernel_rfl) (by kernel_rfl) (by kernel_rfl) (fun _ _ _ h => h) (Or.inr ⟨by rfl, rfl⟩) (by assumption) ?_
                try simp only [Act.put, List.setIfInBounds_toArray, List.set_cons_zero, List.set_cons_succ]
                refine wpAnyH_take (i := 19) (oi := { dst := some 53, op := Go.Op.fieldAddr 80 (Go.Operand.tmp 52) 0, type := 0, pos := "event.go:25", after := #[{ on := 18, ground := Go.Ground.data }, { on := 13, ground := Go.Ground.guard }], guard := some (13, true) }) (v := undef) rfl (by kernel_rfl) (by kernel_rfl) (by kernel_rfl) (fun _ _ _ h => h) (Or.inr ⟨by rfl, rfl⟩) (by assumption) ?_
                try simp only [Act.put, List.setIfInBounds_toArray, List.set_cons_zero, List.set_cons_succ]
                refine wpAnyH_take (i := 20) (oi := { dst := some 54, op := Go.Op.load 9 (Go.Operand.tmp 53), type := 9, pos := "event.go:25", after := #[{ on := 19, ground := Go.Ground.data }, { on := 13, ground := Go.Ground.guard }], guard := some (13, true) }) (v := undef) rfl (by kernel_rfl) (by kernel_rfl) (by kernel_rfl) (fun _ _ _ h => h) (Or.inr ⟨by rfl, rfl⟩) (by assumption) ?_
                try simp only [Act.put, List.setIfInBounds_toArray, List.set_cons_zero, List.set_cons_succ]
                refine wpAnyH_take (i := 21) (oi := { dst := some 55, op := Go.Op.fieldAddr 80 (Go.Operand.tmp 4) 0, type := 0, pos := "event.go:25", after := #[{ on := 13, ground := Go.Ground.guard }], guard := some (13, true) }) (v := undef) rfl (by kernel_rfl) (by kernel_rfl) (by kernel_rfl) (fun _ _ _ h => h) (Or.inr ⟨by rfl, rfl⟩) (by assumption) ?_
                try simp only [Act.put, List.setIfInBounds_toArray, List.set_cons_zero, List.set_cons_succ]
                refine wpAnyH_take (i := 22) (oi := { dst := some 56, op := Go.Op.load 9 (Go.Operand.tmp 55), type := 9, pos := "event.go:25", after := #[{ on := 21, ground := Go.Ground.data }, { on := 13, ground := Go.Ground.guard }], guard := some (13, true) }) (v := undef) rfl (by kernel_rfl) (by kernel_rfl) (by kernel_rfl) (fun _ _ _ h => h) (Or.inr ⟨by rfl, rfl⟩) (by assumption) ?_
                try simp only [Act.put, List.setIfInBounds_toArray, List.set_cons_zero, List.set_cons_succ]
                refine wpAnyH_take (i := 23) (oi := { dst := some 57, op := Go.Op.binOp Go.BinOp.geq 9 (Go.Operand.tmp 54) (Go.Operand.tmp 56) 9, type := 4, pos := "event.go:25", after := #[{ on := 20, ground := Go.Ground.data }, { on := 22, ground := Go.Ground.data }, { on := 13, ground := Go.Ground.guard }], guard := some (13, true) }) (v := undef) rfl (by kernel_rfl) (by kernel_rfl) (by kernel_rfl) (fun _ _ _ h => h) (Or.inr ⟨by rfl, rfl⟩) (by assumption) ?_
                try simp only [Act.put, List.setIfInBounds_toArray, List.set_cons_zero, List.set_cons_succ]
                refine wpAnyH_take (i := 24) (oi := { dst := some 58, op := Go.Op.pick (Go.Operand.tmp 47) (Go.Operand.tmp 57) (Go.Operand.const (Go.Value.bool false)), type := 4, pos := "event.go:25", after := #[{ on := 13, ground := Go.Ground.data }, { on := 23, ground := Go.Ground.data }, { on := 10, ground := Go.Ground.guard }], guard := some (10, false) }) (v := undef) rfl (by kernel_rfl) (by kernel_rfl) (by kernel_rfl) (fun _ _ _ h => h) (Or.inr ⟨by rfl, rfl⟩) (by assumption) ?_
                try simp only [Act.put, List.setIfInBounds_toArray, List.set_cons_zero, List.set_cons_succ]
                refine wpAnyH_take (i := 25) (oi := { dst := some 59, op := Go.Op.pick (Go.Operand.tmp 44) (Go.Operand.const (Go.Value.bool true)) (Go.Operand.tmp 58), type := 4, pos := "event.go:25", after := #[{ on := 10, ground := Go.Ground.data }, { on := 24, ground := Go.Ground.data }], guard := none }) (v := ?_) rfl (by kernel_rfl) (by kernel_rfl) (by kernel_rfl) (fun _ _ _ h => h) (Or.inl ⟨by rfl, ?_⟩) (by assumption) ?_
                rotate_left 1
                · intro w hSw
                  try dsimp only at hSw
                  first | (go_simp; done) | (go_simp; with_reducible rfl)
                try simp only [Act.put, List.setIfInBounds_toArray, List.set_cons_zero, List.set_cons_succ]
                refine wpAnyH_done (by kernel_rfl) ?_ _
                refine NoPanic.normal ?_
                try dsimp only
                go_wp2_with fail
                go_ret
                rw [HR0.out]
                exact ⟨rfl, chain hbx hbq.out⟩
              · have HK := hide (fun w' (h : Below W1.heap.size W1 w') => show (fun w' => Below W1.heap.size W1 w' ∧ w'.cell? ⟨b4, 0, none⟩ = some (.string nv) ∧ w'.cell? ⟨b4, 1, none⟩ = some (.bool fnum) ∧ w'.cell? ⟨b4, 2, none⟩ = some (.int .i64 fn) ∧ w'.cell? ⟨b4, 3, none⟩ = some (.string sv) ∧ w'.cell? ⟨b1, 3, none⟩ = some (.slice a n c)) w' from ⟨h, (F4.next h).cell 0, (F4.next h).cell 1, (F4.next h).cell 2, (F4.next h).cell 3, (G1.next h).cell 3⟩)
                have d0 : decide ((0 : Int) < ((0 : Nat) : Int)) = false := rfl
                clear HFC
                have HNX := hide (HNEXT.out rfl)
                clear HFALSE HNEXT
                refine wp_region_noPanic ?_
                refine wp_region_held_drew (S := (fun w' => Below W1.heap.size W1 w' ∧ w'.cell? ⟨b4, 0, none⟩ = some (.string nv) ∧ w'.cell? ⟨b4, 1, none⟩ = some (.bool fnum) ∧ w'.cell? ⟨b4, 2, none⟩ = some (.int .i64 fn) ∧ w'.cell? ⟨b4, 3, none⟩ = some (.string sv) ∧ w'.cell? ⟨b1, 3, none⟩ = some (.slice a n c))) (by kernel_rfl) ?_ (fun hHeld => ?_)
                · exact HK.out _ (Below.drewed (Below.refl _ _))
                refine wpAnyH_take (i := 0) (oi := { dst := some 34, op := Go.Op.fieldAddr 80 (Go.Operand.tmp 4) 0, type := 0, pos := "event.go:25", after := #[], guard := none }) (v := ?_) rfl (by kernel_rfl) (by kernel_rfl) (by kernel_rfl) (fun _ _ _ h => h) (Or.inl ⟨by rfl, ?_⟩) (by assumption) ?_
                rotate_left 1
                · intro w hSw
                  try dsimp only at hSw
                  first | (go_simp; done) | (go_simp; with_reducible rfl)
                try simp only [Act.put, List.setIfInBounds_toArray, List.set_cons_zero, List.set_cons_succ]
                refine wpAnyH_take (i := 1) (oi := { dst := some 35, op := Go.Op.load 9 (Go.Operand.tmp 34), type := 9, pos := "event.go:25", after := #[{ on := 0, ground := Go.Ground.data }], guard := none }) (v := ?_) rfl (by kernel_rfl) (by kernel_rfl) (by kernel_rfl) (fun _ _ _ h => h) (Or.inl ⟨by rfl, ?_⟩) (by assumption) ?_
                rotate_left 1
                · intro w hSw
                  try dsimp only at hSw
                  first | (go_simp; done) | (go_simp; with_reducible rfl)
                try simp only [Act.put, List.setIfInBounds_toArray, List.set_cons_zero, List.set_cons_succ]
                refine wpAnyH_ready (rs := [2]) (by kernel_rfl) (by simp) ?_
                refine AllReadyH.cons (o := { dst := some 36, op := Go.Op.call { callee := Go.Callee.value (Go.Operand.func 44), args := #[Go.Operand.tmp 35], argTypes := #[9] }, type := 4, pos := "event.go:25", after := #[{ on := 1, ground := Go.Ground.data }], guard := none }) rfl (fun K hK => ?_) ?_
                rotate_left 1
                · exact AllReadyH.nil
                go_simp
                have hq := (‹Below W1.heap.size W1 _ ∧ _›).1
                refine (HFi.out _ (HVW.out.next hq)).mono ?_
                rintro x w8 ⟨rfl, hb8⟩
                have hbq := hide (chain hq hb8)
                clear hq hb8
                refine hK.out _ _ ?_ (fun hHeld2 => ?_)
                · exact HK.out _ hbq.out
                clear hK K
                try simp only [Act.put, List.setIfInBounds_toArray, List.set_cons_zero, List.set_cons_succ]
                clear hHeld
                have hHeld := hHeld2
                clear hHeld2
                refine wpAnyH_take (i := 3) (oi := { dst := some 37, op := Go.Op.unOp Go.UnOp.not 4 (Go.Operand.tmp 36), type := 4, pos := "event.go:25", after := #[{ on := 2, ground := Go.Ground.data }], guard := none }) (v := ?_) rfl (by kernel_rfl) (by kernel_rfl) (by kernel_rfl) (fun _ _ _ h => h) (Or.inl ⟨by rfl, ?_⟩) (by assumption) ?_
                rotate_left 1
                · intro w hSw
                  try dsimp only at hSw
                  first | (go_simp; done) | (go_simp; with_reducible rfl)
                try simp only [Act.put, List.setIfInBounds_toArray, List.set_cons_zero, List.set_cons_succ]
                refine wpAnyH_take (i := 4) (oi := { dst := some 38, op := Go.Op.move (Go.Operand.tmp 37), type := 4, pos := "event.go:25", after := #[{ on := 3, ground := Go.Ground.data }, { on := 2, ground := Go.Ground.chain }], guard := none }) (v := ?_) rfl (by kernel_rfl) (by kernel_rfl) (by kernel_rfl) (fun _ _ _ h => h) (Or.inl ⟨by rfl, ?_⟩) (by assumption) ?_
                rotate_left 1
                · intro w hSw
                  try dsimp only at hSw
                  first | (go_simp; done) | (go_simp; with_reducible rfl)
                try simp only [Act.put, List.setIfInBounds_toArray, List.set_cons_zero, List.set_cons_succ]
                refine wpAnyH_take (i := 5) (oi := { dst := some 39, op := Go.Op.fieldAddr 80 (Go.Operand.tmp 4) 1, type := 0, pos := "event.go:25", after := #[{ on := 4, ground := Go.Ground.guard }], guard := some (4, false) }) (v := ?_) rfl (by kernel_rfl) (by kernel_rfl) (by kernel_rfl) (fun _ _ _ h => h) (Or.inl ⟨by rfl, ?_⟩) (by assumption) ?_
                rotate_left 1
                · intro w hSw
                  try dsimp only at hSw
                  first | (go_simp; done) | (go_simp; with_reducible rfl)
                try simp only [Act.put, List.setIfInBounds_toArray, List.set_cons_zero, List.set_cons_succ]
                refine wpAnyH_take (i := 6) (oi := { dst := some 40, op := Go.Op.load 78 (Go.Operand.tmp 39), type := 78, pos := "event.go:25", after := #[{ on := 5, ground := Go.Ground.data }, { on := 4, ground := Go.Ground.guard }], guard := some (4, false) }) (v := ?_) rfl (by kernel_rfl) (by kernel_rfl) (by kernel_rfl) (fun _ _ _ h => h) (Or.inl ⟨by rfl, ?_⟩) (by assumption) ?_
                rotate_left 1
                · intro w hSw
                  try dsimp only at hSw
                  first | (go_simp; done) | (go_simp; with_reducible rfl)
                try simp only [Act.put, List.setIfInBounds_toArray, List.set_cons_zero, List.set_cons_succ]
                refine wpAnyH_ready (rs := [7]) (by kernel_rfl) (by simp) ?_
                refine AllReadyH.cons (o := { dst := some 41, op := Go.Op.call { callee := Go.Callee.value (Go.Operand.func 45), args := #[Go.Operand.tmp 40], argTypes := #[78] }, type := 4, pos := "event.go:25", after := #[{ on := 6, ground := Go.Ground.data }, { on := 4, ground := Go.Ground.chain }, { on := 4, ground := Go.Ground.guard }], guard := some (4, false) }) rfl (fun K hK => ?_) ?_
                rotate_left 1
                · exact AllReadyH.nil
                go_simp
                have hq := (‹Below W1.heap.size W1 _ ∧ _›).1
                refine (HVi.out _).mono ?_
                rintro x w8 ⟨rfl, hb8⟩
                have hbq := hide (chain hq hb8)
                clear hq hb8
                refine hK.out _ _ ?_ (fun hHeld2 => ?_)
                · exact HK.out _ hbq.out
                clear hK K
                try simp only [Act.put, List.setIfInBounds_toArray, List.set_cons_zero, List.set_cons_succ]
                clear hHeld
                have hHeld := hHeld2
                clear hHeld2
                refine wpAnyH_take (i := 8) (oi := { dst := some 42, op := Go.Op.unOp Go.UnOp.not 4 (Go.Operand.tmp 41), type := 4, pos := "event.go:25", after := #[{ on := 7, ground := Go.Ground.data }, { on := 4, ground := Go.Ground.guard }], guard := some (4, false) }) (v := ?_) rfl (by kernel_rfl) (by kernel_rfl) (by kernel_rfl) (fun _ _ _ h => h) (Or.inl ⟨by rfl, ?_⟩) (by assumption) ?_
                rotate_left 1
                · intro w hSw
                  try dsimp only at hSw
                  first | (go_simp; done) | (go_simp; with_reducible rfl)
                try simp only [Act.put, List.setIfInBounds_toArray, List.set_cons_zero, List.set_cons_succ]
                refine wpAnyH_take (i := 9) (oi := { dst := some 43, op := Go.Op.pick (Go.Operand.tmp 38) (Go.Operand.const (Go.Value.bool true)) (Go.Operand.tmp 42), type := 4, pos := "event.go:25", after := #[{ on := 4, ground := Go.Ground.data }, { on := 8, ground := Go.Ground.data }], guard := none }) (v := ?_) rfl (by kernel_rfl) (by kernel_rfl) (by kernel_rfl) (fun _ _ _ h => h) (Or.inl ⟨by rfl, ?_⟩) (by assumption) ?_
                rotate_left 1
                · intro w hSw
                  try dsimp only at hSw
                  first | (go_simp; done) | (go_simp; with_reducible rfl)
                try simp only [Act.put, List.setIfInBounds_toArray, List.set_cons_zero, List.set_cons_succ]
                refine wpAnyH_take (i := 10) (oi := { dst := some 44, op := Go.Op.move (Go.Operand.tmp 43), type := 4, pos := "event.go:25", after := #[{ on := 9, ground := Go.Ground.data }, { on := 7, ground := Go.Ground.chain }], guard := none }) (v := ?_) rfl (by kernel_rfl) (by kernel_rfl) (by kernel_rfl) (fun _ _ _ h => h) (Or.inl ⟨by rfl, ?_⟩) (by assumption) ?_
                rotate_left 1
                · intro w hSw
                  try dsimp only at hSw
                  first | (go_simp; done) | (go_simp; with_reducible rfl)
                try simp only [Act.put, List.setIfInBounds_toArray, List.set_cons_zero, List.set_cons_succ]
                refine wpAnyH_take (i := 11) (oi := { dst := some 45, op := Go.Op.move (Go.Operand.tmp 3), type := 3, pos := "event.go:25", after := #[{ on := 10, ground := Go.Ground.guard }], guard := some (10, false) }) (v := ?_) rfl (by kernel_rfl) (by kernel_rfl) (by kernel_rfl) (fun _ _ _ h => h) (Or.inl ⟨by rfl, ?_⟩) (by assumption) ?_
                rotate_left 1
                · intro w hSw
                  try dsimp only at hSw
                  first | (go_simp; done) | (go_simp; with_reducible rfl)
                try simp only [Act.put, List.setIfInBounds_toArray, List.set_cons_zero, List.set_cons_succ]
                refine wpAnyH_take (i := 12) (oi := { dst := some 46, op := Go.Op.binOp Go.BinOp.gtr 3 (Go.Operand.tmp 45) (Go.Operand.const (Go.Value.int Go.IntKind.i64 0)) 3, type := 4, pos := "event.go:25", after := #[{ on := 11, ground := Go.Ground.data }, { on := 10, ground := Go.Ground.guard }], guard := some (10, false) }) (v := ?_) rfl (by kernel_rfl) (by kernel_rfl) (by kernel_rfl) (fun _ _ _ h => h) (Or.inl ⟨by rfl, ?_⟩) (by assumption) ?_
                rotate_left 1
                · intro w hSw
                  try dsimp only at hSw
                  first | (go_simp; done) | (go_simp; with_reducible rfl)
                try simp only [Act.put, List.setIfInBounds_toArray, List.set_cons_zero, List.set_cons_succ]
                refine wpAnyH_take (i := 13) (oi := { dst := some 47, op := Go.Op.move (Go.Operand.tmp 46), type := 4, pos := "event.go:25", after := #[{ on := 12, ground := Go.Ground.data }, { on := 10, ground := Go.Ground.chain }, { on := 10, ground := Go.Ground.guard }], guard := some (10, false) }) (v := ?_) rfl (by kernel_rfl) (by kernel_rfl) (by kernel_rfl) (fun _ _ _ h => h) (Or.inl ⟨by rfl, ?_⟩) (by assumption) ?_
                rotate_left 1
                · intro w hSw
                  try dsimp only at hSw
                  first | (go_simp; done) | (go_simp; with_reducible rfl)
                try simp only [Act.put, List.setIfInBounds_toArray, List.set_cons_zero, List.set_cons_succ]
                refine wpAnyH_take (i := 14) (oi := { dst := some 48, op := Go.Op.fieldAddr 37 (Go.Operand.tmp 1) 3, type := 0, pos := "event.go:25", after := #[{ on := 13, ground := Go.Ground.guard }], guard := some (13, true) }) (v := undef) rfl (by kernel_rfl) (by kernel_rfl) (by kernel_rfl) (fun _ _ _ h => h) (Or.inr ⟨by rfl, rfl⟩) (by assumption) ?_
                try simp only [Act.put, List.setIfInBounds_toArray, List.set_cons_zero, List.set_cons_succ]
                refine wpAnyH_take (i := 15) (oi := { dst := some 49, op := Go.Op.load 35 (Go.Operand.tmp 48), type := 35, pos := "event.go:25", after := #[{ on := 14, ground := Go.Ground.data }, { on := 13, ground := Go.Ground.guard }], guard := some (13, true) }) (v := undef) rfl (by kernel_rfl) (by kernel_rfl) (by kernel_rfl) (fun _ _ _ h => h) (Or.inr ⟨by rfl, rfl⟩) (by assumption) ?_
                try simp only [Act.put, List.setIfInBounds_toArray, List.set_cons_zero, List.set_cons_succ]
                refine wpAnyH_take (i := 16) (oi := { dst := some 50, op := Go.Op.move (Go.Operand.tmp 3), type := 3, pos := "event.go:25", after := #[{ on := 13, ground := Go.Ground.guard }], guard := some (13, true) }) (v := undef) rfl (by kernel_rfl) (by kernel_rfl) (by kernel_rfl) (fun _ _ _ h => h) (Or.inr ⟨by rfl, rfl⟩) (by assumption) ?_
                try simp only [Act.put, List.setIfInBounds_toArray, List.set_cons_zero, List.set_cons_succ]
                refine wpAnyH_take (i := 17) (oi := { dst := some 51, op := Go.Op.binOp Go.BinOp.sub 3 (Go.Operand.tmp 50) (Go.Operand.const (Go.Value.int Go.IntKind.i64 1)) 3, type := 3, pos := "event.go:25", after := #[{ on := 16, ground := Go.Ground.data }, { on := 13, ground := Go.Ground.guard }], guard := some (13, true) }) (v := undef) rfl (by kernel_rfl) (by kernel_rfl) (by kernel_rfl) (fun _ _ _ h => h) (Or.inr ⟨by rfl, rfl⟩) (by assumption) ?_
                try simp only [Act.put, List.setIfInBounds_toArray, List.set_cons_zero, List.set_cons_succ]
                refine wpAnyH_take (i := 18) (oi := { dst := some 52, op := Go.Op.indexAddr 35 (Go.Operand.tmp 49) (Go.Operand.tmp 51), type := 0, pos := "event.go:25", after := #[{ on := 15, ground := Go.Ground.data }, { on := 17, ground := Go.Ground.data }, { on := 13, ground := Go.Ground.guard }], guard := some (13, true) }) (v := undef) rfl (by kernel_rfl) (by kernel_rfl) (by kernel_rfl) (fun _ _ _ h => h) (Or.inr ⟨by rfl, rfl⟩) (by assumption) ?_
                try simp only [Act.put, List.setIfInBounds_toArray, List.set_cons_zero, List.set_cons_succ]
                refine wpAnyH_take (i := 19) (oi := { dst := some 53, op := Go.Op.fieldAddr 80 (Go.Operand.tmp 52) 0, type := 0, pos := "event.go:25", after := #[{ on := 18, ground := Go.Ground.data }, { on := 13, ground := Go.Ground.guard }], guard := some (13, true) }) (v := undef) rfl (by kernel_rfl) (by kernel_rfl) (by kernel_rfl) (fun _ _ _ h => h) (Or.inr ⟨by rfl, rfl⟩) (by assumption) ?_
                try simp only [Act.put, List.setIfInBounds_toArray, List.set_cons_zero, List.set_cons_succ]
                refine wpAnyH_take (i := 20) (oi := { dst := some 54, op := Go.Op.load 9 (Go.Operand.tmp 53), type := 9, pos := "event.go:25", after := #[{ on := 19, ground := Go.Ground.data }, { on := 13, ground := Go.Ground.guard }], guard := some (13, true) }) (v := undef) rfl (by kernel_rfl) (by kernel_rfl) (by kernel_rfl) (fun _ _ _ h => h) (Or.inr ⟨by rfl, rfl⟩) (by assumption) ?_
                try simp only [Act.put, List.setIfInBounds_toArray, List.set_cons_zero, List.set_cons_succ]
                refine wpAnyH_take (i := 21) (oi := { dst := some 55, op := Go.Op.fieldAddr 80 (Go.Operand.tmp 4) 0, type := 0, pos := "event.go:25", after := #[{ on := 13, ground := Go.Ground.guard }], guard := some (13, true) }) (v := undef) rfl (by kernel_rfl) (by kernel_rfl) (by kernel_rfl) (fun _ _ _ h => h) (Or.inr ⟨by rfl, rfl⟩) (by assumption) ?_
                try simp only [Act.put, List.setIfInBounds_toArray, List.set_cons_zero, List.set_cons_succ]
                refine wpAnyH_take (i := 22) (oi := { dst := some 56, op := Go.Op.load 9 (Go.Operand.tmp 55), type := 9, pos := "event.go:25", after := #[{ on := 21, ground := Go.Ground.data }, { on := 13, ground := Go.Ground.guard }], guard := some (13, true) }) (v := undef) rfl (by kernel_rfl) (by kernel_rfl) (by kernel_rfl) (fun _ _ _ h => h) (Or.inr ⟨by rfl, rfl⟩) (by assumption) ?_
                try simp only [Act.put, List.setIfInBounds_toArray, List.set_cons_zero, List.set_cons_succ]
                refine wpAnyH_take (i := 23) (oi := { dst := some 57, op := Go.Op.binOp Go.BinOp.geq 9 (Go.Operand.tmp 54) (Go.Operand.tmp 56) 9, type := 4, pos := "event.go:25", after := #[{ on := 20, ground := Go.Ground.data }, { on := 22, ground := Go.Ground.data }, { on := 13, ground := Go.Ground.guard }], guard := some (13, true) }) (v := undef) rfl (by kernel_rfl) (by kernel_rfl) (by kernel_rfl) (fun _ _ _ h => h) (Or.inr ⟨by rfl, rfl⟩) (by assumption) ?_
                try simp only [Act.put, List.setIfInBounds_toArray, List.set_cons_zero, List.set_cons_succ]
                refine wpAnyH_take (i := 24) (oi := { dst := some 58, op := Go.Op.pick (Go.Operand.tmp 47) (Go.Operand.tmp 57) (Go.Operand.const (Go.Value.bool false)), type := 4, pos := "event.go:25", after := #[{ on := 13, ground := Go.Ground.data }, { on := 23, ground := Go.Ground.data }, { on := 10, ground := Go.Ground.guard }], guard := some (10, false) }) (v := ?_) rfl (by kernel_rfl) (by kernel_rfl) (by kernel_rfl) (fun _ _ _ h => h) (Or.inl ⟨by rfl, ?_⟩) (by assumption) ?_
                rotate_left 1
                · intro w hSw
                  try dsimp only at hSw
                  first | (go_simp; done) | (go_simp; with_reducible rfl)
                try simp only [Act.put, List.setIfInBounds_toArray, List.set_cons_zero, List.set_cons_succ]
                refine wpAnyH_take (i := 25) (oi := { dst := some 59, op := Go.Op.pick (Go.Operand.tmp 44) (Go.Operand.const (Go.Value.bool true)) (Go.Operand.tmp 58), type := 4, pos := "event.go:25", after := #[{ on := 10, ground := Go.Ground.data }, { on := 24, ground := Go.Ground.data }], guard := none }) (v := ?_) rfl (by kernel_rfl) (by kernel_rfl) (by kernel_rfl) (fun _ _ _ h => h) (Or.inl ⟨by rfl, ?_⟩) (by assumption) ?_
                rotate_left 1
                · intro w hSw
                  try dsimp only at hSw
                  first | (go_simp; done) | (go_simp; with_reducible rfl)
                try simp only [Act.put, List.setIfInBounds_toArray, List.set_cons_zero, List.set_cons_succ]
                refine wpAnyH_done (by kernel_rfl) ?_ _
                refine NoPanic.normal ?_
                have G2 := hide (G1.next hbq.out)
                have hb9 := chain hbx hbq.out
                try dsimp only
                go_wp2_with fail
                go_roundw
                case rel => exact ⟨1, by omega, rfl, HNX, hb9, G2⟩
                case measure => simp [intOf]; omega
              · obtain ⟨bp, op, hip, hcp, hbp⟩ := HPREV.out h0
                have hcp2 : W1.cell? ⟨bp, op, none⟩ = some (.string pn) := by rw [hal.cell (p := ⟨bp, op, none⟩) hbp]; exact hcp
                have hbp2 : bp < W1.heap.size := World.block_lt_of_cell? W1 _ hcp2
                have d0 : decide ((0 : Int) < (i : Int)) = true := decide_eq_true (by omega)
                have hwi : IntKind.i64.wrap ((i : Int) - 1) = (i : Int) - 1 := IntWalk.i64_in _ (by omega)
                have HCP := hide (fun w' (h : Below W1.heap.size W1 w') => show w'.cell? ⟨bp, op, none⟩ = some (.string pn) by rw [h.cell (p := ⟨bp, op, none⟩) hbp2]; exact hcp2)
                have HK := hide (fun w' (h : Below W1.heap.size W1 w') => show (fun w' => Below W1.heap.size W1 w' ∧ w'.cell? ⟨b4, 0, none⟩ = some (.string nv) ∧ w'.cell? ⟨b4, 1, none⟩ = some (.bool fnum) ∧ w'.cell? ⟨b4, 2, none⟩ = some (.int .i64 fn) ∧ w'.cell? ⟨b4, 3, none⟩ = some (.string sv) ∧ w'.cell? ⟨b1, 3, none⟩ = some (.slice a n c) ∧ w'.cell? ⟨bp, op, none⟩ = some (.string pn)) w' from ⟨h, (F4.next h).cell 0, (F4.next h).cell 1, (F4.next h).cell 2, (F4.next h).cell 3, (G1.next h).cell 3, HCP.out _ h⟩)
                clear HFC hcp hcp2 hbp
                have HLESS := hide hless
                cases db with
                | true =>
                  have HNX := hide (HNEXT.out rfl)
                  clear HNEXT HFALSE
                  have hls : Op.bytesLess pn.toList nv.toList = true := HLESS.out
                  refine wp_region_noPanic ?_
                  refine wp_region_held_drew (S := (fun w' => Below W1.heap.size W1 w' ∧ w'.cell? ⟨b4, 0, none⟩ = some (.string nv) ∧ w'.cell? ⟨b4, 1, none⟩ = some (.bool fnum) ∧ w'.cell? ⟨b4, 2, none⟩ = some (.int .i64 fn) ∧ w'.cell? ⟨b4, 3, none⟩ = some (.string sv) ∧ w'.cell? ⟨b1, 3, none⟩ = some (.slice a n c) ∧ w'.cell? ⟨bp, op, none⟩ = some (.string pn))) (by kernel_rfl) ?_ (fun hHeld => ?_)
                  · exact HK.out _ (Below.drewed (Below.refl _ _))
                  refine wpAnyH_take (i := 0) (oi := { dst := some 34, op := Go.Op.fieldAddr 80 (Go.Operand.tmp 4) 0, type := 0, pos := "event.go:25", after := #[], guard := none }) (v := ?_) rfl (by kernel_rfl) (by kernel_rfl) (by kernel_rfl) (fun _ _ _ h => h) (Or.inl ⟨by rfl, ?_⟩) (by assumption) ?_
                  rotate_left 1
                  · intro w hSw
                    try dsimp only at hSw
                    first | (go_simp; done) | (go_simp; with_reducible rfl)
                  try simp only [Act.put, List.setIfInBounds_toArray, List.set_cons_zero, List.set_cons_succ]
                  refine wpAnyH_take (i := 1) (oi := { dst := some 35, op := Go.Op.load 9 (Go.Operand.tmp 34), type := 9, pos := "event.go:25", after := #[{ on := 0, ground := Go.Ground.data }], guard := none }) (v := ?_) rfl (by kernel_rfl) (by kernel_rfl) (by kernel_rfl) (fun _ _ _ h => h) (Or.inl ⟨by rfl, ?_⟩) (by assumption) ?_
                  rotate_left 1
                  · intro w hSw
                    try dsimp only at hSw
                    first | (go_simp; done) | (go_simp; with_reducible rfl)
                  try simp only [Act.put, List.setIfInBounds_toArray, List.set_cons_zero, List.set_cons_succ]
                  refine wpAnyH_ready (rs := [2]) (by kernel_rfl) (by simp) ?_
                  refine AllReadyH.cons (o := { dst := some 36, op := Go.Op.call { callee := Go.Callee.value (Go.Operand.func 44), args := #[Go.Operand.tmp 35], argTypes := #[9] }, type := 4, pos := "event.go:25", after := #[{ on := 1, ground := Go.Ground.data }], guard := none }) rfl (fun K hK => ?_) ?_
                  rotate_left 1
                  · exact AllReadyH.nil
                  go_simp
                  have hq := (‹Below W1.heap.size W1 _ ∧ _›).1
                  refine (HFi.out _ (HVW.out.next hq)).mono ?_
                  rintro x w8 ⟨rfl, hb8⟩
                  have hbq := hide (chain hq hb8)
                  clear hq hb8
                  refine hK.out _ _ ?_ (fun hHeld2 => ?_)
                  · exact HK.out _ hbq.out
                  clear hK K
                  try simp only [Act.put, List.setIfInBounds_toArray, List.set_cons_zero, List.set_cons_succ]
                  clear hHeld
                  have hHeld := hHeld2
                  clear hHeld2
                  refine wpAnyH_take (i := 3) (oi := { dst := some 37, op := Go.Op.unOp Go.UnOp.not 4 (Go.Operand.tmp 36), type := 4, pos := "event.go:25", after := #[{ on := 2, ground := Go.Ground.data }], guard := none }) (v := ?_) rfl (by kernel_rfl) (by kernel_rfl) (by kernel_rfl) (fun _ _ _ h => h) (Or.inl ⟨by rfl, ?_⟩) (by assumption) ?_
                  rotate_left 1
                  · intro w hSw
                    try dsimp only at hSw
                    first | (go_simp; done) | (go_simp; with_reducible rfl)
                  try simp only [Act.put, List.setIfInBounds_toArray, List.set_cons_zero, List.set_cons_succ]
                  refine wpAnyH_take (i := 4) (oi := { dst := some 38, op := Go.Op.move (Go.Operand.tmp 37), type := 4, pos := "event.go:25", after := #[{ on := 3, ground := Go.Ground.data }, { on := 2, ground := Go.Ground.chain }], guard := none }) (v := ?_) rfl (by kernel_rfl) (by kernel_rfl) (by kernel_rfl) (fun _ _ _ h => h) (Or.inl ⟨by rfl, ?_⟩) (by assumption) ?_
                  rotate_left 1
                  · intro w hSw
                    try dsimp only at hSw
                    first | (go_simp; done) | (go_simp; with_reducible rfl)
                  try simp only [Act.put, List.setIfInBounds_toArray, List.set_cons_zero, List.set_cons_succ]
                  refine wpAnyH_take (i := 5) (oi := { dst := some 39, op := Go.Op.fieldAddr 80 (Go.Operand.tmp 4) 1, type := 0, pos := "event.go:25", after := #[{ on := 4, ground := Go.Ground.guard }], guard := some (4, false) }) (v := ?_) rfl (by kernel_rfl) (by kernel_rfl) (by kernel_rfl) (fun _ _ _ h => h) (Or.inl ⟨by rfl, ?_⟩) (by assumption) ?_
                  rotate_left 1
                  · intro w hSw
                    try dsimp only at hSw
                    first | (go_simp; done) | (go_simp; with_reducible rfl)
                  try simp only [Act.put, List.setIfInBounds_toArray, List.set_cons_zero, List.set_cons_succ]
                  refine wpAnyH_take (i := 6) (oi := { dst := some 40, op := Go.Op.load 78 (Go.Operand.tmp 39), type := 78, pos := "event.go:25", after := #[{ on := 5, ground := Go.Ground.data }, { on := 4, ground := Go.Ground.guard }], guard := some (4, false) }) (v := ?_) rfl (by kernel_rfl) (by kernel_rfl) (by kernel_rfl) (fun _ _ _ h => h) (Or.inl ⟨by rfl, ?_⟩) (by assumption) ?_
                  rotate_left 1
                  · intro w hSw
                    try dsimp only at hSw
                    first | (go_simp; done) | (go_simp; with_reducible rfl)
                  try simp only [Act.put, List.setIfInBounds_toArray, List.set_cons_zero, List.set_cons_succ]
                  refine wpAnyH_ready (rs := [7]) (by kernel_rfl) (by simp) ?_
                  refine AllReadyH.cons (o := { dst := some 41, op := Go.Op.call { callee := Go.Callee.value (Go.Operand.func 45), args := #[Go.Operand.tmp 40], argTypes := #[78] }, type := 4, pos := "event.go:25", after := #[{ on := 6, ground := Go.Ground.data }, { on := 4, ground := Go.Ground.chain }, { on := 4, ground := Go.Ground.guard }], guard := some (4, false) }) rfl (fun K hK => ?_) ?_
                  rotate_left 1
                  · exact AllReadyH.nil
                  go_simp
                  have hq := (‹Below W1.heap.size W1 _ ∧ _›).1
                  refine (HVi.out _).mono ?_
                  rintro x w8 ⟨rfl, hb8⟩
                  have hbq := hide (chain hq hb8)
                  clear hq hb8
                  refine hK.out _ _ ?_ (fun hHeld2 => ?_)
                  · exact HK.out _ hbq.out
                  clear hK K
                  try simp only [Act.put, List.setIfInBounds_toArray, List.set_cons_zero, List.set_cons_succ]
                  clear hHeld
                  have hHeld := hHeld2
                  clear hHeld2
                  refine wpAnyH_take (i := 8) (oi := { dst := some 42, op := Go.Op.unOp Go.UnOp.not 4 (Go.Operand.tmp 41), type := 4, pos := "event.go:25", after := #[{ on := 7, ground := Go.Ground.data }, { on := 4, ground := Go.Ground.guard }], guard := some (4, false) }) (v := ?_) rfl (by kernel_rfl) (by kernel_rfl) (by kernel_rfl) (fun _ _ _ h => h) (Or.inl ⟨by rfl, ?_⟩) (by assumption) ?_
                  rotate_left 1
                  · intro w hSw
                    try dsimp only at hSw
                    first | (go_simp; done) | (go_simp; with_reducible rfl)
                  try simp only [Act.put, List.setIfInBounds_toArray, List.set_cons_zero, List.set_cons_succ]
                  refine wpAnyH_take (i := 9) (oi := { dst := some 43, op := Go.Op.pick (Go.Operand.tmp 38) (Go.Operand.const (Go.Value.bool true)) (Go.Operand.tmp 42), type := 4, pos := "event.go:25", after := #[{ on := 4, ground := Go.Ground.data }, { on := 8, ground := Go.Ground.data }], guard := none }) (v := ?_) rfl (by kernel_rfl) (by kernel_rfl) (by kernel_rfl) (fun _ _ _ h => h) (Or.inl ⟨by rfl, ?_⟩) (by assumption) ?_
                  rotate_left 1
                  · intro w hSw
                    try dsimp only at hSw
                    first | (go_simp; done) | (go_simp; with_reducible rfl)
                  try simp only [Act.put, List.setIfInBounds_toArray, List.set_cons_zero, List.set_cons_succ]
                  refine wpAnyH_take (i := 10) (oi := { dst := some 44, op := Go.Op.move (Go.Operand.tmp 43), type := 4, pos := "event.go:25", after := #[{ on := 9, ground := Go.Ground.data }, { on := 7, ground := Go.Ground.chain }], guard := none }) (v := ?_) rfl (by kernel_rfl) (by kernel_rfl) (by kernel_rfl) (fun _ _ _ h => h) (Or.inl ⟨by rfl, ?_⟩) (by assumption) ?_
                  rotate_left 1
                  · intro w hSw
                    try dsimp only at hSw
                    first | (go_simp; done) | (go_simp; with_reducible rfl)
                  try simp only [Act.put, List.setIfInBounds_toArray, List.set_cons_zero, List.set_cons_succ]
                  refine wpAnyH_take (i := 11) (oi := { dst := some 45, op := Go.Op.move (Go.Operand.tmp 3), type := 3, pos := "event.go:25", after := #[{ on := 10, ground := Go.Ground.guard }], guard := some (10, false) }) (v := ?_) rfl (by kernel_rfl) (by kernel_rfl) (by kernel_rfl) (fun _ _ _ h => h) (Or.inl ⟨by rfl, ?_⟩) (by assumption) ?_
                  rotate_left 1
                  · intro w hSw
                    try dsimp only at hSw
                    first | (go_simp; done) | (go_simp; with_reducible rfl)
                  try simp only [Act.put, List.setIfInBounds_toArray, List.set_cons_zero, List.set_cons_succ]
                  refine wpAnyH_take (i := 12) (oi := { dst := some 46, op := Go.Op.binOp Go.BinOp.gtr 3 (Go.Operand.tmp 45) (Go.Operand.const (Go.Value.int Go.IntKind.i64 0)) 3, type := 4, pos := "event.go:25", after := #[{ on := 11, ground := Go.Ground.data }, { on := 10, ground := Go.Ground.guard }], guard := some (10, false) }) (v := ?_) rfl (by kernel_rfl) (by kernel_rfl) (by kernel_rfl) (fun _ _ _ h => h) (Or.inl ⟨by rfl, ?_⟩) (by assumption) ?_
                  rotate_left 1
                  · intro w hSw
                    try dsimp only at hSw
                    first | (go_simp; done) | (go_simp; with_reducible rfl)
                  try simp only [Act.put, List.setIfInBounds_toArray, List.set_cons_zero, List.set_cons_succ]
                  refine wpAnyH_take (i := 13) (oi := { dst := some 47, op := Go.Op.move (Go.Operand.tmp 46), type := 4, pos := "event.go:25", after := #[{ on := 12, ground := Go.Ground.data }, { on := 10, ground := Go.Ground.chain }, { on := 10, ground := Go.Ground.guard }], guard := some (10, false) }) (v := ?_) rfl (by kernel_rfl) (by kernel_rfl) (by kernel_rfl) (fun _ _ _ h => h) (Or.inl ⟨by rfl, ?_⟩) (by assumption) ?_
                  rotate_left 1
                  · intro w hSw
                    try dsimp only at hSw
                    first | (go_simp; done) | (go_simp; with_reducible rfl)
                  try simp only [Act.put, List.setIfInBounds_toArray, List.set_cons_zero, List.set_cons_succ]
                  refine wpAnyH_take (i := 14) (oi := { dst := some 48, op := Go.Op.fieldAddr 37 (Go.Operand.tmp 1) 3, type := 0, pos := "event.go:25", after := #[{ on := 13, ground := Go.Ground.guard }], guard := some (13, true) }) (v := ?_) rfl (by kernel_rfl) (by kernel_rfl) (by kernel_rfl) (fun _ _ _ h => h) (Or.inl ⟨by rfl, ?_⟩) (by assumption) ?_
                  rotate_left 1
                  · intro w hSw
                    try dsimp only at hSw
                    first | (go_simp; done) | (go_simp; with_reducible rfl)
                  try simp only [Act.put, List.setIfInBounds_toArray, List.set_cons_zero, List.set_cons_succ]
                  refine wpAnyH_take (i := 15) (oi := { dst := some 49, op := Go.Op.load 35 (Go.Operand.tmp 48), type := 35, pos := "event.go:25", after := #[{ on := 14, ground := Go.Ground.data }, { on := 13, ground := Go.Ground.guard }], guard := some (13, true) }) (v := ?_) rfl (by kernel_rfl) (by kernel_rfl) (by kernel_rfl) (fun _ _ _ h => h) (Or.inl ⟨by rfl, ?_⟩) (by assumption) ?_
                  rotate_left 1
                  · intro w hSw
                    try dsimp only at hSw
                    first | (go_simp; done) | (go_simp; with_reducible rfl)
                  try simp only [Act.put, List.setIfInBounds_toArray, List.set_cons_zero, List.set_cons_succ]
                  refine wpAnyH_take (i := 16) (oi := { dst := some 50, op := Go.Op.move (Go.Operand.tmp 3), type := 3, pos := "event.go:25", after := #[{ on := 13, ground := Go.Ground.guard }], guard := some (13, true) }) (v := ?_) rfl (by kernel_rfl) (by kernel_rfl) (by kernel_rfl) (fun _ _ _ h => h) (Or.inl ⟨by rfl, ?_⟩) (by assumption) ?_
                  rotate_left 1
                  · intro w hSw
                    try dsimp only at hSw
                    first | (go_simp; done) | (go_simp; with_reducible rfl)
                  try simp only [Act.put, List.setIfInBounds_toArray, List.set_cons_zero, List.set_cons_succ]
                  refine wpAnyH_take (i := 17) (oi := { dst := some 51, op := Go.Op.binOp Go.BinOp.sub 3 (Go.Operand.tmp 50) (Go.Operand.const (Go.Value.int Go.IntKind.i64 1)) 3, type := 3, pos := "event.go:25", after := #[{ on := 16, ground := Go.Ground.data }, { on := 13, ground := Go.Ground.guard }], guard := some (13, true) }) (v := ?_) rfl (by kernel_rfl) (by kernel_rfl) (by kernel_rfl) (fun _ _ _ h => h) (Or.inl ⟨by rfl, ?_⟩) (by assumption) ?_
                  rotate_left 1
                  · intro w hSw
                    try dsimp only at hSw
                    first | (go_simp; done) | (go_simp; with_reducible rfl)
                  try simp only [Act.put, List.setIfInBounds_toArray, List.set_cons_zero, List.set_cons_succ]
                  refine wpAnyH_take (i := 18) (oi := { dst := some 52, op := Go.Op.indexAddr 35 (Go.Operand.tmp 49) (Go.Operand.tmp 51), type := 0, pos := "event.go:25", after := #[{ on := 15, ground := Go.Ground.data }, { on := 17, ground := Go.Ground.data }, { on := 13, ground := Go.Ground.guard }], guard := some (13, true) }) (v := ?_) rfl (by kernel_rfl) (by kernel_rfl) (by kernel_rfl) (fun _ _ _ h => h) (Or.inl ⟨by rfl, ?_⟩) (by assumption) ?_
                  rotate_left 1
                  · intro w hSw
                    try dsimp only at hSw
                    first | (go_simp; done) | (go_simp; with_reducible rfl)
                  try simp only [Act.put, List.setIfInBounds_toArray, List.set_cons_zero, List.set_cons_succ]
                  refine wpAnyH_take (i := 19) (oi := { dst := some 53, op := Go.Op.fieldAddr 80 (Go.Operand.tmp 52) 0, type := 0, pos := "event.go:25", after := #[{ on := 18, ground := Go.Ground.data }, { on := 13, ground := Go.Ground.guard }], guard := some (13, true) }) (v := ?_) rfl (by kernel_rfl) (by kernel_rfl) (by kernel_rfl) (fun _ _ _ h => h) (Or.inl ⟨by rfl, ?_⟩) (by assumption) ?_
                  rotate_left 1
                  · intro w hSw
                    try dsimp only at hSw
                    first | (go_simp; done) | (go_simp; with_reducible rfl)
                  try simp only [Act.put, List.setIfInBounds_toArray, List.set_cons_zero, List.set_cons_succ]
                  refine wpAnyH_take (i := 20) (oi := { dst := some 54, op := Go.Op.load 9 (Go.Operand.tmp 53), type := 9, pos := "event.go:25", after := #[{ on := 19, ground := Go.Ground.data }, { on := 13, ground := Go.Ground.guard }], guard := some (13, true) }) (v := ?_) rfl (by kernel_rfl) (by kernel_rfl) (by kernel_rfl) (fun _ _ _ h => h) (Or.inl ⟨by rfl, ?_⟩) (by assumption) ?_
                  rotate_left 1
                  · intro w hSw
                    try dsimp only at hSw
                    first | (go_simp; done) | (go_simp; with_reducible rfl)
                  try simp only [Act.put, List.setIfInBounds_toArray, List.set_cons_zero, List.set_cons_succ]
                  refine wpAnyH_take (i := 21) (oi := { dst := some 55, op := Go.Op.fieldAddr 80 (Go.Operand.tmp 4) 0, type := 0, pos := "event.go:25", after := #[{ on := 13, ground := Go.Ground.guard }], guard := some (13, true) }) (v := ?_) rfl (by kernel_rfl) (by kernel_rfl) (by kernel_rfl) (fun _ _ _ h => h) (Or.inl ⟨by rfl, ?_⟩) (by assumption) ?_
                  rotate_left 1
                  · intro w hSw
                    try dsimp only at hSw
                    first | (go_simp; done) | (go_simp; with_reducible rfl)
                  try simp only [Act.put, List.setIfInBounds_toArray, List.set_cons_zero, List.set_cons_succ]
                  refine wpAnyH_take (i := 22) (oi := { dst := some 56, op := Go.Op.load 9 (Go.Operand.tmp 55), type := 9, pos := "event.go:25", after := #[{ on := 21, ground := Go.Ground.data }, { on := 13, ground := Go.Ground.guard }], guard := some (13, true) }) (v := ?_) rfl (by kernel_rfl) (by kernel_rfl) (by kernel_rfl) (fun _ _ _ h => h) (Or.inl ⟨by rfl, ?_⟩) (by assumption) ?_
                  rotate_left 1
                  · intro w hSw
                    try dsimp only at hSw
                    first | (go_simp; done) | (go_simp; with_reducible rfl)
                  try simp only [Act.put, List.setIfInBounds_toArray, List.set_cons_zero, List.set_cons_succ]
                  refine wpAnyH_take (i := 23) (oi := { dst := some 57, op := Go.Op.binOp Go.BinOp.geq 9 (Go.Operand.tmp 54) (Go.Operand.tmp 56) 9, type := 4, pos := "event.go:25", after := #[{ on := 20, ground := Go.Ground.data }, { on := 22, ground := Go.Ground.data }, { on := 13, ground := Go.Ground.guard }], guard := some (13, true) }) (v := ?_) rfl (by kernel_rfl) (by kernel_rfl) (by kernel_rfl) (fun _ _ _ h => h) (Or.inl ⟨by rfl, ?_⟩) (by assumption) ?_
                  rotate_left 1
                  · intro w hSw
                    try dsimp only at hSw
                    first | (go_simp; done) | (go_simp; with_reducible rfl)
                  try simp only [Act.put, List.setIfInBounds_toArray, List.set_cons_zero, List.set_cons_succ]
                  refine wpAnyH_take (i := 24) (oi := { dst := some 58, op := Go.Op.pick (Go.Operand.tmp 47) (Go.Operand.tmp 57) (Go.Operand.const (Go.Value.bool false)), type := 4, pos := "event.go:25", after := #[{ on := 13, ground := Go.Ground.data }, { on := 23, ground := Go.Ground.data }, { on := 10, ground := Go.Ground.guard }], guard := some (10, false) }) (v := ?_) rfl (by kernel_rfl) (by kernel_rfl) (by kernel_rfl) (fun _ _ _ h => h) (Or.inl ⟨by rfl, ?_⟩) (by assumption) ?_
                  rotate_left 1
                  · intro w hSw
                    try dsimp only at hSw
                    first | (go_simp; done) | (go_simp; with_reducible rfl)
                  try simp only [Act.put, List.setIfInBounds_toArray, List.set_cons_zero, List.set_cons_succ]
                  refine wpAnyH_take (i := 25) (oi := { dst := some 59, op := Go.Op.pick (Go.Operand.tmp 44) (Go.Operand.const (Go.Value.bool true)) (Go.Operand.tmp 58), type := 4, pos := "event.go:25", after := #[{ on := 10, ground := Go.Ground.data }, { on := 24, ground := Go.Ground.data }], guard := none }) (v := ?_) rfl (by kernel_rfl) (by kernel_rfl) (by kernel_rfl) (fun _ _ _ h => h) (Or.inl ⟨by rfl, ?_⟩) (by assumption) ?_
                  rotate_left 1
                  · intro w hSw
                    try dsimp only at hSw
                    first | (go_simp; done) | (go_simp; with_reducible rfl)
                  try simp only [Act.put, List.setIfInBounds_toArray, List.set_cons_zero, List.set_cons_succ]
                  refine wpAnyH_done (by kernel_rfl) ?_ _
                  refine NoPanic.normal ?_
                  have G2 := hide (G1.next hbq.out)
                  have hb9 := chain hbx hbq.out
                  try dsimp only
                  go_wp2_with fail
                  go_roundw
                  case rel => exact ⟨i + 1, by omega, by go_num, HNX, hb9, G2⟩
                  case measure => simp [intOf]; omega
                | false =>
                  have HR0 := hide (HFALSE.out rfl)
                  clear HNEXT HFALSE
                  have hls : Op.bytesLess pn.toList nv.toList = false := HLESS.out
                  refine wp_region_noPanic ?_
                  refine wp_region_held_drew (S := (fun w' => Below W1.heap.size W1 w' ∧ w'.cell? ⟨b4, 0, none⟩ = some (.string nv) ∧ w'.cell? ⟨b4, 1, none⟩ = some (.bool fnum) ∧ w'.cell? ⟨b4, 2, none⟩ = some (.int .i64 fn) ∧ w'.cell? ⟨b4, 3, none⟩ = some (.string sv) ∧ w'.cell? ⟨b1, 3, none⟩ = some (.slice a n c) ∧ w'.cell? ⟨bp, op, none⟩ = some (.string pn))) (by kernel_rfl) ?_ (fun hHeld => ?_)
                  · exact HK.out _ (Below.drewed (Below.refl _ _))
                  refine wpAnyH_take (i := 0) (oi := { dst := some 34, op := Go.Op.fieldAddr 80 (Go.Operand.tmp 4) 0, type := 0, pos := "event.go:25", after := #[], guard := none }) (v := ?_) rfl (by kernel_rfl) (by kernel_rfl) (by kernel_rfl) (fun _ _ _ h => h) (Or.inl ⟨by rfl, ?_⟩) (by assumption) ?_
                  rotate_left 1
                  · intro w hSw
                    try dsimp only at hSw
                    first | (go_simp; done) | (go_simp; with_reducible rfl)
                  try simp only [Act.put, List.setIfInBounds_toArray, List.set_cons_zero, List.set_cons_succ]
                  refine wpAnyH_take (i := 1) (oi := { dst := some 35, op := Go.Op.load 9 (Go.Operand.tmp 34), type := 9, pos := "event.go:25", after := #[{ on := 0, ground := Go.Ground.data }], guard := none }) (v := ?_) rfl (by kernel_rfl) (by kernel_rfl) (by kernel_rfl) (fun _ _ _ h => h) (Or.inl ⟨by rfl, ?_⟩) (by assumption) ?_
                  rotate_left 1
                  · intro w hSw
                    try dsimp only at hSw
                    first | (go_simp; done) | (go_simp; with_reducible rfl)
                  try simp only [Act.put, List.setIfInBounds_toArray, List.set_cons_zero, List.set_cons_succ]
                  refine wpAnyH_ready (rs := [2]) (by kernel_rfl) (by simp) ?_
                  refine AllReadyH.cons (o := { dst := some 36, op := Go.Op.call { callee := Go.Callee.value (Go.Operand.func 44), args := #[Go.Operand.tmp 35], argTypes := #[9] }, type := 4, pos := "event.go:25", after := #[{ on := 1, ground := Go.Ground.data }], guard := none }) rfl (fun K hK => ?_) ?_
                  rotate_left 1
                  · exact AllReadyH.nil
                  go_simp
                  have hq := (‹Below W1.heap.size W1 _ ∧ _›).1
                  refine (HFi.out _ (HVW.out.next hq)).mono ?_
                  rintro x w8 ⟨rfl, hb8⟩
                  have hbq := hide (chain hq hb8)
                  clear hq hb8
                  refine hK.out _ _ ?_ (fun hHeld2 => ?_)
                  · exact HK.out _ hbq.out
                  clear hK K
                  try simp only [Act.put, List.setIfInBounds_toArray, List.set_cons_zero, List.set_cons_succ]
                  clear hHeld
                  have hHeld := hHeld2
                  clear hHeld2
                  refine wpAnyH_take (i := 3) (oi := { dst := some 37, op := Go.Op.unOp Go.UnOp.not 4 (Go.Operand.tmp 36), type := 4, pos := "event.go:25", after := #[{ on := 2, ground := Go.Ground.data }], guard := none }) (v := ?_) rfl (by kernel_rfl) (by kernel_rfl) (by kernel_rfl) (fun _ _ _ h => h) (Or.inl ⟨by rfl, ?_⟩) (by assumption) ?_
                  rotate_left 1
                  · intro w hSw
                    try dsimp only at hSw
                    first | (go_simp; done) | (go_simp; with_reducible rfl)
                  try simp only [Act.put, List.setIfInBounds_toArray, List.set_cons_zero, List.set_cons_succ]
                  refine wpAnyH_take (i := 4) (oi := { dst := some 38, op := Go.Op.move (Go.Operand.tmp 37), type := 4, pos := "event.go:25", after := #[{ on := 3, ground := Go.Ground.data }, { on := 2, ground := Go.Ground.chain }], guard := none }) (v := ?_) rfl (by kernel_rfl) (by kernel_rfl) (by kernel_rfl) (fun _ _ _ h => h) (Or.inl ⟨by rfl, ?_⟩) (by assumption) ?_
                  rotate_left 1
                  · intro w hSw
                    try dsimp only at hSw
                    first | (go_simp; done) | (go_simp; with_reducible rfl)
                  try simp only [Act.put, List.setIfInBounds_toArray, List.set_cons_zero, List.set_cons_succ]
                  refine wpAnyH_take (i := 5) (oi := { dst := some 39, op := Go.Op.fieldAddr 80 (Go.Operand.tmp 4) 1, type := 0, pos := "event.go:25", after := #[{ on := 4, ground := Go.Ground.guard }], guard := some (4, false) }) (v := ?_) rfl (by kernel_rfl) (by kernel_rfl) (by kernel_rfl) (fun _ _ _ h => h) (Or.inl ⟨by rfl, ?_⟩) (by assumption) ?_
                  rotate_left 1
                  · intro w hSw
                    try dsimp only at hSw
                    first | (go_simp; done) | (go_simp; with_reducible rfl)
                  try simp only [Act.put, List.setIfInBounds_toArray, List.set_cons_zero, List.set_cons_succ]
                  refine wpAnyH_take (i := 6) (oi := { dst := some 40, op := Go.Op.load 78 (Go.Operand.tmp 39), type := 78, pos := "event.go:25", after := #[{ on := 5, ground := Go.Ground.data }, { on := 4, ground := Go.Ground.guard }], guard := some (4, false) }) (v := ?_) rfl (by kernel_rfl) (by kernel_rfl) (by kernel_rfl) (fun _ _ _ h => h) (Or.inl ⟨by rfl, ?_⟩) (by assumption) ?_
                  rotate_left 1
                  · intro w hSw
                    try dsimp only at hSw
                    first | (go_simp; done) | (go_simp; with_reducible rfl)
                  try simp only [Act.put, List.setIfInBounds_toArray, List.set_cons_zero, List.set_cons_succ]
                  refine wpAnyH_ready (rs := [7]) (by kernel_rfl) (by simp) ?_
                  refine AllReadyH.cons (o := { dst := some 41, op := Go.Op.call { callee := Go.Callee.value (Go.Operand.func 45), args := #[Go.Operand.tmp 40], argTypes := #[78] }, type := 4, pos := "event.go:25", after := #[{ on := 6, ground := Go.Ground.data }, { on := 4, ground := Go.Ground.chain }, { on := 4, ground := Go.Ground.guard }], guard := some (4, false) }) rfl (fun K hK => ?_) ?_
                  rotate_left 1
                  · exact AllReadyH.nil
                  go_simp
                  have hq := (‹Below W1.heap.size W1 _ ∧ _›).1
                  refine (HVi.out _).mono ?_
                  rintro x w8 ⟨rfl, hb8⟩
                  have hbq := hide (chain hq hb8)
                  clear hq hb8
                  refine hK.out _ _ ?_ (fun hHeld2 => ?_)
                  · exact HK.out _ hbq.out
                  clear hK K
                  try simp only [Act.put, List.setIfInBounds_toArray, List.set_cons_zero, List.set_cons_succ]
                  clear hHeld
                  have hHeld := hHeld2
                  clear hHeld2
                  refine wpAnyH_take (i := 8) (oi := { dst := some 42, op := Go.Op.unOp Go.UnOp.not 4 (Go.Operand.tmp 41), type := 4, pos := "event.go:25", after := #[{ on := 7, ground := Go.Ground.data }, { on := 4, ground := Go.Ground.guard }], guard := some (4, false) }) (v := ?_) rfl (by kernel_rfl) (by kernel_rfl) (by kernel_rfl) (fun _ _ _ h => h) (Or.inl ⟨by rfl, ?_⟩) (by assumption) ?_
                  rotate_left 1
                  · intro w hSw
                    try dsimp only at hSw
                    first | (go_simp; done) | (go_simp; with_reducible rfl)
                  try simp only [Act.put, List.setIfInBounds_toArray, List.set_cons_zero, List.set_cons_succ]
                  refine wpAnyH_take (i := 9) (oi := { dst := some 43, op := Go.Op.pick (Go.Operand.tmp 38) (Go.Operand.const (Go.Value.bool true)) (Go.Operand.tmp 42), type := 4, pos := "event.go:25", after := #[{ on := 4, ground := Go.Ground.data }, { on := 8, ground := Go.Ground.data }], guard := none }) (v := ?_) rfl (by kernel_rfl) (by kernel_rfl) (by kernel_rfl) (fun _ _ _ h => h) (Or.inl ⟨by rfl, ?_⟩) (by assumption) ?_
                  rotate_left 1
                  · intro w hSw
                    try dsimp only at hSw
                    first | (go_simp; done) | (go_simp; with_reducible rfl)
                  try simp only [Act.put, List.setIfInBounds_toArray, List.set_cons_zero, List.set_cons_succ]
                  refine wpAnyH_take (i := 10) (oi := { dst := some 44, op := Go.Op.move (Go.Operand.tmp 43), type := 4, pos := "event.go:25", after := #[{ on := 9, ground := Go.Ground.data }, { on := 7, ground := Go.Ground.chain }], guard := none }) (v := ?_) rfl (by kernel_rfl) (by kernel_rfl) (by kernel_rfl) (fun _ _ _ h => h) (Or.inl ⟨by rfl, ?_⟩) (by assumption) ?_
                  rotate_left 1
                  · intro w hSw
                    try dsimp only at hSw
                    first | (go_simp; done) | (go_simp; with_reducible rfl)
                  try simp only [Act.put, List.setIfInBounds_toArray, List.set_cons_zero, List.set_cons_succ]
                  refine wpAnyH_take (i := 11) (oi := { dst := some 45, op := Go.Op.move (Go.Operand.tmp 3), type := 3, pos := "event.go:25", after := #[{ on := 10, ground := Go.Ground.guard }], guard := some (10, false) }) (v := ?_) rfl (by kernel_rfl) (by kernel_rfl) (by kernel_rfl) (fun _ _ _ h => h) (Or.inl ⟨by rfl, ?_⟩) (by assumption) ?_
                  rotate_left 1
                  · intro w hSw
                    try dsimp only at hSw
                    first | (go_simp; done) | (go_simp; with_reducible rfl)
                  try simp only [Act.put, List.setIfInBounds_toArray, List.set_cons_zero, List.set_cons_succ]
                  refine wpAnyH_take (i := 12) (oi := { dst := some 46, op := Go.Op.binOp Go.BinOp.gtr 3 (Go.Operand.tmp 45) (Go.Operand.const (Go.Value.int Go.IntKind.i64 0)) 3, type := 4, pos := "event.go:25", after := #[{ on := 11, ground := Go.Ground.data }, { on := 10, ground := Go.Ground.guard }], guard := some (10, false) }) (v := ?_) rfl (by kernel_rfl) (by kernel_rfl) (by kernel_rfl) (fun _ _ _ h => h) (Or.inl ⟨by rfl, ?_⟩) (by assumption) ?_
                  rotate_left 1
                  · intro w hSw
                    try dsimp only at hSw
                    first | (go_simp; done) | (go_simp; with_reducible rfl)
                  try simp only [Act.put, List.setIfInBounds_toArray, List.set_cons_zero, List.set_cons_succ]
                  refine wpAnyH_take (i := 13) (oi := { dst := some 47, op := Go.Op.move (Go.Operand.tmp 46), type := 4, pos := "event.go:25", after := #[{ on := 12, ground := Go.Ground.data }, { on := 10, ground := Go.Ground.chain }, { on := 10, ground := Go.Ground.guard }], guard := some (10, false) }) (v := ?_) rfl (by kernel_rfl) (by kernel_rfl) (by kernel_rfl) (fun _ _ _ h => h) (Or.inl ⟨by rfl, ?_⟩) (by assumption) ?_
                  rotate_left 1
                  · intro w hSw
                    try dsimp only at hSw
                    first | (go_simp; done) | (go_simp; with_reducible rfl)
                  try simp only [Act.put, List.setIfInBounds_toArray, List.set_cons_zero, List.set_cons_succ]
                  refine wpAnyH_take (i := 14) (oi := { dst := some 48, op := Go.Op.fieldAddr 37 (Go.Operand.tmp 1) 3, type := 0, pos := "event.go:25", after := #[{ on := 13, ground := Go.Ground.guard }], guard := some (13, true) }) (v := ?_) rfl (by kernel_rfl) (by kernel_rfl) (by kernel_rfl) (fun _ _ _ h => h) (Or.inl ⟨by rfl, ?_⟩) (by assumption) ?_
                  rotate_left 1
                  · intro w hSw
                    try dsimp only at hSw
                    first | (go_simp; done) | (go_simp; with_reducible rfl)
                  try simp only [Act.put, List.setIfInBounds_toArray, List.set_cons_zero, List.set_cons_succ]
                  refine wpAnyH_take (i := 15) (oi := { dst := some 49, op := Go.Op.load 35 (Go.Operand.tmp 48), type := 35, pos := "event.go:25", after := #[{ on := 14, ground := Go.Ground.data }, { on := 13, ground := Go.Ground.guard }], guard := some (13, true) }) (v := ?_) rfl (by kernel_rfl) (by kernel_rfl) (by kernel_rfl) (fun _ _ _ h => h) (Or.inl ⟨by rfl, ?_⟩) (by assumption) ?_
                  rotate_left 1
                  · intro w hSw
                    try dsimp only at hSw
                    first | (go_simp; done) | (go_simp; with_reducible rfl)
                  try simp only [Act.put, List.setIfInBounds_toArray, List.set_cons_zero, List.set_cons_succ]
                  refine wpAnyH_take (i := 16) (oi := { dst := some 50, op := Go.Op.move (Go.Operand.tmp 3), type := 3, pos := "event.go:25", after := #[{ on := 13, ground := Go.Ground.guard }], guard := some (13, true) }) (v := ?_) rfl (by kernel_rfl) (by kernel_rfl) (by kernel_rfl) (fun _ _ _ h => h) (Or.inl ⟨by rfl, ?_⟩) (by assumption) ?_
                  rotate_left 1
                  · intro w hSw
                    try dsimp only at hSw
                    first | (go_simp; done) | (go_simp; with_reducible rfl)
                  try simp only [Act.put, List.setIfInBounds_toArray, List.set_cons_zero, List.set_cons_succ]
                  refine wpAnyH_take (i := 17) (oi := { dst := some 51, op := Go.Op.binOp Go.BinOp.sub 3 (Go.Operand.tmp 50) (Go.Operand.const (Go.Value.int Go.IntKind.i64 1)) 3, type := 3, pos := "event.go:25", after := #[{ on := 16, ground := Go.Ground.data }, { on := 13, ground := Go.Ground.guard }], guard := some (13, true) }) (v := ?_) rfl (by kernel_rfl) (by kernel_rfl) (by kernel_rfl) (fun _ _ _ h => h) (Or.inl ⟨by rfl, ?_⟩) (by assumption) ?_
                  rotate_left 1
                  · intro w hSw
                    try dsimp only at hSw
                    first | (go_simp; done) | (go_simp; with_reducible rfl)
                  try simp only [Act.put, List.setIfInBounds_toArray, List.set_cons_zero, List.set_cons_succ]
                  refine wpAnyH_take (i := 18) (oi := { dst := some 52, op := Go.Op.indexAddr 35 (Go.Operand.tmp 49) (Go.Operand.tmp 51), type := 0, pos := "event.go:25", after := #[{ on := 15, ground := Go.Ground.data }, { on := 17, ground := Go.Ground.data }, { on := 13, ground := Go.Ground.guard }], guard := some (13, true) }) (v := ?_) rfl (by kernel_rfl) (by kernel_rfl) (by kernel_rfl) (fun _ _ _ h => h) (Or.inl ⟨by rfl, ?_⟩) (by assumption) ?_
                  rotate_left 1
                  · intro w hSw
                    try dsimp only at hSw
                    first | (go_simp; done) | (go_simp; with_reducible rfl)
                  try simp only [Act.put, List.setIfInBounds_toArray, List.set_cons_zero, List.set_cons_succ]
                  refine wpAnyH_take (i := 19) (oi := { dst := some 53, op := Go.Op.fieldAddr 80 (Go.Operand.tmp 52) 0, type := 0, pos := "event.go:25", after := #[{ on := 18, ground := Go.Ground.data }, { on := 13, ground := Go.Ground.guard }], guard := some (13, true) }) (v := ?_) rfl (by kernel_rfl) (by kernel_rfl) (by kernel_rfl) (fun _ _ _ h => h) (Or.inl ⟨by rfl, ?_⟩) (by assumption) ?_
                  rotate_left 1
                  · intro w hSw
                    try dsimp only at hSw
                    first | (go_simp; done) | (go_simp; with_reducible rfl)
                  try simp only [Act.put, List.setIfInBounds_toArray, List.set_cons_zero, List.set_cons_succ]
                  refine wpAnyH_take (i := 20) (oi := { dst := some 54, op := Go.Op.load 9 (Go.Operand.tmp 53), type := 9, pos := "event.go:25", after := #[{ on := 19, ground := Go.Ground.data }, { on := 13, ground := Go.Ground.guard }], guard := some (13, true) }) (v := ?_) rfl (by kernel_rfl) (by kernel_rfl) (by kernel_rfl) (fun _ _ _ h => h) (Or.inl ⟨by rfl, ?_⟩) (by assumption) ?_
                  rotate_left 1
                  · intro w hSw
                    try dsimp only at hSw
                    first | (go_simp; done) | (go_simp; with_reducible rfl)
                  try simp only [Act.put, List.setIfInBounds_toArray, List.set_cons_zero, List.set_cons_succ]
                  refine wpAnyH_take (i := 21) (oi := { dst := some 55, op := Go.Op.fieldAddr 80 (Go.Operand.tmp 4) 0, type := 0, pos := "event.go:25", after := #[{ on := 13, ground := Go.Ground.guard }], guard := some (13, true) }) (v := ?_) rfl (by kernel_rfl) (by kernel_rfl) (by kernel_rfl) (fun _ _ _ h => h) (Or.inl ⟨by rfl, ?_⟩) (by assumption) ?_
                  rotate_left 1
                  · intro w hSw
                    try dsimp only at hSw
                    first | (go_simp; done) | (go_simp; with_reducible rfl)
                  try simp only [Act.put, List.setIfInBounds_toArray, List.set_cons_zero, List.set_cons_succ]
                  refine wpAnyH_take (i := 22) (oi := { dst := some 56, op := Go.Op.load 9 (Go.Operand.tmp 55), type := 9, pos := "event.go:25", after := #[{ on := 21, ground := Go.Ground.data }, { on := 13, ground := Go.Ground.guard }], guard := some (13, true) }) (v := ?_) rfl (by kernel_rfl) (by kernel_rfl) (by kernel_rfl) (fun _ _ _ h => h) (Or.inl ⟨by rfl, ?_⟩) (by assumption) ?_
                  rotate_left 1
                  · intro w hSw
                    try dsimp only at hSw
                    first | (go_simp; done) | (go_simp; with_reducible rfl)
                  try simp only [Act.put, List.setIfInBounds_toArray, List.set_cons_zero, List.set_cons_succ]
                  refine wpAnyH_take (i := 23) (oi := { dst := some 57, op := Go.Op.binOp Go.BinOp.geq 9 (Go.Operand.tmp 54) (Go.Operand.tmp 56) 9, type := 4, pos := "event.go:25", after := #[{ on := 20, ground := Go.Ground.data }, { on := 22, ground := Go.Ground.data }, { on := 13, ground := Go.Ground.guard }], guard := some (13, true) }) (v := ?_) rfl (by kernel_rfl) (by kernel_rfl) (by kernel_rfl) (fun _ _ _ h => h) (Or.inl ⟨by rfl, ?_⟩) (by assumption) ?_
                  rotate_left 1
                  · intro w hSw
                    try dsimp only at hSw
                    first | (go_simp; done) | (go_simp; with_reducible rfl)
                  try simp only [Act.put, List.setIfInBounds_toArray, List.set_cons_zero, List.set_cons_succ]
                  refine wpAnyH_take (i := 24) (oi := { dst := some 58, op := Go.Op.pick (Go.Operand.tmp 47) (Go.Operand.tmp 57) (Go.Operand.const (Go.Value.bool false)), type := 4, pos := "event.go:25", after := #[{ on := 13, ground := Go.Ground.data }, { on := 23, ground := Go.Ground.data }, { on := 10, ground := Go.Ground.guard }], guard := some (10, false) }) (v := ?_) rfl (by kernel_rfl) (by kernel_rfl) (by kernel_rfl) (fun _ _ _ h => h) (Or.inl ⟨by rfl, ?_⟩) (by assumption) ?_
                  rotate_left 1
                  · intro w hSw
                    try dsimp only at hSw
                    first | (go_simp; done) | (go_simp; with_reducible rfl)
                  try simp only [Act.put, List.setIfInBounds_toArray, List.set_cons_zero, List.set_cons_succ]
                  refine wpAnyH_take (i := 25) (oi := { dst := some 59, op := Go.Op.pick (Go.Operand.tmp 44) (Go.Operand.const (Go.Value.bool true)) (Go.Operand.tmp 58), type := 4, pos := "event.go:25", after := #[{ on := 10, ground := Go.Ground.data }, { on := 24, ground := Go.Ground.data }], guard := none }) (v := ?_) rfl (by kernel_rfl) (by kernel_rfl) (by kernel_rfl) (fun _ _ _ h => h) (Or.inl ⟨by rfl, ?_⟩) (by assumption) ?_
                  rotate_left 1
                  · intro w hSw
                    try dsimp only at hSw
                    first | (go_simp; done) | (go_simp; with_reducible rfl)
                  try simp only [Act.put, List.setIfInBounds_toArray, List.set_cons_zero, List.set_cons_succ]
                  refine wpAnyH_done (by kernel_rfl) ?_ _
                  refine NoPanic.normal ?_
                  try dsimp only
                  go_wp2_with fail
                  go_ret
                  rw [HR0.out]
                  exact ⟨rfl, chain hbx hbq.out⟩
            · obtain rfl : i = n := by omega
              have e0 : R = true := by rw [← HD3.out]; exact hall.out
              subst e0
              go_wp2_with fail
              go_ret
              exact ⟨rfl, hbw⟩
        · have h8i : (8 : Int) < (n : Int) := by omega
          have e0 : R = false := by have := HD2.out; rw [decide_eq_false h8] at this; simpa using this.symm
          subst e0
          go_wp2_with fail
          go_ret
          exact ⟨rfl, hb5⟩
      · have h1i : (sq : Int) < 1 := by omega
        have e0 : R = false := by have := HD2.out; rw [decide_eq_false h1] at this; simpa using this.symm
        subst e0
        go_wp2_with fail
        go_ret
        exact ⟨rfl, hb5⟩

end Go.Proofs.YtogonkoeginoaaaGreatDoor
