/-
  What an invariant of a region that draws its order knows of which operations are done. What is kept on a drive, in plain Lean: heads, halves, texts and logs. No program in sight. The walks through the keep's small functions: wide, logAt, textAt, cells, tape, place, octets. The walks through the keep's work: do, write, lay: a drive in a work's block, where all goes well. A Keep in memory, and the walks through its small functions: Size, Text, Records, Gen, Drive; slices.Clone. The walk through New: a text is kept on a new drive, or it is too long.
-/
import Derived.Test.YtogonkoeginoaaaGreatDoorAppReg
import Derived.Test.YtogonkoeginoaaaGreatDoorTapeLaw
import Derived.Test.YtogonkoeginoaaaGreatDoorLogPieces
import Derived.Test.YtogonkoeginoaaaGreatDoorLogSmall
import Derived.Test.YtogonkoeginoaaaGreatDoorLogScan
import Derived.Test.YtogonkoeginoaaaGreatDoorLogDo
import Derived.Test.YtogonkoeginoaaaGreatDoorBun
import Derived.Deep.RegionHeld3
namespace Go.Proofs.YtogonkoeginoaaaGreatDoor
open Go.RowKit

/-- Of each pair: where the first is done the second is. -/
def Closed (l : Array Bool) (ps : List (Nat × Nat)) : Prop := ∀ p ∈ ps, fl l p.1 → fl l p.2
theorem Closed.zero (n : Nat) (ps : List (Nat × Nat)) : Closed (Array.replicate n false) ps := fun _ _ f => absurd f (fl_none _ _)
theorem Closed.on {l : Array Bool} {ps : List (Nat × Nat)} (h : Closed l ps) {j d : Nat} (hm : (ps.contains (j, d)) = true) (f : fl l j) : fl l d := h (j, d) (by simpa using hm) f
theorem Closed.step {l : Array Bool} {ps : List (Nat × Nat)} (h : Closed l ps) (i : Nat) (ds : List Nat) (hp : (ps.all fun p => p.1 != i || ds.contains p.2) = true) (hds : ∀ d ∈ ds, fl l d) : Closed (l.setIfInBounds i true) ps := by
  intro p hm f
  by_cases e : p.1 = i
  · have h1 := List.all_eq_true.1 hp p hm
    rw [e] at h1
    simp at h1
    exact fl_keep (hds _ h1) _
  · exact fl_keep (h p hm (fl_set f e)) _

theorem fl_self {l : Array Bool} {i : Nat} (h : i < l.size) : fl (l.setIfInBounds i true) i := by
  unfold fl
  rw [Array.getD_eq_getD_getElem?, Array.getElem?_setIfInBounds_self_of_lt h]
  rfl

theorem all_nil {l : Array Bool} : ∀ d ∈ ([] : List Nat), fl l d := fun _ h => by cases h
theorem all_cons {l : Array Bool} {x : Nat} {ds : List Nat} (h1 : fl l x) (h : ∀ d ∈ ds, fl l d) : ∀ d ∈ x :: ds, fl l d := by
  intro d hd
  rcases List.mem_cons.1 hd with rfl | hd
  · exact h1
  · exact h d hd

end Go.Proofs.YtogonkoeginoaaaGreatDoor

namespace Go.Proofs.YtogonkoeginoaaaGreatDoor

/-- Cells from one on. -/
def seg (cs : List (List UInt8)) (p n : Nat) : List (List UInt8) := (cs.drop p).take n
theorem seg_length (cs : List (List UInt8)) (p n : Nat) (h : p + n ≤ cs.length) : (seg cs p n).length = n := by simp [seg]; omega
theorem seg_mem {cs : List (List UInt8)} {p n : Nat} {c : List UInt8} (h : c ∈ seg cs p n) : c ∈ cs := List.mem_of_mem_drop (List.mem_of_mem_take h)
theorem over_get (cs : List (List UInt8)) (p : Nat) (L : List (List UInt8)) (h : p + L.length ≤ cs.length) (i : Nat) : (over cs p L)[i]? = if i < p then cs[i]? else if i < p + L.length then L[i - p]? else cs[i]? := by
  unfold over
  by_cases h1 : i < p
  · rw [if_pos h1, List.append_assoc, List.getElem?_append_left (by rw [List.length_take]; omega), List.getElem?_take, if_pos h1]
  · rw [if_neg h1]
    by_cases h2 : i < p + L.length
    · rw [if_pos h2, List.getElem?_append_left (by rw [List.length_append, List.length_take]; omega), List.getElem?_append_right (by rw [List.length_take]; omega), List.length_take, Nat.min_eq_left (by omega)]
    · rw [if_neg h2, List.getElem?_append_right (by rw [List.length_append, List.length_take]; omega), List.length_append, List.length_take, Nat.min_eq_left (by omega), List.getElem?_drop]
      congr 1
      omega
theorem seg_get (cs : List (List UInt8)) (p n i : Nat) : (seg cs p n)[i]? = if i < n then cs[p + i]? else none := by
  unfold seg
  rw [List.getElem?_take]
  split
  · rw [List.getElem?_drop]
  · rfl
theorem seg_over_far (cs : List (List UInt8)) (p : Nat) (L : List (List UInt8)) (h : p + L.length ≤ cs.length) (q n : Nat) (hd : q + n ≤ p ∨ p + L.length ≤ q) : seg (over cs p L) q n = seg cs q n := by
  apply List.ext_getElem?
  intro i
  rw [seg_get, seg_get]
  split
  · rw [over_get cs p L h]
    rcases hd with hd | hd
    · rw [if_pos (by omega)]
    · rw [if_neg (by omega), if_neg (by omega)]
  · rfl
theorem seg_over_same (cs : List (List UInt8)) (p : Nat) (L : List (List UInt8)) (h : p + L.length ≤ cs.length) : seg (over cs p L) p L.length = L := by
  apply List.ext_getElem?
  intro i
  rw [seg_get]
  split
  · rw [over_get cs p L h, if_neg (by omega), if_pos (by omega)]
    congr 1
    omega
  · rw [List.getElem?_eq_none (by omega)]
theorem seg_over_in (cs : List (List UInt8)) (p i n : Nat) (L : List (List UInt8)) (h : p + n ≤ cs.length) (hi : i + L.length ≤ n) : seg (over cs (p + i) L) p n = over (seg cs p n) i L := by
  have hl := seg_length cs p n h
  apply List.ext_getElem?
  intro j
  rw [seg_get, over_get (seg cs p n) i L (by omega), seg_get]
  by_cases hj : j < n
  · rw [if_pos hj, if_pos hj, over_get cs (p + i) L (by omega)]
    by_cases h1 : j < i
    · rw [if_pos h1, if_pos (by omega)]
    · rw [if_neg h1, if_neg (by omega)]
      by_cases h2 : j < i + L.length
      · rw [if_pos h2, if_pos (by omega)]
        congr 1
        omega
      · rw [if_neg h2, if_neg (by omega)]
  · rw [if_neg hj, if_neg hj, if_neg (by omega), if_neg (by omega)]
theorem over_mem {cs : List (List UInt8)} {p : Nat} {L : List (List UInt8)} {c : List UInt8} (h : c ∈ over cs p L) : c ∈ cs ∨ c ∈ L := by
  unfold over at h
  simp only [List.mem_append] at h
  rcases h with (h | h) | h
  · exact .inl (List.mem_of_mem_take h)
  · exact .inr h
  · exact .inl (List.mem_of_mem_drop h)

/-- A head, and halves. -/
structure Hd where
  gen : Nat
  half : Nat
  serial : Nat
  size : Nat
structure Hv where
  log : Nat
  text : Nat
def Hv.Ok (h : Hv) : Prop := 1 ≤ h.log ∧ h.log ≤ 1500 ∧ 1 ≤ h.text ∧ h.text ≤ 1000
def Hv.size (h : Hv) : Nat := 2 + 2 * (h.log + h.text)
def logAt (h : Hv) (half : Nat) : Nat := 2 + half * (h.log + h.text)
def textAt (h : Hv) (half : Nat) : Nat := logAt h half + h.log
def cellsN (n : Nat) : Nat := (n + 63) / 64

def hdOct (m : Hd) : List UInt8 := octs 3 m.gen ++ octs 1 m.half ++ octs 3 m.serial ++ octs 4 m.size ++ List.replicate 49 0 ++ (octs 3 m.gen ++ [3])
theorem hdOct_length (m : Hd) : (hdOct m).length = 64 := by simp [hdOct, octs_length]
def hdOf (c : List UInt8) : Hd := ⟨val (c.take 3), val ((c.drop 3).take 1), val ((c.drop 4).take 3), val ((c.drop 7).take 4)⟩
def Hd.In (m : Hd) : Prop := m.gen < 16777216 ∧ m.half < 256 ∧ m.serial < 16777216 ∧ m.size < 4294967296
theorem hdOf_in (c : List UInt8) : (hdOf c).In := by
  have h1 := val_lt (c.take 3)
  have h2 := val_lt ((c.drop 3).take 1)
  have h3 := val_lt ((c.drop 4).take 3)
  have h4 := val_lt ((c.drop 7).take 4)
  have e1 : 256 ^ (c.take 3).length ≤ 256 ^ 3 := Nat.pow_le_pow_right (by decide) (List.length_take_le _ _)
  have e2 : 256 ^ ((c.drop 3).take 1).length ≤ 256 ^ 1 := Nat.pow_le_pow_right (by decide) (List.length_take_le _ _)
  have e3 : 256 ^ ((c.drop 4).take 3).length ≤ 256 ^ 3 := Nat.pow_le_pow_right (by decide) (List.length_take_le _ _)
  have e4 : 256 ^ ((c.drop 7).take 4).length ≤ 256 ^ 4 := Nat.pow_le_pow_right (by decide) (List.length_take_le _ _)
  unfold hdOf Hd.In
  simp only
  refine ⟨Nat.lt_of_lt_of_le h1 e1, Nat.lt_of_lt_of_le h2 e2, Nat.lt_of_lt_of_le h3 e3, Nat.lt_of_lt_of_le h4 e4⟩
theorem hdOf_hdOct {m : Hd} (h : m.In) : hdOf (hdOct m) = m := by
  obtain ⟨h1, h2, h3, h4⟩ := h
  obtain ⟨g, a, s, z⟩ := m
  simp only at h1 h2 h3 h4
  have l1 := octs_length 3 g
  have l2 := octs_length 1 a
  have l3 := octs_length 3 s
  have l4 := octs_length 4 z
  unfold hdOf hdOct
  simp only [List.append_assoc]
  have d3 : ∀ r : List UInt8, (octs 3 g ++ r).drop 3 = r := fun r => List.drop_left' l1
  have d4 : ∀ r : List UInt8, (octs 3 g ++ (octs 1 a ++ r)).drop 4 = r := fun r => by
    rw [← List.append_assoc]; exact List.drop_left' (by rw [List.length_append, l1, l2])
  have d7 : ∀ r : List UInt8, (octs 3 g ++ (octs 1 a ++ (octs 3 s ++ r))).drop 7 = r := fun r => by
    rw [← List.append_assoc, ← List.append_assoc]; exact List.drop_left' (by simp only [List.length_append, l1, l2, l3])
  rw [d3, d4, d7, List.take_left' l1, List.take_left' l2, List.take_left' l3, List.take_left' l4, val_octs, val_octs, val_octs, val_octs, Nat.mod_eq_of_lt h1, Nat.mod_eq_of_lt h2, Nat.mod_eq_of_lt h3, Nat.mod_eq_of_lt h4]

/-- Does a cell count as a head, in its place? -/
def beOk (h : Hv) (c : List UInt8) (place : Nat) : Bool :=
  decide (1 ≤ (hdOf c).gen ∧ (hdOf c).half ≤ 1 ∧ 1 ≤ (hdOf c).serial ∧ (hdOf c).size ≤ h.text * 64 ∧ (hdOf c).gen % 2 = place) && decide (hdOct (hdOf c) = c)
def newStep (h : Hv) (best : Hd) (c : List UInt8) (place : Nat) : Hd := if beOk h c place = true ∧ best.gen < (hdOf c).gen then hdOf c else best
def newestOf (h : Hv) (c0 c1 : List UInt8) : Hd := newStep h (newStep h ⟨0, 0, 0, 0⟩ c0 0) c1 1

/-- What is kept on a drive: by the head m a text, and records. -/
structure OnKeep (h : Hv) (cs : List (List UInt8)) (m : Hd) (text : List UInt8) (l : List (List UInt8)) : Prop where
  ok : h.Ok
  len : cs.length = h.size
  cell : ∀ c ∈ cs, c.length = 64
  gen : 1 ≤ m.gen ∧ m.gen ≤ 16777215
  half : m.half ≤ 1
  serial : 1 ≤ m.serial ∧ m.serial ≤ 16777215
  size : m.size = text.length ∧ text.length ≤ h.text * 64
  head : cs.getD (m.gen % 2) [] = hdOct m
  other : beOk h (cs.getD (1 - m.gen % 2) []) (1 - m.gen % 2) = true → (hdOf (cs.getD (1 - m.gen % 2) [])).gen < m.gen
  txt : (seg cs (textAt h m.half) (cellsN text.length)).flatten.take text.length = text
  log : ∃ rest, seg cs (logAt h m.half) h.log = recsOf l m.serial ++ rest ∧ ∀ c ∈ rest, NoBeg m.serial c
  olog : ∀ c ∈ seg cs (logAt h (1 - m.half)) h.log, NoBeg (m.serial + l.length) c
  short : ∀ s ∈ l, s.length ≤ 4000

section
variable {h : Hv} {cs : List (List UInt8)} {m : Hd} {text : List UInt8} {l : List (List UInt8)}

theorem OnKeep.inr (k : OnKeep h cs m text l) : m.In := by
  have h1 := k.gen
  have h2 := k.half
  have h3 := k.serial
  have h4 := k.size
  have h5 := k.ok
  unfold Hv.Ok at h5
  unfold Hd.In
  omega
theorem half_place {h : Hv} {a : Nat} (ha : a ≤ 1) : logAt h a + h.log + h.text ≤ h.size := by
  unfold logAt Hv.size
  rcases Nat.le_one_iff_eq_zero_or_eq_one.1 ha with rfl | rfl <;> omega
theorem OnKeep.bound (k : OnKeep h cs m text l) : 6 ≤ cs.length ∧ cs.length ≤ 5002 := by
  have h1 := k.len
  have h2 := k.ok
  unfold Hv.Ok at h2
  unfold Hv.size at h1
  omega
theorem OnKeep.may (k : OnKeep h cs m text l) : (⟨cs, [], -1, false⟩ : Drv).May := by
  have := k.bound
  exact ⟨by simp only; omega, by simp only; omega, by simp, k.cell, fun w hw => by cases hw⟩
theorem OnKeep.fits (k : OnKeep h cs m text l) : span l ≤ h.log := by
  obtain ⟨rest, e, _⟩ := k.log
  have h1 := congrArg List.length e
  have h2 := half_place (h := h) k.half
  rw [seg_length cs _ _ (by rw [k.len]; omega), List.length_append, recsOf_length] at h1
  omega
theorem span_ge' (l : List (List UInt8)) : l.length ≤ span l := by
  induction l with
  | nil => simp
  | cons s l ih => rw [span_cons, List.length_cons]; have := kOf_pos s.length; omega

theorem beOk_head {m : Hd} {h : Hv} (hi : m.In) (h1 : 1 ≤ m.gen) (h2 : m.half ≤ 1) (h3 : 1 ≤ m.serial) (h4 : m.size ≤ h.text * 64) : beOk h (hdOct m) (m.gen % 2) = true := by
  unfold beOk
  rw [hdOf_hdOct hi]
  simp [h1, h2, h3, h4]
/-- The newest head. -/
theorem OnKeep.newest (k : OnKeep h cs m text l) : newestOf h (cs.getD 0 []) (cs.getD 1 []) = m := by
  have hb := beOk_head (h := h) k.inr k.gen.1 k.half k.serial.1 (by rw [k.size.1]; exact k.size.2)
  have hf := hdOf_hdOct k.inr
  have h1 := k.gen.1
  have hh := k.head
  have ho := k.other
  rcases Nat.mod_two_eq_zero_or_one m.gen with hg | hg
  · rw [hg] at hh ho hb
    simp only [Nat.sub_zero] at ho
    have e1 : newStep h ⟨0, 0, 0, 0⟩ (cs.getD 0 []) 0 = m := by
      unfold newStep
      rw [hh, hf, if_pos ⟨hb, h1⟩]
    unfold newestOf
    rw [e1]
    unfold newStep
    rw [if_neg]
    rintro ⟨a, b⟩
    have := ho a
    omega
  · rw [hg] at hh ho hb
    simp only [Nat.sub_self] at ho
    have e1 : (newStep h ⟨0, 0, 0, 0⟩ (cs.getD 0 []) 0).gen < m.gen := by
      unfold newStep
      split
      · rename_i hc
        exact ho hc.1
      · exact h1
    unfold newestOf
    generalize newStep h ⟨0, 0, 0, 0⟩ (cs.getD 0 []) 0 = b at e1 ⊢
    unfold newStep
    rw [hh, hf, if_pos ⟨hb, e1⟩]

theorem two_front (cs : List (List UInt8)) (h : 2 ≤ cs.length) : (cs.drop 0).take 2 = [cs.getD 0 [], cs.getD 1 []] := by
  match cs, h with
  | a :: b :: r, _ => rfl
theorem read_still (cs : List (List UInt8)) (hm : (⟨cs, [], -1, false⟩ : Drv).May) (p n : Nat) (hp : p + n ≤ cs.length) : Drv.read ⟨cs, [], -1, false⟩ (p : Int) (n : Int) = ((seg cs p n).flatten, 0) := by
  unfold Drv.read Drv.there
  rw [if_neg (by rw [mayB_yes hm]; simp), if_neg (by rw [decide_eq_true (by simp only; omega)]; simp), if_neg (by simp)]
  rfl
theorem OnKeep.readHeads (k : OnKeep h cs m text l) : Drv.read ⟨cs, [], -1, false⟩ 0 2 = (cs.getD 0 [] ++ cs.getD 1 [], 0) := by
  have hb := k.bound
  have := read_still cs k.may 0 2 (by omega)
  unfold seg at this
  rw [two_front cs (by omega)] at this
  simpa using this
theorem cellsN_le {n k : Nat} (h : n ≤ k * 64) : cellsN n ≤ k := by unfold cellsN; omega
theorem OnKeep.readText (k : OnKeep h cs m text l) : ∃ O, Drv.read ⟨cs, [], -1, false⟩ ((textAt h m.half : Nat) : Int) ((cellsN m.size : Nat) : Int) = (O, 0) ∧ O.take m.size = text ∧ m.size ≤ O.length ∧ O.length ≤ 64064 := by
  have h2 := half_place (h := h) k.half
  have h3 := cellsN_le k.size.2
  have hl := k.len
  have hr := read_still cs k.may (textAt h m.half) (cellsN m.size) (by unfold textAt; rw [k.size.1]; omega)
  refine ⟨_, hr, ?_, ?_, ?_⟩
  · rw [k.size.1]; exact k.txt
  · rw [flatten_64 _ (fun c hc => k.cell c (seg_mem hc)), seg_length _ _ _ (by unfold textAt; rw [k.size.1]; omega)]
    unfold cellsN
    omega
  · rw [flatten_64 _ (fun c hc => k.cell c (seg_mem hc)), seg_length _ _ _ (by unfold textAt; rw [k.size.1]; omega), k.size.1]
    have := k.ok.2.2.2
    omega

theorem OnKeep.tapeOk (k : OnKeep h cs m text l) (i sr : Nat) (hi : i ≤ h.log) (hs : 1 ≤ sr ∧ sr ≤ 16777216) : tapeOk ⟨cs, [], -1, false⟩ ⟨(logAt h m.half : Nat), (h.log : Nat), (i : Nat), (sr : Nat)⟩ = true := by
  have h2 := half_place (h := h) k.half
  have h3 := k.ok
  unfold Hv.Ok at h3
  unfold Go.Proofs.YtogonkoeginoaaaGreatDoor.tapeOk
  rw [mayB_yes k.may]
  simp only [Bool.true_and, decide_eq_true_eq]
  rw [k.len]
  omega
/-- What its log has. -/
theorem OnKeep.scan (k : OnKeep h cs m text l) (hs : m.serial + l.length ≤ 16777216) : Drv.scan ⟨cs, [], -1, false⟩ ⟨(logAt h m.half : Nat), (h.log : Nat), 0, (m.serial : Nat)⟩ = (l, ⟨(logAt h m.half : Nat), (h.log : Nat), (span l : Nat), ((m.serial + l.length : Nat) : Int)⟩, 0) := by
  have h2 := half_place (h := h) k.half
  have hok := k.tapeOk 0 m.serial (Nat.zero_le _) (by have := k.serial; omega)
  have hrd := read_still cs k.may (logAt h m.half) h.log (by rw [k.len]; omega)
  obtain ⟨rest, e, hn⟩ := k.log
  have hc : ∀ c ∈ rest, c.length = 64 := fun c hc => k.cell c (seg_mem (p := logAt h m.half) (n := h.log) (by rw [e]; exact List.mem_append_right _ hc))
  rw [e, List.flatten_append, recsOf_flat] at hrd
  have hnb := noBeg_none hn hc l.length
  have hll := span_ge' l
  have hsc := scan_lays l m.serial (lays l m.serial ++ rest.flatten).length rest.flatten k.short hs (by rw [List.length_append, lays_length]; omega) hnb
  unfold Drv.scan
  rw [if_neg (by rw [show ((0 : Int)) = ((0 : Nat) : Int) from rfl, hok]; simp)]
  simp only [Int.add_zero, Int.sub_zero]
  rw [hrd]
  simp only [ne_eq, not_true_eq_false, if_false, Int.toNat_natCast]
  rw [hsc]
  simp

/-- A record goes behind the others. -/
theorem OnKeep.add (k : OnKeep h cs m text l) (s : List UInt8) (hs : s.length ≤ 4000) (hr : span l + kOf s.length ≤ h.log) (hn : m.serial + l.length ≤ 16777215) :
    ∃ cs', Drv.append ⟨cs, [], -1, false⟩ ⟨(logAt h m.half : Nat), (h.log : Nat), (span l : Nat), ((m.serial + l.length : Nat) : Int)⟩ s = (⟨cs', [], -1, false⟩, ⟨(logAt h m.half : Nat), (h.log : Nat), (span (l ++ [s]) : Nat), ((m.serial + (l ++ [s]).length : Nat) : Int)⟩, 0) ∧ OnKeep h cs' m text (l ++ [s]) := by
  have h2 := half_place (h := h) k.half
  have hlen := k.len
  have hok := k.tapeOk (span l) (m.serial + l.length) (by omega) (by have := k.serial; omega)
  obtain ⟨f', e, _, hf⟩ := append_ok k.may (logAt h m.half) h.log (span l) (m.serial + l.length) s hok hs hr hn (.inl rfl)
  obtain rfl := hf rfl
  have hk := recCells_length s (m.serial + l.length)
  have hov : logAt h m.half + span l + (recCells s (m.serial + l.length)).length ≤ cs.length := by omega
  have a1 : span (l ++ [s]) = span l + kOf s.length := by
    rw [span_append, span_cons]
    rfl
  have a2 : (l ++ [s]).length = l.length + 1 := by simp
  have hp2 : 2 ≤ logAt h m.half := by unfold logAt; omega
  refine ⟨over cs (logAt h m.half + span l) (recCells s (m.serial + l.length)), ?_, ⟨k.ok, ?_, ?_, k.gen, k.half, k.serial, k.size, ?_, ?_, ?_, ?_, ?_, ?_⟩⟩
  · rw [a1, a2]
    exact e
  · rw [over_length cs _ _ hov]; exact hlen
  · intro c hc
    rcases over_mem hc with hc | hc
    · exact k.cell c hc
    · exact recCells_all s _ c hc
  · rw [List.getD_eq_getElem?_getD, over_get cs _ _ hov, if_pos (by have := Nat.mod_lt m.gen (show 0 < 2 by decide); omega), ← List.getD_eq_getElem?_getD]
    exact k.head
  · have e : (over cs (logAt h m.half + span l) (recCells s (m.serial + l.length))).getD (1 - m.gen % 2) [] = cs.getD (1 - m.gen % 2) [] := by
      rw [List.getD_eq_getElem?_getD, over_get cs _ _ hov, if_pos (by omega), ← List.getD_eq_getElem?_getD]
    rw [e]
    exact k.other
  · rw [seg_over_far cs _ _ hov _ _ (by right; unfold textAt; omega)]
    exact k.txt
  · obtain ⟨rest, e, hn'⟩ := k.log
    have hel := congrArg List.length e
    rw [seg_length cs _ _ (by omega), List.length_append, recsOf_length] at hel
    refine ⟨rest.drop (kOf s.length), ?_, fun c hc => hn' c (List.mem_of_mem_drop hc)⟩
    rw [seg_over_in cs _ _ _ _ (by omega) (by omega), e]
    unfold over
    have l1 := recsOf_length l m.serial
    rw [recsOf_append, recsOf, recsOf, List.append_nil, ← l1, List.take_append_of_le_length (Nat.le_refl _), List.take_length, ← List.drop_drop, List.drop_append_of_le_length (Nat.le_refl _), List.drop_length, List.nil_append, hk]
  · intro c hc
    have hfar : logAt h (1 - m.half) + h.log ≤ logAt h m.half + span l ∨ logAt h m.half + span l + (recCells s (m.serial + l.length)).length ≤ logAt h (1 - m.half) := by
      unfold logAt
      rcases Nat.le_one_iff_eq_zero_or_eq_one.1 k.half with hh | hh <;> rw [hh] <;> omega
    rw [seg_over_far cs _ _ hov _ _ hfar] at hc
    exact (k.olog c hc).mono (by omega)
  · intro x hx
    simp only [List.mem_append, List.mem_singleton] at hx
    rcases hx with hx | rfl
    · exact k.short x hx
    · exact hs
theorem OnKeep.addFull (k : OnKeep h cs m text l) (s : List UInt8) (hs : s.length ≤ 4000) (hr : ¬ span l + kOf s.length ≤ h.log) (hn : m.serial + l.length ≤ 16777215) :
    Drv.append ⟨cs, [], -1, false⟩ ⟨(logAt h m.half : Nat), (h.log : Nat), (span l : Nat), ((m.serial + l.length : Nat) : Int)⟩ s = (Drv.zero, Tp.zero, 6) := by
  have hok := k.tapeOk (span l) (m.serial + l.length) k.fits (by have := k.serial; omega)
  unfold Drv.append
  rw [if_neg (by rintro (h | h); · rw [hok] at h; cases h
                 · omega), if_pos (by left; simp only; omega)]
theorem addArg (d : Drv) (t : Tp) (s : List UInt8) (hs : 4000 < s.length) : Drv.append d t s = (Drv.zero, Tp.zero, 1) := by
  unfold Drv.append
  rw [if_pos (.inr hs)]

/-- A text's cells. -/
def padT (text : List UInt8) : List UInt8 := text ++ List.replicate (cellsN text.length * 64 - text.length) 0
def txtCells (text : List UInt8) : List (List UInt8) := chunks (cellsN text.length) (padT text)
theorem padT_length (text : List UInt8) : (padT text).length = cellsN text.length * 64 := by
  unfold padT cellsN
  rw [List.length_append, List.length_replicate]
  omega
theorem chunks_of : ∀ (n : Nat) (s : List UInt8), s.length = n * 64 → (chunks n s).flatten = s ∧ (chunks n s).length = n ∧ ∀ x ∈ chunks n s, x.length = 64 := by
  intro n
  induction n with
  | zero =>
    intro s hs
    have e : s = [] := List.eq_nil_of_length_eq_zero (by omega)
    subst e
    exact ⟨rfl, rfl, fun x hx => by cases hx⟩
  | succ n ih =>
    intro s hs
    obtain ⟨h1, h2, h3⟩ := ih (s.drop 64) (by rw [List.length_drop]; omega)
    refine ⟨?_, by rw [chunks, List.length_cons, h2], ?_⟩
    · rw [chunks, List.flatten_cons, h1, List.take_append_drop]
    · intro x hx
      rw [chunks] at hx
      rcases List.mem_cons.1 hx with rfl | hx
      · rw [List.length_take]; omega
      · exact h3 x hx
theorem txtCells_flat (text : List UInt8) : (txtCells text).flatten = padT text := (chunks_of _ _ (padT_length text)).1
theorem txtCells_length (text : List UInt8) : (txtCells text).length = cellsN text.length := (chunks_of _ _ (padT_length text)).2.1
theorem txtCells_all (text : List UInt8) : ∀ x ∈ txtCells text, x.length = 64 := (chunks_of _ _ (padT_length text)).2.2

/-- A text is laid on a drive, and a head. -/
def layTxt (h : Hv) (cs : List (List UInt8)) (half : Nat) (text : List UInt8) : List (List UInt8) := if text = [] then cs else over cs (textAt h half) (txtCells text)
def layOn (h : Hv) (cs : List (List UInt8)) (m : Hd) (text : List UInt8) : List (List UInt8) := over (layTxt h cs m.half text) (m.gen % 2) [hdOct m]
theorem layTxt_length {h : Hv} {cs : List (List UInt8)} {half : Nat} {text : List UInt8} (hl : cs.length = h.size) (hh : half ≤ 1) (ht : text.length ≤ h.text * 64) : (layTxt h cs half text).length = h.size := by
  unfold layTxt
  split
  · exact hl
  · have h2 := half_place (h := h) hh
    have h3 := cellsN_le ht
    rw [over_length _ _ _ (by rw [txtCells_length, hl]; unfold textAt; omega), hl]

/-- What is laid so is kept. -/
theorem OnKeep.laid {h : Hv} {cs : List (List UInt8)} {m : Hd} {text : List UInt8} (ok : h.Ok) (len : cs.length = h.size) (cell : ∀ c ∈ cs, c.length = 64) (gen : 1 ≤ m.gen ∧ m.gen ≤ 16777215) (half : m.half ≤ 1)
    (serial : 1 ≤ m.serial ∧ m.serial ≤ 16777215) (size : m.size = text.length ∧ text.length ≤ h.text * 64)
    (other : beOk h (cs.getD (1 - m.gen % 2) []) (1 - m.gen % 2) = true → (hdOf (cs.getD (1 - m.gen % 2) [])).gen < m.gen)
    (logs : ∀ i, i ≤ 1 → ∀ c ∈ seg cs (logAt h i) h.log, NoBeg m.serial c) : OnKeep h (layOn h cs m text) m text [] := by
  have h2 := half_place (h := h) half
  have h3 := cellsN_le size.2
  have hsz : 6 ≤ h.size := by unfold Hv.Ok at ok; unfold Hv.size; omega
  have hp2 : ∀ i, 2 ≤ logAt h i := fun i => by unfold logAt; omega
  have hl1 : (layTxt h cs m.half text).length = h.size := layTxt_length len half size.2
  have hg2 := Nat.mod_lt m.gen (show 0 < 2 by decide)
  have hov : m.gen % 2 + [hdOct m].length ≤ (layTxt h cs m.half text).length := by rw [hl1, List.length_singleton]; omega
  have hot : text ≠ [] → textAt h m.half + (txtCells text).length ≤ cs.length := fun _ => by rw [txtCells_length, len]; unfold textAt; omega
  -- cells ahead of the text
  have hfront : ∀ i, i < 2 → (layTxt h cs m.half text).getD i [] = cs.getD i [] := by
    intro i hi
    unfold layTxt
    split
    · rfl
    · rename_i hne
      rw [List.getD_eq_getElem?_getD, over_get _ _ _ (hot hne), if_pos (by have := hp2 m.half; unfold textAt; omega), ← List.getD_eq_getElem?_getD]
  have hlog : ∀ i, i ≤ 1 → seg (layOn h cs m text) (logAt h i) h.log = seg cs (logAt h i) h.log := by
    intro i hi
    have hi2 := half_place (h := h) hi
    unfold layOn
    rw [seg_over_far _ _ _ hov _ _ (by right; rw [List.length_singleton]; have := hp2 i; omega)]
    unfold layTxt
    split
    · rfl
    · rename_i hne
      rw [seg_over_far _ _ _ (hot hne)]
      rw [txtCells_length]
      unfold textAt logAt
      rcases Nat.le_one_iff_eq_zero_or_eq_one.1 hi with rfl | rfl <;> rcases Nat.le_one_iff_eq_zero_or_eq_one.1 half with hh | hh <;> rw [hh] <;> omega
  refine ⟨ok, ?_, ?_, gen, half, serial, size, ?_, ?_, ?_, ⟨seg cs (logAt h m.half) h.log, ?_, logs m.half half⟩, ?_, fun s hs => by cases hs⟩
  · unfold layOn
    rw [over_length _ _ _ hov, hl1]
  · intro c hc
    unfold layOn at hc
    rcases over_mem hc with hc | hc
    · unfold layTxt at hc
      split at hc
      · exact cell c hc
      · rcases over_mem hc with hc | hc
        · exact cell c hc
        · exact txtCells_all text c hc
    · rw [List.mem_singleton] at hc
      rw [hc]
      exact hdOct_length m
  · unfold layOn
    rw [List.getD_eq_getElem?_getD, over_get _ _ _ hov, if_neg (by omega), if_pos (by rw [List.length_singleton]; omega), Nat.sub_self]
    rfl
  · have e : (layOn h cs m text).getD (1 - m.gen % 2) [] = cs.getD (1 - m.gen % 2) [] := by
      unfold layOn
      rw [List.getD_eq_getElem?_getD, over_get _ _ _ hov]
      have : (layTxt h cs m.half text)[1 - m.gen % 2]? = cs[1 - m.gen % 2]? := by
        have h1 := hfront (1 - m.gen % 2) (by omega)
        rw [List.getD_eq_getElem?_getD, List.getD_eq_getElem?_getD, List.getElem?_eq_getElem (by omega), List.getElem?_eq_getElem (by omega)] at h1
        simp only [Option.getD_some] at h1
        rw [List.getElem?_eq_getElem (by omega), List.getElem?_eq_getElem (by omega), h1]
      rw [this, List.length_singleton]
      by_cases hz : 1 - m.gen % 2 < m.gen % 2
      · rw [if_pos hz, ← List.getD_eq_getElem?_getD]
      · rw [if_neg hz, if_neg (by omega), ← List.getD_eq_getElem?_getD]
    rw [e]
    exact other
  · unfold layOn
    rw [seg_over_far _ _ _ hov _ _ (by right; rw [List.length_singleton]; have := hp2 m.half; unfold textAt; omega)]
    unfold layTxt
    split
    · rename_i he
      rw [he]
      rfl
    · rename_i hne
      have := seg_over_same cs _ _ (hot hne)
      rw [txtCells_length] at this
      rw [this, txtCells_flat, padT, List.take_left' rfl]
  · rw [hlog m.half half, recsOf, List.nil_append]
  · intro c hc
    rw [hlog (1 - m.half) (by omega)] at hc
    exact logs _ (by omega) c hc

/-- A new drive. -/
theorem blank_noBeg (sr : Nat) : NoBeg sr blank := .inl (by decide)
theorem beOk_blank (h : Hv) (p : Nat) : beOk h blank p = false := by
  unfold beOk
  rw [show (hdOf blank).gen = 0 from by decide]
  simp
theorem OnKeep.new (h : Hv) (ok : h.Ok) (text : List UInt8) (ht : text.length ≤ h.text * 64) : OnKeep h (layOn h (List.replicate h.size blank) ⟨1, 0, 1, text.length⟩ text) ⟨1, 0, 1, text.length⟩ text [] := by
  refine OnKeep.laid ok (by simp) (fun c hc => by rw [List.eq_of_mem_replicate hc]; rfl) ⟨Nat.le_refl _, by simp⟩ (by simp) ⟨Nat.le_refl _, by simp⟩ ⟨rfl, ht⟩ ?_ (fun i _ c hc => by rw [List.eq_of_mem_replicate (seg_mem hc)]; exact blank_noBeg _)
  intro hb
  exfalso
  have e : (List.replicate h.size blank).getD (1 - (⟨1, 0, 1, text.length⟩ : Hd).gen % 2) [] = blank := by
    have : 1 ≤ h.size := by unfold Hv.size; omega
    rw [List.getD_eq_getElem?_getD, List.getElem?_replicate, if_pos (by simp; omega)]
    rfl
  rw [e, beOk_blank] at hb
  cases hb
/-- Another text is saved. -/
theorem OnKeep.save (k : OnKeep h cs m text l) (t : List UInt8) (ht : t.length ≤ h.text * 64) (hg : m.gen < 16777215) (hs : m.serial + l.length ≤ 16777215) :
    OnKeep h (layOn h cs ⟨m.gen + 1, 1 - m.half, m.serial + l.length, t.length⟩ t) ⟨m.gen + 1, 1 - m.half, m.serial + l.length, t.length⟩ t [] := by
  have hh := k.half
  have hs1 := k.serial
  refine OnKeep.laid k.ok k.len k.cell ⟨by simp only; omega, by simp only; omega⟩ (by simp only; omega) ⟨by simp only; omega, by simp only; omega⟩ ⟨rfl, ht⟩ ?_ ?_
  · simp only
    intro _
    have e : 1 - (m.gen + 1) % 2 = m.gen % 2 := by omega
    rw [e, k.head, hdOf_hdOct k.inr]
    omega
  · intro i hi c hc
    simp only
    by_cases e : i = m.half
    · subst e
      obtain ⟨rest, er, hn⟩ := k.log
      rw [er, List.mem_append] at hc
      rcases hc with hc | hc
      · exact recsOf_noBeg l m.serial hs1.1 (by omega) c hc
      · exact (hn c hc).mono (by omega)
    · have : i = 1 - m.half := by omega
      rw [this] at hc
      exact k.olog c hc
end

end Go.Proofs.YtogonkoeginoaaaGreatDoor

namespace Go.Proofs.YtogonkoeginoaaaGreatDoor
open Go.RowKit

def hvVal (h : Hv) : Value := .agg #[.int .i64 (h.log : Int), .int .i64 (h.text : Int)]
def hdCells (m : Hd) : List Value := [.int .i64 (m.gen : Int), .int .i64 (m.half : Int), .int .i64 (m.serial : Int), .int .i64 (m.size : Int)]
def hdVal (m : Hd) : Value := .agg #[.int .i64 (m.gen : Int), .int .i64 (m.half : Int), .int .i64 (m.serial : Int), .int .i64 (m.size : Int)]

/-- What a block of two cells gives the walk. -/
theorem Blk.pair {w : World} {b : Nat} {v0 v1 : Value} {t : TypeId} (h : Blk w b [v0, v1] t) :
    w.cell? ⟨b, 0, none⟩ = some v0 ∧ w.cell? ⟨b, 1, none⟩ = some v1 ∧ w.frozen? ⟨b, 0, none⟩ = false ∧ w.frozen? ⟨b, 1, none⟩ = false := ⟨h.cell 0, h.cell 1, h.free 0, h.free 1⟩

set_option maxRecDepth 100000 in
set_option maxHeartbeats 800000 in
theorem kwide_any (n k : Nat) (w : World) (h1 : 1 ≤ k) (h8 : k ≤ 8) (hm : n < 256 ^ k) (hm2 : n < 9223372036854775808) :
    Calls Tryz.prog 78 #[.int .i64 (n : Int), .int .i64 (k : Int)] w fun e w' => e = .returned (.string (bs (octs k n))) ∧ Below w.heap.size w w' := by
  have HP := hide (put_octs n k h1 h8 hm w (by omega))
  obtain ⟨sv, hsv⟩ : ∃ z, bs (octs k n) = z := ⟨_, rfl⟩
  rw [hsv] at HP ⊢
  have hn0 : (0 : Int) ≤ (n : Int) := by omega
  clear hsv hm
  go_enter Tryz.func78, Tryz.ntmps78
  go_wp2_with fail
  refine HP.out.mono ?_
  rintro e w1 ⟨rfl, hb⟩
  go_wp2_with fail
  go_ret
  exact ⟨rfl, hb⟩

set_option maxRecDepth 100000 in
set_option maxHeartbeats 800000 in
theorem klogAt_any (h : Hv) (a : Nat) (w : World) (ho : h.Ok) (ha : a ≤ 1) :
    Calls Tryz.prog 50 #[hvVal h, .int .i64 (a : Int)] w fun e w' => e = .returned (.int .i64 (logAt h a : Nat)) ∧ Below w.heap.size w w' := by
  obtain ⟨g, t⟩ := h
  obtain ⟨h1, h2, h3, h4⟩ := ho
  simp only at h1 h2 h3 h4
  unfold hvVal
  simp only
  have hb : Below w.heap.size w (w.alloc (.cells #[.int .i64 (g : Int), .int .i64 (t : Int)] 27)) := (Below.refl _ _).alloc (Nat.le_refl _) _
  have hB := Blk.new w [.int .i64 (g : Int), .int .i64 (t : Int)] 27
  obtain ⟨p0, p1, p2, p3⟩ := hB.pair
  rcases Nat.le_one_iff_eq_zero_or_eq_one.1 ha with rfl | rfl
  · go_enter Tryz.func50, Tryz.ntmps50
    go_wp2_with fail
    go_ret
    exact ⟨by unfold logAt; simp, hb⟩
  · go_enter Tryz.func50, Tryz.ntmps50
    go_wp2_with fail
    go_ret
    exact ⟨by unfold logAt; simp, hb⟩

set_option maxRecDepth 100000 in
set_option maxHeartbeats 800000 in
theorem kcells_any (n : Nat) (w : World) (hn : n ≤ 1000000) :
    Calls Tryz.prog 34 #[.int .i64 (n : Int)] w fun e w' => e = .returned (.int .i64 (cellsN n : Nat)) ∧ w = w' := by
  go_enter Tryz.func34, Tryz.ntmps34
  go_wp2_with fail
  go_ret
  have hq : ((n : Int) + 64 - 1) / 64 = ((cellsN n : Nat) : Int) := by unfold cellsN; omega
  refine ⟨?_, rfl⟩
  show Ending.returned (.int .i64 (((n : Int) + 64 - 1) / 64)) = _
  rw [hq]

set_option maxRecDepth 100000 in
set_option maxHeartbeats 800000 in
theorem kplace_any (m : Hd) (w : World) (hm : m.In) :
    Calls Tryz.prog 48 #[hdVal m] w fun e w' => e = .returned (.int .i64 (m.gen % 2 : Nat)) ∧ Below w.heap.size w w' := by
  obtain ⟨g, a, s, z⟩ := m
  obtain ⟨h1, h2, h3, h4⟩ := hm
  simp only at h1 h2 h3 h4
  unfold hdVal
  simp only
  have hb : Below w.heap.size w (w.alloc (.cells #[.int .i64 (g : Int), .int .i64 (a : Int), .int .i64 (s : Int), .int .i64 (z : Int)] 56)) := (Below.refl _ _).alloc (Nat.le_refl _) _
  have hB := Blk.new w [.int .i64 (g : Int), .int .i64 (a : Int), .int .i64 (s : Int), .int .i64 (z : Int)] 56
  obtain ⟨p0, p1, p2, p3, p4, p5, p6, p7⟩ := hB.four
  go_enter Tryz.func48, Tryz.ntmps48
  go_wp2_with fail
  go_ret
  have hq : (g : Int) % 2 = ((g % 2 : Nat) : Int) := by omega
  refine ⟨?_, hb⟩
  show Ending.returned (.int .i64 ((g : Int) % 2)) = _
  rw [hq]

set_option maxRecDepth 100000 in
set_option maxHeartbeats 1600000 in
theorem ktextAt_any (h : Hv) (a : Nat) (w : World) (ho : h.Ok) (ha : a ≤ 1) :
    Calls Tryz.prog 33 #[hvVal h, .int .i64 (a : Int)] w fun e w' => e = .returned (.int .i64 (textAt h a : Nat)) ∧ Below w.heap.size w w' := by
  have HL := hide (fun w => klogAt_any h a w ho ha)
  have hta : ((logAt h a : Nat) : Int) + (h.log : Int) = ((textAt h a : Nat) : Int) := by unfold textAt; push_cast; rfl
  have htb : logAt h a ≤ 10000 := by
    have h1 := half_place (h := h) ha
    unfold Hv.Ok at ho
    unfold Hv.size at h1
    omega
  obtain ⟨x, hx⟩ : ∃ x, logAt h a = x := ⟨_, rfl⟩
  obtain ⟨y, hy⟩ : ∃ x, textAt h a = x := ⟨_, rfl⟩
  rw [hx] at HL hta htb
  rw [hy] at hta ⊢
  clear hx hy
  obtain ⟨g, t⟩ := h
  obtain ⟨h1, h2, h3, h4⟩ := ho
  simp only at h1 h2 h3 h4 hta
  unfold hvVal at HL ⊢
  simp only at HL ⊢
  have hB := Blk.new w [.int .i64 (g : Int), .int .i64 (t : Int)] 27
  obtain ⟨W0, hW0⟩ : ∃ z, w.alloc (.cells #[.int .i64 (g : Int), .int .i64 (t : Int)] 27) = z := ⟨_, rfl⟩
  have hb : Below w.heap.size w W0 := by rw [← hW0]; exact (Below.refl _ _).alloc (Nat.le_refl _) _
  have hB0 : Blk W0 w.heap.size [.int .i64 (g : Int), .int .i64 (t : Int)] 27 := by rw [← hW0]; exact hB
  have HK := hide (fun w' (h : Below W0.heap.size W0 w') => show Below W0.heap.size W0 w' ∧ w'.cell? ⟨w.heap.size, 0, none⟩ = some (.int .i64 (g : Int)) ∧ w'.cell? ⟨w.heap.size, 1, none⟩ = some (.int .i64 (t : Int)) from ⟨h, (hB0.next h).cell 0, (hB0.next h).cell 1⟩)
  have hwx : IntKind.i64.wrap ((x : Int) + (g : Int)) = (x : Int) + (g : Int) := IntWalk.i64_in _ (by omega)
  have HTA := hide hta
  clear hB hta
  go_enter Tryz.func33, Tryz.ntmps33
  go_upto_region 1 with fail
  try rw [hW0]
  clear hW0
  go_region_held3 (fun w' => Below W0.heap.size W0 w' ∧ w'.cell? ⟨w.heap.size, 0, none⟩ = some (.int .i64 (g : Int)) ∧ w'.cell? ⟨w.heap.size, 1, none⟩ = some (.int .i64 (t : Int))) (first | exact HK.out _ (Below.drewed (Below.refl _ _)) | exact HK.out _ hbq.out) (
    (go_at_call 50
     have hq := (‹Below W0.heap.size W0 _ ∧ _›).1
     refine (HL.out _).mono ?_
     rintro e w8 ⟨rfl, hb8⟩
     have hbq := hide (chain hq hb8)
     clear hq hb8))
  all_goals
    go_wp2_with fail
    go_ret
    rw [← HTA.out]
    exact ⟨rfl, chain hb hbq.out⟩

set_option maxRecDepth 100000 in
set_option maxHeartbeats 1600000 in
theorem ktape_any (h : Hv) (m : Hd) (w : World) (ho : h.Ok) (ha : m.half ≤ 1) :
    Calls Tryz.prog 21 #[hvVal h, hdVal m] w fun e w' => e = .returned (.agg #[.int .i64 (logAt h m.half : Nat), .int .i64 (h.log : Int), .int .i64 0, .int .i64 (m.serial : Int)]) ∧ Below w.heap.size w w' := by
  obtain ⟨gn, a, sr, sz⟩ := m
  simp only at ha
  have HL := hide (fun w => klogAt_any h a w ho ha)
  simp only
  obtain ⟨x, hx⟩ : ∃ x, logAt h a = x := ⟨_, rfl⟩
  rw [hx] at HL ⊢
  clear hx ho ha
  obtain ⟨g, t⟩ := h
  unfold hvVal at HL ⊢
  unfold hdVal
  simp only at HL ⊢
  obtain ⟨B0, B1, B2⟩ := three_kinds w [.int .i64 (g : Int), .int .i64 (t : Int)] [.int .i64 (gn : Int), .int .i64 (a : Int), .int .i64 (sr : Int), .int .i64 (sz : Int)] [.int .i64 0, .int .i64 0, .int .i64 0, .int .i64 0] 27 56 63
  obtain ⟨W0, hW0⟩ : ∃ z, (((w.alloc (.cells #[.int .i64 (g : Int), .int .i64 (t : Int)] 27)).alloc (.cells #[.int .i64 (gn : Int), .int .i64 (a : Int), .int .i64 (sr : Int), .int .i64 (sz : Int)] 56)).alloc (.cells #[.int .i64 0, .int .i64 0, .int .i64 0, .int .i64 0] 63)) = z := ⟨_, rfl⟩
  have hb : Below w.heap.size w W0 := by rw [← hW0]; exact (((Below.refl _ _).alloc (Nat.le_refl _) _).alloc (by simp) _).alloc (by simp; omega) _
  rw [hW0] at B0 B1 B2
  go_enter Tryz.func21, Tryz.ntmps21
  go_upto_region 1 with fail
  try rw [hW0]
  clear hW0
  obtain ⟨b0, hb0⟩ : ∃ b, w.heap.size = b := ⟨_, rfl⟩
  rw [hb0] at B0 B1 B2 ⊢
  obtain ⟨b1, hb1⟩ : ∃ b, b0 + 1 = b := ⟨_, rfl⟩
  have B1 : Blk W0 b1 [.int .i64 (gn : Int), .int .i64 (a : Int), .int .i64 (sr : Int), .int .i64 (sz : Int)] 56 := by rw [← hb1]; exact B1
  have B2 : Blk W0 (b1 + 1) [.int .i64 0, .int .i64 0, .int .i64 0, .int .i64 0] 63 := by rw [← hb1]; exact B2
  rw [hb1]
  obtain ⟨b2, hb2⟩ : ∃ b, b1 + 1 = b := ⟨_, rfl⟩
  rw [hb2] at B2 ⊢
  have hn02 : b0 ≠ b2 := by omega
  have hn20 : b2 ≠ b0 := by omega
  have hn12 : b1 ≠ b2 := by omega
  have hn21 : b2 ≠ b1 := by omega
  have hb0l : w.heap.size ≤ b2 := by omega
  obtain ⟨p0, p1, p2, p3⟩ := B0.pair
  obtain ⟨q0, q1, q2, q3, q4, q5, q6, q7⟩ := B1.four
  clear hb0 hb1 hb2
  go_region_held3 (fun w' => w'.cell? ⟨b0, 0, none⟩ = some (.int .i64 (g : Int)) ∧ w'.cell? ⟨b0, 1, none⟩ = some (.int .i64 (t : Int)) ∧ w'.cell? ⟨b1, 0, none⟩ = some (.int .i64 (gn : Int)) ∧ w'.cell? ⟨b1, 1, none⟩ = some (.int .i64 (a : Int)) ∧ w'.cell? ⟨b1, 2, none⟩ = some (.int .i64 (sr : Int)) ∧ w'.cell? ⟨b1, 3, none⟩ = some (.int .i64 (sz : Int))) (go_keep) (
    (go_at_call 50
     refine (HL.out _).mono ?_
     rintro e w8 ⟨rfl, hb8⟩
     have hbq := hide (undrew1 hb8)
     clear hb8
     obtain ⟨k0, k1, k2, k3⟩ := (B0.next hbq.out).pair
     obtain ⟨m0, m1, m2, m3, m4, m5, m6, m7⟩ := (B1.next hbq.out).four
     obtain ⟨n0, n1, n2, n3, n4, n5, n6, n7⟩ := (B2.next hbq.out).four
     have hl2 := (B2.next hbq.out).lt))
  all_goals
    obtain ⟨W9, hW9⟩ : ∃ W9, (((((w8.setCell ⟨b2, 0, none⟩ (.int .i64 (x : Int))).setCell ⟨b2, 1, none⟩ (.int .i64 (g : Int))).setCell ⟨b2, 2, none⟩ (.int .i64 0)).setCell ⟨b2, 3, none⟩ (.int .i64 (sr : Int)))) = W9 := ⟨_, rfl⟩
    have K2 : Blk W9 b2 [.int .i64 (x : Int), .int .i64 (g : Int), .int .i64 0, .int .i64 (sr : Int)] 63 := by rw [← hW9]; exact (B2.next hbq.out).set4 _ _ _ _
    have hb9 : Below w.heap.size w W9 := by rw [← hW9]; exact below4 (chain hb hbq.out) hb0l _ _ _ _
    try rw [hW9]
    clear hW9 k0 k1 k2 k3 m0 m1 m2 m3 m4 m5 m6 m7 n0 n1 n2 n3 n4 n5 n6 n7
    obtain ⟨g0, g1, g2, g3, g4, g5, g6, g7⟩ := K2.four
    go_wp2_with fail
    exact bodyPost_ret (v := .agg #[.int .i64 (x : Int), .int .i64 (g : Int), .int .i64 0, .int .i64 (sr : Int)]) (by simp [results, Tryz.results21, go_sem, g0, g1, g2, g3]) rfl ⟨rfl, hb9⟩

set_option maxRecDepth 100000 in
set_option maxHeartbeats 3200000 in
theorem koctets_any (m : Hd) (w : World) (hm : m.In) :
    Calls Tryz.prog 49 #[hdVal m] w fun e w' => e = .returned (.string (bs (hdOct m))) ∧ Below w.heap.size w w' := by
  obtain ⟨g, a, s, z⟩ := m
  obtain ⟨h1, h2, h3, h4⟩ := hm
  simp only at h1 h2 h3 h4
  have HW1 : Hid (∀ w, Calls Tryz.prog 78 #[.int .i64 (g : Int), .int .i64 3] w fun e w' => e = .returned (.string (bs (octs 3 g))) ∧ Below w.heap.size w w') := hide (fun w => kwide_any g 3 w (by decide) (by decide) h1 (by omega))
  have HW2 : Hid (∀ w, Calls Tryz.prog 78 #[.int .i64 (a : Int), .int .i64 1] w fun e w' => e = .returned (.string (bs (octs 1 a))) ∧ Below w.heap.size w w') := hide (fun w => kwide_any a 1 w (by decide) (by decide) h2 (by omega))
  have HW3 : Hid (∀ w, Calls Tryz.prog 78 #[.int .i64 (s : Int), .int .i64 3] w fun e w' => e = .returned (.string (bs (octs 3 s))) ∧ Below w.heap.size w w') := hide (fun w => kwide_any s 3 w (by decide) (by decide) h3 (by omega))
  have HW4 : Hid (∀ w, Calls Tryz.prog 78 #[.int .i64 (z : Int), .int .i64 4] w fun e w' => e = .returned (.string (bs (octs 4 z))) ∧ Below w.heap.size w w') := hide (fun w => kwide_any z 4 w (by decide) (by decide) h4 (by omega))
  have HR : Hid (∀ w, Calls Tryz.prog 46 #[.string ⟨#[0]⟩, .int .i64 49] w fun e w' => e = .returned (.string (bs (List.replicate 49 0))) ∧ Below w.heap.size w w') := hide (fun w => repeat0_any 49 w (by decide))
  have l1 : (bs (octs 3 g)).size = 3 := by rw [bs_size, octs_length]
  have l2 : (bs (octs 1 a)).size = 1 := by rw [bs_size, octs_length]
  have l3 : (bs (octs 3 s)).size = 3 := by rw [bs_size, octs_length]
  have l4 : (bs (octs 4 z)).size = 4 := by rw [bs_size, octs_length]
  have hend : bs (octs 3 g) ++ ⟨#[3]⟩ = bs (octs 3 g ++ [3]) := bs_append _ [3]
  have hbeg : bs (octs 3 g) ++ bs (octs 1 a) ++ bs (octs 3 s) ++ bs (octs 4 z) = bs (octs 3 g ++ octs 1 a ++ octs 3 s ++ octs 4 z) := by rw [bs_append, bs_append, bs_append]
  have hall : bs (octs 3 g ++ octs 1 a ++ octs 3 s ++ octs 4 z) ++ bs (List.replicate 49 0) ++ bs (octs 3 g ++ [3]) = bs (hdOct ⟨g, a, s, z⟩) := by rw [bs_append, bs_append]; rfl
  have lb : (bs (octs 3 g ++ octs 1 a ++ octs 3 s ++ octs 4 z)).size = 11 := by rw [bs_size]; simp [octs_length]
  have l5 : (bs (List.replicate 49 0)).size = 49 := by rw [bs_size, List.length_replicate]
  have le : (bs (octs 3 g ++ [3])).size = 4 := by rw [bs_size]; simp [octs_length]
  obtain ⟨x1, e1⟩ : ∃ x, bs (octs 3 g) = x := ⟨_, rfl⟩
  obtain ⟨x2, e2⟩ : ∃ x, bs (octs 1 a) = x := ⟨_, rfl⟩
  obtain ⟨x3, e3⟩ : ∃ x, bs (octs 3 s) = x := ⟨_, rfl⟩
  obtain ⟨x4, e4⟩ : ∃ x, bs (octs 4 z) = x := ⟨_, rfl⟩
  obtain ⟨x5, e5⟩ : ∃ x, bs (List.replicate 49 0) = x := ⟨_, rfl⟩
  obtain ⟨x6, e6⟩ : ∃ x, bs (octs 3 g ++ [3]) = x := ⟨_, rfl⟩
  obtain ⟨x7, e7⟩ : ∃ x, bs (octs 3 g ++ octs 1 a ++ octs 3 s ++ octs 4 z) = x := ⟨_, rfl⟩
  obtain ⟨x8, e8⟩ : ∃ x, bs (hdOct ⟨g, a, s, z⟩) = x := ⟨_, rfl⟩
  rw [e1] at HW1 l1 hend hbeg
  rw [e2] at HW2 l2 hbeg
  rw [e3] at HW3 l3 hbeg
  rw [e4] at HW4 l4 hbeg
  rw [e5] at HR hall l5
  rw [e6] at hend hall le
  rw [e7] at hbeg hall lb
  rw [e8] at hall ⊢
  clear e1 e2 e3 e4 e5 e6 e7 e8
  unfold hdVal
  simp only
  have hB := Blk.new w [.int .i64 (g : Int), .int .i64 (a : Int), .int .i64 (s : Int), .int .i64 (z : Int)] 56
  obtain ⟨W0, hW0⟩ : ∃ q, w.alloc (.cells #[.int .i64 (g : Int), .int .i64 (a : Int), .int .i64 (s : Int), .int .i64 (z : Int)] 56) = q := ⟨_, rfl⟩
  have hb : Below w.heap.size w W0 := by rw [← hW0]; exact (Below.refl _ _).alloc (Nat.le_refl _) _
  have hB0 : Blk W0 w.heap.size [.int .i64 (g : Int), .int .i64 (a : Int), .int .i64 (s : Int), .int .i64 (z : Int)] 56 := by rw [← hW0]; exact hB
  clear hB
  go_enter Tryz.func49, Tryz.ntmps49
  go_upto_region 1 with fail
  try rw [hW0]
  clear hW0
  obtain ⟨p0, p1, p2, p3, p4, p5, p6, p7⟩ := hB0.four
  go_wp2_with fail
  refine (HW1.out _).mono ?_
  rintro e w1 ⟨rfl, hb1⟩
  have hB1 := hB0.next hb1
  have hbx := chain hb hb1
  clear hb1 hb hB0 p0 p1 p2 p3 p4 p5 p6 p7
  go_upto_region 2 with fail
  have HK := hide (fun w' (h : Below w1.heap.size w1 w') => show Below w1.heap.size w1 w' ∧ w'.cell? ⟨w.heap.size, 0, none⟩ = some (.int .i64 (g : Int)) ∧ w'.cell? ⟨w.heap.size, 1, none⟩ = some (.int .i64 (a : Int)) ∧ w'.cell? ⟨w.heap.size, 2, none⟩ = some (.int .i64 (s : Int)) ∧ w'.cell? ⟨w.heap.size, 3, none⟩ = some (.int .i64 (z : Int)) from ⟨h, (hB1.next h).cell 0, (hB1.next h).cell 1, (hB1.next h).cell 2, (hB1.next h).cell 3⟩)
  go_region_held3 (fun w' => Below w1.heap.size w1 w' ∧ w'.cell? ⟨w.heap.size, 0, none⟩ = some (.int .i64 (g : Int)) ∧ w'.cell? ⟨w.heap.size, 1, none⟩ = some (.int .i64 (a : Int)) ∧ w'.cell? ⟨w.heap.size, 2, none⟩ = some (.int .i64 (s : Int)) ∧ w'.cell? ⟨w.heap.size, 3, none⟩ = some (.int .i64 (z : Int))) (first | exact HK.out _ (Below.drewed (Below.refl _ _)) | exact HK.out _ hbq.out) (first
    | (go_at_call_of 78 (Value.int IntKind.i64 (a : Int))
       have hq := (‹Below w1.heap.size w1 _ ∧ _›).1
       refine (HW2.out _).mono ?_
       rintro e w8 ⟨rfl, hb8⟩
       have hbq := hide (chain hq hb8)
       clear hq hb8)
    | (go_at_call_of 78 (Value.int IntKind.i64 (s : Int))
       have hq := (‹Below w1.heap.size w1 _ ∧ _›).1
       refine (HW3.out _).mono ?_
       rintro e w8 ⟨rfl, hb8⟩
       have hbq := hide (chain hq hb8)
       clear hq hb8)
    | (go_at_call_of 78 (Value.int IntKind.i64 (z : Int))
       have hq := (‹Below w1.heap.size w1 _ ∧ _›).1
       refine (HW4.out _).mono ?_
       rintro e w8 ⟨rfl, hb8⟩
       have hbq := hide (chain hq hb8)
       clear hq hb8))
  all_goals
    have hby := chain hbx hbq.out
    clear hbq hbx
    go_wp2_with fail
    refine (HR.out _).mono ?_
    rintro e w9 ⟨rfl, hb9⟩
    have hbz := chain hby hb9
    clear hby hb9
    go_wp2_with fail
    go_ret
    exact ⟨rfl, hbz⟩

end Go.Proofs.YtogonkoeginoaaaGreatDoor

namespace Go.Proofs.YtogonkoeginoaaaGreatDoor
open Go.RowKit

theorem Step.ofBelow {w w' : World} (h : Below w.heap.size w w') (row : Option Nat) : Step w w' row :=
  ⟨⟨h.os, h.tape, h.output, h.size, fun k hk _ => h.block k hk⟩, (Step.below h).k64⟩
theorem Blk.step {w w' : World} {b c : Nat} {vs : List Value} {t : TypeId} (h : Blk w c vs t) (hs : Step w w' (some b)) (hne : c ≠ b) : Blk w' c vs t := h.grown hs.grown (fun e => hne (by injection e))
theorem Step.size {w w' : World} {row : Option Nat} (h : Step w w' row) : w.heap.size ≤ w'.heap.size := h.grown.size
theorem Step.toBelow {B : Nat} {a w w' : World} {b : Nat} (h : Below B a w) (hB : B ≤ w.heap.size) (hs : Step w w' (some b)) (hb : B ≤ b) : Below B a w' := h.grown hs.grown hB (fun g hg => by injection hg with hg; omega)

/-- No row of strings lies in a block without strings. -/
theorem blk_not {w : World} {b b' off : Nat} {vs : List Value} {t : TypeId} {x : ByteArray} (h : Blk w b vs t) (hn : ∀ u ∈ vs, noStr u = true) (hc : w.cell? ⟨b', off, none⟩ = some (.string x)) : b' ≠ b := by
  rintro rfl
  rw [h.cell off] at hc
  have := hn _ (List.mem_of_getElem? hc)
  cases this
theorem row_setB {w : World} {ao : Option Addr} {vs us : List Value} {b : Nat} {t : TypeId} (h : Row w ao us) (hu : us = [] ∨ ∃ (j : Nat) (x : ByteArray), us[j]? = some (Value.string x)) (hb : Blk w b vs t) (hn : ∀ u ∈ vs, noStr u = true) (i : Nat) (u : Value) : Row (w.setCell ⟨b, i, none⟩ u) ao us := by
  rcases hu with rfl | ⟨j, x, hj⟩
  · exact .inl rfl
  · rcases h with rfl | ⟨b', off, e, hc⟩
    · exact .inl rfl
    · have hne := blk_not hb hn (hc j _ hj)
      refine .inr ⟨b', off, e, fun k v hk => ?_⟩
      rw [World.cell?_setCell_other _ _ _ _ (fun e => by injection e with e; exact hne e.symm)]
      exact hc k v hk
theorem IsDrive.setB {w : World} {v : Value} {d : Drv} (h : IsDrive w v d) {b : Nat} {vs : List Value} {t : TypeId} (hb : Blk w b vs t) (hn : ∀ u ∈ vs, noStr u = true) (i : Nat) (u : Value) : IsDrive (w.setCell ⟨b, i, none⟩ u) v d := by
  obtain ⟨a1, n1, c1, a2, n2, c2, f, o, e, h⟩ := h
  refine ⟨a1, n1, c1, a2, n2, c2, f, o, e, ⟨h.cells.len, row_setB h.cells.row ?_ hb hn i u⟩, ⟨h.queue.len, h.queue.range, row_setB h.queue.row ?_ hb hn i u⟩, h.room1, h.room2, h.fuel_eq, h.off_eq, h.range⟩
  · cases d.cells with
    | nil => exact .inl rfl
    | cons c l => exact .inr ⟨0, _, rfl⟩
  · cases d.queue with
    | nil => exact .inl rfl
    | cons x q => exact .inr ⟨1, bs x.s, rfl⟩

/-- A work: a drive, and an error. -/
def wkCells (a1 : Option Addr) (n1 c1 : Nat) (a2 : Option Addr) (n2 c2 : Nat) (f : Int) (o : Bool) (e : Int) : List Value := [.slice a1 n1 c1, .slice a2 n2 c2, .int .i64 f, .bool o, .int .i64 e]
theorem wk_noStr {a1 : Option Addr} {n1 c1 : Nat} {a2 : Option Addr} {n2 c2 : Nat} {f : Int} {o : Bool} {e : Int} : ∀ u ∈ wkCells a1 n1 c1 a2 n2 c2 f o e, noStr u = true := by
  intro u hu
  simp [wkCells] at hu
  rcases hu with rfl | rfl | rfl | rfl | rfl <;> rfl
def Work (w : World) (b : Nat) (d : Drv) : Prop := ∃ a1 n1 c1 a2 n2 c2 f o, Blk w b (wkCells a1 n1 c1 a2 n2 c2 f o 0) 58 ∧ IsDrive w (drvVal a1 n1 c1 a2 n2 c2 f o) d
theorem Work.next {w w' : World} {b : Nat} {d : Drv} (h : Work w b d) (hb : Below w.heap.size w w') : Work w' b d := by
  obtain ⟨a1, n1, c1, a2, n2, c2, f, o, h1, h2⟩ := h
  exact ⟨a1, n1, c1, a2, n2, c2, f, o, h1.next hb, h2.below hb⟩
theorem Work.lt {w : World} {b : Nat} {d : Drv} (h : Work w b d) : b < w.heap.size := by
  obtain ⟨a1, n1, c1, a2, n2, c2, f, o, h1, _⟩ := h
  exact h1.lt
/-- What a block of five cells gives the walk. -/
theorem Blk.five {w : World} {b : Nat} {v0 v1 v2 v3 v4 : Value} {t : TypeId} (h : Blk w b [v0, v1, v2, v3, v4] t) :
    w.cell? ⟨b, 0, none⟩ = some v0 ∧ w.cell? ⟨b, 1, none⟩ = some v1 ∧ w.cell? ⟨b, 2, none⟩ = some v2 ∧ w.cell? ⟨b, 3, none⟩ = some v3 ∧ w.cell? ⟨b, 4, none⟩ = some v4 ∧
    w.frozen? ⟨b, 0, none⟩ = false ∧ w.frozen? ⟨b, 1, none⟩ = false ∧ w.frozen? ⟨b, 2, none⟩ = false ∧ w.frozen? ⟨b, 3, none⟩ = false ∧ w.frozen? ⟨b, 4, none⟩ = false :=
  ⟨h.cell 0, h.cell 1, h.cell 2, h.cell 3, h.cell 4, h.free 0, h.free 1, h.free 2, h.free 3, h.free 4⟩

/-- A drive and no error are stored in a work. -/
theorem work_stored {w : World} {b : Nat} {a1 : Option Addr} {n1 c1 : Nat} {a2 : Option Addr} {n2 c2 : Nat} {f : Int} {o : Bool} (hB : Blk w b (wkCells a1 n1 c1 a2 n2 c2 f o 0) 58) {X : Drv} {b1 : Option Addr} {m1 d1 : Nat} {b2 : Option Addr} {m2 d2 : Nat} {g : Int} {p : Bool} (hd : IsDrive w (drvVal b1 m1 d1 b2 m2 d2 g p) X) :
    Work (((((w.setCell ⟨b, 0, none⟩ (.slice b1 m1 d1)).setCell ⟨b, 1, none⟩ (.slice b2 m2 d2)).setCell ⟨b, 2, none⟩ (.int .i64 g)).setCell ⟨b, 3, none⟩ (.bool p)).setCell ⟨b, 4, none⟩ (.int .i64 0)) b X ∧
    Step w (((((w.setCell ⟨b, 0, none⟩ (.slice b1 m1 d1)).setCell ⟨b, 1, none⟩ (.slice b2 m2 d2)).setCell ⟨b, 2, none⟩ (.int .i64 g)).setCell ⟨b, 3, none⟩ (.bool p)).setCell ⟨b, 4, none⟩ (.int .i64 0)) (some b) := by
  unfold wkCells at hB
  have h0 := hB.set 0 (.slice b1 m1 d1)
  have h1 := h0.set 1 (.slice b2 m2 d2)
  have h2 := h1.set 2 (.int .i64 g)
  have h3 := h2.set 3 (.bool p)
  have h4 := h3.set 4 (.int .i64 0)
  have k0 : ∀ u ∈ [Value.slice a1 n1 c1, .slice a2 n2 c2, .int .i64 f, .bool o, .int .i64 0], noStr u = true := wk_noStr
  have k1 : ∀ u ∈ [Value.slice b1 m1 d1, .slice a2 n2 c2, .int .i64 f, .bool o, .int .i64 0], noStr u = true := wk_noStr
  have k2 : ∀ u ∈ [Value.slice b1 m1 d1, .slice b2 m2 d2, .int .i64 f, .bool o, .int .i64 0], noStr u = true := wk_noStr
  have k3 : ∀ u ∈ [Value.slice b1 m1 d1, .slice b2 m2 d2, .int .i64 g, .bool o, .int .i64 0], noStr u = true := wk_noStr
  have k4 : ∀ u ∈ [Value.slice b1 m1 d1, .slice b2 m2 d2, .int .i64 g, .bool p, .int .i64 0], noStr u = true := wk_noStr
  refine ⟨⟨b1, m1, d1, b2, m2, d2, g, p, h4, ((((hd.setB hB k0 0 _).setB h0 k1 1 _).setB h1 k2 2 _).setB h2 k3 3 _).setB h3 k4 4 _⟩, ?_⟩
  exact ((((Step.set hB k0 0 _).trans (Step.set h0 k1 1 _)).trans (Step.set h1 k2 2 _)).trans (Step.set h2 k3 3 _)).trans (Step.set h3 k4 4 _)

set_option maxRecDepth 100000 in
set_option maxHeartbeats 1600000 in
/-- The function value that write makes. -/
theorem kwrite1_any (v : Value) (d : Drv) (b2 b3 : Nat) (p : Int) (s : List UInt8) (w : World) (h : IsDrive w v d) (hq : d.queue.length ≤ 1000000) (hl : (Stp.write b2 b3 p s).Lies w) :
    Calls Tryz.prog 76 #[v, .pointer (some ⟨b2, 0, none⟩), .pointer (some ⟨b3, 0, none⟩)] w fun e w' => ∃ v', e = .returned (.tuple #[v', .int .i64 (d.write p s).2]) ∧ IsDrive w' v' (d.write p s).1 ∧ Below w.heap.size w w' := by
  obtain ⟨h2, h3, hp, hs⟩ := hl
  have HW := hide (fun (v : Value) (w : World) (h : IsDrive w v d) => write_any v d p s w h hq hp (by omega))
  obtain ⟨a1, n1, c1, a2, n2, c2, fu, of, rfl, hD⟩ := h
  have HI := hide (show IsDrive w _ d from ⟨a1, n1, c1, a2, n2, c2, fu, of, rfl, hD⟩)
  obtain ⟨⟨X, E⟩, hX⟩ : ∃ r, d.write p s = r := ⟨_, rfl⟩
  rw [hX] at HW ⊢
  obtain ⟨sv, hsv⟩ : ∃ z, bs s = z := ⟨_, rfl⟩
  rw [hsv] at HW h3
  unfold drvVal at HI ⊢
  obtain ⟨B0, B1⟩ := two_boxes w [.slice a1 n1 c1, .slice a2 n2 c2, .int .i64 fu, .bool of] [.slice none 0 0, .slice none 0 0, .int .i64 0, .bool false] 44
  have hb0 : Below w.heap.size w ((w.alloc (.cells #[.slice a1 n1 c1, .slice a2 n2 c2, .int .i64 fu, .bool of] 44)).alloc (.cells #[.slice none 0 0, .slice none 0 0, .int .i64 0, .bool false] 44)) := ((Below.refl _ _).alloc (Nat.le_refl _) _).alloc (by simp) _
  obtain ⟨x2, y2⟩ := (h2.next hb0).one
  obtain ⟨x3, y3⟩ := (h3.next hb0).one
  have hlt2 := h2.lt
  have hlt3 := h3.lt
  obtain ⟨p2, q2⟩ := h2.one
  obtain ⟨p3, q3⟩ := h3.one
  clear hX hsv hD hp hs hq
  go_enter Tryz.func76, Tryz.ntmps76
  go_wp2_with fail
  refine (HW.out _ _ (HI.out.below hb0)).mono ?_
  rintro e w1 ⟨v1, rfl, hd1, hb1⟩
  have HX := hide hd1
  obtain ⟨b1, m1, e1, b2', m2, e2, gu, go, rfl, _⟩ := hd1
  unfold drvVal at HX ⊢
  have C1 := B1.next hb1
  have hbx := chain hb0 hb1
  clear hb1 hb0 B0 B1 x2 x3 y2 y3 p2 p3 q2 q3
  obtain ⟨p0, p1, p2, p3, p4, p5, p6, p7⟩ := C1.four
  go_wp2_with fail
  refine bodyPost_ret (v := .tuple #[.agg #[.slice b1 m1 e1, .slice b2' m2 e2, .int .i64 gu, .bool go], .int .i64 E]) (by simp [results, Tryz.results76, go_sem, p0, p1, p2, p3]) rfl ⟨_, rfl, HX.out.set4 (blk_holds C1) _ _ _ _, below4 hbx (by omega) _ _ _ _⟩


set_option maxRecDepth 100000 in
set_option maxHeartbeats 1600000 in
theorem kdo_write (b : Nat) (b2 b3 : Nat) (p : Int) (s : List UInt8) (d X : Drv) (w : World) (hw : Work w b d) (hq : d.queue.length ≤ 1000000) (hl : (Stp.write b2 b3 p s).Lies w) (hx : d.write p s = (X, 0)) :
    Calls Tryz.prog 75 #[.pointer (some ⟨b, 0, none⟩), .func (.func 76) #[] #[.pointer (some ⟨b2, 0, none⟩), .pointer (some ⟨b3, 0, none⟩)]] w fun e w' => e = .returned (.tuple #[]) ∧ Work w' b X ∧ Step w w' (some b) := by
  obtain ⟨a1, n1, c1, a2, n2, c2, fu, of, hB, hd⟩ := hw
  have HI := hide hd
  have HC : Hid (∀ (v : Value) (_ : World), IsDrive w v d → Calls Tryz.prog 76 #[v, .pointer (some ⟨b2, 0, none⟩), .pointer (some ⟨b3, 0, none⟩)] w fun e w' => ∃ v', e = .returned (.tuple #[v', .int .i64 0]) ∧ IsDrive w' v' X ∧ Below w.heap.size w w') := hide (fun v _ h => by
    have h1 := kwrite1_any v d b2 b3 p s w h hq hl
    rw [hx] at h1
    exact h1)
  clear hq hl hx
  unfold drvVal at HI
  have hB2 := hB
  unfold wkCells at hB2
  obtain ⟨p0, p1, p2, p3, p4, p5, p6, p7, p8, p9⟩ := hB2.five
  clear hd hB2
  go_enter Tryz.func75, Tryz.ntmps75
  go_wp2_with fail
  refine (HC.out _ w HI.out).mono ?_
  rintro e w1 ⟨v1, rfl, hd1, hb1⟩
  have HX := hide hd1
  obtain ⟨b1, m1, e1, b2', m2, e2, gu, go, rfl, _⟩ := hd1
  unfold drvVal at ⊢
  have C0 := hB.next hb1
  have C1 := C0
  unfold wkCells at C1
  clear p0 p1 p2 p3 p4 p5 p6 p7 p8 p9 hB
  obtain ⟨p0, p1, p2, p3, p4, p5, p6, p7, p8, p9⟩ := C1.five
  obtain ⟨hW, hS⟩ := work_stored C0 HX.out
  have hS2 := (Step.ofBelow hb1 (some b)).trans hS
  obtain ⟨W9, hW9⟩ : ∃ z, (((((w1.setCell ⟨b, 0, none⟩ (.slice b1 m1 e1)).setCell ⟨b, 1, none⟩ (.slice b2' m2 e2)).setCell ⟨b, 2, none⟩ (.int .i64 gu)).setCell ⟨b, 3, none⟩ (.bool go)).setCell ⟨b, 4, none⟩ (.int .i64 0)) = z := ⟨_, rfl⟩
  rw [hW9] at hW hS2
  clear hS C0 C1 hb1
  go_wp2_with fail
  go_end0
  exact ⟨rfl, hW, hS2⟩

set_option maxRecDepth 100000 in
set_option maxHeartbeats 1600000 in
theorem kdo_flush (b : Nat)  (d X : Drv) (w : World) (hw : Work w b d) (hx : d.flush = (X, 0)) :
    Calls Tryz.prog 75 #[.pointer (some ⟨b, 0, none⟩), .func (.func 60) #[] #[]] w fun e w' => e = .returned (.tuple #[]) ∧ Work w' b X ∧ Step w w' (some b) := by
  obtain ⟨a1, n1, c1, a2, n2, c2, fu, of, hB, hd⟩ := hw
  have HI := hide hd
  have HC : Hid (∀ (v : Value) (_ : World), IsDrive w v d → Calls Tryz.prog 60 #[v] w fun e w' => ∃ v', e = .returned (.tuple #[v', .int .i64 0]) ∧ IsDrive w' v' X ∧ Below w.heap.size w w') := hide (fun v _ h => by
    have h1 := flush_any v d w h
    rw [hx] at h1
    exact h1)
  clear hx
  unfold drvVal at HI
  have hB2 := hB
  unfold wkCells at hB2
  obtain ⟨p0, p1, p2, p3, p4, p5, p6, p7, p8, p9⟩ := hB2.five
  clear hd hB2
  go_enter Tryz.func75, Tryz.ntmps75
  go_wp2_with fail
  refine (HC.out _ w HI.out).mono ?_
  rintro e w1 ⟨v1, rfl, hd1, hb1⟩
  have HX := hide hd1
  obtain ⟨b1, m1, e1, b2', m2, e2, gu, go, rfl, _⟩ := hd1
  unfold drvVal at ⊢
  have C0 := hB.next hb1
  have C1 := C0
  unfold wkCells at C1
  clear p0 p1 p2 p3 p4 p5 p6 p7 p8 p9 hB
  obtain ⟨p0, p1, p2, p3, p4, p5, p6, p7, p8, p9⟩ := C1.five
  obtain ⟨hW, hS⟩ := work_stored C0 HX.out
  have hS2 := (Step.ofBelow hb1 (some b)).trans hS
  obtain ⟨W9, hW9⟩ : ∃ z, (((((w1.setCell ⟨b, 0, none⟩ (.slice b1 m1 e1)).setCell ⟨b, 1, none⟩ (.slice b2' m2 e2)).setCell ⟨b, 2, none⟩ (.int .i64 gu)).setCell ⟨b, 3, none⟩ (.bool go)).setCell ⟨b, 4, none⟩ (.int .i64 0)) = z := ⟨_, rfl⟩
  rw [hW9] at hW hS2
  clear hS C0 C1 hb1
  go_wp2_with fail
  go_end0
  exact ⟨rfl, hW, hS2⟩

theorem still_may {cs : List (List UInt8)} (h1 : 1 ≤ cs.length) (h2 : cs.length ≤ 6000) (h3 : ∀ c ∈ cs, c.length = 64) : (⟨cs, [], -1, false⟩ : Drv).May := ⟨h1, h2, by simp, h3, fun w hw => by cases hw⟩
theorem put_two {cs : List (List UInt8)} (hm : (⟨cs, [], -1, false⟩ : Drv).May) (p : Nat) (L : List (List UInt8)) (hL : ∀ c ∈ L, c.length = 64) (h1 : 1 ≤ L.length) (hp : p + L.length ≤ cs.length) :
    ∃ X : Drv, Drv.write ⟨cs, [], -1, false⟩ (p : Int) L.flatten = (X, 0) ∧ X.flush = (⟨over cs p L, [], -1, false⟩, 0) := by
  have hw := write_flat hm p L hL h1 hp
  rw [wrs_ok L p cs [] (-1) (.inl rfl)] at hw
  obtain ⟨e, _⟩ := put_ok hm p L hL h1 hp (.inl rfl)
  refine ⟨_, hw, ?_⟩
  unfold Drv.put at e
  rw [hw] at e
  simpa [less] using e

set_option maxRecDepth 100000 in
set_option maxHeartbeats 1600000 in
theorem kwrite_any (b p : Nat) (cs L : List (List UInt8)) (w : World) (hw : Work w b ⟨cs, [], -1, false⟩) (hm : (⟨cs, [], -1, false⟩ : Drv).May) (hL : ∀ c ∈ L, c.length = 64) (h1 : 1 ≤ L.length) (hl : L.length ≤ 100) (hp : p + L.length ≤ cs.length) :
    Calls Tryz.prog 47 #[.pointer (some ⟨b, 0, none⟩), .int .i64 (p : Int), .string (bs L.flatten)] w fun e w' => e = .returned (.tuple #[]) ∧ Work w' b ⟨over cs p L, [], -1, false⟩ ∧ Step w w' (some b) := by
  obtain ⟨X, hx, hf⟩ := put_two hm p L hL h1 hp
  have hcl : cs.length ≤ 6000 := hm.most
  have hlen := flatten_64 L hL
  obtain ⟨s, hs⟩ : ∃ s, L.flatten = s := ⟨_, rfl⟩
  rw [hs] at hx hlen ⊢
  obtain ⟨Y, hY⟩ : ∃ Y, over cs p L = Y := ⟨_, rfl⟩
  rw [hY] at hf ⊢
  have hsl : s.length ≤ 6400 := by omega
  have HD1 := hide (fun (b2 b3 : Nat) (w : World) (hw : Work w b ⟨cs, [], -1, false⟩) (h2 : Blk w b2 [.int .i64 (p : Int)] 3) (h3 : Blk w b3 [.string (bs s)] 9) => kdo_write b b2 b3 (p : Int) s _ X w hw (by simp) ⟨h2, h3, by omega, hsl⟩ hx)
  have HD2 := hide (fun (w : World) (hw : Work w b X) => kdo_flush b X _ w hw hf)
  obtain ⟨sv, hsv⟩ : ∃ z, bs s = z := ⟨_, rfl⟩
  rw [hsv] at HD1 ⊢
  clear hx hf hs hY hm hL h1 hl hp hcl hlen hsv hsl
  obtain ⟨B0, B1⟩ := two_kinds w [.int .i64 (p : Int)] [.string sv] 3 9
  have hal : Below w.heap.size w ((w.alloc (.cells #[.int .i64 (p : Int)] 3)).alloc (.cells #[.string sv] 9)) := ((Below.refl _ _).alloc (Nat.le_refl _) _).alloc (by simp) _
  obtain ⟨W0, hW0⟩ : ∃ z, ((w.alloc (.cells #[.int .i64 (p : Int)] 3)).alloc (.cells #[.string sv] 9)) = z := ⟨_, rfl⟩
  rw [hW0] at B0 B1 hal
  have hw0 := hw.next hal
  have HMF : ∀ (fn : Fn) (first cap : Array Value) (w : World), (Instr.makeFunc fn first cap).run Tryz.prog w = .ok (.func fn first cap) w := fun _ _ _ _ => rfl
  go_enter Tryz.func47, Tryz.ntmps47
  go_upto_region 1 with fail
  try rw [hW0]
  clear hW0
  go_wp2_with fail
  refine (HD1.out _ _ _ hw0 B0 B1).mono ?_
  rintro e w1 ⟨rfl, hw1, hs1⟩
  go_wp2_with fail
  refine (HD2.out _ hw1).mono ?_
  rintro e w2 ⟨rfl, hw2, hs2⟩
  go_wp2_with fail
  go_end0
  exact ⟨rfl, hw2, ((Step.ofBelow hal _).trans hs1).trans hs2⟩

theorem octs_flat (m : Hd) : hdOct m = [hdOct m].flatten := by simp

set_option maxRecDepth 100000 in
set_option maxHeartbeats 6400000 in
theorem klay_any (b : Nat) (h : Hv) (m : Hd) (cs : List (List UInt8)) (text : List UInt8) (w : World) (hw : Work w b ⟨cs, [], -1, false⟩) (ho : h.Ok) (hm : m.In) (hh : m.half ≤ 1) (hlen : cs.length = h.size) (hcell : ∀ c ∈ cs, c.length = 64) (ht : text.length ≤ h.text * 64) (ht2 : text.length ≤ 6400) :
    Calls Tryz.prog 20 #[.pointer (some ⟨b, 0, none⟩), hvVal h, hdVal m, .string (bs text)] w fun e w' => e = .returned (.tuple #[]) ∧ Work w' b ⟨layOn h cs m text, [], -1, false⟩ ∧ Step w w' (some b) := by
  have hb6 : 6 ≤ h.size ∧ h.size ≤ 5002 := by unfold Hv.Ok at ho; unfold Hv.size; omega
  have hl1 := layTxt_length (text := text) hlen hh ht
  have hcell1 : ∀ c ∈ layTxt h cs m.half text, c.length = 64 := by
    intro c hc
    unfold layTxt at hc
    split at hc
    · exact hcell c hc
    · rcases over_mem hc with hc | hc
      · exact hcell c hc
      · exact txtCells_all text c hc
  have hmay1 := still_may (cs := layTxt h cs m.half text) (by omega) (by omega) hcell1
  have hg2 := Nat.mod_lt m.gen (show 0 < 2 by decide)
  have HTA := hide (fun w => ktextAt_any h m.half w ho hh)
  have HCE := hide (fun w => kcells_any text.length w (by omega))
  have HPL := hide (fun w => kplace_any m w hm)
  have HOC := hide (fun w => koctets_any m w hm)
  have HW2 : Hid (∀ w, Work w b ⟨layTxt h cs m.half text, [], -1, false⟩ → Calls Tryz.prog 47 #[.pointer (some ⟨b, 0, none⟩), .int .i64 ((m.gen % 2 : Nat) : Int), .string (bs (hdOct m))] w fun e w' => e = .returned (.tuple #[]) ∧ Work w' b ⟨layOn h cs m text, [], -1, false⟩ ∧ Step w w' (some b)) := hide (fun w hw => by
    have := kwrite_any b (m.gen % 2) (layTxt h cs m.half text) [hdOct m] w hw hmay1 (by intro c hc; rw [List.mem_singleton] at hc; rw [hc]; exact hdOct_length m) (by simp) (by simp) (by rw [hl1, List.length_singleton]; omega)
    rw [← octs_flat] at this
    exact this)
  have HW1 : Hid (text ≠ [] → ∀ w, Work w b ⟨cs, [], -1, false⟩ → Calls Tryz.prog 47 #[.pointer (some ⟨b, 0, none⟩), .int .i64 ((textAt h m.half : Nat) : Int), .string (bs (padT text))] w fun e w' => e = .returned (.tuple #[]) ∧ Work w' b ⟨layTxt h cs m.half text, [], -1, false⟩ ∧ Step w w' (some b)) := hide (fun hne w hw => by
    have h2 := half_place (h := h) hh
    have h3 := cellsN_le ht
    have h4 : 1 ≤ cellsN text.length := by
      have : 1 ≤ text.length := by
        cases text with
        | nil => exact absurd rfl hne
        | cons x l => simp
      unfold cellsN
      omega
    have h5 : cellsN text.length ≤ 100 := by unfold cellsN; omega
    have := kwrite_any b (textAt h m.half) cs (txtCells text) w hw (still_may (by omega) (by omega) hcell) (txtCells_all text) (by rw [txtCells_length]; exact h4) (by rw [txtCells_length]; exact h5) (by rw [txtCells_length, hlen]; unfold textAt; omega)
    rw [txtCells_flat] at this
    have e : layTxt h cs m.half text = over cs (textAt h m.half) (txtCells text) := if_neg hne
    rw [e]
    exact this)
  have HE : Hid (text = [] → layTxt h cs m.half text = cs) := hide (fun h => if_pos h)
  have hpl : cellsN text.length * 64 - text.length ≤ 64 := by unfold cellsN; omega
  have hcl : text.length ≤ cellsN text.length * 64 ∧ cellsN text.length * 64 ≤ 7000 := by unfold cellsN; omega
  have HRP := hide (fun w => repeat0_any (cellsN text.length * 64 - text.length) w (by omega))
  have hap : bs text ++ bs (List.replicate (cellsN text.length * 64 - text.length) 0) = bs (padT text) := bs_append _ _
  have hrs : (bs (List.replicate (cellsN text.length * 64 - text.length) 0)).size ≤ 64 := by rw [bs_size, List.length_replicate]; exact hpl
  obtain ⟨n, hn⟩ : ∃ n, cellsN text.length = n := ⟨_, rfl⟩
  rw [hn] at HCE HRP hap hcl hrs
  have hnc : ((n : Int) * 64 - (text.length : Int)) = ((n * 64 - text.length : Nat) : Int) := by omega
  rw [← hnc] at HRP
  have hsz : (bs text).size = text.length := bs_size text
  have hemp : (bs text).toList.isEmpty = text.isEmpty := by rw [ByteArray.toList_eq, bs_data]
  obtain ⟨T, hT⟩ : ∃ T, layTxt h cs m.half text = T := ⟨_, rfl⟩
  rw [hT] at HW1 HW2 HE
  obtain ⟨U, hU⟩ : ∃ T, layOn h cs m text = T := ⟨_, rfl⟩
  rw [hU] at HW2 ⊢
  obtain ⟨ta, hta⟩ : ∃ T, textAt h m.half = T := ⟨_, rfl⟩
  rw [hta] at HTA HW1
  obtain ⟨sv, hsv⟩ : ∃ z, bs text = z := ⟨_, rfl⟩
  obtain ⟨pv, hpv⟩ : ∃ z, bs (padT text) = z := ⟨_, rfl⟩
  obtain ⟨rv, hrv⟩ : ∃ z, bs (List.replicate (n * 64 - text.length) 0) = z := ⟨_, rfl⟩
  obtain ⟨ov, hov⟩ : ∃ z, bs (hdOct m) = z := ⟨_, rfl⟩
  obtain ⟨pc, hpc⟩ : ∃ z, ((m.gen % 2 : Nat) : Int) = z := ⟨_, rfl⟩
  rw [hsv] at hap hsz hemp ⊢
  rw [hpv] at hap HW1
  rw [hrv] at hap HRP hrs
  rw [hov] at HOC HW2
  rw [hpc] at HPL HW2
  rw [← hsz] at HCE HRP hcl ht2
  obtain ⟨g, t⟩ := h
  obtain ⟨gn, hf, sr, sz⟩ := m
  unfold hvVal at HTA ⊢
  unfold hdVal at HPL HOC ⊢
  simp only at HTA HPL HOC HW1 HW2 HE ⊢
  have HTX := hide hemp
  clear hsv hpv hrv hov hpc hta hT hU hn hmay1 hcell1 hcell hlen hl1 hb6 hg2 hsz hemp hnc ht ho hm hh hpl
  obtain ⟨B0, B1⟩ := two_kinds w [.int .i64 (g : Int), .int .i64 (t : Int)] [.int .i64 (gn : Int), .int .i64 (hf : Int), .int .i64 (sr : Int), .int .i64 (sz : Int)] 27 56
  have hal : Below w.heap.size w ((w.alloc (.cells #[.int .i64 (g : Int), .int .i64 (t : Int)] 27)).alloc (.cells #[.int .i64 (gn : Int), .int .i64 (hf : Int), .int .i64 (sr : Int), .int .i64 (sz : Int)] 56)) := ((Below.refl _ _).alloc (Nat.le_refl _) _).alloc (by simp) _
  obtain ⟨W0, hW0⟩ : ∃ z, ((w.alloc (.cells #[.int .i64 (g : Int), .int .i64 (t : Int)] 27)).alloc (.cells #[.int .i64 (gn : Int), .int .i64 (hf : Int), .int .i64 (sr : Int), .int .i64 (sz : Int)] 56)) = z := ⟨_, rfl⟩
  rw [hW0] at B0 B1 hal
  have hw0 := hw.next hal
  have hbw := hw.lt
  go_enter Tryz.func20, Tryz.ntmps20
  go_upto_region 1 with fail
  try rw [hW0]
  clear hW0
  obtain ⟨b0, hb0⟩ : ∃ b, w.heap.size = b := ⟨_, rfl⟩
  rw [hb0] at B0 B1 hbw ⊢
  obtain ⟨b1, hb1⟩ : ∃ b, b0 + 1 = b := ⟨_, rfl⟩
  rw [hb1] at B1 ⊢
  have hn0 : b0 ≠ b := by omega
  have hn1 : b1 ≠ b := by omega
  have hs0 := Step.ofBelow hal (some b)
  clear hb0 hb1 hal
  go_upto_if 9 with fail
  go_cut [] (fun wx => Work wx b ⟨T, [], -1, false⟩ ∧ Step w wx (some b) ∧ Blk wx b1 [.int .i64 (gn : Int), .int .i64 (hf : Int), .int .i64 (sr : Int), .int .i64 (sz : Int)] 56)
  case first =>
    by_cases hne : text = []
    · have hz : sv.toList.isEmpty = true := by rw [HTX.out, hne]; rfl
      have hTE := HE.out hne
      subst hTE
      clear HE HW1 HTX HTA HCE HRP hap
      obtain ⟨p0, p1, p2, p3⟩ := B0.pair
      rw [hz]
      go_wp2_with fail
      go_meet
      exact ⟨hw0, hs0, B1⟩
    · have hz : sv.toList.isEmpty = false := by
        rw [HTX.out]
        cases text with
        | nil => exact absurd rfl hne
        | cons x l => rfl
      obtain ⟨p0, p1, p2, p3⟩ := B0.pair
      obtain ⟨q0, q1, q2, q3, q4, q5, q6, q7⟩ := B1.four
      have HW := hide (HW1.out hne)
      clear HE HW1 HTX
      rw [hz]
      go_wp2_with fail
      refine (HTA.out _).mono ?_
      rintro e w1 ⟨rfl, hb1⟩
      have C1 := B1.next hb1
      have hw1 := hw0.next hb1
      have hs1 := hs0.trans (Step.ofBelow hb1 _)
      clear B0 B1 hw0 hs0 hb1 p0 p1 p2 p3 q0 q1 q2 q3 q4 q5 q6 q7
      go_wp2_with fail
      refine (HCE.out _).mono ?_
      rintro e w2 ⟨rfl, rfl⟩
      go_wp2_with fail
      refine (HRP.out _).mono ?_
      rintro e w3 ⟨rfl, hb3⟩
      have D1 := C1.next hb3
      have hw3 := hw1.next hb3
      have hs3 := hs1.trans (Step.ofBelow hb3 _)
      clear C1 hw1 hs1 hb3
      go_wp2_with fail
      refine (HW.out _ hw3).mono ?_
      rintro e w4 ⟨rfl, hw4, hs4⟩
      have E1 := D1.step hs4 hn1
      have hs5 := hs3.trans hs4
      clear D1 hw3 hs3 hs4
      go_wp2_with fail
      go_meet
      exact ⟨hw4, hs5, E1⟩
  case rest =>
    obtain ⟨wx, rfl⟩ : ∃ wx, wx = wc := ⟨_, rfl⟩
    obtain ⟨hwx, hsx, C1⟩ := hcut
    clear B0 B1 hw0 hs0 HW1 HTX HE HTA HCE HRP hap
    go_upto_region 3 with fail
    refine (fun h : ∀ z8 z9 z10 z11 z12 z13 z14 z15 z16 z17 z18 z19 z20 z21 z22 z23 z24 z25 y26 y27 y28 y29 y30 y31 : Value, Code.wp Tryz.prog ?_ ?_ ⟨#[.pointer (some ⟨b, 0, none⟩), .agg #[.int .i64 (g : Int), .int .i64 (t : Int)], .agg #[.int .i64 (gn : Int), .int .i64 (hf : Int), .int .i64 (sr : Int), .int .i64 (sz : Int)], .string sv, undef, .pointer (some ⟨b0, 0, none⟩), .pointer (some ⟨b1, 0, none⟩), undef, z8, z9, z10, z11, z12, z13, z14, z15, z16, z17, z18, z19, z20, z21, z22, z23, z24, z25, y26, y27, y28, y29, y30, y31], []⟩ wx => h _ _ _ _ _ _ _ _ _ _ _ _ _ _ _ _ _ _ _ _ _ _ _ _) ?_
    intro z8 z9 z10 z11 z12 z13 z14 z15 z16 z17 z18 z19 z20 z21 z22 z23 z24 z25 y26 y27 y28 y29 y30 y31
    refine wp_region_inv2 (fun l aa wq => ∃ x26 x27 x28 x29 x30 x31 : Value, aa = ⟨#[.pointer (some ⟨b, 0, none⟩), .agg #[.int .i64 (g : Int), .int .i64 (t : Int)], .agg #[.int .i64 (gn : Int), .int .i64 (hf : Int), .int .i64 (sr : Int), .int .i64 (sz : Int)], .string sv, undef, .pointer (some ⟨b0, 0, none⟩), .pointer (some ⟨b1, 0, none⟩), undef, z8, z9, z10, z11, z12, z13, z14, z15, z16, z17, z18, z19, z20, z21, z22, z23, z24, z25, x26, x27, x28, x29, x30, x31], []⟩ ∧ l.size = 6 ∧ Step wx wq (some b) ∧ Closed l ([(2, 1), (4, 3), (5, 0), (5, 2), (5, 4)] : List (Nat × Nat)) ∧ (fl l 0 → x26 = .pointer (some ⟨b, 0, none⟩)) ∧ (fl l 1 → x27 = .agg #[.int .i64 (gn : Int), .int .i64 (hf : Int), .int .i64 (sr : Int), .int .i64 (sz : Int)]) ∧ (fl l 2 → x28 = .int .i64 pc) ∧ (fl l 3 → x29 = .agg #[.int .i64 (gn : Int), .int .i64 (hf : Int), .int .i64 (sr : Int), .int .i64 (sz : Int)]) ∧ (fl l 4 → x30 = .string ov) ∧ (fl l 5 → x31 = .tuple #[] ∧ Work wq b ⟨U, [], -1, false⟩) ∧ (¬ fl l 5 → Work wq b ⟨T, [], -1, false⟩)) (by kernel_rfl) (ord_of2 (by decide +kernel)) ⟨_, _, _, _, _, _, rfl, by simp, Step.ofBelow (Below.drewed (Below.refl _ _)) _, Closed.zero _ _, fun f => absurd f (fl_none _ _), fun f => absurd f (fl_none _ _), fun f => absurd f (fl_none _ _), fun f => absurd f (fl_none _ _), fun f => absurd f (fl_none _ _), fun f => absurd f (fl_none _ _), fun _ => hwx.next (Below.drewed (Below.refl _ _))⟩ ?_ ?_
    · intro l aa w3 i o ho hI h1 h2 KK hK
      obtain ⟨x26, x27, x28, x29, x30, x31, rfl, hsz, hbw3, hcl, g0, g1, g2, g3, g4, g5, gT⟩ := hI
      have hi : i < 6 := (Array.getElem?_eq_some_iff.1 ho).1
      have R9 := C1.step hbw3 hn1
      obtain ⟨r0, r1, r2, r3, r4, r5, r6, r7⟩ := R9.four
      have hcase : i = 0 ∨ i = 1 ∨ i = 2 ∨ i = 3 ∨ i = 4 ∨ i = 5 := by omega
      rcases hcase with rfl | rfl | rfl | rfl | rfl | rfl
      · cases ho
        go_simp
        exact hK _ _ ⟨_, _, _, _, _, _, rfl, by simpa using hsz, hbw3, hcl.step 0 [] (by decide) all_nil, fun _ => rfl, fun f => (g1 (fl_set f (by decide))), fun f => (g2 (fl_set f (by decide))), fun f => (g3 (fl_set f (by decide))), fun f => (g4 (fl_set f (by decide))), fun f => absurd (hcl.on (by decide) (fl_set f (by decide))) (fl_not h1), fun f => gT (fun f2 => f (fl_keep f2 _))⟩
      · cases ho
        go_simp
        exact hK _ _ ⟨_, _, _, _, _, _, rfl, by simpa using hsz, hbw3, hcl.step 1 [] (by decide) all_nil, fun f => (g0 (fl_set f (by decide))), fun _ => rfl, fun f => absurd (hcl.on (by decide) (fl_set f (by decide))) (fl_not h1), fun f => (g3 (fl_set f (by decide))), fun f => (g4 (fl_set f (by decide))), fun f => (g5 (fl_set f (by decide))), fun f => gT (fun f2 => f (fl_keep f2 _))⟩
      · cases ho
        have f1 : fl l 1 := h2 ⟨1, .data⟩ (by simp) rfl
        obtain rfl := g1 f1
        go_simp
        go_at_call 48
        refine (HPL.out _).mono ?_
        rintro e w' ⟨rfl, hb⟩
        exact hK _ _ ⟨_, _, _, _, _, _, rfl, by simpa using hsz, hbw3.trans (Step.ofBelow hb _), hcl.step 2 [1] (by decide) (all_cons f1 all_nil), fun f => (g0 (fl_set f (by decide))), fun f => (g1 (fl_set f (by decide))), fun _ => rfl, fun f => (g3 (fl_set f (by decide))), fun f => (g4 (fl_set f (by decide))), fun f => absurd (hcl.on (by decide) (fl_set f (by decide))) (fl_not h1), fun f => (gT (fun f2 => f (fl_keep f2 _))).next hb⟩
      · cases ho
        go_simp
        exact hK _ _ ⟨_, _, _, _, _, _, rfl, by simpa using hsz, hbw3, hcl.step 3 [] (by decide) all_nil, fun f => (g0 (fl_set f (by decide))), fun f => (g1 (fl_set f (by decide))), fun f => (g2 (fl_set f (by decide))), fun _ => rfl, fun f => absurd (hcl.on (by decide) (fl_set f (by decide))) (fl_not h1), fun f => (g5 (fl_set f (by decide))), fun f => gT (fun f2 => f (fl_keep f2 _))⟩
      · cases ho
        have f3 : fl l 3 := h2 ⟨3, .data⟩ (by simp) rfl
        obtain rfl := g3 f3
        go_simp
        go_at_call 49
        refine (HOC.out _).mono ?_
        rintro e w' ⟨rfl, hb⟩
        exact hK _ _ ⟨_, _, _, _, _, _, rfl, by simpa using hsz, hbw3.trans (Step.ofBelow hb _), hcl.step 4 [3] (by decide) (all_cons f3 all_nil), fun f => (g0 (fl_set f (by decide))), fun f => (g1 (fl_set f (by decide))), fun f => (g2 (fl_set f (by decide))), fun f => (g3 (fl_set f (by decide))), fun _ => rfl, fun f => absurd (hcl.on (by decide) (fl_set f (by decide))) (fl_not h1), fun f => (gT (fun f2 => f (fl_keep f2 _))).next hb⟩
      · cases ho
        have f0 : fl l 0 := h2 ⟨0, .data⟩ (by simp) rfl
        have f2 : fl l 2 := h2 ⟨2, .data⟩ (by simp) rfl
        have f4 : fl l 4 := h2 ⟨4, .data⟩ (by simp) rfl
        obtain rfl := g0 f0
        obtain rfl := g2 f2
        obtain rfl := g4 f4
        have h9 := gT (fl_not h1)
        go_simp
        go_at_call 47
        refine (HW2.out _ h9).mono ?_
        rintro e w' ⟨rfl, hw', hst⟩
        exact hK _ _ ⟨_, _, _, _, _, _, rfl, by simpa using hsz, hbw3.trans hst, hcl.step 5 [0, 2, 4] (by decide) (all_cons f0 (all_cons f2 (all_cons f4 all_nil))), fun f => (g0 (fl_set f (by decide))), fun f => (g1 (fl_set f (by decide))), fun f => (g2 (fl_set f (by decide))), fun f => (g3 (fl_set f (by decide))), fun f => (g4 (fl_set f (by decide))), fun _ => ⟨rfl, hw'⟩, fun f => absurd (fl_self (by omega)) f⟩
    · intro l aa w3 hI hall
      obtain ⟨x26, x27, x28, x29, x30, x31, rfl, hsz, hbw3, hcl, g0, g1, g2, g3, g4, g5, gT⟩ := hI
      obtain ⟨rfl, hwU⟩ := g5 (fl_all hall hsz (by decide))
      go_wp2_with fail
      go_end0
      exact ⟨rfl, hwU, hsx.trans hbw3⟩

end Go.Proofs.YtogonkoeginoaaaGreatDoor

namespace Go.Proofs.YtogonkoeginoaaaGreatDoor
open Go.RowKit

/-- The cells of a Keep. -/
def kpTape (h : Hv) (m : Hd) (l : List (List UInt8)) : Tp := ⟨(logAt h m.half : Nat), (h.log : Nat), (span l : Nat), ((m.serial + l.length : Nat) : Int)⟩
def kpCells (h : Hv) (m : Hd) (a1 : Option Addr) (n1 c1 : Nat) (a2 : Option Addr) (n2 c2 : Nat) (t : Tp) (s : ByteArray) (v : Value) : List Value :=
  [.int .i64 (m.gen : Int), .int .i64 (m.half : Int), .int .i64 (m.serial : Int), .int .i64 (m.size : Int), .int .i64 (h.log : Int), .int .i64 (h.text : Int), .slice a1 n1 c1, .slice a2 n2 c2, .int .i64 (-1), .bool false, .int .i64 t.from_, .int .i64 t.len, .int .i64 t.pos, .int .i64 t.serial, .string s, v]
/-- A Keep in block b: what it keeps, and its row of records v. -/
structure KpAt (w : World) (b base : Nat) (v : Value) (h : Hv) (m : Hd) (cs : List (List UInt8)) (text : List UInt8) (l : List (List UInt8)) : Prop where
  blk : ∃ a1 n1 c1 a2 n2 c2, Blk w b (kpCells h m a1 n1 c1 a2 n2 c2 (kpTape h m l) (bs text) v) 66 ∧ IsDrive w (drvVal a1 n1 c1 a2 n2 c2 (-1) false) ⟨cs, [], -1, false⟩
  own : OwnS w base v l
  on : OnKeep h cs m text l
section
variable {w w' : World} {b base : Nat} {v : Value} {h : Hv} {m : Hd} {cs : List (List UInt8)} {text : List UInt8} {l : List (List UInt8)}
theorem KpAt.next (k : KpAt w b base v h m cs text l) (hb : Below w.heap.size w w') : KpAt w' b base v h m cs text l := by
  obtain ⟨⟨a1, n1, c1, a2, n2, c2, h1, h2⟩, h3, h4⟩ := k
  exact ⟨⟨a1, n1, c1, a2, n2, c2, h1.next hb, h2.below hb⟩, OwnZ.below h3 hb, h4⟩
theorem KpAt.lt (k : KpAt w b base v h m cs text l) : b < w.heap.size := by
  obtain ⟨⟨a1, n1, c1, a2, n2, c2, h1, h2⟩, h3, h4⟩ := k
  exact h1.lt
theorem KpAt.still (k : KpAt w b base v h m cs text l) : ∀ c ∈ cs, c.length = 64 := k.on.cell
/-- Another block is written. -/
theorem KpAt.step (k : KpAt w b base v h m cs text l) {b' : Nat} (hs : Step w w' (some b')) (hne : b ≠ b') (hv : v.ownBlock ≠ some b') : KpAt w' b base v h m cs text l := by
  obtain ⟨⟨a1, n1, c1, a2, n2, c2, h1, h2⟩, h3, h4⟩ := k
  exact ⟨⟨a1, n1, c1, a2, n2, c2, h1.step hs hne, h2.keeps64 hs.k64 h4.cell rfl⟩, OwnZ.kept h3 hs.grown (.inr hv), h4⟩
end

/-- What a Keep's block gives the walk. -/
theorem kp_cells {w : World} {b : Nat} {h : Hv} {m : Hd} {a1 : Option Addr} {n1 c1 : Nat} {a2 : Option Addr} {n2 c2 : Nat} {t : Tp} {s : ByteArray} {v : Value} (k : Blk w b (kpCells h m a1 n1 c1 a2 n2 c2 t s v) 66) :
    (w.cell? ⟨b, 0, none⟩ = some (.int .i64 (m.gen : Int)) ∧ w.cell? ⟨b, 1, none⟩ = some (.int .i64 (m.half : Int)) ∧ w.cell? ⟨b, 2, none⟩ = some (.int .i64 (m.serial : Int)) ∧ w.cell? ⟨b, 3, none⟩ = some (.int .i64 (m.size : Int)) ∧ w.cell? ⟨b, 4, none⟩ = some (.int .i64 (h.log : Int)) ∧ w.cell? ⟨b, 5, none⟩ = some (.int .i64 (h.text : Int))) ∧
    (w.cell? ⟨b, 6, none⟩ = some (.slice a1 n1 c1) ∧ w.cell? ⟨b, 7, none⟩ = some (.slice a2 n2 c2) ∧ w.cell? ⟨b, 8, none⟩ = some (.int .i64 (-1)) ∧ w.cell? ⟨b, 9, none⟩ = some (.bool false)) ∧
    (w.cell? ⟨b, 10, none⟩ = some (.int .i64 t.from_) ∧ w.cell? ⟨b, 11, none⟩ = some (.int .i64 t.len) ∧ w.cell? ⟨b, 12, none⟩ = some (.int .i64 t.pos) ∧ w.cell? ⟨b, 13, none⟩ = some (.int .i64 t.serial)) ∧ w.cell? ⟨b, 14, none⟩ = some (.string s) ∧ w.cell? ⟨b, 15, none⟩ = some v :=
  ⟨⟨k.cell 0, k.cell 1, k.cell 2, k.cell 3, k.cell 4, k.cell 5⟩, ⟨k.cell 6, k.cell 7, k.cell 8, k.cell 9⟩, ⟨k.cell 10, k.cell 11, k.cell 12, k.cell 13⟩, k.cell 14, k.cell 15⟩

set_option maxRecDepth 100000 in
set_option maxHeartbeats 800000 in
theorem ksize_any (h : Hv) (w : World) (ho : h.Ok) : Calls Tryz.prog 18 #[hvVal h] w fun e w' => e = .returned (.int .i64 (h.size : Int)) ∧ Below w.heap.size w w' := by
  obtain ⟨g, t⟩ := h
  obtain ⟨h1, h2, h3, h4⟩ := ho
  simp only at h1 h2 h3 h4
  unfold hvVal Hv.size
  simp only
  have hb : Below w.heap.size w (w.alloc (.cells #[.int .i64 (g : Int), .int .i64 (t : Int)] 27)) := (Below.refl _ _).alloc (Nat.le_refl _) _
  have hB := Blk.new w [.int .i64 (g : Int), .int .i64 (t : Int)] 27
  obtain ⟨p0, p1, p2, p3⟩ := hB.pair
  have d1 : ¬ (g : Int) < 1 := by omega
  have d2 : ¬ (g : Int) > 1500 := by omega
  have d3 : ¬ (t : Int) < 1 := by omega
  have d4 : ¬ (t : Int) > 1000 := by omega
  have hr : (2 : Int) + 2 * ((g : Int) + (t : Int)) = ((2 + 2 * (g + t) : Nat) : Int) := by omega
  rw [← hr]
  clear hr
  go_enter Tryz.func18, Tryz.ntmps18
  go_wp2_with fail
  go_ret
  exact ⟨rfl, hb⟩

set_option maxRecDepth 100000 in
set_option maxHeartbeats 800000 in
theorem ktext_any {b base : Nat} {v : Value} {h : Hv} {m : Hd} {cs : List (List UInt8)} {text : List UInt8} {l : List (List UInt8)} (w : World) (k : KpAt w b base v h m cs text l) :
    Calls Tryz.prog 13 #[.pointer (some ⟨b, 0, none⟩)] w fun e w' => e = .returned (.string (bs text)) ∧ w = w' := by
  obtain ⟨⟨a1, n1, c1, a2, n2, c2, h1, h2⟩, h3, h4⟩ := k
  obtain ⟨_, _, _, p, _⟩ := kp_cells h1
  clear h1 h2 h3 h4
  go_enter Tryz.func13, Tryz.ntmps13
  go_wp2
  go_ret
  exact ⟨rfl, rfl⟩
set_option maxRecDepth 100000 in
set_option maxHeartbeats 800000 in
theorem kdrive_any {b base : Nat} {v : Value} {h : Hv} {m : Hd} {cs : List (List UInt8)} {text : List UInt8} {l : List (List UInt8)} (w : World) (k : KpAt w b base v h m cs text l) :
    Calls Tryz.prog 12 #[.pointer (some ⟨b, 0, none⟩)] w fun e w' => ∃ v', e = .returned v' ∧ IsDrive w' v' ⟨cs, [], -1, false⟩ ∧ Below w.heap.size w w' := by
  obtain ⟨⟨a1, n1, c1, a2, n2, c2, h1, h2⟩, h3, h4⟩ := k
  have hlt := h1.lt
  have hb0 : Below w.heap.size w (w.alloc (.cells #[.slice none 0 0, .slice none 0 0, .int .i64 0, .bool false] 44)) := (Below.refl _ _).alloc (Nat.le_refl _) _
  have B1 := Blk.new w [.slice none 0 0, .slice none 0 0, .int .i64 0, .bool false] 44
  obtain ⟨W0, hW0⟩ : ∃ z, w.alloc (.cells #[.slice none 0 0, .slice none 0 0, .int .i64 0, .bool false] 44) = z := ⟨_, rfl⟩
  have B0 : Blk W0 w.heap.size [.slice none 0 0, .slice none 0 0, .int .i64 0, .bool false] 44 := by rw [← hW0]; exact B1
  rw [hW0] at hb0
  have K0 := h1.next hb0
  have HI := hide (h2.below hb0)
  unfold drvVal at HI
  obtain ⟨_, ⟨p6, p7, p8, p9⟩, _⟩ := kp_cells K0
  obtain ⟨q0, q1, q2, q3, q4, q5, q6, q7⟩ := B0.four
  have hne : b ≠ w.heap.size := by omega
  have hne' : w.heap.size ≠ b := by omega
  clear h1 h2 h3 h4 B1 K0
  go_enter Tryz.func12, Tryz.ntmps12
  go_upto_region 1 with fail
  try rw [hW0]
  clear hW0
  go_wp2_with fail
  exact bodyPost_ret (v := .agg #[.slice a1 n1 c1, .slice a2 n2 c2, .int .i64 (-1), .bool false]) (by simp [results, Tryz.results12, go_sem, q0, q1, q2, q3]) rfl ⟨_, rfl, HI.out.set4 (blk_holds B0) _ _ _ _, below4 hb0 (Nat.le_refl _) _ _ _ _⟩

set_option maxRecDepth 100000 in
set_option maxHeartbeats 800000 in
theorem clone_any (ao : Option Addr) (n c : Nat) (xs : List (List UInt8)) (w : World) (h : Strs w ao n xs) (hn : n ≤ 1000000) :
    Calls Tryz.prog 39 #[.slice ao n c] w fun e w' => ∃ ao' n' c', e = .returned (.slice ao' n' c') ∧ OwnS w' w.heap.size (.slice ao' n' c') xs ∧ n' = xs.length ∧ Below w.heap.size w w' := by
  have hl := h.len
  have q := fun (w : World) (a : Option Addr) (n c n' c' : Nat) => Lib.run_eql_slice_nil (P := Tryz.prog) w 32 9 a n c n' c' Tryz.underlying32
  cases ao with
  | none =>
    have hx : xs = [] := by
      rcases h.row with h0 | ⟨b, off, e, _⟩
      · cases xs with
        | nil => rfl
        | cons a l => simp [strVals] at h0
      · cases e
    subst hx
    have hb := Below.refl w.heap.size w
    clear h
    go_enter Tryz.func39, Tryz.ntmps39
    go_wp2_with fail
    go_ret
    exact ⟨none, 0, 0, rfl, OwnS.nil _ _, rfl, hb⟩
  | some a =>
    have HS := hide h
    clear h
    have hal : Below w.heap.size w (w.alloc (.cells #[] 9)) := (Below.refl _ _).alloc (Nat.le_refl _) _
    have hB : Blk (w.alloc (.cells #[] 9)) w.heap.size [] 9 := Blk.new w [] _
    obtain ⟨W0, hW0⟩ : ∃ z, w.alloc (.cells #[] 9) = z := ⟨_, rfl⟩
    rw [hW0] at hal hB
    have HE := hide (OwnS.empty hB (Nat.le_refl _))
    have HR := hide ((HS.out.below hal).row)
    have hwz := hal.size
    clear hB
    go_enter Tryz.func39, Tryz.ntmps39
    go_wp2_with (at_builtin; refine wpList_appS rfl (.tmp 5) (.tmp 6) rfl w.heap.size (.slice (some ⟨w.heap.size, 0, none⟩) 0 0) [] rfl HE.out (some a) n c xs rfl hl HR.out (by simp; omega) hwz ?_)
    intro v' w' hown hg hk hob
    have hb2 : Below w.heap.size w w' := hal.grown hg hwz (fun g hgg => by injection hgg with hgg; simp only at hgg; omega)
    obtain ⟨ao', c', rfl, _, _, _⟩ := hown.form
    have HO := hide hown
    clear hown hg hk hob hW0
    go_wp2_with fail
    go_ret
    exact ⟨ao', _, c', rfl, HO.out, by simp, hb2⟩

set_option maxRecDepth 100000 in
set_option maxHeartbeats 800000 in
theorem krecords_any {b base : Nat} {v : Value} {h : Hv} {m : Hd} {cs : List (List UInt8)} {text : List UInt8} {l : List (List UInt8)} (w : World) (k : KpAt w b base v h m cs text l) (hl : l.length ≤ 1000000) :
    Calls Tryz.prog 15 #[.pointer (some ⟨b, 0, none⟩)] w fun e w' => ∃ ao n c, e = .returned (.slice ao n c) ∧ OwnS w' w.heap.size (.slice ao n c) l ∧ n = l.length ∧ Below w.heap.size w w' := by
  obtain ⟨⟨a1, n1, c1, a2, n2, c2, h1, h2⟩, h3, h4⟩ := k
  obtain ⟨ao, c, rfl, _, _, hst⟩ := h3.form
  have HC := hide (clone_any ao l.length c l w hst hl)
  obtain ⟨_, _, _, _, p⟩ := kp_cells h1
  clear h1 h2 h3 h4 hst
  go_enter Tryz.func15, Tryz.ntmps15
  go_wp2_with fail
  refine HC.out.mono ?_
  rintro e w1 ⟨ao', n', c', rfl, h1, h2, h3⟩
  have HO := hide h1
  have HN := hide h2
  clear h1 h2
  go_wp2_with fail
  go_ret
  exact ⟨ao', n', c', rfl, HO.out, HN.out, h3⟩

end Go.Proofs.YtogonkoeginoaaaGreatDoor

namespace Go.Proofs.YtogonkoeginoaaaGreatDoor
open Go.RowKit

theorem drv_new {n : Nat} (h1 : 1 ≤ n) (h2 : n ≤ 6000) : Drv.new (n : Int) = (⟨List.replicate n blank, [], -1, false⟩, 0) := by
  unfold Drv.new
  rw [if_neg (by omega), Int.toNat_natCast]

set_option maxRecDepth 100000 in
set_option maxHeartbeats 1600000 in
theorem knew_full (h : Hv) (text : List UInt8) (w : World) (ho : h.Ok) (ht : h.text * 64 < text.length) (_ht2 : text.length < 9223372036854775808) :
    Calls Tryz.prog 4 #[hvVal h, .string (bs text)] w fun e w' => e = .returned (.tuple #[.pointer none, .int .i64 6]) ∧ Below w.heap.size w w' := by
  have HS := hide (fun w => ksize_any h w ho)
  have hsz : (bs text).size = text.length := bs_size text
  obtain ⟨sv, hsv⟩ : ∃ z, bs text = z := ⟨_, rfl⟩
  rw [hsv] at hsz ⊢
  have hb6 : 6 ≤ h.size ∧ h.size ≤ 5002 := by unfold Hv.Ok at ho; unfold Hv.size; omega
  obtain ⟨q, hq⟩ : ∃ q, h.size = q := ⟨_, rfl⟩
  rw [hq] at HS hb6
  have hqz : ((q : Int) == 0) = false := by rw [beq_eq_false_iff_ne]; omega
  have ho4 := ho.2.2.2
  clear hq hsv
  obtain ⟨g, t⟩ := h
  simp only at ht ho4
  unfold hvVal at HS ⊢
  simp only at HS ⊢
  have hgt : (sv.size : Int) > (t : Int) * 64 := by omega
  have hB1 := Blk.new w [.int .i64 (g : Int), .int .i64 (t : Int)] 27
  obtain ⟨W0, hW0⟩ : ∃ z, w.alloc (.cells #[.int .i64 (g : Int), .int .i64 (t : Int)] 27) = z := ⟨_, rfl⟩
  have hal : Below w.heap.size w W0 := by rw [← hW0]; exact (Below.refl _ _).alloc (Nat.le_refl _) _
  have hB : Blk W0 w.heap.size [.int .i64 (g : Int), .int .i64 (t : Int)] 27 := by rw [← hW0]; exact hB1
  obtain ⟨p0, p1, p2, p3⟩ := hB.pair
  clear hB1 ho
  go_enter Tryz.func4, Tryz.ntmps4
  go_upto_region 1 with fail
  try rw [hW0]
  clear hW0
  go_wp2_with fail
  refine (HS.out _).mono ?_
  rintro e w1 ⟨rfl, hb1⟩
  have hbx := chain hal hb1
  clear p0 p1 p2 p3
  obtain ⟨p0, p1, p2, p3⟩ := (hB.next hb1).pair
  clear hB hal hb1
  go_wp2_with fail
  go_ret2
  exact ⟨rfl, hbx⟩

set_option maxRecDepth 100000 in
set_option maxHeartbeats 6400000 in
theorem knew_any (h : Hv) (text : List UInt8) (w : World) (ho : h.Ok) (ht : text.length ≤ h.text * 64) (ht2 : text.length ≤ 6400) :
    Calls Tryz.prog 4 #[hvVal h, .string (bs text)] w fun e w' => ∃ b, e = .returned (.tuple #[.pointer (some ⟨b, 0, none⟩), .int .i64 0]) ∧ w.heap.size ≤ b ∧ KpAt w' b w.heap.size (.slice none 0 0) h ⟨1, 0, 1, text.length⟩ (layOn h (List.replicate h.size blank) ⟨1, 0, 1, text.length⟩ text) text [] ∧ Below w.heap.size w w' := by
  have HON := hide (OnKeep.new h ho text ht)
  have hin : (⟨1, 0, 1, text.length⟩ : Hd).In := by unfold Hd.In; simp only; omega
  have HS := hide (fun w => ksize_any h w ho)
  have hb6 : 6 ≤ h.size ∧ h.size ≤ 5002 := by unfold Hv.Ok at ho; unfold Hv.size; omega
  have HN := hide (fun w => new_any (h.size : Int) w)
  rw [drv_new (by omega) (by omega)] at HN
  have HL := hide (fun (b : Nat) (w : World) (hw : Work w b ⟨List.replicate h.size blank, [], -1, false⟩) => klay_any b h ⟨1, 0, 1, text.length⟩ (List.replicate h.size blank) text w hw ho hin (by simp) (by simp) (fun c hc => by rw [List.eq_of_mem_replicate hc]; rfl) ht ht2)
  have HT := hide (fun w => ktape_any h ⟨1, 0, 1, text.length⟩ w ho (by simp))
  have hsz : (bs text).size = text.length := bs_size text
  obtain ⟨U, hU⟩ : ∃ U, layOn h (List.replicate h.size blank) ⟨1, 0, 1, text.length⟩ text = U := ⟨_, rfl⟩
  rw [hU] at HON HL ⊢
  obtain ⟨sv, hsv⟩ : ∃ z, bs text = z := ⟨_, rfl⟩
  rw [hsv] at hsz HL ⊢
  obtain ⟨q, hq⟩ : ∃ q, h.size = q := ⟨_, rfl⟩
  rw [hq] at HS HN HL hb6
  have hqz : ((q : Int) == 0) = false := by rw [beq_eq_false_iff_ne]; omega
  have HSV := hide hsv
  have ho4 := ho.2.2.2
  obtain ⟨la, hla⟩ : ∃ z, logAt h (⟨1, 0, 1, text.length⟩ : Hd).half = z := ⟨_, rfl⟩
  rw [hla] at HT
  have HLA := hide hla
  rw [← hsz] at HL HT
  have HSZ := hide hsz
  clear hU hq hsv hin hla
  have HHV := hide (Eq.refl (hvVal h))
  obtain ⟨g, hg⟩ : ∃ g, h.log = g := ⟨_, rfl⟩
  obtain ⟨t, ht'⟩ : ∃ t, h.text = t := ⟨_, rfl⟩
  have hv : hvVal h = .agg #[.int .i64 (g : Int), .int .i64 (t : Int)] := by unfold hvVal; rw [hg, ht']
  rw [hv] at HS HL HT ⊢
  rw [hg] at HT
  rw [ht'] at ht ho4
  have HG := hide (And.intro hg ht')
  unfold hdVal at HL HT
  simp only at HL HT
  have hgt : ¬ (sv.size : Int) > (t : Int) * 64 := by omega
  have hB1 := Blk.new w [.int .i64 (g : Int), .int .i64 (t : Int)] 27
  obtain ⟨W0, hW0⟩ : ∃ z, w.alloc (.cells #[.int .i64 (g : Int), .int .i64 (t : Int)] 27) = z := ⟨_, rfl⟩
  have hal : Below w.heap.size w W0 := by rw [← hW0]; exact (Below.refl _ _).alloc (Nat.le_refl _) _
  have hB : Blk W0 w.heap.size [.int .i64 (g : Int), .int .i64 (t : Int)] 27 := by rw [← hW0]; exact hB1
  obtain ⟨p0, p1, p2, p3⟩ := hB.pair
  clear hB1 ho hg ht' hv HHV hsz ht ht2
  go_enter Tryz.func4, Tryz.ntmps4
  go_upto_region 1 with fail
  try rw [hW0]
  clear hW0
  go_wp2_with fail
  refine (HS.out _).mono ?_
  rintro e w1 ⟨rfl, hb1⟩
  have C0 := hB.next hb1
  have hbx := chain hal hb1
  clear p0 p1 p2 p3 hB hal hb1
  obtain ⟨p0, p1, p2, p3⟩ := C0.pair
  go_upto_region 7 with fail
  obtain ⟨B1, B2⟩ := two_kinds w1 [.int .i64 1, .int .i64 0, .int .i64 1, .int .i64 (sv.size : Int)] [.slice none 0 0, .slice none 0 0, .int .i64 0, .bool false, .int .i64 0] 56 58
  have hal : Below w1.heap.size w1 ((w1.alloc (.cells #[.int .i64 1, .int .i64 0, .int .i64 1, .int .i64 (sv.size : Int)] 56)).alloc (.cells #[.slice none 0 0, .slice none 0 0, .int .i64 0, .bool false, .int .i64 0] 58)) := ((Below.refl _ _).alloc (Nat.le_refl _) _).alloc (by simp) _
  obtain ⟨W2, hW2⟩ : ∃ z, ((w1.alloc (.cells #[.int .i64 1, .int .i64 0, .int .i64 1, .int .i64 (sv.size : Int)] 56)).alloc (.cells #[.slice none 0 0, .slice none 0 0, .int .i64 0, .bool false, .int .i64 0] 58)) = z := ⟨_, rfl⟩
  rw [hW2] at B1 B2 hal ⊢
  have D0 := C0.next hal
  have hby := chain hbx hal
  have hlt0 := C0.lt
  clear hW2 p0 p1 p2 p3 hbx hal
  obtain ⟨b0, hb0⟩ : ∃ b, w.heap.size = b := ⟨_, rfl⟩
  rw [hb0] at C0 D0 hlt0 ⊢
  obtain ⟨b1, hb1⟩ : ∃ b, w1.heap.size = b := ⟨_, rfl⟩
  rw [hb1] at B1 B2 hlt0 ⊢
  obtain ⟨b2, hb2⟩ : ∃ b, b1 + 1 = b := ⟨_, rfl⟩
  rw [hb2] at B2 ⊢
  have hb0l : w.heap.size ≤ b0 := by omega
  have ho2 : b1 < b2 := by omega
  have hl2 := B2.lt
  clear hb0 hb1 hb2 C0
  obtain ⟨p0, p1, p2, p3⟩ := D0.pair
  go_wp2_with fail
  refine (HS.out _).mono ?_
  rintro e w2 ⟨rfl, hb2⟩
  have E0 := D0.next hb2
  have E1 := B1.next hb2
  have E2 := B2.next hb2
  have hbz := chain hby hb2
  clear p0 p1 p2 p3 D0 B1 B2 hby hb2 HS
  go_wp2_with fail
  refine (HN.out _).mono ?_
  rintro e w3 ⟨v3, rfl, hd3, hb3⟩
  have HD3 := hide hd3
  obtain ⟨a1, n1, c1, a2, n2, c2, fu, of, rfl, _⟩ := hd3
  unfold drvVal at ⊢
  have F0 := E0.next hb3
  have F1 := E1.next hb3
  have F2 := E2.next hb3
  have hbv := chain hbz hb3
  clear E0 E1 E2 hbz hb3 HN hl2
  have hl2 := F2.lt
  obtain ⟨g0, g1, g2, g3, g4, g5, g6, g7, g8, g9⟩ := F2.five
  obtain ⟨hW, hS⟩ := work_stored (show Blk w3 b2 (wkCells none 0 0 none 0 0 0 false 0) 58 from F2) HD3.out
  obtain ⟨W4, hW4⟩ : ∃ z, (((((w3.setCell ⟨b2, 0, none⟩ (.slice a1 n1 c1)).setCell ⟨b2, 1, none⟩ (.slice a2 n2 c2)).setCell ⟨b2, 2, none⟩ (.int .i64 fu)).setCell ⟨b2, 3, none⟩ (.bool of)).setCell ⟨b2, 4, none⟩ (.int .i64 0)) = z := ⟨_, rfl⟩
  have hW' := hW
  have hS' := hS
  rw [hW4] at hW' hS'
  have G0 : Blk W4 b0 [.int .i64 (g : Int), .int .i64 (t : Int)] 27 := F0.step hS' (by omega)
  have G1 : Blk W4 b1 [.int .i64 1, .int .i64 0, .int .i64 1, .int .i64 (sv.size : Int)] 56 := F1.step hS' (by omega)
  have hbu : Below w.heap.size w W4 := Step.toBelow hbv hbv.size hS' (by omega)
  clear hW hS hS'
  go_upto_region 8 with fail
  try rw [hW4]
  clear hW4 F0 F1 F2 hbv g0 g1 g2 g3 g4 g5 g6 g7 g8 g9 HD3
  obtain ⟨p0, p1, p2, p3⟩ := G0.pair
  obtain ⟨q0, q1, q2, q3, q4, q5, q6, q7⟩ := G1.four
  go_wp2_with fail
  refine (HL.out _ _ hW').mono ?_
  rintro e w4 ⟨rfl, hw4, hs4⟩
  have F0 : Blk w4 b0 [.int .i64 (g : Int), .int .i64 (t : Int)] 27 := G0.step hs4 (by omega)
  have F1 : Blk w4 b1 [.int .i64 1, .int .i64 0, .int .i64 1, .int .i64 (sv.size : Int)] 56 := G1.step hs4 (by omega)
  have hbt : Below w.heap.size w w4 := Step.toBelow hbu hbu.size hs4 (by omega)
  clear G0 G1 hW' hs4 hbu p0 p1 p2 p3 q0 q1 q2 q3 q4 q5 q6 q7
  obtain ⟨u1, r1, t1, u2, r2, t2, fy, oy, F2, hd⟩ := hw4
  have hfy := hd
  obtain ⟨_, _, _, _, _, _, _, _, hfe, hfd⟩ := hfy
  unfold drvVal at hfe
  injection hfe with hfe
  have hfl := congrArg Array.toList hfe
  simp only [List.cons.injEq, Value.slice.injEq, Value.int.injEq, Value.bool.injEq, and_true, true_and] at hfl
  obtain ⟨⟨rfl, rfl, rfl⟩, ⟨rfl, rfl, rfl⟩, rfl, rfl⟩ := hfl
  obtain rfl := hfd.fuel_eq
  obtain rfl := hfd.off_eq
  have HDD := hide hd
  clear hd hfd hfe
  unfold wkCells at F2
  obtain ⟨g0, g1, g2, g3, g4, g5, g6, g7, g8, g9⟩ := F2.five
  have hne : decide ((0 : Int) ≠ 0) = false := rfl
  go_upto_region 11 with fail
  have HK := hide (fun w' (h : Below w4.heap.size w4 w') => show (fun w' => Below w4.heap.size w4 w' ∧ w'.cell? ⟨b1, 0, none⟩ = some (.int .i64 1) ∧ w'.cell? ⟨b1, 1, none⟩ = some (.int .i64 0) ∧ w'.cell? ⟨b1, 2, none⟩ = some (.int .i64 1) ∧ w'.cell? ⟨b1, 3, none⟩ = some (.int .i64 (sv.size : Int)) ∧ w'.cell? ⟨b0, 0, none⟩ = some (.int .i64 (g : Int)) ∧ w'.cell? ⟨b0, 1, none⟩ = some (.int .i64 (t : Int)) ∧ w'.cell? ⟨b2, 0, none⟩ = some (.slice u1 r1 t1) ∧ w'.cell? ⟨b2, 1, none⟩ = some (.slice u2 r2 t2) ∧ w'.cell? ⟨b2, 2, none⟩ = some (.int .i64 (-1)) ∧ w'.cell? ⟨b2, 3, none⟩ = some (.bool false)) w' from ⟨h, (F1.next h).cell 0, (F1.next h).cell 1, (F1.next h).cell 2, (F1.next h).cell 3, (F0.next h).cell 0, (F0.next h).cell 1, (F2.next h).cell 0, (F2.next h).cell 1, (F2.next h).cell 2, (F2.next h).cell 3⟩)
  clear g0 g1 g2 g3 g4 g5 g6 g7 g8 g9
  go_region_held3 (fun w' => Below w4.heap.size w4 w' ∧ w'.cell? ⟨b1, 0, none⟩ = some (.int .i64 1) ∧ w'.cell? ⟨b1, 1, none⟩ = some (.int .i64 0) ∧ w'.cell? ⟨b1, 2, none⟩ = some (.int .i64 1) ∧ w'.cell? ⟨b1, 3, none⟩ = some (.int .i64 (sv.size : Int)) ∧ w'.cell? ⟨b0, 0, none⟩ = some (.int .i64 (g : Int)) ∧ w'.cell? ⟨b0, 1, none⟩ = some (.int .i64 (t : Int)) ∧ w'.cell? ⟨b2, 0, none⟩ = some (.slice u1 r1 t1) ∧ w'.cell? ⟨b2, 1, none⟩ = some (.slice u2 r2 t2) ∧ w'.cell? ⟨b2, 2, none⟩ = some (.int .i64 (-1)) ∧ w'.cell? ⟨b2, 3, none⟩ = some (.bool false)) (first | exact HK.out _ (Below.drewed (Below.refl _ _)) | exact HK.out _ hbq.out | exact HK.out _ (hbq.out.alloc hbq.out.size _)) (
    (go_at_call 21
     have hq := (‹Below w4.heap.size w4 _ ∧ _›).1
     refine (HT.out _).mono ?_
     rintro e w8 ⟨rfl, hb8⟩
     have hbq := hide (chain hq hb8)
     clear hq hb8))
  have hB9 := Blk.new w8 [.int .i64 1, .int .i64 0, .int .i64 1, .int .i64 (sv.size : Int), .int .i64 (g : Int), .int .i64 (t : Int), .slice u1 r1 t1, .slice u2 r2 t2, .int .i64 (-1), .bool false, .int .i64 (la : Int), .int .i64 (g : Int), .int .i64 0, .int .i64 1, .string sv, .slice none 0 0] 66
  have hal : Below w8.heap.size w8 (w8.alloc (.cells #[.int .i64 1, .int .i64 0, .int .i64 1, .int .i64 (sv.size : Int), .int .i64 (g : Int), .int .i64 (t : Int), .slice u1 r1 t1, .slice u2 r2 t2, .int .i64 (-1), .bool false, .int .i64 (la : Int), .int .i64 (g : Int), .int .i64 0, .int .i64 1, .string sv, .slice none 0 0] 66)) := (Below.refl _ _).alloc (Nat.le_refl _) _
  have HD9 := hide ((HDD.out.below hbq.out).below hal)
  have hb8 := chain hbt hbq.out
  have hb9 := chain hb8 hal
  have hsz8 := hb8.size
  obtain ⟨W9, hW9⟩ : ∃ z, w8.alloc (.cells #[.int .i64 1, .int .i64 0, .int .i64 1, .int .i64 (sv.size : Int), .int .i64 (g : Int), .int .i64 (t : Int), .slice u1 r1 t1, .slice u2 r2 t2, .int .i64 (-1), .bool false, .int .i64 (la : Int), .int .i64 (g : Int), .int .i64 0, .int .i64 1, .string sv, .slice none 0 0] 66) = z := ⟨_, rfl⟩
  have hB9' : Blk W9 w8.heap.size [.int .i64 1, .int .i64 0, .int .i64 1, .int .i64 (sv.size : Int), .int .i64 (g : Int), .int .i64 (t : Int), .slice u1 r1 t1, .slice u2 r2 t2, .int .i64 (-1), .bool false, .int .i64 (la : Int), .int .i64 (g : Int), .int .i64 0, .int .i64 1, .string sv, .slice none 0 0] 66 := by rw [← hW9]; exact hB9
  rw [hW9] at HD9 hb9
  have HC : Hid (kpCells h ⟨1, 0, 1, text.length⟩ u1 r1 t1 u2 r2 t2 (kpTape h ⟨1, 0, 1, text.length⟩ []) sv (.slice none 0 0) = [.int .i64 1, .int .i64 0, .int .i64 1, .int .i64 (sv.size : Int), .int .i64 (g : Int), .int .i64 (t : Int), .slice u1 r1 t1, .slice u2 r2 t2, .int .i64 (-1), .bool false, .int .i64 (la : Int), .int .i64 (g : Int), .int .i64 0, .int .i64 1, .string sv, .slice none 0 0]) := hide (by
    unfold kpCells kpTape
    simp only
    rw [HG.out.1, HG.out.2, HLA.out, HSZ.out]
    rfl)
  try rw [hW9]
  clear hW9 hB9 hal hb8 HDD HK F0 F1 F2 hbt
  go_wp2_with fail
  go_ret2
  refine ⟨w8.heap.size, rfl, hsz8, ⟨⟨u1, r1, t1, u2, r2, t2, ?_, HD9.out⟩, OwnS.nil _ _, HON.out⟩, hb9⟩
  rw [HSV.out, HC.out]
  exact hB9'

end Go.Proofs.YtogonkoeginoaaaGreatDoor
