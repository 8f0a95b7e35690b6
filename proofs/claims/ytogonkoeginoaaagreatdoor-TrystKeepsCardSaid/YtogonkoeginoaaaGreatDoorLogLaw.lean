/-
  The log, in plain Lean: what a record's cells are, and what is scanned. No program in sight.
-/
import Derived.Test.YtogonkoeginoaaaGreatDoorDskRead
namespace Go.Proofs.YtogonkoeginoaaaGreatDoor

/-- How many cells a record of n octets has. -/
def kOf (n : Nat) : Nat := 1 + (n + 1) / 60
def cellsOf (n : Int) : Int := if n < 0 ∨ 4000 < n then 0 else (kOf n.toNat : Int)
/-- Octets, and octets 0 behind them, up to 60. -/
def pad60 (l : List UInt8) : List UInt8 := l ++ List.replicate (60 - l.length) 0
theorem pad60_length (l : List UInt8) (h : l.length ≤ 60) : (pad60 l).length = 60 := by simp [pad60]; omega
def recAll (s : List UInt8) : List UInt8 := octs 2 s.length ++ s
theorem recAll_length (s : List UInt8) : (recAll s).length = s.length + 2 := by simp [recAll, octs_length]; omega
def piece (s : List UInt8) (i : Nat) : List UInt8 := pad60 (((recAll s).drop (60 * i)).take 60)
theorem piece_length (s : List UInt8) (i : Nat) : (piece s i).length = 60 := pad60_length _ (by rw [List.length_take]; omega)
def kind (i : Nat) : UInt8 := if i = 0 then 1 else 2
def cellAt (s : List UInt8) (sr i : Nat) : List UInt8 := piece s i ++ octs 3 sr ++ [kind i]
theorem cellAt_length (s : List UInt8) (sr i : Nat) : (cellAt s sr i).length = 64 := by simp [cellAt, piece_length, octs_length]
def recCells (s : List UInt8) (sr : Nat) : List (List UInt8) := (List.range (kOf s.length)).map (cellAt s sr)
theorem recCells_length (s : List UInt8) (sr : Nat) : (recCells s sr).length = kOf s.length := by simp [recCells]
theorem recCells_all (s : List UInt8) (sr : Nat) : ∀ c ∈ recCells s sr, c.length = 64 := by
  intro c hc
  obtain ⟨i, _, rfl⟩ := List.mem_map.1 hc
  exact cellAt_length s sr i
def lay (s : List UInt8) (sr : Nat) : List UInt8 := (recCells s sr).flatten
theorem lay_length (s : List UInt8) (sr : Nat) : (lay s sr).length = 64 * kOf s.length := by
  rw [lay, flatten_64 _ (recCells_all s sr), recCells_length]

/-- The i-th part of equal parts. -/
theorem flat_part (n : Nat) : ∀ (L : List (List UInt8)) (rest : List UInt8) (i : Nat) (_ : ∀ c ∈ L, c.length = n) (h : i < L.length), ((L.flatten ++ rest).drop (n * i)).take n = L[i] := by
  intro L
  induction L with
  | nil => intro rest i _ h; simp at h
  | cons c L ih =>
    intro rest i hL h
    have hc : c.length = n := hL c (by simp)
    cases i with
    | zero =>
      simp only [Nat.mul_zero, List.drop_zero, List.flatten_cons, List.append_assoc, List.getElem_cons_zero]
      rw [List.take_append_of_le_length (by omega), List.take_of_length_le (by omega)]
    | succ i =>
      simp only [List.flatten_cons, List.append_assoc, List.getElem_cons_succ]
      rw [Nat.mul_succ, Nat.add_comm, ← List.drop_drop, List.drop_left' hc]
      exact ih rest i (fun x hx => hL x (by simp [hx])) (by simpa using h)

/-- Parts of 60, the last filled up. -/
theorem pads_flat : ∀ (k : Nat) (l : List UInt8), l.length ≤ 60 * k → ((List.range k).map fun i => pad60 ((l.drop (60 * i)).take 60)).flatten = l ++ List.replicate (60 * k - l.length) 0 := by
  intro k
  induction k with
  | zero =>
    intro l h
    have : l = [] := List.eq_nil_of_length_eq_zero (by omega)
    subst this
    rfl
  | succ k ih =>
    intro l h
    rw [List.range_succ_eq_map, List.map_cons, List.flatten_cons, List.map_map]
    have e : ((fun i => pad60 ((l.drop (60 * i)).take 60)) ∘ Nat.succ) = fun i => pad60 (((l.drop 60).drop (60 * i)).take 60) := by
      funext i
      simp only [Function.comp_apply, List.drop_drop]
      rw [Nat.mul_succ, Nat.add_comm]
    rw [e, ih (l.drop 60) (by rw [List.length_drop]; omega)]
    simp only [Nat.mul_zero, List.drop_zero, List.length_drop]
    by_cases hl : 60 ≤ l.length
    · have e2 : pad60 (l.take 60) = l.take 60 := by
        unfold pad60
        rw [List.length_take, show 60 - min 60 l.length = 0 by omega, List.replicate_zero, List.append_nil]
      rw [e2, ← List.append_assoc, List.take_append_drop]
      congr 2
      omega
    · have e3 : l.drop 60 = [] := List.drop_of_length_le (by omega)
      have e2 : pad60 (l.take 60) = l ++ List.replicate (60 - l.length) 0 := by
        unfold pad60
        rw [List.take_of_length_le (by omega)]
      rw [e2, e3, List.nil_append, List.append_assoc, List.replicate_append_replicate]
      congr 2
      omega

def sizeAt (o : List UInt8) : Nat := val (o.take 2)
def bodyOf (o : List UInt8) (k : Nat) : List UInt8 := ((List.range k).map fun i => (o.drop (64 * i)).take 60).flatten
def recAt (o : List UInt8) : List UInt8 := ((bodyOf o (kOf (sizeAt o))).drop 2).take (sizeAt o)
/-- Do octets begin with a record's cells, of a serial? -/
def beginOk (o : List UInt8) (sr : Nat) : Bool := decide (64 ≤ o.length ∧ sr ≤ 16777215 ∧ sizeAt o ≤ 4000 ∧ kOf (sizeAt o) * 64 ≤ o.length) && decide (lay (recAt o) sr = o.take (kOf (sizeAt o) * 64))

theorem kOf_bound (n : Nat) : n + 2 ≤ 60 * kOf n := by unfold kOf; omega
theorem kOf_pos (n : Nat) : 1 ≤ kOf n := by unfold kOf; omega
theorem kOf_mono {a b : Nat} (h : a ≤ b) : kOf a ≤ kOf b := by unfold kOf; omega
theorem kOf_max {n : Nat} (h : n ≤ 4000) : kOf n ≤ 67 := by unfold kOf; omega

theorem lay_front (s : List UInt8) (sr : Nat) (rest : List UInt8) (i : Nat) (h : i < kOf s.length) : ((lay s sr ++ rest).drop (64 * i)).take 64 = cellAt s sr i := by
  rw [lay, flat_part 64 (recCells s sr) rest i (recCells_all s sr) (by rw [recCells_length]; exact h)]
  simp [recCells]

theorem lay_piece (s : List UInt8) (sr : Nat) (rest : List UInt8) (i : Nat) (h : i < kOf s.length) : ((lay s sr ++ rest).drop (64 * i)).take 60 = piece s i := by
  have e := lay_front s sr rest i h
  have e2 : ((lay s sr ++ rest).drop (64 * i)).take 60 = (((lay s sr ++ rest).drop (64 * i)).take 64).take 60 := by rw [List.take_take]; rfl
  rw [e2, e, cellAt, List.append_assoc, List.take_append_of_le_length (by rw [piece_length]; omega), List.take_of_length_le (by rw [piece_length]; omega)]

theorem bodyOf_lay (s : List UInt8) (sr : Nat) (rest : List UInt8) : bodyOf (lay s sr ++ rest) (kOf s.length) = recAll s ++ List.replicate (60 * kOf s.length - (s.length + 2)) 0 := by
  unfold bodyOf
  have e : (List.range (kOf s.length)).map (fun i => ((lay s sr ++ rest).drop (64 * i)).take 60) = (List.range (kOf s.length)).map (fun i => piece s i) := by
    refine List.map_congr_left fun i hi => ?_
    exact lay_piece s sr rest i (List.mem_range.1 hi)
  rw [e]
  unfold piece
  rw [pads_flat (kOf s.length) (recAll s) (by rw [recAll_length]; exact kOf_bound _), recAll_length]

theorem sizeAt_lay (s : List UInt8) (sr : Nat) (rest : List UInt8) (hs : s.length ≤ 4000) : sizeAt (lay s sr ++ rest) = s.length := by
  unfold sizeAt
  have e := lay_piece s sr rest 0 (kOf_pos _)
  rw [Nat.mul_zero, List.drop_zero] at e
  have e2 : (lay s sr ++ rest).take 2 = ((lay s sr ++ rest).take 60).take 2 := by rw [List.take_take]; rfl
  rw [e2, e]
  unfold piece
  rw [Nat.mul_zero, List.drop_zero]
  have e3 : (pad60 ((recAll s).take 60)).take 2 = octs 2 s.length := by
    unfold pad60
    rw [List.take_append_of_le_length (by rw [List.length_take, recAll_length]; omega), List.take_take]
    unfold recAll
    rw [List.take_append_of_le_length (by rw [octs_length]; decide), List.take_of_length_le (by rw [octs_length]; decide)]
  rw [e3, val_octs]
  exact Nat.mod_eq_of_lt (by omega)

theorem recAt_lay (s : List UInt8) (sr : Nat) (rest : List UInt8) (hs : s.length ≤ 4000) : recAt (lay s sr ++ rest) = s := by
  unfold recAt
  rw [sizeAt_lay s sr rest hs, bodyOf_lay]
  have e : ((recAll s ++ List.replicate (60 * kOf s.length - (s.length + 2)) 0).drop 2) = s ++ List.replicate (60 * kOf s.length - (s.length + 2)) 0 := by
    unfold recAll
    rw [List.append_assoc, List.drop_append_of_le_length (by rw [octs_length]; decide), List.drop_of_length_le (by rw [octs_length]; decide), List.nil_append]
  rw [e, List.take_append_of_le_length (Nat.le_refl _), List.take_of_length_le (Nat.le_refl _)]

theorem begin_lay (s : List UInt8) (sr : Nat) (rest : List UInt8) (hs : s.length ≤ 4000) (hsr : sr ≤ 16777215) : beginOk (lay s sr ++ rest) sr = true := by
  have hl := lay_length s sr
  have hk := kOf_pos s.length
  unfold beginOk
  rw [sizeAt_lay s sr rest hs, recAt_lay s sr rest hs, Bool.and_eq_true, decide_eq_true_iff, decide_eq_true_iff]
  refine ⟨⟨?_, hsr, hs, ?_⟩, ?_⟩
  · rw [List.length_append]; omega
  · rw [List.length_append]; omega
  · rw [List.take_append_of_le_length (by omega), List.take_of_length_le (by omega)]

structure Begins (o : List UInt8) (sr : Nat) : Prop where
  room : 64 ≤ o.length
  serial : sr ≤ 16777215
  len : (recAt o).length = sizeAt o
  most : (recAt o).length ≤ 4000
  fits : 64 * kOf (recAt o).length ≤ o.length
  eq : o = lay (recAt o) sr ++ o.drop (64 * kOf (recAt o).length)

theorem bodyOf_length (o : List UInt8) (k : Nat) (h : k * 64 ≤ o.length) : (bodyOf o k).length = 60 * k := by
  unfold bodyOf
  induction k with
  | zero => rfl
  | succ k ih =>
    rw [List.range_succ, List.map_append, List.flatten_append, List.length_append, ih (by omega)]
    simp
    omega

theorem begins_of {o : List UInt8} {sr : Nat} (h : beginOk o sr = true) : Begins o sr := by
  unfold beginOk at h
  rw [Bool.and_eq_true, decide_eq_true_iff, decide_eq_true_iff] at h
  obtain ⟨⟨h1, h2, h3, h4⟩, h5⟩ := h
  have hlen : (recAt o).length = sizeAt o := by
    have hb := bodyOf_length o (kOf (sizeAt o)) h4
    have := kOf_bound (sizeAt o)
    unfold recAt
    rw [List.length_take, List.length_drop, hb]
    omega
  refine ⟨h1, h2, hlen, by omega, by rw [hlen]; omega, ?_⟩
  rw [hlen, Nat.mul_comm, h5, List.take_append_drop]

/-- The octet 63 of a first cell is 1; its mark is the serial. -/
theorem begins_kind {o : List UInt8} {sr : Nat} (h : Begins o sr) : o.take 64 = cellAt (recAt o) sr 0 := by
  have e := lay_front (recAt o) sr (o.drop (64 * kOf (recAt o).length)) 0 (kOf_pos _)
  rw [← h.eq, Nat.mul_zero, List.drop_zero] at e
  exact e
theorem cellAt_kind (s : List UInt8) (sr i : Nat) : (cellAt s sr i).getD 63 0 = kind i := by
  unfold cellAt
  rw [List.getD_eq_getElem?_getD, List.getElem?_append_right (by simp [piece_length, octs_length])]
  simp [piece_length, octs_length]
theorem cellAt_mark (s : List UInt8) (sr i : Nat) : ((cellAt s sr i).drop 60).take 3 = octs 3 sr := by
  unfold cellAt
  rw [List.append_assoc, List.drop_append_of_le_length (by rw [piece_length]; omega), List.drop_of_length_le (by rw [piece_length]; omega), List.nil_append, List.take_append_of_le_length (by rw [octs_length]; omega), List.take_of_length_le (by rw [octs_length]; omega)]
theorem begin_no_kind {o : List UInt8} {sr : Nat} (h : (o.take 64).getD 63 0 ≠ 1) : beginOk o sr = false := by
  cases hb : beginOk o sr with
  | false => rfl
  | true =>
    have := begins_kind (begins_of hb)
    rw [this, cellAt_kind] at h
    exact absurd rfl h
theorem begin_no_mark {o : List UInt8} {sr : Nat} (h : val (((o.take 64).drop 60).take 3) ≠ sr) : beginOk o sr = false := by
  cases hb : beginOk o sr with
  | false => rfl
  | true =>
    have hB := begins_of hb
    have := begins_kind hB
    rw [this, cellAt_mark, val_octs, Nat.mod_eq_of_lt (by have := hB.serial; omega)] at h
    exact absurd rfl h

/-- What octets have, from a serial on. -/
def scanL : Nat → List UInt8 → Nat → List (List UInt8)
  | 0, _, _ => []
  | f + 1, o, sr => if beginOk o sr then recAt o :: scanL f (o.drop (64 * kOf (recAt o).length)) (sr + 1) else []
def span (l : List (List UInt8)) : Nat := (l.map fun s => kOf s.length).sum
def lays : List (List UInt8) → Nat → List UInt8
  | [], _ => []
  | s :: l, sr => lay s sr ++ lays l (sr + 1)
theorem span_cons (s : List UInt8) (l : List (List UInt8)) : span (s :: l) = kOf s.length + span l := by simp [span]
theorem span_append (a b : List (List UInt8)) : span (a ++ b) = span a + span b := by simp [span]
theorem lays_length (l : List (List UInt8)) : ∀ sr, (lays l sr).length = 64 * span l := by
  induction l with
  | nil => intro sr; rfl
  | cons s l ih => intro sr; rw [lays, List.length_append, lay_length, ih, span_cons]; omega
theorem lays_append (a : List (List UInt8)) : ∀ (b : List (List UInt8)) (sr : Nat), lays (a ++ b) sr = lays a sr ++ lays b (sr + a.length) := by
  induction a with
  | nil => intro b sr; simp [lays]
  | cons s a ih =>
    intro b sr
    rw [List.cons_append, lays, lays, ih, List.append_assoc, List.length_cons]
    congr 3
    omega

theorem scan_none {o : List UInt8} {sr : Nat} (h : beginOk o sr = false) (f : Nat) : scanL f o sr = [] := by
  cases f with
  | zero => rfl
  | succ f => rw [scanL, h]; rfl

/-- What was laid is scanned. -/
theorem scan_lays : ∀ (l : List (List UInt8)) (sr f : Nat) (rest : List UInt8), (∀ s ∈ l, s.length ≤ 4000) → sr + l.length ≤ 16777216 → l.length ≤ f → beginOk rest (sr + l.length) = false → scanL f (lays l sr ++ rest) sr = l := by
  intro l
  induction l with
  | nil =>
    intro sr f rest _ _ _ h
    rw [List.length_nil, Nat.add_zero] at h
    exact scan_none h f
  | cons s l ih =>
    intro sr f rest hl hsr hf h
    have hs := hl s (by simp)
    simp only [List.length_cons] at hsr hf h
    obtain ⟨f, rfl⟩ : ∃ g, f = g + 1 := ⟨f - 1, by omega⟩
    rw [lays, List.append_assoc, scanL, begin_lay s sr _ hs (by omega), recAt_lay s sr _ hs]
    simp only [if_true]
    rw [← lay_length s sr, List.drop_append_of_le_length (Nat.le_refl _), List.drop_of_length_le (Nat.le_refl _), List.nil_append]
    rw [ih (sr + 1) f rest (fun x hx => hl x (by simp [hx])) (by omega) (by omega) (by rw [show sr + 1 + l.length = sr + (l.length + 1) by omega]; exact h)]

end Go.Proofs.YtogonkoeginoaaaGreatDoor
