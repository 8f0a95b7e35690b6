/-
  Appending to a log on a drive, in plain Lean. No program in sight.
-/
import Derived.Test.YtogonkoeginoaaaGreatDoorLogLaw
namespace Go.Proofs.YtogonkoeginoaaaGreatDoor

theorem mayB_yes {d : Drv} (h : d.May) : d.mayB = true := d.mayB_iff.2 h

/-- A tape. -/
structure Tp where
  from_ : Int
  len : Int
  pos : Int
  serial : Int
def Tp.zero : Tp := ⟨0, 0, 0, 0⟩
def Tp.In (t : Tp) : Prop := (-9223372036854775808 ≤ t.from_ ∧ t.from_ < 9223372036854775808) ∧ (-9223372036854775808 ≤ t.len ∧ t.len < 9223372036854775808) ∧ (-9223372036854775808 ≤ t.pos ∧ t.pos < 9223372036854775808) ∧ (-9223372036854775808 ≤ t.serial ∧ t.serial < 9223372036854775808)

/-- May a tape be on a drive? -/
def tapeOk (d : Drv) (t : Tp) : Bool := d.mayB && decide (0 ≤ t.from_ ∧ t.from_ ≤ d.cells.length ∧ 1 ≤ t.len ∧ t.len ≤ d.cells.length - t.from_ ∧ 0 ≤ t.pos ∧ t.pos ≤ t.len ∧ 1 ≤ t.serial ∧ t.serial ≤ 16777216)

/-- A write, and a flush behind it. -/
def Drv.put (d : Drv) (p : Int) (s : List UInt8) : Drv × Int :=
  if (d.write p s).2 = 0 then (d.write p s).1.flush else d.write p s

/-- Append. -/
def Drv.append (d : Drv) (t : Tp) (s : List UInt8) : Drv × Tp × Int :=
  if tapeOk d t = false ∨ 4000 < s.length then (Drv.zero, Tp.zero, 1) else
  if t.len - t.pos < kOf s.length ∨ 16777215 < t.serial then (Drv.zero, Tp.zero, 6) else
  let octets := lay s t.serial.toNat
  let a := t.from_ + t.pos
  let r := if 1 < kOf s.length then d.put (a + 1) (octets.drop 64) else (d, 0)
  let r2 := if r.2 = 0 then r.1.put a (octets.take 64) else r
  if r2.2 = 0 then (r2.1, ⟨t.from_, t.len, t.pos + kOf s.length, t.serial + 1⟩, 0) else (r2.1, Tp.zero, r2.2)

/-- Scan. -/
def Drv.scan (d : Drv) (t : Tp) : List (List UInt8) × Tp × Int :=
  if tapeOk d t = false then ([], Tp.zero, 1) else
  if (d.read (t.from_ + t.pos) (t.len - t.pos)).2 ≠ 0 then ([], Tp.zero, (d.read (t.from_ + t.pos) (t.len - t.pos)).2) else
  let o := (d.read (t.from_ + t.pos) (t.len - t.pos)).1
  let l := scanL o.length o t.serial.toNat
  (l, ⟨t.from_, t.len, t.pos + span l, t.serial + l.length⟩, 0)

/-- Writes that wait, from a cell on. -/
def waits (p : Int) : List (List UInt8) → List Wt
  | [] => []
  | c :: l => ⟨p, c⟩ :: waits (p + 1) l
theorem waits_length (l : List (List UInt8)) : ∀ p, (waits p l).length = l.length := by
  induction l with
  | nil => intro p; rfl
  | cons c l ih => intro p; simp [waits, ih]
theorem waits_mem (l : List (List UInt8)) : ∀ (p : Int) (w : Wt), w ∈ waits p l → ∃ i, i < l.length ∧ w.pos = p + i ∧ w.s = l.getD i [] := by
  induction l with
  | nil => intro p w h; cases h
  | cons c l ih =>
    intro p w h
    rcases List.mem_cons.1 h with rfl | h
    · exact ⟨0, by simp, by simp, rfl⟩
    · obtain ⟨i, h1, h2, h3⟩ := ih (p + 1) w h
      exact ⟨i + 1, by simp; omega, by rw [h2]; push_cast; omega, by simpa using h3⟩

/-- Cells laid over others. -/
def over (cs : List (List UInt8)) (p : Nat) (l : List (List UInt8)) : List (List UInt8) := cs.take p ++ l ++ cs.drop (p + l.length)
theorem over_nil (cs : List (List UInt8)) (p : Nat) : over cs p [] = cs := by simp [over]
theorem over_length (cs : List (List UInt8)) (p : Nat) (l : List (List UInt8)) (h : p + l.length ≤ cs.length) : (over cs p l).length = cs.length := by
  simp [over]; omega
theorem over_cons (cs : List (List UInt8)) (p : Nat) (c : List UInt8) (l : List (List UInt8)) (h : p + l.length + 1 ≤ cs.length) : over (cs.set p c) (p + 1) l = over cs p (c :: l) := by
  unfold over
  have e1 : (cs.set p c).take (p + 1) = cs.take p ++ [c] := by
    rw [List.take_set, List.take_succ_eq_append_getElem (by omega), List.set_append_right _ _ (by simp; omega)]
    simp [Nat.min_eq_left (show p ≤ cs.length by omega)]
  have e2 : (cs.set p c).drop (p + 1 + l.length) = cs.drop (p + (c :: l).length) := by
    rw [List.drop_set_of_lt (by omega), List.length_cons]
    congr 1
    omega
  rw [e1, e2]
  simp
theorem puts_waits (l : List (List UInt8)) : ∀ (cs : List (List UInt8)) (p : Nat), p + l.length ≤ cs.length → puts cs (waits (p : Int) l) = over cs p l := by
  induction l with
  | nil => intro cs p _; rw [over_nil]; rfl
  | cons c l ih =>
    intro cs p h
    simp only [List.length_cons] at h
    have e : puts cs (waits (p : Int) (c :: l)) = puts (cs.set p c) (waits ((p : Int) + 1) l) := rfl
    have e2 : ((p : Int) + 1) = ((p + 1 : Nat) : Int) := by push_cast; rfl
    rw [e, e2, ih (cs.set p c) (p + 1) (by rw [List.length_set]; omega), over_cons cs p c l (by omega)]

theorem chunks_flat : ∀ (L : List (List UInt8)), (∀ c ∈ L, c.length = 64) → chunks L.length L.flatten = L := by
  intro L
  induction L with
  | nil => intro _; rfl
  | cons c L ih =>
    intro h
    have hc : c.length = 64 := h c (by simp)
    rw [List.length_cons, chunks, List.flatten_cons, List.take_append_of_le_length (by omega), List.take_of_length_le (by omega), List.drop_append_of_le_length (by omega), List.drop_of_length_le (by omega), List.nil_append, ih (fun x hx => h x (by simp [hx]))]

/-- A drive's fuel lets n more be done. -/
def Fueled (f : Int) (n : Nat) : Prop := f = -1 ∨ (n : Int) ≤ f
/-- What is left of it. -/
def less (f : Int) (n : Nat) : Int := if f = -1 then -1 else f - n

theorem burn_ok {cs : List (List UInt8)} {q : List Wt} {f : Int} (h : Fueled f 1) : (⟨cs, q, f, false⟩ : Drv).burnOk = true ∧ (⟨cs, q, f, false⟩ : Drv).burn = ⟨cs, q, less f 1, false⟩ := by
  have h0 : f ≠ 0 := by rcases h with h | h <;> omega
  have e : (⟨cs, q, f, false⟩ : Drv).burnOk = true := by simp [Drv.burnOk, h0]
  refine ⟨e, ?_⟩
  unfold Drv.burn
  rw [e]
  simp only [if_true]
  unfold less
  rcases h with h | h
  · subst h; rfl
  · rw [if_pos (by omega), if_neg (by omega)]; rfl
theorem less_fueled {f : Int} {n m : Nat} (h : Fueled f (n + m)) : Fueled (less f n) m := by
  unfold Fueled less at *
  split
  · exact .inl rfl
  · right; omega
theorem less_less {f : Int} {n m : Nat} (h : Fueled f (n + m)) : less (less f n) m = less f (n + m) := by
  unfold Fueled less at *
  by_cases h1 : f = -1
  · simp [h1]
  · rw [if_neg h1, if_neg h1, if_neg (by omega)]; push_cast; omega
theorem less_zero (f : Int) : less f 0 = f := by unfold less; split <;> omega

/-- Writes that there is fuel for. -/
theorem wrs_ok (l : List (List UInt8)) : ∀ (p : Int) (cs : List (List UInt8)) (q : List Wt) (f : Int), Fueled f l.length → wrs l p ⟨cs, q, f, false⟩ = (⟨cs, q ++ waits p l, less f l.length, false⟩, 0) := by
  induction l with
  | nil => intro p cs q f _; simp [wrs, waits, less_zero]
  | cons c l ih =>
    intro p cs q f h
    have h1 : Fueled f (1 + l.length) := by rw [Nat.add_comm]; exact h
    obtain ⟨e1, e2⟩ := burn_ok (cs := cs) (q := q) (f := f) (by unfold Fueled at *; omega)
    rw [wrs, e1, e2]
    simp only [if_true]
    rw [ih (p + 1) cs (q ++ [(⟨p, c⟩ : Wt)]) (less f 1) (less_fueled h1), less_less h1]
    simp [waits, Nat.add_comm]

theorem write_flat {cs : List (List UInt8)} {q : List Wt} {f : Int} (hm : (⟨cs, q, f, false⟩ : Drv).May) (p : Nat) (L : List (List UInt8)) (hL : ∀ c ∈ L, c.length = 64) (h1 : 1 ≤ L.length) (hp : p + L.length ≤ cs.length) : Drv.write ⟨cs, q, f, false⟩ (p : Int) L.flatten = wrs L (p : Int) ⟨cs, q, f, false⟩ := by
  have hl := flatten_64 L hL
  unfold Drv.write
  rw [if_neg (by
    rintro (h | h | h)
    · rw [mayB_yes hm] at h; cases h
    · rw [h] at hl; simp at hl; omega
    · omega)]
  have e : L.flatten.length / 64 = L.length := by omega
  rw [e, if_neg (by
    unfold Drv.there
    simp only [decide_eq_false_iff_not, Classical.not_not]
    omega), chunks_flat L hL]

theorem may_queue {cs : List (List UInt8)} {q : List Wt} {f : Int} {o : Bool} (hm : (⟨cs, q, f, o⟩ : Drv).May) {q' : List Wt} {f' : Int} {o' : Bool} (hf : -1 ≤ f') (hq : ∀ w ∈ q', 0 ≤ w.pos ∧ w.pos < cs.length ∧ w.s.length = 64) : (⟨cs, q', f', o'⟩ : Drv).May :=
  ⟨hm.some, hm.most, hf, hm.cell, hq⟩
theorem waits_ok {cs : List (List UInt8)} {p : Nat} {L : List (List UInt8)} (hL : ∀ c ∈ L, c.length = 64) (hp : p + L.length ≤ cs.length) : ∀ w ∈ waits (p : Int) L, 0 ≤ w.pos ∧ w.pos < cs.length ∧ w.s.length = 64 := by
  intro w hw
  obtain ⟨i, h1, h2, h3⟩ := waits_mem L p w hw
  refine ⟨by omega, by omega, ?_⟩
  rw [h3, List.getD_eq_getElem?_getD, List.getElem?_eq_getElem h1]
  exact hL _ (List.getElem_mem h1)
theorem less_ge {f : Int} {n : Nat} (h : Fueled f n) : -1 ≤ less f n := by unfold Fueled less at *; split <;> omega

/-- A write and a flush of a drive where nothing waits, with fuel for them. -/
theorem put_ok {cs : List (List UInt8)} {f : Int} (hm : (⟨cs, [], f, false⟩ : Drv).May) (p : Nat) (L : List (List UInt8)) (hL : ∀ c ∈ L, c.length = 64) (h1 : 1 ≤ L.length) (hp : p + L.length ≤ cs.length) (hf : Fueled f (L.length + 1)) :
    Drv.put ⟨cs, [], f, false⟩ (p : Int) L.flatten = (⟨over cs p L, [], less f (L.length + 1), false⟩, 0) ∧ (⟨over cs p L, [], less f (L.length + 1), false⟩ : Drv).May := by
  have hf1 : Fueled f L.length := by unfold Fueled at *; omega
  have hw := write_flat hm p L hL h1 hp
  rw [wrs_ok L p cs [] f hf1, List.nil_append] at hw
  have hmw : (⟨cs, waits (p : Int) L, less f L.length, false⟩ : Drv).May := may_queue hm (less_ge hf1) (waits_ok hL hp)
  obtain ⟨e1, e2⟩ := burn_ok (cs := cs) (q := waits (p : Int) L) (f := less f L.length) (less_fueled hf)
  have hfl : Drv.flush ⟨cs, waits (p : Int) L, less f L.length, false⟩ = (⟨over cs p L, [], less f (L.length + 1), false⟩, 0) := by
    unfold Drv.flush
    rw [mayB_yes hmw, e1, if_neg (by decide)]
    simp only [if_true]
    rw [e2, less_less hf]
    unfold Drv.full
    simp only [puts_waits L cs p hp]
  refine ⟨?_, ?_⟩
  · unfold Drv.put
    rw [hw]
    simp only [if_true]
    exact hfl
  · refine ⟨?_, ?_, less_ge hf, ?_, by intro w hw; cases hw⟩
    · simp only [over_length cs p L hp]; exact hm.some
    · simp only [over_length cs p L hp]; exact hm.most
    · intro c hc
      unfold over at hc
      simp only [List.mem_append] at hc
      rcases hc with (hc | hc) | hc
      · exact hm.cell c (List.mem_of_mem_take hc)
      · exact hL c hc
      · exact hm.cell c (List.mem_of_mem_drop hc)

theorem over_over (cs : List (List UInt8)) (p : Nat) (c : List UInt8) (l : List (List UInt8)) (h : p + l.length + 1 ≤ cs.length) : over (over cs (p + 1) l) p [c] = over cs p (c :: l) := by
  unfold over
  have h1 : (cs.take (p + 1) ++ l ++ cs.drop (p + 1 + l.length)).take p = cs.take p := by
    rw [List.append_assoc, List.take_append_of_le_length (by rw [List.length_take]; omega), List.take_take]
    congr 1
    omega
  have h2 : (cs.take (p + 1) ++ l ++ cs.drop (p + 1 + l.length)).drop (p + [c].length) = l ++ cs.drop (p + 1 + l.length) := by
    rw [List.append_assoc, List.drop_append_of_le_length (by rw [List.length_take]; simp; omega), List.drop_of_length_le (by rw [List.length_take]; simp; omega), List.nil_append]
  rw [h1, h2]
  simp only [List.append_assoc, List.length_cons, List.cons_append, List.nil_append]
  congr 4
  omega

/-- Appending, where there are power, fuel and room. -/
theorem append_ok {cs : List (List UInt8)} {f : Int} (hm : (⟨cs, [], f, false⟩ : Drv).May) (fr len pos sr : Nat) (s : List UInt8) (ht : tapeOk ⟨cs, [], f, false⟩ ⟨fr, len, pos, sr⟩ = true) (hs : s.length ≤ 4000) (hr : pos + kOf s.length ≤ len) (hsr : sr ≤ 16777215) (hf : Fueled f (kOf s.length + 2)) :
    ∃ f', Drv.append ⟨cs, [], f, false⟩ ⟨fr, len, pos, sr⟩ s = (⟨over cs (fr + pos) (recCells s sr), [], f', false⟩, ⟨fr, len, (pos + kOf s.length : Nat), (sr + 1 : Nat)⟩, 0) ∧ (⟨over cs (fr + pos) (recCells s sr), [], f', false⟩ : Drv).May ∧ (f = -1 → f' = -1) := by
  have ht2 := ht
  unfold tapeOk at ht2
  rw [Bool.and_eq_true, decide_eq_true_iff] at ht2
  obtain ⟨_, h1, h2, h3, h4, h5, h6, h7, h8⟩ := ht2
  simp only at h1 h2 h3 h4 h5 h6 h7 h8
  have hkl := recCells_length s sr
  obtain ⟨c, l, hcl⟩ : ∃ c l, recCells s sr = c :: l := by
    cases h : recCells s sr with
    | nil => rw [h] at hkl; simp at hkl; have := kOf_pos s.length; omega
    | cons c l => exact ⟨c, l, rfl⟩
  have hall := recCells_all s sr
  rw [hcl] at hkl hall
  simp only [List.length_cons] at hkl
  have hc64 : c.length = 64 := hall c (by simp)
  have hl64 : ∀ x ∈ l, x.length = 64 := fun x hx => hall x (by simp [hx])
  have hd : (lay s sr).drop 64 = l.flatten := by
    rw [lay, hcl, List.flatten_cons, List.drop_append_of_le_length (by omega), List.drop_of_length_le (by omega), List.nil_append]
  have htk : (lay s sr).take 64 = [c].flatten := by
    rw [lay, hcl, List.flatten_cons, List.take_append_of_le_length (by omega), List.take_of_length_le (by omega)]
    simp
  unfold Drv.append
  rw [if_neg (by rintro (h | h); · rw [ht] at h; cases h
                 · omega), if_neg (by simp only; omega)]
  simp only [Int.toNat_natCast]
  rw [hd, htk]
  have ea : ((fr : Int) + (pos : Int)) = ((fr + pos : Nat) : Int) := by push_cast; rfl
  have ea1 : ((fr : Int) + (pos : Int) + 1) = ((fr + pos + 1 : Nat) : Int) := by push_cast; rfl
  rw [ea1, ea, hcl]
  by_cases hk : 1 < kOf s.length
  · obtain ⟨e1, e2⟩ := put_ok hm (fr + pos + 1) l hl64 (by omega) (by omega) (by unfold Fueled at *; omega)
    have hf2 : Fueled (less f (l.length + 1)) 2 := less_fueled (by unfold Fueled at *; omega)
    obtain ⟨e3, e4⟩ := put_ok e2 (fr + pos) [c] (by simpa using hc64) (by simp) (by rw [over_length cs _ _ (by omega)]; simp; omega) hf2
    rw [over_over cs (fr + pos) c l (by omega)] at e3 e4
    refine ⟨_, ?_, e4, ?_⟩
    · rw [if_pos hk, e1]
      simp only [if_true]
      rw [e3]
      simp only [if_true]
      push_cast
      rfl
    · rintro rfl
      simp [less]
  · have hl0 : l = [] := List.eq_nil_of_length_eq_zero (by omega)
    subst hl0
    obtain ⟨e3, e4⟩ := put_ok hm (fr + pos) [c] (by simpa using hc64) (by simp) (by simp; omega) (by unfold Fueled at *; simp; omega)
    refine ⟨_, ?_, e4, ?_⟩
    · rw [if_neg hk]
      simp only [if_true]
      rw [e3]
      simp only [if_true]
      push_cast
      rfl
    · rintro rfl
      simp [less]

end Go.Proofs.YtogonkoeginoaaaGreatDoor
