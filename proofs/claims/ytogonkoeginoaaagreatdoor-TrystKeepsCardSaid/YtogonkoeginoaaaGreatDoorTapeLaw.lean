/-
  The plain law of a tape of 20 cells from cell 3 of a drive of 24: what was appended is scanned, from where any record began.
-/
import Derived.Test.YtogonkoeginoaaaGreatDoorLogDrv
namespace Go.Proofs.YtogonkoeginoaaaGreatDoor

/-- The cells of records, one behind the other. -/
def recsOf : List (List UInt8) → Nat → List (List UInt8)
  | [], _ => []
  | s :: l, sr => recCells s sr ++ recsOf l (sr + 1)
theorem recsOf_flat (l : List (List UInt8)) : ∀ sr, (recsOf l sr).flatten = lays l sr := by
  induction l with
  | nil => intro sr; rfl
  | cons s l ih => intro sr; rw [recsOf, List.flatten_append, ih]; rfl
theorem recsOf_length (l : List (List UInt8)) : ∀ sr, (recsOf l sr).length = span l := by
  induction l with
  | nil => intro sr; rfl
  | cons s l ih => intro sr; rw [recsOf, List.length_append, recCells_length, ih, span_cons]
theorem recsOf_append (a : List (List UInt8)) : ∀ (b : List (List UInt8)) (sr : Nat), recsOf (a ++ b) sr = recsOf a sr ++ recsOf b (sr + a.length) := by
  induction a with
  | nil => intro b sr; simp [recsOf]
  | cons s a ih =>
    intro b sr
    rw [List.cons_append, recsOf, recsOf, ih, List.append_assoc, List.length_cons, show sr + 1 + a.length = sr + (a.length + 1) by omega]

/-- A cell with which no record of a serial from sr on begins. -/
def NoBeg (sr : Nat) (c : List UInt8) : Prop := c.getD 63 0 ≠ 1 ∨ val ((c.drop 60).take 3) < sr
theorem NoBeg.mono {sr sr' : Nat} {c : List UInt8} (h : NoBeg sr c) (hs : sr ≤ sr') : NoBeg sr' c := by
  rcases h with h | h
  · exact .inl h
  · exact .inr (by omega)
theorem noBeg_none {rest : List (List UInt8)} {sr : Nat} (h : ∀ c ∈ rest, NoBeg sr c) (hl : ∀ c ∈ rest, c.length = 64) (k : Nat) : beginOk rest.flatten (sr + k) = false := by
  cases rest with
  | nil =>
    cases hb : beginOk ([] : List (List UInt8)).flatten (sr + k) with
    | false => rfl
    | true => have := (begins_of hb).room; simp at this
  | cons c rest =>
    have hc := hl c (by simp)
    have e : (c :: rest).flatten.take 64 = c := by
      rw [List.flatten_cons, List.take_append_of_le_length (by omega), List.take_of_length_le (by omega)]
    rcases h c (by simp) with h | h
    · exact begin_no_kind (by rw [e]; exact h)
    · exact begin_no_mark (by rw [e]; omega)

/-- What a tape has: all, from the serial sr on. -/
structure OnTape (cs : List (List UInt8)) (m sr : Nat) (all : List (List UInt8)) : Prop where
  parts : ∃ pre rest post, pre.length = 3 ∧ post.length = 1 ∧ cs = pre ++ (recsOf all sr ++ rest) ++ post ∧ span all + rest.length = 20 ∧ ∀ c ∈ rest, NoBeg m c
  le : m ≤ sr
  cell : ∀ c ∈ cs, c.length = 64
  short : ∀ s ∈ all, s.length ≤ 4000

theorem OnTape.length {cs : List (List UInt8)} {m sr : Nat} {all : List (List UInt8)} (h : OnTape cs m sr all) : cs.length = 24 := by
  obtain ⟨⟨pre, rest, post, h1, h2, rfl, h4, _⟩, _, _, _⟩ := h
  simp only [List.length_append, recsOf_length]
  omega
theorem OnTape.fits {cs : List (List UInt8)} {m sr : Nat} {all : List (List UInt8)} (h : OnTape cs m sr all) : span all ≤ 20 := by
  obtain ⟨⟨pre, rest, post, h1, h2, rfl, h4, _⟩, _, _, _⟩ := h
  omega
theorem OnTape.may {cs : List (List UInt8)} {m sr : Nat} {all : List (List UInt8)} (h : OnTape cs m sr all) {f : Int} (hf : -1 ≤ f) : (⟨cs, [], f, false⟩ : Drv).May :=
  ⟨by simp only; rw [h.length]; omega, by simp only; rw [h.length]; omega, hf, h.cell, fun w hw => by cases hw⟩
theorem OnTape.tape {cs : List (List UInt8)} {m sr : Nat} {all : List (List UInt8)} (h : OnTape cs m sr all) {f : Int} (hf : -1 ≤ f) (i : Nat) (hi : i ≤ 20) (k : Nat) (hk : 1 ≤ k ∧ k ≤ 16777216) : tapeOk ⟨cs, [], f, false⟩ ⟨3, 20, (i : Nat), (k : Nat)⟩ = true := by
  unfold tapeOk
  rw [mayB_yes (h.may hf)]
  simp only [Bool.true_and, decide_eq_true_eq]
  rw [h.length]
  omega

theorem span_take_le (all : List (List UInt8)) (i : Nat) : span (all.take i) ≤ span all := by
  have := span_append (all.take i) (all.drop i)
  rw [List.take_append_drop] at this
  omega

/-- From where the i-th record began, the records from it on are scanned. -/
theorem OnTape.scan {cs : List (List UInt8)} {m sr : Nat} {all : List (List UInt8)} (h : OnTape cs m sr all) {f : Int} (hf : -1 ≤ f) (i : Nat) (hi : i ≤ all.length) (h1 : 1 ≤ sr) (h2 : sr + all.length ≤ 16777216) :
    Drv.scan ⟨cs, [], f, false⟩ ⟨3, 20, (span (all.take i) : Nat), (sr + i : Nat)⟩ = (all.drop i, ⟨3, 20, (span all : Nat), (sr + all.length : Nat)⟩, 0) := by
  have hsp := h.fits
  have hst := span_take_le all i
  have hlen := h.length
  have hok := h.tape hf (span (all.take i)) (by omega) (sr + i) (by omega)
  have hmay := mayB_yes (h.may hf)
  have hcell := h.cell
  obtain ⟨⟨pre, rest, post, e1, e2, e3, e4, hr⟩, hle, _, hs⟩ := h
  have hsa : span all = span (all.take i) + span (all.drop i) := by
    rw [← span_append, List.take_append_drop]
  have hrd : Drv.read ⟨cs, [], f, false⟩ (3 + (span (all.take i) : Nat)) (20 - (span (all.take i) : Nat)) = (lays (all.drop i) (sr + i) ++ rest.flatten, 0) := by
    unfold Drv.read Drv.there
    rw [if_neg (by rw [hmay]; simp), if_neg (by
      rw [show (decide (0 ≤ (3 : Int) + (span (all.take i) : Nat) ∧ 0 ≤ (20 : Int) - (span (all.take i) : Nat) ∧ (3 : Int) + (span (all.take i) : Nat) ≤ (cs.length : Nat) ∧ (20 : Int) - (span (all.take i) : Nat) ≤ (cs.length : Nat) - ((3 : Int) + (span (all.take i) : Nat)))) = true by
        rw [decide_eq_true_iff]; omega]
      simp), if_neg (by simp)]
    have ea : ((3 : Int) + (span (all.take i) : Nat)).toNat = 3 + span (all.take i) := by omega
    have eb : ((20 : Int) - (span (all.take i) : Nat)).toNat = 20 - span (all.take i) := by omega
    rw [ea, eb]
    have ec : (⟨cs, [], f, false⟩ : Drv).full = cs := rfl
    rw [ec, e3]
    have ed : recsOf all sr = recsOf (all.take i) sr ++ recsOf (all.drop i) (sr + i) := by
      conv => lhs; rw [← List.take_append_drop i all]
      rw [recsOf_append, List.length_take, Nat.min_eq_left hi]
    have l1 := recsOf_length (all.take i) sr
    have l2 := recsOf_length (all.drop i) (sr + i)
    rw [ed, List.append_assoc, List.append_assoc, List.append_assoc, ← List.append_assoc, List.drop_append_of_le_length (by rw [List.length_append]; omega), List.drop_of_length_le (by rw [List.length_append]; omega), List.nil_append, ← List.append_assoc, List.take_append_of_le_length (by rw [List.length_append]; omega), List.take_of_length_le (by rw [List.length_append]; omega), List.flatten_append, recsOf_flat]
  have hrl : ∀ c ∈ rest, c.length = 64 := fun c hc => hcell c (by rw [e3]; simp [hc])
  have hnb := noBeg_none (fun c hc => (hr c hc).mono hle) hrl all.length
  have hdl : (all.drop i).length = all.length - i := List.length_drop
  have hsc := scan_lays (all.drop i) (sr + i) (lays (all.drop i) (sr + i) ++ rest.flatten).length rest.flatten (fun s hx => hs s (List.mem_of_mem_drop hx)) (by omega) (by
    rw [List.length_append, lays_length]
    have : (all.drop i).length ≤ span (all.drop i) := by
      generalize all.drop i = l
      induction l with
      | nil => simp
      | cons s l ih => rw [span_cons, List.length_cons]; have := kOf_pos s.length; omega
    omega) (by rw [show sr + i + (all.drop i).length = sr + all.length by omega]; exact hnb)
  unfold Drv.scan
  rw [if_neg (by rw [hok]; simp)]
  simp only
  rw [hrd]
  simp only [ne_eq, not_true_eq_false, if_false, Int.toNat_natCast]
  rw [hsc]
  congr 2
  rw [hdl]
  congr 1 <;> omega

/-- A fresh drive's tape has nothing. -/
theorem OnTape.fresh (m sr : Nat) (hm : m ≤ sr) : OnTape (List.replicate 24 blank) m sr [] where
  le := hm
  parts := ⟨List.replicate 3 blank, List.replicate 20 blank, List.replicate 1 blank, by simp, by simp, by rw [recsOf, List.nil_append]; simp [], by simp [span], fun c hc => .inl (by rw [List.eq_of_mem_replicate hc]; decide)⟩
  cell := fun c hc => by rw [List.eq_of_mem_replicate hc]; rfl
  short := fun s hs => by cases hs

/-- A record goes behind what the tape has. -/
theorem OnTape.next {cs : List (List UInt8)} {m sr : Nat} {all : List (List UInt8)} (h : OnTape cs m sr all) (s : List UInt8) (hs : s.length ≤ 4000) (hr : span all + kOf s.length ≤ 20) : OnTape (over cs (3 + span all) (recCells s (sr + all.length))) m sr (all ++ [s]) := by
  have hlen := h.length
  have hcell := h.cell
  have hsh := h.short
  obtain ⟨⟨pre, rest, post, e1, e2, e3, e4, hn⟩, hle, _, _⟩ := h
  have hk := recCells_length s (sr + all.length)
  have l1 := recsOf_length all sr
  have he : over cs (3 + span all) (recCells s (sr + all.length)) = pre ++ (recsOf (all ++ [s]) sr ++ rest.drop (kOf s.length)) ++ post := by
    unfold over
    rw [hk, recsOf_append, recsOf, recsOf, List.append_nil]
    have a1 : cs = (pre ++ recsOf all sr) ++ (rest ++ post) := by rw [e3]; simp only [List.append_assoc]
    have a2 : (pre ++ recsOf all sr).length = 3 + span all := by rw [List.length_append]; omega
    have a3 : cs.take (3 + span all) = pre ++ recsOf all sr := by
      rw [a1, ← a2, List.take_append_of_le_length (Nat.le_refl _), List.take_length]
    have a4 : cs.drop (3 + span all + kOf s.length) = rest.drop (kOf s.length) ++ post := by
      rw [← List.drop_drop, a1, ← a2, List.drop_append_of_le_length (Nat.le_refl _), List.drop_length, List.nil_append, List.drop_append_of_le_length (by omega)]
    rw [a3, a4]
    simp only [List.append_assoc]
  refine ⟨⟨pre, rest.drop (kOf s.length), post, e1, e2, he, ?_, fun c hc => hn c (List.mem_of_mem_drop hc)⟩, hle, ?_, ?_⟩
  · rw [span_append, span_cons, List.length_drop]
    have : span [] = 0 := rfl
    omega
  · intro c hc
    unfold over at hc
    simp only [List.mem_append] at hc
    rcases hc with (hc | hc) | hc
    · exact hcell c (List.mem_of_mem_take hc)
    · exact recCells_all s _ c hc
    · exact hcell c (List.mem_of_mem_drop hc)
  · intro x hx
    simp only [List.mem_append, List.mem_singleton] at hx
    rcases hx with hx | rfl
    · exact hsh x hx
    · exact hs

theorem OnTape.append {cs : List (List UInt8)} {m sr : Nat} {all : List (List UInt8)} (h : OnTape cs m sr all) (s : List UInt8) (hs : s.length ≤ 4000) (hr : span all + kOf s.length ≤ 20) (h1 : 1 ≤ sr) (h2 : sr + all.length ≤ 16777215) :
    ∃ cs', Drv.append ⟨cs, [], -1, false⟩ ⟨3, 20, (span all : Nat), (sr + all.length : Nat)⟩ s = (⟨cs', [], -1, false⟩, ⟨3, 20, (span (all ++ [s]) : Nat), (sr + (all ++ [s]).length : Nat)⟩, 0) ∧ OnTape cs' m sr (all ++ [s]) := by
  have hok := h.tape (f := -1) (by omega) (span all) h.fits (sr + all.length) (by omega)
  obtain ⟨f', e, _, hf⟩ := append_ok (h.may (f := -1) (by omega)) 3 20 (span all) (sr + all.length) s hok hs hr h2 (.inl rfl)
  obtain rfl := hf rfl
  refine ⟨_, ?_, h.next s hs hr⟩
  have a1 : span (all ++ [s]) = span all + kOf s.length := by
    rw [span_append, span_cons]
    rfl
  have a2 : (all ++ [s]).length = all.length + 1 := by simp
  rw [a1, a2]
  exact e
theorem OnTape.full {cs : List (List UInt8)} {m sr : Nat} {all : List (List UInt8)} (h : OnTape cs m sr all) {f : Int} (hf : -1 ≤ f) (s : List UInt8) (hs : s.length ≤ 4000) (hr : ¬ span all + kOf s.length ≤ 20) (h1 : 1 ≤ sr) (h2 : sr + all.length ≤ 16777215) :
    Drv.append ⟨cs, [], f, false⟩ ⟨3, 20, (span all : Nat), (sr + all.length : Nat)⟩ s = (Drv.zero, Tp.zero, 6) := by
  have hok := h.tape hf (span all) h.fits (sr + all.length) (by omega)
  unfold Drv.append
  rw [if_neg (by rintro (h | h); · rw [hok] at h; cases h
                 · omega), if_pos (by left; simp only; omega)]

/-- The cells of records have marks less than the serial behind them. -/
theorem recsOf_noBeg (l : List (List UInt8)) : ∀ (sr : Nat), 1 ≤ sr → sr + l.length ≤ 16777216 → ∀ c ∈ recsOf l sr, NoBeg (sr + l.length) c := by
  induction l with
  | nil => intro sr _ _ c hc; cases hc
  | cons s l ih =>
    intro sr h1 h2 c hc
    rw [recsOf, List.mem_append] at hc
    rw [List.length_cons] at h2 ⊢
    rcases hc with hc | hc
    · right
      unfold recCells at hc
      obtain ⟨i, _, rfl⟩ := List.mem_map.1 hc
      rw [cellAt_mark, val_octs, Nat.mod_eq_of_lt (by omega)]
      omega
    · have := ih (sr + 1) (by omega) (by omega) c hc
      rw [show sr + 1 + l.length = sr + (l.length + 1) by omega] at this
      exact this
/-- Begun anew, by a serial behind all that it had, a tape has nothing. -/
theorem OnTape.again {cs : List (List UInt8)} {m sr : Nat} {all : List (List UInt8)} (h : OnTape cs m sr all) (h1 : 1 ≤ sr) (h2 : sr + all.length ≤ 16777216) : OnTape cs (sr + all.length) (sr + all.length) [] := by
  obtain ⟨⟨pre, rest, post, e1, e2, e3, e4, hn⟩, hle, hc, hs⟩ := h
  refine ⟨⟨pre, recsOf all sr ++ rest, post, e1, e2, by rw [e3, recsOf, List.nil_append], by rw [List.length_append, recsOf_length]; simp [span]; unfold span at e4; omega, ?_⟩, Nat.le_refl _, hc, fun s hs => by cases hs⟩
  intro c hc
  rw [List.mem_append] at hc
  rcases hc with hc | hc
  · exact recsOf_noBeg all sr h1 h2 c hc
  · exact (hn c hc).mono (by omega)

end Go.Proofs.YtogonkoeginoaaaGreatDoor
