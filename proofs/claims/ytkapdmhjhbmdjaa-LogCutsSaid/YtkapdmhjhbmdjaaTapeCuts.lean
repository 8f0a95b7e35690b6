/-
  The plain law of a power cut while a record is appended: behind the crash the tape has what it had, or that and the record.
-/
import Derived.Test.YtkapdmhjhbmdjaaTapeLaw
import Derived.Test.YtkapdmhjhbmdjaaHoldsLaw
namespace Go.Proofs.Ytkapdmhjhbmdjaa

theorem wrs_fail (l : List (List UInt8)) : ∀ (p : Int) (cs : List (List UInt8)) (q : List Wt) (f : Int), 0 ≤ f → f < l.length → wrs l p ⟨cs, q, f, false⟩ = (⟨cs, q ++ waits p (l.take f.toNat), 0, true⟩, 10) := by
  induction l with
  | nil => intro p cs q f h1 h2; simp at h2; omega
  | cons c l ih =>
    intro p cs q f h1 h2
    by_cases h0 : f = 0
    · subst h0
      simp [wrs, Drv.burnOk, Drv.burn, waits]
    · have hf1 : Fueled f 1 := .inr (by omega)
      obtain ⟨e1, e2⟩ := burn_ok (cs := cs) (q := q) hf1
      rw [wrs, e1, e2]
      simp only [if_true]
      have hl : less f 1 = f - 1 := by unfold less; rw [if_neg (by omega)]; omega
      rw [hl, ih (p + 1) cs (q ++ [(⟨p, c⟩ : Wt)]) (f - 1) (by omega) (by simp at h2; omega)]
      obtain ⟨n, rfl⟩ : ∃ n : Nat, f = ((n + 1 : Nat) : Int) := ⟨f.toNat - 1, by omega⟩
      have e3 : (((n + 1 : Nat) : Int) - 1).toNat = n := by omega
      rw [e3, Int.toNat_natCast, List.take_succ_cons, waits, List.append_assoc]
      rfl

/-- A write and a flush with too little fuel. -/
theorem put_fail {cs : List (List UInt8)} {f : Int} (hm : (⟨cs, [], f, false⟩ : Drv).May) (p : Nat) (L : List (List UInt8)) (hL : ∀ c ∈ L, c.length = 64) (h1 : 1 ≤ L.length) (hp : p + L.length ≤ cs.length) (hf : ¬ Fueled f (L.length + 1)) :
    Drv.put ⟨cs, [], f, false⟩ (p : Int) L.flatten = (⟨cs, waits (p : Int) (L.take f.toNat), 0, true⟩, 10) := by
  have hfm := hm.fuel
  simp only at hfm
  have hf0 : 0 ≤ f := by
    unfold Fueled at hf
    omega
  have hfl : f ≤ L.length := by unfold Fueled at hf; omega
  have hw := write_flat hm p L hL h1 hp
  by_cases h2 : f < L.length
  · rw [wrs_fail L p cs [] f hf0 h2, List.nil_append] at hw
    unfold Drv.put
    rw [hw]
    simp
  · have hfe : f = L.length := by omega
    have hf1 : Fueled f L.length := .inr (by omega)
    rw [wrs_ok L p cs [] f hf1, List.nil_append] at hw
    have hmw : (⟨cs, waits (p : Int) L, less f L.length, false⟩ : Drv).May := may_queue hm (less_ge hf1) (waits_ok hL hp)
    have hle : less f L.length = 0 := by unfold less; rw [if_neg (by omega)]; omega
    rw [hle] at hw hmw
    unfold Drv.put
    rw [hw]
    simp only [if_true]
    unfold Drv.flush
    rw [mayB_yes hmw, if_neg (by decide)]
    have hb : (⟨cs, waits (p : Int) L, 0, false⟩ : Drv).burnOk = false := by simp [Drv.burnOk]
    rw [hb]
    have ht : L.take f.toNat = L := List.take_of_length_le (by omega)
    rw [ht]
    simp [Drv.burn, Drv.burnOk]

theorem ext_oct {a b : List UInt8} (h1 : a.length = b.length) (h2 : ∀ k, a.getD k 0 = b.getD k 0) : a = b := by
  apply List.ext_getElem h1
  intro i h3 h4
  have := h2 i
  rw [List.getD_eq_getElem?_getD, List.getD_eq_getElem?_getD, List.getElem?_eq_getElem h3, List.getElem?_eq_getElem h4] at this
  simpa using this

/-- What a crash makes of cells where writes wait from cell p on. -/
theorem crash_waits {cs : List (List UInt8)} (hc : ∀ c ∈ cs, c.length = 64) (p : Nat) (L : List (List UInt8)) (hL : ∀ c ∈ L, c.length = 64) (hp : p + L.length ≤ cs.length) (kept : Nat) (tn cut : Int) (a : Nat) (ha : a < cs.length) :
    (a < p → (crashes kept tn cut 0 (waits (p : Int) L) cs).getD a [] = cs.getD a []) ∧
    (((crashes kept tn cut 0 (waits (p : Int) L) cs).getD a []).getD 63 0 = (cs.getD a []).getD 63 0 ∨ ∃ c ∈ L, ((crashes kept tn cut 0 (waits (p : Int) L) cs).getD a []).getD 63 0 = c.getD 63 0) := by
  have hw := waits_ok hL hp
  obtain ⟨hlen, hall⟩ := crashes_all kept tn cut (waits (p : Int) L) 0 cs hc hw
  have hm : ∀ j, j < (waits (p : Int) L).length → (waits (p : Int) L).getD j ⟨0, []⟩ ∈ waits (p : Int) L := by
    intro j hj
    rw [List.getD_eq_getElem?_getD, List.getElem?_eq_getElem hj]
    exact List.getElem_mem hj
  refine ⟨fun h => ?_, ?_⟩
  · apply ext_oct
    · rw [getD_all hall (by omega), getD_all hc ha]
    · intro k
      rcases crashes_oct kept tn cut a k (waits (p : Int) L) 0 cs hc hw ha with e | ⟨j, hj, e, _⟩
      · exact e
      · obtain ⟨i, hi, e2, _⟩ := waits_mem L (p : Int) _ (hm j hj)
        omega
  · rcases crashes_oct kept tn cut a 63 (waits (p : Int) L) 0 cs hc hw ha with e | ⟨j, hj, _, e⟩
    · exact .inl e
    · obtain ⟨i, hi, _, e2⟩ := waits_mem L (p : Int) _ (hm j hj)
      right
      rw [e2] at e
      refine ⟨L.getD i [], ?_, e.symm⟩
      rw [List.getD_eq_getElem?_getD, List.getElem?_eq_getElem hi]
      exact List.getElem_mem hi

theorem getD_cell (cs : List (List UInt8)) (a : Nat) (h : a < cs.length) : cs.getD a [] = cs[a] := by
  rw [List.getD_eq_getElem?_getD, List.getElem?_eq_getElem h]
  rfl
theorem noBeg0 {c : List UInt8} : NoBeg 0 c ↔ c.getD 63 0 ≠ 1 := by
  unfold NoBeg
  constructor
  · rintro (h | h)
    · exact h
    · omega
  · exact .inl

theorem eq_parts (cs : List (List UInt8)) (n k : Nat) : cs = cs.take n ++ (cs.drop n).take k ++ cs.drop (n + k) := by
  rw [← List.drop_drop, List.append_assoc, List.take_append_drop, List.take_append_drop]

theorem OnTape.kinds {cs : List (List UInt8)} {sr : Nat} {all : List (List UInt8)} (h : OnTape cs 0 sr all) (a : Nat) (h1 : 3 + span all ≤ a) (h2 : a < 23) : (cs.getD a []).getD 63 0 ≠ 1 := by
  obtain ⟨⟨pre, rest, post, e1, e2, e3, e4, hn⟩, _, _, _⟩ := h
  have l1 := recsOf_length all sr
  have e : cs.getD a [] = rest.getD (a - (3 + span all)) [] := by
    rw [e3, ← List.append_assoc, List.append_assoc]
    simp only [List.getD_eq_getElem?_getD]
    rw [List.getElem?_append_right (by rw [List.length_append]; omega), List.getElem?_append_left (by rw [List.length_append]; omega), List.length_append, e1, l1]
  rw [e, getD_cell rest _ (by omega)]
  exact noBeg0.1 (hn _ (List.getElem_mem _))

/-- Cells behind the records with which none begins do not matter. -/
theorem OnTape.junk {cs cs' : List (List UInt8)} {sr : Nat} {all : List (List UInt8)} (h : OnTape cs 0 sr all) (hl : cs'.length = cs.length) (hc : ∀ c ∈ cs', c.length = 64) (hs : ∀ a, a < 3 + span all → cs'.getD a [] = cs.getD a []) (hk : ∀ a, 3 + span all ≤ a → a < 23 → (cs'.getD a []).getD 63 0 ≠ 1) : OnTape cs' 0 sr all := by
  have hlen := h.length
  have hsp := h.fits
  have hsh := h.short
  obtain ⟨⟨pre, rest, post, e1, e2, e3, e4, hn⟩, _, _, _⟩ := h
  have l1 := recsOf_length all sr
  have ht : cs'.take (3 + span all) = pre ++ recsOf all sr := by
    have ht2 : cs.take (3 + span all) = pre ++ recsOf all sr := by
      have a1 : cs = (pre ++ recsOf all sr) ++ (rest ++ post) := by rw [e3]; simp only [List.append_assoc]
      have a2 : (pre ++ recsOf all sr).length = 3 + span all := by rw [List.length_append]; omega
      rw [a1, ← a2, List.take_append_of_le_length (Nat.le_refl _), List.take_length]
    rw [← ht2]
    apply List.ext_getElem
    · rw [List.length_take, List.length_take, hl]
    · intro i h3 h4
      rw [List.length_take] at h3 h4
      have := hs i (by omega)
      rw [List.getD_eq_getElem?_getD, List.getD_eq_getElem?_getD, List.getElem?_eq_getElem (by omega), List.getElem?_eq_getElem (by omega)] at this
      rw [List.getElem_take, List.getElem_take]
      simpa using this
  refine ⟨⟨pre, (cs'.drop (3 + span all)).take (20 - span all), cs'.drop 23, e1, by rw [List.length_drop]; omega, ?_, by rw [List.length_take, List.length_drop]; omega, ?_⟩, Nat.zero_le _, hc, hsh⟩
  · have := eq_parts cs' (3 + span all) (20 - span all)
    rw [ht, show 3 + span all + (20 - span all) = 23 by omega] at this
    rw [← List.append_assoc pre]
    exact this
  · intro c hc2
    obtain ⟨i, hi, rfl⟩ := List.getElem_of_mem hc2
    rw [List.length_take, List.length_drop] at hi
    have := hk (3 + span all + i) (by omega) (by omega)
    rw [List.getElem_take, List.getElem_drop]
    rw [getD_cell cs' _ (by omega)] at this
    exact noBeg0.2 this

theorem over_one (cs : List (List UInt8)) (p : Nat) (c : List UInt8) (h : p < cs.length) : over cs p [c] = cs.set p c := by
  unfold over
  rw [List.set_eq_take_append_cons_drop, if_pos h]
  simp
theorem torn_whole {cut : Int} {old young : List UInt8} (ho : old.length = 64) (hy : young.length = 64) (h : (min (max cut 0) 64).toNat = 64) : torn cut old young = young := by
  unfold torn
  rw [h, List.take_of_length_le (by omega), List.drop_of_length_le (by omega), List.append_nil]
theorem torn_part {cut : Int} {old young : List UInt8} (hy : young.length = 64) (h : (min (max cut 0) 64).toNat < 64) : (torn cut old young).getD 63 0 = old.getD 63 0 := by
  unfold torn
  obtain ⟨m, hm⟩ : ∃ m, (min (max cut 0) 64).toNat = m := ⟨_, rfl⟩
  rw [hm] at h ⊢
  rw [List.getD_eq_getElem?_getD, List.getElem?_append_right (by simp only [List.length_take]; omega), List.getElem?_drop, ← List.getD_eq_getElem?_getD]
  congr 1
  simp only [List.length_take]
  omega

theorem OnTape.set {cs : List (List UInt8)} {sr : Nat} {all : List (List UInt8)} (h : OnTape cs 0 sr all) (p : Nat) (hp : 3 + span all ≤ p) (v : List UInt8) (hv : v.length = 64) (hk : p < 23 → v.getD 63 0 ≠ 1) : OnTape (cs.set p v) 0 sr all := by
  refine h.junk (by simp) ?_ ?_ ?_
  · intro c hc
    rcases List.mem_or_eq_of_mem_set hc with hc | rfl
    · exact h.cell c hc
    · exact hv
  · intro a ha
    have := h.length
    have := h.fits
    rw [getD_set_at _ _ _ _ (by omega), if_neg (by omega)]
  · intro a h1 h2
    have := h.length
    rw [getD_set_at _ _ _ _ (by omega)]
    split
    · subst_vars
      exact hk h2
    · exact h.kinds a h1 h2

/-- The head is put, or the power fails. -/
theorem OnTape.head {cs : List (List UInt8)} {sr : Nat} {all : List (List UInt8)} {s : List UInt8} (h : OnTape cs 0 sr all) (c : List UInt8) (hc : c.length = 64) (hsp : span all < 20) (hn : OnTape (over cs (3 + span all) [c]) 0 sr (all ++ [s])) {f : Int} (hf : -1 ≤ f) :
    (∃ f', Drv.put ⟨cs, [], f, false⟩ ((3 + span all : Nat) : Int) c = (⟨over cs (3 + span all) [c], [], f', false⟩, 0) ∧ -1 ≤ f') ∨
    (∃ y, Drv.put ⟨cs, [], f, false⟩ ((3 + span all : Nat) : Int) c = (y, 10) ∧ y.May ∧ y.queue.length ≤ 100 ∧ ∀ kept tn cut, ∃ cs', y.crash kept tn cut = ⟨cs', [], -1, false⟩ ∧ (OnTape cs' 0 sr all ∨ OnTape cs' 0 sr (all ++ [s]))) := by
  have hlen := h.length
  have hm := h.may hf
  have hL : ∀ x ∈ [c], x.length = 64 := by simpa using hc
  have hfl : [c].flatten = c := by simp
  have hp : 3 + span all + [c].length ≤ cs.length := by simp; omega
  by_cases hfu : Fueled f ([c].length + 1)
  · left
    obtain ⟨e, hm2⟩ := put_ok hm (3 + span all) [c] hL (by simp) hp hfu
    rw [hfl] at e
    exact ⟨_, e, hm2.fuel⟩
  · right
    have e := put_fail hm (3 + span all) [c] hL (by simp) hp hfu
    rw [hfl] at e
    have hLt : ∀ x ∈ [c].take f.toNat, x.length = 64 := fun x hx => hL x (List.mem_of_mem_take hx)
    have hlt : ([c].take f.toNat).length ≤ 1 := by rw [List.length_take]; simp; omega
    have hmy : (⟨cs, waits ((3 + span all : Nat) : Int) ([c].take f.toNat), 0, true⟩ : Drv).May := may_queue hm (by omega) (waits_ok hLt (by omega))
    refine ⟨_, e, hmy, by simp only [waits_length]; omega, fun kept tn cut => ?_⟩
    unfold Drv.crash
    rw [if_pos (mayB_yes hmy)]
    refine ⟨_, rfl, ?_⟩
    simp only
    rcases Nat.eq_zero_or_pos f.toNat with h0 | h0
    · rw [h0]
      exact .inl h
    · have ht : [c].take f.toNat = [c] := List.take_of_length_le (by simp; omega)
      rw [ht]
      have e2 : crashes kept tn cut 0 (waits ((3 + span all : Nat) : Int) [c]) cs = mix1 kept tn cut 0 ⟨((3 + span all : Nat) : Int), c⟩ cs := rfl
      rw [e2]
      unfold mix1
      simp only [Int.toNat_natCast]
      rw [over_one _ _ _ (by omega)] at hn
      have hold : (cs.getD (3 + span all) []).length = 64 := getD_all h.cell (by omega)
      split
      · by_cases hw : (min (max cut 0) 64).toNat = 64
        · rw [torn_whole hold hc hw]
          exact .inr hn
        · left
          refine h.set _ (Nat.le_refl _) _ (torn_len cut _ _ hold hc) fun hlt2 => ?_
          rw [torn_part hc (by omega)]
          exact h.kinds _ (Nat.le_refl _) hlt2
      · split
        · exact .inr hn
        · exact .inl h

theorem recCells_kind (s : List UInt8) (sr : Nat) {c : List UInt8} {l : List (List UInt8)} (h : recCells s sr = c :: l) : ∀ x ∈ l, x.getD 63 0 = 2 := by
  intro x hx
  obtain ⟨i, hi, rfl⟩ := List.getElem_of_mem hx
  have hk := recCells_length s sr
  have e : (recCells s sr)[i + 1]'(by rw [h]; simp; omega) = l[i] := by simp [h]
  rw [← e]
  unfold recCells
  rw [List.getElem_map, cellAt_kind]
  simp [kind]

/-- Cells that no record begins with, laid over cells behind the records. -/
theorem OnTape.body {cs : List (List UInt8)} {sr : Nat} {all : List (List UInt8)} (h : OnTape cs 0 sr all) (l : List (List UInt8)) (hl : ∀ c ∈ l, c.length = 64) (hk : ∀ c ∈ l, c.getD 63 0 = 2) (hr : span all + 1 + l.length ≤ 20) : OnTape (over cs (3 + span all + 1) l) 0 sr all := by
  have hlen := h.length
  have hol := over_length cs (3 + span all + 1) l (by omega)
  have hg : ∀ a, a < cs.length → (over cs (3 + span all + 1) l).getD a [] = cs.getD a [] ∨ (3 + span all + 1 ≤ a ∧ (over cs (3 + span all + 1) l).getD a [] ∈ l) := by
    intro a ha
    rw [getD_cell _ a (by omega), getD_cell _ a ha]
    unfold over
    by_cases h1 : a < 3 + span all + 1
    · left
      rw [List.getElem_append_left (by rw [List.length_append, List.length_take]; omega), List.getElem_append_left (by rw [List.length_take]; omega), List.getElem_take]
    · by_cases h2 : a < 3 + span all + 1 + l.length
      · right
        refine ⟨by omega, ?_⟩
        rw [List.getElem_append_left (by rw [List.length_append, List.length_take]; omega), List.getElem_append_right (by rw [List.length_take]; omega)]
        exact List.getElem_mem _
      · left
        rw [List.getElem_append_right (by rw [List.length_append, List.length_take]; omega), List.getElem_drop]
        congr 1
        rw [List.length_append, List.length_take]
        omega
  refine h.junk hol ?_ ?_ ?_
  · intro c hc
    unfold over at hc
    simp only [List.mem_append] at hc
    rcases hc with (hc | hc) | hc
    · exact h.cell c (List.mem_of_mem_take hc)
    · exact hl c hc
    · exact h.cell c (List.mem_of_mem_drop hc)
  · intro a ha
    have := h.fits
    rcases hg a (by omega) with e | ⟨e, _⟩
    · exact e
    · omega
  · intro a h1 h2
    rcases hg a (by omega) with e | ⟨_, e⟩
    · rw [e]; exact h.kinds a h1 h2
    · rw [hk _ e]; decide

/-- The body is put, or the power fails. -/
theorem OnTape.bodyPut {cs : List (List UInt8)} {sr : Nat} {all : List (List UInt8)} (h : OnTape cs 0 sr all) (l : List (List UInt8)) (h0 : 1 ≤ l.length) (hl : ∀ c ∈ l, c.length = 64) (hk : ∀ c ∈ l, c.getD 63 0 = 2) (hr : span all + 1 + l.length ≤ 20) {f : Int} (hf : -1 ≤ f) :
    (∃ f', Drv.put ⟨cs, [], f, false⟩ ((3 + span all + 1 : Nat) : Int) l.flatten = (⟨over cs (3 + span all + 1) l, [], f', false⟩, 0) ∧ -1 ≤ f') ∨
    (∃ y, Drv.put ⟨cs, [], f, false⟩ ((3 + span all + 1 : Nat) : Int) l.flatten = (y, 10) ∧ y.May ∧ y.queue.length ≤ 100 ∧ ∀ kept tn cut, ∃ cs', y.crash kept tn cut = ⟨cs', [], -1, false⟩ ∧ OnTape cs' 0 sr all) := by
  have hlen := h.length
  have hm := h.may hf
  have hp : 3 + span all + 1 + l.length ≤ cs.length := by omega
  by_cases hfu : Fueled f (l.length + 1)
  · left
    obtain ⟨e, hm2⟩ := put_ok hm (3 + span all + 1) l hl h0 hp hfu
    exact ⟨_, e, hm2.fuel⟩
  · right
    have e := put_fail hm (3 + span all + 1) l hl h0 hp hfu
    have hLt : ∀ x ∈ l.take f.toNat, x.length = 64 := fun x hx => hl x (List.mem_of_mem_take hx)
    have hlt : (l.take f.toNat).length ≤ l.length := by rw [List.length_take]; omega
    have hmy : (⟨cs, waits ((3 + span all + 1 : Nat) : Int) (l.take f.toNat), 0, true⟩ : Drv).May := may_queue hm (by omega) (waits_ok hLt (by omega))
    refine ⟨_, e, hmy, by simp only [waits_length]; omega, fun kept tn cut => ?_⟩
    obtain ⟨c1, c2⟩ := crashes_all kept tn cut (waits ((3 + span all + 1 : Nat) : Int) (l.take f.toNat)) 0 cs h.cell (waits_ok hLt (by omega))
    unfold Drv.crash
    rw [if_pos (mayB_yes hmy)]
    refine ⟨_, rfl, ?_⟩
    simp only
    refine h.junk c1 c2 ?_ ?_
    · intro a ha
      have := h.fits
      exact (crash_waits h.cell (3 + span all + 1) (l.take f.toNat) hLt (by omega) kept tn cut a (by omega)).1 (by omega)
    · intro a h1 h2
      rcases (crash_waits h.cell (3 + span all + 1) (l.take f.toNat) hLt (by omega) kept tn cut a (by omega)).2 with e | ⟨c, hc, e⟩
      · rw [e]; exact h.kinds a h1 h2
      · rw [e, hk c (List.mem_of_mem_take hc)]; decide

/-- A record is appended, or the power fails: behind a crash the tape has what it had, or that and the record. -/
theorem OnTape.cut {cs : List (List UInt8)} {sr : Nat} {all : List (List UInt8)} (h : OnTape cs 0 sr all) {f : Int} (hf : -1 ≤ f) (s : List UInt8) (hs : s.length ≤ 4000) (hr : span all + kOf s.length ≤ 20) (h1 : 1 ≤ sr) (h2 : sr + all.length ≤ 16777215) :
    (∃ cs' f', Drv.append ⟨cs, [], f, false⟩ ⟨3, 20, (span all : Nat), (sr + all.length : Nat)⟩ s = (⟨cs', [], f', false⟩, ⟨3, 20, (span (all ++ [s]) : Nat), (sr + (all ++ [s]).length : Nat)⟩, 0) ∧ -1 ≤ f' ∧ OnTape cs' 0 sr (all ++ [s])) ∨
    (∃ y, Drv.append ⟨cs, [], f, false⟩ ⟨3, 20, (span all : Nat), (sr + all.length : Nat)⟩ s = (y, Tp.zero, 10) ∧ y.May ∧ y.queue.length ≤ 100 ∧ ∀ kept tn cut, ∃ cs', y.crash kept tn cut = ⟨cs', [], -1, false⟩ ∧ (OnTape cs' 0 sr all ∨ OnTape cs' 0 sr (all ++ [s]))) := by
  have hok := h.tape hf (span all) h.fits (sr + all.length) (by omega)
  have hlen := h.length
  have hn := h.next s hs hr
  have hkl := recCells_length s (sr + all.length)
  have hkp := kOf_pos s.length
  obtain ⟨c, l, hcl⟩ : ∃ c l, recCells s (sr + all.length) = c :: l := by
    cases h : recCells s (sr + all.length) with
    | nil => rw [h] at hkl; simp at hkl; omega
    | cons c l => exact ⟨c, l, rfl⟩
  have hall := recCells_all s (sr + all.length)
  have hk2 := recCells_kind s (sr + all.length) hcl
  have hd : (lay s (sr + all.length)).drop 64 = l.flatten := by
    have hc64 : c.length = 64 := hall c (by rw [hcl]; simp)
    rw [lay, hcl, List.flatten_cons, List.drop_append_of_le_length (by omega), List.drop_of_length_le (by omega), List.nil_append]
  have htk : (lay s (sr + all.length)).take 64 = c := by
    have hc64 : c.length = 64 := hall c (by rw [hcl]; simp)
    rw [lay, hcl, List.flatten_cons, List.take_append_of_le_length (by omega), List.take_of_length_le (by omega)]
  rw [hcl] at hkl hall hn
  simp only [List.length_cons] at hkl
  have hc64 : c.length = 64 := hall c (by simp)
  have hl64 : ∀ x ∈ l, x.length = 64 := fun x hx => hall x (by simp [hx])
  have a1 : span (all ++ [s]) = span all + kOf s.length := by
    rw [span_append, span_cons]
    rfl
  have a2 : (all ++ [s]).length = all.length + 1 := by simp
  have e0 : (3 : Int) + (span all : Nat) = ((3 + span all : Nat) : Int) := by omega
  have e1 : (3 : Int) + (span all : Nat) + 1 = ((3 + span all + 1 : Nat) : Int) := by omega
  have et : (⟨3, 20, (span all : Int) + (kOf s.length : Int), ((sr + all.length : Nat) : Int) + 1⟩ : Tp) = ⟨3, 20, (span (all ++ [s]) : Nat), (sr + (all ++ [s]).length : Nat)⟩ := by
    rw [a1, a2]
    congr 1
  unfold Drv.append
  rw [if_neg (by rintro (h | h); · rw [hok] at h; cases h
                 · omega), if_neg (by simp only; omega)]
  simp only [Int.toNat_natCast]
  rw [hd, htk, e1, e0, et]
  by_cases hk : 1 < kOf s.length
  · rw [if_pos hk]
    rcases h.bodyPut l (by omega) hl64 hk2 (by omega) hf with ⟨f1, e, hf1⟩ | ⟨y, e, hy1, hy2, hy3⟩
    · rw [e]
      simp only [if_true]
      have hb := h.body l hl64 hk2 (by omega)
      rw [← over_over cs (3 + span all) c l (by omega)] at hn
      rcases hb.head c hc64 (by omega) hn hf1 with ⟨f2, e2, hf2⟩ | ⟨y, e2, hy1, hy2, hy3⟩
      · rw [e2]
        simp only [if_true]
        exact .inl ⟨_, f2, rfl, hf2, hn⟩
      · rw [e2]
        exact .inr ⟨y, by simp, hy1, hy2, hy3⟩
    · rw [e]
      refine .inr ⟨y, by simp, hy1, hy2, fun kept tn cut => ?_⟩
      obtain ⟨cs', e3, h3⟩ := hy3 kept tn cut
      exact ⟨cs', e3, .inl h3⟩
  · rw [if_neg hk]
    simp only [if_true]
    have hl0 : l = [] := List.eq_nil_of_length_eq_zero (by omega)
    subst hl0
    rcases h.head c hc64 (by omega) hn hf with ⟨f2, e2, hf2⟩ | ⟨y, e2, hy1, hy2, hy3⟩
    · rw [e2]
      simp only [if_true]
      exact .inl ⟨_, f2, rfl, hf2, hn⟩
    · rw [e2]
      exact .inr ⟨y, by simp, hy1, hy2, hy3⟩

end Go.Proofs.Ytkapdmhjhbmdjaa
