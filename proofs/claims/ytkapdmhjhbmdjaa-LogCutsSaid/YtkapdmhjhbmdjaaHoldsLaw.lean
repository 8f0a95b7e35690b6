/-
  Plain facts on a crash: each octet behind it is the octet of the cell ahead of it, or of a write that waited.
-/
import Derived.Test.YtkapdmhjhbmdjaaFuelLaw
namespace Go.Proofs.Ytkapdmhjhbmdjaa

/-- What one write of a crash makes of the cells. -/
def mix1 (kept : Nat) (tn cut : Int) (i : Nat) (w : Wt) (cs : List (List UInt8)) : List (List UInt8) :=
  if (i : Int) = tn then cs.set w.pos.toNat (torn cut (cs.getD w.pos.toNat []) w.s) else if keepsB kept i then cs.set w.pos.toNat w.s else cs

theorem torn_oct (cut : Int) (old young : List UInt8) (_ho : old.length = 64) (hy : young.length = 64) (k : Nat) :
    (torn cut old young).getD k 0 = old.getD k 0 ∨ (torn cut old young).getD k 0 = young.getD k 0 := by
  unfold torn
  obtain ⟨m, hm⟩ : ∃ m, (min (max cut 0) 64).toNat = m := ⟨_, rfl⟩
  have hm64 : m ≤ 64 := by omega
  rw [hm]
  by_cases hk : k < m
  · right
    rw [List.getD_eq_getElem?_getD, List.getElem?_append_left (by simp only [List.length_take]; omega), List.getElem?_take_of_lt hk, ← List.getD_eq_getElem?_getD]
  · left
    rw [List.getD_eq_getElem?_getD, List.getElem?_append_right (by simp only [List.length_take]; omega), List.getElem?_drop, ← List.getD_eq_getElem?_getD]
    congr 1
    simp only [List.length_take]
    omega

theorem torn_len (cut : Int) (old young : List UInt8) (ho : old.length = 64) (hy : young.length = 64) : (torn cut old young).length = 64 := by
  unfold torn
  simp only [List.length_append, List.length_take, List.length_drop]
  omega

theorem getD_set_at (cs : List (List UInt8)) (j a : Nat) (v : List UInt8) (ha : a < cs.length) : (cs.set j v).getD a [] = if j = a then v else cs.getD a [] := by
  simp only [List.getD_eq_getElem?_getD, List.getElem?_set]
  by_cases h : j = a
  · subst h
    simp [ha]
  · simp [h]

theorem getD_all {cs : List (List UInt8)} (h : ∀ c ∈ cs, c.length = 64) {a : Nat} (ha : a < cs.length) : (cs.getD a []).length = 64 := by
  rw [List.getD_eq_getElem?_getD, List.getElem?_eq_getElem ha]
  exact h _ (List.getElem_mem ha)

theorem mix1_length (kept : Nat) (tn cut : Int) (i : Nat) (w : Wt) (cs : List (List UInt8)) : (mix1 kept tn cut i w cs).length = cs.length := by
  unfold mix1
  split
  · simp
  · split <;> simp

theorem mix1_all (kept : Nat) (tn cut : Int) (i : Nat) (w : Wt) (cs : List (List UInt8)) (h : ∀ c ∈ cs, c.length = 64) (hp : 0 ≤ w.pos ∧ w.pos < cs.length ∧ w.s.length = 64) : ∀ c ∈ mix1 kept tn cut i w cs, c.length = 64 := by
  unfold mix1
  have hs : ∀ v : List UInt8, v.length = 64 → ∀ c ∈ cs.set w.pos.toNat v, c.length = 64 := by
    intro v hv c hc
    rcases List.mem_or_eq_of_mem_set hc with hc | rfl
    · exact h c hc
    · exact hv
  split
  · exact hs _ (torn_len cut _ _ (getD_all h (by omega)) hp.2.2)
  · split
    · exact hs _ hp.2.2
    · exact h

theorem mix1_oct (kept : Nat) (tn cut : Int) (i : Nat) (w : Wt) (cs : List (List UInt8)) (h : ∀ c ∈ cs, c.length = 64) (hp : 0 ≤ w.pos ∧ w.pos < cs.length ∧ w.s.length = 64) (a k : Nat) (ha : a < cs.length) :
    ((mix1 kept tn cut i w cs).getD a []).getD k 0 = (cs.getD a []).getD k 0 ∨ (w.pos = (a : Int) ∧ ((mix1 kept tn cut i w cs).getD a []).getD k 0 = w.s.getD k 0) := by
  unfold mix1
  split
  · rw [getD_set_at _ _ _ _ ha]
    by_cases hj : w.pos.toNat = a
    · rw [if_pos hj, hj]
      rcases torn_oct cut (cs.getD a []) w.s (getD_all h ha) hp.2.2 k with e | e
      · exact .inl e
      · exact .inr ⟨by omega, e⟩
    · rw [if_neg hj]
      exact .inl rfl
  · split
    · rw [getD_set_at _ _ _ _ ha]
      by_cases hj : w.pos.toNat = a
      · rw [if_pos hj]
        exact .inr ⟨by omega, rfl⟩
      · rw [if_neg hj]
        exact .inl rfl
    · exact .inl rfl

theorem crashes_oct (kept : Nat) (tn cut : Int) (a k : Nat) : ∀ (q : List Wt) (i : Nat) (cs : List (List UInt8)), (∀ c ∈ cs, c.length = 64) → (∀ w ∈ q, 0 ≤ w.pos ∧ w.pos < cs.length ∧ w.s.length = 64) → a < cs.length →
    ((crashes kept tn cut i q cs).getD a []).getD k 0 = (cs.getD a []).getD k 0 ∨ ∃ j, j < q.length ∧ (q.getD j ⟨0, []⟩).pos = (a : Int) ∧ (q.getD j ⟨0, []⟩).s.getD k 0 = ((crashes kept tn cut i q cs).getD a []).getD k 0 := by
  intro q
  induction q with
  | nil => intro i cs _ _ _; exact .inl rfl
  | cons w q ih =>
    intro i cs h hq ha
    have hw := hq w (List.mem_cons_self ..)
    have e : crashes kept tn cut i (w :: q) cs = crashes kept tn cut (i + 1) q (mix1 kept tn cut i w cs) := rfl
    rw [e]
    rcases ih (i + 1) (mix1 kept tn cut i w cs) (mix1_all kept tn cut i w cs h hw) (by rw [mix1_length]; exact fun x hx => hq x (List.mem_cons_of_mem _ hx)) (by rw [mix1_length]; exact ha) with e1 | ⟨j, hj, e1, e2⟩
    · rcases mix1_oct kept tn cut i w cs h hw a k ha with e3 | ⟨e3, e4⟩
      · exact .inl (e1.trans e3)
      · exact .inr ⟨0, by simp, e3, by rw [e1, e4]; rfl⟩
    · exact .inr ⟨j + 1, by simpa using hj, by simpa using e1, by simpa using e2⟩

/-- What the statement DiskHolds looks at: each octet behind a crash. -/
theorem crash_oct {X : Drv} (h : X.May) (kept : Nat) (tn cut : Int) (a k : Nat) (ha : a < X.cells.length) :
    (((X.crash kept tn cut).cells).getD a []).getD k 0 = (X.cells.getD a []).getD k 0 ∨ ∃ j, j < X.queue.length ∧ (X.queue.getD j ⟨0, []⟩).pos = (a : Int) ∧ (X.queue.getD j ⟨0, []⟩).s.getD k 0 = (((X.crash kept tn cut).cells).getD a []).getD k 0 := by
  have e : (X.crash kept tn cut).cells = crashes kept tn cut 0 X.queue X.cells := by
    unfold Drv.crash
    rw [if_pos (mayB_of h)]
  rw [e]
  exact crashes_oct kept tn cut a k X.queue 0 X.cells h.cell h.wait ha

theorem chunks_all : ∀ (n : Nat) (s : List UInt8), s.length = n * 64 → (chunks n s).length = n ∧ ∀ x ∈ chunks n s, x.length = 64 := by
  intro n
  induction n with
  | zero => intro s _; exact ⟨rfl, by intro x hx; cases hx⟩
  | succ n ih =>
    intro s hs
    have h := ih (s.drop 64) (by rw [List.length_drop]; omega)
    simp only [chunks]
    refine ⟨by rw [List.length_cons, h.1], ?_⟩
    intro x hx
    rcases List.mem_cons.1 hx with rfl | hx
    · rw [List.length_take]; omega
    · exact h.2 x hx

/-- A drive whose fuel no one told: each write waits. -/
theorem wrs_full (l : List (List UInt8)) : ∀ (p : Int) (cs : List (List UInt8)) (q : List Wt), (⟨cs, q, -1, false⟩ : Drv).May → 0 ≤ p → p + l.length ≤ cs.length → (∀ c ∈ l, c.length = 64) →
    ∃ q', wrs l p ⟨cs, q, -1, false⟩ = (⟨cs, q', -1, false⟩, 0) ∧ (⟨cs, q', -1, false⟩ : Drv).May ∧ q'.length = q.length + l.length := by
  induction l with
  | nil =>
    intro p cs q hm _ _ _
    exact ⟨q, rfl, hm, rfl⟩
  | cons c l ih =>
    intro p cs q hm hp hl hc
    have hlc : (p : Int) + 1 + l.length ≤ cs.length := by simp at hl; omega
    have e : wrs (c :: l) p ⟨cs, q, -1, false⟩ = wrs l (p + 1) ⟨cs, q ++ [⟨p, c⟩], -1, false⟩ := rfl
    rw [e]
    obtain ⟨q', e1, e2, e3⟩ := ih (p + 1) cs (q ++ [⟨p, c⟩]) (by
      refine ⟨hm.some, hm.most, hm.fuel, hm.cell, ?_⟩
      intro w hw
      simp only at hw
      rcases List.mem_append.1 hw with hw | hw
      · exact hm.wait w hw
      · simp at hw
        subst hw
        exact ⟨hp, by simp only; omega, hc c (by simp)⟩) (by omega) hlc (fun x hx => hc x (by simp [hx]))
    exact ⟨q', e1, e2, by rw [e3]; simp; omega⟩

theorem write_full (cs : List (List UInt8)) (q : List Wt) (hm : (⟨cs, q, -1, false⟩ : Drv).May) (p : Int) (s : List UInt8) (hs : s.length ≤ 640) :
    (∃ q', Drv.write ⟨cs, q, -1, false⟩ p s = (⟨cs, q', -1, false⟩, 0) ∧ (⟨cs, q', -1, false⟩ : Drv).May ∧ q'.length ≤ q.length + 10) ∨ (Drv.write ⟨cs, q, -1, false⟩ p s).2 ≠ 0 := by
  unfold Drv.write
  by_cases h1 : (⟨cs, q, -1, false⟩ : Drv).mayB = false ∨ s = [] ∨ s.length % 64 ≠ 0
  · rw [if_pos h1]
    exact .inr (by decide)
  · rw [if_neg h1]
    by_cases h2 : (⟨cs, q, -1, false⟩ : Drv).there p (s.length / 64 : Nat) = false
    · rw [if_pos h2]
      exact .inr (by decide)
    · rw [if_neg h2]
      have h3 : (⟨cs, q, -1, false⟩ : Drv).there p (s.length / 64 : Nat) = true := by simpa using h2
      unfold Drv.there at h3
      have h4 := of_decide_eq_true h3
      simp only at h4
      have h5 : s.length % 64 = 0 := by omega
      obtain ⟨c1, c2⟩ := chunks_all (s.length / 64) s (by omega)
      obtain ⟨q', e1, e2, e3⟩ := wrs_full (chunks (s.length / 64) s) p cs q hm h4.1 (by rw [c1]; omega) c2
      exact .inl ⟨q', e1, e2, by rw [e3, c1]; omega⟩

/-- A flush of such a drive does all its writes. -/
theorem flush_full (cs : List (List UInt8)) (q : List Wt) (hm : (⟨cs, q, -1, false⟩ : Drv).May) : Drv.flush ⟨cs, q, -1, false⟩ = (⟨puts cs q, [], -1, false⟩, 0) := by
  unfold Drv.flush
  rw [mayB_of hm, if_neg (by decide), if_pos (by rfl)]
  rfl

theorem flushed_may (cs : List (List UInt8)) (q : List Wt) (hm : (⟨cs, q, -1, false⟩ : Drv).May) : (⟨puts cs q, [], -1, false⟩ : Drv).May := by
  refine ⟨?_, ?_, hm.fuel, full_all _ hm, by intro w hw; cases hw⟩
  · simp only [puts_length]; exact hm.some
  · simp only [puts_length]; exact hm.most

/-- A drive in which nothing waits stays as it is in a crash. -/
theorem crash_still (cs : List (List UInt8)) (hm : (⟨cs, [], -1, false⟩ : Drv).May) (kept : Nat) (tn cut : Int) : Drv.crash ⟨cs, [], -1, false⟩ kept tn cut = ⟨cs, [], -1, false⟩ := by
  unfold Drv.crash
  rw [if_pos (mayB_of hm)]
  rfl

end Go.Proofs.Ytkapdmhjhbmdjaa
