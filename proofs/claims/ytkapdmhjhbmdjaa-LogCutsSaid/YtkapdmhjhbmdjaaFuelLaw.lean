/-
  Plain facts on fuel: what a flush and a write make of a drive that has so much.
-/
import Derived.Test.YtkapdmhjhbmdjaaDskCrash
import Derived.Test.YtkapdmhjhbmdjaaDskNew
import Derived.Test.YtkapdmhjhbmdjaaRefRead
namespace Go.Proofs.Ytkapdmhjhbmdjaa

theorem mayB_of {d : Drv} (h : d.May) : d.mayB = true := d.mayB_iff.2 h

/-- What a step that needs so much fuel makes of a drive that has m. -/
structure Steps (D X : Drv) (E : Int) (need m : Nat) : Prop where
  may : X.May
  cells : X.cells.length = D.cells.length
  queue : X.queue.length ≤ D.queue.length + need
  out : (need ≤ m ∧ E = 0 ∧ X.fuel = ((m - need : Nat) : Int) ∧ X.off = false) ∨ (m < need ∧ E = 10 ∧ X.off = true ∧ X.fuel = 0)

theorem burn_fuel (cs : List (List UInt8)) (q : List Wt) (m : Nat) : (⟨cs, q, (m : Int), false⟩ : Drv).burnOk = decide (0 < m) ∧ (0 < m → (⟨cs, q, (m : Int), false⟩ : Drv).burn = ⟨cs, q, ((m - 1 : Nat) : Int), false⟩) ∧ (m = 0 → (⟨cs, q, (m : Int), false⟩ : Drv).burn = ⟨cs, q, 0, true⟩) := by
  have h : (⟨cs, q, (m : Int), false⟩ : Drv).burnOk = decide (0 < m) := by
    unfold Drv.burnOk
    simp only [Bool.false_or]
    by_cases h : m = 0
    · subst h; rfl
    · rw [decide_eq_false (by omega), decide_eq_true (by omega)]; rfl
  refine ⟨h, fun h0 => ?_, fun h0 => ?_⟩
  · unfold Drv.burn
    rw [h, decide_eq_true h0, if_pos rfl]
    simp only
    rw [if_pos (by omega)]
    congr 1
    omega
  · unfold Drv.burn
    rw [h, decide_eq_false (by omega), if_neg (by decide)]
    subst h0
    rfl

theorem flush_steps (cs : List (List UInt8)) (q : List Wt) (m : Nat) (hm : (⟨cs, q, (m : Int), false⟩ : Drv).May) : Steps ⟨cs, q, (m : Int), false⟩ (Drv.flush ⟨cs, q, (m : Int), false⟩).1 (Drv.flush ⟨cs, q, (m : Int), false⟩).2 1 m := by
  obtain ⟨h1, h2, h3⟩ := burn_fuel cs q m
  unfold Drv.flush
  rw [if_neg (by rw [mayB_of hm]; decide), h1]
  by_cases h0 : 0 < m
  · rw [decide_eq_true h0, if_pos rfl, h2 h0]
    refine ⟨⟨?_, ?_, by simp only; omega, ?_, by intro w hw; cases hw⟩, ?_, by simp, .inl ⟨by omega, rfl, rfl, rfl⟩⟩
    · simp only [full_length]; exact hm.some
    · simp only [full_length]; exact hm.most
    · exact full_all _ hm
    · simp only [full_length]
  · have h0' : m = 0 := by omega
    rw [decide_eq_false h0, if_neg (by decide), h3 h0']
    exact ⟨⟨hm.some, hm.most, by simp, hm.cell, hm.wait⟩, rfl, by simp, .inr ⟨by omega, rfl, rfl, rfl⟩⟩

theorem wrs_steps (l : List (List UInt8)) : ∀ (p : Int) (cs : List (List UInt8)) (q : List Wt) (m : Nat), (⟨cs, q, (m : Int), false⟩ : Drv).May → 0 ≤ p → p + l.length ≤ cs.length → (∀ c ∈ l, c.length = 64) →
    Steps ⟨cs, q, (m : Int), false⟩ (wrs l p ⟨cs, q, (m : Int), false⟩).1 (wrs l p ⟨cs, q, (m : Int), false⟩).2 l.length m := by
  induction l with
  | nil =>
    intro p cs q m hm _ _ _
    exact ⟨hm, rfl, by simp [wrs], .inl ⟨Nat.zero_le _, rfl, rfl, rfl⟩⟩
  | cons c l ih =>
    intro p cs q m hm hp hl hc
    obtain ⟨h1, h2, h3⟩ := burn_fuel cs q m
    simp only [wrs]
    rw [h1]
    by_cases h0 : 0 < m
    · rw [decide_eq_true h0, if_pos rfl, h2 h0]
      simp only
      have hlc : (p : Int) + 1 + l.length ≤ cs.length := by simp at hl; omega
      have hm' : (⟨cs, q ++ [⟨p, c⟩], ((m - 1 : Nat) : Int), false⟩ : Drv).May := by
        refine ⟨hm.some, hm.most, by simp only; omega, hm.cell, ?_⟩
        intro w hw
        simp only at hw
        rcases List.mem_append.1 hw with hw | hw
        · exact hm.wait w hw
        · simp at hw
          subst hw
          exact ⟨hp, by simp only; omega, hc c (by simp)⟩
      have h := ih (p + 1) cs (q ++ [⟨p, c⟩]) (m - 1) hm' (by omega) hlc (fun x hx => hc x (by simp [hx]))
      refine ⟨h.may, h.cells, ?_, ?_⟩
      · have := h.queue
        simp at this ⊢
        omega
      · rcases h.out with ⟨a, b, c', d⟩ | ⟨a, b, c', d⟩
        · exact .inl ⟨by simp; omega, b, by rw [c']; simp; omega, d⟩
        · exact .inr ⟨by simp; omega, b, c', d⟩
    · have h0' : m = 0 := by omega
      rw [decide_eq_false h0, if_neg (by decide), h3 h0']
      exact ⟨⟨hm.some, hm.most, by simp, hm.cell, hm.wait⟩, rfl, by simp, .inr ⟨by simp; omega, rfl, rfl, rfl⟩⟩

theorem chunks_replicate (c : UInt8) : ∀ n, (chunks n (List.replicate (64 * n) c)).length = n ∧ ∀ x ∈ chunks n (List.replicate (64 * n) c), x.length = 64 := by
  intro n
  induction n with
  | zero => exact ⟨rfl, by intro x hx; cases hx⟩
  | succ n ih =>
    have e : List.replicate (64 * (n + 1)) c = List.replicate 64 c ++ List.replicate (64 * n) c := by
      rw [List.replicate_append_replicate]; congr 1; omega
    simp only [chunks]
    rw [e, List.take_left' (by simp), List.drop_left' (by simp)]
    refine ⟨by simp [ih.1], ?_⟩
    intro x hx
    rcases List.mem_cons.1 hx with rfl | hx
    · simp
    · exact ih.2 x hx

theorem write_steps (cs : List (List UInt8)) (q : List Wt) (m : Nat) (hm : (⟨cs, q, (m : Int), false⟩ : Drv).May) (p n : Nat) (hn : 1 ≤ n) (hp : p + n ≤ cs.length) (c : UInt8) :
    Steps ⟨cs, q, (m : Int), false⟩ (Drv.write ⟨cs, q, (m : Int), false⟩ p (List.replicate (64 * n) c)).1 (Drv.write ⟨cs, q, (m : Int), false⟩ p (List.replicate (64 * n) c)).2 n m := by
  have hdiv : (List.replicate (64 * n) c).length / 64 = n := by rw [List.length_replicate]; omega
  unfold Drv.write
  rw [if_neg (by
    rw [mayB_of hm, List.length_replicate]
    simp
    omega), hdiv, if_neg (by
    have : Drv.there ⟨cs, q, (m : Int), false⟩ p (n : Nat) = true := by
      unfold Drv.there
      exact decide_eq_true (by simp only; omega)
    rw [this]
    decide)]
  obtain ⟨h1, h2⟩ := chunks_replicate c n
  have := wrs_steps (chunks n (List.replicate (64 * n) c)) p cs q m hm (by omega) (by rw [h1]; omega) h2
  rw [h1] at this
  exact this

theorem read_off {X : Drv} (h : X.May) (hc : X.cells.length = 5) (ho : X.off = true) : X.read 0 1 = ([], 10) := by
  unfold Drv.read
  rw [if_neg (by rw [mayB_of h]; decide), if_neg (by
    have : X.there 0 1 = true := by unfold Drv.there; rw [hc]; decide
    rw [this]; decide), if_pos ho]
theorem crashes_all (kept : Nat) (tn cut : Int) (q : List Wt) : ∀ (i : Nat) (cs : List (List UInt8)), (∀ c ∈ cs, c.length = 64) → (∀ w ∈ q, 0 ≤ w.pos ∧ w.pos < cs.length ∧ w.s.length = 64) → (crashes kept tn cut i q cs).length = cs.length ∧ ∀ c ∈ crashes kept tn cut i q cs, c.length = 64 := by
  induction q with
  | nil => intro i cs h _; exact ⟨rfl, h⟩
  | cons w q ih =>
    intro i cs h hq
    have hw := hq w (by simp)
    have h1 := crashOne_all kept tn cut i w cs hw.2.2 (by omega) h
    have h2 := crashOne_length kept tn cut i w cs
    have h3 := ih (i + 1) (crashOne kept tn cut i w cs) h1 (fun x hx => by rw [h2]; exact hq x (by simp [hx]))
    rw [h2] at h3
    exact h3
theorem crash_may {X : Drv} (h : X.May) (kept : Nat) (tn cut : Int) : (X.crash kept tn cut).May ∧ (X.crash kept tn cut).cells.length = X.cells.length ∧ (X.crash kept tn cut).queue = [] ∧ (X.crash kept tn cut).fuel = -1 ∧ (X.crash kept tn cut).off = false := by
  unfold Drv.crash
  rw [if_pos (mayB_of h)]
  obtain ⟨h1, h2⟩ := crashes_all kept tn cut X.queue 0 X.cells h.cell h.wait
  exact ⟨⟨by simp only; rw [h1]; exact h.some, by simp only; rw [h1]; exact h.most, Int.le_refl _, h2, by intro w hw; cases hw⟩, h1, rfl, rfl, rfl⟩
theorem read_crash {X : Drv} (h : X.May) (hc : X.cells.length = 5) (kept : Nat) (tn cut : Int) : ((X.crash kept tn cut).read 0 1).2 = 0 := by
  obtain ⟨h1, h2, _, _, h5⟩ := crash_may h kept tn cut
  unfold Drv.read
  rw [if_neg (by rw [mayB_of h1]; decide), if_neg (by
    have : (X.crash kept tn cut).there 0 1 = true := by unfold Drv.there; rw [h2, hc]; decide
    rw [this]; decide), if_neg (by rw [h5]; decide)]

end Go.Proofs.Ytkapdmhjhbmdjaa
