/-
  An argument that reads as a drive is a drive in memory.
-/
import Derived.Test.YtkapdmhjhbmdjaaLawDsk
import Derived.Lib.SmallJoins
import Derived.Deep.Strs
import Derived.Deep.SlicePairs
import Derived.ChangeArms
namespace Go.Proofs.Ytkapdmhjhbmdjaa
open Go.RowKit Go.ChangeShapes Go.WideShapes Go.ChangeAt
open Go.Joins Go.Deep

variable {H : Type} {enc : TypeId × Value → H} {w : World} {base : Nat} {spare : Nat → Bool} {held : Bool}

theorem maxLen_eq : maxLen = 9223372036854775807 := rfl
theorem open_strs_at {fuel : Nat} {cs : List Value} {x : DataW H × List MemPlace} (h : DataW.trod enc Try.prog w base spare held fuel 22 cs = some x) :
    ∃ ao n c xs, cs = [.slice ao n c] ∧ Strs w ao n xs ∧ n ≤ c ∧ c ≤ 9223372036854775807 ∧ ∀ y ∈ xs, y.length ≤ 9223372036854775807 := by
  rcases open_strs Try.underlying22 Try.underlying9 (by kernel_rfl) h with ⟨rfl, _⟩ | ⟨a, len, cap, m, Sx, rfl, _, hl, hc, hm, _, hx⟩
  · exact ⟨none, 0, 0, [], rfl, ⟨rfl, .inl rfl⟩, Nat.le_refl _, by omega, by simp⟩
  · rw [maxLen_eq] at hc
    have hlm : len ≤ m := by rw [hm]; split <;> omega
    refine ⟨some a, len, cap, (List.range len).map fun i => (Sx i).data.toList, rfl, ⟨by simp, ?_⟩, hl, hc, ?_⟩
    · rcases Nat.eq_zero_or_pos len with h0 | h0
      · subst h0; exact .inl rfl
      · have hsp : a.spot = none := by
          have := (hx 0 (by omega)).1
          have e : a.add 0 = a := by simp [Addr.add]
          rw [e] at this
          exact World.cell?_spot this
        obtain ⟨b, off, spot⟩ := a
        simp only at hsp
        subst hsp
        refine .inr ⟨b, off, rfl, fun j v hj => ?_⟩
        unfold strVals at hj
        rw [List.map_map] at hj
        have hjl : j < len := by
          have := (List.getElem?_eq_some_iff.1 hj).1
          simpa using this
        simp [hjl] at hj
        subst hj
        rw [← Addr.add_lit]
        exact (hx j (by omega)).1
    · intro y hy
      obtain ⟨i, hi, rfl⟩ := List.mem_map.1 hy
      have := (hx i (by have := List.mem_range.1 hi; omega)).2
      rw [maxLen_eq] at this
      simpa using this
theorem open_waits_at {fuel : Nat} {cs : List Value} {x : DataW H × List MemPlace} (h : DataW.trod enc Try.prog w base spare held fuel 23 cs = some x) :
    ∃ ao n c q, cs = [.slice ao n c] ∧ Waits w ao n q ∧ n ≤ c ∧ c ≤ 9223372036854775807 ∧ ∀ y ∈ q, y.s.length ≤ 9223372036854775807 := by
  rcases open_slice_pairs Try.underlying23 Try.underlying47 (by kernel_rfl) rfl rfl (by kernel_rfl) (by kernel_rfl) h with ⟨rfl, _⟩ | ⟨a, len, cap, m, n, V0, V1, D0, D1, P0, P1, rfl, _, hl, hc, hm, _, hx⟩
  · exact ⟨none, 0, 0, [], rfl, ⟨rfl, by simp, .inl rfl⟩, Nat.le_refl _, by omega, by simp⟩
  · rw [maxLen_eq] at hc
    have hlm : len ≤ m := by rw [hm]; split <;> omega
    have hall : ∀ i, ∃ (z : Int) (s : ByteArray), i < m → V0 i = .int .i64 z ∧ V1 i = .string s ∧ (Lit.int .i64 z).wf = true ∧ s.size ≤ maxLen := by
      intro i
      by_cases hi : i < m
      · obtain ⟨_, _, h0, h1⟩ := hx i hi
        obtain ⟨z, hz, _, hw⟩ := DataW.trod_int Try.underlying3 h0
        obtain ⟨s, hs, _, hm⟩ := DataW.trod_string Try.underlying9 h1
        simp only [List.cons.injEq, and_true] at hz hs
        exact ⟨z, s, fun _ => ⟨hz, hs, hw, hm⟩⟩
      · exact ⟨0, ⟨#[]⟩, fun h => absurd h hi⟩
    obtain ⟨Z, hall⟩ := Classical.axiomOfChoice hall
    obtain ⟨S, hall⟩ := Classical.axiomOfChoice hall
    refine ⟨some a, len, cap, (List.range len).map fun i => ⟨Z i, (S i).data.toList⟩, rfl, ⟨by simp, ?_, ?_⟩, hl, hc, ?_⟩
    · intro y hy
      obtain ⟨i, hi, rfl⟩ := List.mem_map.1 hy
      have := (hall i (by have := List.mem_range.1 hi; omega)).2.2.1
      exact i64_bd this
    · rcases Nat.eq_zero_or_pos len with h0 | h0
      · subst h0; exact .inl rfl
      · have hsp : a.spot = none := by
          have := (hx 0 (by omega)).1
          have e : a.add (0 * 2) = a := by simp [Addr.add]
          rw [e] at this
          exact World.cell?_spot this
        obtain ⟨b, off, spot⟩ := a
        simp only at hsp
        subst hsp
        have hq : ((List.range len).map fun i => (⟨Z i, (S i).data.toList⟩ : Wt)).length = len := by simp
        refine .inr ⟨b, off, rfl, fun j v hj => ?_⟩
        have hjl : j < len * 2 := by
          have := (List.getElem?_eq_some_iff.1 hj).1
          rw [waitVals_length, hq] at this
          exact this
        have hi : j / 2 < len := by omega
        obtain ⟨e1, e2⟩ := waitVals_at ((List.range len).map fun i => (⟨Z i, (S i).data.toList⟩ : Wt)) (j / 2) (by rw [hq]; exact hi)
        have hg : ((List.range len).map fun i => (⟨Z i, (S i).data.toList⟩ : Wt)).getD (j / 2) ⟨0, []⟩ = ⟨Z (j / 2), (S (j / 2)).data.toList⟩ := by
          simp [List.getD_eq_getElem?_getD, hi]
        rw [hg] at e1 e2
        obtain ⟨c0, c1, _, _⟩ := hx (j / 2) (by omega)
        obtain ⟨v0, v1, _, _⟩ := hall (j / 2) (by omega)
        rw [Addr.add_lit] at c0 c1
        by_cases hj2 : j % 2 = 0
        · rw [show j / 2 * 2 = j by omega] at e1 c0
          rw [hj] at e1
          injection e1 with e1
          subst e1
          rw [c0, v0]
        · rw [show j / 2 * 2 + 1 = j by omega] at e2 c1
          rw [hj] at e2
          injection e2 with e2
          subst e2
          rw [c1, v1]
          rfl
    · intro y hy
      obtain ⟨i, hi, rfl⟩ := List.mem_map.1 hy
      have := (hall i (by have := List.mem_range.1 hi; omega)).2.2.2
      rw [maxLen_eq] at this
      simpa using this

set_option maxRecDepth 100000 in
/-- A drive that comes in. -/
theorem open_drive {r : Reach} {b0 : Nat} {v : Value} {d : DataW H} {p : List MemPlace} (hv : Value.okWide Try.prog w r b0 25 v) (h : DataW.Trod enc Try.prog w base spare held 25 v d p) : ∃ D, IsDrive w v D := by
  obtain ⟨v0, v1, v2, v3, y0, y1, y2, y3, n, rfl, _, _, h0, h1, h2, h3⟩ := open_agg4 Try.underlying25 (by kernel_rfl) (by kernel_rfl) hv h
  obtain ⟨a1, n1, c1, xs, e0, hs, l1, m1, _⟩ := open_strs_at h0
  obtain ⟨a2, n2, c2, q, e1, hq, l2, m2, _⟩ := open_waits_at h1
  obtain ⟨f, e2, _, hw⟩ := DataW.trod_int Try.underlying3 h2
  obtain ⟨o, e3, _⟩ := DataW.trod_bool Try.underlying4 h3
  simp only [List.cons.injEq, and_true] at e0 e1 e2 e3
  subst e0; subst e1; subst e2; subst e3
  exact ⟨⟨xs, q, f, o⟩, a1, n1, c1, a2, n2, c2, f, o, rfl, hs, hq, ⟨l1, m1⟩, ⟨l2, m2⟩, rfl, rfl, i64_bd hw⟩
set_option maxRecDepth 100000 in
/-- A loss that comes in. -/
theorem open_loss {r : Reach} {b0 : Nat} {v : Value} {d : DataW H} {p : List MemPlace} (hv : Value.okWide Try.prog w r b0 28 v) (h : DataW.Trod enc Try.prog w base spare held 28 v d p) :
    ∃ (kept : Nat) (tn cut : Int), v = .agg #[.int .u64 (kept : Int), .int .i64 tn, .int .i64 cut] ∧ kept < 18446744073709551616 ∧ (-9223372036854775808 ≤ tn ∧ tn < 9223372036854775808) ∧ (-9223372036854775808 ≤ cut ∧ cut < 9223372036854775808) := by
  obtain ⟨v0, v1, v2, y0, y1, y2, n, rfl, _, _, h0, h1, h2⟩ := open_agg3 Try.underlying28 (by kernel_rfl) (by kernel_rfl) hv h
  obtain ⟨k, e0, _, w0⟩ := DataW.trod_int Try.underlying26 h0
  obtain ⟨t, e1, _, w1⟩ := DataW.trod_int Try.underlying3 h1
  obtain ⟨c, e2, _, w2⟩ := DataW.trod_int Try.underlying3 h2
  simp only [List.cons.injEq, and_true] at e0 e1 e2
  subst e0; subst e1; subst e2
  have := u64_bd w0
  obtain ⟨m, rfl⟩ := Int.eq_ofNat_of_zero_le this.1
  exact ⟨m, t, c, rfl, by omega, i64_bd w1, i64_bd w2⟩

end Go.Proofs.Ytkapdmhjhbmdjaa
