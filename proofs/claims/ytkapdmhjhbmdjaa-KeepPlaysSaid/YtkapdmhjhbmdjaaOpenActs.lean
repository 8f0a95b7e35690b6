/-
  An argument that is a slice of acts: a record to add, or a text to save.
-/
import Derived.Test.YtkapdmhjhbmdjaaLawDsk
import Derived.Lib.SmallJoins
import Derived.Deep.Strs
import Derived.Deep.SlicePairs
import Derived.ChangeArms
import Derived.ChangeSlices
namespace Go.Proofs.Ytkapdmhjhbmdjaa
open Go.RowKit Go.ChangeShapes Go.WideShapes Go.ChangeAt
open Go.Joins Go.Deep

theorem maxLen_nat : maxLen = 9223372036854775807 := by unfold maxLen; rfl

/-- A record that is added, or a text that is saved. -/
structure Act19 where
  s : List UInt8
  save : Bool
def actVals (q : List Act19) : List Value := q.flatMap fun x => [Value.string (bs x.s), Value.bool x.save]
theorem actVals_length (q : List Act19) : (actVals q).length = q.length * 2 := by
  induction q with
  | nil => rfl
  | cons x q ih =>
    have e : actVals (x :: q) = [Value.string (bs x.s), Value.bool x.save] ++ actVals q := rfl
    rw [e, List.length_append, ih]; simp; omega
theorem actVals_at (q : List Act19) : ∀ i, i < q.length → (actVals q)[i * 2]? = some (.string (bs (q.getD i ⟨[], false⟩).s)) ∧ (actVals q)[i * 2 + 1]? = some (.bool (q.getD i ⟨[], false⟩).save) := by
  induction q with
  | nil => intro i h; simp at h
  | cons x q ih =>
    intro i h
    have e : actVals (x :: q) = Value.string (bs x.s) :: Value.bool x.save :: actVals q := rfl
    cases i with
    | zero => rw [e]; exact ⟨rfl, rfl⟩
    | succ i =>
      have h2 := ih i (by simpa using h)
      rw [e, show (i + 1) * 2 = i * 2 + 1 + 1 by omega]
      simpa using h2
structure Acts (w : World) (ao : Option Addr) (n : Nat) (q : List Act19) : Prop where
  len : q.length = n
  row : Row w ao (actVals q)
theorem Acts.below {w w' : World} {ao : Option Addr} {n : Nat} {q : List Act19} (h : Acts w ao n q) (hb : Below w.heap.size w w') : Acts w' ao n q := ⟨h.len, h.row.below hb⟩
theorem idx_acts (b off n c k : Nat) (hk : k < n) (w : World) : (Instr.indexAt 87 (.slice (some ⟨b, off, none⟩) n c) (.int .i64 (k : Int))).run Try.prog w = .ok (.pointer (some ⟨b, off + k * 2, none⟩)) w := by
  simp [go_sem, hk]
theorem Acts.at {w : World} {ao : Option Addr} {n : Nat} {q : List Act19} (h : Acts w ao n q) (c k : Nat) (hk : k < n) : ∃ b o, b < w.heap.size ∧
    (∀ W, (Instr.indexAt 87 (.slice ao n c) (.int .i64 (k : Int))).run Try.prog W = .ok (.pointer (some ⟨b, o, none⟩)) W) ∧
    w.cell? ⟨b, o, none⟩ = some (.string (bs (q.getD k ⟨[], false⟩).s)) ∧ w.cell? ⟨b, o + 1, none⟩ = some (.bool (q.getD k ⟨[], false⟩).save) := by
  have hl := h.len
  rcases h.row with h0 | ⟨b, off, rfl, hc⟩
  · have := actVals_length q; rw [h0] at this; simp at this; omega
  · obtain ⟨e1, e2⟩ := actVals_at q k (by omega)
    have h1 := hc _ _ e1
    have h2 := hc _ _ e2
    exact ⟨b, off + k * 2, World.block_lt_of_cell? w _ h1, fun W => idx_acts b off n c k hk W, h1, by rw [Nat.add_assoc]; exact h2⟩

section
variable {H : Type} {enc : TypeId × Value → H} {w : World} {base : Nat} {spare : Nat → Bool} {held : Bool}

set_option maxRecDepth 100000 in
theorem open_acts_at {fuel : Nat} {cs : List Value} {x : DataW H × List MemPlace} (h : DataW.trod enc Try.prog w base spare held fuel 87 cs = some x) :
    ∃ ao n c q, cs = [.slice ao n c] ∧ Acts w ao n q ∧ n ≤ c ∧ c ≤ 9223372036854775807 ∧ ∀ y ∈ q, y.s.length ≤ 9223372036854775807 := by
  rcases open_slice_pairs Try.underlying87 Try.underlying96 (by kernel_rfl) rfl rfl (by kernel_rfl) (by kernel_rfl) h with ⟨rfl, _⟩ | ⟨a, len, cap, m, n, V0, V1, D0, D1, P0, P1, rfl, _, hl, hc, hm, _, hx⟩
  · exact ⟨none, 0, 0, [], rfl, ⟨rfl, .inl rfl⟩, Nat.le_refl _, by omega, by simp⟩
  · rw [maxLen_nat] at hc
    have hlm : len ≤ m := by rw [hm]; split <;> omega
    have hall : ∀ i, ∃ (s : ByteArray) (o : Bool), i < m → V0 i = .string s ∧ V1 i = .bool o ∧ s.size ≤ maxLen := by
      intro i
      by_cases hi : i < m
      · obtain ⟨_, _, h0, h1⟩ := hx i hi
        obtain ⟨s, hs, _, hm⟩ := DataW.trod_string Try.underlying9 h0
        obtain ⟨o, ho, _⟩ := DataW.trod_bool Try.underlying4 h1
        simp only [List.cons.injEq, and_true] at ho hs
        exact ⟨s, o, fun _ => ⟨hs, ho, hm⟩⟩
      · exact ⟨⟨#[]⟩, false, fun h => absurd h hi⟩
    obtain ⟨S, hall⟩ := Classical.axiomOfChoice hall
    obtain ⟨Z, hall⟩ := Classical.axiomOfChoice hall
    refine ⟨some a, len, cap, (List.range len).map fun i => ⟨(S i).data.toList, Z i⟩, rfl, ⟨by simp, ?_⟩, hl, hc, ?_⟩
    · rcases Nat.eq_zero_or_pos len with h0 | h0
      · subst h0; exact .inl rfl
      · have hsp : a.spot = none := by
          have := (hx 0 (by omega)).1
          have e : a.add (0 * 2) = a := by simp [Addr.add]
          rw [e] at this
          exact World.cell?_spot this
        obtain ⟨b, off, spot⟩ := a
        simp only at hsp
        subst hsp
        have hq : ((List.range len).map fun i => (⟨(S i).data.toList, Z i⟩ : Act19)).length = len := by simp
        refine .inr ⟨b, off, rfl, fun j v hj => ?_⟩
        have hjl : j < len * 2 := by
          have := (List.getElem?_eq_some_iff.1 hj).1
          rw [actVals_length, hq] at this
          exact this
        have hi : j / 2 < len := by omega
        obtain ⟨e1, e2⟩ := actVals_at ((List.range len).map fun i => (⟨(S i).data.toList, Z i⟩ : Act19)) (j / 2) (by rw [hq]; exact hi)
        have hg : ((List.range len).map fun i => (⟨(S i).data.toList, Z i⟩ : Act19)).getD (j / 2) ⟨[], false⟩ = ⟨(S (j / 2)).data.toList, Z (j / 2)⟩ := by
          simp [List.getD_eq_getElem?_getD, hi]
        rw [hg] at e1 e2
        obtain ⟨c0, c1, _, _⟩ := hx (j / 2) (by omega)
        obtain ⟨v0, v1, _⟩ := hall (j / 2) (by omega)
        rw [Addr.add_lit] at c0 c1
        by_cases hj2 : j % 2 = 0
        · rw [show j / 2 * 2 = j by omega] at e1 c0
          rw [hj] at e1
          injection e1 with e1
          subst e1
          rw [c0, v0]
          rfl
        · rw [show j / 2 * 2 + 1 = j by omega] at e2 c1
          rw [hj] at e2
          injection e2 with e2
          subst e2
          rw [c1, v1]
    · intro y hy
      obtain ⟨i, hi, rfl⟩ := List.mem_map.1 hy
      have := (hall i (by have := List.mem_range.1 hi; omega)).2.2
      rw [maxLen_nat] at this
      simpa using this

set_option maxRecDepth 100000 in
theorem open_acts_arg {r : Reach} {b0 : Nat} {v : Value} {d : DataW H} {p : List MemPlace} (hv : Value.okWide Try.prog w r b0 87 v) (h : DataW.Trod enc Try.prog w base spare held 87 v d p) :
    ∃ ao n c q, v = .slice ao n c ∧ Acts w ao n q ∧ n ≤ c ∧ c ≤ 9223372036854775807 ∧ ∀ y ∈ q, y.s.length ≤ 9223372036854775807 := by
  obtain ⟨a, len, cap, rfl⟩ := okWide_slice Try.underlying87 hv
  obtain ⟨fuel, hf⟩ := h
  obtain ⟨ao, n, c, q, e, h1, h2, h3, h4⟩ := open_acts_at hf
  have e' : Value.slice a len cap = .slice ao n c := by simpa [Value.cells] using e
  exact ⟨ao, n, c, q, e', h1, h2, h3, h4⟩
end

end Go.Proofs.Ytkapdmhjhbmdjaa
