/-
  An argument that is a slice of losses: what crashes do.
-/
import Derived.Test.YtkapdmhjhbmdjaaOpenMore
namespace Go.Proofs.Ytkapdmhjhbmdjaa
open Go.RowKit Go.ChangeShapes Go.WideShapes Go.ChangeAt
open Go.Joins Go.Deep

/-- What a crash does. -/
structure Lo where
  kept : Nat
  tn : Int
  cut : Int
def Lo.In (x : Lo) : Prop := x.kept < 18446744073709551616 ∧ (-9223372036854775808 ≤ x.tn ∧ x.tn < 9223372036854775808) ∧ (-9223372036854775808 ≤ x.cut ∧ x.cut < 9223372036854775808)
def lossVals (q : List Lo) : List Value := q.flatMap fun x => [Value.int .u64 (x.kept : Int), Value.int .i64 x.tn, Value.int .i64 x.cut]
theorem lossVals_length (q : List Lo) : (lossVals q).length = q.length * 3 := by
  induction q with
  | nil => rfl
  | cons x q ih =>
    have e : lossVals (x :: q) = [Value.int .u64 (x.kept : Int), Value.int .i64 x.tn, Value.int .i64 x.cut] ++ lossVals q := rfl
    rw [e, List.length_append, ih]; simp; omega
theorem lossVals_at (q : List Lo) : ∀ i, i < q.length → (lossVals q)[i * 3]? = some (.int .u64 ((q.getD i ⟨0, 0, 0⟩).kept : Int)) ∧ (lossVals q)[i * 3 + 1]? = some (.int .i64 (q.getD i ⟨0, 0, 0⟩).tn) ∧ (lossVals q)[i * 3 + 2]? = some (.int .i64 (q.getD i ⟨0, 0, 0⟩).cut) := by
  induction q with
  | nil => intro i h; simp at h
  | cons x q ih =>
    intro i h
    have e : lossVals (x :: q) = Value.int .u64 (x.kept : Int) :: Value.int .i64 x.tn :: Value.int .i64 x.cut :: lossVals q := rfl
    cases i with
    | zero => rw [e]; exact ⟨rfl, rfl, rfl⟩
    | succ i =>
      have h2 := ih i (by simpa using h)
      rw [e, show (i + 1) * 3 = i * 3 + 1 + 1 + 1 by omega]
      simpa using h2
structure Losses (w : World) (ao : Option Addr) (n : Nat) (q : List Lo) : Prop where
  len : q.length = n
  range : ∀ x ∈ q, x.In
  row : Row w ao (lossVals q)
theorem Losses.below {w w' : World} {ao : Option Addr} {n : Nat} {q : List Lo} (h : Losses w ao n q) (hb : Below w.heap.size w w') : Losses w' ao n q := ⟨h.len, h.range, h.row.below hb⟩
theorem idx_losses (b off n c k : Nat) (hk : k < n) (w : World) : (Instr.indexAt 85 (.slice (some ⟨b, off, none⟩) n c) (.int .i64 (k : Int))).run Try.prog w = .ok (.pointer (some ⟨b, off + k * 3, none⟩)) w := by
  simp [go_sem, hk]
theorem Losses.at {w : World} {ao : Option Addr} {n : Nat} {q : List Lo} (h : Losses w ao n q) (c k : Nat) (hk : k < n) : ∃ b o, b < w.heap.size ∧
    (∀ W, (Instr.indexAt 85 (.slice ao n c) (.int .i64 (k : Int))).run Try.prog W = .ok (.pointer (some ⟨b, o, none⟩)) W) ∧
    w.cell? ⟨b, o, none⟩ = some (.int .u64 ((q.getD k ⟨0, 0, 0⟩).kept : Int)) ∧ w.cell? ⟨b, o + 1, none⟩ = some (.int .i64 (q.getD k ⟨0, 0, 0⟩).tn) ∧ w.cell? ⟨b, o + 2, none⟩ = some (.int .i64 (q.getD k ⟨0, 0, 0⟩).cut) ∧ (q.getD k ⟨0, 0, 0⟩).In := by
  have hl := h.len
  rcases h.row with h0 | ⟨b, off, rfl, hc⟩
  · have := lossVals_length q; rw [h0] at this; simp at this; omega
  · obtain ⟨e1, e2, e3⟩ := lossVals_at q k (by omega)
    have h1 := hc _ _ e1
    have h2 := hc _ _ e2
    have h3 := hc _ _ e3
    refine ⟨b, off + k * 3, World.block_lt_of_cell? w _ h1, fun W => idx_losses b off n c k hk W, h1, by rw [Nat.add_assoc]; exact h2, by rw [Nat.add_assoc]; exact h3, ?_⟩
    refine h.range _ ?_
    rw [List.getD_eq_getElem?_getD, List.getElem?_eq_getElem (by omega)]
    exact List.getElem_mem _

section
variable {H : Type} {enc : TypeId × Value → H} {w : World} {base : Nat} {spare : Nat → Bool} {held : Bool}

set_option maxRecDepth 100000 in
theorem open_losses_at {fuel : Nat} {cs : List Value} {x : DataW H × List MemPlace} (h : DataW.trod enc Try.prog w base spare held fuel 85 cs = some x) :
    ∃ ao n c q, cs = [.slice ao n c] ∧ Losses w ao n q ∧ n ≤ c ∧ c ≤ 9223372036854775807 := by
  rcases open_slice Try.underlying85 h with ⟨rfl, _⟩ | ⟨a, len, cap, m, n, D, Pl, rfl, _, hl, hc, hm, _, hx⟩
  · exact ⟨none, 0, 0, [], rfl, ⟨rfl, by simp, .inl rfl⟩, Nat.le_refl _, by omega⟩
  · rw [maxLen_eq] at hc
    have hlm : len ≤ m := by rw [hm]; split <;> omega
    have ce : Try.prog.cellsOf 28 = 3 := by kernel_rfl
    have hall : ∀ i, ∃ q : Lo, i < m → q.In ∧ w.cell? (a.add (i * 3)) = some (.int .u64 (q.kept : Int)) ∧ w.cell? (a.add (i * 3 + 1)) = some (.int .i64 q.tn) ∧ w.cell? (a.add (i * 3 + 2)) = some (.int .i64 q.cut) := by
      intro i
      by_cases hi : i < m
      · obtain ⟨cs', h1, h2⟩ := hx i hi
        rw [ce] at h1
        obtain ⟨_, hlen, hcell⟩ := World.cells?_some h1
        obtain ⟨xs, k, hk, hxy, _, hxl, hf⟩ := DataW.trod_struct Try.underlying28 h2
        match xs, hxl, cs', hlen with
        | [y0, y1, y2], _, [v0, v1, v2], _ =>
          have g0 := hf 0 _ rfl
          have g1 := hf 1 _ rfl
          have g2 := hf 2 _ rfl
          have c0 : Try.prog.cellsOf 26 = 1 := by kernel_rfl
          have c1 : Try.prog.cellsOf 3 = 1 := by kernel_rfl
          simp [c0, c1] at g0 g1 g2
          have e0 := hcell 0 (by omega)
          have e1 := hcell 1 (by omega)
          have e2 := hcell 2 (by omega)
          rw [add_add] at e0 e1 e2
          obtain ⟨z0, q0, _, w0⟩ := DataW.trod_int Try.underlying26 g0
          obtain ⟨z1, q1, _, w1⟩ := DataW.trod_int Try.underlying3 g1
          obtain ⟨z2, q2, _, w2⟩ := DataW.trod_int Try.underlying3 g2
          simp only [List.cons.injEq, and_true] at q0 q1 q2
          subst q0; subst q1; subst q2
          have hw0 := u64_bd w0
          obtain ⟨kk, rfl⟩ := Int.eq_ofNat_of_zero_le hw0.1
          exact ⟨⟨kk, z1, z2⟩, fun _ => ⟨⟨by simp only; omega, i64_bd w1, i64_bd w2⟩, by simpa using e0, by simpa using e1, by simpa using e2⟩⟩
      · exact ⟨⟨0, 0, 0⟩, fun h => absurd h hi⟩
    obtain ⟨Q, hall⟩ := Classical.axiomOfChoice hall
    refine ⟨some a, len, cap, (List.range len).map Q, rfl, ⟨by simp, ?_, ?_⟩, hl, hc⟩
    · intro y hy
      obtain ⟨i, hi, rfl⟩ := List.mem_map.1 hy
      exact (hall i (by have := List.mem_range.1 hi; omega)).1
    · rcases Nat.eq_zero_or_pos len with h0 | h0
      · subst h0; exact .inl rfl
      · have hsp : a.spot = none := by
          have := (hall 0 (by omega)).2.1
          have e : a.add (0 * 3) = a := by simp [Addr.add]
          rw [e] at this
          exact World.cell?_spot this
        obtain ⟨b, off, spot⟩ := a
        simp only at hsp
        subst hsp
        have hq : ((List.range len).map Q).length = len := by simp
        refine .inr ⟨b, off, rfl, fun j v hj => ?_⟩
        have hjl : j < len * 3 := by
          have := (List.getElem?_eq_some_iff.1 hj).1
          rw [lossVals_length, hq] at this
          exact this
        have hi : j / 3 < len := by omega
        obtain ⟨e1, e2, e3⟩ := lossVals_at ((List.range len).map Q) (j / 3) (by rw [hq]; exact hi)
        have hg : ((List.range len).map Q).getD (j / 3) ⟨0, 0, 0⟩ = Q (j / 3) := by
          simp [List.getD_eq_getElem?_getD, hi]
        rw [hg] at e1 e2 e3
        obtain ⟨_, c0, c1, c2⟩ := hall (j / 3) (by omega)
        rw [Addr.add_lit] at c0 c1 c2
        have hm3 : j % 3 = 0 ∨ j % 3 = 1 ∨ j % 3 = 2 := by omega
        rcases hm3 with h3 | h3 | h3
        · rw [show j / 3 * 3 = j by omega] at e1 c0
          rw [hj] at e1
          injection e1 with e1
          subst e1
          exact c0
        · rw [show j / 3 * 3 + 1 = j by omega] at e2 c1
          rw [hj] at e2
          injection e2 with e2
          subst e2
          exact c1
        · rw [show j / 3 * 3 + 2 = j by omega] at e3 c2
          rw [hj] at e3
          injection e3 with e3
          subst e3
          exact c2

set_option maxRecDepth 100000 in
theorem open_losses_arg {r : Reach} {b0 : Nat} {v : Value} {d : DataW H} {p : List MemPlace} (hv : Value.okWide Try.prog w r b0 85 v) (h : DataW.Trod enc Try.prog w base spare held 85 v d p) :
    ∃ ao n c q, v = .slice ao n c ∧ Losses w ao n q ∧ n ≤ c ∧ c ≤ 9223372036854775807 ∧ True := by
  obtain ⟨a, len, cap, rfl⟩ := okWide_slice Try.underlying85 hv
  obtain ⟨fuel, hf⟩ := h
  obtain ⟨ao, n, c, q, e, h1, h2, h3⟩ := open_losses_at hf
  have e' : Value.slice a len cap = .slice ao n c := by simpa [Value.cells] using e
  exact ⟨ao, n, c, q, e', h1, h2, h3, trivial⟩
end

end Go.Proofs.Ytkapdmhjhbmdjaa
