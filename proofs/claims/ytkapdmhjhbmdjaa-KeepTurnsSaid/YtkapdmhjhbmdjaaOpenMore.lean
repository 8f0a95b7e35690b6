/-
  Arguments that are slices: of octets, of waiting writes.
-/
import Derived.Test.YtkapdmhjhbmdjaaOpenDrv
import Derived.ChangeSlices
namespace Go.Proofs.Ytkapdmhjhbmdjaa
open Go.RowKit Go.ChangeShapes Go.WideShapes Go.ChangeAt
open Go.Joins Go.Deep

variable {H : Type} {enc : TypeId × Value → H} {w : World} {base : Nat} {spare : Nat → Bool} {held : Bool}

/-- A slice of octets. -/
structure Octs (w : World) (ao : Option Addr) (n : Nat) (l : List UInt8) : Prop where
  len : l.length = n
  row : Row w ao (byteCells l)
theorem Octs.below {w w' : World} {ao : Option Addr} {n : Nat} {l : List UInt8} (h : Octs w ao n l) (hb : Below w.heap.size w w') : Octs w' ao n l := ⟨h.len, h.row.below hb⟩
theorem elem_octs : Try.prog.elem 57 = 5 := by kernel_rfl
theorem idx_octs (b off n c k : Nat) (hk : k < n) (w : World) : (Instr.indexAt 57 (.slice (some ⟨b, off, none⟩) n c) (.int .i64 (k : Int))).run Try.prog w = .ok (.pointer (some ⟨b, off + k, none⟩)) w := by
  simp [go_sem, hk]
theorem byteCells_at (l : List UInt8) (i : Nat) (h : i < l.length) : (byteCells l)[i]? = some (.int .u8 ((l.getD i 0).toNat : Int)) := by
  simp [byteCells, List.getD, h]
theorem Octs.at {w : World} {ao : Option Addr} {n : Nat} {l : List UInt8} (h : Octs w ao n l) (c k : Nat) (hk : k < n) : ∃ b o, b < w.heap.size ∧
    (∀ W, (Instr.indexAt 57 (.slice ao n c) (.int .i64 (k : Int))).run Try.prog W = .ok (.pointer (some ⟨b, o, none⟩)) W) ∧ w.cell? ⟨b, o, none⟩ = some (.int .u8 ((l.getD k 0).toNat : Int)) := by
  have hl := h.len
  rcases h.row with h0 | ⟨b, off, rfl, hc⟩
  · have := byteCells_length l; rw [h0] at this; simp at this; omega
  · have h1 := hc k _ (byteCells_at l k (by omega))
    exact ⟨b, off + k, World.block_lt_of_cell? w _ h1, fun W => idx_octs b off n c k hk W, h1⟩

theorem u8_all : ∀ (zs : List Int), (∀ n ∈ zs, (Lit.int .u8 n).wf = true) → ∃ l : List UInt8, zs = l.map fun c => (c.toNat : Int) := by
  intro zs
  induction zs with
  | nil => intro _; exact ⟨[], rfl⟩
  | cons z zs ih =>
    intro h
    obtain ⟨l, rfl⟩ := ih (fun n hn => h n (by simp [hn]))
    have hz := h z (by simp)
    simp [Lit.wf, IntKind.min, IntKind.max, IntKind.bits, IntKind.signed] at hz
    refine ⟨UInt8.ofNat z.toNat :: l, ?_⟩
    simp only [List.map_cons, List.cons.injEq, and_true]
    have : (UInt8.ofNat z.toNat).toNat = z.toNat := by
      rw [UInt8.toNat_ofNat']
      omega
    omega

set_option maxRecDepth 100000 in
theorem open_u8s {r : Reach} {b0 : Nat} {v : Value} {d : DataW H} {p : List MemPlace} (hv : Value.okWide Try.prog w r b0 57 v) (h : DataW.Trod enc Try.prog w base spare held 57 v d p) :
    ∃ ao n c l, v = .slice ao n c ∧ Octs w ao n l ∧ n ≤ c ∧ c ≤ 9223372036854775807 ∧ True := by
  obtain ⟨a, len, cap, rfl⟩ := okWide_slice Try.underlying57 hv
  obtain ⟨fuel, hf⟩ := h
  rcases open_ints Try.underlying57 Try.underlying5 (by kernel_rfl) hf with ⟨e, _⟩ | ⟨ad, len', cap', zs, e, _, hl, hc, hzl, _, hx, hw⟩
  · have e' : Value.slice a len cap = .slice none 0 0 := by simpa [Value.cells] using e
    rw [e']
    exact ⟨none, 0, 0, [], rfl, ⟨rfl, .inl rfl⟩, Nat.le_refl _, by omega, trivial⟩
  · have e' : Value.slice a len cap = .slice (some ad) len' cap' := by simpa [Value.cells] using e
    rw [e']
    rw [maxLen_eq] at hc
    have hlm : len' ≤ zs.length := by rw [hzl]; split <;> omega
    obtain ⟨l, rfl⟩ := u8_all zs hw
    rw [List.length_map] at hlm hx
    refine ⟨some ad, len', cap', l.take len', rfl, ⟨by rw [List.length_take]; omega, ?_⟩, hl, hc, trivial⟩
    rcases Nat.eq_zero_or_pos len' with h0 | h0
    · subst h0; exact .inl (by simp [byteCells])
    · have hsp : ad.spot = none := by
        have := hx 0 (by omega)
        have e : ad.add 0 = ad := by simp [Addr.add]
        rw [e] at this
        exact World.cell?_spot this
      obtain ⟨b, off, spot⟩ := ad
      simp only at hsp
      subst hsp
      refine .inr ⟨b, off, rfl, fun j u hj => ?_⟩
      have hjl : j < len' := by
        have := (List.getElem?_eq_some_iff.1 hj).1
        rw [byteCells_length, List.length_take] at this
        omega
      rw [byteCells_at _ _ (by rw [List.length_take]; omega)] at hj
      injection hj with hj
      subst hj
      rw [← Addr.add_lit, hx j (by omega)]
      congr 1
      simp [List.getD_eq_getElem?_getD, hjl, show j < l.length by omega]

set_option maxRecDepth 100000 in
theorem open_waits {r : Reach} {b0 : Nat} {v : Value} {d : DataW H} {p : List MemPlace} (hv : Value.okWide Try.prog w r b0 23 v) (h : DataW.Trod enc Try.prog w base spare held 23 v d p) :
    ∃ ao n c q, v = .slice ao n c ∧ Waits w ao n q ∧ n ≤ c ∧ c ≤ 9223372036854775807 ∧ ∀ y ∈ q, y.s.length ≤ 9223372036854775807 := by
  obtain ⟨a, len, cap, rfl⟩ := okWide_slice Try.underlying23 hv
  obtain ⟨fuel, hf⟩ := h
  obtain ⟨ao, n, c, q, e, h1, h2, h3, h4⟩ := open_waits_at hf
  have e' : Value.slice a len cap = .slice ao n c := by simpa [Value.cells] using e
  exact ⟨ao, n, c, q, e', h1, h2, h3, h4⟩
set_option maxRecDepth 100000 in
theorem open_strs_arg {r : Reach} {b0 : Nat} {v : Value} {d : DataW H} {p : List MemPlace} (hv : Value.okWide Try.prog w r b0 22 v) (h : DataW.Trod enc Try.prog w base spare held 22 v d p) :
    ∃ ao n c xs, v = .slice ao n c ∧ Strs w ao n xs ∧ n ≤ c ∧ c ≤ 9223372036854775807 ∧ ∀ y ∈ xs, y.length ≤ 9223372036854775807 := by
  obtain ⟨a, len, cap, rfl⟩ := okWide_slice Try.underlying22 hv
  obtain ⟨fuel, hf⟩ := h
  obtain ⟨ao, n, c, q, e, h1, h2, h3, h4⟩ := open_strs_at hf
  have e' : Value.slice a len cap = .slice ao n c := by simpa [Value.cells] using e
  exact ⟨ao, n, c, q, e', h1, h2, h3, h4⟩

end Go.Proofs.Ytkapdmhjhbmdjaa
