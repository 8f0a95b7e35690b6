/-
  An argument that reads as a drive is a drive in memory. What the walk of TrystKeeps carries, in plain Lean: records and texts that are made of events that may be. An argument that is a slice of events: each one's fields are a slice of their own. The walk through the statement TrystKeeps: it returns true.
-/
import Derived.Test.YtogonkoeginoaaaGreatDoorLawDsk
import Derived.Lib.SmallJoins
import Derived.Deep.Strs
import Derived.Deep.SlicePairs
import Derived.ChangeArms
import Derived.Test.YtogonkoeginoaaaGreatDoorEvA
import Derived.Test.YtogonkoeginoaaaGreatDoorKpD
import Derived.ChangeSlices
import Derived.Test.YtogonkoeginoaaaGreatDoorEvB
import Derived.Test.YtogonkoeginoaaaGreatDoorEvC
import Derived.Deep.CutBlock
namespace Go.Proofs.YtogonkoeginoaaaGreatDoor
open Go.RowKit Go.ChangeShapes Go.WideShapes Go.ChangeAt
open Go.Joins Go.Deep

variable {H : Type} {enc : TypeId × Value → H} {w : World} {base : Nat} {spare : Nat → Bool} {held : Bool}

theorem maxLen_eq : maxLen = 9223372036854775807 := rfl
theorem open_strs_at {fuel : Nat} {cs : List Value} {x : DataW H × List MemPlace} (h : DataW.trod enc Tryz.prog w base spare held fuel 32 cs = some x) :
    ∃ ao n c xs, cs = [.slice ao n c] ∧ Strs w ao n xs ∧ n ≤ c ∧ c ≤ 9223372036854775807 ∧ ∀ y ∈ xs, y.length ≤ 9223372036854775807 := by
  rcases open_strs Tryz.underlying32 Tryz.underlying9 (by kernel_rfl) h with ⟨rfl, _⟩ | ⟨a, len, cap, m, Sx, rfl, _, hl, hc, hm, _, hx⟩
  · exact ⟨none, 0, 0, [], rfl, ⟨rfl, .inl rfl⟩, Nat.le_refl _, by omega, by simp⟩
  · rw [maxLen_eq] at hc
    have hlm : len ≤ m := by rw [hm]; split <;> omega
    refine ⟨some a, len, cap, (List.range len).map fun i => (Sx i).data.toList, rfl, ⟨by simp, ?_⟩, hl, hc, ?_⟩
    · rcases Nat.eq_zero_or_pos len with h0 | h0
      · subst h0; exact .inl rfl
      · have hsp : a.spot = none := by
          have := (hx 0 (by omega)).1
          have e : a.add 0 = a := by simp [Addr.add]
          rw [e] at this
          exact World.cell?_spot this
        obtain ⟨b, off, spot⟩ := a
        simp only at hsp
        subst hsp
        refine .inr ⟨b, off, rfl, fun j v hj => ?_⟩
        unfold strVals at hj
        rw [List.map_map] at hj
        have hjl : j < len := by
          have := (List.getElem?_eq_some_iff.1 hj).1
          simpa using this
        simp [hjl] at hj
        subst hj
        rw [← Addr.add_lit]
        exact (hx j (by omega)).1
    · intro y hy
      obtain ⟨i, hi, rfl⟩ := List.mem_map.1 hy
      have := (hx i (by have := List.mem_range.1 hi; omega)).2
      rw [maxLen_eq] at this
      simpa using this
theorem open_waits_at {fuel : Nat} {cs : List Value} {x : DataW H × List MemPlace} (h : DataW.trod enc Tryz.prog w base spare held fuel 42 cs = some x) :
    ∃ ao n c q, cs = [.slice ao n c] ∧ Waits w ao n q ∧ n ≤ c ∧ c ≤ 9223372036854775807 ∧ ∀ y ∈ q, y.s.length ≤ 9223372036854775807 := by
  rcases open_slice_pairs Tryz.underlying42 Tryz.underlying96 (by kernel_rfl) rfl rfl (by kernel_rfl) (by kernel_rfl) h with ⟨rfl, _⟩ | ⟨a, len, cap, m, n, V0, V1, D0, D1, P0, P1, rfl, _, hl, hc, hm, _, hx⟩
  · exact ⟨none, 0, 0, [], rfl, ⟨rfl, by simp, .inl rfl⟩, Nat.le_refl _, by omega, by simp⟩
  · rw [maxLen_eq] at hc
    have hlm : len ≤ m := by rw [hm]; split <;> omega
    have hall : ∀ i, ∃ (z : Int) (s : ByteArray), i < m → V0 i = .int .i64 z ∧ V1 i = .string s ∧ (Lit.int .i64 z).wf = true ∧ s.size ≤ maxLen := by
      intro i
      by_cases hi : i < m
      · obtain ⟨_, _, h0, h1⟩ := hx i hi
        obtain ⟨z, hz, _, hw⟩ := DataW.trod_int Tryz.underlying3 h0
        obtain ⟨s, hs, _, hm⟩ := DataW.trod_string Tryz.underlying9 h1
        simp only [List.cons.injEq, and_true] at hz hs
        exact ⟨z, s, fun _ => ⟨hz, hs, hw, hm⟩⟩
      · exact ⟨0, ⟨#[]⟩, fun h => absurd h hi⟩
    obtain ⟨Z, hall⟩ := Classical.axiomOfChoice hall
    obtain ⟨S, hall⟩ := Classical.axiomOfChoice hall
    refine ⟨some a, len, cap, (List.range len).map fun i => ⟨Z i, (S i).data.toList⟩, rfl, ⟨by simp, ?_, ?_⟩, hl, hc, ?_⟩
    · intro y hy
      obtain ⟨i, hi, rfl⟩ := List.mem_map.1 hy
      have := (hall i (by have := List.mem_range.1 hi; omega)).2.2.1
      exact i64_bd this
    · rcases Nat.eq_zero_or_pos len with h0 | h0
      · subst h0; exact .inl rfl
      · have hsp : a.spot = none := by
          have := (hx 0 (by omega)).1
          have e : a.add (0 * 2) = a := by simp [Addr.add]
          rw [e] at this
          exact World.cell?_spot this
        obtain ⟨b, off, spot⟩ := a
        simp only at hsp
        subst hsp
        have hq : ((List.range len).map fun i => (⟨Z i, (S i).data.toList⟩ : Wt)).length = len := by simp
        refine .inr ⟨b, off, rfl, fun j v hj => ?_⟩
        have hjl : j < len * 2 := by
          have := (List.getElem?_eq_some_iff.1 hj).1
          rw [waitVals_length, hq] at this
          exact this
        have hi : j / 2 < len := by omega
        obtain ⟨e1, e2⟩ := waitVals_at ((List.range len).map fun i => (⟨Z i, (S i).data.toList⟩ : Wt)) (j / 2) (by rw [hq]; exact hi)
        have hg : ((List.range len).map fun i => (⟨Z i, (S i).data.toList⟩ : Wt)).getD (j / 2) ⟨0, []⟩ = ⟨Z (j / 2), (S (j / 2)).data.toList⟩ := by
          simp [List.getD_eq_getElem?_getD, hi]
        rw [hg] at e1 e2
        obtain ⟨c0, c1, _, _⟩ := hx (j / 2) (by omega)
        obtain ⟨v0, v1, _, _⟩ := hall (j / 2) (by omega)
        rw [Addr.add_lit] at c0 c1
        by_cases hj2 : j % 2 = 0
        · rw [show j / 2 * 2 = j by omega] at e1 c0
          rw [hj] at e1
          injection e1 with e1
          subst e1
          rw [c0, v0]
        · rw [show j / 2 * 2 + 1 = j by omega] at e2 c1
          rw [hj] at e2
          injection e2 with e2
          subst e2
          rw [c1, v1]
          rfl
    · intro y hy
      obtain ⟨i, hi, rfl⟩ := List.mem_map.1 hy
      have := (hall i (by have := List.mem_range.1 hi; omega)).2.2.2
      rw [maxLen_eq] at this
      simpa using this

set_option maxRecDepth 100000 in
/-- A drive that comes in. -/
theorem open_drive {r : Reach} {b0 : Nat} {v : Value} {d : DataW H} {p : List MemPlace} (hv : Value.okWide Tryz.prog w r b0 44 v) (h : DataW.Trod enc Tryz.prog w base spare held 44 v d p) : ∃ D, IsDrive w v D := by
  obtain ⟨v0, v1, v2, v3, y0, y1, y2, y3, n, rfl, _, _, h0, h1, h2, h3⟩ := open_agg4 Tryz.underlying44 (by kernel_rfl) (by kernel_rfl) hv h
  obtain ⟨a1, n1, c1, xs, e0, hs, l1, m1, _⟩ := open_strs_at h0
  obtain ⟨a2, n2, c2, q, e1, hq, l2, m2, _⟩ := open_waits_at h1
  obtain ⟨f, e2, _, hw⟩ := DataW.trod_int Tryz.underlying3 h2
  obtain ⟨o, e3, _⟩ := DataW.trod_bool Tryz.underlying4 h3
  simp only [List.cons.injEq, and_true] at e0 e1 e2 e3
  subst e0; subst e1; subst e2; subst e3
  exact ⟨⟨xs, q, f, o⟩, a1, n1, c1, a2, n2, c2, f, o, rfl, hs, hq, ⟨l1, m1⟩, ⟨l2, m2⟩, rfl, rfl, i64_bd hw⟩
set_option maxRecDepth 100000 in
/-- A loss that comes in. -/
theorem open_loss {r : Reach} {b0 : Nat} {v : Value} {d : DataW H} {p : List MemPlace} (hv : Value.okWide Tryz.prog w r b0 25 v) (h : DataW.Trod enc Tryz.prog w base spare held 25 v d p) :
    ∃ (kept : Nat) (tn cut : Int), v = .agg #[.int .u64 (kept : Int), .int .i64 tn, .int .i64 cut] ∧ kept < 18446744073709551616 ∧ (-9223372036854775808 ≤ tn ∧ tn < 9223372036854775808) ∧ (-9223372036854775808 ≤ cut ∧ cut < 9223372036854775808) := by
  obtain ⟨v0, v1, v2, y0, y1, y2, n, rfl, _, _, h0, h1, h2⟩ := open_agg3 Tryz.underlying25 (by kernel_rfl) (by kernel_rfl) hv h
  obtain ⟨k, e0, _, w0⟩ := DataW.trod_int Tryz.underlying23 h0
  obtain ⟨t, e1, _, w1⟩ := DataW.trod_int Tryz.underlying3 h1
  obtain ⟨c, e2, _, w2⟩ := DataW.trod_int Tryz.underlying3 h2
  simp only [List.cons.injEq, and_true] at e0 e1 e2
  subst e0; subst e1; subst e2
  have := u64_bd w0
  obtain ⟨m, rfl⟩ := Int.eq_ofNat_of_zero_le this.1
  exact ⟨m, t, c, rfl, by omega, i64_bd w1, i64_bd w2⟩

end Go.Proofs.YtogonkoeginoaaaGreatDoor

namespace Go.Proofs.YtogonkoeginoaaaGreatDoor
open Go.RowKit

/-- An event that may be, of values that there are. -/
structure Good (e : Ev) : Prop where
  may : mayE e = true
  inr : e.In
  fds : ∀ x ∈ e.l, x.In
/-- Records that are events' octets. -/
def GoodL (l : List (List UInt8)) : Prop := ∃ es : List Ev, (∀ e ∈ es, Good e) ∧ l = es.map layE
/-- A text of events' octets, one behind the other. -/
def GoodT (t : List UInt8) : Prop := ∃ es : List Ev, (∀ e ∈ es, Good e) ∧ t = (es.map layE).flatten
theorem GoodL.nil : GoodL [] := ⟨[], by simp, rfl⟩
theorem GoodT.nil : GoodT [] := ⟨[], by simp, rfl⟩
theorem GoodL.snoc {l : List (List UInt8)} (h : GoodL l) {e : Ev} (he : Good e) : GoodL (l ++ [layE e]) := by
  obtain ⟨es, h1, rfl⟩ := h
  refine ⟨es ++ [e], fun x hx => ?_, by simp⟩
  rcases List.mem_append.1 hx with h | h
  · exact h1 x h
  · rw [List.mem_singleton] at h; rw [h]; exact he
theorem GoodL.flat {l : List (List UInt8)} (h : GoodL l) : GoodT l.flatten := by
  obtain ⟨es, h1, rfl⟩ := h
  exact ⟨es, h1, rfl⟩
theorem GoodL.short {l : List (List UInt8)} (h : GoodL l) : ∀ s ∈ l, 1 ≤ s.length ∧ s.length ≤ 701 := by
  obtain ⟨es, h1, rfl⟩ := h
  intro s hs
  obtain ⟨e, he, rfl⟩ := List.mem_map.1 hs
  exact layE_length (h1 e he).may
theorem flat_length {l : List (List UInt8)} (h : ∀ s ∈ l, s.length ≤ 701) : l.flatten.length ≤ 701 * l.length := by
  induction l with
  | nil => simp
  | cons s l ih =>
    have h1 := h s (by simp)
    have h2 := ih (fun x hx => h x (by simp [hx]))
    rw [List.flatten_cons, List.length_append, List.length_cons]
    omega
theorem flat_take {l : List (List UInt8)} {j : Nat} (h : j < l.length) : (l.take (j + 1)).flatten = (l.take j).flatten ++ l.getD j [] := by
  have e : l.take (j + 1) = l.take j ++ [l.getD j []] := by
    rw [List.take_add_one, List.getElem?_eq_getElem h, List.getD_eq_getElem?_getD, List.getElem?_eq_getElem h]
    rfl
  rw [e, List.flatten_append]
  simp
theorem GoodL.flat_short {l : List (List UInt8)} (h : GoodL l) (j : Nat) : (l.take j).flatten.length ≤ 701 * l.length := by
  have h1 := flat_length (l := l.take j) (fun s hs => (h.short s (List.mem_of_mem_take hs)).2)
  have h2 : (l.take j).length ≤ l.length := by rw [List.length_take]; omega
  have h3 := Nat.mul_le_mul_left 701 h2
  omega
theorem GoodT.next {t : List UInt8} (h : GoodT t) (hne : t ≠ []) : ∃ e r, Good e ∧ t = layE e ++ r ∧ GoodT r := by
  obtain ⟨es, h1, rfl⟩ := h
  cases es with
  | nil => exact absurd rfl hne
  | cons e es => exact ⟨e, (es.map layE).flatten, h1 e (by simp), by simp, es, fun x hx => h1 x (by simp [hx]), rfl⟩
theorem kOf_short {n : Nat} (h : n ≤ 701) : kOf n ≤ 12 := by unfold kOf; omega

section
variable {w0 w' : World} {b base : Nat} {v : Value} {h : Hv} {m : Hd} {cs : List (List UInt8)} {text : List UInt8} {l : List (List UInt8)} {s : List UInt8}
/-- A row of strings beside a Keep. -/
theorem AddDone.row {E : Int} {B : Nat} {lv : Value} {xs : List (List UInt8)} (d : AddDone w0 w' b base v h m text l s E) (k : KpAt w0 b base v h m cs text l) (o : OwnS w0 B lv xs) (hv : lv.ownBlock = none ∨ lv.ownBlock ≠ v.ownBlock) : OwnS w' B lv xs := by
  rcases d with ⟨_, v', cs', _, _, a1, a2, g1, g2, k64, g3⟩ | ⟨_, hb⟩
  · obtain ⟨vs, hB, hp⟩ := k.block
    have hob : lv.ownBlock = none ∨ lv.ownBlock ≠ some b := .inr (own_type o hB (by decide))
    exact ((OwnZ.kept o g1 hob).kept g2 hv).kept g3 hob
  · exact OwnZ.below o hb
theorem KpAt.saveRow {B : Nat} {lv : Value} {xs : List (List UInt8)} (k : KpAt w0 b base v h m cs text l) (o : OwnS w0 B lv xs) (hg : w0.grownBy w' (some b)) : OwnS w' B lv xs := by
  obtain ⟨vs, hB, hp⟩ := k.block
  exact OwnZ.kept o hg (.inr (own_type o hB (by decide)))
/-- The row grows beside the Keep. -/
theorem KpAt.rowStep {B : Nat} {lv : Value} {xs : List (List UInt8)} (k : KpAt w0 b base v h m cs text l) (o : OwnS w0 B lv xs) (hg : w0.grownBy w' lv.ownBlock) (k64 : Keeps64 w0 w') (hv : lv.ownBlock = none ∨ lv.ownBlock ≠ v.ownBlock) : KpAt w' b base v h m cs text l := by
  obtain ⟨vs, hB, hp⟩ := k.block
  obtain ⟨⟨a1, n1, c1, a2, n2, c2, h1, h2⟩, h3, h4⟩ := k
  refine ⟨⟨a1, n1, c1, a2, n2, c2, h1.grown hg (fun e => own_type o hB (by decide) e.symm), h2.keeps64 k64 h4.cell rfl⟩, OwnZ.kept h3 hg ?_, h4⟩
  rcases hv with hv | hv
  · rw [hv]
    cases v.ownBlock with
    | none => exact .inl rfl
    | some g => exact .inr (by simp)
  · exact .inr (fun e => hv e.symm)
end


theorem cellsOf_short {n : Nat} (h : n ≤ 4000) : cellsOf (n : Int) = (kOf n : Int) := by
  unfold cellsOf
  rw [if_neg (by omega)]
  rfl
set_option maxRecDepth 100000 in
set_option maxHeartbeats 800000 in
/-- The drive's own value. -/
theorem kdrive_val {b : Nat} {v : Value} {h : Hv} {m : Hd} {a1 : Option Addr} {n1 c1 : Nat} {a2 : Option Addr} {n2 c2 : Nat} {t : Tp} {s : ByteArray} (w : World) (h1 : Blk w b (kpCells h m a1 n1 c1 a2 n2 c2 t s v) 66) :
    Calls Tryz.prog 12 #[.pointer (some ⟨b, 0, none⟩)] w fun e w' => e = .returned (.agg #[.slice a1 n1 c1, .slice a2 n2 c2, .int .i64 (-1), .bool false]) ∧ Below w.heap.size w w' := by
  have hlt := h1.lt
  have hb0 : Below w.heap.size w (w.alloc (.cells #[.slice none 0 0, .slice none 0 0, .int .i64 0, .bool false] 44)) := (Below.refl _ _).alloc (Nat.le_refl _) _
  have B1 := Blk.new w [.slice none 0 0, .slice none 0 0, .int .i64 0, .bool false] 44
  obtain ⟨W0, hW0⟩ : ∃ z, w.alloc (.cells #[.slice none 0 0, .slice none 0 0, .int .i64 0, .bool false] 44) = z := ⟨_, rfl⟩
  have B0 : Blk W0 w.heap.size [.slice none 0 0, .slice none 0 0, .int .i64 0, .bool false] 44 := by rw [← hW0]; exact B1
  rw [hW0] at hb0
  have K0 := h1.next hb0
  obtain ⟨_, ⟨p6, p7, p8, p9⟩, _⟩ := kp_cells K0
  obtain ⟨q0, q1, q2, q3, q4, q5, q6, q7⟩ := B0.four
  have hne : b ≠ w.heap.size := by omega
  have hne' : w.heap.size ≠ b := by omega
  clear h1 B1 K0
  go_enter Tryz.func12, Tryz.ntmps12
  go_upto_region 1 with fail
  try rw [hW0]
  clear hW0
  go_wp2_with fail
  exact bodyPost_ret (v := .agg #[.slice a1 n1 c1, .slice a2 n2 c2, .int .i64 (-1), .bool false]) (by simp [results, Tryz.results12, go_sem, q0, q1, q2, q3]) rfl ⟨rfl, below4 hb0 (Nat.le_refl _) _ _ _ _⟩

/-- How long a string is. -/
def strLen : Value → Nat
  | .string s => s.size
  | _ => 0

end Go.Proofs.YtogonkoeginoaaaGreatDoor

namespace Go.Proofs.YtogonkoeginoaaaGreatDoor
open Go.RowKit Go.ChangeShapes Go.WideShapes Go.ChangeAt
open Go.Joins Go.Deep

theorem maxLen_ev : maxLen = 9223372036854775807 := rfl
theorem u64_ev {z : Int} (h : (Lit.int .u64 z).wf = true) : 0 ≤ z ∧ z < 18446744073709551616 := by
  simp [Lit.wf, IntKind.min, IntKind.max, IntKind.bits, IntKind.signed] at h
  omega
theorem i64_ev {z : Int} (h : (Lit.int .i64 z).wf = true) : -9223372036854775808 ≤ z ∧ z < 9223372036854775808 := by
  simp [Lit.wf, IntKind.min, IntKind.max, IntKind.bits, IntKind.signed] at h
  omega

/-- An event, and where its fields lie. -/
structure EvA where
  ev : Ev
  a : Option Addr
  n : Nat
  c : Nat
def EvA.zero : EvA := ⟨⟨[], [], 0, []⟩, none, 0, 0⟩
def evVals (q : List EvA) : List Value := q.flatMap fun x => [Value.string (bs x.ev.topic), Value.string (bs x.ev.prod), Value.int .u64 (x.ev.seq : Int), Value.slice x.a x.n x.c]
theorem evVals_length (q : List EvA) : (evVals q).length = q.length * 4 := by
  induction q with
  | nil => rfl
  | cons x q ih =>
    have e : evVals (x :: q) = [Value.string (bs x.ev.topic), Value.string (bs x.ev.prod), Value.int .u64 (x.ev.seq : Int), Value.slice x.a x.n x.c] ++ evVals q := rfl
    rw [e, List.length_append, ih]; simp; omega
theorem evVals_at (q : List EvA) : ∀ i, i < q.length → (evVals q)[i * 4]? = some (.string (bs (q.getD i .zero).ev.topic)) ∧ (evVals q)[i * 4 + 1]? = some (.string (bs (q.getD i .zero).ev.prod)) ∧ (evVals q)[i * 4 + 2]? = some (.int .u64 ((q.getD i .zero).ev.seq : Int)) ∧ (evVals q)[i * 4 + 3]? = some (.slice (q.getD i .zero).a (q.getD i .zero).n (q.getD i .zero).c) := by
  induction q with
  | nil => intro i h; simp at h
  | cons x q ih =>
    intro i h
    have e : evVals (x :: q) = Value.string (bs x.ev.topic) :: Value.string (bs x.ev.prod) :: Value.int .u64 (x.ev.seq : Int) :: Value.slice x.a x.n x.c :: evVals q := rfl
    cases i with
    | zero => rw [e]; exact ⟨rfl, rfl, rfl, rfl⟩
    | succ i =>
      have h2 := ih i (by simpa using h)
      rw [e, show (i + 1) * 4 = i * 4 + 1 + 1 + 1 + 1 by omega]
      simpa using h2
structure EvA.Ok (w : World) (x : EvA) : Prop where
  inr : x.ev.In
  fds : Fds w x.a x.n x.ev.l
  bd : x.n ≤ x.c ∧ x.c ≤ 9223372036854775807
theorem EvA.Ok.below {w w' : World} {x : EvA} (h : x.Ok w) (hb : Below w.heap.size w w') : x.Ok w' := ⟨h.inr, h.fds.below hb, h.bd⟩
structure Evs (w : World) (ao : Option Addr) (n : Nat) (q : List EvA) : Prop where
  len : q.length = n
  ok : ∀ x ∈ q, x.Ok w
  row : Row w ao (evVals q)
theorem Evs.below {w w' : World} {ao : Option Addr} {n : Nat} {q : List EvA} (h : Evs w ao n q) (hb : Below w.heap.size w w') : Evs w' ao n q := ⟨h.len, fun x hx => (h.ok x hx).below hb, h.row.below hb⟩
theorem idx_evs (b off n c k : Nat) (hk : k < n) (w : World) : (Instr.indexAt 22 (.slice (some ⟨b, off, none⟩) n c) (.int .i64 (k : Int))).run Tryz.prog w = .ok (.pointer (some ⟨b, off + k * 4, none⟩)) w := by
  simp [go_sem, hk]
theorem Evs.at {w : World} {ao : Option Addr} {n : Nat} {q : List EvA} (h : Evs w ao n q) (c k : Nat) (hk : k < n) : ∃ b o, b < w.heap.size ∧
    (∀ W, (Instr.indexAt 22 (.slice ao n c) (.int .i64 (k : Int))).run Tryz.prog W = .ok (.pointer (some ⟨b, o, none⟩)) W) ∧
    w.cell? ⟨b, o, none⟩ = some (.string (bs (q.getD k .zero).ev.topic)) ∧ w.cell? ⟨b, o + 1, none⟩ = some (.string (bs (q.getD k .zero).ev.prod)) ∧ w.cell? ⟨b, o + 2, none⟩ = some (.int .u64 ((q.getD k .zero).ev.seq : Int)) ∧ w.cell? ⟨b, o + 3, none⟩ = some (.slice (q.getD k .zero).a (q.getD k .zero).n (q.getD k .zero).c) ∧ (q.getD k .zero).Ok w := by
  have hl := h.len
  rcases h.row with h0 | ⟨b, off, rfl, hc⟩
  · have := evVals_length q; rw [h0] at this; simp at this; omega
  · obtain ⟨e0, e1, e2, e3⟩ := evVals_at q k (by omega)
    have h0 := hc _ _ e0
    have h1 := hc _ _ e1
    have h2 := hc _ _ e2
    have h3 := hc _ _ e3
    refine ⟨b, off + k * 4, World.block_lt_of_cell? w _ h0, fun W => idx_evs b off n c k hk W, h0, by rw [Nat.add_assoc]; exact h1, by rw [Nat.add_assoc]; exact h2, by rw [Nat.add_assoc]; exact h3, ?_⟩
    refine h.ok _ ?_
    rw [List.getD_eq_getElem?_getD, List.getElem?_eq_getElem (by omega)]
    exact List.getElem_mem _

section
variable {H : Type} {enc : TypeId × Value → H} {w : World} {base : Nat} {spare : Nat → Bool} {held : Bool}

/-- A row of four cells an element, out of its elements. -/
theorem row_of_four {a : Addr} {len : Nat} {vs : List Value} (hlen : vs.length = len * 4) (hsp : 0 < len → a.spot = none) (hall : ∀ i, i < len → ∀ k, k < 4 → ∀ v, vs[i * 4 + k]? = some v → w.cell? (a.add (i * 4 + k)) = some v) : Row w (some a) vs := by
  rcases Nat.eq_zero_or_pos len with h0 | h0
  · refine .inl (List.length_eq_zero_iff.1 (by omega))
  · have hs := hsp h0
    obtain ⟨b, off, spot⟩ := a
    simp only at hs
    subst hs
    refine .inr ⟨b, off, rfl, fun j v hj => ?_⟩
    have hjl : j < len * 4 := by
      have := (List.getElem?_eq_some_iff.1 hj).1
      omega
    have h := hall (j / 4) (by omega) (j % 4) (by omega) v (by rw [show j / 4 * 4 + j % 4 = j by omega]; exact hj)
    rw [show j / 4 * 4 + j % 4 = j by omega, Addr.add_lit] at h
    exact h

set_option maxRecDepth 100000 in
theorem open_fds_at {fuel : Nat} {cs : List Value} {x : DataW H × List MemPlace} (h : DataW.trod enc Tryz.prog w base spare held fuel 35 cs = some x) :
    ∃ ao n c q, cs = [.slice ao n c] ∧ Fds w ao n q ∧ n ≤ c ∧ c ≤ 9223372036854775807 := by
  rcases open_slice Tryz.underlying35 h with ⟨rfl, _⟩ | ⟨a, len, cap, m, n, D, Pl, rfl, _, hl, hc, hm, _, hx⟩
  · exact ⟨none, 0, 0, [], rfl, ⟨rfl, by simp, .inl rfl⟩, Nat.le_refl _, by omega⟩
  · rw [maxLen_ev] at hc
    have hlm : len ≤ m := by rw [hm]; split <;> omega
    have ce : Tryz.prog.cellsOf 80 = 4 := by kernel_rfl
    have hall : ∀ i, ∃ q : Fd, i < m → q.In ∧ w.cell? (a.add (i * 4)) = some (.string (bs q.name)) ∧ w.cell? (a.add (i * 4 + 1)) = some (.bool q.num) ∧ w.cell? (a.add (i * 4 + 2)) = some (.int .i64 q.n) ∧ w.cell? (a.add (i * 4 + 3)) = some (.string (bs q.s)) := by
      intro i
      by_cases hi : i < m
      · obtain ⟨cs', h1, h2⟩ := hx i hi
        rw [ce] at h1
        obtain ⟨_, hlen, hcell⟩ := World.cells?_some h1
        obtain ⟨xs, k, hk, hxy, _, hxl, hf⟩ := DataW.trod_struct Tryz.underlying80 h2
        match xs, hxl, cs', hlen with
        | [y0, y1], _, [v0, v1, v2, v3], _ =>
          have g0 := hf 0 _ rfl
          have g1 := hf 1 _ rfl
          have c0 : Tryz.prog.cellsOf 9 = 1 := by kernel_rfl
          have c1 : Tryz.prog.cellsOf 78 = 3 := by kernel_rfl
          have c2 : Tryz.prog.cellsOf 4 = 1 := by kernel_rfl
          have c3 : Tryz.prog.cellsOf 2 = 1 := by kernel_rfl
          simp [c0, c1] at g0 g1
          obtain ⟨ys, k', hk', hyy, _, hyl, hg⟩ := DataW.trod_struct Tryz.underlying78 g1
          match ys, hyl with
          | [u0, u1, u2], _ =>
            have r0 := hg 0 _ rfl
            have r1 := hg 1 _ rfl
            have r2 := hg 2 _ rfl
            simp [c0, c2, c3] at r0 r1 r2
            have e0 := hcell 0 (by omega)
            have e1 := hcell 1 (by omega)
            have e2 := hcell 2 (by omega)
            have e3 := hcell 3 (by omega)
            rw [add_add] at e0 e1 e2 e3
            obtain ⟨z0, q0, _, w0⟩ := DataW.trod_string Tryz.underlying9 g0
            obtain ⟨z1, q1, _⟩ := DataW.trod_bool Tryz.underlying4 r0
            obtain ⟨z2, q2, _, w2⟩ := DataW.trod_int Tryz.underlying2 r1
            obtain ⟨z3, q3, _, w3⟩ := DataW.trod_string Tryz.underlying9 r2
            simp only [List.cons.injEq, and_true] at q0 q1 q2 q3
            subst q0; subst q1; subst q2; subst q3
            rw [maxLen_ev] at w0 w3
            exact ⟨⟨z0.data.toList, z1, z2, z3.data.toList⟩, fun _ => ⟨⟨i64_ev w2, by simpa using w0, by simpa using w3⟩, show w.cell? (a.add (i * 4)) = some (.string z0) by simpa using e0, by simpa using e1, by simpa using e2, show w.cell? (a.add (i * 4 + 3)) = some (.string z3) by simpa using e3⟩⟩
      · exact ⟨.zero, fun h => absurd h hi⟩
    obtain ⟨Q, hall⟩ := Classical.axiomOfChoice hall
    have hq : ((List.range len).map Q).length = len := by simp
    have hg : ∀ i, i < len → ((List.range len).map Q).getD i .zero = Q i := fun i hi => by simp [List.getD_eq_getElem?_getD, hi]
    refine ⟨some a, len, cap, (List.range len).map Q, rfl, ⟨by simp, ?_, ?_⟩, hl, hc⟩
    · intro y hy
      obtain ⟨i, hi, rfl⟩ := List.mem_map.1 hy
      exact (hall i (by have := List.mem_range.1 hi; omega)).1
    · refine row_of_four (by rw [fdVals_length, hq]) (fun h0 => ?_) (fun i hi k hk v hv => ?_)
      · have := (hall 0 (by omega)).2.1
        have e : a.add (0 * 4) = a := by simp [Addr.add]
        rw [e] at this
        exact World.cell?_spot this
      · obtain ⟨e0, e1, e2, e3⟩ := fdVals_at ((List.range len).map Q) i (by rw [hq]; exact hi)
        rw [hg i hi] at e0 e1 e2 e3
        obtain ⟨_, c0, c1, c2, c3⟩ := hall i (by omega)
        match k, hk with
        | 0, _ => rw [Nat.add_zero] at hv ⊢; rw [e0] at hv; injection hv with hv; rw [← hv]; exact c0
        | 1, _ => rw [e1] at hv; injection hv with hv; rw [← hv]; exact c1
        | 2, _ => rw [e2] at hv; injection hv with hv; rw [← hv]; exact c2
        | 3, _ => rw [e3] at hv; injection hv with hv; rw [← hv]; exact c3

set_option maxRecDepth 100000 in
theorem open_evs_at {fuel : Nat} {cs : List Value} {x : DataW H × List MemPlace} (h : DataW.trod enc Tryz.prog w base spare held fuel 22 cs = some x) :
    ∃ ao n c q, cs = [.slice ao n c] ∧ Evs w ao n q ∧ n ≤ c ∧ c ≤ 9223372036854775807 := by
  rcases open_slice Tryz.underlying22 h with ⟨rfl, _⟩ | ⟨a, len, cap, m, n, D, Pl, rfl, _, hl, hc, hm, _, hx⟩
  · exact ⟨none, 0, 0, [], rfl, ⟨rfl, by simp, .inl rfl⟩, Nat.le_refl _, by omega⟩
  · rw [maxLen_ev] at hc
    have hlm : len ≤ m := by rw [hm]; split <;> omega
    have ce : Tryz.prog.cellsOf 37 = 4 := by kernel_rfl
    have hall : ∀ i, ∃ q : EvA, i < m → q.Ok w ∧ w.cell? (a.add (i * 4)) = some (.string (bs q.ev.topic)) ∧ w.cell? (a.add (i * 4 + 1)) = some (.string (bs q.ev.prod)) ∧ w.cell? (a.add (i * 4 + 2)) = some (.int .u64 (q.ev.seq : Int)) ∧ w.cell? (a.add (i * 4 + 3)) = some (.slice q.a q.n q.c) := by
      intro i
      by_cases hi : i < m
      · obtain ⟨cs', h1, h2⟩ := hx i hi
        rw [ce] at h1
        obtain ⟨_, hlen, hcell⟩ := World.cells?_some h1
        obtain ⟨xs, k, hk, hxy, _, hxl, hf⟩ := DataW.trod_struct Tryz.underlying37 h2
        match xs, hxl, cs', hlen with
        | [y0, y1, y2, y3], _, [v0, v1, v2, v3], _ =>
          have g0 := hf 0 _ rfl
          have g1 := hf 1 _ rfl
          have g2 := hf 2 _ rfl
          have g3 := hf 3 _ rfl
          have c0 : Tryz.prog.cellsOf 9 = 1 := by kernel_rfl
          have c2 : Tryz.prog.cellsOf 23 = 1 := by kernel_rfl
          have c3 : Tryz.prog.cellsOf 35 = 1 := by kernel_rfl
          simp [c0, c2, c3] at g0 g1 g2 g3
          have e0 := hcell 0 (by omega)
          have e1 := hcell 1 (by omega)
          have e2 := hcell 2 (by omega)
          have e3 := hcell 3 (by omega)
          rw [add_add] at e0 e1 e2 e3
          obtain ⟨z0, q0, _, w0⟩ := DataW.trod_string Tryz.underlying9 g0
          obtain ⟨z1, q1, _, w1⟩ := DataW.trod_string Tryz.underlying9 g1
          obtain ⟨z2, q2, _, w2⟩ := DataW.trod_int Tryz.underlying23 g2
          obtain ⟨a', n', c', l', q3, f3, b3, d3⟩ := open_fds_at g3
          simp only [List.cons.injEq, and_true] at q0 q1 q2 q3
          subst q0; subst q1; subst q2; subst q3
          rw [maxLen_ev] at w0 w1
          have hw2 := u64_ev w2
          obtain ⟨kk, rfl⟩ := Int.eq_ofNat_of_zero_le hw2.1
          exact ⟨⟨⟨z0.data.toList, z1.data.toList, kk, l'⟩, a', n', c'⟩, fun _ => ⟨⟨⟨by simpa using w0, by simpa using w1, by simp only; omega⟩, f3, b3, d3⟩, show w.cell? (a.add (i * 4)) = some (.string z0) by simpa using e0, show w.cell? (a.add (i * 4 + 1)) = some (.string z1) by simpa using e1, by simpa using e2, by simpa using e3⟩⟩
      · exact ⟨.zero, fun h => absurd h hi⟩
    obtain ⟨Q, hall⟩ := Classical.axiomOfChoice hall
    have hq : ((List.range len).map Q).length = len := by simp
    have hg : ∀ i, i < len → ((List.range len).map Q).getD i .zero = Q i := fun i hi => by simp [List.getD_eq_getElem?_getD, hi]
    refine ⟨some a, len, cap, (List.range len).map Q, rfl, ⟨by simp, ?_, ?_⟩, hl, hc⟩
    · intro y hy
      obtain ⟨i, hi, rfl⟩ := List.mem_map.1 hy
      exact (hall i (by have := List.mem_range.1 hi; omega)).1
    · refine row_of_four (by rw [evVals_length, hq]) (fun h0 => ?_) (fun i hi k hk v hv => ?_)
      · have := (hall 0 (by omega)).2.1
        have e : a.add (0 * 4) = a := by simp [Addr.add]
        rw [e] at this
        exact World.cell?_spot this
      · obtain ⟨e0, e1, e2, e3⟩ := evVals_at ((List.range len).map Q) i (by rw [hq]; exact hi)
        rw [hg i hi] at e0 e1 e2 e3
        obtain ⟨_, c0, c1, c2, c3⟩ := hall i (by omega)
        match k, hk with
        | 0, _ => rw [Nat.add_zero] at hv ⊢; rw [e0] at hv; injection hv with hv; rw [← hv]; exact c0
        | 1, _ => rw [e1] at hv; injection hv with hv; rw [← hv]; exact c1
        | 2, _ => rw [e2] at hv; injection hv with hv; rw [← hv]; exact c2
        | 3, _ => rw [e3] at hv; injection hv with hv; rw [← hv]; exact c3

set_option maxRecDepth 100000 in
theorem open_evs_arg {r : Reach} {b0 : Nat} {v : Value} {d : DataW H} {p : List MemPlace} (hv : Value.okWide Tryz.prog w r b0 22 v) (h : DataW.Trod enc Tryz.prog w base spare held 22 v d p) :
    ∃ ao n c q, v = .slice ao n c ∧ Evs w ao n q ∧ n ≤ c ∧ c ≤ 9223372036854775807 ∧ True := by
  obtain ⟨a, len, cap, rfl⟩ := okWide_slice Tryz.underlying22 hv
  obtain ⟨fuel, hf⟩ := h
  obtain ⟨ao, n, c, q, e, h1, h2, h3⟩ := open_evs_at hf
  have e' : Value.slice a len cap = .slice ao n c := by simpa [Value.cells] using e
  exact ⟨ao, n, c, q, e', h1, h2, h3, trivial⟩
end

end Go.Proofs.YtogonkoeginoaaaGreatDoor

namespace Go.Proofs.YtogonkoeginoaaaGreatDoor
open Go.RowKit

set_option maxRecDepth 100000 in
set_option maxHeartbeats 25600000 in
theorem top_walk (ao : Option Addr) (n c : Nat) (q : List EvA) (u kept : Nat) (tn cut : Int) (w : World) (h : Evs w ao n q) (hnc : n ≤ c ∧ c ≤ 9223372036854775807) (hu : u < 256) (hkp : kept < 18446744073709551616) (htn : -9223372036854775808 ≤ tn ∧ tn < 9223372036854775808) (hcut : -9223372036854775808 ≤ cut ∧ cut < 9223372036854775808) (hv : Vars w) (htab : Tab w) :
    Calls Tryz.prog 3 #[.slice ao n c, .int .u8 (u : Int), .agg #[.int .u64 (kept : Int), .int .i64 tn, .int .i64 cut]] w fun e w' => e = .returned (.bool true) ∧ Below w.heap.size w w' := by
  have HO := hide h
  have HV := hide hv
  have HTB := hide htab
  have hn1 : n ≤ 9223372036854775807 := by omega
  obtain ⟨H, hH⟩ : ∃ z, z = (⟨200, 60⟩ : Hv) := ⟨_, rfl⟩
  have hlog : H.log = 200 := by rw [hH]
  have htxt : H.text = 60 := by rw [hH]
  have hok : H.Ok := by rw [hH]; unfold Hv.Ok; simp
  have hvv : hvVal H = .agg #[.int .i64 200, .int .i64 60] := by rw [hH]; rfl
  have HN : Hid (∀ w, Calls Tryz.prog 4 #[hvVal H, .string ⟨#[]⟩] w fun e w' => ∃ b U, e = .returned (.tuple #[.pointer (some ⟨b, 0, none⟩), .int .i64 0]) ∧ w.heap.size ≤ b ∧ KpAt w' b w.heap.size (.slice none 0 0) H ⟨1, 0, 1, 0⟩ U [] [] ∧ Below w.heap.size w w') := hide (fun w => by
    refine (knew_any H [] w hok (by simp) (by simp)).mono ?_
    rintro e w' ⟨b, h1, h2, h3, h4⟩
    exact ⟨b, _, h1, h2, h3, h4⟩)
  have HOP : Hid (∀ (dv : Value) (m : Hd) (cs : List (List UInt8)) (text : List UInt8) (l : List (List UInt8)) (w : World), IsDrive w dv ⟨cs, [], -1, false⟩ → OnKeep H cs m text l → m.serial + l.length ≤ 16777216 → Calls Tryz.prog 10 #[dv, hvVal H] w fun e w' => ∃ b v, e = .returned (.tuple #[.pointer (some ⟨b, 0, none⟩), .int .i64 0]) ∧ w.heap.size ≤ b ∧ KpAt w' b w.heap.size v H m cs text l ∧ Below w.heap.size w w') := hide (fun dv m cs text l w h1 h2 h3 => kopen_any dv H m cs text l w h1 h2 h3)
  have HSV : Hid (∀ (b base : Nat) (v : Value) (m : Hd) (U : List (List UInt8)) (text : List UInt8) (l : List (List UInt8)) (s : List UInt8) (w : World), KpAt w b base v H m U text l → m.gen ≤ 100 → m.serial + l.length ≤ 100 → s.length ≤ 3840 → Calls Tryz.prog 7 #[.pointer (some ⟨b, 0, none⟩), .string (bs s)] w fun e w' => e = .returned (.int .i64 0) ∧ (∃ cs', KpAt w' b base (.slice none 0 0) H ⟨m.gen + 1, 1 - m.half, m.serial + l.length, s.length⟩ cs' s []) ∧ w.grownBy w' (some b)) := hide (fun b base v m U text l s w k h1 h2 h3 => ksave_any b base v H m U text l s w k (by omega) (by omega) (by omega) (by omega))
  have HAD : Hid (∀ (b base : Nat) (v : Value) (m : Hd) (cs : List (List UInt8)) (text : List UInt8) (l : List (List UInt8)) (s : List UInt8) (w : World), KpAt w b base v H m cs text l → s.length ≤ 701 → l.length ≤ 10 → span l ≤ 12 * l.length → m.serial + l.length ≤ 100 → base ≤ w.heap.size → Calls Tryz.prog 8 #[.pointer (some ⟨b, 0, none⟩), .string (bs s)] w fun e w' => e = .returned (.int .i64 0) ∧ AddDone w w' b base v H m text l s 0) := hide (fun b base v m cs text l s w k h1 h2 h3 h4 h5 => by
    have e : addErr H l s = 0 := by
      have := kOf_short h1
      unfold addErr
      rw [if_neg (by omega), if_pos (by omega)]
    have h := kadd_say b base v H m cs text l s w k (by omega) (by omega) h5
    rw [e] at h
    exact h)
  have HLY : Hid (∀ (x : EvA) (w : World), x.Ok w → Vars w → Calls Tryz.prog 5 #[.agg #[.string (bs x.ev.topic), .string (bs x.ev.prod), .int .u64 (x.ev.seq : Int), .slice x.a x.n x.c]] w fun y w' => ((mayE x.ev = true ∧ y = .returned (.tuple #[.string (bs (layE x.ev)), .int .i64 0])) ∨ (mayE x.ev = false ∧ y = .returned (.tuple #[.string ⟨#[]⟩, .int .i64 1]))) ∧ Below w.heap.size w w') := hide (fun x w h hv => evlay_any x.ev x.a x.n x.c w h.fds h.bd h.inr hv)
  have HCL := hide (fun (n : Int) (w : World) hn => lcells_any n w hn)
  have HWK := hide (fun (w : World) (hv : Vars w) (ht : Tab w) => works_first w hv ht)
  rw [hvv] at HN HOP
  obtain ⟨a, ha⟩ : ∃ a : Nat, (u : Int) % 8 = (a : Int) := ⟨u % 8, by omega⟩
  clear h hnc hok hvv hlog htxt hH hv htab
  go_enter Tryz.func3, Tryz.ntmps3
  go_upto_region 2 with fail
  obtain ⟨W0, hW0⟩ : ∃ z, w.alloc (.cells #[.int .u64 (kept : Int), .int .i64 tn, .int .i64 cut] 25) = z := ⟨_, rfl⟩
  have hal0 : Below w.heap.size w W0 := by rw [← hW0]; exact (Below.refl _ _).alloc (Nat.le_refl _) _
  have D5 : Blk W0 w.heap.size [.int .u64 (kept : Int), .int .i64 tn, .int .i64 cut] 25 := by rw [← hW0]; exact Blk.new w _ _
  have hsz0 : W0.heap.size = w.heap.size + 1 := by rw [← hW0]; exact Array.size_push ..
  rw [hW0]
  rw [← hsz0]
  obtain ⟨W1, hW1⟩ : ∃ z, W0.alloc (.cells #[.int .i64 200, .int .i64 60] 27) = z := ⟨_, rfl⟩
  have hal1 : Below W0.heap.size W0 W1 := by rw [← hW1]; exact (Below.refl _ _).alloc (Nat.le_refl _) _
  have C7 : Blk W1 W0.heap.size [.int .i64 200, .int .i64 60] 27 := by rw [← hW1]; exact Blk.new W0 _ _
  rw [hW1]
  have hb2 := chain hal0 hal1
  have C5 := D5.next hal1
  have h75 : w.heap.size < W0.heap.size := by omega
  have h71 := C7.lt
  obtain ⟨b5, hw5⟩ : ∃ z, w.heap.size = z := ⟨_, rfl⟩
  obtain ⟨b7, hb7⟩ : ∃ z, W0.heap.size = z := ⟨_, rfl⟩
  rw [hw5] at C5 h75
  rw [hb7] at C7 h75 h71
  rw [hw5, hb7]
  clear hW1 hal0 hal1 D5 hsz0 hW0 hb7
  obtain ⟨p0, p1, p2, p3⟩ := C7.pair
  go_wp2_with fail
  refine (HN.out _).mono ?_
  rintro e w3 ⟨bk, U, rfl, hbk, k3, hb3⟩
  have E5 := C5.next hb3
  have E7 := C7.next hb3
  have hb4 := chain hb2 hb3
  have K3 := hide k3
  have hsB := hb3.size
  obtain ⟨B, hB⟩ : ∃ z, W1.heap.size = z := ⟨_, rfl⟩
  rw [hB] at hbk K3 hsB h71
  have hbB : b5 ≤ B := by omega
  clear p0 p1 p2 p3 C5 C7 hb2 hb3 k3 hB HN
  go_wp2_with fail
  go_loopw [10, 11, 12] (fun s10 s11 s12 wr => ∃ (i : Nat) (m : Hd) (cs : List (List UInt8)) (text : List UInt8) (l : List (List UInt8)) (v : Value), i ≤ n ∧ i ≤ 10 ∧ s12 = .int .i64 (i : Int) ∧ s11 = .string (bs text) ∧ text.length ≤ 3840 ∧ m.gen ≤ 1 + i ∧ m.serial + l.length ≤ 1 + i ∧ l.length ≤ i ∧ span l ≤ 12 * l.length ∧ (s10.ownBlock = none ∨ s10.ownBlock ≠ v.ownBlock) ∧ Hid (GoodL l) ∧ Hid (GoodT text) ∧ Hid (KpAt wr bk B v H m cs text l) ∧ Hid (OwnS wr B s10 l) ∧ Hid (Blk wr b5 [.int .u64 (kept : Int), .int .i64 tn, .int .i64 cut] 25) ∧ Hid (Blk wr b7 [.int .i64 200, .int .i64 60] 27) ∧ B ≤ wr.heap.size ∧ Below w.heap.size w wr) (fun _ _ s12 _ => 10 - (intOf s12).toNat)
  case atStart => exact ⟨0, _, _, [], [], _, Nat.zero_le _, by omega, rfl, rfl, by simp, by simp, by simp, by simp, by simp [span], .inl rfl, hide GoodL.nil, hide GoodT.nil, K3, hide (OwnS.nil _ _), hide E5, hide E7, hsB, hb4⟩
  case round =>
    obtain ⟨i, m, cs, text, l, v, hin, hi10, rfl, rfl, htl, hgen, hser, hll, hspan, hNE, hGL, hGT, hK, hL, hC5, hC7, hBs, hbw⟩ := hrel
    clear K3 E5 E7 hb4 hsB
    by_cases hii : i < n ∧ i < 10
    · obtain ⟨hi1, hi2⟩ := hii
      obtain ⟨bx, ox, hlx, hix, q0, q1, q2, q3, hokx⟩ := (HO.out.below hbw).at c i hi1
      have HX := hide hokx
      have hneL : (i : Int) < (n : Int) := by omega
      obtain ⟨x, hx⟩ : ∃ x, q.getD i .zero = x := ⟨_, rfl⟩
      rw [hx] at q0 q1 q2 q3 HX
      have HLYX := hide (fun (w : World) (hok : x.Ok w) (hv : Vars w) => HLY.out x w hok hv)
      obtain ⟨s, hs⟩ : ∃ z, layE x.ev = z := ⟨_, rfl⟩
      have hgood : Hid (mayE x.ev = true → (1 ≤ s.length ∧ s.length ≤ 701) ∧ ∀ l, GoodL l → GoodL (l ++ [s])) := hide (fun hm => by
        rw [← hs]
        exact ⟨layE_length hm, fun l h => h.snoc ⟨hm, HX.out.inr, HX.out.fds.range⟩⟩)
      rw [hs] at HLYX
      obtain ⟨y0, hy0⟩ : ∃ z, bs x.ev.topic = z := ⟨_, rfl⟩
      obtain ⟨y1, hy1⟩ : ∃ z, bs x.ev.prod = z := ⟨_, rfl⟩
      obtain ⟨y2, hy2⟩ : ∃ z, x.ev.seq = z := ⟨_, rfl⟩
      rw [hy0, hy1, hy2] at HLYX
      rw [hy0] at q0
      rw [hy1] at q1
      rw [hy2] at q2
      clear hokx hx hy0 hy1 hy2 hs
      go_wp2_with fail
      refine (HLYX.out _ HX.out (HV.out.next hbw)).mono ?_
      rintro e w4 ⟨hor, hb4⟩
      have K4 := hide (hK.out.next hb4)
      have L4 := hide (OwnZ.below hL.out hb4)
      have G5 := hide (hC5.out.next hb4)
      have G7 := hide (hC7.out.next hb4)
      have hb5 := chain hbw hb4
      have hB4 := Nat.le_trans hBs hb4.size
      clear hK hL hC5 hC7 hb4 hbw hBs hix hlx q0 q1 q2 q3
      rcases hor with ⟨hm, rfl⟩ | ⟨hm, rfl⟩
      · obtain ⟨⟨hs1, hs2⟩, hsn⟩ := hgood.out hm
        have hss : (bs s).size = s.length := bs_size s
        have HSN := hide hsn
        obtain ⟨sv, hsv⟩ : ∃ z, bs s = z := ⟨_, rfl⟩
        have HSVV := hide hsv
        rw [hsv] at hss ⊢
        clear hgood HLYX HX hm hsn hsv
        obtain ⟨qb, hqb⟩ : ∃ z, decide (i = a ∧ text = []) = z := ⟨_, rfl⟩
        have HQB := hide hqb
        clear hqb
        have hts0 : (bs text).size = text.length := bs_size text
        obtain ⟨tv, htv⟩ : ∃ z, bs text = z := ⟨_, rfl⟩
        rw [htv] at hts0 ⊢
        have HTV := hide htv
        have HTS := hide hts0
        clear hts0 htv
        go_upto_region 12 with fail
        go_cut [63] (fun s63 wx => s63 = .bool qb ∧ Below w4.heap.size w4 wx)
        case first =>
          by_cases hia : i = a
          · have e1 : ((i : Int) == (a : Int)) = true := by rw [beq_iff_eq]; omega
            by_cases hte : text = []
            · have e2 : ((tv.size : Int) == 0) = true := by rw [beq_iff_eq, HTS.out, hte]; rfl
              have e3 := hide (show true = qb by rw [← HQB.out]; exact (decide_eq_true ⟨hia, hte⟩).symm)
              clear hia hte
              go_wp2_with fail
              go_meet
              case rel => exact ⟨by rw [← e3.out], Below.refl _ _⟩
            · have e2 : ((tv.size : Int) == 0) = false := by
                rw [beq_eq_false_iff_ne, HTS.out]
                intro h0
                exact hte (List.length_eq_zero_iff.1 (by omega))
              have e3 := hide (show false = qb by rw [← HQB.out]; exact (decide_eq_false (fun h => hte h.2)).symm)
              clear hia hte
              go_wp2_with fail
              go_meet
              case rel => exact ⟨by rw [← e3.out], Below.refl _ _⟩
          · have e1 : ((i : Int) == (a : Int)) = false := by rw [beq_eq_false_iff_ne]; omega
            have e3 := hide (show false = qb by rw [← HQB.out]; exact (decide_eq_false (fun h => hia h.1)).symm)
            clear hia
            go_wp2_with fail
            go_meet
            case rel => exact ⟨by rw [← e3.out], Below.refl _ _⟩
        case rest =>
          obtain ⟨rfl, hbc⟩ := hcut
          have K5 := hide (K4.out.next hbc)
          have L5 := hide (OwnZ.below L4.out hbc)
          have F5 := hide (G5.out.next hbc)
          have F7 := hide (G7.out.next hbc)
          have hb6 := chain hb5 hbc
          have hB5 := Nat.le_trans hB4 hbc.size
          clear K4 L4 G5 G7 hbc hb5 hB4
          obtain ⟨w5, rfl⟩ : ∃ z : World, z = wc := ⟨_, rfl⟩
          go_upto_if 63 with fail
          go_cut [10, 11] (fun s10 s11 wx => ∃ (m' : Hd) (cs' : List (List UInt8)) (text' : List UInt8) (l' : List (List UInt8)) (v' : Value), s11 = .string (bs text') ∧ text'.length ≤ 3840 ∧ m'.gen ≤ 2 + i ∧ m'.serial + l'.length ≤ 1 + i ∧ l'.length ≤ i ∧ span l' ≤ 12 * l'.length ∧ (s10.ownBlock = none ∨ s10.ownBlock ≠ v'.ownBlock) ∧ Hid (GoodL l') ∧ Hid (GoodT text') ∧ Hid (KpAt wx bk B v' H m' cs' text' l') ∧ Hid (OwnS wx B s10 l') ∧ Hid (Blk wx b5 [.int .u64 (kept : Int), .int .i64 tn, .int .i64 cut] 25) ∧ Hid (Blk wx b7 [.int .i64 200, .int .i64 60] 27) ∧ B ≤ wx.heap.size ∧ Below w.heap.size w wx)
          case first =>
            cases qb with
            | false =>
              go_wp2_with fail
              go_meet
              case rel => exact ⟨m, cs, text, l, v, by rw [HTV.out], htl, by omega, by omega, by omega, hspan, hNE, hGL, hGT, K5, L5, F5, F7, hB5, hb6⟩
            | true =>
              have hte : text = [] := (of_decide_eq_true HQB.out).2
              obtain ⟨al, cl, hform, hlc, hcm, hst⟩ := OwnS.form L5.out
              have HST := hide hst
              have hfs := hide (fun j => hGL.out.flat_short j)
              have hsh := hide hGL.out.short
              rw [hform, ← HTV.out, hte]
              clear hst
              have hHF := hide hform
              have hll10 : l.length ≤ 10 := by omega
              clear hform hte
              go_wp2_with fail
              go_loopw [11, 15] (fun s11 s15 wq => ∃ j : Nat, j ≤ l.length ∧ s15 = .int .i64 (j : Int) ∧ s11 = .string (bs (l.take j).flatten) ∧ Hid (Below w5.heap.size w5 wq)) (fun _ s15 _ => l.length - (intOf s15).toNat)
              case atStart => exact ⟨0, Nat.zero_le _, rfl, rfl, hide (Below.refl _ _)⟩
              case round =>
                obtain ⟨j, hj, rfl, rfl, hbr⟩ := hrel
                by_cases hjl : j < l.length
                · obtain ⟨bz, oz, hlz, hiz, hcz⟩ := (HST.out.below hbr.out).at cl j hjl
                  have hneJ : (j : Int) < (l.length : Int) := by omega
                  have hrep := hide (show bs (l.take j).flatten ++ bs (l.getD j []) = bs (l.take (j + 1)).flatten by rw [bs_append, flat_take hjl])
                  have z1 : (bs (l.take j).flatten).size ≤ 7010 := by
                    rw [bs_size]
                    have := hfs.out j
                    omega
                  have z2 : (bs (l.getD j [])).size ≤ 701 := by
                    rw [bs_size]
                    refine (hsh.out _ ?_).2
                    rw [List.getD_eq_getElem?_getD, List.getElem?_eq_getElem hjl]
                    exact List.getElem_mem _
                  obtain ⟨za, hza⟩ : ∃ z, bs (l.take j).flatten = z := ⟨_, rfl⟩
                  obtain ⟨zb, hzb⟩ : ∃ z, bs (l.getD j []) = z := ⟨_, rfl⟩
                  rw [hza, hzb] at hrep
                  rw [hza] at z1 ⊢
                  rw [hzb] at z2 hcz
                  clear hza hzb
                  go_wp2_with fail
                  go_roundw
                  case rel => exact ⟨j + 1, by omega, by go_num, by rw [← hrep.out], hbr⟩
                  case measure => simp [intOf]; omega
                · have hneJ : ¬ (j : Int) < (l.length : Int) := by omega
                  have hfl := hfs.out j
                  have hej : (l.take j).flatten = l.flatten := by rw [List.take_of_length_le (by omega)]
                  rw [hej] at hfl ⊢
                  have hGF := hide hGL.out.flat
                  have hyz : (bs l.flatten).size = l.flatten.length := bs_size _
                  have K6 := hide (K5.out.next hbr.out)
                  have M5 := hide (F5.out.next hbr.out)
                  have M7 := hide (F7.out.next hbr.out)
                  have hb7 := chain hb6 hbr.out
                  have hB6 := Nat.le_trans hB5 hbr.out.size
                  have HSAVE := hide (fun (w : World) (k : KpAt w bk B v H m cs text l) (hfl : l.flatten.length ≤ 3840) => HSV.out bk B v m cs text l l.flatten w k (by omega) (by omega) hfl)
                  obtain ⟨yv, hyv⟩ : ∃ z, bs l.flatten = z := ⟨_, rfl⟩
                  have HYV := hide hyv
                  rw [hyv] at hyz HSAVE ⊢
                  clear hyv K5 L5 F5 F7 hb6 hB5 hbr hej
                  by_cases hbig : 3840 < l.flatten.length
                  · have hd : decide ((3840 : Int) < (yv.size : Int)) = true := decide_eq_true (by omega)
                    clear hyz hbig hfl
                    go_wp2_with fail
                    refine (HWK.out _ (HV.out.next hb7) (HTB.out.next hb7)).mono ?_
                    rintro e w7 ⟨rfl, hb8⟩
                    have hb9 := chain hb7 hb8
                    go_wp2_with fail
                    go_ret
                    exact ⟨rfl, hb9⟩
                  · have hd : decide ((3840 : Int) < (yv.size : Int)) = false := decide_eq_false (by omega)
                    have HLE := hide (show l.flatten.length ≤ 3840 by omega)
                    clear hyz hbig hfl
                    go_wp2_with fail
                    refine (HSAVE.out _ K6.out HLE.out).mono ?_
                    rintro e w7 ⟨rfl, ⟨cs5, k5⟩, hg5⟩
                    have N5 := hide (M5.out.grown hg5 (fun e => by injection e with e; omega))
                    have N7 := hide (M7.out.grown hg5 (fun e => by injection e with e; omega))
                    have hb8 : Below w.heap.size w w7 := hb7.grown hg5 (by have := hb7.size; omega) (fun g hg => by injection hg with hg; omega)
                    have hB7 := Nat.le_trans hB6 hg5.size
                    have K7 := hide k5
                    clear K6 M5 M7 hb7 hB6 hg5 k5
                    go_wp2_with fail
                    go_meet
                    case rel => exact ⟨_, cs5, l.flatten, [], _, by rw [HYV.out], HLE.out, by simp only; omega, by simp only [List.length_nil]; omega, by simp, by simp [span], .inl rfl, hide GoodL.nil, hGF, K7, hide (OwnS.nil _ _), N5, N7, hB7, hb8⟩
          case rest =>
            obtain ⟨m', cs', text', l', v', rfl, htl', hgen', hser', hll', hspan', hNE', hGL', hGT', hK', hL', hC5', hC7', hBs', hbw'⟩ := hcut
            clear K5 L5 F5 F7 hb6 hB5 HTV HTS HQB
            have HADD := hide (fun (w : World) (k : KpAt w bk B v' H m' cs' text' l') (hb : B ≤ w.heap.size) => HAD.out bk B v' m' cs' text' l' s w k hs2 (by omega) hspan' (by omega) hb)
            have hk12 := kOf_short hs2
            have HCELL : Hid (∀ w : World, Calls Tryz.prog 9 #[.int .i64 (sv.size : Int)] w fun e w' => e = .returned (.int .i64 ((kOf s.length : Nat) : Int)) ∧ w = w') := hide (fun w => by
              have h := HCL.out (sv.size : Int) w (by omega)
              have e : cellsOf (sv.size : Int) = ((kOf s.length : Nat) : Int) := by rw [hss]; exact cellsOf_short (by omega)
              rw [e] at h
              exact h)
            have hk1 := kOf_pos s.length
            have hkd : decide (((kOf s.length : Nat) : Int) < 1) = false := decide_eq_false (by omega)
            have hsp2 := hide (show span (l' ++ [s]) ≤ 12 * (l' ++ [s]).length by
              rw [span_append, List.length_append, List.length_singleton, span_cons]
              have : span ([] : List (List UInt8)) = 0 := rfl
              omega)
            obtain ⟨kk, hkk⟩ : ∃ z, kOf s.length = z := ⟨_, rfl⟩
            rw [hkk] at HCELL hkd
            rw [HSVV.out] at HADD
            clear hkk hk1 hk12 hss
            go_wp2_with fail
            refine (HADD.out _ hK'.out hBs').mono ?_
            rintro e w6 ⟨rfl, hD⟩
            have hlow := hD.low hK'.out hbk (Nat.le_refl _) hBs'
            have L6 := hide (hD.row hK'.out hL'.out hNE')
            have F5 := hide (hC5'.out.below hlow (by omega))
            have F7 := hide (hC7'.out.below hlow h71)
            have hb8 : Below w.heap.size w w6 := hbw'.trans (hlow.mono (by omega))
            have hB6 := Nat.le_trans hBs' hlow.size
            rcases hD with ⟨_, v2, cs2, k6, hown, _⟩ | ⟨hx, _⟩
            · have hNE6 : u10.ownBlock = none ∨ u10.ownBlock ≠ v2.ownBlock := by
                cases hu : u10.ownBlock with
                | none => exact .inl rfl
                | some g =>
                  have hlt := (hL'.out.1.lt g hu).2
                  rcases hown with e | ⟨g', e1, e2⟩
                  · rw [hu] at hNE'
                    rw [e]
                    exact hNE'
                  · rw [e1]
                    exact .inr (fun e => by injection e with e; omega)
              have HNE6 := hide hNE6
              have K6 := hide k6
              clear hlow hown hNE6 k6 hNE' hNE hK' hL' hC5' hC7' hbw' hBs' HADD
              go_wp2_with fail
              refine (HCELL.out _).mono ?_
              rintro e w7 ⟨rfl, rfl⟩
              obtain ⟨w8, rfl⟩ : ∃ z : World, z = w6 := ⟨_, rfl⟩
              have hnb := Blk.new w8 [.string sv] 9
              have hal : Below w8.heap.size w8 (w8.alloc (.cells #[.string sv] 9)) := (Below.refl _ _).alloc (Nat.le_refl _) _
              go_wp2_with (at_builtin; refine wpList_appS rfl (.tmp 94) (.tmp 96) rfl B u10 l' rfl (OwnZ.below L6.out hal) _ 1 1 [s] rfl rfl (by show Row _ _ [Value.string (bs s)]; rw [HSVV.out]; exact row_of_blk hnb) (by omega) (by simp; omega) ?_)
              intro v10 w10 hO10 hg10 hk10 ho10
              have L7 := OwnZ.below L6.out hal
              have K7 := hide ((K6.out.next hal).rowStep L7 hg10 hk10 HNE6.out)
              have C5 := hide ((F5.out.next hal).grown hg10 (fun e => own_base L7 (by omega) e.symm))
              have C7 := hide ((F7.out.next hal).grown hg10 (fun e => own_base L7 h71 e.symm))
              have hb9 : Below w.heap.size w w10 := (hb8.trans (hal.mono hb8.size)).grown hg10 (by have := hb8.size; have := hal.size; omega) (fun g hg => by have := (L7.1.lt g hg).1; omega)
              have hB7 : B ≤ w10.heap.size := Nat.le_trans (Nat.le_trans hB6 hal.size) hg10.size
              have hNE7 : v10.ownBlock = none ∨ v10.ownBlock ≠ v2.ownBlock := by
                rcases ho10 with e | e
                · rw [e]; exact HNE6.out
                · refine .inr (fun e2 => ?_)
                  rw [e] at e2
                  have h1 := K6.out.ownLt e2.symm
                  have h2 := hal.size
                  omega
              have O10 := hide hO10
              clear hO10 hg10 hk10 ho10 L7 L6 K6 F5 F7 hb8 hal hnb hB6
              go_wp2_with fail
              go_roundw
              case rel => exact ⟨i + 1, m', cs2, text', l' ++ [s], v2, by omega, by omega, by go_num, rfl, htl', by omega, by simp; omega, by simp; omega, hsp2.out, hNE7, hide (HSN.out _ hGL'.out), hGT', K7, O10, C5, C7, hB7, hb9⟩
              case measure => simp [intOf]; omega
            · exact absurd rfl hx
      · clear hgood HLYX HX
        go_wp2_with fail
        go_roundw
        case rel => exact ⟨i + 1, m, cs, text, l, v, by omega, by omega, by go_num, rfl, htl, by omega, by omega, by omega, hspan, hNE, hGL, hGT, K4, L4, G5, G7, hB4, hb5⟩
        case measure => simp [intOf]; omega
    · have hnn : ¬ i < n ∨ (i < n ∧ ¬ i < 10) := by omega
      have HSM : Hid (∀ (v1 v2 : Value) (b1 b2 : Nat) (w : World), OwnS w b1 v1 l → OwnS w b2 v2 l → Calls Tryz.prog 14 #[v1, v2] w fun e w' => e = .returned (.bool true) ∧ Below w.heap.size w w') := hide (fun v1 v2 b1 b2 w h1 h2 => by
        obtain ⟨a1, c1, rfl, _, _, hs1⟩ := OwnS.form h1
        obtain ⟨a2, c2, rfl, _, _, hs2⟩ := OwnS.form h2
        have h := ref2same_any a1 a2 l.length c1 l.length c2 l l w hs1 hs2 (by omega) (by omega)
        rw [decide_eq_true rfl] at h
        exact h)
      have HREC : Hid (∀ (b base : Nat) (v : Value) (w : World), KpAt w b base v H m cs text l → Calls Tryz.prog 15 #[.pointer (some ⟨b, 0, none⟩)] w fun e w' => ∃ rv, e = .returned rv ∧ OwnS w' w.heap.size rv l ∧ Below w.heap.size w w') := hide (fun _ _ _ w k => by
        refine (krecords_any w k (by omega)).mono ?_
        rintro e w' ⟨a, nn, cc, rfl, h2, _, h4⟩
        exact ⟨_, rfl, h2, h4⟩)
      have hON := hide hK.out.on
      have hMY := hide hK.out.on.may
      have HOPX : Hid (∀ (dv : Value) (w : World), IsDrive w dv ⟨cs, [], -1, false⟩ → Calls Tryz.prog 10 #[dv, .agg #[.int .i64 200, .int .i64 60]] w fun e w' => ∃ b v, e = .returned (.tuple #[.pointer (some ⟨b, 0, none⟩), .int .i64 0]) ∧ KpAt w' b w.heap.size v H m cs text l ∧ Below w.heap.size w w') := hide (fun dv w h => by
        refine (HOP.out dv m cs text l w h hON.out (by omega)).mono ?_
        rintro e w' ⟨b, v, h1, _, h3, h4⟩
        exact ⟨b, v, h1, h3, h4⟩)
      have HC : Hid (∀ (v : Value) (w : World), IsDrive w v ⟨cs, [], -1, false⟩ → Calls Tryz.prog 11 #[v, .agg #[.int .u64 (kept : Int), .int .i64 tn, .int .i64 cut]] w fun e w' => ∃ v', e = .returned v' ∧ IsDrive w' v' ⟨cs, [], -1, false⟩ ∧ Below w.heap.size w w') := hide (fun v w h1 => crash_still v cs kept tn cut w h1 hMY.out hkp htn hcut)
      obtain ⟨a1, n1, c1, a2, n2, c2, hkb, hkd⟩ := hK.out.blk
      unfold drvVal at hkd
      have HKD := hide hkd
      have HDR : Hid (∀ w', Below wr.heap.size wr w' → Calls Tryz.prog 12 #[.pointer (some ⟨bk, 0, none⟩)] w' fun e w'' => e = .returned (.agg #[.slice a1 n1 c1, .slice a2 n2 c2, .int .i64 (-1), .bool false]) ∧ Below w'.heap.size w' w'') := hide (fun w' hb => kdrive_val w' (hkb.next hb))
      have HDV : Hid (∀ w', Below wr.heap.size wr w' → IsDrive w' (.agg #[.slice a1 n1 c1, .slice a2 n2 c2, .int .i64 (-1), .bool false]) ⟨cs, [], -1, false⟩) := hide (fun w' hb => HKD.out.below hb)
      obtain ⟨tv, htv⟩ : ∃ z, bs text = z := ⟨_, rfl⟩
      have HT : Hid (∀ (b base : Nat) (v : Value) (w : World), KpAt w b base v H m cs text l → Calls Tryz.prog 13 #[.pointer (some ⟨b, 0, none⟩)] w fun e w' => e = .returned (.string tv) ∧ w = w') := hide (fun _ _ _ w k => by rw [← htv]; exact ktext_any w k)
      rw [htv]
      have HTV := hide htv
      clear hkb hkd htv HLY HAD HSV
      rcases hnn with hn1 | ⟨hn1, hn2⟩
      all_goals
        go_upto_region 25 with fail
        have HKR := hide (fun w' (h : Below wr.heap.size wr w') => show (fun w' => Below wr.heap.size wr w' ∧ (w'.cell? ⟨b5, 0, none⟩ = some (.int .u64 (kept : Int)) ∧ w'.cell? ⟨b5, 1, none⟩ = some (.int .i64 tn) ∧ w'.cell? ⟨b5, 2, none⟩ = some (.int .i64 cut)) ∧ w'.cell? ⟨b7, 0, none⟩ = some (.int .i64 200) ∧ w'.cell? ⟨b7, 1, none⟩ = some (.int .i64 60)) w' from ⟨h, ⟨(hC5.out.next h).cell 0, (hC5.out.next h).cell 1, (hC5.out.next h).cell 2⟩, (hC7.out.next h).cell 0, (hC7.out.next h).cell 1⟩)
        go_region_held3 (fun w' => Below wr.heap.size wr w' ∧ (w'.cell? ⟨b5, 0, none⟩ = some (.int .u64 (kept : Int)) ∧ w'.cell? ⟨b5, 1, none⟩ = some (.int .i64 tn) ∧ w'.cell? ⟨b5, 2, none⟩ = some (.int .i64 cut)) ∧ w'.cell? ⟨b7, 0, none⟩ = some (.int .i64 200) ∧ w'.cell? ⟨b7, 1, none⟩ = some (.int .i64 60)) (first | exact HKR.out _ (Below.drewed (Below.refl _ _)) | exact HKR.out _ hbq.out) (first
          | (go_at_call 12
             have hq := (‹Below wr.heap.size wr _ ∧ _›).1
             refine (HDR.out _ hq).mono ?_
             rintro e w8 ⟨rfl, hb8⟩
             have hbq := hide (chain hq hb8)
             clear hq hb8)
          | (go_at_call 11
             have hq := (‹Below wr.heap.size wr _ ∧ _›).1
             refine (HC.out _ _ (HDV.out _ hq)).mono ?_
             rintro e w8 ⟨dv2, rfl, hdv2, hb8⟩
             have hdc := hide hdv2
             clear hdv2
             have hbq := hide (chain hq hb8)
             clear hq hb8)
          | (go_at_call 10
             have hq := (‹Below wr.heap.size wr _ ∧ _›).1
             refine (HOPX.out _ _ hdc.out).mono ?_
             rintro e w8 ⟨bo, vo, rfl, ko, hb8⟩
             have hko := hide ko
             clear ko
             have hbq := hide (chain hq hb8)
             clear hq hb8))
        obtain ⟨wo, rfl⟩ : ∃ z : World, z = w8 := ⟨_, rfl⟩
        have KO := hide (KpAt.lower hko.out (Nat.zero_le _))
        have LO := hide (OwnZ.below hL.out hbq.out)
        have hbo := chain hbw hbq.out
        clear HKR hko hbq hdc HDR HDV HKD HC HOPX
        go_wp2_with fail
        refine (HT.out _ _ _ _ KO.out).mono ?_
        rintro e w9 ⟨rfl, rfl⟩
        go_wp2_with fail
        refine (HREC.out _ _ _ _ KO.out).mono ?_
        rintro e w10 ⟨rv, rfl, hown, hb10⟩
        have HOW := hide hown
        have LP := hide (OwnZ.below LO.out hb10)
        have hbp := chain hbo hb10
        clear hown hb10 hbo LO KO
        go_wp2_with fail
        refine (HSM.out _ _ _ _ _ HOW.out LP.out).mono ?_
        rintro e w11 ⟨rfl, hb11⟩
        have hbr := chain hbp hb11
        clear hb11 hbp LP HOW
        go_wp2_with fail
        go_loopw [18] (fun s18 wq => ∃ t : List UInt8, s18 = .string (bs t) ∧ t.length ≤ 3840 ∧ Hid (GoodT t) ∧ Below w.heap.size w wq) (fun s18 _ => strLen s18)
        case atStart => exact ⟨text, by rw [HTV.out], htl, hGT, hbr⟩
        case round =>
          obtain ⟨t, rfl, htl2, hgt, hbq⟩ := hrel
          clear hbr HSM HREC hON hMY HT
          by_cases hte : t = []
          · rw [hte]
            have hem : (bs []).toList.isEmpty = true := by rw [ByteArray.toList_eq]; rfl
            go_wp2_with fail
            refine (HWK.out _ (HV.out.next hbq) (HTB.out.next hbq)).mono ?_
            rintro e w12 ⟨rfl, hb12⟩
            have hb13 := chain hbq hb12
            go_wp2_with fail
            go_ret
            exact ⟨rfl, hb13⟩
          · obtain ⟨ev, r, hev, htr, hgr⟩ := hgt.out.next hte
            have hlE := layE_length hev.may
            have hlen : t.length = (layE ev).length + r.length := by rw [htr, List.length_append]
            have hx : (bs t).extract (layE ev).length (bs t).size = bs r := by rw [slice_from, htr, List.drop_left' rfl]
            have hem : (bs t).toList.isEmpty = false := by
              rw [ByteArray.toList_eq]
              cases t with
              | nil => exact absurd rfl hte
              | cons a l => rfl
            have hsz : (bs t).size = (layE ev).length + r.length := by rw [bs_size, hlen]
            have HTK : Hid (∀ w, Vars w → Calls Tryz.prog 16 #[.string (bs t)] w fun x w' => ∃ a n c, x = .returned (.tuple #[.agg #[.string (bs ev.topic), .string (bs ev.prod), .int .u64 (ev.seq : Int), .slice a n c], .int .i64 ((layE ev).length : Int), .int .i64 0]) ∧ Fds w' a n ev.l ∧ (n ≤ c ∧ c ≤ 9223372036854775807) ∧ Below w.heap.size w w') := hide (fun w hv => by
              rw [htr]
              exact evtake_any ev r w hev.may hev.inr hev.fds (by rw [List.length_append]; omega) hv)
            have HEM : Hid (∀ (a : Option Addr) (n c : Nat) (w : World), Fds w a n ev.l → (n ≤ c ∧ c ≤ 9223372036854775807) → Vars w → Calls Tryz.prog 17 #[.agg #[.string (bs ev.topic), .string (bs ev.prod), .int .u64 (ev.seq : Int), .slice a n c]] w fun x w' => x = .returned (.bool true) ∧ Below w.heap.size w w') := hide (fun a n c w h1 h2 h3 => by
              have h := evmay_any ev a n c w h1 h2 hev.inr h3
              rw [hev.may] at h
              exact h)
            have HR := hide (And.intro hgr (show r.length ≤ 3840 by omega))
            have HDEC := hide (show (bs r).size < (bs t).size by rw [bs_size, bs_size]; omega)
            obtain ⟨y0, hy0⟩ : ∃ z, bs ev.topic = z := ⟨_, rfl⟩
            obtain ⟨y1, hy1⟩ : ∃ z, bs ev.prod = z := ⟨_, rfl⟩
            obtain ⟨y2, hy2⟩ : ∃ z, ev.seq = z := ⟨_, rfl⟩
            obtain ⟨ln, hln⟩ : ∃ z, (layE ev).length = z := ⟨_, rfl⟩
            obtain ⟨zv, hzv⟩ : ∃ z, bs t = z := ⟨_, rfl⟩
            obtain ⟨rv2, hrv2⟩ : ∃ z, bs r = z := ⟨_, rfl⟩
            have HRV := hide hrv2
            rw [hy0, hy1, hy2, hln, hzv] at HTK
            rw [hy0, hy1, hy2] at HEM
            rw [hln, hzv, hrv2] at hx
            rw [hzv] at hem
            rw [hzv, hln] at hsz
            rw [hzv, hrv2] at HDEC
            rw [hln] at hlE
            rw [hzv]
            have g1 : ¬ (ln : Int) < 1 := by omega
            have g2 : ¬ (zv.size : Int) < (ln : Int) := by omega
            have g3 : (ln : Int) ≤ (zv.size : Int) := by omega
            clear hte htr hlen hy0 hy1 hy2 hln hzv hrv2 hgt hgr hlE hsz hev
            go_wp2_with fail
            refine (HTK.out _ (HV.out.next hbq)).mono ?_
            rintro e w12 ⟨af, nf, cf, rfl, hfd, hnf, hb12⟩
            have HFD := hide hfd
            have HNF := hide hnf
            have hb13 := chain hbq hb12
            clear hfd hnf hb12 hbq
            go_upto_region 31 with fail
            obtain ⟨W9, hW9⟩ : ∃ z, w12.alloc (.cells #[.string y0, .string y1, .int .u64 (y2 : Int), .slice af nf cf] 37) = z := ⟨_, rfl⟩
            have hal : Below w12.heap.size w12 W9 := by rw [← hW9]; exact (Below.refl _ _).alloc (Nat.le_refl _) _
            have BE : Blk W9 w12.heap.size [.string y0, .string y1, .int .u64 (y2 : Int), .slice af nf cf] 37 := by rw [← hW9]; exact Blk.new w12 _ _
            rw [hW9]
            have HFD2 := hide (HFD.out.below hal)
            have hb14 := chain hb13 hal
            obtain ⟨p0, p1, p2, p3, p4, p5, p6, p7⟩ := BE.four
            obtain ⟨bE, hbE⟩ : ∃ z, w12.heap.size = z := ⟨_, rfl⟩
            rw [hbE] at p0 p1 p2 p3 p4 p5 p6 p7 ⊢
            clear hW9 hal BE hb13 HFD hbE
            go_wp2_with fail
            refine (HEM.out _ _ _ _ HFD2.out HNF.out (HV.out.next hb14)).mono ?_
            rintro e w15 ⟨rfl, hb15⟩
            have hb16 := chain hb14 hb15
            clear hb14 hb15 p0 p1 p2 p3 p4 p5 p6 p7
            go_wp2_with fail
            go_roundw
            case rel => exact ⟨r, by rw [HRV.out], HR.out.2, hide HR.out.1, hb16⟩
            case measure => exact HDEC.out

end Go.Proofs.YtogonkoeginoaaaGreatDoor
