/-
  A drive in memory: lists of strings and of waiting writes, as slices.
-/
import Derived.Test.YtogonkoeginoaaaGreatDoorMem
import Derived.Test.YtogonkoeginoaaaGreatDoorDrv
namespace Go.Proofs.YtogonkoeginoaaaGreatDoor
open Go.RowKit

/-- A row of cells behind an address. -/
def Row (w : World) (ao : Option Addr) (vs : List Value) : Prop := vs = [] ∨ ∃ b off, ao = some ⟨b, off, none⟩ ∧ ∀ j v, vs[j]? = some v → w.cell? ⟨b, off + j, none⟩ = some v

theorem Row.below {w w' : World} {ao : Option Addr} {vs : List Value} (h : Row w ao vs) (hb : Below w.heap.size w w') : Row w' ao vs := by
  refine h.imp id ?_
  rintro ⟨b, off, e, hc⟩
  refine ⟨b, off, e, fun j v hj => ?_⟩
  have hlt : b < w.heap.size := World.block_lt_of_cell? w _ (hc j v hj)
  rw [hb.cell (p := ⟨b, off + j, none⟩) hlt]
  exact hc j v hj
theorem Row.nil (w : World) (ao : Option Addr) : Row w ao [] := .inl rfl
theorem row_of_own {w : World} {base : Nat} {e : TypeId} {size : Nat} {g n cap : Nat} {vs : List Value} (h : w.ownsRow base e size (.slice (some ⟨g, 0, none⟩) n cap) n vs) : Row w (some ⟨g, 0, none⟩) vs := by
  refine .inr ⟨g, 0, rfl, fun j v hj => ?_⟩
  have hl : j < vs.length := (List.getElem?_eq_some_iff.1 hj).1
  have := h.cellAt j (by rw [← h.1]; exact hl)
  rw [Nat.zero_add, this, hj]

/-- The cells of strings. -/
def strVals (xs : List (List UInt8)) : List Value := xs.map fun x => Value.string (bs x)
/-- The cells of waiting writes: two each. -/
def waitVals (q : List Wt) : List Value := q.flatMap fun x => [Value.int .i64 x.pos, Value.string (bs x.s)]
theorem strVals_length (xs : List (List UInt8)) : (strVals xs).length = xs.length := by simp [strVals]
theorem waitVals_length (q : List Wt) : (waitVals q).length = q.length * 2 := by
  induction q with
  | nil => rfl
  | cons x q ih =>
    have e : waitVals (x :: q) = [Value.int .i64 x.pos, Value.string (bs x.s)] ++ waitVals q := rfl
    rw [e, List.length_append, ih]; simp; omega
theorem strVals_at (xs : List (List UInt8)) (i : Nat) (h : i < xs.length) : (strVals xs)[i]? = some (.string (bs (xs.getD i []))) := by
  simp [strVals, List.getD, h]
theorem waitVals_at (q : List Wt) : ∀ i, i < q.length → (waitVals q)[i * 2]? = some (.int .i64 (q.getD i ⟨0, []⟩).pos) ∧ (waitVals q)[i * 2 + 1]? = some (.string (bs (q.getD i ⟨0, []⟩).s)) := by
  induction q with
  | nil => intro i h; simp at h
  | cons x q ih =>
    intro i h
    have e : waitVals (x :: q) = Value.int .i64 x.pos :: Value.string (bs x.s) :: waitVals q := rfl
    cases i with
    | zero => rw [e]; exact ⟨rfl, rfl⟩
    | succ i =>
      have h2 := ih i (by simpa using h)
      rw [e, show (i + 1) * 2 = i * 2 + 1 + 1 by omega]
      simpa using h2
theorem waitVals_append (a b : List Wt) : waitVals (a ++ b) = waitVals a ++ waitVals b := by simp [waitVals]
theorem strVals_append (a b : List (List UInt8)) : strVals (a ++ b) = strVals a ++ strVals b := by simp [strVals]
theorem strVals_one (xs : List (List UInt8)) : ∀ u ∈ strVals xs, u.oneCell' = true := by
  intro u hu
  obtain ⟨_, _, rfl⟩ := List.mem_map.1 hu
  rfl
theorem waitVals_one (q : List Wt) : ∀ u ∈ waitVals q, u.oneCell' = true := by
  intro u hu
  obtain ⟨x, _, hx⟩ := List.mem_flatMap.1 hu
  simp at hx
  rcases hx with rfl | rfl <;> rfl
theorem strVals_set (xs : List (List UInt8)) (i : Nat) (x : List UInt8) : (strVals xs).set i (.string (bs x)) = strVals (xs.set i x) := by simp [strVals, List.map_set]

/-- A slice of strings that reads as a list of octets. -/
structure Strs (w : World) (ao : Option Addr) (n : Nat) (xs : List (List UInt8)) : Prop where
  len : xs.length = n
  row : Row w ao (strVals xs)

/-- A slice of waiting writes: two cells each. -/
structure Waits (w : World) (ao : Option Addr) (n : Nat) (q : List Wt) : Prop where
  len : q.length = n
  range : ∀ x ∈ q, -9223372036854775808 ≤ x.pos ∧ x.pos < 9223372036854775808
  row : Row w ao (waitVals q)

theorem elem_strs : Tryz.prog.elem 32 = 9 := by kernel_rfl
theorem elem_waits : Tryz.prog.elem 42 = 96 := by kernel_rfl
theorem cells_str : (Tryz.prog.info? 9).map (fun i => i.size) = some 1 := by kernel_rfl
theorem cells_wait : (Tryz.prog.info? 96).map (fun i => i.size) = some 2 := by kernel_rfl

/-- 's[k]' of a slice of strings: where it lies. -/
theorem idx_strs (b off n c k : Nat) (hk : k < n) (w : World) : (Instr.indexAt 32 (.slice (some ⟨b, off, none⟩) n c) (.int .i64 (k : Int))).run Tryz.prog w = .ok (.pointer (some ⟨b, off + k, none⟩)) w := by
  simp [go_sem, hk]
theorem idx_waits (b off n c k : Nat) (hk : k < n) (w : World) : (Instr.indexAt 42 (.slice (some ⟨b, off, none⟩) n c) (.int .i64 (k : Int))).run Tryz.prog w = .ok (.pointer (some ⟨b, off + k * 2, none⟩)) w := by
  simp [go_sem, hk]

theorem Strs.at {w : World} {ao : Option Addr} {n : Nat} {xs : List (List UInt8)} (h : Strs w ao n xs) (c k : Nat) (hk : k < n) : ∃ b o, b < w.heap.size ∧
    (∀ W, (Instr.indexAt 32 (.slice ao n c) (.int .i64 (k : Int))).run Tryz.prog W = .ok (.pointer (some ⟨b, o, none⟩)) W) ∧ w.cell? ⟨b, o, none⟩ = some (.string (bs (xs.getD k []))) := by
  have hl := h.len
  rcases h.row with h0 | ⟨b, off, rfl, hc⟩
  · have := strVals_length xs; rw [h0] at this; simp at this; omega
  · have h1 := hc k _ (strVals_at xs k (by omega))
    exact ⟨b, off + k, World.block_lt_of_cell? w _ h1, fun W => idx_strs b off n c k hk W, h1⟩
theorem Waits.at {w : World} {ao : Option Addr} {n : Nat} {q : List Wt} (h : Waits w ao n q) (c k : Nat) (hk : k < n) : ∃ b o, b < w.heap.size ∧
    (∀ W, (Instr.indexAt 42 (.slice ao n c) (.int .i64 (k : Int))).run Tryz.prog W = .ok (.pointer (some ⟨b, o, none⟩)) W) ∧
    w.cell? ⟨b, o, none⟩ = some (.int .i64 (q.getD k ⟨0, []⟩).pos) ∧ w.cell? ⟨b, o + 1, none⟩ = some (.string (bs (q.getD k ⟨0, []⟩).s)) := by
  have hl := h.len
  rcases h.row with h0 | ⟨b, off, rfl, hc⟩
  · have := waitVals_length q; rw [h0] at this; simp at this; omega
  · obtain ⟨e1, e2⟩ := waitVals_at q k (by omega)
    have h1 := hc _ _ e1
    have h2 := hc _ _ e2
    exact ⟨b, off + k * 2, World.block_lt_of_cell? w _ h1, fun W => idx_waits b off n c k hk W, h1, by rw [Nat.add_assoc]; exact h2⟩

theorem Strs.below {w w' : World} {ao : Option Addr} {n : Nat} {xs : List (List UInt8)} (h : Strs w ao n xs) (hb : Below w.heap.size w w') : Strs w' ao n xs := ⟨h.len, h.row.below hb⟩
theorem Waits.below {w w' : World} {ao : Option Addr} {n : Nat} {q : List Wt} (h : Waits w ao n q) (hb : Below w.heap.size w w') : Waits w' ao n q := ⟨h.len, h.range, h.row.below hb⟩

/-- A value that is a drive, in memory. -/
structure DriveAt (w : World) (a1 : Option Addr) (n1 c1 : Nat) (a2 : Option Addr) (n2 c2 : Nat) (fuel : Int) (off : Bool) (d : Drv) : Prop where
  cells : Strs w a1 n1 d.cells
  queue : Waits w a2 n2 d.queue
  room1 : n1 ≤ c1 ∧ c1 ≤ 9223372036854775807
  room2 : n2 ≤ c2 ∧ c2 ≤ 9223372036854775807
  fuel_eq : d.fuel = fuel
  off_eq : d.off = off
  range : -9223372036854775808 ≤ fuel ∧ fuel < 9223372036854775808
def drvVal (a1 : Option Addr) (n1 c1 : Nat) (a2 : Option Addr) (n2 c2 : Nat) (fuel : Int) (off : Bool) : Value := .agg #[.slice a1 n1 c1, .slice a2 n2 c2, .int .i64 fuel, .bool off]
def IsDrive (w : World) (v : Value) (d : Drv) : Prop := ∃ a1 n1 c1 a2 n2 c2 fuel off, v = drvVal a1 n1 c1 a2 n2 c2 fuel off ∧ DriveAt w a1 n1 c1 a2 n2 c2 fuel off d

theorem DriveAt.below {w w' : World} {a1 n1 c1 a2 n2 c2 fuel off d} (h : DriveAt w a1 n1 c1 a2 n2 c2 fuel off d) (hb : Below w.heap.size w w') : DriveAt w' a1 n1 c1 a2 n2 c2 fuel off d :=
  ⟨h.cells.below hb, h.queue.below hb, h.room1, h.room2, h.fuel_eq, h.off_eq, h.range⟩
theorem IsDrive.below {w w' : World} {v : Value} {d : Drv} (h : IsDrive w v d) (hb : Below w.heap.size w w') : IsDrive w' v d := by
  obtain ⟨a1, n1, c1, a2, n2, c2, fuel, off, e, hd⟩ := h
  exact ⟨a1, n1, c1, a2, n2, c2, fuel, off, e, hd.below hb⟩

end Go.Proofs.YtogonkoeginoaaaGreatDoor
