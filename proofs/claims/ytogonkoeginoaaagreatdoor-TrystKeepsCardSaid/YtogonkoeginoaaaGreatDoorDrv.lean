/-
  The drive, in plain Lean: what the disk's functions answer. No program in sight.
-/
import Derived.Test.YtogonkoeginoaaaGreatDoorNumPure
namespace Go.Proofs.YtogonkoeginoaaaGreatDoor

/-- A write that waits. -/
structure Wt where
  pos : Int
  s : List UInt8
/-- A drive. -/
structure Drv where
  cells : List (List UInt8)
  queue : List Wt
  fuel : Int
  off : Bool

def Drv.zero : Drv := ⟨[], [], 0, false⟩

/-- May a drive be? -/
structure Drv.May (d : Drv) : Prop where
  some : 1 ≤ d.cells.length
  most : d.cells.length ≤ 6000
  fuel : -1 ≤ d.fuel
  cell : ∀ c ∈ d.cells, c.length = 64
  wait : ∀ w ∈ d.queue, 0 ≤ w.pos ∧ w.pos < d.cells.length ∧ w.s.length = 64
def cellsOk (l : List (List UInt8)) : Bool := l.all fun c => c.length == 64
def waitsOk (n : Nat) (l : List Wt) : Bool := l.all fun w => decide (0 ≤ w.pos ∧ w.pos < n) && w.s.length == 64
def Drv.mayB (d : Drv) : Bool := decide (1 ≤ d.cells.length ∧ d.cells.length ≤ 6000 ∧ -1 ≤ d.fuel) && cellsOk d.cells && waitsOk d.cells.length d.queue

theorem Drv.mayB_iff (d : Drv) : d.mayB = true ↔ d.May := by
  unfold Drv.mayB cellsOk waitsOk
  simp only [Bool.and_eq_true, decide_eq_true_iff, List.all_eq_true, beq_iff_eq]
  constructor
  · rintro ⟨⟨⟨h1, h2, h3⟩, h4⟩, h5⟩
    exact ⟨h1, h2, h3, h4, fun w hw => ⟨(h5 w hw).1.1, (h5 w hw).1.2, (h5 w hw).2⟩⟩
  · rintro ⟨h1, h2, h3, h4, h5⟩
    exact ⟨⟨⟨h1, h2, h3⟩, h4⟩, fun w hw => ⟨⟨(h5 w hw).1, (h5 w hw).2.1⟩, (h5 w hw).2.2⟩⟩

/-- Writes done, one behind the other. -/
def puts (cs : List (List UInt8)) (q : List Wt) : List (List UInt8) := q.foldl (fun cs w => cs.set w.pos.toNat w.s) cs
theorem puts_length (q : List Wt) : ∀ cs, (puts cs q).length = cs.length := by
  induction q with
  | nil => intro cs; rfl
  | cons w q ih => intro cs; rw [puts, List.foldl_cons]; exact (ih _).trans (by simp)
theorem puts_snoc (cs : List (List UInt8)) (q : List Wt) (w : Wt) : puts cs (q ++ [w]) = (puts cs q).set w.pos.toNat w.s := by simp [puts]
/-- A drive's cells, with what waits. -/
def Drv.full (d : Drv) : List (List UInt8) := puts d.cells d.queue

/-- Are there n cells from one on? -/
def Drv.there (d : Drv) (at_ n : Int) : Bool := decide (0 ≤ at_ ∧ 0 ≤ n ∧ at_ ≤ d.cells.length ∧ n ≤ d.cells.length - at_)

/-- Read. -/
def Drv.read (d : Drv) (at_ n : Int) : List UInt8 × Int :=
  if d.mayB = false then ([], 1) else if d.there at_ n = false then ([], 12) else if d.off then ([], 10) else
  ((((d.full).drop at_.toNat).take n.toNat).flatten, 0)

/-- One of the fuel is burned, or the power goes off. -/
def Drv.burnOk (d : Drv) : Bool := !(d.off || decide (d.fuel = 0))
def Drv.burn (d : Drv) : Drv := if d.burnOk then { d with fuel := if 0 < d.fuel then d.fuel - 1 else d.fuel } else { d with off := true }

/-- Octets in pieces of 64. -/
def chunks : Nat → List UInt8 → List (List UInt8)
  | 0, _ => []
  | n + 1, s => s.take 64 :: chunks n (s.drop 64)

/-- Writes that wait, one behind the other, till the power goes off. -/
def wrs : List (List UInt8) → Int → Drv → Drv × Int
  | [], _, d => (d, 0)
  | c :: r, p, d => if d.burnOk then wrs r (p + 1) { d.burn with queue := d.queue ++ [⟨p, c⟩] } else (d.burn, 10)

/-- Write. -/
def Drv.write (d : Drv) (at_ : Int) (s : List UInt8) : Drv × Int :=
  if d.mayB = false ∨ s = [] ∨ s.length % 64 ≠ 0 then (Drv.zero, 1) else
  if d.there at_ (s.length / 64 : Nat) = false then (Drv.zero, 12) else wrs (chunks (s.length / 64) s) at_ d

/-- Flush. -/
def Drv.flush (d : Drv) : Drv × Int :=
  if d.mayB = false then (Drv.zero, 1) else if d.burnOk then ({ d.burn with cells := d.full, queue := [] }, 0) else (d.burn, 10)

/-- A cell that a crash tears. -/
def torn (cut : Int) (old young : List UInt8) : List UInt8 := young.take (min (max cut 0) 64).toNat ++ old.drop (min (max cut 0) 64).toNat
/-- Is the i-th write kept? -/
def keepsB (kept : Nat) (i : Nat) : Bool := decide (kept / 2 ^ (i % 64) % 2 = 1)

/-- What a crash makes of cells, from the i-th write that waits on. -/
def crashes (kept : Nat) (tornAt cut : Int) : Nat → List Wt → List (List UInt8) → List (List UInt8)
  | _, [], cs => cs
  | i, w :: q, cs => crashes kept tornAt cut (i + 1) q
      (if (i : Int) = tornAt then cs.set w.pos.toNat (torn cut (cs.getD w.pos.toNat []) w.s) else if keepsB kept i then cs.set w.pos.toNat w.s else cs)

def Drv.crash (d : Drv) (kept : Nat) (tornAt cut : Int) : Drv :=
  if d.mayB then ⟨crashes kept tornAt cut 0 d.queue d.cells, [], -1, false⟩ else Drv.zero

/-- The fuel is told. -/
def Drv.tell (d : Drv) (n : Int) : Drv × Int := if d.mayB = false ∨ n < -1 then (Drv.zero, 1) else ({ d with fuel := n }, 0)

/-- A new drive. -/
def blank : List UInt8 := List.replicate 64 0
def Drv.new (n : Int) : Drv × Int := if n < 1 ∨ 6000 < n then (Drv.zero, 1) else (⟨List.replicate n.toNat blank, [], -1, false⟩, 0)

end Go.Proofs.YtogonkoeginoaaaGreatDoor
