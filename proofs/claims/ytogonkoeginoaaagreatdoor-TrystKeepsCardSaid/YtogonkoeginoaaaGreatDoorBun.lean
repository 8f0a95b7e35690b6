/-
  What a walk through a statement on the log keeps of the world, as one list: boxes, drives, rows of strings and of tapes; and what steps of the walk do to it.
-/
import Derived.Test.YtogonkoeginoaaaGreatDoorTapeLaw
import Derived.Test.YtogonkoeginoaaaGreatDoorAppReg
import Derived.Test.YtogonkoeginoaaaGreatDoorLogLawS
namespace Go.Proofs.YtogonkoeginoaaaGreatDoor
open Go.RowKit

/-- The tapes as they were when each record went on. -/
def tapesAt (all : List (List UInt8)) (sr : Nat) : List Tp := (List.range all.length).map fun i => ⟨3, 20, (span (all.take i) : Nat), (sr + i : Nat)⟩
theorem tapesAt_length (all : List (List UInt8)) (sr : Nat) : (tapesAt all sr).length = all.length := by simp [tapesAt]
theorem tapesAt_snoc (all : List (List UInt8)) (s : List UInt8) (sr : Nat) : tapesAt (all ++ [s]) sr = tapesAt all sr ++ [⟨3, 20, (span all : Nat), (sr + all.length : Nat)⟩] := by
  unfold tapesAt
  rw [List.length_append, List.length_singleton, List.range_succ, List.map_append]
  congr 1
  · apply List.map_congr_left
    intro i hi
    have hi2 : i ≤ all.length := Nat.le_of_lt (List.mem_range.1 hi)
    rw [List.take_append_of_le_length hi2]
  · simp
/-- Their cells: four each. -/
def tapeVals (ts : List Tp) : List Value := ts.flatMap tpCells
theorem tapeVals_length (ts : List Tp) : (tapeVals ts).length = ts.length * 4 := by
  induction ts with
  | nil => rfl
  | cons t ts ih =>
    have e : tapeVals (t :: ts) = tpCells t ++ tapeVals ts := rfl
    rw [e, List.length_append, ih]
    simp [tpCells]
    omega
theorem tapeVals_snoc (ts : List Tp) (t : Tp) : tapeVals (ts ++ [t]) = tapeVals ts ++ tpCells t := by simp [tapeVals]
theorem tapeVals_one (ts : List Tp) : ∀ u ∈ tapeVals ts, u.oneCell' = true := by
  intro u hu
  obtain ⟨t, _, ht⟩ := List.mem_flatMap.1 hu
  simp [tpCells] at ht
  rcases ht with rfl | rfl | rfl | rfl <;> rfl
theorem tapeVals_at (ts : List Tp) : ∀ i, i < ts.length → (tapeVals ts)[i * 4]? = some (.int .i64 (ts.getD i Tp.zero).from_) ∧ (tapeVals ts)[i * 4 + 1]? = some (.int .i64 (ts.getD i Tp.zero).len) ∧ (tapeVals ts)[i * 4 + 2]? = some (.int .i64 (ts.getD i Tp.zero).pos) ∧ (tapeVals ts)[i * 4 + 3]? = some (.int .i64 (ts.getD i Tp.zero).serial) := by
  induction ts with
  | nil => intro i h; simp at h
  | cons t ts ih =>
    intro i h
    have e : tapeVals (t :: ts) = .int .i64 t.from_ :: .int .i64 t.len :: .int .i64 t.pos :: .int .i64 t.serial :: tapeVals ts := rfl
    cases i with
    | zero => rw [e]; exact ⟨rfl, rfl, rfl, rfl⟩
    | succ i =>
      have h2 := ih i (by simpa using h)
      rw [e, show (i + 1) * 4 = i * 4 + 1 + 1 + 1 + 1 by omega]
      simpa using h2
theorem tapesAt_getD (all : List (List UInt8)) (sr i : Nat) (h : i < all.length) : (tapesAt all sr).getD i Tp.zero = ⟨3, 20, (span (all.take i) : Nat), (sr + i : Nat)⟩ := by
  simp [tapesAt, List.getD, h]

/-- Appending to a tape with power for it: the record goes on, or it is refused. -/
theorem OnTape.appendAny {cs : List (List UInt8)} {m sr : Nat} {all : List (List UInt8)} (h : OnTape cs m sr all) (s : List UInt8) (h1 : 1 ≤ sr) (h2 : sr + all.length ≤ 16777215) :
    (∃ cs', Drv.append ⟨cs, [], -1, false⟩ ⟨3, 20, (span all : Nat), (sr + all.length : Nat)⟩ s = (⟨cs', [], -1, false⟩, ⟨3, 20, (span (all ++ [s]) : Nat), (sr + (all ++ [s]).length : Nat)⟩, 0) ∧ OnTape cs' m sr (all ++ [s])) ∨
    ∃ E, Drv.append ⟨cs, [], -1, false⟩ ⟨3, 20, (span all : Nat), (sr + all.length : Nat)⟩ s = (Drv.zero, Tp.zero, E) ∧ (E = 6 ∨ E = 1) := by
  by_cases hs : s.length ≤ 4000
  · by_cases hr : span all + kOf s.length ≤ 20
    · exact .inl (h.append s hs hr h1 h2)
    · exact .inr ⟨6, h.full (by omega) s hs hr h1 h2, .inl rfl⟩
  · refine .inr ⟨1, ?_, .inr rfl⟩
    unfold Drv.append
    rw [if_pos (.inr (by omega))]

/-- What few makes of a text. -/
def fewOf (l : List UInt8) : List UInt8 := if 400 < l.length ∧ l.length ≤ 4000 then l.take 400 else if 4001 < l.length then l.take 4001 else l
theorem fewOf_length (l : List UInt8) : (fewOf l).length ≤ 4001 := by
  unfold fewOf
  split
  · rw [List.length_take]; omega
  · split
    · rw [List.length_take]; omega
    · omega

/-- A row of tapes that the call made, with 0 behind it. -/
def ZT (u : Value) : Prop := u = .int .i64 0
def OwnT (w : World) (base : Nat) (v : Value) (ts : List Tp) : Prop := OwnZ w base 63 4 ZT v ts.length (tapeVals ts)
theorem zt64 : ∀ u, ZT u → ∀ c : List UInt8, c.length = 64 → u ≠ .string (bs c) := by
  rintro u rfl c _ e
  cases e

theorem info_tape : (Tryz.prog.info? 63).map (fun i => (i.zero, i.size, i.bytes)) = some (some (.agg #[.int .i64 0, .int .i64 0, .int .i64 0, .int .i64 0]), 4, 32) := by kernel_rfl


/-- A step that writes one block at most, and no string of 64 octets away. -/
structure Step (w w' : World) (row : Option Nat) : Prop where
  grown : w.grownBy w' row
  k64 : Keeps64 w w'

theorem Step.below {w w' : World} (h : Below w.heap.size w w') : Step w w' none := by
  refine ⟨below_grown h, fun b j c _ hb => ?_⟩
  have hlt := World.block_lt_of_cell? w _ hb
  rw [h.cell (p := ⟨b, j, none⟩) hlt]
  exact hb
theorem Step.trans {a b c : World} {row : Option Nat} (h1 : Step a b row) (h2 : Step b c row) : Step a c row :=
  ⟨⟨h2.grown.os.trans h1.grown.os, h2.grown.tape.trans h1.grown.tape, h2.grown.output.trans h1.grown.output, Nat.le_trans h1.grown.size h2.grown.size, fun k hk hne => (h2.grown.block k (Nat.lt_of_lt_of_le hk h1.grown.size) hne).trans (h1.grown.block k hk hne)⟩, fun b j c hc hb => h2.k64 b j c hc (h1.k64 b j c hc hb)⟩

def noStr : Value → Bool
  | .string _ => false
  | _ => true
theorem Step.set {w : World} {b : Nat} {vs : List Value} {t : TypeId} (h : Blk w b vs t) (hn : ∀ u ∈ vs, noStr u = true) (i : Nat) (u : Value) : Step w (w.setCell ⟨b, i, none⟩ u) (some b) := by
  refine ⟨grown_setCell w b i u, fun b' j c hc hb => ?_⟩
  by_cases e : b' = b
  · subst e
    rw [h.cell j] at hb
    have := hn _ (List.mem_of_getElem? hb)
    cases this
  · rw [World.cell?_setCell_other _ _ _ _ (fun e2 => by injection e2 with e2; exact e e2.symm)]
    exact hb
theorem Step.set4 {w : World} {b : Nat} {u0 u1 u2 u3 : Value} {t : TypeId} (h : Blk w b [u0, u1, u2, u3] t) (hn : noStr u0 = true ∧ noStr u1 = true ∧ noStr u2 = true ∧ noStr u3 = true) (v0 v1 v2 v3 : Value) (hv : noStr v0 = true ∧ noStr v1 = true ∧ noStr v2 = true) :
    Step w ((((w.setCell ⟨b, 0, none⟩ v0).setCell ⟨b, 1, none⟩ v1).setCell ⟨b, 2, none⟩ v2).setCell ⟨b, 3, none⟩ v3) (some b) := by
  obtain ⟨h0, h1, h2, h3⟩ := hn
  obtain ⟨k0, k1, k2⟩ := hv
  have a1 := Step.set h (by simp [h0, h1, h2, h3]) 0 v0
  have b1 := h.set 0 v0
  have a2 := Step.set b1 (by simp [h1, h2, h3, k0]) 1 v1
  have b2 := b1.set 1 v1
  have a3 := Step.set b2 (by simp [h2, h3, k0, k1]) 2 v2
  have b3 := b2.set 2 v2
  have a4 := Step.set b3 (by simp [h3, k0, k1, k2]) 3 v3
  exact ((a1.trans a2).trans a3).trans a4

/-- A drive with nothing that waits. -/
def Still (d : Drv) : Prop := d.queue = [] ∧ ∀ c ∈ d.cells, c.length = 64
theorem Still.of {cs : List (List UInt8)} {f : Int} {o : Bool} (h : ∀ c ∈ cs, c.length = 64) : Still ⟨cs, [], f, o⟩ := ⟨rfl, h⟩

theorem new_24 : (Drv.new 24).1 = ⟨List.replicate 24 blank, [], -1, false⟩ := by kernel_rfl
theorem OnTape.still {cs : List (List UInt8)} {m sr : Nat} {all : List (List UInt8)} (h : OnTape cs m sr all) (f : Int) (o : Bool) : Still ⟨cs, [], f, o⟩ := ⟨rfl, h.cell⟩

inductive Res where
  | box (b : Nat) (d : Drv)
  | drv (v : Value) (d : Drv)
  | blk (b : Nat) (vs : List Value) (t : TypeId)
  | ownS (base : Nat) (v : Value) (xs : List (List UInt8))
  | ownT (base : Nat) (v : Value) (ts : List Tp)

def Res.at (w : World) : Res → Prop
  | .box b d => (∃ v, Holds w b v ∧ IsDrive w v d) ∧ Still d
  | .drv v d => IsDrive w v d ∧ Still d
  | .blk b vs t => Blk w b vs t
  | .ownS base v xs => OwnS w base v xs
  | .ownT base v ts => OwnT w base v ts
def Res.apart (b : Nat) : Res → Prop
  | .box b' _ => b' ≠ b
  | .drv _ _ => True
  | .blk b' _ _ => b' ≠ b
  | .ownS _ v _ => v.ownBlock ≠ some b
  | .ownT _ v _ => v.ownBlock ≠ some b

theorem Res.next {w w' : World} {r : Res} (h : r.at w) (hb : Below w.heap.size w w') : r.at w' := by
  cases r with
  | box b d =>
    obtain ⟨⟨v, h1, h2⟩, h3⟩ := h
    exact ⟨⟨v, h1.next hb, h2.below hb⟩, h3⟩
  | drv v d => exact ⟨h.1.below hb, h.2⟩
  | blk b vs t => exact Blk.next h hb
  | ownS base v xs => exact OwnZ.below h hb
  | ownT base v ts => exact OwnZ.below h hb
theorem Res.step {w w' : World} {r : Res} {b : Nat} (h : r.at w) (hs : Step w w' (some b)) (ha : r.apart b) : r.at w' := by
  cases r with
  | box b' d =>
    obtain ⟨⟨v, h1, h2⟩, h3⟩ := h
    obtain ⟨a1, n1, c1, a2, n2, c2, f, o, e, h⟩ := h1
    exact ⟨⟨v, ⟨a1, n1, c1, a2, n2, c2, f, o, e, h.grown hs.grown (by intro e; injection e with e; exact ha e)⟩, h2.keeps64 hs.k64 h3.2 h3.1⟩, h3⟩
  | drv v d => exact ⟨h.1.keeps64 hs.k64 h.2.2 h.2.1, h.2⟩
  | blk b' vs t => exact Blk.grown h hs.grown (by intro e; injection e with e; exact ha e)
  | ownS base v xs => exact OwnZ.kept h hs.grown (.inr ha)
  | ownT base v ts => exact OwnZ.kept h hs.grown (.inr ha)

/-- All of a list. -/
def Have (w : World) (l : List Res) : Prop := ∀ r ∈ l, r.at w
theorem Have.nil (w : World) : Have w [] := fun r h => by cases h
theorem Have.cons {w : World} {r : Res} {l : List Res} (h1 : r.at w) (h : Have w l) : Have w (r :: l) := by
  intro x hx
  rcases List.mem_cons.1 hx with rfl | hx
  · exact h1
  · exact h x hx
theorem Have.at {w : World} {l : List Res} (h : Have w l) (i : Nat) {r : Res} (hr : l[i]? = some r) : r.at w := h r (List.mem_of_getElem? hr)
theorem Have.next {w w' : World} {l : List Res} (h : Have w l) (hb : Below w.heap.size w w') : Have w' l := fun r hr => Res.next (h r hr) hb
def Aparts (b : Nat) : List Res → Prop
  | [] => True
  | r :: l => r.apart b ∧ Aparts b l
theorem Aparts.mem {b : Nat} {l : List Res} (h : Aparts b l) : ∀ r ∈ l, r.apart b := by
  induction l with
  | nil => intro r hr; cases hr
  | cons x l ih =>
    intro r hr
    rcases List.mem_cons.1 hr with rfl | hr
    · exact h.1
    · exact ih h.2 r hr
theorem Have.step {w w' : World} {l : List Res} {b : Nat} (h : Have w l) (hs : Step w w' (some b)) (ha : Aparts b l) : Have w' l := fun r hr => Res.step (h r hr) hs (ha.mem r hr)
/-- An append to a row of the call's own. -/
theorem Have.grow {w w' : World} {l : List Res} {row : Option Nat} (h : Have w l) (hg : w.grownBy w' row) (hk : Keeps64 w w') (ha : ∀ b, row = some b → Aparts b l) : Have w' l := by
  cases row with
  | none => exact h.next ⟨hg.os, hg.tape, hg.output, hg.size, fun k hk => hg.block k hk (by simp)⟩
  | some b => exact h.step ⟨hg, hk⟩ (ha b rfl)

theorem own_base {w : World} {base b : Nat} {e : TypeId} {size n : Nat} {Z : Value → Prop} {v : Value} {xs : List Value} (h : OwnZ w base e size Z v n xs) (hb : b < base) : v.ownBlock ≠ some b := fun e => by have := (h.1.lt b e).1; omega
theorem own_size {w : World} {base b : Nat} {e : TypeId} {size n : Nat} {Z : Value → Prop} {v : Value} {xs : List Value} (h : OwnZ w base e size Z v n xs) (hb : w.heap.size ≤ b) : v.ownBlock ≠ some b := fun e => by have := (h.1.lt b e).2; omega
theorem own_type {w : World} {base b : Nat} {e t : TypeId} {size n : Nat} {Z : Value → Prop} {v : Value} {xs vs : List Value} (h : OwnZ w base e size Z v n xs) (hb : Blk w b vs t) (hne : t ≠ e) : v.ownBlock ≠ some b := by
  rcases h.1.2 with ⟨rfl, _⟩ | ⟨g, cap, cur, rfl, _, hg, _⟩
  · intro e; cases e
  · intro e2
    injection e2 with e2
    subst e2
    unfold Blk at hb
    rw [hg] at hb
    injection hb with hb
    injection hb with _ hb _
    exact hne hb.symm
theorem own_own {w : World} {base base' : Nat} {e e' : TypeId} {size n size' n' : Nat} {Z Z' : Value → Prop} {v v' : Value} {xs xs' : List Value} (h : OwnZ w base e size Z v n xs) (h' : OwnZ w base' e' size' Z' v' n' xs') (hne : e ≠ e') : ∀ b, v.ownBlock = some b → v'.ownBlock ≠ some b := by
  rcases h.1.2 with ⟨rfl, _⟩ | ⟨g, cap, cur, rfl, _, hg, _⟩
  · intro b hb; cases hb
  · rcases h'.1.2 with ⟨rfl, _⟩ | ⟨g', cap', cur', rfl, _, hg', _⟩
    · intro b _ hb; cases hb
    · intro b hb hb'
      injection hb with hb
      injection hb' with hb'
      simp only at hb hb'
      rw [hb] at hg
      rw [hb'] at hg'
      rw [hg] at hg'
      injection hg' with hg'
      injection hg' with _ hg' _
      exact hne hg'

theorem Have.tail {w : World} {r : Res} {l : List Res} (h : Have w (r :: l)) : Have w l := fun x hx => h x (List.mem_cons_of_mem _ hx)
theorem Have.blkAt {w : World} {l : List Res} (h : Have w l) (i : Nat) {b : Nat} {vs : List Value} {t : TypeId} (hr : l[i]? = some (.blk b vs t)) : Blk w b vs t := h.at i hr
theorem Have.drvAt {w : World} {l : List Res} (h : Have w l) (i : Nat) {v : Value} {d : Drv} (hr : l[i]? = some (.drv v d)) : IsDrive w v d := (show IsDrive w v d ∧ Still d from h.at i hr).1
theorem Have.ownSAt {w : World} {l : List Res} (h : Have w l) (i : Nat) {base : Nat} {v : Value} {xs : List (List UInt8)} (hr : l[i]? = some (.ownS base v xs)) : OwnS w base v xs := h.at i hr
theorem Have.ownTAt {w : World} {l : List Res} (h : Have w l) (i : Nat) {base : Nat} {v : Value} {ts : List Tp} (hr : l[i]? = some (.ownT base v ts)) : OwnT w base v ts := h.at i hr
theorem Have.consS {w : World} {l : List Res} {base : Nat} {v : Value} {xs : List (List UInt8)} (h : Have w l) (h1 : OwnS w base v xs) : Have w (.ownS base v xs :: l) := h.cons h1
theorem Have.consT {w : World} {l : List Res} {base : Nat} {v : Value} {ts : List Tp} (h : Have w l) (h1 : OwnT w base v ts) : Have w (.ownT base v ts :: l) := h.cons h1
theorem Have.consB {w : World} {l : List Res} {b : Nat} {vs : List Value} {t : TypeId} (h : Have w l) (h1 : Blk w b vs t) : Have w (.blk b vs t :: l) := h.cons h1
theorem Have.consD {w : World} {l : List Res} {v : Value} {d : Drv} (h : Have w l) (h1 : IsDrive w v d) (h2 : Still d) : Have w (.drv v d :: l) := h.cons ⟨h1, h2⟩
theorem Have.consX {w : World} {l : List Res} {b : Nat} {d : Drv} {a1 : Option Addr} {n1 c1 : Nat} {a2 : Option Addr} {n2 c2 : Nat} {f : Int} {o : Bool} (h : Have w l) (h1 : Blk w b [.slice a1 n1 c1, .slice a2 n2 c2, .int .i64 f, .bool o] 44) (hd : IsDrive w (.agg #[.slice a1 n1 c1, .slice a2 n2 c2, .int .i64 f, .bool o]) d) (hs : Still d) : Have w (.box b d :: l) :=
  h.cons ⟨⟨_, blk_holds h1, hd⟩, hs⟩
theorem Have.open {w : World} {b : Nat} {d : Drv} {l : List Res} (h : Have w (.box b d :: l)) : ∃ a1 n1 c1 a2 n2 c2 f o, Have w (.blk b [.slice a1 n1 c1, .slice a2 n2 c2, .int .i64 f, .bool o] 44 :: .drv (.agg #[.slice a1 n1 c1, .slice a2 n2 c2, .int .i64 f, .bool o]) d :: l) := by
  obtain ⟨⟨v, h1, h2⟩, h3⟩ := h.at 0 rfl
  obtain ⟨a1, n1, c1, a2, n2, c2, f, o, e, hb⟩ := h1
  subst e
  exact ⟨a1, n1, c1, a2, n2, c2, f, o, (h.tail.cons (show Res.at w (.drv _ d) from ⟨h2, h3⟩)).cons hb⟩
theorem Res.boxed {w : World} {b : Nat} {d : Drv} {a1 : Option Addr} {n1 c1 : Nat} {a2 : Option Addr} {n2 c2 : Nat} {f : Int} {o : Bool} (h : Blk w b [.slice a1 n1 c1, .slice a2 n2 c2, .int .i64 f, .bool o] 44) (hd : IsDrive w (.agg #[.slice a1 n1 c1, .slice a2 n2 c2, .int .i64 f, .bool o]) d) (hs : Still d) : Res.at w (.box b d) :=
  ⟨⟨_, blk_holds h, hd⟩, hs⟩

/-- A drive is stored in its box. -/
theorem Have.storeD {w : World} {l : List Res} {b : Nat} {u0 u1 u2 u3 : Value} {d : Drv} {a1 : Option Addr} {n1 c1 : Nat} {a2 : Option Addr} {n2 c2 : Nat} {f : Int} {o : Bool} (h : Have w l) (hb : Blk w b [u0, u1, u2, u3] 44) (hn : noStr u0 = true ∧ noStr u1 = true ∧ noStr u2 = true ∧ noStr u3 = true) (hd : IsDrive w (.agg #[.slice a1 n1 c1, .slice a2 n2 c2, .int .i64 f, .bool o]) d) (hs : Still d) (ha : Aparts b l) :
    Have ((((w.setCell ⟨b, 0, none⟩ (.slice a1 n1 c1)).setCell ⟨b, 1, none⟩ (.slice a2 n2 c2)).setCell ⟨b, 2, none⟩ (.int .i64 f)).setCell ⟨b, 3, none⟩ (.bool o)) (.box b d :: l) := by
  have hst := Step.set4 hb hn (.slice a1 n1 c1) (.slice a2 n2 c2) (.int .i64 f) (.bool o) ⟨rfl, rfl, rfl⟩
  exact (h.step hst ha).consX (hb.set4 _ _ _ _) (hd.keeps64 hst.k64 hs.2 hs.1) hs
theorem Have.storeO {w : World} {l : List Res} {b : Nat} {u0 u1 u2 u3 : Value} {d : Drv} {a1 : Option Addr} {n1 c1 : Nat} {a2 : Option Addr} {n2 c2 : Nat} {f : Int} {o : Bool} (h : Have w l) (hb : Blk w b [u0, u1, u2, u3] 44) (hn : noStr u0 = true ∧ noStr u1 = true ∧ noStr u2 = true ∧ noStr u3 = true) (hd : IsDrive w (.agg #[.slice a1 n1 c1, .slice a2 n2 c2, .int .i64 f, .bool o]) d) (hs : Still d) (ha : Aparts b l) :
    Have ((((w.setCell ⟨b, 0, none⟩ (.slice a1 n1 c1)).setCell ⟨b, 1, none⟩ (.slice a2 n2 c2)).setCell ⟨b, 2, none⟩ (.int .i64 f)).setCell ⟨b, 3, none⟩ (.bool o)) (.blk b [.slice a1 n1 c1, .slice a2 n2 c2, .int .i64 f, .bool o] 44 :: .drv (.agg #[.slice a1 n1 c1, .slice a2 n2 c2, .int .i64 f, .bool o]) d :: l) := by
  have hst := Step.set4 hb hn (.slice a1 n1 c1) (.slice a2 n2 c2) (.int .i64 f) (.bool o) ⟨rfl, rfl, rfl⟩
  exact ((h.step hst ha).consD (hd.keeps64 hst.k64 hs.2 hs.1) hs).consB (hb.set4 _ _ _ _)
/-- Three cells of a block without strings are stored. -/
theorem Step.set3 {w : World} {b : Nat} {u0 u1 u2 : Value} {t : TypeId} (h : Blk w b [u0, u1, u2] t) (hn : noStr u0 = true ∧ noStr u1 = true ∧ noStr u2 = true) (v0 v1 v2 : Value) (hv : noStr v0 = true ∧ noStr v1 = true) :
    Step w (((w.setCell ⟨b, 0, none⟩ v0).setCell ⟨b, 1, none⟩ v1).setCell ⟨b, 2, none⟩ v2) (some b) ∧ Blk (((w.setCell ⟨b, 0, none⟩ v0).setCell ⟨b, 1, none⟩ v1).setCell ⟨b, 2, none⟩ v2) b [v0, v1, v2] t := by
  obtain ⟨h0, h1, h2⟩ := hn
  obtain ⟨k0, k1⟩ := hv
  have a1 := Step.set h (by simp [h0, h1, h2]) 0 v0
  have b1 := h.set 0 v0
  have a2 := Step.set b1 (by simp [h1, h2, k0]) 1 v1
  have b2 := b1.set 1 v1
  have a3 := Step.set b2 (by simp [h2, k0, k1]) 2 v2
  exact ⟨(a1.trans a2).trans a3, b2.set 2 v2⟩
/-- A tape is stored in its box. -/
theorem Have.storeT {w : World} {l : List Res} {b : Nat} {u0 u1 u2 u3 : Value} {t : Tp} (h : Have w l) (hb : Blk w b [u0, u1, u2, u3] 63) (hn : noStr u0 = true ∧ noStr u1 = true ∧ noStr u2 = true ∧ noStr u3 = true) (ha : Aparts b l) :
    Have ((((w.setCell ⟨b, 0, none⟩ (.int .i64 t.from_)).setCell ⟨b, 1, none⟩ (.int .i64 t.len)).setCell ⟨b, 2, none⟩ (.int .i64 t.pos)).setCell ⟨b, 3, none⟩ (.int .i64 t.serial)) (.blk b (tpCells t) 63 :: l) := by
  have hst := Step.set4 hb hn (.int .i64 t.from_) (.int .i64 t.len) (.int .i64 t.pos) (.int .i64 t.serial) ⟨rfl, rfl, rfl⟩
  exact (h.step hst ha).consB (hb.set4 _ _ _ _)
/-- A drive and a tape are stored in their boxes. -/
theorem Have.store2 {w : World} {l : List Res} {b b' : Nat} {u0 u1 u2 u3 v0 v1 v2 v3 : Value} {d : Drv} {t : Tp} {a1 : Option Addr} {n1 c1 : Nat} {a2 : Option Addr} {n2 c2 : Nat} {f : Int} {o : Bool} (h : Have w l) (hb : Blk w b [u0, u1, u2, u3] 44) (hn : noStr u0 = true ∧ noStr u1 = true ∧ noStr u2 = true ∧ noStr u3 = true) (hb' : Blk w b' [v0, v1, v2, v3] 63) (hn' : noStr v0 = true ∧ noStr v1 = true ∧ noStr v2 = true ∧ noStr v3 = true)
    (hd : IsDrive w (.agg #[.slice a1 n1 c1, .slice a2 n2 c2, .int .i64 f, .bool o]) d) (hs : Still d) (ha : Aparts b l) (ha' : Aparts b' l) (hne : b' ≠ b) :
    Have ((((((((w.setCell ⟨b, 0, none⟩ (.slice a1 n1 c1)).setCell ⟨b, 1, none⟩ (.slice a2 n2 c2)).setCell ⟨b, 2, none⟩ (.int .i64 f)).setCell ⟨b, 3, none⟩ (.bool o)).setCell ⟨b', 0, none⟩ (.int .i64 t.from_)).setCell ⟨b', 1, none⟩ (.int .i64 t.len)).setCell ⟨b', 2, none⟩ (.int .i64 t.pos)).setCell ⟨b', 3, none⟩ (.int .i64 t.serial)) (.blk b' (tpCells t) 63 :: .box b d :: l) :=
  Have.storeT (h.storeD hb hn hd hs ha) (hb'.other4 hne _ _ _ _) hn' ⟨hne.symm, ha'⟩

theorem apart_type {w : World} {base b b' : Nat} {e t : TypeId} {size n : Nat} {Z : Value → Prop} {v : Value} {xs vs : List Value} (h : OwnZ w base e size Z v n xs) (hb : v.ownBlock = some b) (hk : Blk w b' vs t) (hne : t ≠ e) : b' ≠ b := by
  rintro rfl
  exact own_type h hk hne hb
theorem apart_base {w : World} {base b b' : Nat} {e : TypeId} {size n : Nat} {Z : Value → Prop} {v : Value} {xs : List Value} (h : OwnZ w base e size Z v n xs) (hb : v.ownBlock = some b) (hlt : b' < base) : b' ≠ b := by
  rintro rfl
  exact own_base h hlt hb
theorem apart_size {w : World} {base b b' : Nat} {e : TypeId} {size n : Nat} {Z : Value → Prop} {v : Value} {xs : List Value} (h : OwnZ w base e size Z v n xs) (hb : v.ownBlock = some b) (hlt : w.heap.size ≤ b') : b' ≠ b := by
  rintro rfl
  exact own_size h hlt hb
theorem OwnT.nil (w : World) (base : Nat) : OwnT w base (.slice none 0 0) [] := OwnZ.nil _ _ _ _ _
theorem OwnT.form {w : World} {base : Nat} {v : Value} {ts : List Tp} (h : OwnT w base v ts) : ∃ ao c, v = .slice ao ts.length c ∧ ts.length ≤ c ∧ c ≤ 9223372036854775807 ∧ Row w ao (tapeVals ts) := by
  obtain ⟨ao, c, h1, h2, h3, h4, _⟩ := own_form h.1
  exact ⟨ao, c, h1, h2, h3, h4⟩
theorem undrew_alloc {w w' : World} {o : Obj} (h : Below (w.drew.alloc o).heap.size (w.drew.alloc o) w') : Below w.heap.size w w' :=
  chain ((Below.drewed (Below.refl _ _)).alloc (Nat.le_refl _) o) h

/-- What a block of three cells gives the walk. -/
theorem Blk.three' {w : World} {b : Nat} {v0 v1 v2 : Value} {t : TypeId} (h : Blk w b [v0, v1, v2] t) :
    w.cell? ⟨b, 0, none⟩ = some v0 ∧ w.cell? ⟨b, 1, none⟩ = some v1 ∧ w.cell? ⟨b, 2, none⟩ = some v2 ∧ w.frozen? ⟨b, 0, none⟩ = false ∧ w.frozen? ⟨b, 1, none⟩ = false ∧ w.frozen? ⟨b, 2, none⟩ = false :=
  ⟨h.cell 0, h.cell 1, h.cell 2, h.free 0, h.free 1, h.free 2⟩

end Go.Proofs.YtogonkoeginoaaaGreatDoor
