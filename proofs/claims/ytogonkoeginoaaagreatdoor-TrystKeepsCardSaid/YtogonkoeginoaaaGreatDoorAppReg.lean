/-
  A region that appends, in whatever order: 'x, u, e := log.Append(..)' next to other calls: the two new boxes may be made at any time.
-/
import Derived.Test.YtogonkoeginoaaaGreatDoorLogScan
namespace Go.Proofs.YtogonkoeginoaaaGreatDoor
open Go.RowKit

theorem wpAny_inv2 {P : Program} {md : Region.Mode} {ops : Array Oper} {Q : Exit → Act → World → Prop} {I : Array Bool → Act → World → Prop}
    (hord : ∀ (i : Nat) (o : Oper), ops[i]? = some o → ∀ e ∈ o.after, Region.binds md e = true → e.on < i)
    (hstep : ∀ (l : Array Bool) (a : Act) (w : World) (i : Nat) (o : Oper), ops[i]? = some o → I l a w → l.getD i true = false → (∀ e ∈ o.after, Region.binds md e = true → l.getD e.on false = true) →
      ∀ K : Act → World → Prop, (∀ a' w', I (l.setIfInBounds i true) a' w' → K a' w') → if Region.wanted o (yielded ops a.tmps) = true then Oper.wp P o a w K Q else K (a.put o.dst undef) w)
    (hdone : ∀ (l : Array Bool) (a : Act) (w : World), I l a w → (∀ i, l.getD i true = true) → Q .normal a w) :
    ∀ (fuel : Nat) (l : Array Bool) (a : Act) (w : World), l.size = ops.size → numF l.toList ≤ fuel → I l a w → wpAny P md ops Q fuel l a w := by
  have hall : ∀ l : Array Bool, l.size = ops.size → Region.ready md ops l = [] → ∀ i, l.getD i true = true := by
    intro l hl hr i
    induction i using Nat.strongRecOn with
    | _ i ih =>
      cases hi : l.getD i true with
      | true => rfl
      | false =>
        have hlt : i < l.size := by
          rcases Nat.lt_or_ge i l.size with h | h
          · exact h
          · simp [Array.getD, Nat.not_lt.2 h] at hi
        have hlt' : i < ops.size := by omega
        have ho : ops[i]? = some ops[i] := Array.getElem?_eq_getElem hlt'
        have hm : i ∈ Region.ready md ops l := by
          rw [mem_ready]
          refine ⟨hi, ops[i], ho, fun e he hbe => ?_⟩
          have h1 := hord i _ ho e he hbe
          have h2 := ih e.on h1
          have h3 : e.on < l.size := by omega
          simp [Array.getD, h3] at h2 ⊢
          exact h2
        rw [hr] at hm
        cases hm
  intro fuel
  induction fuel with
  | zero =>
    intro l a w hl hn hI
    have h0 : ∀ i, l.getD i true = true := by
      intro i
      have := numF_zero l.toList (by omega) i
      rw [Array.getD_eq_getD_getElem?, ← Array.getElem?_toList]
      rw [List.getD_eq_getElem?_getD] at this
      exact this
    refine ⟨?_, hdone l a w hI h0⟩
    cases hr : Region.ready md ops l with
    | nil => rfl
    | cons i r =>
      have hm : i ∈ Region.ready md ops l := by rw [hr]; simp
      rw [mem_ready] at hm
      rw [h0 i] at hm
      cases hm.1
  | succ fuel ih =>
    intro l a w hl hn hI
    refine ⟨fun hr => hdone l a w hI (hall l hl hr), fun i hi => ?_⟩
    rw [mem_ready] at hi
    obtain ⟨h1, o, ho, h2⟩ := hi
    have hlt : i < l.size := by
      rcases Nat.lt_or_ge i l.size with h | h
      · exact h
      · simp [Array.getD, Nat.not_lt.2 h] at h1
    have hs := hstep l a w i o ho hI h1 h2 (wpAny P md ops Q fuel (l.setIfInBounds i true)) (fun a' w' hI' => by
      refine ih _ a' w' (by simpa using hl) ?_ hI'
      have h3 : l.toList[i]? = some false := by
        simp [Array.getD, hlt] at h1
        simp [hlt, h1]
      have := numF_set l.toList i h3
      rw [Array.toList_setIfInBounds]
      omega)
    unfold wpOp
    rw [ho]
    simp only
    by_cases hw : Region.wanted o (yielded ops a.tmps) = true
    · rw [if_pos hw] at hs ⊢
      exact .inl hs
    · rw [if_neg hw] at hs ⊢
      exact hs

def ordB2 (md : Region.Mode) (ops : Array Oper) : Bool := (List.range ops.size).all fun i => match ops[i]? with | some o => o.after.all (fun e => !Region.binds md e || decide (e.on < i)) | none => true
theorem ord_of2 {md : Region.Mode} {ops : Array Oper} (h : ordB2 md ops = true) : ∀ (i : Nat) (o : Oper), ops[i]? = some o → ∀ e ∈ o.after, Region.binds md e = true → e.on < i := by
  intro i o ho e he hb
  have hi : i < ops.size := (Array.getElem?_eq_some_iff.1 ho).1
  have h1 := List.all_eq_true.1 h i (by simpa using hi)
  rw [ho] at h1
  have h2 := (Array.all_eq_true_iff_forall_mem.1 h1) e he
  rw [hb] at h2
  simpa using h2

theorem wp_region_inv2 {P : Program} {ops : Array Oper} {Q : Exit → Act → World → Prop} {id : Nat} {a : Act} {w : World} (I : Array Bool → Act → World → Prop) (hm : P.follows .mixedOrders = true)
    (hord : ∀ (i : Nat) (o : Oper), ops[i]? = some o → ∀ e ∈ o.after, Region.binds .any e = true → e.on < i) (h0 : I (Array.replicate ops.size false) a w.drew)
    (hstep : ∀ (l : Array Bool) (a : Act) (w : World) (i : Nat) (o : Oper), ops[i]? = some o → I l a w → l.getD i true = false → (∀ e ∈ o.after, Region.binds .any e = true → l.getD e.on false = true) →
      ∀ K : Act → World → Prop, (∀ a' w', I (l.setIfInBounds i true) a' w' → K a' w') → if Region.wanted o (yielded ops a.tmps) = true then Oper.wp P o a w K Q else K (a.put o.dst undef) w)
    (hdone : ∀ (l : Array Bool) (a : Act) (w : World), I l a w → (∀ i, l.getD i true = true) → Q .normal a w) : (Code.region id ops true).wp P Q a w :=
  wp_region_any hm (wpAny_inv2 hord hstep hdone ops.size _ a w.drew (by simp) (by rw [Array.toList_replicate, numF_replicate]; exact Nat.le_refl _) h0)

def tpCells (t : Tp) : List Value := [.int .i64 t.from_, .int .i64 t.len, .int .i64 t.pos, .int .i64 t.serial]

/-- What holds behind the operations that are done: number k is the call; k + 1 the move; k + 2, k + 3, k + 4 take its three results; k + 5, k + 6 make the boxes; k + 7, k + 8 fill them. -/
structure AppF (W : World) (k : Nat) (D1 : Drv) (T1 : Tp) (E1 : Int) (l : Array Bool) (w : World) (xc xm x0 x1 x2 xa xb : Value) : Prop where
  size : l.size = k + 10
  below : Below W.heap.size W w
  fc : fl l k → ∃ y, xc = .tuple #[y, tpVal T1, .int .i64 E1] ∧ IsDrive w y D1 ∧ (fl l (k + 2) → x0 = y)
  fm : fl l (k + 1) → fl l k ∧ xm = xc
  f0 : fl l (k + 2) → fl l (k + 1)
  f1 : fl l (k + 3) → x1 = tpVal T1 ∧ fl l (k + 1)
  f2 : fl l (k + 4) → x2 = .int .i64 E1 ∧ fl l (k + 1)
  fa : fl l (k + 5) → ∃ b v, xa = .pointer (some ⟨b, 0, none⟩) ∧ W.heap.size ≤ b ∧ Holds w b v ∧ (fl l (k + 7) → v = x0)
  fb : fl l (k + 6) → ∃ b t, xb = .pointer (some ⟨b, 0, none⟩) ∧ W.heap.size ≤ b ∧ Blk w b (tpCells t) 63 ∧ (fl l (k + 8) → t = T1)
  na : fl l (k + 7) → fl l (k + 5) ∧ fl l (k + 2)
  nb : fl l (k + 8) → fl l (k + 6)

theorem AppF.zero (W : World) (k : Nat) (D1 : Drv) (T1 : Tp) (E1 : Int) (xc xm x0 x1 x2 xa xb : Value) : AppF W k D1 T1 E1 (Array.replicate (k + 10) false) W.drew xc xm x0 x1 x2 xa xb where
  size := by simp
  below := Below.drewed (Below.refl _ _)
  fc := fun f => absurd f (fl_none _ _)
  fm := fun f => absurd f (fl_none _ _)
  f0 := fun f => absurd f (fl_none _ _)
  f1 := fun f => absurd f (fl_none _ _)
  f2 := fun f => absurd f (fl_none _ _)
  fa := fun f => absurd f (fl_none _ _)
  fb := fun f => absurd f (fl_none _ _)
  na := fun f => absurd f (fl_none _ _)
  nb := fun f => absurd f (fl_none _ _)

section
variable {W : World} {k : Nat} {D1 : Drv} {T1 : Tp} {E1 : Int} {l : Array Bool} {w : World} {xc xm x0 x1 x2 xa xb : Value}

theorem AppF.mono (h : AppF W k D1 T1 E1 l w xc xm x0 x1 x2 xa xb) {w' : World} (hb : Below w.heap.size w w') : AppF W k D1 T1 E1 l w' xc xm x0 x1 x2 xa xb where
  size := h.size
  below := h.below.trans (hb.mono h.below.size)
  fc := fun f => by
    obtain ⟨y, h1, h2, h3⟩ := h.fc f
    exact ⟨y, h1, h2.below hb, h3⟩
  fm := h.fm
  f0 := h.f0
  f1 := h.f1
  f2 := h.f2
  fa := fun f => by
    obtain ⟨b, v, h1, h2, h3, h4⟩ := h.fa f
    exact ⟨b, v, h1, h2, h3.next hb, h4⟩
  fb := fun f => by
    obtain ⟨b, v, h1, h2, h3, h4⟩ := h.fb f
    exact ⟨b, v, h1, h2, h3.next hb, h4⟩
  na := h.na
  nb := h.nb

/-- An operation ahead of the call. -/
theorem AppF.pre (h : AppF W k D1 T1 E1 l w xc xm x0 x1 x2 xa xb) {i : Nat} (hi : i < k ∨ i = k + 9) : AppF W k D1 T1 E1 (l.setIfInBounds i true) w xc xm x0 x1 x2 xa xb where
  size := by simpa using h.size
  below := h.below
  fc := fun f => by
    obtain ⟨y, h1, h2, h3⟩ := h.fc (fl_set f (by omega))
    exact ⟨y, h1, h2, fun f => h3 (fl_set f (by omega))⟩
  fm := fun f => ⟨fl_keep (h.fm (fl_set f (by omega))).1 _, (h.fm (fl_set f (by omega))).2⟩
  f0 := fun f => fl_keep (h.f0 (fl_set f (by omega))) _
  f1 := fun f => ⟨(h.f1 (fl_set f (by omega))).1, fl_keep (h.f1 (fl_set f (by omega))).2 _⟩
  f2 := fun f => ⟨(h.f2 (fl_set f (by omega))).1, fl_keep (h.f2 (fl_set f (by omega))).2 _⟩
  fa := fun f => by
    obtain ⟨b, v, h1, h2, h3, h4⟩ := h.fa (fl_set f (by omega))
    exact ⟨b, v, h1, h2, h3, fun f => h4 (fl_set f (by omega))⟩
  fb := fun f => by
    obtain ⟨b, v, h1, h2, h3, h4⟩ := h.fb (fl_set f (by omega))
    exact ⟨b, v, h1, h2, h3, fun f => h4 (fl_set f (by omega))⟩
  na := fun f => ⟨fl_keep (h.na (fl_set f (by omega))).1 _, fl_keep (h.na (fl_set f (by omega))).2 _⟩
  nb := fun f => fl_keep (h.nb (fl_set f (by omega))) _

/-- The call. -/
theorem AppF.call (h : AppF W k D1 T1 E1 l w xc xm x0 x1 x2 xa xb) (h0 : l.getD k true = false) {w' : World} (hb : Below w.heap.size w w') {y : Value} (hy : IsDrive w' y D1) : AppF W k D1 T1 E1 (l.setIfInBounds k true) w' (.tuple #[y, tpVal T1, .int .i64 E1]) xm x0 x1 x2 xa xb :=
  have n0 := fl_not h0
  have n1 : ¬ fl l (k + 1) := fun f => n0 (h.fm f).1
  have n2 : ¬ fl l (k + 2) := fun f => n1 (h.f0 f)
  have h := h.mono hb
  { size := by simpa using h.size
    below := h.below
    fc := fun _ => ⟨y, rfl, hy, fun f => absurd (fl_set f (by omega)) n2⟩
    fm := fun f => absurd (fl_set f (by omega)) n1
    f0 := fun f => fl_keep (h.f0 (fl_set f (by omega))) _
    f1 := fun f => ⟨(h.f1 (fl_set f (by omega))).1, fl_keep (h.f1 (fl_set f (by omega))).2 _⟩
    f2 := fun f => ⟨(h.f2 (fl_set f (by omega))).1, fl_keep (h.f2 (fl_set f (by omega))).2 _⟩
    fa := fun f => by
      obtain ⟨b, v, h1, h2, h3, h4⟩ := h.fa (fl_set f (by omega))
      exact ⟨b, v, h1, h2, h3, fun f => h4 (fl_set f (by omega))⟩
    fb := fun f => by
      obtain ⟨b, v, h1, h2, h3, h4⟩ := h.fb (fl_set f (by omega))
      exact ⟨b, v, h1, h2, h3, fun f => h4 (fl_set f (by omega))⟩
    na := fun f => ⟨fl_keep (h.na (fl_set f (by omega))).1 _, fl_keep (h.na (fl_set f (by omega))).2 _⟩
    nb := fun f => fl_keep (h.nb (fl_set f (by omega))) _ }

theorem AppF.move (h : AppF W k D1 T1 E1 l w xc xm x0 x1 x2 xa xb) (hk : fl l k) : AppF W k D1 T1 E1 (l.setIfInBounds (k + 1) true) w xc xc x0 x1 x2 xa xb where
  size := by simpa using h.size
  below := h.below
  fc := fun f => by
    obtain ⟨y, h1, h2, h3⟩ := h.fc (fl_set f (by omega))
    exact ⟨y, h1, h2, fun f => h3 (fl_set f (by omega))⟩
  fm := fun _ => ⟨fl_keep hk _, rfl⟩
  f0 := fun f => fl_keep (h.f0 (fl_set f (by omega))) _
  f1 := fun f => ⟨(h.f1 (fl_set f (by omega))).1, fl_keep (h.f1 (fl_set f (by omega))).2 _⟩
  f2 := fun f => ⟨(h.f2 (fl_set f (by omega))).1, fl_keep (h.f2 (fl_set f (by omega))).2 _⟩
  fa := fun f => by
    obtain ⟨b, v, h1, h2, h3, h4⟩ := h.fa (fl_set f (by omega))
    exact ⟨b, v, h1, h2, h3, fun f => h4 (fl_set f (by omega))⟩
  fb := fun f => by
    obtain ⟨b, v, h1, h2, h3, h4⟩ := h.fb (fl_set f (by omega))
    exact ⟨b, v, h1, h2, h3, fun f => h4 (fl_set f (by omega))⟩
  na := fun f => ⟨fl_keep (h.na (fl_set f (by omega))).1 _, fl_keep (h.na (fl_set f (by omega))).2 _⟩
  nb := fun f => fl_keep (h.nb (fl_set f (by omega))) _

/-- What the move holds. -/
theorem AppF.moved (h : AppF W k D1 T1 E1 l w xc xm x0 x1 x2 xa xb) (hk : fl l (k + 1)) : ∃ y, xm = .tuple #[y, tpVal T1, .int .i64 E1] ∧ IsDrive w y D1 ∧ xc = .tuple #[y, tpVal T1, .int .i64 E1] := by
  obtain ⟨y, h1, h2, _⟩ := h.fc (h.fm hk).1
  exact ⟨y, (h.fm hk).2.trans h1, h2, h1⟩

theorem AppF.ex0 {y : Value} (h : AppF W k D1 T1 E1 l w xc xm x0 x1 x2 xa xb) (h0 : l.getD (k + 2) true = false) (hk : fl l (k + 1)) (hy : xc = .tuple #[y, tpVal T1, .int .i64 E1]) : AppF W k D1 T1 E1 (l.setIfInBounds (k + 2) true) w xc xm y x1 x2 xa xb where
  size := by simpa using h.size
  below := h.below
  fc := fun f => by
    obtain ⟨y', h1, h2, h3⟩ := h.fc (fl_set f (by omega))
    refine ⟨y', h1, h2, fun _ => ?_⟩
    rw [hy] at h1
    injection h1 with h1
    have e := congrArg Array.toList h1
    simp only [List.cons.injEq] at e
    exact e.1
  fm := fun f => ⟨fl_keep (h.fm (fl_set f (by omega))).1 _, (h.fm (fl_set f (by omega))).2⟩
  f0 := fun _ => fl_keep hk _
  f1 := fun f => ⟨(h.f1 (fl_set f (by omega))).1, fl_keep (h.f1 (fl_set f (by omega))).2 _⟩
  f2 := fun f => ⟨(h.f2 (fl_set f (by omega))).1, fl_keep (h.f2 (fl_set f (by omega))).2 _⟩
  fa := fun f => by
    obtain ⟨b, v, h1, h2, h3, h4⟩ := h.fa (fl_set f (by omega))
    exact ⟨b, v, h1, h2, h3, fun f => absurd (h.na (fl_set f (by omega))).2 (fl_not h0)⟩
  fb := fun f => by
    obtain ⟨b, v, h1, h2, h3, h4⟩ := h.fb (fl_set f (by omega))
    exact ⟨b, v, h1, h2, h3, fun f => h4 (fl_set f (by omega))⟩
  na := fun f => ⟨fl_keep (h.na (fl_set f (by omega))).1 _, fl_keep (h.na (fl_set f (by omega))).2 _⟩
  nb := fun f => fl_keep (h.nb (fl_set f (by omega))) _

theorem AppF.ex1 (h : AppF W k D1 T1 E1 l w xc xm x0 x1 x2 xa xb) (hk : fl l (k + 1)) : AppF W k D1 T1 E1 (l.setIfInBounds (k + 3) true) w xc xm x0 (tpVal T1) x2 xa xb where
  size := by simpa using h.size
  below := h.below
  fc := fun f => by
    obtain ⟨y, h1, h2, h3⟩ := h.fc (fl_set f (by omega))
    exact ⟨y, h1, h2, fun f => h3 (fl_set f (by omega))⟩
  fm := fun f => ⟨fl_keep (h.fm (fl_set f (by omega))).1 _, (h.fm (fl_set f (by omega))).2⟩
  f0 := fun f => fl_keep (h.f0 (fl_set f (by omega))) _
  f1 := fun _ => ⟨rfl, fl_keep hk _⟩
  f2 := fun f => ⟨(h.f2 (fl_set f (by omega))).1, fl_keep (h.f2 (fl_set f (by omega))).2 _⟩
  fa := fun f => by
    obtain ⟨b, v, h1, h2, h3, h4⟩ := h.fa (fl_set f (by omega))
    exact ⟨b, v, h1, h2, h3, fun f => h4 (fl_set f (by omega))⟩
  fb := fun f => by
    obtain ⟨b, v, h1, h2, h3, h4⟩ := h.fb (fl_set f (by omega))
    exact ⟨b, v, h1, h2, h3, fun f => h4 (fl_set f (by omega))⟩
  na := fun f => ⟨fl_keep (h.na (fl_set f (by omega))).1 _, fl_keep (h.na (fl_set f (by omega))).2 _⟩
  nb := fun f => fl_keep (h.nb (fl_set f (by omega))) _

theorem AppF.ex2 (h : AppF W k D1 T1 E1 l w xc xm x0 x1 x2 xa xb) (hk : fl l (k + 1)) : AppF W k D1 T1 E1 (l.setIfInBounds (k + 4) true) w xc xm x0 x1 (.int .i64 E1) xa xb where
  size := by simpa using h.size
  below := h.below
  fc := fun f => by
    obtain ⟨y, h1, h2, h3⟩ := h.fc (fl_set f (by omega))
    exact ⟨y, h1, h2, fun f => h3 (fl_set f (by omega))⟩
  fm := fun f => ⟨fl_keep (h.fm (fl_set f (by omega))).1 _, (h.fm (fl_set f (by omega))).2⟩
  f0 := fun f => fl_keep (h.f0 (fl_set f (by omega))) _
  f1 := fun f => ⟨(h.f1 (fl_set f (by omega))).1, fl_keep (h.f1 (fl_set f (by omega))).2 _⟩
  f2 := fun _ => ⟨rfl, fl_keep hk _⟩
  fa := fun f => by
    obtain ⟨b, v, h1, h2, h3, h4⟩ := h.fa (fl_set f (by omega))
    exact ⟨b, v, h1, h2, h3, fun f => h4 (fl_set f (by omega))⟩
  fb := fun f => by
    obtain ⟨b, v, h1, h2, h3, h4⟩ := h.fb (fl_set f (by omega))
    exact ⟨b, v, h1, h2, h3, fun f => h4 (fl_set f (by omega))⟩
  na := fun f => ⟨fl_keep (h.na (fl_set f (by omega))).1 _, fl_keep (h.na (fl_set f (by omega))).2 _⟩
  nb := fun f => fl_keep (h.nb (fl_set f (by omega))) _

/-- The drive's box is made. -/
theorem AppF.boxa (h : AppF W k D1 T1 E1 l w xc xm x0 x1 x2 xa xb) (h0 : l.getD (k + 5) true = false) : AppF W k D1 T1 E1 (l.setIfInBounds (k + 5) true) (w.alloc (.cells #[.slice none 0 0, .slice none 0 0, .int .i64 0, .bool false] 44)) xc xm x0 x1 x2 (.pointer (some ⟨w.heap.size, 0, none⟩)) xb :=
  have n0 := fl_not h0
  have hs := h.below.size
  have h := h.mono ((Below.refl w.heap.size w).alloc (Nat.le_refl _) (.cells #[.slice none 0 0, .slice none 0 0, .int .i64 0, .bool false] 44))
  { size := by simpa using h.size
    below := h.below
    fc := fun f => by
      obtain ⟨y, h1, h2, h3⟩ := h.fc (fl_set f (by omega))
      exact ⟨y, h1, h2, fun f => h3 (fl_set f (by omega))⟩
    fm := fun f => ⟨fl_keep (h.fm (fl_set f (by omega))).1 _, (h.fm (fl_set f (by omega))).2⟩
    f0 := fun f => fl_keep (h.f0 (fl_set f (by omega))) _
    f1 := fun f => ⟨(h.f1 (fl_set f (by omega))).1, fl_keep (h.f1 (fl_set f (by omega))).2 _⟩
    f2 := fun f => ⟨(h.f2 (fl_set f (by omega))).1, fl_keep (h.f2 (fl_set f (by omega))).2 _⟩
    fa := fun _ => ⟨w.heap.size, _, rfl, hs, Holds.new w none 0 0 none 0 0 0 false, fun f => absurd (h.na (fl_set f (by omega))).1 n0⟩
    fb := fun f => by
      obtain ⟨b, v, h1, h2, h3, h4⟩ := h.fb (fl_set f (by omega))
      exact ⟨b, v, h1, h2, h3, fun f => h4 (fl_set f (by omega))⟩
    na := fun f => absurd (h.na (fl_set f (by omega))).1 n0
    nb := fun f => fl_keep (h.nb (fl_set f (by omega))) _ }
/-- The tape's box is made. -/
theorem AppF.boxb (h : AppF W k D1 T1 E1 l w xc xm x0 x1 x2 xa xb) (h0 : l.getD (k + 6) true = false) : AppF W k D1 T1 E1 (l.setIfInBounds (k + 6) true) (w.alloc (.cells #[.int .i64 0, .int .i64 0, .int .i64 0, .int .i64 0] 63)) xc xm x0 x1 x2 xa (.pointer (some ⟨w.heap.size, 0, none⟩)) :=
  have n0 := fl_not h0
  have hs := h.below.size
  have h := h.mono ((Below.refl w.heap.size w).alloc (Nat.le_refl _) (.cells #[.int .i64 0, .int .i64 0, .int .i64 0, .int .i64 0] 63))
  { size := by simpa using h.size
    below := h.below
    fc := fun f => by
      obtain ⟨y, h1, h2, h3⟩ := h.fc (fl_set f (by omega))
      exact ⟨y, h1, h2, fun f => h3 (fl_set f (by omega))⟩
    fm := fun f => ⟨fl_keep (h.fm (fl_set f (by omega))).1 _, (h.fm (fl_set f (by omega))).2⟩
    f0 := fun f => fl_keep (h.f0 (fl_set f (by omega))) _
    f1 := fun f => ⟨(h.f1 (fl_set f (by omega))).1, fl_keep (h.f1 (fl_set f (by omega))).2 _⟩
    f2 := fun f => ⟨(h.f2 (fl_set f (by omega))).1, fl_keep (h.f2 (fl_set f (by omega))).2 _⟩
    fa := fun f => by
      obtain ⟨b, v, h1, h2, h3, h4⟩ := h.fa (fl_set f (by omega))
      exact ⟨b, v, h1, h2, h3, fun f => h4 (fl_set f (by omega))⟩
    fb := fun _ => ⟨w.heap.size, Tp.zero, rfl, hs, Blk.new w (tpCells Tp.zero) _, fun f => absurd (h.nb (fl_set f (by omega))) n0⟩
    na := fun f => ⟨fl_keep (h.na (fl_set f (by omega))).1 _, fl_keep (h.na (fl_set f (by omega))).2 _⟩
    nb := fun f => absurd (h.nb (fl_set f (by omega))) n0 }

theorem holds_not_tape {w : World} {b c : Nat} {v : Value} {t : Tp} (h : Holds w b v) (hc : Blk w c (tpCells t) 63) : c ≠ b := by
  rintro rfl
  obtain ⟨_, _, _, _, _, _, _, _, _, h⟩ := h
  unfold Blk at h hc
  rw [h] at hc
  injection hc with hc
  injection hc with _ hc
  cases hc

/-- The drive is stored. -/
theorem AppF.sta (h : AppF W k D1 T1 E1 l w xc xm x0 x1 x2 xa xb) (ha : fl l (k + 5)) (hx : fl l (k + 2)) {b : Nat} (hb : xa = .pointer (some ⟨b, 0, none⟩)) (a1 : Option Addr) (n1 c1 : Nat) (a2 : Option Addr) (n2 c2 : Nat) (f : Int) (o : Bool) (hv : x0 = drvVal a1 n1 c1 a2 n2 c2 f o) :
    AppF W k D1 T1 E1 (l.setIfInBounds (k + 7) true) ((((w.setCell ⟨b, 0, none⟩ (.slice a1 n1 c1)).setCell ⟨b, 1, none⟩ (.slice a2 n2 c2)).setCell ⟨b, 2, none⟩ (.int .i64 f)).setCell ⟨b, 3, none⟩ (.bool o)) xc xm x0 x1 x2 xa xb := by
  obtain ⟨b', u, e, hB, hH, hu⟩ := h.fa ha
  rw [hb] at e
  injection e with e; injection e with e; injection e with e
  subst e
  exact {
    size := by simpa using h.size
    below := below4 h.below hB _ _ _ _
    fc := fun f => by
      obtain ⟨y, h1, h2, h3⟩ := h.fc (fl_set f (by omega))
      exact ⟨y, h1, h2.set4 hH _ _ _ _, fun f => h3 (fl_set f (by omega))⟩
    fm := fun f => ⟨fl_keep (h.fm (fl_set f (by omega))).1 _, (h.fm (fl_set f (by omega))).2⟩
    f0 := fun f => fl_keep (h.f0 (fl_set f (by omega))) _
    f1 := fun f => ⟨(h.f1 (fl_set f (by omega))).1, fl_keep (h.f1 (fl_set f (by omega))).2 _⟩
    f2 := fun f => ⟨(h.f2 (fl_set f (by omega))).1, fl_keep (h.f2 (fl_set f (by omega))).2 _⟩
    fa := fun _ => ⟨b, _, hb, hB, hH.set _ _ _ _ _ _ _ _, fun _ => hv.symm⟩
    fb := fun f => by
      obtain ⟨b2, v, h1, h2, h3, h4⟩ := h.fb (fl_set f (by omega))
      exact ⟨b2, v, h1, h2, h3.other4 (holds_not_tape hH h3) _ _ _ _, fun f => h4 (fl_set f (by omega))⟩
    na := fun _ => ⟨fl_keep ha _, fl_keep hx _⟩
    nb := fun f => fl_keep (h.nb (fl_set f (by omega))) _ }
/-- The tape is stored. -/
theorem AppF.stb (h : AppF W k D1 T1 E1 l w xc xm x0 x1 x2 xa xb) (ha : fl l (k + 6)) {b : Nat} (hb : xb = .pointer (some ⟨b, 0, none⟩)) :
    AppF W k D1 T1 E1 (l.setIfInBounds (k + 8) true) ((((w.setCell ⟨b, 0, none⟩ (.int .i64 T1.from_)).setCell ⟨b, 1, none⟩ (.int .i64 T1.len)).setCell ⟨b, 2, none⟩ (.int .i64 T1.pos)).setCell ⟨b, 3, none⟩ (.int .i64 T1.serial)) xc xm x0 x1 x2 xa xb := by
  obtain ⟨b', u, e, hB, hH, hu⟩ := h.fb ha
  rw [hb] at e
  injection e with e; injection e with e; injection e with e
  subst e
  exact {
    size := by simpa using h.size
    below := below4 h.below hB _ _ _ _
    fc := fun f => by
      obtain ⟨y, h1, h2, h3⟩ := h.fc (fl_set f (by omega))
      exact ⟨y, h1, h2.set4t hH _ _ _ _, fun f => h3 (fl_set f (by omega))⟩
    fm := fun f => ⟨fl_keep (h.fm (fl_set f (by omega))).1 _, (h.fm (fl_set f (by omega))).2⟩
    f0 := fun f => fl_keep (h.f0 (fl_set f (by omega))) _
    f1 := fun f => ⟨(h.f1 (fl_set f (by omega))).1, fl_keep (h.f1 (fl_set f (by omega))).2 _⟩
    f2 := fun f => ⟨(h.f2 (fl_set f (by omega))).1, fl_keep (h.f2 (fl_set f (by omega))).2 _⟩
    fa := fun f => by
      obtain ⟨b2, v, h1, h2, h3, h4⟩ := h.fa (fl_set f (by omega))
      exact ⟨b2, v, h1, h2, h3.other (fun e => holds_not_tape h3 hH e.symm) _ _ _ _, fun f => h4 (fl_set f (by omega))⟩
    fb := fun _ => ⟨b, T1, hb, hB, hH.set4 _ _ _ _, fun _ => rfl⟩
    na := fun f => ⟨fl_keep (h.na (fl_set f (by omega))).1 _, fl_keep (h.na (fl_set f (by omega))).2 _⟩
    nb := fun _ => fl_keep ha _ }

/-- All is done. -/
theorem AppF.done (h : AppF W k D1 T1 E1 l w xc xm x0 x1 x2 xa xb) (hall : ∀ i, l.getD i true = true) : ∃ b v c, xa = .pointer (some ⟨b, 0, none⟩) ∧ xb = .pointer (some ⟨c, 0, none⟩) ∧ x2 = .int .i64 E1 ∧ W.heap.size ≤ b ∧ W.heap.size ≤ c ∧ Holds w b v ∧ IsDrive w v D1 ∧ Blk w c (tpCells T1) 63 ∧ c ≠ b ∧ Below W.heap.size W w := by
  have f := fun (i : Nat) (hi : i < k + 10) => fl_all hall h.size hi
  obtain ⟨b, v, e1, h1, h2, h3⟩ := h.fa (f _ (by omega))
  obtain ⟨c, t, e2, h4, h5, h6⟩ := h.fb (f _ (by omega))
  obtain ⟨y, _, h7, h8⟩ := h.fc (f _ (by omega))
  obtain rfl := h3 (f _ (by omega))
  obtain rfl := h6 (f _ (by omega))
  obtain rfl := h8 (f _ (by omega))
  exact ⟨b, _, c, e1, e2, (h.f2 (f _ (by omega))).1, h1, h4, h2, h7, h5, holds_not_tape h2 h5, h.below⟩
end

end Go.Proofs.YtogonkoeginoaaaGreatDoor
