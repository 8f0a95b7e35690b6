/-
  The walk through log.lay: a record's cells.
-/
import Derived.Test.YtogonkoeginoaaaGreatDoorLogPieces
namespace Go.Proofs.YtogonkoeginoaaaGreatDoor
open Go.RowKit Go.Shelf

attribute [local go_sem] Oper.semAt_some

/-- What the pieces that have come make. -/
def accOf (sr : Nat) (l : List P60) : List UInt8 := (l.zipIdx.map fun p => p.1.1 ++ octs 3 sr ++ [kind p.2]).flatten
theorem accOf_snoc (sr : Nat) (l : List P60) (x : P60) : accOf sr (l ++ [x]) = accOf sr l ++ (x.1 ++ octs 3 sr ++ [kind l.length]) := by
  simp [accOf, List.zipIdx_append]
theorem accOf_length (sr : Nat) (l : List P60) : (accOf sr l).length = 64 * l.length := by
  suffices h : ∀ n, ((l.zipIdx n).map fun p => p.1.1 ++ octs 3 sr ++ [kind p.2]).flatten.length = 64 * l.length from h 0
  induction l with
  | nil => intro n; rfl
  | cons x l ih =>
    intro n
    rw [List.zipIdx_cons, List.map_cons, List.flatten_cons, List.length_append, ih]
    have := x.2
    simp [octs_length, this]
    omega
theorem accOf_pieces (s : List UInt8) (sr : Nat) : ∀ k, accOf sr (piecesS s k) = ((List.range k).map (cellAt s sr)).flatten := by
  intro k
  induction k with
  | zero => rfl
  | succ k ih =>
    rw [piecesS_succ, accOf_snoc, ih, piecesS_length, List.range_succ, List.map_append, List.flatten_append]
    simp [cellAt, pieceS]
theorem accOf_lay (s : List UInt8) (sr : Nat) : accOf sr (piecesS s (kOf s.length)) = lay s sr := accOf_pieces s sr _

abbrev IsB (B b : Nat) (l : List UInt8) (w : World) : Prop := Lib.IsBuilderF 70 5 B b (Lib.byteCells l) w

/-- What a writer keeps: the builder's block holds cells, so whatever holds none lies as it lay. -/
theorem keeps_of {B b : Nat} {l : List UInt8} {W W' : World} (hI : IsB B b l W) (hb : Below B W W') (hk : Lib.OthersKept 5 (some b) W W') : KeepsOthers W W' := by
  refine ⟨hb.size, fun k o ho hc => hk k o ho (fun e => ?_) (fun c fz e => ?_)⟩
  · injection e with e
    subst e
    rcases hI with ⟨_, v, h, _⟩ | ⟨_, v, h, _⟩ <;> (rw [h] at ho; cases ho; cases hc)
  · subst e; cases hc
theorem boxed_others {b : Nat} {B : Nat} {v : Value} {l : List UInt8} {c : Nat} {W W' : World} (h : Boxed W c 9 v) (hI : IsB B b l W) (hk : Lib.OthersKept 5 (some b) W W') : Boxed W' c 9 v := by
  refine hk c _ h (fun e => ?_) (fun cs fz e => ?_)
  · injection e with e
    subst e
    unfold Boxed at h
    rcases hI with ⟨_, v', h', _⟩ | ⟨_, v', h', _⟩ <;> (rw [h'] at h; injection h with h; injection h with _ h; cases h)
  · injection e with _ e; cases e
theorem isB_grown {B b : Nat} {l : List UInt8} {W W' : World} {row : Option Nat} (hI : IsB B b l W) (hg : W.grownBy W' row) (hr : ∀ r, row = some r → ∃ o : Obj, W.heap[r]? = some o ∧ ∀ c t f, o = .cells c t f → t = 9) : IsB B b l W' := by
  have key : ∀ p, Lib.BuilderAtF 70 5 B b p (Lib.byteCells l) W → Lib.BuilderAtF 70 5 B b p (Lib.byteCells l) W' := by
    rintro p ⟨hB, v, hb, hown, hne⟩
    have hlt : b < W.heap.size := (Array.getElem?_eq_some_iff.1 hb).1
    refine ⟨hB, v, (hg.block b hlt (fun e => ?_)).trans hb, hown.kept hg ?_, hne⟩
    · obtain ⟨o, ho, hc⟩ := hr b e.symm
      rw [hb] at ho
      injection ho with ho
      have := hc _ _ _ ho.symm
      cases this
    · by_cases hn : v.ownBlock = none
      · exact .inl hn
      · refine .inr (fun e => ?_)
        cases hrow : row with
        | none => rw [hrow] at e; exact hn e
        | some r =>
          obtain ⟨o, ho, hc⟩ := hr r hrow
          rw [hrow] at e
          obtain ⟨cs, fz, hk⟩ := Lib.ownsRowF_kind hown r e
          rw [hk] at ho
          injection ho with ho
          have := hc _ _ _ ho.symm
          cases this
  exact hI.elim (fun h => .inl (key _ h)) (fun h => .inr (key _ h))
theorem isB_own (B b : Nat) (f : List P60 → List UInt8) : Own (fun (pre : List P60) W => IsB B b (f pre) W) := fun pre W W' row hs hg hr =>
  isB_grown hs hg (fun r e => by
    obtain ⟨o, ho, hc⟩ := hr r e
    exact ⟨o, ho, fun c t f e => by subst e; cases hc⟩)
theorem boxed_own' (b : Nat) (t : TypeId) (f : List P60 → Value) : Own (fun (pre : List P60) W => Boxed W b t (f pre)) := fun pre W W' row hs hg hr =>
  hs.kept hg (fun e => by
    obtain ⟨o, ho, hc⟩ := hr b e.symm
    rw [show W.heap[b]? = _ from hs] at ho
    injection ho with ho
    subst ho
    cases hc)

set_option maxRecDepth 100000 in
set_option maxHeartbeats 3200000 in
theorem lay_any (s : List UInt8) (sr : Nat) (w : World) (hs : s.length ≤ 4000) (hsr : sr ≤ 16777215) :
    Calls Tryz.prog 58 #[.string (bs s), .int .i64 (sr : Int)] w fun e w' => e = .returned (.string (bs (lay s sr))) ∧ Below w.heap.size w w' := by
  have HP : Hid (∀ W, Calls Tryz.prog 83 #[.int .u64 (sr : Int), .int .i64 3] W fun e w' => e = .returned (.tuple #[.string (bs (octs 3 sr)), .int .i64 0]) ∧ Below W.heap.size W w') := hide (fun W => put_octs sr 3 (by omega) (by omega) (by omega) W (by omega))
  obtain ⟨mk, hmk⟩ : ∃ z, bs (octs 3 sr) = z := ⟨_, rfl⟩
  rw [hmk] at HP
  have HMK := hide hmk
  obtain ⟨sv, hsv⟩ : ∃ z, bs s = z := ⟨_, rfl⟩
  rw [hsv]
  have HSV := hide hsv
  clear hmk hsv
  refine (callsIn_wide (n := 5)).1 ?_
  refine callsIn_of_wp_marks Tryz.func58 rfl trivial ?_ rfl
  simp only [Tryz.ntmps58, List.size_toArray, List.length_cons, List.length_nil, Nat.reduceAdd, Nat.reduceSub, Array.replicate_succ, Array.replicate_zero, List.push_toArray, List.append_toArray, List.nil_append, List.cons_append]
  gi_wp2_with fail
  refine ⟨trivial, (callsIn_wide.2 (HP.out _)).mono ?_⟩
  rintro e w1 ⟨rfl, hb1⟩
  gi_wp2_with fail
  refine ⟨trivial, (pieces_in 4 sv _).mono ?_⟩
  rintro e w2 ⟨rfl, rfl⟩
  gi_wp2_with fail
  have hbI : IsB w.heap.size w.heap.size [] (w.alloc (.cells #[.pointer none, .slice none 0 0] 70)) := .inl ⟨Nat.le_refl _, .slice none 0 0, World.alloc_heap_new w _, World.ownsRowF_nil _ _ _ _, by simp [Value.ownBlock]⟩
  have hI1 : IsB w.heap.size w.heap.size [] w1 := isB_grown hbI (below_grown hb1) (fun r e => by cases e)
  have hbw : Below w.heap.size w w1 := ((Below.refl _ _).alloc (Nat.le_refl _) _).trans (hb1.mono (by simp))
  have hlt1 : w.heap.size < w1.heap.size := by have := hb1.size; simp at this; omega
  have hK6 := Boxed.new w1 9 (.string mk)
  have hK8 := Boxed.new (w1.alloc (.cells #[.string mk] 9)) 9 (.string ⟨#[1]⟩)
  have hKn := Boxed.new ((w1.alloc (.cells #[.string mk] 9)).alloc (.cells #[.string ⟨#[1]⟩] 9)) 9 (.string sv)
  simp only [World.size_alloc] at hK8 hKn
  have h0 : (IsB w.heap.size w.heap.size (accOf sr []) (((w1.alloc (.cells #[.string mk] 9)).alloc (.cells #[.string ⟨#[1]⟩] 9)).alloc (.cells #[.string sv] 9)) ∧ Boxed (((w1.alloc (.cells #[.string mk] 9)).alloc (.cells #[.string ⟨#[1]⟩] 9)).alloc (.cells #[.string sv] 9)) w1.heap.size 9 (.string mk) ∧ Boxed (((w1.alloc (.cells #[.string mk] 9)).alloc (.cells #[.string ⟨#[1]⟩] 9)).alloc (.cells #[.string sv] 9)) (w1.heap.size + 1) 9 (.string (bs [kind 0]))) ∧ Below w.heap.size w (((w1.alloc (.cells #[.string mk] 9)).alloc (.cells #[.string ⟨#[1]⟩] 9)).alloc (.cells #[.string sv] 9)) :=
    ⟨⟨((hI1.alloc _).alloc _).alloc _, (hK6.alloc _).alloc _, hK8.alloc _⟩, ((hbw.alloc (by omega) _).alloc (by simp; omega) _).alloc (by simp; omega) _⟩
  obtain ⟨W2, hW2⟩ : ∃ W2, (((w1.alloc (.cells #[.string mk] 9)).alloc (.cells #[.string ⟨#[1]⟩] 9)).alloc (.cells #[.string sv] 9)) = W2 := ⟨_, rfl⟩
  have hsz2 : w1.heap.size + 3 = W2.heap.size := by rw [← hW2]; simp
  rw [hW2] at h0 hKn ⊢
  obtain ⟨b5, hb5⟩ : ∃ b, w.heap.size = b := ⟨_, rfl⟩
  obtain ⟨b6, hb6⟩ : ∃ b, w1.heap.size = b := ⟨_, rfl⟩
  rw [hb5] at h0 hlt1 ⊢
  rw [hb6] at h0 hKn hlt1 hsz2 ⊢
  have HSZ2 := hide hsz2
  have HB5 := hide hb5
  have hle2 : b6 + 2 < W2.heap.size := by omega
  have hle3 : b5 < W2.heap.size := by omega
  rw [← HSV.out] at hKn
  have hk67 := kOf_max hs
  clear hW2 hsz2 hb6 hb5 hK6 hK8 hI1 hbI hb1 hbw HP
  refine wpIn_rangeFunc_ownF (n := 5) rfl (show 1 ≤ 5 by decide) (gf := 103) (lb := #[.pointer (some ⟨b6 + 2, 0, none⟩)]) rfl trivial (enters_of Tryz.func103 (by kernel_rfl) rfl)
    (pieces_stops (5 - 1) (by decide) (b6 + 2) s hs W2 hKn) kpBox_t kpBox_b (Below.refl _ _) (fun _ => rfl)
    (fun pre W => (IsB b5 b5 (accOf sr pre) W ∧ Boxed W b6 9 (.string mk) ∧ Boxed W (b6 + 1) 9 (.string (bs [kind pre.length]))) ∧ Below b5 w W)
    (fun _ _ _ => False)
    (OwnFrom.and (Own.from (fun pre A B row hs hg hr => ⟨isB_own b5 b5 (accOf sr) pre A B row hs.1 hg hr, boxed_own' b6 _ (fun _ => .string mk) pre A B row hs.2.1 hg hr, boxed_own' (b6 + 1) _ (fun pre => .string (bs [kind pre.length])) pre A B row hs.2.2 hg hr⟩) _) (ownFrom_below (by rw [HB5.out]; exact Nat.le_refl _) (by omega)))
    (fun _ _ _ _ _ hs _ _ => hs)
    h0
    (fun x => { tmps := #[.string sv, .int .i64 sr, undef, undef, .string ⟨#[]⟩, .pointer (some ⟨b5, 0, none⟩), .pointer (some ⟨b6, 0, none⟩), .int .i64 0, .pointer (some ⟨b6 + 1, 0, none⟩), .string (bs x.1), .tuple #[.string mk, .int .i64 0], .int .i64 sr, .int .u64 sr, .tuple #[.string mk, .int .i64 0], .string mk, .int .i64 0, .string sv, .func (.func 103) #[] #[.pointer (some ⟨b6 + 2, 0, none⟩)], .string (bs x.1), undef, undef, undef, undef, undef, undef, undef], defers := [] }) ?assign ?body ?done ?stop
  case assign =>
    intro l x W K hK
    gi_wp2
    exact hK
  case body =>
    rintro l pre x W ⟨⟨hI, h6, h8⟩, hB⟩ hlt
    have hxl := x.2
    have hal := accOf_length sr pre
    have hbB : b5 ≤ W.heap.size := by have := hB.size; rw [HB5.out] at this; exact this
    gi_wp2_with fail
    refine ⟨trivial, (CallsIn.inRound l (callsIn_wide.2 (Tryz.Builder_WriteString_k b5 b5 _ (bs x.1) W hI (by rw [Lib.byteCells_length, bs_size]; omega) hbB))).mono ?_⟩
    rintro e Wa ⟨rfl, hb1, hb2, hb3⟩
    have hI1 : IsB b5 b5 (accOf sr pre ++ x.1) Wa := .inr (by rw [Lib.byteCells_append]; exact hb1)
    have hK1 := keeps_of hI hb2 hb3
    have h61 := boxed_others h6 hI hb3
    have h81 := boxed_others h8 hI hb3
    have hKp1 : KpBox (b6 + 2) 9 (.string (bs s)) W Wa := fun h => boxed_others h hI hb3
    have hBa := hB.trans hb2
    have hbBa : b5 ≤ Wa.heap.size := by have := hb2.size; omega
    have hc6 := h61.cell
    clear hb1 hb2 hb3 h6 h8 hI hbB
    gi_wp2_with fail
    refine ⟨trivial, (CallsIn.inRound l (callsIn_wide.2 (Tryz.Builder_WriteString_k b5 b5 _ mk Wa hI1 (by rw [← HMK.out, Lib.byteCells_length, bs_size, List.length_append, octs_length]; omega) hbBa))).mono ?_⟩
    rintro e Wb ⟨rfl, hb1, hb2, hb3⟩
    have hI2 : IsB b5 b5 (accOf sr pre ++ x.1 ++ octs 3 sr) Wb := .inr (by rw [← HMK.out] at hb1; rw [Lib.byteCells_append]; exact hb1)
    have hK2 := hK1.trans (keeps_of hI1 hb2 hb3)
    have h62 := boxed_others h61 hI1 hb3
    have h82 := boxed_others h81 hI1 hb3
    have hKp2 : KpBox (b6 + 2) 9 (.string (bs s)) W Wb := fun h => boxed_others (hKp1 h) hI1 hb3
    have hBb := hBa.trans hb2
    have hbBb : b5 ≤ Wb.heap.size := by have := hb2.size; omega
    have hc8 := h82.cell
    clear hb1 hb2 hb3 h61 h81 hI1 hbBa hc6 hK1 hKp1 hBa
    gi_wp2_with fail
    refine ⟨trivial, (CallsIn.inRound l (callsIn_wide.2 (Tryz.Builder_WriteString_k b5 b5 _ (bs [kind pre.length]) Wb hI2 (by rw [Lib.byteCells_length, bs_size, List.length_append, List.length_append, octs_length]; simp; omega) hbBb))).mono ?_⟩
    rintro e Wc ⟨rfl, hb1, hb2, hb3⟩
    have hI3 : IsB b5 b5 (accOf sr (pre ++ [x])) Wc := .inr (by rw [accOf_snoc, ← List.append_assoc, ← List.append_assoc, Lib.byteCells_append]; exact hb1)
    have hK3 := hK2.trans (keeps_of hI2 hb2 hb3)
    have h63 := boxed_others h62 hI2 hb3
    have h83 := boxed_others h82 hI2 hb3
    have hKp3 : KpBox (b6 + 2) 9 (.string (bs s)) W Wc := fun h => boxed_others (hKp2 h) hI2 hb3
    have hBc := hBb.trans hb2
    have hc8' := h83.cell
    have hf8' := h83.frozen
    clear hb1 hb2 hb3 h62 h82 hI2 hbBb hc8 hK2 hKp2 hBb
    gi_wp2_with fail
    have hg := grownBy_setCell' Wc (b6 + 1) (.string ⟨#[2]⟩)
    have hgr : ∀ r, some (b6 + 1) = some r → ∃ o : Obj, Wc.heap[r]? = some o ∧ ∀ c t f, o = .cells c t f → t = 9 := by
      intro r e
      injection e with e
      subst e
      exact ⟨_, h83, fun c t f e => by injection e with _ e; exact e.symm⟩
    refine ⟨hK3.trans (KeepsOthers.setCell _ _ _), fun h => (hKp3 h).kept hg (by simp), ⟨isB_grown hI3 hg hgr, h63.kept hg (by simp), ?_⟩, hBc.setCell (p := ⟨b6 + 1, 0, none⟩) (show b5 ≤ b6 + 1 by omega) _⟩
    have he : (Value.string (bs [kind (pre ++ [x]).length])) = .string ⟨#[2]⟩ := by
      rw [List.length_append]
      rfl
    rw [he]
    exact h83.set _
  case done =>
    rintro D xs W hD rfl ⟨⟨hI, h6, h8⟩, hB⟩ hK
    rw [accOf_lay] at hI
    have hbB : b5 ≤ W.heap.size := by have := hB.size; rw [HB5.out] at this; exact this
    gi_wp2_with fail
    refine ⟨trivial, (callsIn_wide.2 (Tryz.Builder_String_any_k b5 b5 (lay s sr) W hI hbB)).mono ?_⟩
    rintro e Wa ⟨rfl, hI1, hb2, hb3⟩
    have hK1 := (keeps_of hI hb2 hb3).same D _ hK rfl
    gi_wp2_with fail
    refine ⟨by simp, .inl ⟨_, _, rfl, run_takeDeferred hK1, ?_⟩⟩
    exact ⟨_, results_tmp rfl _ _ _, rfl, by rw [HB5.out]; exact (hB.trans hb2).trans (belowK_b (w := W2) (by omega) Wa D _ _ hD hK1 rfl rfl)⟩
  case stop =>
    rintro D c pre W _ _ h _
    exact h.elim

end Go.Proofs.YtogonkoeginoaaaGreatDoor
