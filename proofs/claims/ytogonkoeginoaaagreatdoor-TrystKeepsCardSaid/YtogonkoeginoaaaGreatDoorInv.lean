/-
  A region that draws its order, by an invariant: what holds of the frame and the world, told by which operations are done.
-/
import Derived.Test.YtogonkoeginoaaaGreatDoorApp
namespace Go.Proofs.YtogonkoeginoaaaGreatDoor
open Go.RowKit

def numF : List Bool → Nat
  | [] => 0
  | b :: l => (if b then 0 else 1) + numF l
theorem numF_set (l : List Bool) : ∀ i, l[i]? = some false → numF (l.set i true) + 1 = numF l := by
  induction l with
  | nil => intro i h; simp at h
  | cons b l ih =>
    intro i h
    cases i with
    | zero =>
      have e : b = false := by simpa using h
      subst e
      simp [numF]
      omega
    | succ i =>
      have := ih i (by simpa using h)
      simp only [List.set_cons_succ, numF]
      omega
theorem numF_zero (l : List Bool) (h : numF l = 0) : ∀ i, l.getD i true = true := by
  induction l with
  | nil => intro i; simp
  | cons b l ih =>
    intro i
    rw [numF] at h
    have hb : b = true := by
      cases b with
      | true => rfl
      | false => simp at h
    cases i with
    | zero => simp [hb]
    | succ i => simpa using ih (by omega) i
theorem numF_replicate (n : Nat) : numF (List.replicate n false) = n := by
  induction n with
  | zero => rfl
  | succ n ih => rw [List.replicate_succ, numF, ih]; simp; omega

theorem wpAny_inv {P : Program} {md : Region.Mode} {ops : Array Oper} {Q : Exit → Act → World → Prop} {I : Array Bool → Act → World → Prop}
    (hord : ∀ (i : Nat) (o : Oper), ops[i]? = some o → ∀ e ∈ o.after, e.on < i)
    (hstep : ∀ (l : Array Bool) (a : Act) (w : World) (i : Nat) (o : Oper), ops[i]? = some o → I l a w → l.getD i true = false → (∀ e ∈ o.after, Region.binds md e = true → l.getD e.on false = true) →
      ∀ K : Act → World → Prop, (∀ a' w', I (l.setIfInBounds i true) a' w' → K a' w') → if Region.wanted o (yielded ops a.tmps) = true then Oper.wp P o a w K Q else K (a.put o.dst undef) w)
    (hdone : ∀ (l : Array Bool) (a : Act) (w : World), I l a w → (∀ i, l.getD i true = true) → Q .normal a w) :
    ∀ (fuel : Nat) (l : Array Bool) (a : Act) (w : World), l.size = ops.size → numF l.toList ≤ fuel → I l a w → wpAny P md ops Q fuel l a w := by
  have hall : ∀ l : Array Bool, l.size = ops.size → Region.ready md ops l = [] → ∀ i, l.getD i true = true := by
    intro l hl hr i
    induction i using Nat.strongRecOn with
    | _ i ih =>
      cases hi : l.getD i true with
      | true => rfl
      | false =>
        have hlt : i < l.size := by
          rcases Nat.lt_or_ge i l.size with h | h
          · exact h
          · simp [Array.getD, Nat.not_lt.2 h] at hi
        have hlt' : i < ops.size := by omega
        have ho : ops[i]? = some ops[i] := Array.getElem?_eq_getElem hlt'
        have hm : i ∈ Region.ready md ops l := by
          rw [mem_ready]
          refine ⟨hi, ops[i], ho, fun e he _ => ?_⟩
          have h1 := hord i _ ho e he
          have h2 := ih e.on h1
          have h3 : e.on < l.size := by omega
          simp [Array.getD, h3] at h2 ⊢
          exact h2
        rw [hr] at hm
        cases hm
  intro fuel
  induction fuel with
  | zero =>
    intro l a w hl hn hI
    have h0 : ∀ i, l.getD i true = true := by
      intro i
      have := numF_zero l.toList (by omega) i
      rw [Array.getD_eq_getD_getElem?, ← Array.getElem?_toList]
      rw [List.getD_eq_getElem?_getD] at this
      exact this
    refine ⟨?_, hdone l a w hI h0⟩
    cases hr : Region.ready md ops l with
    | nil => rfl
    | cons i r =>
      have hm : i ∈ Region.ready md ops l := by rw [hr]; simp
      rw [mem_ready] at hm
      rw [h0 i] at hm
      cases hm.1
  | succ fuel ih =>
    intro l a w hl hn hI
    refine ⟨fun hr => hdone l a w hI (hall l hl hr), fun i hi => ?_⟩
    rw [mem_ready] at hi
    obtain ⟨h1, o, ho, h2⟩ := hi
    have hlt : i < l.size := by
      rcases Nat.lt_or_ge i l.size with h | h
      · exact h
      · simp [Array.getD, Nat.not_lt.2 h] at h1
    have hs := hstep l a w i o ho hI h1 h2 (wpAny P md ops Q fuel (l.setIfInBounds i true)) (fun a' w' hI' => by
      refine ih _ a' w' (by simpa using hl) ?_ hI'
      have h3 : l.toList[i]? = some false := by
        simp [Array.getD, hlt] at h1
        simp [hlt, h1]
      have := numF_set l.toList i h3
      rw [Array.toList_setIfInBounds]
      omega)
    unfold wpOp
    rw [ho]
    simp only
    by_cases hw : Region.wanted o (yielded ops a.tmps) = true
    · rw [if_pos hw] at hs ⊢
      exact .inl hs
    · rw [if_neg hw] at hs ⊢
      exact hs

def ordB (ops : Array Oper) : Bool := (List.range ops.size).all fun i => match ops[i]? with | some o => o.after.all (fun e => decide (e.on < i)) | none => true
theorem ord_of {ops : Array Oper} (h : ordB ops = true) : ∀ (i : Nat) (o : Oper), ops[i]? = some o → ∀ e ∈ o.after, e.on < i := by
  intro i o ho e he
  have hi : i < ops.size := (Array.getElem?_eq_some_iff.1 ho).1
  have h1 := List.all_eq_true.1 h i (by simpa using hi)
  rw [ho] at h1
  have h2 := (Array.all_eq_true_iff_forall_mem.1 h1) e he
  exact of_decide_eq_true h2

theorem undrew1 {w w' : World} (h : Below w.drew.heap.size w.drew w') : Below w.heap.size w w' := below_undrew h
/-- Is operation k done? -/
def fl (l : Array Bool) (k : Nat) : Prop := l.getD k false = true
theorem fl_set {l : Array Bool} {i k : Nat} (h : fl (l.setIfInBounds i true) k) (hne : k ≠ i) : fl l k := by
  unfold fl at *
  rw [Array.getD_eq_getD_getElem?] at *
  rwa [Array.getElem?_setIfInBounds_ne (Ne.symm hne)] at h
theorem fl_none (n k : Nat) : ¬ fl (Array.replicate n false) k := by
  unfold fl
  rw [Array.getD_eq_getD_getElem?, Array.getElem?_replicate]
  split <;> simp
theorem fl_keep {l : Array Bool} {k : Nat} (h : fl l k) (i : Nat) : fl (l.setIfInBounds i true) k := by
  unfold fl at *
  rw [Array.getD_eq_getD_getElem?] at *
  rw [Array.getElem?_setIfInBounds]
  split
  · subst_vars
    split
    · rfl
    · rename_i h2
      rw [Array.getElem?_eq_none (by omega)] at h
      cases h
  · exact h
theorem fl_not {l : Array Bool} {k : Nat} (h : l.getD k true = false) : ¬ fl l k := by
  unfold fl
  rw [Array.getD_eq_getD_getElem?] at *
  cases hk : l[k]? with
  | none => simp
  | some b => rw [hk] at h; simpa using h

theorem fl_all {l : Array Bool} (h : ∀ i, l.getD i true = true) {n k : Nat} (hn : l.size = n) (hk : k < n) : fl l k := by
  have h1 := h k
  unfold fl
  rw [Array.getD_eq_getD_getElem?] at *
  have hlt : k < l.size := by omega
  rw [Array.getElem?_eq_getElem hlt] at *
  exact h1

theorem wp_region_inv {P : Program} {ops : Array Oper} {Q : Exit → Act → World → Prop} {id : Nat} {a : Act} {w : World} (I : Array Bool → Act → World → Prop) (hm : P.follows .mixedOrders = true)
    (hord : ∀ (i : Nat) (o : Oper), ops[i]? = some o → ∀ e ∈ o.after, e.on < i) (h0 : I (Array.replicate ops.size false) a w.drew)
    (hstep : ∀ (l : Array Bool) (a : Act) (w : World) (i : Nat) (o : Oper), ops[i]? = some o → I l a w → l.getD i true = false → (∀ e ∈ o.after, Region.binds .any e = true → l.getD e.on false = true) →
      ∀ K : Act → World → Prop, (∀ a' w', I (l.setIfInBounds i true) a' w' → K a' w') → if Region.wanted o (yielded ops a.tmps) = true then Oper.wp P o a w K Q else K (a.put o.dst undef) w)
    (hdone : ∀ (l : Array Bool) (a : Act) (w : World), I l a w → (∀ i, l.getD i true = true) → Q .normal a w) : (Code.region id ops true).wp P Q a w :=
  wp_region_any hm (wpAny_inv hord hstep hdone ops.size _ a w.drew (by simp) (by rw [Array.toList_replicate, numF_replicate]; exact Nat.le_refl _) h0)

end Go.Proofs.YtogonkoeginoaaaGreatDoor
