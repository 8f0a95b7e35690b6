/-
  What an invariant of a region that draws its order knows of which operations are done.
-/
import Derived.Test.YtkapdmhjhbmdjaaAppReg
namespace Go.Proofs.Ytkapdmhjhbmdjaa
open Go.RowKit

/-- Of each pair: where the first is done the second is. -/
def Closed (l : Array Bool) (ps : List (Nat × Nat)) : Prop := ∀ p ∈ ps, fl l p.1 → fl l p.2
theorem Closed.zero (n : Nat) (ps : List (Nat × Nat)) : Closed (Array.replicate n false) ps := fun _ _ f => absurd f (fl_none _ _)
theorem Closed.on {l : Array Bool} {ps : List (Nat × Nat)} (h : Closed l ps) {j d : Nat} (hm : (ps.contains (j, d)) = true) (f : fl l j) : fl l d := h (j, d) (by simpa using hm) f
theorem Closed.step {l : Array Bool} {ps : List (Nat × Nat)} (h : Closed l ps) (i : Nat) (ds : List Nat) (hp : (ps.all fun p => p.1 != i || ds.contains p.2) = true) (hds : ∀ d ∈ ds, fl l d) : Closed (l.setIfInBounds i true) ps := by
  intro p hm f
  by_cases e : p.1 = i
  · have h1 := List.all_eq_true.1 hp p hm
    rw [e] at h1
    simp at h1
    exact fl_keep (hds _ h1) _
  · exact fl_keep (h p hm (fl_set f e)) _

theorem all_nil {l : Array Bool} : ∀ d ∈ ([] : List Nat), fl l d := fun _ h => by cases h
theorem all_cons {l : Array Bool} {x : Nat} {ds : List Nat} (h1 : fl l x) (h : ∀ d ∈ ds, fl l d) : ∀ d ∈ x :: ds, fl l d := by
  intro d hd
  rcases List.mem_cons.1 hd with rfl | hd
  · exact h1
  · exact h d hd

end Go.Proofs.Ytkapdmhjhbmdjaa
