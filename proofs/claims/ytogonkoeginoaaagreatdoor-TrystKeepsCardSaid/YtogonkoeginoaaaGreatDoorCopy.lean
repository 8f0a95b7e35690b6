/-
  'copy(dst, src)' as a law for the walk: dst a row that the call itself made, src as many elements, of whatever size an element has.
-/
import Derived.Test.YtogonkoeginoaaaGreatDoorDrvMem
import Derived.Laws.CopyRow
namespace Go.Proofs.YtogonkoeginoaaaGreatDoor
open Go.RowKit

theorem run_copy_all {P : Program} (w : World) (dT sT ty elem : TypeId) (size : Nat) (hu : P.underlying dT = some (.slice elem)) (hsz : (P.info? elem).map (·.size) = some size)
    (base : Nat) (e : TypeId) (g n dCap : Nat) (xs : List Value) (hown : w.ownsRow base e size (.slice (some ⟨g, 0, none⟩) n dCap) n xs) (sp : Option Addr) (sCap : Nat) (cs : List Value) (hn : cs.length = n * size)
    (hsrc : Row w sp cs) (h1 : ∀ v ∈ cs, v.oneCell' = true) :
    ∃ w', (Builtin.copy_ #[dT, sT] ty #[.slice (some ⟨g, 0, none⟩) n dCap, .slice sp n sCap]).run P w = .ok (goInt n) w' ∧ w'.ownsRow base e size (.slice (some ⟨g, 0, none⟩) n dCap) n cs ∧ w.grownBy w' (some g) := by
  cases hq : P.info? elem with
  | none => simp [hq] at hsz
  | some i =>
  have hi : i.size = size := by simpa [hq] using hsz
  have hmin : Nat.min n n = n := Nat.min_self n
  rcases hsrc with rfl | ⟨b, off, rfl, hc⟩
  · have h0 : n * size = 0 := by simpa using hn.symm
    refine ⟨w, ?_, ?_, World.grownBy.refl _ _⟩
    · cases sp with
      | none => simp [Builtin.copy_, run_underlying hu, Builtin.lenOf, Builtin.firstCells, sizeOf, typeInfo, hq, storeCells, hmin]
      | some a => simp [Builtin.copy_, run_underlying hu, Builtin.lenOf, Builtin.firstCells, sizeOf, typeInfo, hq, storeCells, hi, hmin, h0, loadCells, loadCellsFrom]
    · have : xs = [] := List.eq_nil_of_length_eq_zero (by rw [hown.1]; exact h0)
      rwa [this] at hown
  · obtain ⟨hxl, h2⟩ := hown
    rcases h2 with ⟨h3, _⟩ | ⟨g', cap', cur, h3, hbg, hg, hnc, hcm, hcs, htake⟩
    · simp at h3
    · simp only [Value.slice.injEq, Option.some.injEq, Addr.mk.injEq, and_true, true_and] at h3
      obtain ⟨rfl, rfl⟩ := h3
      have hfit : n * size ≤ cur.size := by rw [hcs]; exact Nat.mul_le_mul_right _ hnc
      have hl := run_loadCells_list (P := P) w ⟨b, off, none⟩ cs (fun j v hj => by rw [Addr.add_lit]; exact hc j v hj)
      have hst := run_storeCells_at P g 0 e cs 0 cur w hg (by rw [hn]; omega) h1
      refine ⟨w.setRow g (cs ++ cur.toList.drop (n * size)).toArray, ?_, ⟨hn, .inr ⟨g, dCap, _, rfl, hbg, setRow_heap w g cur _ e _ hg, hnc, hcm, ?_, ?_⟩⟩, ⟨rfl, rfl, rfl, by simp, fun k _ hk => setRow_other w g k _ (fun e => hk (by rw [e]))⟩⟩
      · simp [hn] at hst
        simp [Builtin.copy_, run_underlying hu, Builtin.lenOf, Builtin.firstCells, sizeOf, typeInfo, hq, hi, hmin, ← hn, hl]
        rw [hst, hn]
        simp
      · simp [hn, hcs]; rw [hcs] at hfit; omega
      · rw [← hn]; simp

theorem wpList_copy_all {P : Program} {w : World} {ops : Array Oper} {rest : List Oper} {o : Oper} {a : Act} {Q : Exit → Act → World → Prop} (hgd : o.guard = none) (d s : Operand) (dT sT : TypeId)
    (ho : o.op = .call { callee := .builtin .copy, args := #[d, s], argTypes := #[dT, sT] }) (elem : TypeId) (size : Nat) (hu : P.underlying dT = some (.slice elem)) (hsz : (P.info? elem).map (·.size) = some size)
    (base : Nat) (e : TypeId) (g n dCap : Nat) (xs : List Value) (sp : Option Addr) (sLen sCap : Nat) (hd : a.eval d = .slice (some ⟨g, 0, none⟩) n dCap) (hs : a.eval s = .slice sp sLen sCap) (hsl : sLen = n)
    (hown : w.ownsRow base e size (.slice (some ⟨g, 0, none⟩) n dCap) n xs) (cs : List Value) (hn : cs.length = n * size) (hsrc : Row w sp cs) (h1 : ∀ v ∈ cs, v.oneCell' = true)
    (h : ∀ w', w'.ownsRow base e size (.slice (some ⟨g, 0, none⟩) n dCap) n cs → w.grownBy w' (some g) → wpList P ops Q rest (a.put o.dst (goInt n)) w') : wpList P ops Q (o :: rest) a w := by
  subst hsl
  refine wpList_plain hgd fun K hK => ?_
  obtain ⟨w', hrun, h2, h3⟩ := run_copy_all (P := P) w dT sT o.type elem size hu hsz base e g sLen dCap xs hown sp sCap cs hn hsrc h1
  unfold Oper.wp
  simp [execOp, ho, resolve, invoke, builtin, hd, hs, hrun, Result.andThen]
  exact hK _ _ (h w' h2 h3)

end Go.Proofs.YtogonkoeginoaaaGreatDoor
