/-
  A map[int]bool that the call made, as a set of numbers: made, stored into, looked into, its length.
-/
import Derived.Test.YtkapdmhjhbmdjaaBun
import Derived.Maps.OwnSet
import Derived.Maps.OwnOps
import Derived.Maps.Views
namespace Go.Proofs.Ytkapdmhjhbmdjaa
open Go.RowKit Go.Maps

theorem law_int : Keyed Try.prog 3 := int_keyed Try.underlying3
theorem zero_bool (w : World) : (zeroValue 4).run Try.prog w = .ok (.bool false) w := by kernel_rfl

/-- Block b is a map that has true just for the numbers in S. -/
def IsSet (w : World) (b : Nat) (S : List Int) : Prop := ∃ (D : DataW Unit) (n : Nat), w.ownsMap Try.prog 3 (plainElem Try.prog 4) b n D ∧ n ≤ S.length ∧ IsMap D ∧ (∀ x : Int, D.atKey (.int .i64 x) (.lit (.bool false)) = .lit (.bool (decide (x ∈ S)))) ∧ (S = [] → Maps.size D = 0)

theorem IsSet.made (w : World) : IsSet (w.alloc (.map #[] 0)) w.heap.size [] :=
  ⟨.map [], 0, World.ownsMap_made _ _ _ _, Nat.le_refl _, isMap_empty, fun _x => rfl, fun _ => rfl⟩
theorem IsSet.lt {w : World} {b : Nat} {S : List Int} (h : IsSet w b S) : b < w.heap.size := by
  obtain ⟨D, n, h, _⟩ := h
  exact h.lt
theorem IsSet.kept {w w' : World} {b : Nat} {S : List Int} {row : Option Nat} (h : IsSet w b S) (hg : w.grownBy w' row) (hne : some b ≠ row) : IsSet w' b S := by
  obtain ⟨D, n, h, r⟩ := h
  exact ⟨D, n, h.kept hg hne, r⟩
theorem IsSet.next {w w' : World} {b : Nat} {S : List Int} (h : IsSet w b S) (hb : Below w.heap.size w w') : IsSet w' b S := h.kept (below_grown hb) (by simp)
theorem IsSet.drewed {w : World} {b : Nat} {S : List Int} (h : IsSet w b S) : IsSet w.drew b S := h
theorem IsSet.block {w : World} {b : Nat} {S : List Int} (h : IsSet w b S) : ∃ es clock, w.heap[b]? = some (.map es clock) := by
  obtain ⟨D, n, ⟨es, clock, h, _⟩, _⟩ := h
  exact ⟨es, clock, h⟩
theorem IsSet.ne {w : World} {b b' : Nat} {S : List Int} {vs : List Value} {t : TypeId} (h : IsSet w b S) (hb : Blk w b' vs t) : b' ≠ b := by
  rintro rfl
  obtain ⟨es, clock, h⟩ := h.block
  unfold Blk at hb
  rw [h] at hb
  injection hb with hb
  cases hb
/-- A store to a block. -/
theorem IsSet.set {w : World} {b b' : Nat} {S : List Int} {vs : List Value} {t : TypeId} (h : IsSet w b S) (hb : Blk w b' vs t) (i : Nat) (u : Value) : IsSet (w.setCell ⟨b', i, none⟩ u) b S :=
  h.kept (grown_setCell w b' i u) (by intro e; injection e with e; exact h.ne hb e.symm)
theorem IsSet.step {w w' : World} {b b' : Nat} {S : List Int} {vs : List Value} {t : TypeId} (h : IsSet w b S) (hb : Blk w b' vs t) (hs : Step w w' (some b')) : IsSet w' b S :=
  h.kept hs.grown (by intro e; injection e with e; exact h.ne hb e.symm)

set_option maxRecDepth 100000 in
theorem i64_wf {x : Int} (h : -9223372036854775808 ≤ x ∧ x < 9223372036854775808) : (Lit.int .i64 x).wf = true := by
  have e : (Lit.int .i64 x).wf = (decide (IntKind.i64.min ≤ x) && decide (x ≤ IntKind.i64.max)) := rfl
  have e1 : IntKind.i64.min = -9223372036854775808 := by decide
  have e2 : IntKind.i64.max = 9223372036854775807 := by decide
  rw [e, e1, e2, decide_eq_true h.1, decide_eq_true (show x ≤ 9223372036854775807 by omega)]
  rfl
theorem key_int {x : Int} (h : -9223372036854775808 ≤ x ∧ x < 9223372036854775808) : keyOf Try.prog 3 (.int .i64 x) = some (.int .i64 x) := keyOf_int_mk Try.underlying3 (i64_wf h)

set_option maxRecDepth 100000 in
theorem IsSet.lookup {w : World} {b : Nat} {S : List Int} (h : IsSet w b S) (x : Int) (hx : -9223372036854775808 ≤ x ∧ x < 9223372036854775808) : (Instr.lookup 78 (.map (some b)) (.int .i64 x) false).run Try.prog w = .ok (.bool (decide (x ∈ S))) w := by
  obtain ⟨D, n, h, _, _, hat, _⟩ := h
  obtain ⟨v, ps, hrun, hv⟩ := h.lookup law_int Try.underlying78 (zero_bool w) (plainElem_bool Try.underlying4 false) (key_int hx)
  rw [hat x] at hv
  have hvx : v = .bool (decide (x ∈ S)) := by
    clear hrun hx hat
    unfold plainElem at hv
    rw [Try.underlying4] at hv
    cases v <;> simp at hv
    rw [hv.1]
  rw [hrun, hvx]
theorem IsSet.len {w : World} {b : Nat} {S : List Int} (h : IsSet w b S) (ty : TypeId) : ∃ m : Nat, (Builtin.len_ #[78] ty #[.map (some b)]).run Try.prog w = .ok (.int .i64 (m : Int)) w ∧ (m = 0 ↔ S = []) ∧ m ≤ S.length := by
  obtain ⟨D, n, h, hn, hD, hat, h0⟩ := h
  refine ⟨Maps.size D, h.len Try.underlying78 ty, ⟨fun hs => ?_, h0⟩, Nat.le_trans h.size_le hn⟩
  cases S with
  | nil => rfl
  | cons x S =>
    have h1 := hat x
    obtain ⟨es, rfl⟩ := hD
    have he : es = [] := by
      cases es with
      | nil => rfl
      | cons e es => simp [Maps.size] at hs
    subst he
    simp [DataW.atKey] at h1
theorem IsSet.update {w : World} {b : Nat} {S : List Int} (h : IsSet w b S) (x : Int) (hx : -9223372036854775808 ≤ x ∧ x < 9223372036854775808) (hS : S.length ≤ 1000) : ∃ w', (Instr.mapUpdate 78 (.map (some b)) (.int .i64 x) (.bool true)).run Try.prog w = .ok () w' ∧ IsSet w' b (S ++ [x]) ∧ Step w w' (some b) := by
  have hblk := h.block
  obtain ⟨D, n, h, hn, hD, hat, _⟩ := h
  obtain ⟨w', hrun, h2, hg⟩ := h.update law_int Try.underlying78 (by unfold maxLen; omega) (key_int hx) (plainElem_bool (H := Unit) Try.underlying4 true)
  refine ⟨w', hrun, ⟨_, n + 1, h2, by simp; omega, (by obtain ⟨es, rfl⟩ := hD; exact ⟨_, rfl⟩), fun y => ?_, fun e => by simp at e⟩, ⟨hg, fun b' j c _ hb => ?_⟩⟩
  · by_cases hy : y = x
    · subst hy
      rw [atKey_put_same hD (law_int.key (key_int hx))]
      simp
    · rw [atKey_put_other (by intro e; injection e with _ e; exact hy e), hat y]
      simp [hy]
  · obtain ⟨es, clock, hm⟩ := hblk
    have hne : some b' ≠ some b := by
      intro e
      injection e with e
      subst e
      simp [World.cell?, hm] at hb
    exact hg.cell hb hne

set_option maxRecDepth 100000 in
theorem wpList_set {w : World} {ops : Array Oper} {rest : List Oper} {o : Oper} {a : Act} {Q : Exit → Act → World → Prop} (hg : o.guard = none) (m x : Operand) (hop : o.op = Op.mapUpdate 78 m x (.const (.bool true)))
    (b : Nat) (S : List Int) (z : Int) (hm : a.eval m = .map (some b)) (hx : a.eval x = .int .i64 z) (h : IsSet w b S) (hz : -9223372036854775808 ≤ z ∧ z < 9223372036854775808) (hS : S.length ≤ 1000)
    (hK : ∀ w', IsSet w' b (S ++ [z]) → Step w w' (some b) → wpList Try.prog ops Q rest (a.put o.dst undef) w') : wpList Try.prog ops Q (o :: rest) a w := by
  refine wpList_plain hg fun K' hK' => ?_
  obtain ⟨w', hrun, h1, h2⟩ := h.update z hz hS
  have hv : a.eval (.const (.bool true)) = .bool true := rfl
  clear hz
  unfold Oper.wp
  simp [execOp, hop, hm, hx, hv, hrun, Result.andThen]
  exact hK' _ _ (hK w' h1 h2)

theorem wpList_setlen {w : World} {ops : Array Oper} {rest : List Oper} {o : Oper} {a : Act} {Q : Exit → Act → World → Prop} (hg : o.guard = none) (m : Operand) (hop : o.op = Op.call { callee := Callee.builtin Builtin.len, args := #[m], argTypes := #[78] })
    (b : Nat) (S : List Int) (hm : a.eval m = .map (some b)) (h : IsSet w b S) (hK : ∀ n : Nat, (n = 0 ↔ S = []) → n ≤ S.length → wpList Try.prog ops Q rest (a.put o.dst (.int .i64 (n : Int))) w) : wpList Try.prog ops Q (o :: rest) a w := by
  obtain ⟨n, hrun, h1, h2⟩ := h.len o.type
  refine wpList_plain hg fun K' hK' => ?_
  unfold Oper.wp
  simp [execOp, hop, resolve, invoke, builtin, hm, hrun, Result.andThen]
  exact hK' _ _ (hK n h1 h2)

set_option maxRecDepth 100000 in
theorem scan_nothing {cs : List (List UInt8)} {p s : Nat} {c : List UInt8} (hok : tapeOk ⟨cs, [], -1, false⟩ ⟨3, 20, (p : Nat), (s : Nat)⟩ = true) (hl : cs.length = 24) (hp : p < 20) (hc : cs[3 + p]? = some c) (h64 : c.length = 64) (hb : c.getD 63 0 ≠ 1 ∨ val ((c.drop 60).take 3) ≠ s) :
    Drv.scan ⟨cs, [], -1, false⟩ ⟨3, 20, (p : Nat), (s : Nat)⟩ = ([], ⟨3, 20, (p : Nat), (s : Nat)⟩, 0) := by
  have hm : (⟨cs, [], -1, false⟩ : Drv).mayB = true := by
    unfold tapeOk at hok
    rw [Bool.and_eq_true] at hok
    exact hok.1
  have hrd : ∃ rest, Drv.read ⟨cs, [], -1, false⟩ (3 + (p : Nat)) (20 - (p : Nat)) = (c ++ rest, 0) := by
    refine ⟨(((cs.drop (3 + p + 1)).take (20 - p - 1)).flatten), ?_⟩
    unfold Drv.read Drv.there
    rw [if_neg (by rw [hm]; simp), if_neg (by
      rw [show (decide (0 ≤ (3 : Int) + (p : Nat) ∧ 0 ≤ (20 : Int) - (p : Nat) ∧ (3 : Int) + (p : Nat) ≤ (cs.length : Nat) ∧ (20 : Int) - (p : Nat) ≤ (cs.length : Nat) - ((3 : Int) + (p : Nat)))) = true by
        rw [decide_eq_true_iff]; omega]
      simp), if_neg (by simp)]
    have ea : ((3 : Int) + (p : Nat)).toNat = 3 + p := by omega
    have eb : ((20 : Int) - (p : Nat)).toNat = (20 - p - 1) + 1 := by omega
    rw [ea, eb]
    have ec : (⟨cs, [], -1, false⟩ : Drv).full = cs := rfl
    rw [ec]
    have hlt : 3 + p < cs.length := by omega
    have hce : cs[3 + p] = c := by
      rw [List.getElem?_eq_getElem hlt] at hc
      injection hc
    rw [List.drop_eq_getElem_cons hlt, hce, List.take_succ_cons, List.flatten_cons]
  obtain ⟨rest, hrd⟩ := hrd
  have htk : (c ++ rest).take 64 = c := by rw [List.take_append_of_le_length (by omega), List.take_of_length_le (by omega)]
  have hbe : beginOk (c ++ rest) s = false := by
    rcases hb with hb | hb
    · exact begin_no_kind (by rw [htk]; exact hb)
    · exact begin_no_mark (by rw [htk]; exact hb)
  unfold Drv.scan
  rw [if_neg (by rw [hok]; simp)]
  simp only
  rw [hrd]
  simp only [ne_eq, not_true_eq_false, if_false, Int.toNat_natCast]
  rw [scan_none hbe]
  simp [span]

theorem recsOf_at (l : List (List UInt8)) : ∀ (sr p : Nat), p < span l → ∃ i j, i < l.length ∧ p = span (l.take i) + j ∧ j < kOf (l.getD i []).length ∧ (recsOf l sr)[p]? = some (cellAt (l.getD i []) (sr + i) j) := by
  induction l with
  | nil => intro sr p h; simp [span] at h
  | cons s l ih =>
    intro sr p h
    rw [span_cons] at h
    by_cases hp : p < kOf s.length
    · refine ⟨0, p, by simp, by simp [span], by simpa using hp, ?_⟩
      rw [recsOf, List.getElem?_append_left (by rw [recCells_length]; exact hp)]
      simp [recCells, hp]
    · obtain ⟨i, j, h1, h2, h3, h4⟩ := ih (sr + 1) (p - kOf s.length) (by omega)
      refine ⟨i + 1, j, by simpa using h1, ?_, by simpa using h3, ?_⟩
      · rw [List.take_succ_cons, span_cons]; omega
      · rw [recsOf, List.getElem?_append_right (by rw [recCells_length]; omega), recCells_length, h4]
        simp only [List.getD_cons_succ]
        rw [show sr + 1 + i = sr + (i + 1) by omega]

set_option maxRecDepth 100000 in
/-- What a scan from a cell of a tape has, by a serial from m on: no error; and something just where a record began. -/
theorem OnTape.scanAt {cs : List (List UInt8)} {m sr : Nat} {all : List (List UInt8)} (h : OnTape cs m sr all) (p : Nat) (hp : p < 20) (s : Nat) (hs : m ≤ s) (h1 : 1 ≤ s) (h2 : s ≤ 16777215) :
    (Drv.scan ⟨cs, [], -1, false⟩ ⟨3, 20, (p : Nat), (s : Nat)⟩).2.2 = 0 ∧ ((Drv.scan ⟨cs, [], -1, false⟩ ⟨3, 20, (p : Nat), (s : Nat)⟩).1 ≠ [] → ∃ i, i < all.length ∧ p = span (all.take i)) := by
  have hok := h.tape (f := -1) (by omega) p (by omega) s (by omega)
  have hlen := h.length
  have hcell := h.cell
  refine ⟨?_, ?_⟩
  · unfold Drv.scan
    rw [if_neg (by rw [hok]; simp)]
    have hm : (⟨cs, [], -1, false⟩ : Drv).mayB = true := by
      unfold tapeOk at hok
      rw [Bool.and_eq_true] at hok
      exact hok.1
    have hrd : (Drv.read ⟨cs, [], -1, false⟩ (3 + (p : Nat)) (20 - (p : Nat))).2 = 0 := by
      unfold Drv.read Drv.there
      rw [if_neg (by rw [hm]; simp), if_neg (by
        rw [show (decide (0 ≤ (3 : Int) + (p : Nat) ∧ 0 ≤ (20 : Int) - (p : Nat) ∧ (3 : Int) + (p : Nat) ≤ (cs.length : Nat) ∧ (20 : Int) - (p : Nat) ≤ (cs.length : Nat) - ((3 : Int) + (p : Nat)))) = true by
          rw [decide_eq_true_iff]; omega]
        simp), if_neg (by simp)]
    simp only
    rw [if_neg (by rw [hrd]; simp)]
  · intro hne
    have hlt : 3 + p < cs.length := by omega
    have hc64 : cs[3 + p].length = 64 := hcell _ (List.getElem_mem hlt)
    obtain ⟨⟨pre, rest, post, e1, e2, e3, e4, hn⟩, hle, _, _⟩ := h
    have l1 := recsOf_length all sr
    by_cases hps : p < span all
    · obtain ⟨i, j, hi, hpi, hj, hat⟩ := recsOf_at all sr p hps
      have hc : cs[3 + p]? = some (cellAt (all.getD i []) (sr + i) j) := by
        rw [e3, List.append_assoc, List.getElem?_append_right (by omega), e1, show 3 + p - 3 = p by omega, List.append_assoc, List.getElem?_append_left (by omega), hat]
      by_cases hj0 : j = 0
      · subst hj0
        exact ⟨i, hi, by omega⟩
      · refine absurd ?_ hne
        rw [scan_nothing hok hlen hp hc (cellAt_length _ _ _) (.inl (by rw [cellAt_kind]; unfold kind; rw [if_neg hj0]; decide))]
    · refine absurd ?_ hne
      have hr : p - span all < rest.length := by omega
      have hc : cs[3 + p]? = some rest[p - span all] := by
        rw [e3, List.append_assoc, List.getElem?_append_right (by omega), e1, show 3 + p - 3 = p by omega, List.append_assoc, List.getElem?_append_right (by omega), l1, List.getElem?_append_left hr, List.getElem?_eq_getElem hr]
      have hce : cs[3 + p] = rest[p - span all] := by
        rw [List.getElem?_eq_getElem hlt] at hc
        injection hc
      have hnb := hn _ (List.getElem_mem hr)
      rw [scan_nothing hok hlen hp hc (by rw [← hce]; exact hc64) (hnb.imp id (fun h => by omega))]
set_option maxRecDepth 100000 in
/-- By a serial other than the first record's a tape has nothing. -/
theorem OnTape.scanOther {cs : List (List UInt8)} {m sr : Nat} {all : List (List UInt8)} (h : OnTape cs m sr all) (hne : all ≠ []) (s : Nat) (hs : s ≠ sr) (h1 : 1 ≤ s) (h2 : s ≤ 16777216) (hsr : sr ≤ 16777215) :
    Drv.scan ⟨cs, [], -1, false⟩ ⟨3, 20, 0, (s : Nat)⟩ = ([], ⟨3, 20, 0, (s : Nat)⟩, 0) := by
  have hok := h.tape (f := -1) (by omega) 0 (by omega) s (by omega)
  have hlen := h.length
  obtain ⟨⟨pre, rest, post, e1, e2, e3, e4, hn⟩, hle, _, _⟩ := h
  cases all with
  | nil => exact absurd rfl hne
  | cons x all =>
    have hk := kOf_pos x.length
    have hc : cs[3 + 0]? = some (cellAt x sr 0) := by
      rw [e3, List.append_assoc, List.getElem?_append_right (by omega), e1, show 3 + 0 - 3 = 0 by omega, recsOf, List.append_assoc, List.append_assoc, List.getElem?_append_left (by rw [recCells_length]; omega)]
      unfold recCells
      rw [List.getElem?_map, List.getElem?_range hk]
      rfl
    exact scan_nothing (p := 0) hok hlen (by omega) hc (cellAt_length _ _ _) (.inr (by rw [cellAt_mark, val_octs, Nat.mod_eq_of_lt (by omega)]; exact fun h => hs h.symm))

end Go.Proofs.Ytkapdmhjhbmdjaa
