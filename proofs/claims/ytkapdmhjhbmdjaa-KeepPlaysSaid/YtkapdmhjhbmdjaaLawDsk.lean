/-
  The walks through the statements' small functions of layer 17: octets.
-/
import Derived.Test.YtkapdmhjhbmdjaaDskBase
import Derived.Test.YtkapdmhjhbmdjaaBlk
namespace Go.Proofs.Ytkapdmhjhbmdjaa
open Go.RowKit

theorem bs_take (l : List UInt8) (n : Nat) : bs (l.take n) = (bs l).extract 0 n := by
  have e : ((bs l).extract 0 n).data.toList = l.take n := by
    simp only [bs, ByteArray.data_extract, Array.toList_extract, List.extract_eq_take_drop, List.drop_zero, Nat.sub_zero]
  rw [← e]; rfl

set_option maxRecDepth 100000 in
set_option maxHeartbeats 400000 in
theorem octets_any (l : List UInt8) (w : World) (hl : l.length < 9223372036854775808) : Calls Try.prog 28 #[.string (bs l)] w fun e w' => e = .returned (.string (bs (l.take 640))) ∧ Below w.heap.size w w' := by
  have hb := bs_take l 640
  have hsz : (bs l).size = l.length := bs_size l
  have hle : l.length ≤ 640 → bs (l.take 640) = bs l := fun h => by rw [List.take_of_length_le h]
  obtain ⟨s, hs⟩ : ∃ s, bs l = s := ⟨_, rfl⟩
  rw [hs] at hb hsz hle
  rw [hs]
  rw [← hsz] at hle hl
  have HB := hide hb
  have HL := hide hle
  clear hb hsz hle hs
  by_cases h : s.size ≤ 640
  · rw [HL.out h]
    go_enter Try.func28, Try.ntmps28
    go_wp2_with fail
    go_ret
    exact ⟨rfl, Below.refl _ _⟩
  · rw [HB.out]
    have h2 : (640 : Int) < (s.size : Int) := by omega
    clear h
    go_enter Try.func28, Try.ntmps28
    go_wp2_with fail
    go_ret
    exact ⟨rfl, Below.refl _ _⟩

theorem Row.cut {w : World} {ao : Option Addr} {vs : List Value} (h : Row w ao vs) (k : Nat) : Row w ao (vs.take k) := by
  rcases h with rfl | ⟨b, off, e, hc⟩
  · exact .inl (by simp)
  · refine .inr ⟨b, off, e, fun j v hj => hc j v ?_⟩
    rw [List.getElem?_take] at hj
    split at hj
    · exact hj
    · cases hj
theorem Strs.cut {w : World} {ao : Option Addr} {n : Nat} {xs : List (List UInt8)} (h : Strs w ao n xs) {k : Nat} (hk : k ≤ n) : Strs w ao k (xs.take k) := by
  refine ⟨by rw [List.length_take, h.len]; omega, ?_⟩
  have := h.row.cut k
  unfold strVals at this ⊢
  rwa [List.map_take]
theorem waitVals_take (q : List Wt) : ∀ k, waitVals (q.take k) = (waitVals q).take (k * 2) := by
  induction q with
  | nil => intro k; simp [waitVals]
  | cons x q ih =>
    intro k
    cases k with
    | zero => simp [waitVals]
    | succ k =>
      rw [List.take_succ_cons]
      have e1 : waitVals (x :: q.take k) = [Value.int .i64 x.pos, Value.string (bs x.s)] ++ waitVals (q.take k) := rfl
      have e2 : waitVals (x :: q) = [Value.int .i64 x.pos, Value.string (bs x.s)] ++ waitVals q := rfl
      rw [e1, e2, ih, show (k + 1) * 2 = k * 2 + 1 + 1 by omega]
      rfl
theorem Waits.cut {w : World} {ao : Option Addr} {n : Nat} {q : List Wt} (h : Waits w ao n q) {k : Nat} (hk : k ≤ n) : Waits w ao k (q.take k) := by
  refine ⟨by rw [List.length_take, h.len]; omega, fun x hx => h.range x (List.mem_of_mem_take hx), ?_⟩
  rw [waitVals_take]
  exact h.row.cut _

/-- What the statements look at of a drive. -/
def fewN (n : Nat) : Nat := if 40 < n ∧ n ≤ 6000 then 40 else if 6001 < n then 6001 else n
def Drv.few (d : Drv) : Drv := ⟨d.cells.take (fewN d.cells.length), d.queue.take 80, d.fuel, d.off⟩

theorem few_cases (n : Nat) : (40 < n ∧ n ≤ 6000 ∧ fewN n = 40) ∨ (6001 < n ∧ fewN n = 6001) ∨ (n ≤ 40 ∧ fewN n = n) ∨ (n = 6001 ∧ fewN n = n) := by
  unfold fewN
  by_cases h1 : 40 < n ∧ n ≤ 6000
  · exact .inl ⟨h1.1, h1.2, by rw [if_pos h1]⟩
  · rw [if_neg h1]
    by_cases h2 : 6001 < n
    · exact .inr (.inl ⟨h2, by rw [if_pos h2]⟩)
    · rw [if_neg h2]
      by_cases h3 : n ≤ 40
      · exact .inr (.inr (.inl ⟨h3, rfl⟩))
      · exact .inr (.inr (.inr ⟨by omega, rfl⟩))
theorem few_branch (v : Value) (a1 a2 : Option Addr) (n1 c1 n2 c2 : Nat) (fuel : Int) (off : Bool) (w w' : World) (d : Drv) (h : DriveAt w a1 n1 c1 a2 n2 c2 fuel off d) (hb : Below w.heap.size w w') (m1 m2 : Nat) (h1 : fewN n1 = m1) (h2 : min 80 n2 = m2) (hv : v = .agg #[.slice a1 m1 c1, .slice a2 m2 c2, .int .i64 fuel, .bool off]) : IsDrive w' v d.few := by
  have hm1 : m1 ≤ n1 := by rw [← h1]; unfold fewN; split <;> (try split) <;> omega
  have hm2 : m2 ≤ n2 := by omega
  refine ⟨a1, m1, c1, a2, m2, c2, fuel, off, hv, ?_, ?_, ⟨by have := h.room1; omega, h.room1.2⟩, ⟨by have := h.room2; omega, h.room2.2⟩, h.fuel_eq, h.off_eq, h.range⟩
  · unfold Drv.few
    simp only
    rw [h.cells.len, h1]
    exact (h.cells.below hb).cut hm1
  · unfold Drv.few
    simp only
    have e : d.queue.take 80 = d.queue.take m2 := by
      by_cases hq : n2 ≤ 80
      · rw [show m2 = n2 by omega, List.take_of_length_le (by rw [h.queue.len]; omega), List.take_of_length_le (by rw [h.queue.len]; omega)]
      · rw [show m2 = 80 by omega]
    rw [e]
    exact (h.queue.below hb).cut hm2

set_option maxRecDepth 100000 in
set_option maxHeartbeats 3200000 in
theorem few_any (v : Value) (d : Drv) (w : World) (h : IsDrive w v d) : Calls Try.prog 20 #[v] w fun e w' => ∃ v', e = .returned v' ∧ IsDrive w' v' d.few ∧ Below w.heap.size w w' := by
  obtain ⟨a1, n1, c1, a2, n2, c2, fuel, off, rfl, hd⟩ := h
  have HD := hide hd
  have HB := hide (fun (v : Value) (w' : World) (hb : Below w.heap.size w w') (m1 m2 : Nat) h1 h2 hv => few_branch v a1 a2 n1 c1 n2 c2 fuel off w w' d hd hb m1 m2 h1 h2 hv)
  have r1 := hd.room1.1
  have r2 := hd.room2.1
  have R1 := hide hd.room1
  have R2 := hide hd.room2
  have s1 : 0 < n1 → ∃ b o, a1 = some ⟨b, o, none⟩ := by
    intro hn
    rcases hd.cells.row with h0 | ⟨b, off, e, _⟩
    · have := strVals_length d.cells; rw [h0, hd.cells.len] at this; simp at this; omega
    · exact ⟨b, off, e⟩
  have s2 : 0 < n2 → ∃ b o, a2 = some ⟨b, o, none⟩ := by
    intro hn
    rcases hd.queue.row with h0 | ⟨b, off, e, _⟩
    · have := waitVals_length d.queue; rw [h0, hd.queue.len] at this; simp at this; omega
    · exact ⟨b, off, e⟩
  clear hd
  unfold drvVal
  rcases few_cases n1 with ⟨hA1, hA2, hf⟩ | ⟨hA1, hf⟩ | ⟨hA1, hf⟩ | ⟨hA1, hf⟩
  · have hF := hide hf
    clear hf
    obtain ⟨b, o, rfl⟩ := s1 (by omega)
    by_cases hq : 80 < n2
    · obtain ⟨b2, o2, rfl⟩ := s2 (by omega)
      have hG : Hid (min 80 n2 = 80) := hide (by omega)
      clear s1 s2
      go_enter Try.func20, Try.ntmps20
      go_wp2_with fail
      refine bodyPost_ret (v := .agg #[.slice (some ⟨b, o, none⟩) 40 c1, .slice (some ⟨b2, o2, none⟩) 80 c2, .int .i64 fuel, .bool off]) (by simp [results, Try.results20, go_sem]) rfl ⟨_, rfl, HB.out _ _ ?_ _ _ hF.out hG.out rfl, ?_⟩
      all_goals exact (((Below.refl _ _).alloc (Nat.le_refl _) _).alloc (by simp) _)
    · have hG : Hid (min 80 n2 = n2) := hide (by omega)
      clear s1 s2
      go_enter Try.func20, Try.ntmps20
      go_wp2_with fail
      refine bodyPost_ret (v := .agg #[.slice (some ⟨b, o, none⟩) 40 c1, .slice a2 n2 c2, .int .i64 fuel, .bool off]) (by simp [results, Try.results20, go_sem]) rfl ⟨_, rfl, HB.out _ _ ?_ _ _ hF.out hG.out rfl, ?_⟩
      all_goals exact (((Below.refl _ _).alloc (Nat.le_refl _) _).alloc (by simp) _)
  · have hF := hide hf
    clear hf
    obtain ⟨b, o, rfl⟩ := s1 (by omega)
    have hA2 : ¬ (n1 : Int) ≤ 6000 := by omega
    by_cases hq : 80 < n2
    · obtain ⟨b2, o2, rfl⟩ := s2 (by omega)
      have hG : Hid (min 80 n2 = 80) := hide (by omega)
      clear s1 s2
      go_enter Try.func20, Try.ntmps20
      go_wp2_with fail
      refine bodyPost_ret (v := .agg #[.slice (some ⟨b, o, none⟩) 6001 c1, .slice (some ⟨b2, o2, none⟩) 80 c2, .int .i64 fuel, .bool off]) (by simp [results, Try.results20, go_sem]) rfl ⟨_, rfl, HB.out _ _ ?_ _ _ hF.out hG.out rfl, ?_⟩
      all_goals exact (((Below.refl _ _).alloc (Nat.le_refl _) _).alloc (by simp) _)
    · have hG : Hid (min 80 n2 = n2) := hide (by omega)
      clear s1 s2
      go_enter Try.func20, Try.ntmps20
      go_wp2_with fail
      refine bodyPost_ret (v := .agg #[.slice (some ⟨b, o, none⟩) 6001 c1, .slice a2 n2 c2, .int .i64 fuel, .bool off]) (by simp [results, Try.results20, go_sem]) rfl ⟨_, rfl, HB.out _ _ ?_ _ _ hF.out hG.out rfl, ?_⟩
      all_goals exact (((Below.refl _ _).alloc (Nat.le_refl _) _).alloc (by simp) _)
  · have hF := hide hf
    clear hf
    by_cases hq : 80 < n2
    · obtain ⟨b2, o2, rfl⟩ := s2 (by omega)
      have hG : Hid (min 80 n2 = 80) := hide (by omega)
      clear s1 s2
      go_enter Try.func20, Try.ntmps20
      go_wp2_with fail
      refine bodyPost_ret (v := .agg #[.slice a1 n1 c1, .slice (some ⟨b2, o2, none⟩) 80 c2, .int .i64 fuel, .bool off]) (by simp [results, Try.results20, go_sem]) rfl ⟨_, rfl, HB.out _ _ ?_ _ _ hF.out hG.out rfl, ?_⟩
      all_goals exact (((Below.refl _ _).alloc (Nat.le_refl _) _).alloc (by simp) _)
    · have hG : Hid (min 80 n2 = n2) := hide (by omega)
      clear s1 s2
      go_enter Try.func20, Try.ntmps20
      go_wp2_with fail
      refine bodyPost_ret (v := .agg #[.slice a1 n1 c1, .slice a2 n2 c2, .int .i64 fuel, .bool off]) (by simp [results, Try.results20, go_sem]) rfl ⟨_, rfl, HB.out _ _ ?_ _ _ hF.out hG.out rfl, ?_⟩
      all_goals exact (((Below.refl _ _).alloc (Nat.le_refl _) _).alloc (by simp) _)
  · have hF := hide hf
    clear hf
    have hA2 : ¬ (n1 : Int) ≤ 6000 := by omega
    have hA3 : (n1 : Int) = 6001 := by omega
    by_cases hq : 80 < n2
    · obtain ⟨b2, o2, rfl⟩ := s2 (by omega)
      have hG : Hid (min 80 n2 = 80) := hide (by omega)
      clear s1 s2
      go_enter Try.func20, Try.ntmps20
      go_wp2_with fail
      refine bodyPost_ret (v := .agg #[.slice a1 n1 c1, .slice (some ⟨b2, o2, none⟩) 80 c2, .int .i64 fuel, .bool off]) (by simp [results, Try.results20, go_sem]; omega) rfl ⟨_, rfl, HB.out _ _ ?_ _ _ hF.out hG.out rfl, ?_⟩
      all_goals exact (((Below.refl _ _).alloc (Nat.le_refl _) _).alloc (by simp) _)
    · have hG : Hid (min 80 n2 = n2) := hide (by omega)
      clear s1 s2
      go_enter Try.func20, Try.ntmps20
      go_wp2_with fail
      refine bodyPost_ret (v := .agg #[.slice a1 n1 c1, .slice a2 n2 c2, .int .i64 fuel, .bool off]) (by simp [results, Try.results20, go_sem]; omega) rfl ⟨_, rfl, HB.out _ _ ?_ _ _ hF.out hG.out rfl, ?_⟩
      all_goals exact (((Below.refl _ _).alloc (Nat.le_refl _) _).alloc (by simp) _)

end Go.Proofs.Ytkapdmhjhbmdjaa
