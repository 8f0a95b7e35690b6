/-
  The walks through disk.New and disk.Fuel.
-/
import Derived.Test.YtkapdmhjhbmdjaaDskFlush
import Derived.Test.YtkapdmhjhbmdjaaShelf
namespace Go.Proofs.Ytkapdmhjhbmdjaa
open Go.RowKit

theorem blank_eq : (⟨(Lib.repeatL (⟨#[0]⟩ : ByteArray).data.toList 64).toArray⟩ : ByteArray) = bs blank := by decide

theorem repeat_blank (w : World) : Calls Try.prog 75 #[.string ⟨#[0]⟩, .int .i64 64] w fun e w' => e = .returned (.string (bs blank)) ∧ Below w.heap.size w w' := by
  have h := Try.strings_Repeat_main ⟨#[0]⟩ 64 w (by decide) (by decide) (by decide) (by decide)
  rw [blank_eq] at h
  exact h

theorem new_step (n k : Nat) (h : k < n) : (strVals (List.replicate k blank ++ List.replicate (n - k) [])).set k (.string (bs blank)) = strVals (List.replicate (k + 1) blank ++ List.replicate (n - (k + 1)) []) := by
  rw [strVals_set]
  congr 1
  rw [List.set_append_right _ _ (by simp), List.length_replicate, Nat.sub_self, show n - k = (n - (k + 1)) + 1 by omega, List.replicate_succ (n := n - (k + 1)), List.set_cons_zero, List.replicate_succ' (n := k), List.append_assoc]
  rfl

set_option maxRecDepth 100000 in
set_option maxHeartbeats 1600000 in
theorem new_run (n : Nat) (w : World) (h1 : 1 ≤ n) (h6 : n ≤ 6000) :
    Calls Try.prog 33 #[.int .i64 (n : Int)] w fun e w' => ∃ v, e = .returned (.tuple #[v, .int .i64 0]) ∧ IsDrive w' v ⟨List.replicate n blank, [], -1, false⟩ ∧ Below w.heap.size w w' := by
  obtain ⟨i0, hi, hz0, hz1, hz2⟩ := info_parts info_str
  obtain ⟨sb, hsb⟩ : ∃ sb, bs blank = sb := ⟨_, rfl⟩
  have HR := hide (fun w => repeat_blank w)
  rw [hsb] at HR
  have HSB := hide hsb
  clear hsb
  go_enter Try.func33, Try.ntmps33
  go_wp2_with fail
  refine (HR.out _).mono ?_
  rintro e w1 ⟨rfl, hb1⟩
  have B0 := (Blk.new w [.slice none 0 0, .slice none 0 0, .int .i64 0, .bool false] 25).next hb1
  have hbw : Below w.heap.size w w1 := ((Below.refl _ _).alloc (Nat.le_refl _) _).trans (hb1.mono (by simp))
  clear hb1
  go_wp2_with (refine wpList_make_full _ rfl _ _ 22 rfl w1.heap.size 9 i0 (.string ⟨#[]⟩) 1 Try.underlying22 hi hz0 hz1 _ _ _ _ n rfl rfl rfl rfl ?c1 ?c2 ?c3 ?_)
  case c1 => rw [hz2]; omega
  case c2 => unfold maxLen; omega
  case c3 => simp
  intro w2 hown hgrow
  have C0 := B0.grown hgrow (by simp)
  have hbw2 := hbw.grown hgrow hbw.size (by simp)
  have hgw := B0.lt
  have hown : w2.ownsRow w1.heap.size 9 1 (.slice (some ⟨w1.heap.size, 0, none⟩) n n) n (strVals (List.replicate 0 blank ++ List.replicate (n - 0) [])) := by
    have e : (madeCells #[Value.string ⟨#[]⟩] n).toList = strVals (List.replicate 0 blank ++ List.replicate (n - 0) []) := by
      rw [toList_madeCells_one]
      simp [strVals]
      exact .inr rfl
    rwa [e] at hown
  clear hgrow B0 hbw
  go_wp2_with fail
  go_loopw [6, 19] (fun _ i wr => ∃ k : Nat, k ≤ n ∧ i = .int .i64 k ∧ wr.ownsRow w1.heap.size 9 1 (.slice (some ⟨w1.heap.size, 0, none⟩) n n) n (strVals (List.replicate k blank ++ List.replicate (n - k) [])) ∧ Below w1.heap.size w2 wr) (fun _ i _ => n - (intOf i).toNat)
  case atStart => exact ⟨0, Nat.zero_le _, rfl, hown, Below.refl _ _⟩
  case round =>
    obtain ⟨k, hk, rfl, ho, hbr⟩ := hrel
    have D0 := C0.below hbr hgw
    have hbwr := hbw2.trans (hbr.mono (Nat.le_of_lt hgw))
    by_cases hlt : k < n
    · have hs := ho.stored k (.string (bs blank))
      rw [new_step n k hlt, HSB.out] at hs
      have hs1 := hide hs.1
      obtain ⟨vc, hvc⟩ : ∃ v, wr.cell? ⟨w1.heap.size, k, none⟩ = some v := by
        rw [ho.cellAt k (by omega)]
        exact ⟨_, List.getElem?_eq_getElem (by rw [ho.1]; omega)⟩
      have hvf := ho.frozenAt k
      clear hs ho D0
      go_wp2_with fail
      go_roundw
      case rel => exact ⟨k + 1, by omega, by go_num, hs1.out, hbr.setCell (p := ⟨w1.heap.size, k, none⟩) (Nat.le_refl _) _⟩
      case measure => simp [intOf]; omega
    · obtain rfl : k = n := by omega
      rw [Nat.sub_self, List.replicate_zero, List.append_nil] at ho
      obtain ⟨p0, p1, p2, p3, p4, p5, p6, p7⟩ := D0.four
      clear D0
      go_wp2_with fail
      refine bodyPost_ret (v := .tuple #[.agg #[.slice (some ⟨w1.heap.size, 0, none⟩) k k, .slice none 0 0, .int .i64 (-1), .bool false], .int .i64 0]) (by simp [results, Try.results33, go_sem, p0, p1, p2, p3]) rfl ⟨_, rfl, ?_, ?_⟩
      · refine DriveAt.is ⟨⟨List.length_replicate, ?_⟩, ⟨rfl, (by intro x hx; cases hx), .inl rfl⟩, ⟨Nat.le_refl _, by omega⟩, by omega, rfl, rfl, by omega⟩
        have h2 : ∀ (wz : World) (b i : Nat) (v : Value), b < w1.heap.size → wz.ownsRow w1.heap.size 9 1 (.slice (some ⟨w1.heap.size, 0, none⟩) k k) k (strVals (List.replicate k blank)) → (wz.setCell ⟨b, i, none⟩ v).ownsRow w1.heap.size 9 1 (.slice (some ⟨w1.heap.size, 0, none⟩) k k) k (strVals (List.replicate k blank)) := fun wz b i v hlt h => ownsRow_setCell_below h hlt v
        exact row_of_own (h2 _ _ 3 _ hgw (h2 _ _ 2 _ hgw (h2 _ _ 1 _ hgw (h2 _ _ 0 _ hgw ho))))
      · exact below4 hbwr (Nat.le_refl _) _ _ _ _

set_option maxRecDepth 100000 in
set_option maxHeartbeats 800000 in
/-- disk.New. -/
theorem new_any (n : Int) (w : World) : Calls Try.prog 33 #[.int .i64 n] w fun e w' => ∃ v, e = .returned (.tuple #[v, .int .i64 (Drv.new n).2]) ∧ IsDrive w' v (Drv.new n).1 ∧ Below w.heap.size w w' := by
  by_cases hbad : n < 1 ∨ 6000 < n
  · have H : Hid (Drv.new n = (Drv.zero, 1)) := hide (if_pos hbad)
    rcases hbad with h | h
    all_goals
      go_enter Try.func33, Try.ntmps33
      go_wp2_with fail
      rw [H.out]
      refine bodyPost_ret (v := .tuple #[.agg #[.slice none 0 0, .slice none 0 0, .int .i64 0, .bool false], .int .i64 1]) (by simp [results, Try.results33, go_sem]) rfl ⟨_, rfl, zero_drive _, ?_⟩
      exact (Below.refl _ _).alloc (Nat.le_refl _) _
  · have H : Drv.new n = (⟨List.replicate n.toNat blank, [], -1, false⟩, 0) := if_neg hbad
    rw [H]
    obtain ⟨m, rfl⟩ := Int.eq_ofNat_of_zero_le (show 0 ≤ n by omega)
    exact new_run m w (by omega) (by omega)

set_option maxRecDepth 100000 in
set_option maxHeartbeats 1600000 in
theorem tell_run (a1 a2 : Option Addr) (n1 c1 n2 c2 : Nat) (fuel : Int) (off : Bool) (d : Drv) (n : Int) (w : World) (h : DriveAt w a1 n1 c1 a2 n2 c2 fuel off d) (hn : -9223372036854775808 ≤ n ∧ n < 9223372036854775808) :
    Calls Try.prog 22 #[.agg #[.slice a1 n1 c1, .slice a2 n2 c2, .int .i64 fuel, .bool off], .int .i64 n] w fun e w' => ∃ v, e = .returned (.tuple #[v, .int .i64 (d.tell n).2]) ∧ IsDrive w' v (d.tell n).1 ∧ Below w.heap.size w w' := by
  have HD := hide h
  have HM := hide (fun w => may_any (.agg #[.slice a1 n1 c1, .slice a2 n2 c2, .int .i64 fuel, .bool off]) d w)
  have hcase : (d.mayB = false ∧ d.tell n = (Drv.zero, 1)) ∨ (d.mayB = true ∧ n < -1 ∧ d.tell n = (Drv.zero, 1)) ∨ (d.mayB = true ∧ -1 ≤ n ∧ d.tell n = ({ d with fuel := n }, 0)) := by
    unfold Drv.tell
    cases hm : d.mayB with
    | false => exact .inl ⟨rfl, by simp⟩
    | true =>
      right
      rcases Int.lt_or_le n (-1) with h1 | h1
      · exact .inl ⟨rfl, h1, by simp [h1]⟩
      · exact .inr ⟨rfl, h1, by simp [show ¬ n < -1 by omega]⟩
  have hoff : d.off = off := h.off_eq
  have hN := hide hn
  clear h
  rcases hcase with ⟨hm, ht⟩ | ⟨hm, hlt, ht⟩ | ⟨hm, hge, ht⟩
  all_goals
    rw [hm] at HM
    have HT := hide ht
    clear hm ht
    have HO := hide hoff
    clear hoff
    go_enter Try.func22, Try.ntmps22
    go_wp2_with fail
    refine (HM.out _ ((HD.out.below (((Below.refl _ _).alloc (Nat.le_refl _) _).alloc (by simp) _)).is)).mono ?_
    rintro e w1 ⟨rfl, hb1⟩
    obtain ⟨B0, B1⟩ := two_boxes w [.slice a1 n1 c1, .slice a2 n2 c2, .int .i64 fuel, .bool off] [.slice none 0 0, .slice none 0 0, .int .i64 0, .bool false] 25
    obtain ⟨p0, p1, p2, p3, p4, p5, p6, p7⟩ := (B0.next hb1).four
    obtain ⟨q0, q1, q2, q3, q4, q5, q6, q7⟩ := (B1.next hb1).four
    have hbw : Below w.heap.size w w1 := (((Below.refl _ _).alloc (Nat.le_refl _) _).alloc (by simp) _).trans (hb1.mono (by simp; omega))
    clear B0 B1 hb1
    go_wp2_with fail
    rw [HT.out]
  · refine bodyPost_ret (v := .tuple #[.agg #[.slice none 0 0, .slice none 0 0, .int .i64 0, .bool false], .int .i64 1]) (by simp [results, Try.results22, go_sem, q0, q1, q2, q3]) rfl ⟨_, rfl, zero_drive _, below4 hbw (Nat.le_succ _) _ _ _ _⟩
  · refine bodyPost_ret (v := .tuple #[.agg #[.slice none 0 0, .slice none 0 0, .int .i64 0, .bool false], .int .i64 1]) (by simp [results, Try.results22, go_sem, q0, q1, q2, q3]) rfl ⟨_, rfl, zero_drive _, below4 hbw (Nat.le_succ _) _ _ _ _⟩
  · refine bodyPost_ret (v := .tuple #[.agg #[.slice a1 n1 c1, .slice a2 n2 c2, .int .i64 n, .bool off], .int .i64 0]) (by simp [results, Try.results22, go_sem, q0, q1, q2, q3]) rfl ⟨_, rfl, ?_, below4 (hbw.setCell (p := ⟨w.heap.size, 2, none⟩) (Nat.le_refl _) _) (Nat.le_succ _) _ _ _ _⟩
    have := (HD.out.turn (below4 (hbw.setCell (p := ⟨w.heap.size, 2, none⟩) (Nat.le_refl _) (.int .i64 n)) (Nat.le_succ _) (.slice a1 n1 c1) (.slice a2 n2 c2) (.int .i64 n) (.bool off)) n off hN.out).is
    rw [← HO.out] at this ⊢
    exact this

/-- disk.Fuel. -/
theorem tell_any (v : Value) (d : Drv) (n : Int) (w : World) (h : IsDrive w v d) (hn : -9223372036854775808 ≤ n ∧ n < 9223372036854775808) : Calls Try.prog 22 #[v, .int .i64 n] w fun e w' => ∃ v', e = .returned (.tuple #[v', .int .i64 (d.tell n).2]) ∧ IsDrive w' v' (d.tell n).1 ∧ Below w.heap.size w w' := by
  obtain ⟨a1, n1, c1, a2, n2, c2, fuel, off, rfl, hd⟩ := h
  exact tell_run a1 a2 n1 c1 n2 c2 fuel off d n w hd hn

end Go.Proofs.Ytkapdmhjhbmdjaa
