/-
  The walks through disk.New and disk.Fuel.
-/
import Derived.Test.YtogonkoeginoaaaGreatDoorDskFlush
import Derived.Test.YtogonkoeginoaaaGreatDoorShelf
namespace Go.Proofs.YtogonkoeginoaaaGreatDoor
open Go.RowKit

theorem blank_eq : (⟨(Lib.repeatL (⟨#[0]⟩ : ByteArray).data.toList 64).toArray⟩ : ByteArray) = bs blank := by decide

theorem repeat_blank (w : World) : Calls Tryz.prog 46 #[.string ⟨#[0]⟩, .int .i64 64] w fun e w' => e = .returned (.string (bs blank)) ∧ Below w.heap.size w w' := by
  have h := Tryz.strings_Repeat_main ⟨#[0]⟩ 64 w (by decide) (by decide) (by decide) (by decide)
  rw [blank_eq] at h
  exact h

theorem new_step (n k : Nat) (h : k < n) : (strVals (List.replicate k blank ++ List.replicate (n - k) [])).set k (.string (bs blank)) = strVals (List.replicate (k + 1) blank ++ List.replicate (n - (k + 1)) []) := by
  rw [strVals_set]
  congr 1
  rw [List.set_append_right _ _ (by simp), List.length_replicate, Nat.sub_self, show n - k = (n - (k + 1)) + 1 by omega, List.replicate_succ (n := n - (k + 1)), List.set_cons_zero, List.replicate_succ' (n := k), List.append_assoc]
  rfl

set_option maxRecDepth 100000 in
set_option maxHeartbeats 1600000 in
theorem new_run (n : Nat) (w : World) (h1 : 1 ≤ n) (h6 : n ≤ 6000) :
    Calls Tryz.prog 19 #[.int .i64 (n : Int)] w fun e w' => ∃ v, e = .returned (.tuple #[v, .int .i64 0]) ∧ IsDrive w' v ⟨List.replicate n blank, [], -1, false⟩ ∧ Below w.heap.size w w' := by
  obtain ⟨i0, hi, hz0, hz1, hz2⟩ := info_parts info_str
  obtain ⟨sb, hsb⟩ : ∃ sb, bs blank = sb := ⟨_, rfl⟩
  have HR := hide (fun w => repeat_blank w)
  rw [hsb] at HR
  have HSB := hide hsb
  clear hsb
  go_enter Tryz.func19, Tryz.ntmps19
  go_wp2_with fail
  refine (HR.out _).mono ?_
  rintro e w1 ⟨rfl, hb1⟩
  have B0 := (Blk.new w [.slice none 0 0, .slice none 0 0, .int .i64 0, .bool false] 44).next hb1
  have hbw : Below w.heap.size w w1 := ((Below.refl _ _).alloc (Nat.le_refl _) _).trans (hb1.mono (by simp))
  clear hb1
  go_wp2_with (refine wpList_make_full _ rfl _ _ 32 rfl w1.heap.size 9 i0 (.string ⟨#[]⟩) 1 Tryz.underlying32 hi hz0 hz1 _ _ _ _ n rfl rfl rfl rfl ?c1 ?c2 ?c3 ?_)
  case c1 => rw [hz2]; omega
  case c2 => unfold maxLen; omega
  case c3 => simp
  intro w2 hown hgrow
  have C0 := B0.grown hgrow (by simp)
  have hbw2 := hbw.grown hgrow hbw.size (by simp)
  have hgw := B0.lt
  have hown : w2.ownsRow w1.heap.size 9 1 (.slice (some ⟨w1.heap.size, 0, none⟩) n n) n (strVals (List.replicate 0 blank ++ List.replicate (n - 0) [])) := by
    have e : (madeCells #[Value.string ⟨#[]⟩] n).toList = strVals (List.replicate 0 blank ++ List.replicate (n - 0) []) := by
      rw [toList_madeCells_one]
      simp [strVals]
      exact .inr rfl
    rwa [e] at hown
  clear hgrow B0 hbw
  go_wp2_with fail
  go_loopw [6, 19] (fun _ i wr => ∃ k : Nat, k ≤ n ∧ i = .int .i64 k ∧ wr.ownsRow w1.heap.size 9 1 (.slice (some ⟨w1.heap.size, 0, none⟩) n n) n (strVals (List.replicate k blank ++ List.replicate (n - k) [])) ∧ Below w1.heap.size w2 wr) (fun _ i _ => n - (intOf i).toNat)
  case atStart => exact ⟨0, Nat.zero_le _, rfl, hown, Below.refl _ _⟩
  case round =>
    obtain ⟨k, hk, rfl, ho, hbr⟩ := hrel
    have D0 := C0.below hbr hgw
    have hbwr := hbw2.trans (hbr.mono (Nat.le_of_lt hgw))
    by_cases hlt : k < n
    · have hs := ho.stored k (.string (bs blank))
      rw [new_step n k hlt, HSB.out] at hs
      have hs1 := hide hs.1
      obtain ⟨vc, hvc⟩ : ∃ v, wr.cell? ⟨w1.heap.size, k, none⟩ = some v := by
        rw [ho.cellAt k (by omega)]
        exact ⟨_, List.getElem?_eq_getElem (by rw [ho.1]; omega)⟩
      have hvf := ho.frozenAt k
      clear hs ho D0
      go_wp2_with fail
      go_roundw
      case rel => exact ⟨k + 1, by omega, by go_num, hs1.out, hbr.setCell (p := ⟨w1.heap.size, k, none⟩) (Nat.le_refl _) _⟩
      case measure => simp [intOf]; omega
    · obtain rfl : k = n := by omega
      rw [Nat.sub_self, List.replicate_zero, List.append_nil] at ho
      obtain ⟨p0, p1, p2, p3, p4, p5, p6, p7⟩ := D0.four
      clear D0
      go_wp2_with fail
      refine bodyPost_ret (v := .tuple #[.agg #[.slice (some ⟨w1.heap.size, 0, none⟩) k k, .slice none 0 0, .int .i64 (-1), .bool false], .int .i64 0]) (by simp [results, Tryz.results19, go_sem, p0, p1, p2, p3]) rfl ⟨_, rfl, ?_, ?_⟩
      · refine DriveAt.is ⟨⟨List.length_replicate, ?_⟩, ⟨rfl, (by intro x hx; cases hx), .inl rfl⟩, ⟨Nat.le_refl _, by omega⟩, by omega, rfl, rfl, by omega⟩
        have h2 : ∀ (wz : World) (b i : Nat) (v : Value), b < w1.heap.size → wz.ownsRow w1.heap.size 9 1 (.slice (some ⟨w1.heap.size, 0, none⟩) k k) k (strVals (List.replicate k blank)) → (wz.setCell ⟨b, i, none⟩ v).ownsRow w1.heap.size 9 1 (.slice (some ⟨w1.heap.size, 0, none⟩) k k) k (strVals (List.replicate k blank)) := fun wz b i v hlt h => ownsRow_setCell_below h hlt v
        exact row_of_own (h2 _ _ 3 _ hgw (h2 _ _ 2 _ hgw (h2 _ _ 1 _ hgw (h2 _ _ 0 _ hgw ho))))
      · exact below4 hbwr (Nat.le_refl _) _ _ _ _

set_option maxRecDepth 100000 in
set_option maxHeartbeats 800000 in
/-- disk.New. -/
theorem new_any (n : Int) (w : World) : Calls Tryz.prog 19 #[.int .i64 n] w fun e w' => ∃ v, e = .returned (.tuple #[v, .int .i64 (Drv.new n).2]) ∧ IsDrive w' v (Drv.new n).1 ∧ Below w.heap.size w w' := by
  by_cases hbad : n < 1 ∨ 6000 < n
  · have H : Hid (Drv.new n = (Drv.zero, 1)) := hide (if_pos hbad)
    rcases hbad with h | h
    all_goals
      go_enter Tryz.func19, Tryz.ntmps19
      go_wp2_with fail
      rw [H.out]
      refine bodyPost_ret (v := .tuple #[.agg #[.slice none 0 0, .slice none 0 0, .int .i64 0, .bool false], .int .i64 1]) (by simp [results, Tryz.results19, go_sem]) rfl ⟨_, rfl, zero_drive _, ?_⟩
      exact (Below.refl _ _).alloc (Nat.le_refl _) _
  · have H : Drv.new n = (⟨List.replicate n.toNat blank, [], -1, false⟩, 0) := if_neg hbad
    rw [H]
    obtain ⟨m, rfl⟩ := Int.eq_ofNat_of_zero_le (show 0 ≤ n by omega)
    exact new_run m w (by omega) (by omega)



end Go.Proofs.YtogonkoeginoaaaGreatDoor
