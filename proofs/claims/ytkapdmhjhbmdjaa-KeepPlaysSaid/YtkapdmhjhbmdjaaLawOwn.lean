/-
  The walk through the statements' own of layer 17.
-/
import Derived.Test.YtkapdmhjhbmdjaaRefWrite
import Derived.Test.YtkapdmhjhbmdjaaLawDsk
namespace Go.Proofs.Ytkapdmhjhbmdjaa
open Go.RowKit

set_option maxRecDepth 100000 in
set_option maxHeartbeats 3200000 in
/-- own: the same drive, in lists of its own. -/
theorem lawown_any (v : Value) (d : Drv) (w : World) (h : IsDrive w v d) (hn1 : d.cells.length ≤ 10000) (hn2 : d.queue.length ≤ 10000) : Calls Try.prog 21 #[v] w fun e w' => ∃ v', e = .returned v' ∧ IsDrive w' v' d ∧ Below w.heap.size w w' := by
  obtain ⟨a1, n1, c1, a2, n2, c2, fuel, off, rfl, hd⟩ := h
  obtain ⟨i0, hi0⟩ := info_parts info_str
  have HI0 := hide hi0
  obtain ⟨i1, hi1⟩ := info_parts info_wait
  have HI1 := hide hi1
  have HD := hide hd
  have HL1 := hide hd.cells.len
  have HL2 := hide hd.queue.len
  rw [hd.cells.len] at hn1
  rw [hd.queue.len] at hn2
  unfold drvVal
  clear hd hi0 hi1
  obtain ⟨B0, B1⟩ := two_boxes w [.slice a1 n1 c1, .slice a2 n2 c2, .int .i64 fuel, .bool off] [.slice none 0 0, .slice none 0 0, .int .i64 0, .bool false] 25
  obtain ⟨W2, hW2⟩ : ∃ W2, (w.alloc (.cells #[.slice a1 n1 c1, .slice a2 n2 c2, .int .i64 fuel, .bool off] 25)).alloc (.cells #[.slice none 0 0, .slice none 0 0, .int .i64 0, .bool false] 25) = W2 := ⟨_, rfl⟩
  rw [hW2] at B0 B1
  have hb2 : Below w.heap.size w W2 := by rw [← hW2]; exact ((Below.refl _ _).alloc (Nat.le_refl _) _).alloc (by simp) _
  have hs2 : W2.heap.size = w.heap.size + 2 := by rw [← hW2]; simp
  have C0 := B0.alloc (.cells #[] 9)
  have C1 := B1.alloc (.cells #[] 9)
  have hE := Blk.new W2 [] 9
  have hb3 := hb2.alloc (by omega) (.cells #[] 9)
  have hrow1 := HD.out.cells.row.below hb3
  obtain ⟨p0, p1, p2, p3, p4, p5, p6, p7⟩ := B0.four
  have HS2 := hide hs2
  have hlt0 : w.heap.size < W2.heap.size := B0.lt
  clear hs2
  go_enter Try.func21, Try.ntmps21
  go_wp2_with (at_builtin; refine wpList_app rfl (.tmp 3) (.tmp 5) 22 rfl W2.heap.size 9 i0 (.string ⟨#[]⟩) 1 16 Try.underlying22 HI0.out.1 HI0.out.2.1 HI0.out.2.2.1 HI0.out.2.2.2 rfl (by decide) _ 0 [] rfl (own_empty hE (Nat.le_refl _)) a1 n1 c1 (strVals d.cells) rfl (by rw [strVals_length, HL1.out, Nat.mul_one]) hrow1 (strVals_one _) (by unfold maxLen; omega) (by omega) (by simp) ?_)
  intro v3 w3 hown3 hg3 hob3
  change World.grownBy _ w3 (Value.ownBlock (Value.slice (some ⟨_, 0, none⟩) 0 0)) at hg3
  have D0 := C0.grown hg3 (by simp [Value.ownBlock]; omega)
  have D1 := C1.grown hg3 (by simp [Value.ownBlock]; have := HS2.out; omega)
  have hb4 := grown_below hb3 (by simp; omega) hg3 (by simp [Value.ownBlock]; omega)
  obtain ⟨a3, c3, rfl, hc3, hm3, hr3, hl3⟩ := own_form hown3
  have HO3 := hide hown3
  have HR3 := hide (And.intro hc3 hm3)
  obtain ⟨q0, q1, q2, q3, q4, q5, q6, q7⟩ := D0.four
  have hlt3 : w.heap.size < w3.heap.size := D0.lt
  clear hW2 hg3 hob3 hown3 hc3 hm3 hr3 hl3 C0 C1 B0 B1 hE p0 p1 p2 p3 p4 p5 p6 p7 hrow1
  obtain ⟨W4, hW4⟩ : ∃ W4, w3.setCell ⟨w.heap.size, 0, none⟩ (.slice a3 n1 c3) = W4 := ⟨_, rfl⟩
  have E0 := D0.set 0 (.slice a3 n1 c3)
  have E1 := D1.other (a := ⟨w.heap.size, 0, none⟩) (by simp) (.slice a3 n1 c3)
  have HO4 := hide (ownsRow_setCell_below (a := ⟨w.heap.size, 0, none⟩) HO3.out hlt0 (.slice a3 n1 c3))
  have hb5 := hb4.setCell (p := ⟨w.heap.size, 0, none⟩) (Nat.le_refl _) (.slice a3 n1 c3)
  rw [hW4] at E0 E1 HO4 hb5
  simp only [List.set_cons_zero] at E0
  have hs4 : W4.heap.size = w3.heap.size := by rw [← hW4]; simp
  have F0 := E0.alloc (.cells #[] 47)
  have F1 := E1.alloc (.cells #[] 47)
  have hE2 := Blk.new W4 [] 47
  have hb6 := hb5.alloc (by omega) (.cells #[] 47)
  have hrow2 := HD.out.queue.row.below hb6
  have hlt4 : w.heap.size < W4.heap.size := E0.lt
  have hlt41 : w.heap.size + 1 < W4.heap.size := E1.lt
  obtain ⟨r0, r1, r2, r3, r4, r5, r6, r7⟩ := E0.four
  have HS4 := hide hs4
  clear hs4 D0 D1 hb4 hb3 hb2
  go_wp2_with (at_builtin; refine wpList_app rfl (.tmp 8) (.tmp 10) 23 rfl W4.heap.size 47 i1 (.agg #[.int .i64 0, .string ⟨#[]⟩]) 2 24 Try.underlying23 HI1.out.1 HI1.out.2.1 HI1.out.2.2.1 HI1.out.2.2.2 rfl (by decide) _ 0 [] rfl (own_empty hE2 (Nat.le_refl _)) a2 n2 c2 (waitVals d.queue) rfl (by rw [waitVals_length, HL2.out]) hrow2 (waitVals_one _) (by unfold maxLen; omega) (by omega) (by simp) ?_)
  intro v5 w5 hown5 hg5 hob5
  change World.grownBy _ w5 (Value.ownBlock (Value.slice (some ⟨_, 0, none⟩) 0 0)) at hg5
  have G0 := F0.grown hg5 (by simp [Value.ownBlock]; omega)
  have G1 := F1.grown hg5 (by simp [Value.ownBlock]; have := E1.lt; omega)
  have hb7 := grown_below hb6 (by simp; omega) hg5 (by simp [Value.ownBlock]; omega)
  have HO5 := hide (World.ownsRow.kept (HO4.out.alloc (.cells #[] 47)) hg5 (.inr (by
    intro e
    have := (HO4.out.lt _ e).2
    simp at this)))
  obtain ⟨a5, c5, rfl, hc5, hm5, hr5, hl5⟩ := own_form hown5
  have HO6 := hide hown5
  have HR5 := hide (And.intro hc5 hm5)
  obtain ⟨s0, s1, s2, s3, s4, s5, s6, s7⟩ := G0.four
  obtain ⟨t0, t1, t2, t3, t4, t5, t6, t7⟩ := G1.four
  clear hW4 hg5 hob5 hown5 hc5 hm5 hr5 hl5 F0 F1 E0 E1 hE2 r0 r1 r2 r3 r4 r5 r6 r7 q0 q1 q2 q3 q4 q5 q6 q7 hrow2
  go_wp2_with fail
  refine bodyPost_ret (v := .agg #[.slice a3 n1 c3, .slice a5 n2 c5, .int .i64 fuel, .bool off]) (by simp [results, Try.results21, go_sem, t0, t1, t2, t3]) rfl ⟨_, rfl, ?_, ?_⟩
  · refine DriveAt.is ⟨⟨HL1.out, ?_⟩, ⟨HL2.out, HD.out.queue.range, ?_⟩, HR3.out, HR5.out, HD.out.fuel_eq, HD.out.off_eq, HD.out.range⟩
    · exact own_row (ownsRow4 (ownsRow_setCell_below (a := ⟨w.heap.size, 1, none⟩) HO5.out (by simp; have := HS2.out; omega) _) (by have := HS2.out; omega) _ _ _ _)
    · exact own_row (ownsRow4 (ownsRow_setCell_below (a := ⟨w.heap.size, 1, none⟩) HO6.out (by simp; omega) _) (by omega) _ _ _ _)
  · exact below4 (hb7.setCell (p := ⟨w.heap.size, 1, none⟩) (Nat.le_refl _) _) (Nat.le_succ _) _ _ _ _

end Go.Proofs.Ytkapdmhjhbmdjaa
