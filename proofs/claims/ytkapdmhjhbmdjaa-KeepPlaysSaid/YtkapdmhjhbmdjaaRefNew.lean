/-
  The walks through the document's Blank and New of layer 17, and the statements' All.
-/
import Derived.Test.YtkapdmhjhbmdjaaDskNew
import Derived.Test.YtkapdmhjhbmdjaaDskWrite
import Derived.Test.YtkapdmhjhbmdjaaApp
namespace Go.Proofs.Ytkapdmhjhbmdjaa
open Go.RowKit

theorem made_u8 (n : Nat) : (madeCells #[Value.int .u8 0] n).toList = byteCells (List.replicate n 0) := by
  rw [toList_madeCells_one]
  simp [byteCells]

set_option maxRecDepth 100000 in
set_option maxHeartbeats 400000 in
/-- Blank(1). -/
theorem blank_any (w : World) : Calls Try.prog 77 #[.int .i64 1] w fun e w' => e = .returned (.string (bs blank)) ∧ Below w.heap.size w w' := by
  obtain ⟨i0, hi, hz0, hz1, hz2⟩ := info_parts info_u8
  go_enter Try.func77, Try.ntmps77
  go_wp2_with (refine wpList_make_full _ rfl _ _ 57 rfl w.heap.size 5 i0 (.int .u8 0) 1 Try.underlying57 hi hz0 hz1 _ _ _ _ 64 rfl rfl rfl rfl ?c1 ?c2 ?c3 ?_)
  case c1 => rw [hz2]; decide
  case c2 => decide
  case c3 => exact Nat.le_refl _
  intro w1 hown hgrow
  rw [made_u8 64] at hown
  have hb : Below w.heap.size w w1 := (Below.refl _ _).grown hgrow (Nat.le_refl _) (by simp)
  have hcv := conv_own (P := Try.prog) (src := 57) (dst := 9) Try.underlying57 Try.underlying5 Try.underlying9 hown
  have e : bs (List.replicate 64 0) = bs blank := rfl
  rw [e] at hcv
  obtain ⟨s, hs⟩ : ∃ s, bs blank = s := ⟨_, rfl⟩
  rw [hs] at hcv
  have HS := hide hs
  clear hown e hs hgrow
  go_wp2_with fail
  go_ret
  rw [HS.out]
  exact ⟨rfl, hb⟩

/-- All(c, n). -/
theorem all_step (c : UInt8) (n k : Nat) (h : k < n) : (byteCells (List.replicate k c ++ List.replicate (n - k) 0)).set k (.int .u8 (c.toNat : Int)) = byteCells (List.replicate (k + 1) c ++ List.replicate (n - (k + 1)) 0) := by
  rw [byteCells_set]
  congr 1
  rw [List.set_append_right _ _ (by simp), List.length_replicate, Nat.sub_self, show n - k = (n - (k + 1)) + 1 by omega, List.replicate_succ (n := n - (k + 1)), List.set_cons_zero, List.replicate_succ' (n := k), List.append_assoc]
  rfl

set_option maxRecDepth 100000 in
set_option maxHeartbeats 800000 in
theorem all_any (c : UInt8) (n : Nat) (w : World) (hn : n ≤ 1000) : Calls Try.prog 34 #[.int .u8 (c.toNat : Int), .int .i64 (n : Int)] w fun e w' => e = .returned (.string (bs (List.replicate (64 * n) c))) ∧ Below w.heap.size w w' := by
  obtain ⟨i0, hi, hz0, hz1, hz2⟩ := info_parts info_u8
  obtain ⟨x, hx⟩ : ∃ x : Int, (c.toNat : Int) = x := ⟨_, rfl⟩
  have HX := hide hx
  rw [hx]
  clear hx
  obtain ⟨m, hm⟩ : ∃ m, 64 * n = m := ⟨_, rfl⟩
  have hm2 : m ≤ 64000 := by omega
  have hmi : (64 : Int) * (n : Int) = (m : Int) := by omega
  rw [hm]
  clear hm
  go_enter Try.func34, Try.ntmps34
  go_wp2_with (refine wpList_make_full _ rfl _ _ 57 rfl w.heap.size 5 i0 (.int .u8 0) 1 Try.underlying57 hi hz0 hz1 _ _ _ _ m rfl rfl ?c01 ?c02 ?c1 ?c2 ?c3 ?_)
  case c01 => first | rfl | exact hmi
  case c02 => first | rfl | exact hmi
  case c1 => rw [hz2]; omega
  case c2 => unfold maxLen; omega
  case c3 => exact Nat.le_refl _
  intro w1 hown hgrow
  rw [made_u8 m] at hown
  have hb : Below w.heap.size w w1 := (Below.refl _ _).grown hgrow (Nat.le_refl _) (by simp)
  have hg1 : w.heap.size < w1.heap.size := by have := (hown.lt w.heap.size rfl).2; omega
  have HI := hide hmi
  have hown0 : w1.ownsRow w.heap.size 5 1 (.slice (some ⟨w.heap.size, 0, none⟩) m m) m (byteCells (List.replicate 0 c ++ List.replicate (m - 0) 0)) := by simpa using hown
  clear hgrow hmi hown
  go_wp2_with fail
  go_loopw [6] (fun i wr => ∃ k : Nat, k ≤ m ∧ i = .int .i64 k ∧ wr.ownsRow w.heap.size 5 1 (.slice (some ⟨w.heap.size, 0, none⟩) m m) m (byteCells (List.replicate k c ++ List.replicate (m - k) 0)) ∧ Below w.heap.size w wr) (fun i _ => m - (intOf i).toNat)
  case atStart => exact ⟨0, Nat.zero_le _, rfl, hown0, hb⟩
  case round =>
    obtain ⟨k, hk, rfl, ho, hbr⟩ := hrel
    by_cases hlt : k < m
    · have hs := ho.stored k (.int .u8 (c.toNat : Int))
      rw [all_step c m k hlt, HX.out] at hs
      have hs1 := hide hs.1
      obtain ⟨vc, hvc⟩ : ∃ v, wr.cell? ⟨w.heap.size, k, none⟩ = some v := by
        rw [ho.cellAt k (by omega)]
        exact ⟨_, List.getElem?_eq_getElem (by rw [ho.1]; omega)⟩
      have hvf := ho.frozenAt k
      clear hs ho hown0
      go_wp2_with fail
      go_roundw
      case rel => exact ⟨k + 1, by omega, by go_num, hs1.out, hbr.setCell (p := ⟨w.heap.size, k, none⟩) (Nat.le_refl _) _⟩
      case measure => simp [intOf]; omega
    · obtain rfl : k = m := by omega
      rw [Nat.sub_self, List.replicate_zero, List.append_nil] at ho
      have hcv := conv_own (P := Try.prog) (src := 57) (dst := 9) Try.underlying57 Try.underlying5 Try.underlying9 ho
      obtain ⟨s, hs⟩ : ∃ s, bs (List.replicate k c) = s := ⟨_, rfl⟩
      rw [hs] at hcv
      have HS := hide hs
      clear ho hs hown0
      go_wp2_with fail
      go_ret
      rw [HS.out]
      exact ⟨rfl, hbr⟩

set_option maxRecDepth 100000 in
set_option maxHeartbeats 1600000 in
/-- The document's New. -/
theorem refnew_any (n : Nat) (w : World) (h6 : n ≤ 6000) : Calls Try.prog 38 #[.int .i64 (n : Int)] w fun e w' => ∃ v, e = .returned v ∧ IsDrive w' v ⟨List.replicate n blank, [], -1, false⟩ ∧ Below w.heap.size w w' := by
  obtain ⟨i0, hi, hz0, hz1, hz2⟩ := info_parts info_str
  obtain ⟨sb, hsb⟩ : ∃ sb, bs blank = sb := ⟨_, rfl⟩
  have HR := hide (fun w => blank_any w)
  rw [hsb] at HR
  have HSB := hide hsb
  clear hsb
  have HI := hide (And.intro hi (And.intro hz0 (And.intro hz1 hz2)))
  clear hi hz0 hz1 hz2
  obtain ⟨B0, B1⟩ := two_boxes w [.slice none 0 0, .slice none 0 0, .int .i64 0, .bool false] [.slice none 0 0, .slice none 0 0, .int .i64 (-1), .bool false] 25
  go_enter Try.func38, Try.ntmps38
  go_wp2_with fail
  go_loopw [4] (fun i wr => ∃ (k : Nat) (ao : Option Addr) (c : Nat), k ≤ n ∧ i = .int .i64 k ∧ Blk wr w.heap.size [.slice none 0 0, .slice none 0 0, .int .i64 0, .bool false] 25 ∧ Blk wr (w.heap.size + 1) [.slice ao k c, .slice none 0 0, .int .i64 (-1), .bool false] 25 ∧ wr.ownsRow (w.heap.size + 2) 9 1 (.slice ao k c) k (strVals (List.replicate k blank)) ∧ Below w.heap.size w wr) (fun i _ => n - (intOf i).toNat)
  case atStart => exact ⟨0, none, 0, Nat.zero_le _, rfl, B0, B1, World.ownsRow_nil _ _ _ _, (((Below.refl _ _).alloc (Nat.le_refl _) _).alloc (by simp) _)⟩
  case round =>
    obtain ⟨k, ao, c, hk, rfl, G0, G1, ho, hbr⟩ := hrel
    clear B0 B1
    by_cases hlt : k < n
    · obtain ⟨p0, p1, p2, p3, p4, p5, p6, p7⟩ := G1.four
      have hszr : w.heap.size + 2 ≤ wr.heap.size := by have := G1.lt; omega
      have HO := hide ho
      clear ho
      go_wp2_with fail
      go_region_law (first
        | (go_simp
           go_at_call 77
           refine (HR.out _).mono ?_
           rintro e w5 ⟨rfl, hb5⟩
           have hb5' : Below wr.heap.size wr w5 := below_undrew hb5
           clear hb5
           have H0 := G0.next hb5'
           have H1 := G1.next hb5'
           have HO5 := hide (own_below HO.out hb5')
           have hbr5 := chain hbr hb5'
           have hs5 := H1.lt
           have hs5' := H0.lt
           obtain ⟨q0, q1, q2, q3, q4, q5, q6, q7⟩ := H1.four)
        | (refine step_app rfl (.tmp 12) (.tmp 14) 22 rfl (w.heap.size + 2) 9 i0 (.string ⟨#[]⟩) 1 16 Try.underlying22 HI.out.1 HI.out.2.1 HI.out.2.2.1 HI.out.2.2.2 rfl (by decide) _ k _ rfl (HO5.out.alloc _) _ 1 1 [.string sb] rfl rfl (row_new _ _ _) (by simp [Value.oneCell']) (by unfold maxLen; omega) (by omega) (by have := hb5'.size; simp; omega) ?_
           intro v6 w6 hown6 hg6 hob6
           have I0 := (H0.alloc (.cells #[.string sb] 9)).grown hg6 (own_ne HO5.out (by omega))
           have I1 := (H1.alloc (.cells #[.string sb] 9)).grown hg6 (own_ne HO5.out (by omega))
           have hbr6 := grown_below (hbr5.alloc (by have := hbr5.size; omega) (.cells #[.string sb] 9)) (by have := hbr5.size; simp; omega) hg6 (fun k hk => by have := (HO5.out.lt k hk).1; omega)
           obtain ⟨a6, c6, rfl, hc6, hm6, hr6, hl6⟩ := own_form hown6
           obtain ⟨r0, r1, r2, r3, r4, r5, r6, r7⟩ := I1.four
           clear hm6 hr6 hl6 hob6 hg6 q0 q1 q2 q3 q4 q5 q6 q7))
      all_goals
        go_wp2_with fail
        go_roundw
        case rel =>
          have e : strVals (List.replicate k blank) ++ [.string sb] = strVals (List.replicate (k + 1) blank) := by
            rw [List.replicate_succ', strVals_append, ← HSB.out]; rfl
          rw [e] at hown6
          exact ⟨k + 1, a6, c6, by omega, by go_num, I0.other (a := ⟨w.heap.size + 1, 0, none⟩) (by simp) _, I1.set 0 _, ownsRow_setCell_below (a := ⟨w.heap.size + 1, 0, none⟩) hown6 (by simp) _, hbr6.setCell (p := ⟨w.heap.size + 1, 0, none⟩) (by simp) _⟩
        case measure => simp [intOf]; omega
    · obtain rfl : k = n := by omega
      obtain ⟨ao', c', e, hc', hm', hr', hl'⟩ := own_form ho
      injection e with e1 e2 e3
      subst e1; subst e3
      obtain ⟨p0, p1, p2, p3, p4, p5, p6, p7⟩ := G1.four
      obtain ⟨q0, q1, q2, q3, q4, q5, q6, q7⟩ := G0.four
      have HR' := hide hr'
      have HM' := hide hm'
      have HO' := hide ho
      clear hr' hl' hm' ho
      go_wp2_with fail
      refine bodyPost_ret (v := .agg #[.slice ao k c, .slice none 0 0, .int .i64 (-1), .bool false]) (by simp [results, Try.results38, go_sem, q0, q1, q2, q3]) rfl ⟨_, rfl, ?_, ?_⟩
      · refine DriveAt.is ⟨⟨List.length_replicate, ?_⟩, ⟨rfl, (by intro x hx; cases hx), .inl rfl⟩, ⟨hc', HM'.out⟩, by omega, rfl, rfl, by omega⟩
        exact own_row (ownsRow4 HO'.out (by omega) _ _ _ _)
      · exact below4 hbr (Nat.le_refl _) _ _ _ _

end Go.Proofs.Ytkapdmhjhbmdjaa
