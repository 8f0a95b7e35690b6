/-
  The walk through the statement LogScans: it returns true.
-/
import Derived.Test.YtkapdmhjhbmdjaaRefScan
import Derived.Test.YtkapdmhjhbmdjaaLogAwake
import Derived.Test.YtkapdmhjhbmdjaaBun
import Derived.Test.YtkapdmhjhbmdjaaOpenPlay
namespace Go.Proofs.Ytkapdmhjhbmdjaa
open Go.RowKit

/-- What a block of ten cells, a Play, gives the walk. -/
theorem Blk.play {w : World} {b : Nat} {u0 u1 u2 u3 v0 v1 v2 v3 x y : Value} {t : TypeId} (h : Blk w b [u0, u1, u2, u3, v0, v1, v2, v3, x, y] t) :
    w.cell? ⟨b, 4, none⟩ = some v0 ∧ w.cell? ⟨b, 5, none⟩ = some v1 ∧ w.cell? ⟨b, 6, none⟩ = some v2 ∧ w.cell? ⟨b, 7, none⟩ = some v3 :=
  ⟨h.cell 4, h.cell 5, h.cell 6, h.cell 7⟩

set_option maxRecDepth 100000 in
set_option maxHeartbeats 6400000 in
theorem scans_walk18 (a1 : Option Addr) (n1 c1 : Nat) (a2 : Option Addr) (n2 c2 : Nat) (fu : Int) (of : Bool) (f ln p sr : Int) (s : ByteArray) (k : Int) (d : Drv) (w : World) (h : IsDrive w (.agg #[.slice a1 n1 c1, .slice a2 n2 c2, .int .i64 fu, .bool of]) d) (ht : (⟨f, ln, p, sr⟩ : Tp).In) :
    Calls Try.prog 10 #[.agg #[.slice a1 n1 c1, .slice a2 n2 c2, .int .i64 fu, .bool of, .int .i64 f, .int .i64 ln, .int .i64 p, .int .i64 sr, .string s, .int .i64 k]] w fun e w' => e = .returned (.bool true) ∧ Below w.heap.size w w' := by
  have HI := hide h
  obtain ⟨D, hD⟩ : ∃ D, d.few = D := ⟨_, rfl⟩
  have HDE := hide hD
  have HS1 := hide (fun (v : Value) (w : World) (h : IsDrive w v D) => scan_own v D ⟨f, ln, p, sr⟩ w h ht)
  have HS2 := hide (fun (v : Value) (w : World) (h : IsDrive w v D) => refscan_own v D ⟨f, ln, p, sr⟩ w h ht)
  have HA := hide (fun w => awake18_any w)
  obtain ⟨⟨L, ⟨f', l', p', s'⟩, E⟩, hR⟩ : ∃ r, D.scan ⟨f, ln, p, sr⟩ = r := ⟨_, rfl⟩
  rw [hR] at HS1 HS2
  unfold tpVal at HS1 HS2
  simp only at HS1 HS2
  clear hD hR ht h
  have B0 := Blk.new w [.slice a1 n1 c1, .slice a2 n2 c2, .int .i64 fu, .bool of, .int .i64 f, .int .i64 ln, .int .i64 p, .int .i64 sr, .string s, .int .i64 k] 62
  obtain ⟨W0, hW0⟩ : ∃ W0, w.alloc (.cells #[.slice a1 n1 c1, .slice a2 n2 c2, .int .i64 fu, .bool of, .int .i64 f, .int .i64 ln, .int .i64 p, .int .i64 sr, .string s, .int .i64 k] 62) = W0 := ⟨_, rfl⟩
  have hb0 : Below w.heap.size w W0 := by rw [← hW0]; exact (Below.refl _ _).alloc (Nat.le_refl _) _
  rw [show [Value.slice a1 n1 c1, .slice a2 n2 c2, .int .i64 fu, .bool of, .int .i64 f, .int .i64 ln, .int .i64 p, .int .i64 sr, .string s, .int .i64 k].toArray = #[Value.slice a1 n1 c1, .slice a2 n2 c2, .int .i64 fu, .bool of, .int .i64 f, .int .i64 ln, .int .i64 p, .int .i64 sr, .string s, .int .i64 k] from rfl, hW0] at B0
  have HI0 := hide (HI.out.below hb0)
  have p0 : W0.cell? ⟨w.heap.size, 0, none⟩ = some (.slice a1 n1 c1) := B0.cell 0
  have p1 : W0.cell? ⟨w.heap.size, 1, none⟩ = some (.slice a2 n2 c2) := B0.cell 1
  have p2 : W0.cell? ⟨w.heap.size, 2, none⟩ = some (.int .i64 fu) := B0.cell 2
  have p3 : W0.cell? ⟨w.heap.size, 3, none⟩ = some (.bool of) := B0.cell 3
  go_enter Try.func10, Try.ntmps10
  go_wp2_with fail
  refine (few_any _ d _ HI0.out).mono ?_
  rintro e w1 ⟨v1, rfl, hd1, hb1⟩
  rw [HDE.out] at hd1
  have HI1 := hide hd1
  obtain ⟨x1, m1, y1, x2, m2, y2, gu, og, rfl, _⟩ := hd1
  unfold drvVal at HI1 ⊢
  have C0 := B0.next hb1
  have hbw := chain hb0 hb1
  clear hb1 hb0 B0 HI HI0 p0 p1 p2 p3 hW0
  have hal := (Below.refl w1.heap.size w1).alloc (Nat.le_refl _) (.cells #[.slice x1 m1 y1, .slice x2 m2 y2, .int .i64 gu, .bool og] 25)
  have C1 := Blk.new w1 [.slice x1 m1 y1, .slice x2 m2 y2, .int .i64 gu, .bool og] 25
  obtain ⟨W2, hW2⟩ : ∃ W2, w1.alloc (.cells #[.slice x1 m1 y1, .slice x2 m2 y2, .int .i64 gu, .bool og] 25) = W2 := ⟨_, rfl⟩
  rw [hW2] at hal
  have K1 : Blk W2 w1.heap.size [.slice x1 m1 y1, .slice x2 m2 y2, .int .i64 gu, .bool og] 25 := by rw [← hW2]; exact C1
  have K0 := C0.next hal
  have HI2 := hide (HI1.out.below hal)
  have hb2 := chain hbw hal
  obtain ⟨q0, q1, q2, q3, q4, q5, q6, q7⟩ := K1.four
  obtain ⟨p4, p5, p6, p7⟩ := K0.play
  clear C0 C1 hal hbw HI1
  go_wp2_with fail
  refine (HS1.out _ _ HI2.out).mono ?_
  rintro e w3 ⟨ao, c, rfl, ho, hb3⟩
  obtain ⟨ao', c', he1, hc1, hm1, hst1⟩ := ho.form
  injection he1 with he2 he4 he3
  clear he4
  subst he2
  subst he3
  have D0 := K0.next hb3
  have D1 := K1.next hb3
  have HI3 := hide (HI2.out.below hb3)
  have hbx := chain hb2 hb3
  have hal4 := (Below.refl w3.heap.size w3).alloc (Nat.le_refl _) (.cells #[.int .i64 f', .int .i64 l', .int .i64 p', .int .i64 s'] 60)
  have E2 := Blk.new w3 [.int .i64 f', .int .i64 l', .int .i64 p', .int .i64 s'] 60
  obtain ⟨W4, hW4⟩ : ∃ W4, w3.alloc (.cells #[.int .i64 f', .int .i64 l', .int .i64 p', .int .i64 s'] 60) = W4 := ⟨_, rfl⟩
  rw [hW4] at hal4
  have F2 : Blk W4 w3.heap.size [.int .i64 f', .int .i64 l', .int .i64 p', .int .i64 s'] 60 := by rw [← hW4]; exact E2
  have F0 := D0.next hal4
  have F1 := D1.next hal4
  have HI4 := hide (HI3.out.below hal4)
  have HST4 := hide (hst1.below hal4)
  have hb4 := chain hbx hal4
  clear q0 q1 q2 q3 q4 q5 q6 q7 p4 p5 p6 p7 hW2 ho hb3 K0 K1 HI2 hb2 hst1 D0 D1 HI3 hbx hal4 E2
  obtain ⟨q0, q1, q2, q3, q4, q5, q6, q7⟩ := F1.four
  obtain ⟨p4, p5, p6, p7⟩ := F0.play
  go_wp2_with fail
  refine (HS2.out _ _ HI4.out).mono ?_
  rintro e w5 ⟨bo, c5, rfl, ho, hb5⟩
  obtain ⟨bo', c5', he1, hc5, hm5, hst5⟩ := ho.form
  injection he1 with he2 he4 he3
  clear he4
  subst he2
  subst he3
  have G2 := F2.next hb5
  have hbx := chain hb4 hb5
  have HST5 := hide (HST4.out.below hb5)
  have hal6 := (Below.refl w5.heap.size w5).alloc (Nat.le_refl _) (.cells #[.int .i64 f', .int .i64 l', .int .i64 p', .int .i64 s'] 60)
  have E3 := Blk.new w5 [.int .i64 f', .int .i64 l', .int .i64 p', .int .i64 s'] 60
  obtain ⟨W6, hW6⟩ : ∃ W6, w5.alloc (.cells #[.int .i64 f', .int .i64 l', .int .i64 p', .int .i64 s'] 60) = W6 := ⟨_, rfl⟩
  rw [hW6] at hal6
  have H3 : Blk W6 w5.heap.size [.int .i64 f', .int .i64 l', .int .i64 p', .int .i64 s'] 60 := by rw [← hW6]; exact E3
  have H2 := G2.next hal6
  have HSA := hide (HST5.out.below hal6)
  have HSB := hide (hst5.below hal6)
  have hb6 := chain hbx hal6
  have hbb := Below.size hb6
  have HSM := hide (ref2same_any ao bo L.length c L.length c5 L L W6 HSA.out HSB.out (by omega) (by omega))
  have hdt : decide (L = L) = true := decide_eq_true rfl
  rw [hdt] at HSM
  clear q0 q1 q2 q3 q4 q5 q6 q7 p4 p5 p6 p7 hW4 ho hb5 F0 F1 F2 HI4 hb4 HST4 G2 hbx HST5 hal6 E3 hst5 HSA HSB hdt
  go_wp2_with fail
  refine HSM.out.mono ?_
  rintro e w7 ⟨rfl, hb7⟩
  have J2 := H2.next hb7
  have J3 := H3.next hb7
  have hb8 := chain hb6 hb7
  clear hb7 hb6 H2 H3 hbb hW6
  obtain ⟨q0, q1, q2, q3, q4, q5, q6, q7⟩ := J2.four
  obtain ⟨p0, p1, p2, p3, p4, p5, p6, p7⟩ := J3.four
  go_wp2_with fail
  refine (HA.out _).mono ?_
  rintro e w9 ⟨rfl, hb9⟩
  go_wp2_with fail
  go_ret
  exact ⟨rfl, chain hb8 hb9⟩

theorem scans18_frame {w : World} (v : Value) (a1 : Option Addr) (h : ∃ (n1 c1 : Nat) (a2 : Option Addr) (n2 c2 : Nat) (fu : Int) (of : Bool) (f ln pp sr : Int) (s : ByteArray) (k : Int) (D : Drv), v = .agg #[.slice a1 n1 c1, .slice a2 n2 c2, .int .i64 fu, .bool of, .int .i64 f, .int .i64 ln, .int .i64 pp, .int .i64 sr, .string s, .int .i64 k] ∧
      IsDrive w (.agg #[.slice a1 n1 c1, .slice a2 n2 c2, .int .i64 fu, .bool of]) D ∧ (⟨f, ln, pp, sr⟩ : Tp).In) (_ : World) : Calls Try.prog 10 #[v] w fun e w' => e = .returned (.bool true) ∧ Below w.heap.size w w' := by
  obtain ⟨n1, c1, a2, n2, c2, fu, of, f, ln, pp, sr, s, k, D, rfl, h1, h2⟩ := h
  exact scans_walk18 a1 n1 c1 a2 n2 c2 fu of f ln pp sr s k D w h1 h2

end Go.Proofs.Ytkapdmhjhbmdjaa
