/-
  A Play that comes in: a drive, a tape, a string and a number.
-/
import Derived.Test.YtkapdmhjhbmdjaaOpenDrv
import Derived.Test.YtkapdmhjhbmdjaaLogDrv
namespace Go.Proofs.Ytkapdmhjhbmdjaa
open Go.RowKit Go.ChangeShapes Go.WideShapes Go.ChangeAt
open Go.Joins Go.Deep

variable {H : Type} {enc : TypeId × Value → H} {w : World} {base : Nat} {spare : Nat → Bool} {held : Bool}

theorem list10 {l : List Value} (h : l.length = 10) : ∃ u0 u1 u2 u3 u4 u5 u6 u7 u8 u9, l = [u0, u1, u2, u3, u4, u5, u6, u7, u8, u9] := by
  match l, h with
  | [u0, u1, u2, u3, u4, u5, u6, u7, u8, u9], _ => exact ⟨u0, u1, u2, u3, u4, u5, u6, u7, u8, u9, rfl⟩

set_option maxRecDepth 100000 in
theorem open_play2 {r : Reach} {b0 : Nat} {v : Value} {d : DataW H} {p : List MemPlace} (hv : Value.okWide Try.prog w r b0 62 v) (h : DataW.Trod enc Try.prog w base spare held 62 v d p) :
    ∃ (a1 : Option Addr) (n1 c1 : Nat) (a2 : Option Addr) (n2 c2 : Nat) (fu : Int) (of : Bool) (f ln pp sr : Int) (s : ByteArray) (k : Int) (D : Drv), v = .agg #[.slice a1 n1 c1, .slice a2 n2 c2, .int .i64 fu, .bool of, .int .i64 f, .int .i64 ln, .int .i64 pp, .int .i64 sr, .string s, .int .i64 k] ∧
      IsDrive w (.agg #[.slice a1 n1 c1, .slice a2 n2 c2, .int .i64 fu, .bool of]) D ∧ (⟨f, ln, pp, sr⟩ : Tp).In ∧ s.size ≤ 9223372036854775807 ∧ (-9223372036854775808 ≤ k ∧ k < 9223372036854775808) := by
  obtain ⟨cs, rfl, hsz⟩ := okWide_struct Try.underlying62 hv
  obtain ⟨fuel, hf⟩ := h
  obtain ⟨y0, y1, y2, y3, n, hx, _, h0, h1, h2, h3⟩ := trod_struct4 Try.underlying62 hf
  have e0 : Try.prog.cellsOf 62 = 10 := by kernel_rfl
  have e1 : Try.prog.cellsOf 25 = 4 := by kernel_rfl
  have e2 : Try.prog.cellsOf 60 = 4 := by kernel_rfl
  have e3 : Try.prog.cellsOf 9 = 1 := by kernel_rfl
  have e4 : Try.prog.cellsOf 3 = 1 := by kernel_rfl
  rw [e0] at hsz
  obtain ⟨u0, u1, u2, u3, u4, u5, u6, u7, u8, u9, hl⟩ := list10 (l := cs.toList) (by simpa using hsz)
  obtain rfl : cs = #[u0, u1, u2, u3, u4, u5, u6, u7, u8, u9] := by cases cs; simp_all
  simp only [e1, e2, e3, e4] at h0 h1 h2 h3
  have g0 : DataW.trod enc Try.prog w base spare held n 25 [u0, u1, u2, u3] = some y0 := h0
  have g1 : DataW.trod enc Try.prog w base spare held n 60 [u4, u5, u6, u7] = some y1 := h1
  have g2 : DataW.trod enc Try.prog w base spare held n 9 [u8] = some y2 := h2
  have g3 : DataW.trod enc Try.prog w base spare held n 3 [u9] = some y3 := h3
  have e5 : Try.prog.cellsOf 22 = 1 := by kernel_rfl
  have e6 : Try.prog.cellsOf 23 = 1 := by kernel_rfl
  have e7 : Try.prog.cellsOf 4 = 1 := by kernel_rfl
  obtain ⟨z0, z1, z2, z3, m, _, _, k0, k1, k2, k3⟩ := trod_struct4 Try.underlying25 g0
  simp only [e4, e5, e6, e7] at k0 k1 k2 k3
  obtain ⟨x0, x1, x2, x3, m2, _, _, l0, l1, l2, l3⟩ := trod_struct4 Try.underlying60 g1
  simp only [e4] at l0 l1 l2 l3
  obtain ⟨a1, n1, c1, xs, q0, hs, r1, s1, _⟩ := open_strs_at k0
  obtain ⟨a2, n2, c2, q, q1, hq, r2, s2, _⟩ := open_waits_at k1
  obtain ⟨fu, q2, _, hw⟩ := DataW.trod_int Try.underlying3 k2
  obtain ⟨of, q3, _⟩ := DataW.trod_bool Try.underlying4 k3
  obtain ⟨f, q4, _, w4⟩ := DataW.trod_int Try.underlying3 l0
  obtain ⟨ln, q5, _, w5⟩ := DataW.trod_int Try.underlying3 l1
  obtain ⟨pp, q6, _, w6⟩ := DataW.trod_int Try.underlying3 l2
  obtain ⟨sr, q7, _, w7⟩ := DataW.trod_int Try.underlying3 l3
  obtain ⟨k, q9, _, w9⟩ := DataW.trod_int Try.underlying3 g3
  obtain ⟨s, q8, _, hsm⟩ := DataW.trod_string Try.underlying9 g2
  simp at q0 q1 q2 q3 q4 q5 q6 q7 q8 q9
  subst q0; subst q1; subst q2; subst q3; subst q4; subst q5; subst q6; subst q7; subst q8; subst q9
  exact ⟨a1, n1, c1, a2, n2, c2, fu, of, f, ln, pp, sr, s, k, ⟨xs, q, fu, of⟩, rfl, ⟨a1, n1, c1, a2, n2, c2, fu, of, rfl, hs, hq, ⟨r1, s1⟩, ⟨r2, s2⟩, rfl, rfl, i64_bd hw⟩, ⟨i64_bd w4, i64_bd w5, i64_bd w6, i64_bd w7⟩, by rw [maxLen_eq] at hsm; exact hsm, i64_bd w9⟩

set_option maxRecDepth 100000 in
theorem open_play {r : Reach} {b0 : Nat} {v : Value} {d : DataW H} {p : List MemPlace} (hv : Value.okWide Try.prog w r b0 62 v) (h : DataW.Trod enc Try.prog w base spare held 62 v d p) :
    ∃ (a1 : Option Addr) (n1 c1 : Nat) (a2 : Option Addr) (n2 c2 : Nat) (fu : Int) (of : Bool) (f ln pp sr : Int) (s : ByteArray) (k : Int) (D : Drv), v = .agg #[.slice a1 n1 c1, .slice a2 n2 c2, .int .i64 fu, .bool of, .int .i64 f, .int .i64 ln, .int .i64 pp, .int .i64 sr, .string s, .int .i64 k] ∧
      IsDrive w (.agg #[.slice a1 n1 c1, .slice a2 n2 c2, .int .i64 fu, .bool of]) D ∧ (⟨f, ln, pp, sr⟩ : Tp).In := by
  obtain ⟨a1, n1, c1, a2, n2, c2, fu, of, f, ln, pp, sr, s, k, D, h1, h2, h3, _, _⟩ := open_play2 hv h
  exact ⟨a1, n1, c1, a2, n2, c2, fu, of, f, ln, pp, sr, s, k, D, h1, h2, h3⟩

end Go.Proofs.Ytkapdmhjhbmdjaa
