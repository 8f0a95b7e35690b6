/-
  The walks through log.write, its function value, and log.do: steps, one behind the other, till one fails.
-/
import Derived.Test.YtogonkoeginoaaaGreatDoorLogMay
import Derived.Test.YtogonkoeginoaaaGreatDoorDskWrite
import Derived.Test.YtogonkoeginoaaaGreatDoorDskFlush
import Derived.Test.YtogonkoeginoaaaGreatDoorApp
import Derived.Test.YtogonkoeginoaaaGreatDoorBox
namespace Go.Proofs.YtogonkoeginoaaaGreatDoor
open Go.RowKit

/-- Something that is done to a drive. -/
inductive Stp where
  | flush
  | write (b2 b3 : Nat) (p : Int) (s : List UInt8)
def Stp.val : Stp → Value
  | .flush => .func (.func 60) #[] #[]
  | .write b2 b3 _ _ => .func (.func 85) #[] #[.pointer (some ⟨b2, 0, none⟩), .pointer (some ⟨b3, 0, none⟩)]
def Stp.run : Stp → Drv → Drv × Int
  | .flush, d => d.flush
  | .write _ _ p s, d => d.write p s
def Stp.Lies (w : World) : Stp → Prop
  | .flush => True
  | .write b2 b3 p s => Blk w b2 [.int .i64 p] 3 ∧ Blk w b3 [.string (bs s)] 9 ∧ (-9223372036854775808 ≤ p ∧ p < 9223372036854775808) ∧ s.length ≤ 6400
theorem Stp.Lies.next {w w' : World} {t : Stp} (h : t.Lies w) (hb : Below w.heap.size w w') : t.Lies w' := by
  cases t with
  | flush => trivial
  | write b2 b3 p s => exact ⟨h.1.next hb, h.2.1.next hb, h.2.2⟩
def stepsRun : List Stp → Drv → Drv × Int
  | [], d => (d, 0)
  | t :: l, d => if (t.run d).2 = 0 then stepsRun l (t.run d).1 else t.run d

theorem flush_queue (d : Drv) : d.flush.1.queue.length ≤ d.queue.length := by
  unfold Drv.flush
  split
  · simp [Drv.zero]
  · split
    · simp
    · unfold Drv.burn; split <;> simp
theorem wrs_queue (l : List (List UInt8)) : ∀ (p : Int) (d : Drv), (wrs l p d).1.queue.length ≤ d.queue.length + l.length := by
  induction l with
  | nil => intro p d; simp [wrs]
  | cons c l ih =>
    intro p d
    rw [wrs]
    split
    · refine Nat.le_trans (ih _ _) ?_
      simp
      omega
    · unfold Drv.burn
      split <;> simp
theorem chunks_length : ∀ (n : Nat) (s : List UInt8), (chunks n s).length = n := by
  intro n
  induction n with
  | zero => intro s; rfl
  | succ n ih => intro s; simp [chunks, ih]
theorem write_queue (d : Drv) (p : Int) (s : List UInt8) : (d.write p s).1.queue.length ≤ d.queue.length + s.length / 64 := by
  unfold Drv.write
  split
  · simp [Drv.zero]
  · split
    · simp [Drv.zero]
    · have := wrs_queue (chunks (s.length / 64) s) p d
      rw [chunks_length] at this
      exact this
theorem Stp.queue {w : World} {t : Stp} (h : t.Lies w) (d : Drv) : (t.run d).1.queue.length ≤ d.queue.length + 100 := by
  cases t with
  | flush => exact Nat.le_trans (flush_queue d) (by omega)
  | write b2 b3 p s =>
    have h1 := write_queue d p s
    have h2 := h.2.2.2
    show (d.write p s).1.queue.length ≤ _
    omega

theorem Blk.one {w : World} {b : Nat} {v0 : Value} {t : TypeId} (h : Blk w b [v0] t) : w.cell? ⟨b, 0, none⟩ = some v0 ∧ w.frozen? ⟨b, 0, none⟩ = false := ⟨h.cell 0, h.free 0⟩

set_option maxRecDepth 100000 in
set_option maxHeartbeats 1600000 in
/-- The function value that log.write makes. -/
theorem write1_any (v : Value) (d : Drv) (b2 b3 : Nat) (p : Int) (s : List UInt8) (w : World) (h : IsDrive w v d) (hq : d.queue.length ≤ 1000000) (hl : (Stp.write b2 b3 p s).Lies w) :
    Calls Tryz.prog 85 #[v, .pointer (some ⟨b2, 0, none⟩), .pointer (some ⟨b3, 0, none⟩)] w fun e w' => ∃ v', e = .returned (.tuple #[v', .int .i64 (d.write p s).2]) ∧ IsDrive w' v' (d.write p s).1 ∧ Below w.heap.size w w' := by
  obtain ⟨h2, h3, hp, hs⟩ := hl
  have HW := hide (fun (v : Value) (w : World) (h : IsDrive w v d) => write_any v d p s w h hq hp (by omega))
  obtain ⟨a1, n1, c1, a2, n2, c2, fu, of, rfl, hD⟩ := h
  have HI := hide (show IsDrive w _ d from ⟨a1, n1, c1, a2, n2, c2, fu, of, rfl, hD⟩)
  obtain ⟨⟨X, E⟩, hX⟩ : ∃ r, d.write p s = r := ⟨_, rfl⟩
  rw [hX] at HW ⊢
  obtain ⟨sv, hsv⟩ : ∃ z, bs s = z := ⟨_, rfl⟩
  rw [hsv] at HW h3
  unfold drvVal at HI ⊢
  obtain ⟨B0, B1⟩ := two_boxes w [.slice a1 n1 c1, .slice a2 n2 c2, .int .i64 fu, .bool of] [.slice none 0 0, .slice none 0 0, .int .i64 0, .bool false] 44
  have hb0 : Below w.heap.size w ((w.alloc (.cells #[.slice a1 n1 c1, .slice a2 n2 c2, .int .i64 fu, .bool of] 44)).alloc (.cells #[.slice none 0 0, .slice none 0 0, .int .i64 0, .bool false] 44)) := ((Below.refl _ _).alloc (Nat.le_refl _) _).alloc (by simp) _
  obtain ⟨x2, y2⟩ := (h2.next hb0).one
  obtain ⟨x3, y3⟩ := (h3.next hb0).one
  have hlt2 := h2.lt
  have hlt3 := h3.lt
  obtain ⟨p2, q2⟩ := h2.one
  obtain ⟨p3, q3⟩ := h3.one
  clear hX hsv hD hp hs hq
  go_enter Tryz.func85, Tryz.ntmps85
  go_wp2_with fail
  refine (HW.out _ _ (HI.out.below hb0)).mono ?_
  rintro e w1 ⟨v1, rfl, hd1, hb1⟩
  have HX := hide hd1
  obtain ⟨b1, m1, e1, b2', m2, e2, gu, go, rfl, _⟩ := hd1
  unfold drvVal at HX ⊢
  have C1 := B1.next hb1
  have hbx := chain hb0 hb1
  clear hb1 hb0 B0 B1 x2 x3 y2 y3 p2 p3 q2 q3
  obtain ⟨p0, p1, p2, p3, p4, p5, p6, p7⟩ := C1.four
  go_wp2_with fail
  refine bodyPost_ret (v := .tuple #[.agg #[.slice b1 m1 e1, .slice b2' m2 e2, .int .i64 gu, .bool go], .int .i64 E]) (by simp [results, Tryz.results85, go_sem, p0, p1, p2, p3]) rfl ⟨_, rfl, HX.out.set4 (blk_holds C1) _ _ _ _, below4 hbx (by omega) _ _ _ _⟩

set_option maxRecDepth 100000 in
set_option maxHeartbeats 400000 in
theorem logwrite_any (p : Int) (s : ByteArray) (w : World) :
    Calls Tryz.prog 59 #[.int .i64 p, .string s] w fun e w' => e = .returned (.func (.func 85) #[] #[.pointer (some ⟨w.heap.size, 0, none⟩), .pointer (some ⟨w.heap.size + 1, 0, none⟩)]) ∧ w' = (w.alloc (.cells #[.int .i64 p] 3)).alloc (.cells #[.string s] 9) := by
  go_enter Tryz.func59, Tryz.ntmps59
  go_wp2
  go_ret
  exact ⟨rfl, rfl⟩

theorem elem_steps : Tryz.prog.elem 122 = 124 := by kernel_rfl
theorem cells_step : (Tryz.prog.info? 124).map (fun i => i.size) = some 1 := by kernel_rfl
theorem idx_steps (b off n c k : Nat) (hk : k < n) (w : World) : (Instr.indexAt 122 (.slice (some ⟨b, off, none⟩) n c) (.int .i64 (k : Int))).run Tryz.prog w = .ok (.pointer (some ⟨b, off + k, none⟩)) w := by
  simp [go_sem, hk]

end Go.Proofs.YtogonkoeginoaaaGreatDoor
