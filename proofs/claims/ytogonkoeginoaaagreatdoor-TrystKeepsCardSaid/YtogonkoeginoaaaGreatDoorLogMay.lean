/-
  The walks through log.May and the reference's May of a tape.
-/
import Derived.Test.YtogonkoeginoaaaGreatDoorLogSmall
import Derived.Test.YtogonkoeginoaaaGreatDoorLawAw3
namespace Go.Proofs.YtogonkoeginoaaaGreatDoor
open Go.RowKit

def tpVal (t : Tp) : Value := .agg #[.int .i64 t.from_, .int .i64 t.len, .int .i64 t.pos, .int .i64 t.serial]

theorem two_kinds (w : World) (vs us : List Value) (t t2 : TypeId) : Blk ((w.alloc (.cells vs.toArray t)).alloc (.cells us.toArray t2)) w.heap.size vs t ∧ Blk ((w.alloc (.cells vs.toArray t)).alloc (.cells us.toArray t2)) (w.heap.size + 1) us t2 := by
  refine ⟨(Blk.new w vs t).alloc _, ?_⟩
  have := Blk.new (w.alloc (.cells vs.toArray t)) us t2
  simpa using this

theorem tape_cases (n1 : Nat) (f l p s : Int) : f < 0 ∨ (0 ≤ f ∧ (n1 : Int) < f) ∨ (0 ≤ f ∧ f ≤ n1 ∧ l < 1) ∨ (0 ≤ f ∧ f ≤ n1 ∧ 1 ≤ l ∧ (n1 : Int) - f < l) ∨ (0 ≤ f ∧ f ≤ n1 ∧ 1 ≤ l ∧ l ≤ n1 - f ∧ p < 0) ∨ (0 ≤ f ∧ f ≤ n1 ∧ 1 ≤ l ∧ l ≤ n1 - f ∧ 0 ≤ p ∧ l < p) ∨ (0 ≤ f ∧ f ≤ n1 ∧ 1 ≤ l ∧ l ≤ n1 - f ∧ 0 ≤ p ∧ p ≤ l ∧ s < 1) ∨ (0 ≤ f ∧ f ≤ n1 ∧ 1 ≤ l ∧ l ≤ n1 - f ∧ 0 ≤ p ∧ p ≤ l ∧ 1 ≤ s ∧ 16777216 < s) ∨ (0 ≤ f ∧ f ≤ n1 ∧ 1 ≤ l ∧ l ≤ n1 - f ∧ 0 ≤ p ∧ p ≤ l ∧ 1 ≤ s ∧ s ≤ 16777216) := by
  by_cases h1 : f < 0
  · exact .inl h1
  by_cases h2 : (n1 : Int) < f
  · exact .inr (.inl ⟨by omega, h2⟩)
  by_cases h3 : l < 1
  · exact .inr (.inr (.inl ⟨by omega, by omega, h3⟩))
  by_cases h4 : (n1 : Int) - f < l
  · exact .inr (.inr (.inr (.inl ⟨by omega, by omega, by omega, h4⟩)))
  by_cases h5 : p < 0
  · exact .inr (.inr (.inr (.inr (.inl ⟨by omega, by omega, by omega, by omega, h5⟩))))
  by_cases h6 : l < p
  · exact .inr (.inr (.inr (.inr (.inr (.inl ⟨by omega, by omega, by omega, by omega, by omega, h6⟩)))))
  by_cases h7 : s < 1
  · exact .inr (.inr (.inr (.inr (.inr (.inr (.inl ⟨by omega, by omega, by omega, by omega, by omega, by omega, h7⟩))))))
  by_cases h8 : 16777216 < s
  · exact .inr (.inr (.inr (.inr (.inr (.inr (.inr (.inl ⟨by omega, by omega, by omega, by omega, by omega, by omega, by omega, h8⟩)))))))
  exact .inr (.inr (.inr (.inr (.inr (.inr (.inr (.inr ⟨by omega, by omega, by omega, by omega, by omega, by omega, by omega, by omega⟩)))))))

theorem tapeOk_mk (d : Drv) (f l p s : Int) (b : Bool) (hm : d.mayB = true) (hb : (b = true) ↔ (0 ≤ f ∧ f ≤ d.cells.length ∧ 1 ≤ l ∧ l ≤ d.cells.length - f ∧ 0 ≤ p ∧ p ≤ l ∧ 1 ≤ s ∧ s ≤ 16777216)) : tapeOk d ⟨f, l, p, s⟩ = b := by
  unfold tapeOk
  rw [hm, Bool.true_and]
  cases b with
  | true => exact decide_eq_true (hb.1 rfl)
  | false => exact decide_eq_false (fun h => by have := hb.2 h; cases this)

set_option maxRecDepth 100000 in
set_option maxHeartbeats 1600000 in
theorem logmay_any (v : Value) (d : Drv) (t : Tp) (w : World) (h : IsDrive w v d) (ht : t.In) : Calls Tryz.prog 57 #[v, tpVal t] w fun e w' => e = .returned (.bool (tapeOk d t)) ∧ Below w.heap.size w w' := by
  obtain ⟨f, l, p, s⟩ := t
  obtain ⟨h1, h2, h3, h4⟩ := ht
  simp only at h1 h2 h3 h4
  have HI := hide h
  obtain ⟨a1, c1, a2, c2, rfl, hD⟩ := drv_form h
  have hr1 := hD.room1
  have HM := hide (fun (v : Value) (w : World) (h : IsDrive w v d) => may_any v d w h)
  have hmk := tapeOk_mk d f l p s
  obtain ⟨tk, htk⟩ : ∃ b, tapeOk d ⟨f, l, p, s⟩ = b := ⟨_, rfl⟩
  have hm0 : d.mayB = false → tk = false := by intro hm; rw [← htk]; unfold tapeOk; rw [hm]; rfl
  rw [htk] at hmk ⊢
  obtain ⟨mb, hmb⟩ : ∃ b, d.mayB = b := ⟨_, rfl⟩
  rw [hmb] at hm0 hmk HM
  obtain ⟨n1, hn1⟩ : ∃ n, d.cells.length = n := ⟨_, rfl⟩
  obtain ⟨n2, hn2⟩ : ∃ n, d.queue.length = n := ⟨_, rfl⟩
  obtain ⟨fu, hfu⟩ : ∃ n, d.fuel = n := ⟨_, rfl⟩
  obtain ⟨of, hof⟩ : ∃ n, d.off = n := ⟨_, rfl⟩
  rw [hn1] at HI hr1 hmk ⊢
  rw [hn2, hfu, hof] at HI ⊢
  obtain ⟨B0, B1⟩ := two_kinds w [.slice a1 n1 c1, .slice a2 n2 c2, .int .i64 fu, .bool of] [.int .i64 f, .int .i64 l, .int .i64 p, .int .i64 s] 44 63
  have hb0 : Below w.heap.size w ((w.alloc (.cells #[.slice a1 n1 c1, .slice a2 n2 c2, .int .i64 fu, .bool of] 44)).alloc (.cells #[.int .i64 f, .int .i64 l, .int .i64 p, .int .i64 s] 63)) := ((Below.refl _ _).alloc (Nat.le_refl _) _).alloc (by simp) _
  clear hD htk hmb hn1 hn2 hfu hof h
  unfold tpVal
  simp only
  cases mb with
  | false =>
    obtain rfl := hm0 rfl
    clear hmk
    go_enter Tryz.func57, Tryz.ntmps57
    go_wp2_with fail
    refine (HM.out _ _ (HI.out.below hb0)).mono ?_
    rintro e w1 ⟨rfl, hb1⟩
    have C0 := B0.next hb1
    have C1 := B1.next hb1
    obtain ⟨p0, p1, p2, p3, p4, p5, p6, p7⟩ := C0.four
    obtain ⟨q0, q1, q2, q3, q4, q5, q6, q7⟩ := C1.four
    have hbx := chain hb0 hb1
    clear hb1 hb0
    go_wp2_with fail
    go_ret
    exact ⟨rfl, hbx⟩
  | true =>
    have hmk := fun b => hmk b rfl
    have hres : ∃ b : Bool, tk = b ∧ ((b = true) ↔ (0 ≤ f ∧ f ≤ n1 ∧ 1 ≤ l ∧ l ≤ n1 - f ∧ 0 ≤ p ∧ p ≤ l ∧ 1 ≤ s ∧ s ≤ 16777216)) := ⟨decide (0 ≤ f ∧ f ≤ n1 ∧ 1 ≤ l ∧ l ≤ n1 - f ∧ 0 ≤ p ∧ p ≤ l ∧ 1 ≤ s ∧ s ≤ 16777216), hmk _ (by simp), by simp⟩
    obtain ⟨b, rfl, hb⟩ := hres
    have HB := hide hb
    clear hmk hm0 hb
    rcases tape_cases n1 f l p s with hc | ⟨c1', hc⟩ | ⟨c1', c2', hc⟩ | ⟨c1', c2', c3, hc⟩ | ⟨c1', c2', c3, c4, hc⟩ | ⟨c1', c2', c3, c4, c5, hc⟩ | ⟨c1', c2', c3, c4, c5, c6, hc⟩ | ⟨c1', c2', c3, c4, c5, c6, c7, hc⟩ | ⟨c1', c2', c3, c4, c5, c6, c7, hc⟩
    all_goals
      first
        | (have HT : Hid (tk = true) := hide (HB.out.2 ⟨c1', c2', c3, c4, c5, c6, c7, hc⟩))
        | (have HT : Hid (tk = false) := by
             refine hide ?_
             cases tk with
             | false => rfl
             | true => exfalso; have := HB.out.1 rfl; omega)
      clear HB
      first
        | (have hsd : decide (s ≤ 16777216) = true := decide_eq_true hc)
        | (have hsd : decide (s ≤ 16777216) = false := decide_eq_false (Int.not_le.2 hc))
        | skip
      go_enter Tryz.func57, Tryz.ntmps57
      go_wp2_with fail
      refine (HM.out _ _ (HI.out.below hb0)).mono ?_
      rintro e w1 ⟨rfl, hb1⟩
      have C0 := B0.next hb1
      have C1 := B1.next hb1
      obtain ⟨p0, p1, p2, p3, p4, p5, p6, p7⟩ := C0.four
      obtain ⟨q0, q1, q2, q3, q4, q5, q6, q7⟩ := C1.four
      have hbx := chain hb0 hb1
      clear hb1 hb0
      go_wp2_with fail
      go_ret
      rw [HT.out]
      exact ⟨rfl, hbx⟩

end Go.Proofs.YtogonkoeginoaaaGreatDoor
