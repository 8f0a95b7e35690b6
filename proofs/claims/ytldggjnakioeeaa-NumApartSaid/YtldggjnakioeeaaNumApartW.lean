/-
  The walk through the law NumApart.
-/
import Derived.Test.YtldggjnakioeeaaNumAwake
import Derived.Test.YtldggjnakioeeaaNumLaw
namespace Go.Proofs.Ytldggjnakioeeaa
open Go.RowKit

/-- What the walk is told of a number's octets in a width, twice. -/
theorem puts_apart (a b wide : Int) (h0 : 0 ≤ a) (h1 : a < 18446744073709551616) (h2 : 0 ≤ b) (h3 : b < 18446744073709551616) :
    ∃ (s t : ByteArray) (E F : Int), Hid (∀ w, Calls Try.prog 10 #[.int .u64 a, .int .i64 wide] w fun e w' => e = .returned (.tuple #[.string s, .int .i64 E]) ∧ Below w.heap.size w w') ∧
      Hid (∀ w, Calls Try.prog 10 #[.int .u64 b, .int .i64 wide] w fun e w' => e = .returned (.tuple #[.string t, .int .i64 F]) ∧ Below w.heap.size w w') ∧
      ((E = 1) ∨ (E = 0 ∧ F = 1) ∨ (E = 0 ∧ F = 0 ∧ s.size = t.size ∧ Op.bytesLess s.toList t.toList = decide (a < b))) := by
  refine ⟨_, _, _, _, hide (fun w => put_any a wide w h0 h1), hide (fun w => put_any b wide w h2 h3), ?_⟩
  cases ha : putOk a.toNat wide with
  | false => exact .inl (by simp [putE, ha])
  | true =>
    cases hb : putOk b.toNat wide with
    | false => exact .inr (.inl (by simp [putE, ha, hb]))
    | true =>
      refine .inr (.inr ⟨by simp [putE, ha], by simp [putE, hb], by simp [putS, ha, hb, bs_size, octs_length], ?_⟩)
      simp only [putOk, decide_eq_true_iff] at ha hb
      have h := bytesLess_octs wide.toNat a.toNat b.toNat ha.2.2 hb.2.2
      have ha' : putOk a.toNat wide = true := by simpa [putOk] using ha
      have hb' : putOk b.toNat wide = true := by simpa [putOk] using hb
      simp only [putS, ha', hb', cond_true, ByteArray.toList_eq, bs_data, h]
      rw [decide_eq_decide]
      omega

/-- What the walk is told of two numbers' packed octets. -/
theorem packs_apart (a b : Int) (h0 : 0 ≤ a) (h1 : a < 18446744073709551616) (h2 : 0 ≤ b) (h3 : b < 18446744073709551616) (hne : a ≠ b) :
    ∃ (p q : ByteArray), Hid (∀ w, Calls Try.prog 11 #[.int .u64 a] w fun e w' => e = .returned (.string p) ∧ Below w.heap.size w w') ∧
      Hid (∀ w, Calls Try.prog 11 #[.int .u64 b] w fun e w' => e = .returned (.string q) ∧ Below w.heap.size w w') ∧
      (p.toList == q.toList) = false ∧ p.size ≤ 10 ∧ q.size ≤ 10 ∧ ((q.extract 0 p.size).toList == p.toList) = false := by
  have hne' : a.toNat ≠ b.toNat := by omega
  refine ⟨_, _, hide (fun w => pack_any a w h0 h1), hide (fun w => pack_any b w h2 h3), ?_, ?_, ?_, ?_⟩
  · rw [beq_eq_false_iff_ne, ByteArray.toList_eq, ByteArray.toList_eq, bs_data, bs_data]
    intro h
    exact hne' (pack_prefix (x := []) (y := []) (by omega) (by omega) (by rw [h]))
  · rw [bs_size, pack, packF_length]; exact packLen_le _ _
  · rw [bs_size, pack, packF_length]; exact packLen_le _ _
  · rw [beq_eq_false_iff_ne, ByteArray.toList_eq, ByteArray.toList_eq]
    intro h
    have e : (bs (pack b.toNat)).data.toList = (pack a.toNat) ++ (pack b.toNat).drop (pack a.toNat).length := by
      have h2 : ((bs (pack b.toNat)).extract 0 (bs (pack a.toNat)).size).data.toList = (pack b.toNat).take (pack a.toNat).length := by
        simp [bs, ByteArray.size]
      rw [h2, bs_data] at h
      rw [bs_data]
      conv => lhs; rw [← List.take_append_drop (pack a.toNat).length (pack b.toNat), h]
    exact hne' (pack_prefix (x := (pack b.toNat).drop (pack a.toNat).length) (y := []) (by omega) (by omega) (by rw [List.append_nil, ← e, bs_data]))

set_option maxRecDepth 100000 in
set_option maxHeartbeats 3200000 in
theorem apart_walk (a : Int) (wa : (Lit.int .u64 a).wf = true) (b : Int) (wb : (Lit.int .u64 b).wf = true) (wide : Int) (ww : (Lit.int .i64 wide).wf = true) (w : World) :
    Calls Try.prog 3 #[.int .u64 a, .int .u64 b, .int .i64 wide] w fun e w' => e = .returned (.bool true) ∧ Below w.heap.size w w' := by
  obtain ⟨a0, a1⟩ := u64_bd wa
  obtain ⟨b0, b1⟩ := u64_bd wb
  obtain ⟨s, t, E, F, H1, H2, hcase⟩ := puts_apart a b wide a0 a1 b0 b1
  clear wa wb ww
  by_cases hab : a = b
  · subst hab
    have HP := hide (fun w => pack_any a w a0 a1)
    have hlt : decide (a < a) = false := by simp
    obtain ⟨p, hp⟩ : ∃ p, bs (pack a.toNat) = p := ⟨_, rfl⟩
    rw [hp] at HP
    clear hp
    rw [hlt] at hcase
    clear hlt
    rcases hcase with rfl | ⟨rfl, rfl⟩ | ⟨rfl, rfl, hsz, hless⟩
    all_goals
      go_enter Try.func3, Try.ntmps3
      go_wp2_with fail
      refine (H1.out _).mono ?_
      rintro e w1 ⟨rfl, hb1⟩
      go_wp2_with fail
      refine (H2.out _).mono ?_
      rintro e w2 ⟨rfl, hb2⟩
      go_wp2_with fail
      refine (HP.out _).mono ?_
      rintro e w3 ⟨rfl, hb3⟩
      go_wp2_with fail
      refine (HP.out _).mono ?_
      rintro e w4 ⟨rfl, hb4⟩
      go_wp2_with fail
      refine (awake_any _).mono ?_
      rintro e w5 ⟨rfl, hb5⟩
      go_wp2_with fail
      go_ret
      exact ⟨rfl, chain (chain (chain (chain hb1 hb2) hb3) hb4) hb5⟩
  · obtain ⟨p, q, HP, HQ, hpq, hp10, hq10, hpre⟩ := packs_apart a b a0 a1 b0 b1 hab
    have hbeq : (a == b) = false := by rw [beq_eq_false_iff_ne]; exact hab
    clear hab
    rcases hcase with rfl | ⟨rfl, rfl⟩ | ⟨rfl, rfl, hsz, hless⟩
    all_goals by_cases hab2 : a < b
    all_goals (try (first | rw [decide_eq_true hab2] at hless | rw [decide_eq_false hab2] at hless))
    all_goals by_cases hpq2 : q.size < p.size
    all_goals
      go_enter Try.func3, Try.ntmps3
      go_wp2_with fail
      refine (H1.out _).mono ?_
      rintro e w1 ⟨rfl, hb1⟩
      go_wp2_with fail
      refine (H2.out _).mono ?_
      rintro e w2 ⟨rfl, hb2⟩
      go_wp2_with fail
      refine (HP.out _).mono ?_
      rintro e w3 ⟨rfl, hb3⟩
      go_wp2_with fail
      refine (HQ.out _).mono ?_
      rintro e w4 ⟨rfl, hb4⟩
      go_wp2_with fail
      refine (awake_any _).mono ?_
      rintro e w5 ⟨rfl, hb5⟩
      go_wp2_with fail
      go_ret
      exact ⟨rfl, chain (chain (chain (chain hb1 hb2) hb3) hb4) hb5⟩

end Go.Proofs.Ytldggjnakioeeaa
