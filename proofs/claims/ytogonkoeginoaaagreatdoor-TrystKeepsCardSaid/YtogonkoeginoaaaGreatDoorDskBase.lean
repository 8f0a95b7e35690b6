/-
  The walks through disk's small functions: there, burn, own, Fuel.
-/
import Derived.Test.YtogonkoeginoaaaGreatDoorDskMay
import Derived.Test.YtogonkoeginoaaaGreatDoorCopy
namespace Go.Proofs.YtogonkoeginoaaaGreatDoor
open Go.RowKit

theorem info_str : (Tryz.prog.info? 9).map (fun i => (i.zero, i.size, i.bytes)) = some (some (.string ⟨#[]⟩), 1, 16) := by kernel_rfl
theorem info_wait : (Tryz.prog.info? 96).map (fun i => (i.zero, i.size, i.bytes)) = some (some (.agg #[.int .i64 0, .string ⟨#[]⟩]), 2, 24) := by kernel_rfl

set_option maxRecDepth 100000 in
set_option maxHeartbeats 800000 in
theorem there_any (a1 a2 : Option Addr) (n1 c1 n2 c2 : Nat) (fuel : Int) (off : Bool) (at_ n : Int) (w : World) (hn1 : n1 ≤ 9223372036854775807) (ha : -9223372036854775808 ≤ at_ ∧ at_ < 9223372036854775808) (hn : -9223372036854775808 ≤ n ∧ n < 9223372036854775808) :
    Calls Tryz.prog 62 #[.agg #[.slice a1 n1 c1, .slice a2 n2 c2, .int .i64 fuel, .bool off], .int .i64 at_, .int .i64 n] w fun e w' => e = .returned (.bool (decide (0 ≤ at_ ∧ 0 ≤ n ∧ at_ ≤ n1 ∧ n ≤ n1 - at_))) ∧ Below w.heap.size w w' := by
  obtain ⟨ha1, ha2⟩ := ha
  obtain ⟨hn1', hn2⟩ := hn
  by_cases h : 0 ≤ at_ ∧ 0 ≤ n ∧ at_ ≤ n1 ∧ n ≤ n1 - at_
  · rw [decide_eq_true h]
    obtain ⟨h1, h2, h3, h4⟩ := h
    go_enter Tryz.func62, Tryz.ntmps62
    go_wp2_with fail
    go_ret
    exact ⟨rfl, (Below.refl _ _).alloc (Nat.le_refl _) _⟩
  · rw [decide_eq_false h]
    have hcase : at_ < 0 ∨ (0 ≤ at_ ∧ n < 0) ∨ (0 ≤ at_ ∧ 0 ≤ n ∧ (n1 : Int) < at_) ∨ (0 ≤ at_ ∧ 0 ≤ n ∧ at_ ≤ n1 ∧ n1 - at_ < n) := by omega
    clear h
    rcases hcase with h1 | ⟨h1, h2⟩ | ⟨h1, h2, h3⟩ | ⟨h1, h2, h3, h4⟩
    rotate_left 3
    · have hd : decide (n ≤ (n1 : Int) - at_) = false := by simp; omega
      clear h4
      go_enter Tryz.func62, Tryz.ntmps62
      go_wp2_with fail
      go_ret
      refine ⟨?_, (Below.refl _ _).alloc (Nat.le_refl _) _⟩
      simp []
    all_goals
      go_enter Tryz.func62, Tryz.ntmps62
      go_wp2_with fail
      go_ret
      exact ⟨rfl, (Below.refl _ _).alloc (Nat.le_refl _) _⟩

/-- What burning makes of fuel and power. -/
def burnFuel (fuel : Int) (off : Bool) : Int := if off then fuel else if 0 < fuel then fuel - 1 else fuel
def burnOff (fuel : Int) (off : Bool) : Bool := off || decide (fuel = 0)

set_option maxRecDepth 100000 in
set_option maxHeartbeats 800000 in
theorem burn_any (a1 a2 : Option Addr) (n1 c1 n2 c2 : Nat) (fuel : Int) (off : Bool) (w : World) (hf : -9223372036854775808 ≤ fuel ∧ fuel < 9223372036854775808) :
    Calls Tryz.prog 86 #[.agg #[.slice a1 n1 c1, .slice a2 n2 c2, .int .i64 fuel, .bool off]] w fun e w' => e = .returned (.tuple #[.agg #[.slice a1 n1 c1, .slice a2 n2 c2, .int .i64 (burnFuel fuel off), .bool (burnOff fuel off)], .bool (!burnOff fuel off)]) ∧ Below w.heap.size w w' := by
  obtain ⟨hf1, hf2⟩ := hf
  have hcase : (off = true) ∨ (off = false ∧ fuel = 0) ∨ (off = false ∧ 0 < fuel) ∨ (off = false ∧ fuel < 0) := by
    cases off with
    | true => exact .inl rfl
    | false => rcases Int.lt_trichotomy fuel 0 with h | h | h
               · exact .inr (.inr (.inr ⟨rfl, h⟩))
               · exact .inr (.inl ⟨rfl, h⟩)
               · exact .inr (.inr (.inl ⟨rfl, h⟩))
  rcases hcase with rfl | ⟨rfl, rfl⟩ | ⟨rfl, h⟩ | ⟨rfl, h⟩
  · have H : Hid (burnFuel fuel true = fuel ∧ burnOff fuel true = true) := hide ⟨rfl, rfl⟩
    go_enter Tryz.func86, Tryz.ntmps86
    go_wp2_with fail
    rw [H.out.1, H.out.2]
    refine bodyPost_ret (v := .tuple #[.agg #[.slice a1 n1 c1, .slice a2 n2 c2, .int .i64 fuel, .bool true], .bool false]) (by simp [results, Tryz.results86, go_sem]) rfl ⟨rfl, ?_⟩
    exact ((Below.refl _ _).alloc (Nat.le_refl _) _).alloc (by simp) _
  · have H : Hid (burnFuel 0 false = 0 ∧ burnOff 0 false = true) := hide ⟨rfl, rfl⟩
    go_enter Tryz.func86, Tryz.ntmps86
    go_wp2_with fail
    rw [H.out.1, H.out.2]
    refine bodyPost_ret (v := .tuple #[.agg #[.slice a1 n1 c1, .slice a2 n2 c2, .int .i64 0, .bool true], .bool false]) (by simp [results, Tryz.results86, go_sem]) rfl ⟨rfl, ?_⟩
    exact ((Below.refl _ _).alloc (Nat.le_refl _) _).alloc (by simp) _
  · have H : Hid (burnFuel fuel false = fuel - 1 ∧ burnOff fuel false = false) := hide ⟨by simp [burnFuel, h], by simp [burnOff]; omega⟩
    have h0 : (fuel == 0) = false := by rw [beq_eq_false_iff_ne]; omega
    go_enter Tryz.func86, Tryz.ntmps86
    go_wp2_with fail
    rw [H.out.1, H.out.2]
    refine bodyPost_ret (v := .tuple #[.agg #[.slice a1 n1 c1, .slice a2 n2 c2, .int .i64 (fuel - 1), .bool false], .bool true]) (by simp [results, Tryz.results86, go_sem]) rfl ⟨rfl, ?_⟩
    exact ((Below.refl _ _).alloc (Nat.le_refl _) _).alloc (by simp) _
  · have H : Hid (burnFuel fuel false = fuel ∧ burnOff fuel false = false) := hide ⟨by simp [burnFuel]; omega, by simp [burnOff]; omega⟩
    have h0 : (fuel == 0) = false := by rw [beq_eq_false_iff_ne]; omega
    go_enter Tryz.func86, Tryz.ntmps86
    go_wp2_with fail
    rw [H.out.1, H.out.2]
    refine bodyPost_ret (v := .tuple #[.agg #[.slice a1 n1 c1, .slice a2 n2 c2, .int .i64 fuel, .bool false], .bool true]) (by simp [results, Tryz.results86, go_sem]) rfl ⟨rfl, ?_⟩
    exact ((Below.refl _ _).alloc (Nat.le_refl _) _).alloc (by simp) _

set_option maxRecDepth 100000 in
set_option maxHeartbeats 800000 in
/-- disk.own: the cells, in a row of their own. -/
theorem own_any (a1 a2 : Option Addr) (n1 c1 n2 c2 : Nat) (fuel : Int) (off : Bool) (w : World) (xs : List (List UInt8)) (h : Strs w a1 n1 xs) (hn1 : n1 ≤ 6000) :
    Calls Tryz.prog 36 #[.agg #[.slice a1 n1 c1, .slice a2 n2 c2, .int .i64 fuel, .bool off]] w fun e w' => ∃ g, e = .returned (.slice (some ⟨g, 0, none⟩) n1 n1) ∧ w.heap.size ≤ g ∧ w'.ownsRow w.heap.size 9 1 (.slice (some ⟨g, 0, none⟩) n1 n1) n1 (strVals xs) ∧ Below w.heap.size w w' := by
  obtain ⟨i0, hi, hz0, hz1, hz2⟩ := info_parts info_str
  have HS := hide h
  clear h
  go_enter Tryz.func36, Tryz.ntmps36
  go_wp2_with (refine wpList_make_full _ rfl _ _ 32 rfl w.heap.size 9 i0 (.string ⟨#[]⟩) 1 Tryz.underlying32 hi hz0 hz1 _ _ _ _ n1 rfl rfl rfl rfl ?c1 ?c2 ?c3 ?_)
  case c1 => rw [hz2]; omega
  case c2 => unfold maxLen; omega
  case c3 => simp
  intro w1 hown hgrow
  have hb : Below w.heap.size w w1 := ((Below.refl _ _).alloc (Nat.le_refl _) _).grown hgrow (by simp) (by simp)
  have hbx : w1.cell? ⟨w.heap.size, 0, none⟩ = some (.slice a1 n1 c1) := hgrow.cell (by simp [go_sem]) (by simp)
  clear hgrow
  go_wp2_with (refine wpList_copy_all rfl _ _ 32 32 rfl 9 1 Tryz.underlying32 cells_str w.heap.size 9 _ _ _ _ _ _ _ rfl rfl rfl hown (strVals xs) ?d1 ?d2 (strVals_one _) ?_)
  case d1 => rw [strVals_length, HS.out.len, Nat.mul_one]
  case d2 => exact HS.out.row.below hb
  intro w2 hown2 hgrow2
  have hb2 : Below w.heap.size w w2 := hb.grown hgrow2 hb.size (by rintro k h; injection h with h; omega)
  clear hgrow2 hown
  go_wp2_with fail
  go_ret
  exact ⟨_, rfl, by simp, by simpa using hown2, hb2⟩

end Go.Proofs.YtogonkoeginoaaaGreatDoor
