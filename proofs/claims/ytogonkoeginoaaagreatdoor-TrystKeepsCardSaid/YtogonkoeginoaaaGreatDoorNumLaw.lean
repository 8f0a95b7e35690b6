/-
  Plain facts on octets that the laws of layer 1 need: order, prefixes, how many. No walk.
-/
import Derived.Test.YtogonkoeginoaaaGreatDoorMem
namespace Go.Proofs.YtogonkoeginoaaaGreatDoor
open Go.RowKit

theorem bytesLess_octs (k : Nat) : ∀ a b : Nat, a < 256 ^ k → b < 256 ^ k → Op.bytesLess (octs k a) (octs k b) = decide (a < b) := by
  induction k with
  | zero => intro a b ha hb; simp at ha hb; subst ha; subst hb; rfl
  | succ k ih =>
    intro a b ha hb
    have hp : 0 < 256 ^ k := Nat.pow_pos (by decide)
    have qa : a / 256 ^ k < 256 := Nat.div_lt_of_lt_mul (by rw [Nat.pow_succ] at ha; omega)
    have qb : b / 256 ^ k < 256 := Nat.div_lt_of_lt_mul (by rw [Nat.pow_succ] at hb; omega)
    have ra : a % 256 ^ k < 256 ^ k := Nat.mod_lt _ hp
    have rb : b % 256 ^ k < 256 ^ k := Nat.mod_lt _ hp
    have ea := Nat.div_add_mod a (256 ^ k)
    have eb := Nat.div_add_mod b (256 ^ k)
    have h := ih (a % 256 ^ k) (b % 256 ^ k) ra rb
    rw [octs_mod, octs_mod] at h
    simp only [octs, Op.bytesLess, h]
    generalize a / 256 ^ k = x at *
    generalize b / 256 ^ k = y at *
    generalize a % 256 ^ k = r at *
    generalize b % 256 ^ k = t at *
    generalize 256 ^ k = p at *
    have e1 : decide (UInt8.ofNat x < UInt8.ofNat y) = decide (x < y) := by
      rw [decide_eq_decide, UInt8.lt_iff_toNat_lt]
      simp only [UInt8.toNat_ofNat']
      omega
    have e2 : (UInt8.ofNat x == UInt8.ofNat y) = decide (x = y) := by
      rw [Bool.eq_iff_iff, beq_iff_eq, decide_eq_true_iff, ← UInt8.toNat_inj]
      simp only [UInt8.toNat_ofNat']
      omega
    rw [e1, e2]
    rcases Nat.lt_trichotomy x y with hxy | hxy | hxy
    · have : p * (x + 1) ≤ p * y := Nat.mul_le_mul_left _ hxy
      have h3 : a < b := by rw [Nat.mul_add] at this; omega
      simp [hxy, h3]
    · subst hxy
      have : (r < t) ↔ (a < b) := by omega
      simp [this]
    · have : p * (y + 1) ≤ p * x := Nat.mul_le_mul_left _ hxy
      have h3 : ¬ a < b := by rw [Nat.mul_add] at this; omega
      have h4 : ¬ x < y := by omega
      have h5 : ¬ x = y := by omega
      simp [h4, h5, h3]

/-- Packed octets of two numbers: none begins with the other's. -/
theorem packF_prefix (f : Nat) : ∀ (a b : Nat) (x y : List UInt8), a < 128 ^ (f + 1) → b < 128 ^ (f + 1) → packF (f + 1) a ++ x = packF (f + 1) b ++ y → a = b := by
  have small : ∀ n : Nat, n < 128 → (UInt8.ofNat n).toNat = n := by intro n hn; rw [UInt8.toNat_ofNat']; omega
  have big : ∀ n : Nat, (UInt8.ofNat (128 + n % 128)).toNat = 128 + n % 128 := by intro n; rw [UInt8.toNat_ofNat']; omega
  induction f with
  | zero =>
    intro a b x y ha hb h
    have ha' : a < 128 := by simpa using ha
    have hb' : b < 128 := by simpa using hb
    rw [packF_small ha', packF_small hb'] at h
    have h0 := congrArg UInt8.toNat (List.cons.inj h).1
    rwa [small a ha', small b hb'] at h0
  | succ f ih =>
    intro a b x y ha hb h
    by_cases ha' : a < 128
    · by_cases hb' : b < 128
      · rw [packF_small ha', packF_small hb'] at h
        have h0 := congrArg UInt8.toNat (List.cons.inj h).1
        rwa [small a ha', small b hb'] at h0
      · rw [packF_small ha', packF_more hb'] at h
        have h0 := congrArg UInt8.toNat (List.cons.inj h).1
        rw [small a ha', big b] at h0
        omega
    · by_cases hb' : b < 128
      · rw [packF_more ha', packF_small hb'] at h
        have h0 := congrArg UInt8.toNat (List.cons.inj h).1
        rw [small b hb', big a] at h0
        omega
      · rw [packF_more ha', packF_more hb'] at h
        obtain ⟨h0, h1⟩ := List.cons.inj h
        have h0 := congrArg UInt8.toNat h0
        rw [big a, big b] at h0
        have h2 := ih (a / 128) (b / 128) x y (Nat.div_lt_of_lt_mul (by rw [Nat.pow_succ] at ha; omega)) (Nat.div_lt_of_lt_mul (by rw [Nat.pow_succ] at hb; omega)) h1
        omega
theorem pack_prefix {a b : Nat} (ha : a < 18446744073709551616) (hb : b < 18446744073709551616) {x y : List UInt8} (h : pack a ++ x = pack b ++ y) : a = b := by
  have h10 : (128 : Nat) ^ (9 + 1) = 1180591620717411303424 := by decide
  exact packF_prefix 9 a b x y (by omega) (by omega) h

/-- How many octets packing takes: one, and one more for each time that 128 goes in. -/
def packLen : Nat → Nat → Nat
  | 0, _ => 0
  | f + 1, n => if n < 128 then 1 else packLen f (n / 128) + 1
theorem packLen_small {f n : Nat} (h : n < 128) : packLen (f + 1) n = 1 := by rw [packLen, if_pos h]
theorem packLen_more {f n : Nat} (h : ¬ n < 128) : packLen (f + 1) n = packLen f (n / 128) + 1 := by rw [packLen, if_neg h]
theorem packF_length (f : Nat) : ∀ n, (packF f n).length = packLen f n := by
  induction f with
  | zero => intro n; rfl
  | succ f ih =>
    intro n
    by_cases h : n < 128
    · rw [packF_small h, packLen, if_pos h]; rfl
    · rw [packF_more h, packLen, if_neg h, List.length_cons, ih]
theorem packLen_le (f : Nat) : ∀ n, packLen f n ≤ f := by
  induction f with
  | zero => intro n; exact Nat.le_refl _
  | succ f ih =>
    intro n
    rw [packLen]
    split
    · omega
    · have := ih (n / 128); omega
theorem packLen_mono (f : Nat) : ∀ a b, a ≤ b → packLen f a ≤ packLen f b := by
  induction f with
  | zero => intro a b _; exact Nat.le_refl _
  | succ f ih =>
    intro a b h
    rw [packLen, packLen]
    by_cases ha : a < 128
    · rw [if_pos ha]; split <;> omega
    · rw [if_neg ha, if_neg (by omega)]
      have := ih (a / 128) (b / 128) (by omega)
      omega
theorem packLen_pos (f n : Nat) : 1 ≤ packLen (f + 1) n := by
  rw [packLen]; split <;> omega

/-- The form of packed octets: octets that go on, and a last one. -/
theorem pack_form (f : Nat) : ∀ n, n < 128 ^ (f + 1) → ∃ (i : List UInt8) (c : UInt8), packF (f + 1) n = i ++ [c] ∧ i.length ≤ f ∧ (∀ j, j < i.length → 128 ≤ (i.getD j 0).toNat) ∧ c.toNat < 128 ∧ (1 ≤ n → 1 ≤ c.toNat) ∧ (n = 0 → i = []) ∧ le128 (i ++ [c]) = n := by
  have small : ∀ n : Nat, n < 128 → (UInt8.ofNat n).toNat = n := by intro n hn; rw [UInt8.toNat_ofNat']; omega
  have big : ∀ n : Nat, (UInt8.ofNat (128 + n % 128)).toNat = 128 + n % 128 := by intro n; rw [UInt8.toNat_ofNat']; omega
  induction f with
  | zero =>
    intro n hn
    have hn' : n < 128 := by simpa using hn
    refine ⟨[], UInt8.ofNat n, by rw [packF_small hn']; rfl, Nat.le_refl _, by intro j hj; simp at hj, by rw [small n hn']; exact hn', by rw [small n hn']; exact id, fun _ => rfl, ?_⟩
    simp only [List.nil_append, le128, small n hn']
    omega
  | succ f ih =>
    intro n hn
    by_cases hn' : n < 128
    · refine ⟨[], UInt8.ofNat n, by rw [packF_small hn']; rfl, Nat.zero_le _, by intro j hj; simp at hj, by rw [small n hn']; exact hn', by rw [small n hn']; exact id, fun _ => rfl, ?_⟩
      simp only [List.nil_append, le128, small n hn']
      omega
    · obtain ⟨i, c, h1, h2, h3, h4, h5, _, h7⟩ := ih (n / 128) (Nat.div_lt_of_lt_mul (by rw [Nat.pow_succ] at hn; omega))
      refine ⟨UInt8.ofNat (128 + n % 128) :: i, c, by rw [packF_more hn', h1]; rfl, by simp; omega, ?_, h4, fun _ => h5 (by omega), fun h => by omega, ?_⟩
      · intro j hj
        cases j with
        | zero => rw [List.getD_cons_zero, big]; omega
        | succ j => rw [List.getD_cons_succ]; exact h3 j (by simpa using hj)
      · rw [List.cons_append, le128, h7, big]
        omega

/-- What 'Unpack' gives of octets that go on, and one that does not. -/
theorem unpack_form (i : List UInt8) (c : UInt8) (x : List UInt8) (h9 : i.length ≤ 9) (hi : ∀ j, j < i.length → 128 ≤ (i.getD j 0).toNat) (hc : c.toNat < 128) :
    lead 10 (i ++ c :: x) = i.length ∧ (i ++ c :: x).getD i.length 0 = c ∧ (i ++ c :: x).take (i.length + 1) = i ++ [c] := by
  have e : (i ++ c :: x).getD i.length 0 = c := by simp [List.getD]
  refine ⟨lead_of 10 _ _ (by omega) (by simp) ?_ (.inr (.inr (by rw [e]; exact hc))), e, by simp [List.take_append, List.take_of_length_le]⟩
  intro j hj
  have h := hi j hj
  simp only [List.getD, List.getElem?_append_left hj] at h ⊢
  exact h

theorem le128_last (i : List UInt8) (c : UInt8) : c.toNat % 128 * 128 ^ i.length ≤ le128 (i ++ [c]) := by
  rw [le128_snoc]; omega

/-- What was packed is read, whatever stands behind it. -/
theorem unpack_pack (n : Nat) (x : List UInt8) (hn : n < 18446744073709551616) : unpack (pack n ++ x) = (n, (pack n).length, 0) := by
  have h10 : (128 : Nat) ^ (9 + 1) = 1180591620717411303424 := by decide
  have h9' : (128 : Nat) ^ 9 = 9223372036854775808 := by decide
  obtain ⟨i, c, h1, h2, h3, h4, h5, h6, h7⟩ := pack_form 9 n (by omega)
  have hp : pack n = i ++ [c] := h1
  obtain ⟨e1, e2, e3⟩ := unpack_form i c x h2 h3 h4
  have hl := le128_last i c
  rw [h7] at hl
  rw [hp, List.append_assoc, List.singleton_append]
  unfold unpack
  rw [e1, e2, e3, if_neg (by omega), if_neg (by simp), if_neg ?_, h7]
  · simp
  · rintro (⟨hc0, hpos⟩ | ⟨h9, hc1⟩)
    · rcases Nat.eq_zero_or_pos n with h0 | h0
      · rw [h6 h0] at hpos; simp at hpos
      · have := h5 h0; omega
    · rw [h9, h9'] at hl
      omega
theorem unpack_less (n : Nat) (hn : n < 18446744073709551616) : unpack ((pack n).take ((pack n).length - 1)) = (0, 0, 3) := by
  have h10 : (128 : Nat) ^ (9 + 1) = 1180591620717411303424 := by decide
  obtain ⟨i, c, h1, h2, h3, h4, h5, h6, h7⟩ := pack_form 9 n (by omega)
  have hp : pack n = i ++ [c] := h1
  have e : (pack n).take ((pack n).length - 1) = i := by rw [hp]; simp
  rw [e]
  have hl : lead 10 i = i.length := lead_of 10 i i.length (by omega) (Nat.le_refl _) h3 (.inr (.inl rfl))
  unfold unpack
  rw [hl, if_neg (by omega), if_pos rfl]

theorem pack_length_pos (n : Nat) : 1 ≤ (pack n).length := by rw [pack, packF_length]; exact packLen_pos _ _
theorem pack_length_le (n : Nat) : (pack n).length ≤ 10 := by rw [pack, packF_length]; exact packLen_le _ _

theorem le128_drop (t : List UInt8) (r : Nat) (h : r < t.length) : le128 (t.drop r) = t[r].toNat % 128 + 128 * le128 (t.drop (r + 1)) := by
  rw [List.drop_eq_getElem_cons h, le128]
theorem le128_drop_le (t : List UInt8) : ∀ r, le128 (t.drop r) ≤ le128 t := by
  induction t with
  | nil => intro r; simp
  | cons c t ih =>
    intro r
    cases r with
    | zero => exact Nat.le_refl _
    | succ r =>
      rw [List.drop_succ_cons, le128]
      have := ih r
      omega

/-- Octets that go on, and a last one that does not and is not 0 (or is alone), are packed octets. -/
theorem packF_le128 (f : Nat) : ∀ (i : List UInt8) (c : UInt8), i.length ≤ f → (∀ j, j < i.length → 128 ≤ (i.getD j 0).toNat) → c.toNat < 128 → (i = [] ∨ 1 ≤ c.toNat) → packF (f + 1) (le128 (i ++ [c])) = i ++ [c] := by
  have one : ∀ (g : Nat) (c : UInt8), c.toNat < 128 → packF (g + 1) (le128 ([] ++ [c])) = [] ++ [c] := by
    intro g c hc
    have e : le128 ([] ++ [c]) = c.toNat := by simp only [List.nil_append, le128]; omega
    rw [e, packF_small hc]
    simp
  induction f with
  | zero =>
    intro i c hi _ hc _
    have : i = [] := List.eq_nil_of_length_eq_zero (by omega)
    subst this
    exact one _ c hc
  | succ f ih =>
    intro i c hi hall hc hcase
    cases i with
    | nil => exact one _ c hc
    | cons d i =>
      have hd : 128 ≤ d.toNat := by simpa using hall 0 (by simp)
      have hd2 : d.toNat < 256 := d.toNat_lt
      have hc1 : 1 ≤ c.toNat := by simpa using hcase
      have hx := le128_last i c
      have hp : 1 * 1 ≤ c.toNat % 128 * 128 ^ i.length := Nat.mul_le_mul (by omega) (Nat.pow_pos (by decide))
      have e : le128 (d :: i ++ [c]) = d.toNat % 128 + 128 * le128 (i ++ [c]) := by simp only [List.cons_append, le128]
      have e1 : le128 (d :: i ++ [c]) / 128 = le128 (i ++ [c]) := by omega
      have e2 : UInt8.ofNat (128 + le128 (d :: i ++ [c]) % 128) = d := by
        apply UInt8.toNat_inj.1
        rw [UInt8.toNat_ofNat']
        omega
      rw [packF_more (by omega), e1, e2, ih i c (by simpa using hi) (fun j hj => by simpa using hall (j + 1) (by simpa using hj)) hc (.inr hc1)]
      rfl
/-- .. and just these are. -/
theorem pack_le128_iff (i : List UInt8) (c : UInt8) (h9 : i.length ≤ 9) (hall : ∀ j, j < i.length → 128 ≤ (i.getD j 0).toNat) (hc : c.toNat < 128) (h64 : le128 (i ++ [c]) < 18446744073709551616) : (pack (le128 (i ++ [c])) = i ++ [c]) ↔ ¬ (c.toNat = 0 ∧ 0 < i.length) := by
  have h10 : (128 : Nat) ^ (9 + 1) = 1180591620717411303424 := by decide
  constructor
  · rintro h ⟨hc0, hi⟩
    obtain ⟨i', c', h1, _, _, _, h5, h6, _⟩ := pack_form 9 (le128 (i ++ [c])) (by omega)
    have h1' : i ++ [c] = i' ++ [c'] := h.symm.trans h1
    obtain ⟨ha, hb⟩ := List.append_inj' h1' rfl
    have hb' : c = c' := by simpa using hb
    subst ha; subst hb'
    rcases Nat.eq_zero_or_pos (le128 (i ++ [c])) with h0 | h0
    · rw [h6 h0] at hi; simp at hi
    · have := h5 h0; omega
  · intro h
    refine packF_le128 9 i c h9 hall hc ?_
    rcases Nat.eq_zero_or_pos i.length with h0 | h0
    · exact .inl (List.eq_nil_of_length_eq_zero h0)
    · right
      rcases Nat.eq_zero_or_pos c.toNat with h1 | h1
      · exact absurd ⟨h1, h0⟩ h
      · exact h1

end Go.Proofs.YtogonkoeginoaaaGreatDoor
