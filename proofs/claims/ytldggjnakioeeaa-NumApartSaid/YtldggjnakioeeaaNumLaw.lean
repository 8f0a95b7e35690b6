/-
  Plain facts on octets that the laws of layer 1 need: order, prefixes, how many. No walk.
-/
import Derived.Test.YtldggjnakioeeaaMem
namespace Go.Proofs.Ytldggjnakioeeaa
open Go.RowKit

theorem bytesLess_octs (k : Nat) : ∀ a b : Nat, a < 256 ^ k → b < 256 ^ k → Op.bytesLess (octs k a) (octs k b) = decide (a < b) := by
  induction k with
  | zero => intro a b ha hb; simp at ha hb; subst ha; subst hb; rfl
  | succ k ih =>
    intro a b ha hb
    have hp : 0 < 256 ^ k := Nat.pow_pos (by decide)
    have qa : a / 256 ^ k < 256 := Nat.div_lt_of_lt_mul (by rw [Nat.pow_succ] at ha; omega)
    have qb : b / 256 ^ k < 256 := Nat.div_lt_of_lt_mul (by rw [Nat.pow_succ] at hb; omega)
    have ra : a % 256 ^ k < 256 ^ k := Nat.mod_lt _ hp
    have rb : b % 256 ^ k < 256 ^ k := Nat.mod_lt _ hp
    have ea := Nat.div_add_mod a (256 ^ k)
    have eb := Nat.div_add_mod b (256 ^ k)
    have h := ih (a % 256 ^ k) (b % 256 ^ k) ra rb
    rw [octs_mod, octs_mod] at h
    simp only [octs, Op.bytesLess, h]
    generalize a / 256 ^ k = x at *
    generalize b / 256 ^ k = y at *
    generalize a % 256 ^ k = r at *
    generalize b % 256 ^ k = t at *
    generalize 256 ^ k = p at *
    have e1 : decide (UInt8.ofNat x < UInt8.ofNat y) = decide (x < y) := by
      rw [decide_eq_decide, UInt8.lt_iff_toNat_lt]
      simp only [UInt8.toNat_ofNat']
      omega
    have e2 : (UInt8.ofNat x == UInt8.ofNat y) = decide (x = y) := by
      rw [Bool.eq_iff_iff, beq_iff_eq, decide_eq_true_iff, ← UInt8.toNat_inj]
      simp only [UInt8.toNat_ofNat']
      omega
    rw [e1, e2]
    rcases Nat.lt_trichotomy x y with hxy | hxy | hxy
    · have : p * (x + 1) ≤ p * y := Nat.mul_le_mul_left _ hxy
      have h3 : a < b := by rw [Nat.mul_add] at this; omega
      simp [hxy, h3]
    · subst hxy
      have : (r < t) ↔ (a < b) := by omega
      simp [this]
    · have : p * (y + 1) ≤ p * x := Nat.mul_le_mul_left _ hxy
      have h3 : ¬ a < b := by rw [Nat.mul_add] at this; omega
      have h4 : ¬ x < y := by omega
      have h5 : ¬ x = y := by omega
      simp [h4, h5, h3]

/-- Packed octets of two numbers: none begins with the other's. -/
theorem packF_prefix (f : Nat) : ∀ (a b : Nat) (x y : List UInt8), a < 128 ^ (f + 1) → b < 128 ^ (f + 1) → packF (f + 1) a ++ x = packF (f + 1) b ++ y → a = b := by
  have small : ∀ n : Nat, n < 128 → (UInt8.ofNat n).toNat = n := by intro n hn; rw [UInt8.toNat_ofNat']; omega
  have big : ∀ n : Nat, (UInt8.ofNat (128 + n % 128)).toNat = 128 + n % 128 := by intro n; rw [UInt8.toNat_ofNat']; omega
  induction f with
  | zero =>
    intro a b x y ha hb h
    have ha' : a < 128 := by simpa using ha
    have hb' : b < 128 := by simpa using hb
    rw [packF_small ha', packF_small hb'] at h
    have h0 := congrArg UInt8.toNat (List.cons.inj h).1
    rwa [small a ha', small b hb'] at h0
  | succ f ih =>
    intro a b x y ha hb h
    by_cases ha' : a < 128
    · by_cases hb' : b < 128
      · rw [packF_small ha', packF_small hb'] at h
        have h0 := congrArg UInt8.toNat (List.cons.inj h).1
        rwa [small a ha', small b hb'] at h0
      · rw [packF_small ha', packF_more hb'] at h
        have h0 := congrArg UInt8.toNat (List.cons.inj h).1
        rw [small a ha', big b] at h0
        omega
    · by_cases hb' : b < 128
      · rw [packF_more ha', packF_small hb'] at h
        have h0 := congrArg UInt8.toNat (List.cons.inj h).1
        rw [small b hb', big a] at h0
        omega
      · rw [packF_more ha', packF_more hb'] at h
        obtain ⟨h0, h1⟩ := List.cons.inj h
        have h0 := congrArg UInt8.toNat h0
        rw [big a, big b] at h0
        have h2 := ih (a / 128) (b / 128) x y (Nat.div_lt_of_lt_mul (by rw [Nat.pow_succ] at ha; omega)) (Nat.div_lt_of_lt_mul (by rw [Nat.pow_succ] at hb; omega)) h1
        omega
theorem pack_prefix {a b : Nat} (ha : a < 18446744073709551616) (hb : b < 18446744073709551616) {x y : List UInt8} (h : pack a ++ x = pack b ++ y) : a = b := by
  have h10 : (128 : Nat) ^ (9 + 1) = 1180591620717411303424 := by decide
  exact packF_prefix 9 a b x y (by omega) (by omega) h

/-- How many octets packing takes: one, and one more for each time that 128 goes in. -/
def packLen : Nat → Nat → Nat
  | 0, _ => 0
  | f + 1, n => if n < 128 then 1 else packLen f (n / 128) + 1
theorem packF_length (f : Nat) : ∀ n, (packF f n).length = packLen f n := by
  induction f with
  | zero => intro n; rfl
  | succ f ih =>
    intro n
    by_cases h : n < 128
    · rw [packF_small h, packLen, if_pos h]; rfl
    · rw [packF_more h, packLen, if_neg h, List.length_cons, ih]
theorem packLen_le (f : Nat) : ∀ n, packLen f n ≤ f := by
  induction f with
  | zero => intro n; exact Nat.le_refl _
  | succ f ih =>
    intro n
    rw [packLen]
    split
    · omega
    · have := ih (n / 128); omega
theorem packLen_mono (f : Nat) : ∀ a b, a ≤ b → packLen f a ≤ packLen f b := by
  induction f with
  | zero => intro a b _; exact Nat.le_refl _
  | succ f ih =>
    intro a b h
    rw [packLen, packLen]
    by_cases ha : a < 128
    · rw [if_pos ha]; split <;> omega
    · rw [if_neg ha, if_neg (by omega)]
      have := ih (a / 128) (b / 128) (by omega)
      omega
theorem packLen_pos (f n : Nat) : 1 ≤ packLen (f + 1) n := by
  rw [packLen]; split <;> omega

end Go.Proofs.Ytldggjnakioeeaa
