/-
  Plain facts on octets: big-endian octets of a number, packed octets. No program in sight.
-/
namespace Go.Proofs.YtogonkoeginoaaaGreatDoor

/-- A string's octets as a list. -/
def bs (l : List UInt8) : ByteArray := ⟨l.toArray⟩
theorem bs_data (l : List UInt8) : (bs l).data.toList = l := rfl
theorem bs_size (l : List UInt8) : (bs l).size = l.length := rfl
theorem bs_inj {a b : List UInt8} (h : bs a = bs b) : a = b := by
  exact congrArg (fun s : ByteArray => s.data.toList) h
theorem bs_of (s : ByteArray) : bs s.data.toList = s := rfl

/-- The number's low k octets, the highest first. -/
def octs : Nat → Nat → List UInt8
  | 0, _ => []
  | k + 1, n => UInt8.ofNat (n / 256 ^ k) :: octs k n

theorem octs_length (k n : Nat) : (octs k n).length = k := by
  induction k with
  | zero => rfl
  | succ k ih => simp [octs, ih]

def val (l : List UInt8) : Nat := l.foldl (fun a b => 256 * a + b.toNat) 0

theorem val_snoc (l : List UInt8) (c : UInt8) : val (l ++ [c]) = 256 * val l + c.toNat := by simp [val]

theorem foldl_val (l : List UInt8) : ∀ a : Nat, l.foldl (fun a b => 256 * a + b.toNat) a = 256 ^ l.length * a + val l := by
  induction l with
  | nil => intro a; simp [val]
  | cons c l ih =>
    intro a
    have h0 : val (c :: l) = 256 ^ l.length * c.toNat + val l := by
      show List.foldl _ _ _ = _
      rw [List.foldl_cons, Nat.mul_zero, Nat.zero_add, ih]
    rw [List.foldl_cons, ih, h0]
    simp only [List.length_cons, Nat.pow_succ, Nat.mul_add, Nat.add_assoc, Nat.mul_assoc]

theorem val_cons (c : UInt8) (l : List UInt8) : val (c :: l) = 256 ^ l.length * c.toNat + val l := by
  show List.foldl _ _ _ = _
  rw [List.foldl_cons, foldl_val]
  simp

theorem val_append (a b : List UInt8) : val (a ++ b) = 256 ^ b.length * val a + val b := by
  show List.foldl _ _ _ = _
  rw [List.foldl_append, foldl_val]
  rfl

theorem val_lt (l : List UInt8) : val l < 256 ^ l.length := by
  induction l with
  | nil => simp [val]
  | cons c l ih =>
    rw [val_cons, List.length_cons, Nat.pow_succ]
    have hc : c.toNat < 256 := c.toNat_lt
    have : 256 ^ l.length * c.toNat ≤ 256 ^ l.length * 255 := Nat.mul_le_mul_left _ (by omega)
    omega

theorem octs_mod (k n : Nat) : octs k (n % 256 ^ k) = octs k n := by
  suffices h : ∀ j k n, k ≤ j → octs k (n % 256 ^ j) = octs k n from h k k n (Nat.le_refl _)
  intro j k n
  induction k with
  | zero => intro _; rfl
  | succ k ih =>
    intro hk
    have e : 256 ^ j = 256 ^ k * (256 * 256 ^ (j - k - 1)) := by
      rw [← Nat.mul_assoc, ← Nat.pow_succ, ← Nat.pow_add]; congr 1; omega
    have h1 : n % 256 ^ j / 256 ^ k = n / 256 ^ k % (256 * 256 ^ (j - k - 1)) := by
      rw [e, Nat.mod_mul_right_div_self]
    have h2 : UInt8.ofNat (n % 256 ^ j / 256 ^ k) = UInt8.ofNat (n / 256 ^ k) := by
      rw [h1]
      apply UInt8.toNat_inj.1
      simp [Nat.mod_mul_right_mod]
    simp only [octs, h2, ih (by omega)]

theorem val_octs (k n : Nat) : val (octs k n) = n % 256 ^ k := by
  induction k with
  | zero => simp [octs, val, Nat.mod_one]
  | succ k ih =>
    simp only [octs, val_cons, octs_length, ih]
    have : (UInt8.ofNat (n / 256 ^ k)).toNat = n / 256 ^ k % 256 := by simp
    rw [this, Nat.pow_succ, Nat.mod_mul]
    omega

theorem octs_val (l : List UInt8) : octs l.length (val l) = l := by
  induction l with
  | nil => rfl
  | cons c l ih =>
    have hl := val_lt l
    have hp : 0 < 256 ^ l.length := Nat.pow_pos (by decide)
    have h1 : val (c :: l) / 256 ^ l.length = c.toNat := by
      rw [val_cons, Nat.mul_add_div hp, Nat.div_eq_of_lt hl]; simp
    have h2 : octs l.length (val (c :: l)) = octs l.length (val l) := by
      rw [← octs_mod, val_cons, Nat.mul_add_mod, ← octs_mod l.length (val l)]
    simp only [List.length_cons, octs, h1, h2, ih]
    simp

/-- What 'Put' gives. -/
def putOk (n : Nat) (wide : Int) : Bool := decide (1 ≤ wide ∧ wide ≤ 8 ∧ n < 256 ^ wide.toNat)
def putS (n : Nat) (wide : Int) : ByteArray := bif putOk n wide then bs (octs wide.toNat n) else ByteArray.empty
def putE (n : Nat) (wide : Int) : Int := bif putOk n wide then 0 else 1

/-- Packed octets, of a number that is below 128 ^ f. -/
def packF : Nat → Nat → List UInt8
  | 0, _ => []
  | f + 1, n => if n < 128 then [UInt8.ofNat n] else UInt8.ofNat (128 + n % 128) :: packF f (n / 128)
def pack (n : Nat) : List UInt8 := packF 10 n

theorem packF_small {f n : Nat} (h : n < 128) : packF (f + 1) n = [UInt8.ofNat n] := by rw [packF, if_pos h]
theorem packF_more {f n : Nat} (h : ¬ n < 128) : packF (f + 1) n = UInt8.ofNat (128 + n % 128) :: packF f (n / 128) := by rw [packF, if_neg h]

/-- How far packing can come: k octets are there, q is left. -/
theorem pack_bound {q k m : Nat} (hm : m < 18446744073709551616) (h : q * 128 ^ k ≤ m) (hq : 128 ≤ q) : k ≤ 8 := by
  rcases Nat.lt_or_ge k 9 with h9 | h9
  · omega
  · exfalso
    have h1 : 128 ^ 9 ≤ 128 ^ k := Nat.pow_le_pow_right (by decide) h9
    have h2 : 128 * 128 ^ k ≤ q * 128 ^ k := Nat.mul_le_mul_right _ hq
    have h3 : (128 : Nat) ^ 9 = 9223372036854775808 := by decide
    omega
theorem pack_next {q k m : Nat} (h : q * 128 ^ k ≤ m) : q / 128 * 128 ^ (k + 1) ≤ m := by
  refine Nat.le_trans ?_ h
  rw [Nat.pow_succ, Nat.mul_comm (128 ^ k) 128, ← Nat.mul_assoc]
  exact Nat.mul_le_mul_right _ (Nat.div_mul_le_self q 128)

/-- What 'Get' gives. -/
def getOk (s : ByteArray) : Bool := decide (1 ≤ s.size ∧ s.size ≤ 8)
def getV (s : ByteArray) : Nat := bif getOk s then val s.data.toList else 0
def getE (s : ByteArray) : Int := bif getOk s then 0 else 1

/-- How many octets at the front go on. -/
def lead : Nat → List UInt8 → Nat
  | 0, _ => 0
  | _ + 1, [] => 0
  | f + 1, c :: r => if 128 ≤ c.toNat then lead f r + 1 else 0

/-- The number of packed octets. -/
def le128 : List UInt8 → Nat
  | [] => 0
  | c :: r => c.toNat % 128 + 128 * le128 r

/-- What 'Unpack' gives: the number, how many octets, the error. -/
def unpack (l : List UInt8) : Nat × Nat × Nat :=
  if 10 ≤ lead 10 l then (0, 0, 2) else
  if lead 10 l = l.length then (0, 0, 3) else
  if (l.getD (lead 10 l) 0).toNat = 0 ∧ 0 < lead 10 l ∨ lead 10 l = 9 ∧ 1 < (l.getD (lead 10 l) 0).toNat then (0, 0, 2) else
  (le128 (l.take (lead 10 l + 1)), lead 10 l + 1, 0)

theorem lead_of (f : Nat) : ∀ (l : List UInt8) (k : Nat), k ≤ f → k ≤ l.length → (∀ j, j < k → 128 ≤ (l.getD j 0).toNat) → (k = f ∨ k = l.length ∨ (l.getD k 0).toNat < 128) → lead f l = k := by
  induction f with
  | zero => intro l k hk _ _ _; simp [lead]; omega
  | succ f ih =>
    intro l k hk hl hall hstop
    cases l with
    | nil => simp at hl; simp [lead, hl]
    | cons c r =>
      cases k with
      | zero =>
        rcases hstop with h | h | h
        · omega
        · simp at h
        · rw [lead, if_neg (by simpa using h)]
      | succ k =>
        have h0 := hall 0 (by omega)
        rw [lead, if_pos (by simpa using h0)]
        rw [ih r k (by omega) (by simpa using hl) (fun j hj => by simpa using hall (j + 1) (by omega)) (by
          rcases hstop with h | h | h
          · exact .inl (by omega)
          · exact .inr (.inl (by simpa using h))
          · exact .inr (.inr (by simpa using h)))]

theorem le128_snoc (l : List UInt8) (c : UInt8) : le128 (l ++ [c]) = le128 l + c.toNat % 128 * 128 ^ l.length := by
  induction l with
  | nil => simp [le128]
  | cons d l ih =>
    simp only [List.cons_append, le128, ih, List.length_cons, Nat.pow_succ, Nat.mul_add]
    rw [Nat.mul_left_comm 128 (c.toNat % 128), Nat.mul_comm 128 (128 ^ l.length)]
    omega
theorem le128_lt (l : List UInt8) : le128 l < 128 ^ l.length := by
  induction l with
  | nil => simp [le128]
  | cons c r ih =>
    simp only [le128, List.length_cons, Nat.pow_succ]
    omega

/-- A signed number's number, and back. -/
def foldN (a : Int) : Int := if 0 ≤ a then 2 * a else -2 * a - 1
def unfoldN (m : Int) : Int := if m % 2 = 0 then m / 2 else -(m / 2) - 1

end Go.Proofs.YtogonkoeginoaaaGreatDoor
