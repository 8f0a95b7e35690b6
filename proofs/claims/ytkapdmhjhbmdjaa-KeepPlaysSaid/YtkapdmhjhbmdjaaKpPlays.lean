/-
  The walks through the document's functions of layer 19: Size, Room, number, Kept: what lies on the drive is what is kept. The walk through the document's Kept: what lies on the drive is what is kept. What the walk through KeepPlays needs of Keeps: the drive's value, and a row beside a Keep. The walk through the statement KeepPlays: it returns true.
-/
import Derived.Test.YtkapdmhjhbmdjaaKpA
import Derived.Test.YtkapdmhjhbmdjaaRefL
import Derived.Deep.QuietTactic
import Derived.BigQuiet
import Derived.Test.YtkapdmhjhbmdjaaKpD
import Derived.Test.YtkapdmhjhbmdjaaOpenActs
namespace Go.Proofs.Ytkapdmhjhbmdjaa
open Go.RowKit

set_option maxRecDepth 100000 in
set_option maxHeartbeats 800000 in
theorem refsize_any (h : Hv) (w : World) (ho : h.Ok) : Calls Try.prog 58 #[hvVal h] w fun e w' => e = .returned (.int .i64 (h.size : Int)) ∧ Below w.heap.size w w' := by
  obtain ⟨g, t⟩ := h
  obtain ⟨h1, h2, h3, h4⟩ := ho
  simp only at h1 h2 h3 h4
  unfold hvVal Hv.size
  simp only
  have hb : Below w.heap.size w (w.alloc (.cells #[.int .i64 (g : Int), .int .i64 (t : Int)] 89)) := (Below.refl _ _).alloc (Nat.le_refl _) _
  have hB := Blk.new w [.int .i64 (g : Int), .int .i64 (t : Int)] 89
  obtain ⟨p0, p1, p2, p3⟩ := hB.pair
  have d1 : ¬ (g : Int) < 1 := by omega
  have d2 : ¬ (g : Int) > 1500 := by omega
  have d3 : ¬ (t : Int) < 1 := by omega
  have d4 : ¬ (t : Int) > 1000 := by omega
  have hr : (2 : Int) * (g : Int) + 2 * (t : Int) + 2 = ((2 + 2 * (g + t) : Nat) : Int) := by omega
  rw [← hr]
  clear hr
  go_enter Try.func58, Try.ntmps58
  go_wp2_with fail
  go_ret
  exact ⟨rfl, hb⟩

theorem span_take_succ (l : List (List UInt8)) (i : Nat) (h : i < l.length) : span (l.take (i + 1)) = span (l.take i) + kOf (l.getD i []).length := by
  have e : l.take (i + 1) = l.take i ++ [l.getD i []] := by
    rw [List.take_add_one, List.getElem?_eq_getElem h, List.getD_eq_getElem?_getD, List.getElem?_eq_getElem h]
    rfl
  rw [e, span_append, span_cons]
  simp [span]
theorem cellsOf_short {n : Nat} (h : n ≤ 4000) : cellsOf (n : Int) = (kOf n : Int) := by
  unfold cellsOf
  rw [if_neg (by omega)]
  rfl
theorem cellsOf_nat (n : Nat) : ∃ k : Nat, cellsOf (n : Int) = (k : Int) ∧ k ≤ 67 := by
  by_cases h : n ≤ 4000
  · exact ⟨_, cellsOf_short h, kOf_max h⟩
  · exact ⟨0, by unfold cellsOf; rw [if_pos (by omega)]; rfl, by omega⟩

set_option maxRecDepth 100000 in
set_option maxHeartbeats 1600000 in
theorem refroom_any (h : Hv) (ao : Option Addr) (n c : Nat) (l : List (List UInt8)) (s : List UInt8) (w : World) (hl : Strs w ao n l) (hn : n ≤ 2000) (hs : ∀ x ∈ l, x.length ≤ 4000) (ho : h.Ok) (hsz : s.length < 9223372036854775808) (hsp : span l ≤ 2000) :
    Calls Try.prog 60 #[hvVal h, .slice ao n c, .string (bs s)] w fun e w' => e = .returned (.bool (decide ((span l : Int) + cellsOf (s.length : Int) ≤ (h.log : Int)))) ∧ Below w.heap.size w w' := by
  have HL := hide hl
  have hll := hl.len
  obtain ⟨cz, hcz, hcz2⟩ := cellsOf_nat s.length
  have HC0 := hide (fun w => refcells18_any (s.length : Int) w (by omega))
  rw [hcz] at HC0 ⊢
  have HCk : Hid (∀ k, k < n → ∀ w, Calls Try.prog 45 #[.int .i64 ((bs (l.getD k [])).size : Int)] w fun e w' => e = .returned (.int .i64 ((kOf (l.getD k []).length : Nat) : Int)) ∧ w = w') := hide (fun k hk w => by
    have e : l.getD k [] ∈ l := by
      rw [List.getD_eq_getElem?_getD, List.getElem?_eq_getElem (by omega)]
      exact List.getElem_mem _
    have hle := hs _ e
    have h := refcells18_any ((l.getD k []).length : Int) w (by omega)
    rw [cellsOf_short hle] at h
    rw [bs_size]
    exact h)
  have HKM : Hid (∀ k, k < n → span (l.take (k + 1)) = span (l.take k) + kOf (l.getD k []).length) := hide (fun k hk => span_take_succ l k (by omega))
  have HSP : Hid (∀ k, span (l.take k) ≤ 2000) := hide (fun k => Nat.le_trans (span_take_le l k) hsp)
  have HFULL : Hid (span (l.take n) = span l) := hide (by rw [← hll, List.take_length])
  have hsv : (bs s).size = s.length := bs_size s
  obtain ⟨sl, hsl⟩ : ∃ z, s.length = z := ⟨_, rfl⟩
  obtain ⟨sv, hsv'⟩ : ∃ z, bs s = z := ⟨_, rfl⟩
  rw [hsl] at HC0 hsv hsz
  rw [hsv'] at hsv ⊢
  subst hsv
  obtain ⟨g, t⟩ := h
  obtain ⟨h1, h2, h3, h4⟩ := ho
  simp only at h1 h2 h3 h4
  unfold hvVal
  simp only
  have hb : Below w.heap.size w (w.alloc (.cells #[.int .i64 (g : Int), .int .i64 (t : Int)] 89)) := (Below.refl _ _).alloc (Nat.le_refl _) _
  have hB := Blk.new w [.int .i64 (g : Int), .int .i64 (t : Int)] 89
  obtain ⟨W0, hW0⟩ : ∃ z, w.alloc (.cells #[.int .i64 (g : Int), .int .i64 (t : Int)] 89) = z := ⟨_, rfl⟩
  rw [hW0] at hb
  have C3 : Blk W0 w.heap.size [.int .i64 (g : Int), .int .i64 (t : Int)] 89 := by rw [← hW0]; exact hB
  have HL0 := hide (HL.out.below hb)
  clear hl hs hsl hsv' hcz hll hsp hB
  go_enter Try.func60, Try.ntmps60
  go_upto_region 1 with fail
  try rw [hW0]
  clear hW0
  obtain ⟨b3, hb3⟩ : ∃ z, w.heap.size = z := ⟨_, rfl⟩
  rw [hb3] at C3 ⊢
  obtain ⟨p0, p1, p2, p3⟩ := C3.pair
  clear hb3
  go_wp2_with fail
  refine (HC0.out _).mono ?_
  rintro e w1 ⟨rfl, rfl⟩
  go_wp2_with fail
  go_loopw [7, 8] (fun s7 s8 wr => ∃ (k : Nat), k ≤ n ∧ s8 = .int .i64 (k : Int) ∧ s7 = .int .i64 ((cz + span (l.take k) : Nat) : Int) ∧ wr = W0) (fun _ s8 _ => n - (intOf s8).toNat)
  case atStart => exact ⟨0, Nat.zero_le _, rfl, by simp [span], rfl⟩
  case round =>
    obtain ⟨k, hkn, rfl, rfl, rfl⟩ := hrel
    have hspk := HSP.out k
    by_cases hk : k < n
    · have hki : (k : Int) < (n : Int) := by omega
      obtain ⟨bx, ox, hlx, hix, hcx⟩ := HL0.out.at c k hk
      have HCC := hide (HCk.out k hk)
      have HKK := hide (HKM.out k hk)
      obtain ⟨x0, hx0⟩ : ∃ z, bs (l.getD k []) = z := ⟨_, rfl⟩
      obtain ⟨z0, hz0⟩ : ∃ z, kOf (l.getD k []).length = z := ⟨_, rfl⟩
      rw [hx0] at hcx HCC
      rw [hz0] at HCC HKK
      have hsn := HSP.out (k + 1)
      rw [HKK.out] at hsn
      obtain ⟨q, hq⟩ : ∃ q, cz + span (l.take k) = q := ⟨_, rfl⟩
      rw [hq]
      have hqb : q ≤ 2067 := by omega
      have HQ := hide hq
      clear hx0 hz0 hq hspk
      go_wp2_with fail
      refine (HCC.out _).mono ?_
      rintro e w6 ⟨rfl, rfl⟩
      go_wp2_with fail
      go_roundw
      case rel => exact ⟨k + 1, by omega, by go_num, by rw [HKK.out, ← Nat.add_assoc, HQ.out]; go_num, trivial⟩
      case measure => simp [intOf]; omega
    · have hkk : k = n := by omega
      subst hkk
      rw [HFULL.out]
      go_wp2_with fail
      go_ret
      refine ⟨?_, hb⟩
      have e : decide ((cz : Int) + (span l : Int) ≤ (g : Int)) = decide ((span l : Int) + (cz : Int) ≤ (g : Int)) := by
        congr 1
        exact propext (by omega)
      show Ending.returned (.bool (decide ((cz : Int) + (span l : Int) ≤ (g : Int)))) = _
      rw [e]

set_option maxRecDepth 100000 in
theorem refnum_any (s : ByteArray) (v : Nat) (w : World) (h1 : 1 ≤ s.size) (hs : s.size ≤ 4) (hv : val s.data.toList = v) : Calls Try.prog 86 #[.string s] w fun e w' => e = .returned (.int .i64 (v : Int)) ∧ w = w' := by
  have hb : v < 4294967296 := by
    rw [← hv]
    have h1 := val_lt s.data.toList
    have h2 : 256 ^ s.data.toList.length ≤ 256 ^ 4 := Nat.pow_le_pow_right (by decide) hs
    exact Nat.lt_of_lt_of_le h1 h2
  have HG := hide (fun w => refget_any s w (by unfold maxLen; omega))
  have hok : getOk s = true := by
    unfold getOk
    exact decide_eq_true (by omega)
  have hgv : getV s = v := by
    unfold getV
    rw [hok, hv]
    rfl
  rw [hgv, hok] at HG
  have hwv : IntKind.i64.wrap (v : Int) = (v : Int) := IntWalk.i64_in _ (by omega)
  clear hv hs hgv hok
  go_enter Try.func86, Try.ntmps86
  go_wp2_with fail
  refine (HG.out _).mono ?_
  rintro e w1 ⟨rfl, rfl⟩
  go_wp2_with fail
  go_ret
  exact ⟨rfl, rfl⟩

/-- What a head's cell has behind its numbers. -/
theorem tail_ok (c : List UInt8) (hc : c.length = 64) : hdOct (hdOf c) = c ↔ ((c.drop 11).take 49 = List.replicate 49 0 ∧ (c.drop 60).take 3 = c.take 3 ∧ c.getD 63 0 = 3) := by
  have dk : ∀ a b, c.drop a = (c.drop a).take b ++ c.drop (a + b) := fun a b => by rw [← List.drop_drop]; exact (List.take_append_drop b _).symm
  have d0 : c = c.take 3 ++ c.drop 3 := (List.take_append_drop 3 c).symm
  have d1 : c.drop 3 = (c.drop 3).take 1 ++ c.drop 4 := dk 3 1
  have d2 : c.drop 4 = (c.drop 4).take 3 ++ c.drop 7 := dk 4 3
  have d3 : c.drop 7 = (c.drop 7).take 4 ++ c.drop 11 := dk 7 4
  have d4 : c.drop 11 = (c.drop 11).take 49 ++ c.drop 60 := dk 11 49
  have d5 : c.drop 60 = (c.drop 60).take 3 ++ c.drop 63 := dk 60 3
  have d6 : c.drop 63 = [c.getD 63 0] := by
    rw [List.drop_eq_getElem_cons (by omega), List.drop_eq_nil_of_le (by omega), List.getD_eq_getElem?_getD, List.getElem?_eq_getElem (by omega)]
    rfl
  have hsp : c = c.take 3 ++ ((c.drop 3).take 1 ++ ((c.drop 4).take 3 ++ ((c.drop 7).take 4 ++ ((c.drop 11).take 49 ++ ((c.drop 60).take 3 ++ [c.getD 63 0]))))) := by
    rw [d6] at d5
    exact d0.trans (congrArg (c.take 3 ++ ·) (d1.trans (congrArg ((c.drop 3).take 1 ++ ·) (d2.trans (congrArg ((c.drop 4).take 3 ++ ·) (d3.trans (congrArg ((c.drop 7).take 4 ++ ·) (d4.trans (congrArg ((c.drop 11).take 49 ++ ·) d5)))))))))
  have o : ∀ (l : List UInt8) (k : Nat), l.length = k → octs k (val l) = l := fun l k h => by rw [← h]; exact octs_val l
  have o1 := o (c.take 3) 3 (by rw [List.length_take]; omega)
  have o2 := o ((c.drop 3).take 1) 1 (by rw [List.length_take, List.length_drop]; omega)
  have o3 := o ((c.drop 4).take 3) 3 (by rw [List.length_take, List.length_drop]; omega)
  have o4 := o ((c.drop 7).take 4) 4 (by rw [List.length_take, List.length_drop]; omega)
  have e : hdOct (hdOf c) = c.take 3 ++ ((c.drop 3).take 1 ++ ((c.drop 4).take 3 ++ ((c.drop 7).take 4 ++ (List.replicate 49 0 ++ (c.take 3 ++ [3]))))) := by
    unfold hdOct hdOf
    simp only
    rw [o1, o2, o3, o4]
    simp only [List.append_assoc]
  rw [e]
  generalize ha : c.take 3 = a at *
  generalize hb : (c.drop 3).take 1 = b at *
  generalize hd : (c.drop 4).take 3 = d at *
  generalize hg : (c.drop 7).take 4 = g at *
  have hz : ((c.drop 11).take 49).length = 49 := by rw [List.length_take, List.length_drop]; omega
  have hy : ((c.drop 60).take 3).length = 3 := by rw [List.length_take, List.length_drop]; omega
  have hal : a.length = 3 := by rw [← ha, List.length_take]; omega
  generalize (c.drop 11).take 49 = z at *
  generalize (c.drop 60).take 3 = y at *
  generalize c.getD 63 0 = x at *
  constructor
  · intro h
    rw [hsp] at h
    have h1 := List.append_cancel_left (List.append_cancel_left (List.append_cancel_left (List.append_cancel_left h)))
    obtain ⟨h2, h3⟩ := List.append_inj h1 (by rw [List.length_replicate, hz])
    obtain ⟨h4, h5⟩ := List.append_inj h3 (by rw [hal, hy])
    injection h5 with h5
    exact ⟨h2.symm, h4.symm, h5.symm⟩
  · rintro ⟨rfl, rfl, rfl⟩
    exact hsp.symm

/-- Does a cell count, behind the best one yet? -/
def keptOk (h : Hv) (c : List UInt8) (i best : Nat) : Prop := beOk h c i = true ∧ best < (hdOf c).gen
theorem kept_cases (h : Hv) (c : List UInt8) (i best : Nat) (hc : c.length = 64) :
    ((hdOf c).gen ≤ best ∧ ¬ keptOk h c i best) ∨
    (¬ (hdOf c).gen ≤ best ∧ ¬ (hdOf c).gen % 2 = i ∧ ¬ keptOk h c i best) ∨
    (¬ (hdOf c).gen ≤ best ∧ (hdOf c).gen % 2 = i ∧ 1 < (hdOf c).half ∧ ¬ keptOk h c i best) ∨
    (¬ (hdOf c).gen ≤ best ∧ (hdOf c).gen % 2 = i ∧ ¬ 1 < (hdOf c).half ∧ (hdOf c).serial < 1 ∧ ¬ keptOk h c i best) ∨
    (¬ (hdOf c).gen ≤ best ∧ (hdOf c).gen % 2 = i ∧ ¬ 1 < (hdOf c).half ∧ ¬ (hdOf c).serial < 1 ∧ 64 * h.text < (hdOf c).size ∧ ¬ keptOk h c i best) ∨
    (¬ (hdOf c).gen ≤ best ∧ (hdOf c).gen % 2 = i ∧ ¬ 1 < (hdOf c).half ∧ ¬ (hdOf c).serial < 1 ∧ ¬ 64 * h.text < (hdOf c).size ∧ decide ((c.drop 11).take 49 = List.replicate 49 0) = false ∧ ¬ keptOk h c i best) ∨
    (¬ (hdOf c).gen ≤ best ∧ (hdOf c).gen % 2 = i ∧ ¬ 1 < (hdOf c).half ∧ ¬ (hdOf c).serial < 1 ∧ ¬ 64 * h.text < (hdOf c).size ∧ decide ((c.drop 11).take 49 = List.replicate 49 0) = true ∧ decide ((c.drop 60).take 3 = c.take 3) = false ∧ ¬ keptOk h c i best) ∨
    (¬ (hdOf c).gen ≤ best ∧ (hdOf c).gen % 2 = i ∧ ¬ 1 < (hdOf c).half ∧ ¬ (hdOf c).serial < 1 ∧ ¬ 64 * h.text < (hdOf c).size ∧ decide ((c.drop 11).take 49 = List.replicate 49 0) = true ∧ decide ((c.drop 60).take 3 = c.take 3) = true ∧ ¬ (c.getD 63 0).toNat = 3 ∧ ¬ keptOk h c i best) ∨
    (¬ (hdOf c).gen ≤ best ∧ (hdOf c).gen % 2 = i ∧ ¬ 1 < (hdOf c).half ∧ ¬ (hdOf c).serial < 1 ∧ ¬ 64 * h.text < (hdOf c).size ∧ decide ((c.drop 11).take 49 = List.replicate 49 0) = true ∧ decide ((c.drop 60).take 3 = c.take 3) = true ∧ (c.getD 63 0).toNat = 3 ∧ keptOk h c i best) := by
  have ht := tail_ok c hc
  unfold keptOk beOk
  generalize (c.drop 11).take 49 = z at *
  generalize (c.drop 60).take 3 = y at *
  generalize c.take 3 = a at *
  have hx : (c.getD 63 0).toNat = 3 ↔ c.getD 63 0 = 3 := by
    constructor
    · intro h; exact UInt8.toNat_inj.1 (by rw [h]; rfl)
    · intro h; rw [h]; rfl
  generalize c.getD 63 0 = x at *
  generalize hdOf c = m at *
  by_cases h1 : m.gen ≤ best
  · exact .inl ⟨h1, fun h => by omega⟩
  refine .inr ?_
  by_cases h2 : m.gen % 2 = i
  · refine .inr ?_
    by_cases h3 : 1 < m.half
    · exact .inl ⟨h1, h2, h3, fun h => by have := h.1; simp at this; omega⟩
    refine .inr ?_
    by_cases h4 : m.serial < 1
    · exact .inl ⟨h1, h2, h3, h4, fun h => by have := h.1; simp at this; omega⟩
    refine .inr ?_
    by_cases h5 : 64 * h.text < m.size
    · exact .inl ⟨h1, h2, h3, h4, h5, fun h => by have := h.1; simp at this; omega⟩
    refine .inr ?_
    by_cases h6 : z = List.replicate 49 0
    · refine .inr ?_
      by_cases h7 : y = a
      · refine .inr ?_
        by_cases h8 : x.toNat = 3
        · exact .inr ⟨h1, h2, h3, h4, h5, by simp [h6], by simp [h7], h8, by simp [ht.2 ⟨h6, h7, hx.1 h8⟩]; omega, by omega⟩
        · exact .inl ⟨h1, h2, h3, h4, h5, by simp [h6], by simp [h7], h8, fun h => by have := h.1; simp [ht] at this; exact h8 (hx.2 this.2.2.2)⟩
      · exact .inl ⟨h1, h2, h3, h4, h5, by simp [h6], by simp [h7], fun h => by have := h.1; simp [ht] at this; exact h7 this.2.2.1⟩
    · exact .inl ⟨h1, h2, h3, h4, h5, decide_eq_false h6, fun h => by have := h.1; simp [ht] at this; exact h6 this.2.1⟩
  · exact .inl ⟨h1, h2, fun h => by have := h.1; simp at this; omega⟩

end Go.Proofs.Ytkapdmhjhbmdjaa

namespace Go.Proofs.Ytkapdmhjhbmdjaa
open Go.RowKit

/-- More of a drive begins the same. -/
theorem seg_more (cs : List (List UInt8)) (p n n' k : Nat) (hcell : ∀ c ∈ cs, c.length = 64) (hn : n ≤ n') (hl : p + n' ≤ cs.length) (hk : k ≤ 64 * n) : (seg cs p n').flatten.take k = (seg cs p n).flatten.take k := by
  have e : seg cs p n' = seg cs p n ++ (seg cs p n').drop n := by
    have : seg cs p n = (seg cs p n').take n := by
      unfold seg
      rw [List.take_take, Nat.min_eq_left hn]
    rw [this]
    exact (List.take_append_drop n _).symm
  rw [e, List.flatten_append, List.take_append_of_le_length]
  rw [flatten_64 _ (fun c hc => hcell c (seg_mem hc)), seg_length _ _ _ (by omega)]
  omega

theorem quiet_here {P : Program} {f : FuncId} {args : Array Value} {w : World} {n : Nat} {v : Value} (h : Calls P f args (w.drewN n) fun e w' => e = .returned v ∧ w.drewN n = w') : Calls P f args (w.drewN n) fun e w'' => e = .returned v ∧ ∃ m, w'' = w.drewN m :=
  Go.Calls.quiet_of_same (h.mono fun _ _ ⟨a, b⟩ => ⟨a, b.symm⟩)

/-- What Kept has found, by the head m. -/
def KeptIs (w : World) (base : Nat) (m : Hd) (text : List UInt8) (l : List (List UInt8)) (best : Nat) (tv : ByteArray) (rv : Value) : Prop := best = m.gen ∧ tv = bs text ∧ OwnS w base rv l

theorem kept_skip {w w' : World} {base i best : Nat} {h : Hv} {m : Hd} {cs : List (List UInt8)} {text : List UInt8} {l : List (List UInt8)} {tv : ByteArray} {rv : Value} (hin : m.gen % 2 < i → KeptIs w base m text l best tv rv) (hout : i ≤ m.gen % 2 → best < m.gen) (hhead : cs.getD (m.gen % 2) [] = hdOct m) (hbe : beOk h (hdOct m) (m.gen % 2) = true) (hfo : hdOf (hdOct m) = m) (kn : ¬ keptOk h (cs.getD i []) i best) (hb : Below w.heap.size w w') :
    (m.gen % 2 < i + 1 → KeptIs w' base m text l best tv rv) ∧ (i + 1 ≤ m.gen % 2 → best < m.gen) := by
  refine ⟨fun hlt => ?_, fun hle => hout (by omega)⟩
  by_cases he : m.gen % 2 = i
  · exfalso
    apply kn
    subst he
    rw [hhead]
    exact ⟨hbe, by rw [hfo]; exact hout (Nat.le_refl _)⟩
  · obtain ⟨h1, h2, h3⟩ := hin (by omega)
    exact ⟨h1, h2, OwnZ.below h3 hb⟩
theorem kept_take {i best : Nat} {h : Hv} {m : Hd} {cs : List (List UInt8)} (hi : i < 2) (hin : m.gen % 2 < i → best = m.gen) (hhead : cs.getD (m.gen % 2) [] = hdOct m) (hother : beOk h (cs.getD (1 - m.gen % 2) []) (1 - m.gen % 2) = true → (hdOf (cs.getD (1 - m.gen % 2) [])).gen < m.gen) (hfo : hdOf (hdOct m) = m) (kk : keptOk h (cs.getD i []) i best) :
    (hdOf (cs.getD i [])).gen ≤ m.gen ∧ (i + 1 ≤ m.gen % 2 → (hdOf (cs.getD i [])).gen < m.gen) ∧ (m.gen % 2 < i + 1 → hdOf (cs.getD i []) = m) := by
  obtain ⟨k1, k2⟩ := kk
  by_cases he : i = m.gen % 2
  · subst he
    rw [hhead, hfo]
    exact ⟨Nat.le_refl _, fun h => by omega, fun _ => rfl⟩
  · obtain rfl : i = 1 - m.gen % 2 := by omega
    have h1 := hother k1
    refine ⟨by omega, fun _ => h1, fun h => ?_⟩
    have := hin (by omega)
    omega

set_option maxRecDepth 100000 in
set_option maxHeartbeats 6400000 in
theorem refkept_any (dv : Value) (h : Hv) (m : Hd) (cs : List (List UInt8)) (text : List UInt8) (l : List (List UInt8)) (w : World) (hd : IsDrive w dv ⟨cs, [], -1, false⟩) (on : OnKeep h cs m text l) (hs : m.serial + l.length ≤ 16777216) :
    Calls Try.prog 65 #[dv, hvVal h] w fun e w' => ∃ rv, e = .returned (.tuple #[.string (bs text), rv, .int .i64 (m.gen : Int)]) ∧ OwnS w' w.heap.size rv l ∧ Below w.heap.size w w' := by
  have hbnd := on.bound
  have hlen := on.len
  have HR : Hid (∀ i : Nat, i < 2 → ∀ (w : World), IsDrive w dv ⟨cs, [], -1, false⟩ → Calls Try.prog 36 #[dv, .int .i64 (i : Int), .int .i64 1] w fun e w' => e = .returned (.tuple #[.string (bs (cs.getD i [])), .int .i64 0]) ∧ Below w.heap.size w w') := hide (fun i hi w hd => by
    have h := refread_any dv _ (i : Int) 1 w hd (by omega) (by omega)
    have e := read_still cs on.may i 1 (by omega)
    have es : seg cs i 1 = [cs.getD i []] := by
      unfold seg
      rw [List.drop_eq_getElem_cons (by omega), List.take_succ_cons, List.take_zero, List.getD_eq_getElem?_getD, List.getElem?_eq_getElem (by omega)]
      rfl
    rw [es] at e
    rw [show ((1 : Nat) : Int) = 1 from rfl] at e
    rw [e] at h
    simpa using h)
  have HRT : Hid (∀ (hf : Nat) (A : Int), hf ≤ 1 → A = ((logAt h hf : Nat) : Int) + (h.log : Int) → ∀ (w : World), IsDrive w dv ⟨cs, [], -1, false⟩ → Calls Try.prog 36 #[dv, .int .i64 A, .int .i64 (h.text : Int)] w fun e w' => e = .returned (.tuple #[.string (bs (seg cs (logAt h hf + h.log) h.text).flatten), .int .i64 0]) ∧ Below w.heap.size w w') := hide (fun hf A hhf hA w hd => by
    obtain rfl : A = ((logAt h hf + h.log : Nat) : Int) := by omega
    have hp := half_place (h := h) hhf
    have h0 := on.ok
    unfold Hv.Ok at h0
    have h := refread_any dv _ ((logAt h hf + h.log : Nat) : Int) (h.text : Int) w hd (by omega) (by omega)
    rw [read_still cs on.may _ _ (by omega)] at h
    exact h)
  have HSC : Hid (∀ (hf sr : Nat) (A : Int), hf ≤ 1 → sr < 16777216 → A = ((logAt h hf : Nat) : Int) → ∀ (w : World), IsDrive w dv ⟨cs, [], -1, false⟩ → Calls Try.prog 48 #[dv, .agg #[.int .i64 A, .int .i64 (h.log : Int), .int .i64 0, .int .i64 (sr : Int)]] w fun e w' => ∃ rv x y, e = .returned (.tuple #[rv, x, y]) ∧ (hf = m.half → sr = m.serial → OwnS w' w.heap.size rv l) ∧ Below w.heap.size w w') := hide (fun hf sr A hhf hsr hA w hd => by
    subst hA
    have hp := half_place (h := h) hhf
    have h0 := on.ok
    unfold Hv.Ok at h0
    refine (refscan_own dv _ ⟨(logAt h hf : Nat), (h.log : Nat), 0, (sr : Nat)⟩ w hd (by unfold Tp.In; simp only; omega)).mono ?_
    rintro e w' ⟨ao, c, rfl, h2, h3⟩
    refine ⟨_, _, _, rfl, fun e1 e2 => ?_, h3⟩
    subst e1
    subst e2
    rw [on.scan hs] at h2 ⊢
    exact h2)
  have hgen := on.gen
  have hhead := on.head
  have hother := on.other
  have HCL : Hid (∀ i : Nat, i < 2 → (cs.getD i []).length = 64) := hide (fun i hi => on.cell _ (by
    rw [List.getD_eq_getElem?_getD, List.getElem?_eq_getElem (by omega)]
    exact List.getElem_mem _))
  have hbe := beOk_head (h := h) on.inr on.gen.1 on.half on.serial.1 (by rw [on.size.1]; exact on.size.2)
  have hfo := hdOf_hdOct on.inr
  have htx : (seg cs (logAt h m.half + h.log) h.text).flatten.take m.size = text := by
    have hp := half_place (h := h) on.half
    rw [seg_more cs (logAt h m.half + h.log) (cellsN text.length) h.text m.size on.cell (cellsN_le on.size.2) (by omega) (by rw [on.size.1]; unfold cellsN; omega), on.size.1]
    exact on.txt
  have HFL : Hid (∀ hf : Nat, hf ≤ 1 → (seg cs (logAt h hf + h.log) h.text).flatten.length = 64 * h.text) := hide (by
    intro hf hhf
    have hp := half_place (h := h) hhf
    rw [flatten_64 _ (fun c hc => on.cell c (seg_mem hc)), seg_length _ _ _ (by omega)])
  have ho := on.ok
  unfold Hv.Ok at ho
  have HHEAD := hide hhead
  have HOTHER := hide hother
  have HBE := hide hbe
  have HFO := hide hfo
  have HTX := hide htx
  have HLOG : Hid (∀ hf : Nat, ((logAt h hf : Nat) : Int) = 2 + (hf : Int) * ((h.log : Int) + (h.text : Int))) := hide (fun hf => by unfold logAt; push_cast; rfl)
  have HKC := hide (fun c i best hc => kept_cases h c i best hc)
  obtain ⟨g, hg⟩ : ∃ g, h.log = g := ⟨_, rfl⟩
  obtain ⟨t, ht⟩ : ∃ t, h.text = t := ⟨_, rfl⟩
  have hvv : hvVal h = .agg #[.int .i64 (g : Int), .int .i64 (t : Int)] := by unfold hvVal; rw [hg, ht]
  rw [hvv]
  rw [hg, ht] at HRT HFL HLOG HTX ho
  rw [hg] at HSC
  rw [ht] at HKC
  have HI := hide hd
  obtain ⟨a1, n1, c1, a2, n2, c2, fu, of, hdv, hda⟩ := hd
  obtain rfl := hda.fuel_eq
  obtain rfl := hda.off_eq
  unfold drvVal at hdv
  subst hdv
  clear on hs hbnd hlen hhead hother hbe hfo htx hvv hg ht hda
  obtain ⟨B0, B1⟩ := two_kinds w [.slice a1 n1 c1, .slice a2 n2 c2, .int .i64 (-1), .bool false] [.int .i64 (g : Int), .int .i64 (t : Int)] 25 89
  have hal : Below w.heap.size w ((w.alloc (.cells #[.slice a1 n1 c1, .slice a2 n2 c2, .int .i64 (-1), .bool false] 25)).alloc (.cells #[.int .i64 (g : Int), .int .i64 (t : Int)] 89)) := ((Below.refl _ _).alloc (Nat.le_refl _) _).alloc (by simp) _
  obtain ⟨W0, hW0⟩ : ∃ z, ((w.alloc (.cells #[.slice a1 n1 c1, .slice a2 n2 c2, .int .i64 (-1), .bool false] 25)).alloc (.cells #[.int .i64 (g : Int), .int .i64 (t : Int)] 89)) = z := ⟨_, rfl⟩
  rw [hW0] at B0 B1 hal
  have HD0 := hide (HI.out.below hal)
  go_enter Try.func65, Try.ntmps65
  go_upto_region 1 with fail
  try rw [hW0]
  clear hW0
  obtain ⟨b0, hb0⟩ : ∃ b, w.heap.size = b := ⟨_, rfl⟩
  rw [hb0] at B0 B1 ⊢
  obtain ⟨b1, hb1⟩ : ∃ b, b0 + 1 = b := ⟨_, rfl⟩
  rw [hb1] at B1 ⊢
  have HB0 := hide hb0
  clear hb0 hb1 HI
  go_wp2_with fail
  go_loopw [7, 8, 9, 10] (fun s7 s8 s9 s10 wr => ∃ (i best : Nat) (tv : ByteArray) (rv : Value), i ≤ 2 ∧ s10 = .int .i64 (i : Int) ∧ s7 = .int .i64 (best : Int) ∧ s8 = .string tv ∧ s9 = rv ∧ best ≤ m.gen ∧ (m.gen % 2 < i → KeptIs wr w.heap.size m text l best tv rv) ∧ (i ≤ m.gen % 2 → best < m.gen) ∧ Below W0.heap.size W0 wr) (fun _ _ _ s10 _ => 2 - (intOf s10).toNat)
  case atStart => exact ⟨0, 0, _, _, Nat.zero_le _, rfl, rfl, rfl, rfl, Nat.zero_le _, fun h => by omega, fun _ => by omega, Below.refl _ _⟩
  case round =>
    obtain ⟨i, best, tv, rv, hi2, rfl, rfl, rfl, rfl, hbm, hin, hout, hbw⟩ := hrel
    have C0 := B0.next hbw
    have C1 := B1.next hbw
    have HDr := hide (HD0.out.below hbw)
    have hIN := hide hin
    have hOUT := hide hout
    clear hin hout
    by_cases hii : i < 2
    · have HRi := hide (HR.out i hii)
      have hcl := HCL.out i hii
      have hkc := HKC.out (cs.getD i []) i best hcl
      have HC := hide (Eq.refl (cs.getD i []))
      have hmi : ∀ p k q, p + k ≤ 64 → q = p + k → (bs (cs.getD i [])).extract p q = bs (((cs.getD i []).drop p).take k) := by
        intro p k q _ e
        subst e
        rw [bs_slice, Nat.add_sub_cancel_left]
      have hx1 := hmi 0 3 3 (by omega) rfl
      have hx2 := hmi 3 1 4 (by omega) rfl
      have hx3 := hmi 4 3 7 (by omega) rfl
      have hx4 := hmi 7 4 11 (by omega) rfl
      have hx5 := hmi 11 49 60 (by omega) rfl
      have hx6 := hmi 60 3 63 (by omega) rfl
      rw [List.drop_zero] at hx1
      have hN : ∀ p k v, 1 ≤ k → k ≤ 4 → p + k ≤ 64 → val (((cs.getD i []).drop p).take k) = v → ∀ w, Calls Try.prog 86 #[.string (bs (((cs.getD i []).drop p).take k))] w fun e w' => e = .returned (.int .i64 (v : Int)) ∧ w = w' := by
        intro p k v hk1 hk hpk hv w
        refine refnum_any _ v w ?_ ?_ (by rw [bs_data]; exact hv)
        · rw [bs_size, List.length_take, List.length_drop]
          omega
        · rw [bs_size, List.length_take]
          omega
      have HN1 := hide (hN 0 3 (hdOf (cs.getD i [])).gen (by omega) (by omega) (by omega) rfl)
      have HN2 := hide (hN 3 1 (hdOf (cs.getD i [])).half (by omega) (by omega) (by omega) rfl)
      have HN3 := hide (hN 4 3 (hdOf (cs.getD i [])).serial (by omega) (by omega) (by omega) rfl)
      have HN4 := hide (hN 7 4 (hdOf (cs.getD i [])).size (by omega) (by omega) (by omega) rfl)
      have he5 := str_beq (((cs.getD i []).drop 11).take 49) (List.replicate 49 0)
      have he6 := str_beq (((cs.getD i []).drop 60).take 3) ((cs.getD i []).take 3)
      rw [List.drop_zero] at HN1
      have hcs : (bs (cs.getD i [])).size = 64 := by rw [bs_size, hcl]
      have hM := hdOf_in (cs.getD i [])
      obtain ⟨q5, hq5⟩ : ∃ q, decide (((cs.getD i []).drop 11).take 49 = List.replicate 49 0) = q := ⟨_, rfl⟩
      obtain ⟨q6, hq6⟩ : ∃ q, decide (((cs.getD i []).drop 60).take 3 = (cs.getD i []).take 3) = q := ⟨_, rfl⟩
      rw [hq5] at he5 hkc
      rw [hq6] at he6 hkc
      obtain ⟨⟨gn, hf, sr, sz⟩, hMM⟩ : ∃ z, hdOf (cs.getD i []) = z := ⟨_, rfl⟩
      rw [hMM] at HN1 HN2 HN3 HN4 hM hkc
      have HMM := hide hMM
      simp only at HN1 HN2 HN3 HN4 hkc
      obtain ⟨hM1, hM2, hM3, hM4⟩ := hM
      simp only at hM1 hM2 hM3 hM4
      obtain ⟨s1, hs1⟩ : ∃ z, bs ((cs.getD i []).take 3) = z := ⟨_, rfl⟩
      obtain ⟨s2, hs2⟩ : ∃ z, bs (((cs.getD i []).drop 3).take 1) = z := ⟨_, rfl⟩
      obtain ⟨s3, hs3⟩ : ∃ z, bs (((cs.getD i []).drop 4).take 3) = z := ⟨_, rfl⟩
      obtain ⟨s4, hs4⟩ : ∃ z, bs (((cs.getD i []).drop 7).take 4) = z := ⟨_, rfl⟩
      obtain ⟨s5, hs5⟩ : ∃ z, bs (((cs.getD i []).drop 11).take 49) = z := ⟨_, rfl⟩
      obtain ⟨s6, hs6⟩ : ∃ z, bs (((cs.getD i []).drop 60).take 3) = z := ⟨_, rfl⟩
      obtain ⟨z0, hz0⟩ : ∃ z, bs (List.replicate 49 0) = z := ⟨_, rfl⟩
      have hI63 : ∀ wz : World, (Instr.index 9 (.string (bs (cs.getD i []))) (.int .i64 63)).run Try.prog wz = .ok (.int .u8 (((cs.getD i []).getD 63 0).toNat : Int)) wz := idx_str (cs.getD i []) 63 (by omega) (by omega)
      obtain ⟨x63, hx63⟩ : ∃ z, ((cs.getD i []).getD 63 0).toNat = z := ⟨_, rfl⟩
      obtain ⟨cv, hcv⟩ : ∃ z, bs (cs.getD i []) = z := ⟨_, rfl⟩
      rw [hs1] at HN1 hx1 he6
      rw [hs2] at HN2 hx2
      rw [hs3] at HN3 hx3
      rw [hs4] at HN4 hx4
      rw [hs5] at hx5 he5
      rw [hs6] at hx6 he6
      rw [hz0] at he5
      rw [hx63] at hkc hI63
      rw [hcv] at HRi hx1 hx2 hx3 hx4 hx5 hx6 hcs hI63
      have HZ := hide hz0
      have HMI := hide hmi
      have HNN := hide hN
      have HKI := hide hkc
      have HM := hide (And.intro hM1 (And.intro hM2 (And.intro hM3 hM4)))
      have HI63 := hide hI63
      have HE56 := hide (And.intro he5 he6)
      have HX56 := hide (And.intro hx5 (And.intro hx6 hx1))
      have HBM := hide hbm
      clear hmi hN hs1 hs2 hs3 hs4 hs5 hs6 hz0 hx63 hcv hq5 hq6 hMM hcl hkc hM1 hM2 hM3 hM4 hI63 he5 he6 hx5 hx6 hbm HC
      obtain ⟨p0, p1, p2, p3, p4, p5, p6, p7⟩ := C0.four
      obtain ⟨r0, r1, r2, r3⟩ := C1.pair
      go_wp2_with fail
      refine (HRi.out _ HDr.out).mono ?_
      rintro e w2 ⟨rfl, hb2⟩
      have D1 := C1.next hb2
      have D0 := C0.next hb2
      have hbx := chain hbw hb2
      have HD2 := hide (HDr.out.below hb2)
      have HB2 := hide hb2
      clear p0 p1 p2 p3 p4 p5 p6 p7 r0 r1 r2 r3 hb2 HRi C0 C1 HDr
      go_upto_region 8 with fail
      refine wp_region_quiet_lit (by kernel_rfl) (by kernel_rfl) ?_
      iterate 2 (go_big_quiet_step (fail))
      go_big_quiet_step ((go_at_call 86; exact quiet_here (HN1.out _)))
      iterate 2 (go_big_quiet_step (fail))
      go_big_quiet_step ((go_at_call 86; exact quiet_here (HN2.out _)))
      iterate 2 (go_big_quiet_step (fail))
      go_big_quiet_step ((go_at_call 86; exact quiet_here (HN3.out _)))
      iterate 2 (go_big_quiet_step (fail))
      go_big_quiet_step ((go_at_call 86; exact quiet_here (HN4.out _)))
      iterate 4 (go_big_quiet_step (fail))
      refine wpQuiet_nil ?_
      rintro _ ⟨nq, hw''⟩
      subst hw''
      clear HN1 HN2 HN3 HN4 hx1 hx2 hx3 hx4
      have hby : Below w2.heap.size w2 (w2.drewN nq) := ⟨rfl, rfl, rfl, Nat.le_refl _, fun _ _ => rfl⟩
      go_wp2_with fail
      go_loopw [17, 18] (fun s17 s18 wq => ∃ k : Nat, 11 ≤ k ∧ k ≤ 60 ∧ s18 = .int .i64 (k : Int) ∧ s17 = .string (bs (List.replicate (k - 11) 0)) ∧ Below w2.heap.size w2 wq) (fun _ s18 _ => 60 - (intOf s18).toNat)
      case atStart => exact ⟨11, Nat.le_refl _, by omega, rfl, rfl, hby⟩
      case round =>
        obtain ⟨k, hk11, hk60, rfl, rfl, hbk⟩ := hrel
        by_cases hk : k < 60
        · have hki : (k : Int) < 60 := by omega
          have hrep : bs (List.replicate (k - 11) 0) ++ ⟨#[0]⟩ = bs (List.replicate (k + 1 - 11) 0) := by
            rw [show (⟨#[0]⟩ : ByteArray) = bs [0] from rfl, bs_append, ← List.replicate_succ', show k - 11 + 1 = k + 1 - 11 by omega]
          have HREP := hide hrep
          have hzs : (bs (List.replicate (k - 11) (0 : UInt8))).size ≤ 49 := by rw [bs_size, List.length_replicate]; omega
          obtain ⟨zk, hzk⟩ : ∃ z, bs (List.replicate (k - 11) 0) = z := ⟨_, rfl⟩
          rw [hzk] at HREP hzs ⊢
          clear hzk hrep
          go_wp2_with fail
          go_roundw
          case rel => exact ⟨k + 1, by omega, by omega, by go_num, by rw [← HREP.out], hbk⟩
          case measure => simp [intOf]; omega
        · obtain rfl : k = 60 := by omega
          have e49 : 60 - 11 = 49 := rfl
          rw [e49, HZ.out]
          have D2 := D1.next hbk
          have HD3 := hide (HD2.out.below hbk)
          have hbz := chain hbx hbk
          have HST := hide (chain HB2.out hbk)
          obtain ⟨r0, r1, r2, r3⟩ := D2.pair
          clear hk11 hk60 hk e49
          have hkc := HKI.out
          obtain ⟨he5, he6⟩ := HE56.out
          obtain ⟨hx5, hx6, hx1⟩ := HX56.out
          have hI63 := HI63.out
          obtain ⟨hM1, hM2, hM3, hM4⟩ := HM.out
          obtain ⟨ho1, ho2, ho3, ho4⟩ := ho
          have hbm := HBM.out
          have hmg := hgen.2
          rcases hkc with ⟨k1, kn⟩ | ⟨k1, k2, kn⟩ | ⟨k1, k2, k3, kn⟩ | ⟨k1, k2, k3, k4, kn⟩ | ⟨k1, k2, k3, k4, k5, kn⟩ | ⟨k1, k2, k3, k4, k5, k6, kn⟩ | ⟨k1, k2, k3, k4, k5, k6, k7, kn⟩ | ⟨k1, k2, k3, k4, k5, k6, k7, k8, kn⟩ | ⟨k1, k2, k3, k4, k5, k6, k7, k8, kn⟩
          · have d1 : decide ((gn : Int) ≤ (best : Int)) = true := decide_eq_true (by omega)
            go_upto_region 14 with fail
            go_quiet (fail)
            have HKN := hide kn
            have hbq : Below W0.heap.size W0 (wr.drewN nq) := hbz.trans ⟨rfl, rfl, rfl, Nat.le_refl _, fun _ _ => rfl⟩
            have HBQ := hide hbq
            clear k1 d1 kn he5 he6 hx5 hx6 hx1 hI63 hbq r0 r1 r2 r3
            go_wp2_with fail
            go_roundw
            case rel =>
              obtain ⟨x1, x2⟩ := kept_skip hIN.out hOUT.out HHEAD.out HBE.out HFO.out HKN.out (HST.out.trans ⟨rfl, rfl, rfl, Nat.le_refl _, fun _ _ => rfl⟩)
              exact ⟨i + 1, best, tv, _, by omega, by go_num, rfl, rfl, rfl, HBM.out, x1, x2, HBQ.out⟩
            case measure => simp [intOf]; omega
          · have d1 : decide ((gn : Int) ≤ (best : Int)) = false := decide_eq_false (by omega)
            have d2 : ((gn : Int) % 2 != (i : Int)) = true := by rw [bne_iff_ne, ne_eq]; omega
            go_upto_region 14 with fail
            go_quiet (fail)
            have HKN := hide kn
            have hbq : Below W0.heap.size W0 (wr.drewN nq) := hbz.trans ⟨rfl, rfl, rfl, Nat.le_refl _, fun _ _ => rfl⟩
            have HBQ := hide hbq
            clear k1 k2 d1 d2 kn he5 he6 hx5 hx6 hx1 hI63 hbq r0 r1 r2 r3
            go_wp2_with fail
            go_roundw
            case rel =>
              obtain ⟨x1, x2⟩ := kept_skip hIN.out hOUT.out HHEAD.out HBE.out HFO.out HKN.out (HST.out.trans ⟨rfl, rfl, rfl, Nat.le_refl _, fun _ _ => rfl⟩)
              exact ⟨i + 1, best, tv, _, by omega, by go_num, rfl, rfl, rfl, HBM.out, x1, x2, HBQ.out⟩
            case measure => simp [intOf]; omega
          · have d1 : decide ((gn : Int) ≤ (best : Int)) = false := decide_eq_false (by omega)
            have d2 : ((gn : Int) % 2 != (i : Int)) = false := by rw [bne_eq_false_iff_eq]; omega
            have d3 : decide ((1 : Int) < (hf : Int)) = true := decide_eq_true (by omega)
            go_upto_region 14 with fail
            go_quiet (fail)
            have HKN := hide kn
            have hbq : Below W0.heap.size W0 (wr.drewN nq) := hbz.trans ⟨rfl, rfl, rfl, Nat.le_refl _, fun _ _ => rfl⟩
            have HBQ := hide hbq
            clear k1 k2 k3 d1 d2 d3 kn he5 he6 hx5 hx6 hx1 hI63 hbq r0 r1 r2 r3
            go_wp2_with fail
            go_roundw
            case rel =>
              obtain ⟨x1, x2⟩ := kept_skip hIN.out hOUT.out HHEAD.out HBE.out HFO.out HKN.out (HST.out.trans ⟨rfl, rfl, rfl, Nat.le_refl _, fun _ _ => rfl⟩)
              exact ⟨i + 1, best, tv, _, by omega, by go_num, rfl, rfl, rfl, HBM.out, x1, x2, HBQ.out⟩
            case measure => simp [intOf]; omega
          · have d1 : decide ((gn : Int) ≤ (best : Int)) = false := decide_eq_false (by omega)
            have d2 : ((gn : Int) % 2 != (i : Int)) = false := by rw [bne_eq_false_iff_eq]; omega
            have d3 : decide ((1 : Int) < (hf : Int)) = false := decide_eq_false (by omega)
            have d4 : decide ((sr : Int) < 1) = true := decide_eq_true (by omega)
            go_upto_region 14 with fail
            go_quiet (fail)
            have HKN := hide kn
            have hbq : Below W0.heap.size W0 (wr.drewN nq) := hbz.trans ⟨rfl, rfl, rfl, Nat.le_refl _, fun _ _ => rfl⟩
            have HBQ := hide hbq
            clear k1 k2 k3 k4 d1 d2 d3 d4 kn he5 he6 hx5 hx6 hx1 hI63 hbq r0 r1 r2 r3
            go_wp2_with fail
            go_roundw
            case rel =>
              obtain ⟨x1, x2⟩ := kept_skip hIN.out hOUT.out HHEAD.out HBE.out HFO.out HKN.out (HST.out.trans ⟨rfl, rfl, rfl, Nat.le_refl _, fun _ _ => rfl⟩)
              exact ⟨i + 1, best, tv, _, by omega, by go_num, rfl, rfl, rfl, HBM.out, x1, x2, HBQ.out⟩
            case measure => simp [intOf]; omega
          · have d1 : decide ((gn : Int) ≤ (best : Int)) = false := decide_eq_false (by omega)
            have d2 : ((gn : Int) % 2 != (i : Int)) = false := by rw [bne_eq_false_iff_eq]; omega
            have d3 : decide ((1 : Int) < (hf : Int)) = false := decide_eq_false (by omega)
            have d4 : decide ((sr : Int) < 1) = false := decide_eq_false (by omega)
            have d5 : decide (64 * (t : Int) < (sz : Int)) = true := decide_eq_true (by omega)
            go_upto_region 14 with fail
            go_quiet (fail)
            have HKN := hide kn
            have hbq : Below W0.heap.size W0 (wr.drewN nq) := hbz.trans ⟨rfl, rfl, rfl, Nat.le_refl _, fun _ _ => rfl⟩
            have HBQ := hide hbq
            clear k1 k2 k3 k4 k5 d1 d2 d3 d4 d5 kn he5 he6 hx5 hx6 hx1 hI63 hbq r0 r1 r2 r3
            go_wp2_with fail
            go_roundw
            case rel =>
              obtain ⟨x1, x2⟩ := kept_skip hIN.out hOUT.out HHEAD.out HBE.out HFO.out HKN.out (HST.out.trans ⟨rfl, rfl, rfl, Nat.le_refl _, fun _ _ => rfl⟩)
              exact ⟨i + 1, best, tv, _, by omega, by go_num, rfl, rfl, rfl, HBM.out, x1, x2, HBQ.out⟩
            case measure => simp [intOf]; omega
          · have d1 : decide ((gn : Int) ≤ (best : Int)) = false := decide_eq_false (by omega)
            have d2 : ((gn : Int) % 2 != (i : Int)) = false := by rw [bne_eq_false_iff_eq]; omega
            have d3 : decide ((1 : Int) < (hf : Int)) = false := decide_eq_false (by omega)
            have d4 : decide ((sr : Int) < 1) = false := decide_eq_false (by omega)
            have d5 : decide (64 * (t : Int) < (sz : Int)) = false := decide_eq_false (by omega)
            subst k6
            go_upto_region 14 with fail
            go_quiet (fail)
            have HKN := hide kn
            have hbq : Below W0.heap.size W0 (wr.drewN nq) := hbz.trans ⟨rfl, rfl, rfl, Nat.le_refl _, fun _ _ => rfl⟩
            have HBQ := hide hbq
            clear k1 k2 k3 k4 k5 d1 d2 d3 d4 d5 kn he5 he6 hx5 hx6 hx1 hI63 hbq r0 r1 r2 r3
            go_wp2_with fail
            go_roundw
            case rel =>
              obtain ⟨x1, x2⟩ := kept_skip hIN.out hOUT.out HHEAD.out HBE.out HFO.out HKN.out (HST.out.trans ⟨rfl, rfl, rfl, Nat.le_refl _, fun _ _ => rfl⟩)
              exact ⟨i + 1, best, tv, _, by omega, by go_num, rfl, rfl, rfl, HBM.out, x1, x2, HBQ.out⟩
            case measure => simp [intOf]; omega
          · have d1 : decide ((gn : Int) ≤ (best : Int)) = false := decide_eq_false (by omega)
            have d2 : ((gn : Int) % 2 != (i : Int)) = false := by rw [bne_eq_false_iff_eq]; omega
            have d3 : decide ((1 : Int) < (hf : Int)) = false := decide_eq_false (by omega)
            have d4 : decide ((sr : Int) < 1) = false := decide_eq_false (by omega)
            have d5 : decide (64 * (t : Int) < (sz : Int)) = false := decide_eq_false (by omega)
            subst k6
            subst k7
            go_upto_region 14 with fail
            go_quiet (fail)
            have HKN := hide kn
            have hbq : Below W0.heap.size W0 (wr.drewN nq) := hbz.trans ⟨rfl, rfl, rfl, Nat.le_refl _, fun _ _ => rfl⟩
            have HBQ := hide hbq
            clear k1 k2 k3 k4 k5 d1 d2 d3 d4 d5 kn he5 he6 hx5 hx6 hx1 hI63 hbq r0 r1 r2 r3
            go_wp2_with fail
            go_roundw
            case rel =>
              obtain ⟨x1, x2⟩ := kept_skip hIN.out hOUT.out HHEAD.out HBE.out HFO.out HKN.out (HST.out.trans ⟨rfl, rfl, rfl, Nat.le_refl _, fun _ _ => rfl⟩)
              exact ⟨i + 1, best, tv, _, by omega, by go_num, rfl, rfl, rfl, HBM.out, x1, x2, HBQ.out⟩
            case measure => simp [intOf]; omega
          · have d1 : decide ((gn : Int) ≤ (best : Int)) = false := decide_eq_false (by omega)
            have d2 : ((gn : Int) % 2 != (i : Int)) = false := by rw [bne_eq_false_iff_eq]; omega
            have d3 : decide ((1 : Int) < (hf : Int)) = false := decide_eq_false (by omega)
            have d4 : decide ((sr : Int) < 1) = false := decide_eq_false (by omega)
            have d5 : decide (64 * (t : Int) < (sz : Int)) = false := decide_eq_false (by omega)
            subst k6
            subst k7
            have d8 : ((x63 : Int) != 3) = true := by rw [bne_iff_ne, ne_eq]; omega
            go_upto_region 14 with fail
            go_quiet (fail)
            have HKN := hide kn
            have hbq : Below W0.heap.size W0 (wr.drewN nq) := hbz.trans ⟨rfl, rfl, rfl, Nat.le_refl _, fun _ _ => rfl⟩
            have HBQ := hide hbq
            clear k1 k2 k3 k4 k5 k8 d1 d2 d3 d4 d5 d8 kn he5 he6 hx5 hx6 hx1 hI63 hbq r0 r1 r2 r3
            go_wp2_with fail
            go_roundw
            case rel =>
              obtain ⟨x1, x2⟩ := kept_skip hIN.out hOUT.out HHEAD.out HBE.out HFO.out HKN.out (HST.out.trans ⟨rfl, rfl, rfl, Nat.le_refl _, fun _ _ => rfl⟩)
              exact ⟨i + 1, best, tv, _, by omega, by go_num, rfl, rfl, rfl, HBM.out, x1, x2, HBQ.out⟩
            case measure => simp [intOf]; omega
          · have d1 : decide ((gn : Int) ≤ (best : Int)) = false := decide_eq_false (by omega)
            have d2 : ((gn : Int) % 2 != (i : Int)) = false := by rw [bne_eq_false_iff_eq]; omega
            have d3 : decide ((1 : Int) < (hf : Int)) = false := decide_eq_false (by omega)
            have d4 : decide ((sr : Int) < 1) = false := decide_eq_false (by omega)
            have d5 : decide (64 * (t : Int) < (sz : Int)) = false := decide_eq_false (by omega)
            subst k6
            subst k7
            have d8 : ((x63 : Int) != 3) = false := by rw [bne_eq_false_iff_eq]; omega
            go_upto_region 14 with fail
            go_quiet (fail)
            have hhf : hf ≤ 1 := by omega
            have hszt : sz ≤ 64 * t := by omega
            have HKN := hide kn
            have hbq : Below W0.heap.size W0 (wr.drewN nq) := hbz.trans ⟨rfl, rfl, rfl, Nat.le_refl _, fun _ _ => rfl⟩
            have HBQ := hide hbq
            clear k1 k2 k3 k4 k5 k8 d1 d2 d3 d4 d5 d8 kn he5 he6 hx5 hx6 hx1 hI63 hbq r0 r1 r2 r3
            obtain ⟨x1, x2, x3⟩ := kept_take hii (fun hh => (hIN.out hh).1) HHEAD.out HOTHER.out HFO.out HKN.out
            rw [HMM.out] at x1 x2 x3
            simp only at x1 x2
            have HX := hide (And.intro x1 (And.intro x2 x3))
            have hL := HLOG.out hf
            have hfl := HFL.out hf hhf
            have HRH := hide (fun (A : Int) (hA : A = ((logAt h hf : Nat) : Int) + (g : Int)) => HRT.out hf A hhf hA)
            have HSH := hide (fun (A : Int) (hA : A = ((logAt h hf : Nat) : Int)) => HSC.out hf sr A hhf hM3 hA)
            have htk : (bs (seg cs (logAt h hf + g) t).flatten).extract 0 sz = bs ((seg cs (logAt h hf + g) t).flatten.take sz) := (bs_take _ _).symm
            have hfs : (bs (seg cs (logAt h hf + g) t).flatten).size = 64 * t := by rw [bs_size, hfl]
            obtain ⟨fv, hfv⟩ : ∃ z, bs (seg cs (logAt h hf + g) t).flatten = z := ⟨_, rfl⟩
            obtain ⟨t2, ht2⟩ : ∃ z, bs ((seg cs (logAt h hf + g) t).flatten.take sz) = z := ⟨_, rfl⟩
            rw [hfv] at HRH htk hfs
            rw [ht2] at htk
            have HT2 := hide ht2
            have hsz2 : (sz : Int) ≤ (fv.size : Int) := by omega
            obtain ⟨la, hla⟩ : ∃ z, logAt h hf = z := ⟨_, rfl⟩
            rw [hla] at HRH HSH hL
            have HLA := hide hla
            have h01 : hf = 0 ∨ hf = 1 := by omega
            have hbd : Below wr.heap.size wr (wr.drewN nq) := ⟨rfl, rfl, rfl, Nat.le_refl _, fun _ _ => rfl⟩
            have HD4 := hide (HD3.out.below hbd)
            have D3 := D2.next hbd
            have E0 := (D0.next hbk).next hbd
            clear x1 x2 x3 hfl hfv ht2 hla hbd
            rcases h01 with rfl | rfl
            all_goals
              obtain ⟨p0, p1, p2, p3, p4, p5, p6, p7⟩ := E0.four
              obtain ⟨r0, r1, r2, r3⟩ := D3.pair
              go_wp2_with fail
              refine (HRH.out _ (by omega) _ HD4.out).mono ?_
              rintro e w5 ⟨rfl, hb5⟩
              have HD5 := hide (HD4.out.below hb5)
              have D5 := D3.next hb5
              have E5 := E0.next hb5
              have hbq := HBQ.out.trans (hb5.mono HBQ.out.size)
              clear p0 p1 p2 p3 p4 p5 p6 p7 r0 r1 r2 r3 hb5 HD4 D3 E0 HBQ
              obtain ⟨p0, p1, p2, p3, p4, p5, p6, p7⟩ := E5.four
              obtain ⟨r0, r1, r2, r3⟩ := D5.pair
              go_wp2_with fail
              refine (HSH.out _ (by omega) _ HD5.out).mono ?_
              rintro e w6 ⟨rv2, x2, y2, rfl, ho6, hb6⟩
              have hbr := hbq.trans (hb6.mono hbq.size)
              have HO6 := hide ho6
              have hwb : w.heap.size ≤ w5.heap.size := Nat.le_trans hal.size hbq.size
              clear p0 p1 p2 p3 p4 p5 p6 p7 r0 r1 r2 r3 hb6 HD5 D5 E5 hbq ho6
              go_wp2_with fail
              go_roundw
              case rel =>
                obtain ⟨x1, x2, x3⟩ := HX.out
                refine ⟨i + 1, gn, t2, rv2, by omega, by go_num, rfl, rfl, rfl, x1, fun hh => ?_, x2, hbr⟩
                have hm := x3 hh
                refine ⟨by rw [← hm], ?_, OwnZ.base (HO6.out (by rw [← hm]) (by rw [← hm])) hwb⟩
                rw [← HT2.out, ← HTX.out, ← hm]
              case measure => simp [intOf]; omega
    · obtain rfl : i = 2 := by omega
      obtain ⟨y1, y2, y3⟩ := hIN.out (by omega)
      have HY := hide (And.intro y1 (And.intro y2 y3))
      clear y1 y2 y3
      go_wp2_with fail
      exact bodyPost_ret (v := .tuple #[.string tv, u9, .int .i64 (best : Int)]) (by simp [results, Try.results65, go_sem]) rfl ⟨_, by rw [HY.out.1, HY.out.2.1], HY.out.2.2, chain hal hbw⟩

end Go.Proofs.Ytkapdmhjhbmdjaa

namespace Go.Proofs.Ytkapdmhjhbmdjaa
open Go.RowKit

set_option maxRecDepth 100000 in
set_option maxHeartbeats 800000 in
/-- The drive's own value. -/
theorem kdrive_val {b : Nat} {v : Value} {h : Hv} {m : Hd} {a1 : Option Addr} {n1 c1 : Nat} {a2 : Option Addr} {n2 c2 : Nat} {t : Tp} {s : ByteArray} (w : World) (h1 : Blk w b (kpCells h m a1 n1 c1 a2 n2 c2 t s v) 134) :
    Calls Try.prog 64 #[.pointer (some ⟨b, 0, none⟩)] w fun e w' => e = .returned (.agg #[.slice a1 n1 c1, .slice a2 n2 c2, .int .i64 (-1), .bool false]) ∧ Below w.heap.size w w' := by
  have hlt := h1.lt
  have hb0 : Below w.heap.size w (w.alloc (.cells #[.slice none 0 0, .slice none 0 0, .int .i64 0, .bool false] 25)) := (Below.refl _ _).alloc (Nat.le_refl _) _
  have B1 := Blk.new w [.slice none 0 0, .slice none 0 0, .int .i64 0, .bool false] 25
  obtain ⟨W0, hW0⟩ : ∃ z, w.alloc (.cells #[.slice none 0 0, .slice none 0 0, .int .i64 0, .bool false] 25) = z := ⟨_, rfl⟩
  have B0 : Blk W0 w.heap.size [.slice none 0 0, .slice none 0 0, .int .i64 0, .bool false] 25 := by rw [← hW0]; exact B1
  rw [hW0] at hb0
  have K0 := h1.next hb0
  obtain ⟨_, ⟨p6, p7, p8, p9⟩, _⟩ := kp_cells K0
  obtain ⟨q0, q1, q2, q3, q4, q5, q6, q7⟩ := B0.four
  have hne : b ≠ w.heap.size := by omega
  have hne' : w.heap.size ≠ b := by omega
  clear h1 B1 K0
  go_enter Try.func64, Try.ntmps64
  go_upto_region 1 with fail
  try rw [hW0]
  clear hW0
  go_wp2_with fail
  exact bodyPost_ret (v := .agg #[.slice a1 n1 c1, .slice a2 n2 c2, .int .i64 (-1), .bool false]) (by simp [results, Try.results64, go_sem, q0, q1, q2, q3]) rfl ⟨rfl, below4 hb0 (Nat.le_refl _) _ _ _ _⟩

section
variable {w0 w' : World} {b base : Nat} {v : Value} {h : Hv} {m : Hd} {cs : List (List UInt8)} {text : List UInt8} {l : List (List UInt8)} {s : List UInt8}
/-- A row of strings beside a Keep. -/
theorem AddDone.row {E : Int} {B : Nat} {lv : Value} {xs : List (List UInt8)} (d : AddDone w0 w' b base v h m text l s E) (k : KpAt w0 b base v h m cs text l) (o : OwnS w0 B lv xs) (hv : lv.ownBlock = none ∨ lv.ownBlock ≠ v.ownBlock) : OwnS w' B lv xs := by
  rcases d with ⟨_, v', cs', _, _, a1, a2, g1, g2, k64, g3⟩ | ⟨_, hb⟩
  · obtain ⟨vs, hB, hp⟩ := k.block
    have hob : lv.ownBlock = none ∨ lv.ownBlock ≠ some b := .inr (own_type o hB (by decide))
    exact ((OwnZ.kept o g1 hob).kept g2 hv).kept g3 hob
  · exact OwnZ.below o hb
theorem KpAt.saveRow {B : Nat} {lv : Value} {xs : List (List UInt8)} (k : KpAt w0 b base v h m cs text l) (o : OwnS w0 B lv xs) (hg : w0.grownBy w' (some b)) : OwnS w' B lv xs := by
  obtain ⟨vs, hB, hp⟩ := k.block
  exact OwnZ.kept o hg (.inr (own_type o hB (by decide)))
/-- The row grows beside the Keep. -/
theorem KpAt.rowStep {B : Nat} {lv : Value} {xs : List (List UInt8)} (k : KpAt w0 b base v h m cs text l) (o : OwnS w0 B lv xs) (hg : w0.grownBy w' lv.ownBlock) (k64 : Keeps64 w0 w') (hv : lv.ownBlock = none ∨ lv.ownBlock ≠ v.ownBlock) : KpAt w' b base v h m cs text l := by
  obtain ⟨vs, hB, hp⟩ := k.block
  obtain ⟨⟨a1, n1, c1, a2, n2, c2, h1, h2⟩, h3, h4⟩ := k
  refine ⟨⟨a1, n1, c1, a2, n2, c2, h1.grown hg (fun e => own_type o hB (by decide) e.symm), h2.keeps64 k64 h4.cell rfl⟩, OwnZ.kept h3 hg ?_, h4⟩
  rcases hv with hv | hv
  · rw [hv]
    cases v.ownBlock with
    | none => exact .inl rfl
    | some g => exact .inr (by simp)
  · exact .inr (fun e => hv e.symm)
end

end Go.Proofs.Ytkapdmhjhbmdjaa

namespace Go.Proofs.Ytkapdmhjhbmdjaa
open Go.RowKit

set_option maxRecDepth 100000 in
theorem drv_off (a1 : Option Addr) (n1 c1 : Nat) (a2 : Option Addr) (n2 c2 : Nat) (f : Int) (o : Bool) (w : World) : (Instr.field 25 (.agg #[.slice a1 n1 c1, .slice a2 n2 c2, .int .i64 f, .bool o]) 3).run Try.prog w = .ok (.bool o) w := rfl
set_option maxRecDepth 100000 in
theorem drv_cells (a1 : Option Addr) (n1 c1 : Nat) (a2 : Option Addr) (n2 c2 : Nat) (f : Int) (o : Bool) (w : World) : (Instr.field 25 (.agg #[.slice a1 n1 c1, .slice a2 n2 c2, .int .i64 f, .bool o]) 0).run Try.prog w = .ok (.slice a1 n1 c1) w := rfl

/-- What there is room for. -/
theorem room_cases (h : Hv) (l : List (List UInt8)) (s : List UInt8) (hf : span l ≤ h.log) : (4000 < s.length ∧ decide ((span l : Int) + cellsOf (s.length : Int) ≤ (h.log : Int)) = true ∧ addErr h l s = 1) ∨
    (¬ 4000 < s.length ∧ decide ((span l : Int) + cellsOf (s.length : Int) ≤ (h.log : Int)) = true ∧ addErr h l s = 0) ∨
    (¬ 4000 < s.length ∧ decide ((span l : Int) + cellsOf (s.length : Int) ≤ (h.log : Int)) = false ∧ addErr h l s = 6) := by
  unfold addErr
  by_cases h1 : 4000 < s.length
  · refine .inl ⟨h1, ?_, by rw [if_pos h1]⟩
    have : cellsOf (s.length : Int) = 0 := by unfold cellsOf; rw [if_pos (by omega)]
    rw [this]
    exact decide_eq_true (by omega)
  · rw [if_neg h1, cellsOf_short (by omega)]
    by_cases h2 : span l + kOf s.length ≤ h.log
    · exact .inr (.inl ⟨h1, decide_eq_true (by omega), by rw [if_pos h2]⟩)
    · exact .inr (.inr ⟨h1, decide_eq_false (by omega), by rw [if_neg h2]⟩)

set_option maxRecDepth 100000 in
set_option maxHeartbeats 25600000 in
theorem plays_walk (text : List UInt8) (ao : Option Addr) (n c : Nat) (acts : List Act19) (u : Nat) (w : World) (ht : text.length ≤ 9223372036854775807) (h : Acts w ao n acts) (hnc : n ≤ c ∧ c ≤ 9223372036854775807) (hx : ∀ y ∈ acts, y.s.length ≤ 9223372036854775807) (hu : u < 256) :
    Calls Try.prog 16 #[.string (bs text), .slice ao n c, .int .u8 (u : Int)] w fun e w' => e = .returned (.bool true) ∧ Below w.heap.size w w' := by
  have HO := hide h
  have hn1 : n ≤ 9223372036854775807 := by omega
  have HF : Hid (∀ k, k < n → ∀ w, Calls Try.prog 54 #[.string (bs (acts.getD k ⟨[], false⟩).s)] w fun e w' => e = .returned (.string (bs (few19 (acts.getD k ⟨[], false⟩).s))) ∧ Below w.heap.size w w') := hide (fun k hk w => few19_any _ w (by
    have hl := h.len
    have e : acts.getD k ⟨[], false⟩ ∈ acts := by
      rw [List.getD_eq_getElem?_getD, List.getElem?_eq_getElem (by omega)]
      exact List.getElem_mem _
    have := hx _ e
    omega))
  have HFT : Hid (∀ w, Calls Try.prog 54 #[.string (bs text)] w fun e w' => e = .returned (.string (bs (few19 text))) ∧ Below w.heap.size w w') := hide (fun w => few19_any text w (by omega))
  have hlt := few19_length text
  obtain ⟨y, hy⟩ : ∃ z, few19 text = z := ⟨_, rfl⟩
  rw [hy] at HFT hlt
  have HH := hide (fun w => halves_any u w hu)
  have hok := halves_ok u
  have hlb : 1 ≤ (halvesOf u).log ∧ (halvesOf u).log ≤ 13 := by unfold halvesOf; simp only; omega
  have htb : 2 ≤ (halvesOf u).text ∧ (halvesOf u).text ≤ 9 := by unfold halvesOf; simp only; omega
  obtain ⟨H, hH⟩ : ∃ z, halvesOf u = z := ⟨_, rfl⟩
  rw [hH] at HH hok hlb htb
  have hvv : hvVal H = .agg #[.int .i64 (H.log : Int), .int .i64 (H.text : Int)] := rfl
  have HNF : Hid (H.text * 64 < y.length → ∀ w, Calls Try.prog 55 #[hvVal H, .string (bs y)] w fun e w' => e = .returned (.tuple #[.pointer none, .int .i64 6]) ∧ Below w.heap.size w w') := hide (fun hl w => knew_full H y w hok hl (by omega))
  have HN : Hid (y.length ≤ H.text * 64 → ∀ w, Calls Try.prog 55 #[hvVal H, .string (bs y)] w fun e w' => ∃ b U, e = .returned (.tuple #[.pointer (some ⟨b, 0, none⟩), .int .i64 0]) ∧ w.heap.size ≤ b ∧ KpAt w' b w.heap.size (.slice none 0 0) H ⟨1, 0, 1, y.length⟩ U y [] ∧ Below w.heap.size w w') := hide (fun hl w => by
    refine (knew_any H y w hok hl (by omega)).mono ?_
    rintro e w' ⟨b, h1, h2, h3, h4⟩
    exact ⟨b, _, h1, h2, h3, h4⟩)
  have HSZ := hide (fun w => ksize_any H w hok)
  have HSZ2 := hide (fun w => refsize_any H w hok)
  have HOP : Hid (∀ (dv : Value) (m : Hd) (cs : List (List UInt8)) (text : List UInt8) (l : List (List UInt8)) (w : World), IsDrive w dv ⟨cs, [], -1, false⟩ → OnKeep H cs m text l → m.serial + l.length ≤ 16777216 → Calls Try.prog 67 #[dv, hvVal H] w fun e w' => ∃ b v, e = .returned (.tuple #[.pointer (some ⟨b, 0, none⟩), .int .i64 0]) ∧ w.heap.size ≤ b ∧ KpAt w' b w.heap.size v H m cs text l ∧ Below w.heap.size w w') := hide (fun dv m cs text l w h1 h2 h3 => kopen_any dv H m cs text l w h1 h2 h3)
  have HSV : Hid (∀ (b base : Nat) (v : Value) (m : Hd) (U : List (List UInt8)) (text : List UInt8) (l : List (List UInt8)) (s : List UInt8) (w : World), KpAt w b base v H m U text l → m.gen ≤ 100 → m.serial + l.length ≤ 100 → s.length ≤ H.text * 64 → Calls Try.prog 59 #[.pointer (some ⟨b, 0, none⟩), .string (bs s)] w fun e w' => e = .returned (.int .i64 0) ∧ (∃ cs', KpAt w' b base (.slice none 0 0) H ⟨m.gen + 1, 1 - m.half, m.serial + l.length, s.length⟩ cs' s []) ∧ w.grownBy w' (some b)) := hide (fun b base v m U text l s w k h1 h2 h3 => ksave_any b base v H m U text l s w k h3 (by omega) (by omega) (by omega))
  have HSF : Hid (∀ (b base : Nat) (v : Value) (m : Hd) (U : List (List UInt8)) (text : List UInt8) (l : List (List UInt8)) (s : List UInt8) (w : World), KpAt w b base v H m U text l → H.text * 64 < s.length → s.length ≤ 5000 → Calls Try.prog 59 #[.pointer (some ⟨b, 0, none⟩), .string (bs s)] w fun e w' => e = .returned (.int .i64 6) ∧ Below w.heap.size w w') := hide (fun b base v m U text l s w k h1 h2 => ksave_full b base v H m U text l s w k h1 (by omega))
  have HAD : Hid (∀ (b base : Nat) (v : Value) (m : Hd) (cs : List (List UInt8)) (text : List UInt8) (l : List (List UInt8)) (s : List UInt8) (w : World), KpAt w b base v H m cs text l → s.length ≤ 5000 → m.serial + l.length ≤ 100 → base ≤ w.heap.size → Calls Try.prog 61 #[.pointer (some ⟨b, 0, none⟩), .string (bs s)] w fun e w' => e = .returned (.int .i64 (addErr H l s)) ∧ AddDone w w' b base v H m text l s (addErr H l s)) := hide (fun b base v m cs text l s w k h1 h2 h3 => kadd_say b base v H m cs text l s w k (by omega) (by omega) h3)
  have HRM : Hid (∀ (lv : Value) (B : Nat) (l : List (List UInt8)) (s : List UInt8) (w : World), OwnS w B lv l → l.length ≤ 100 → (∀ x ∈ l, x.length ≤ 4000) → s.length ≤ 5000 → span l ≤ H.log → Calls Try.prog 60 #[hvVal H, lv, .string (bs s)] w fun e w' => e = .returned (.bool (decide ((span l : Int) + cellsOf (s.length : Int) ≤ (H.log : Int)))) ∧ Below w.heap.size w w') := hide (fun lv B l s w ho h1 h2 h3 h4 => by
    obtain ⟨a, c, rfl, _, _, hs⟩ := ho.form
    exact refroom_any H a l.length c l s w hs (by omega) h2 hok (by omega) (by omega))
  have HKT : Hid (∀ (dv : Value) (m : Hd) (cs : List (List UInt8)) (text : List UInt8) (l : List (List UInt8)) (w : World), IsDrive w dv ⟨cs, [], -1, false⟩ → OnKeep H cs m text l → m.serial + l.length ≤ 100 → Calls Try.prog 65 #[dv, hvVal H] w fun e w' => ∃ rv, e = .returned (.tuple #[.string (bs text), rv, .int .i64 (m.gen : Int)]) ∧ OwnS w' w.heap.size rv l ∧ Below w.heap.size w w') := hide (fun dv m cs text l w h1 h2 h3 => refkept_any dv H m cs text l w h1 h2 (by omega))
  have HAW := hide (fun w => awake19_any w)
  have HLEN : Hid (∀ {cs : List (List UInt8)} {m : Hd} {text : List UInt8} {l : List (List UInt8)}, OnKeep H cs m text l → cs.length = H.size) := hide (fun k => k.len)
  rw [hvv] at HH HN HNF HOP HSZ HSZ2 HRM HKT
  obtain ⟨lg, hlg⟩ : ∃ z, H.log = z := ⟨_, rfl⟩
  obtain ⟨tx, htx⟩ : ∃ z, H.text = z := ⟨_, rfl⟩
  obtain ⟨nz, hnz⟩ : ∃ z, H.size = z := ⟨_, rfl⟩
  rw [hlg, htx] at HH HN HNF HOP HSZ HSZ2 HRM HKT
  rw [hlg] at hlb
  rw [htx] at htb HSV HSF
  rw [hnz] at HSZ HSZ2 HLEN
  have HLG := hide hlg
  have hys : (bs y).size = y.length := bs_size y
  obtain ⟨av, hav⟩ : ∃ z, bs text = z := ⟨_, rfl⟩
  obtain ⟨yv, hyv⟩ : ∃ z, bs y = z := ⟨_, rfl⟩
  rw [hav] at HFT ⊢
  rw [hyv] at HFT HN HNF hys
  have HYV := hide hyv
  clear h hx hnc hu hH hok hvv hlg htx hnz hy ht hav hyv
  go_enter Try.func16, Try.ntmps16
  go_wp2_with fail
  refine (HH.out _).mono ?_
  rintro e w1 ⟨rfl, hb1⟩
  clear HH
  go_upto_region 2 with fail
  have B7 := Blk.new w1 [.int .i64 (lg : Int), .int .i64 (tx : Int)] 89
  have hal : Below w1.heap.size w1 (w1.alloc (.cells #[.int .i64 (lg : Int), .int .i64 (tx : Int)] 89)) := (Below.refl _ _).alloc (Nat.le_refl _) _
  obtain ⟨W2, hW2⟩ : ∃ z, w1.alloc (.cells #[.int .i64 (lg : Int), .int .i64 (tx : Int)] 89) = z := ⟨_, rfl⟩
  have C7 : Blk W2 w1.heap.size [.int .i64 (lg : Int), .int .i64 (tx : Int)] 89 := by rw [← hW2]; exact B7
  rw [hW2] at hal
  try rw [hW2]
  have hb2 := chain hb1 hal
  clear hW2 B7 hal hb1
  obtain ⟨b7, hb7⟩ : ∃ z, w1.heap.size = z := ⟨_, rfl⟩
  rw [hb7] at C7 ⊢
  clear hb7
  go_wp2_with fail
  refine (HFT.out _).mono ?_
  rintro e w3 ⟨rfl, hb3⟩
  have D7 := C7.next hb3
  have hb4 := chain hb2 hb3
  have h7B := D7.lt
  obtain ⟨p0, p1, p2, p3⟩ := D7.pair
  clear C7 hb2 hb3 HFT
  by_cases hbig : tx * 64 < y.length
  · have hd : decide (64 * (tx : Int) < (yv.size : Int)) = true := decide_eq_true (by omega)
    go_wp2_with fail
    refine (HNF.out hbig _).mono ?_
    rintro e w5 ⟨rfl, hb5⟩
    have hb6 := chain hb4 hb5
    have E7 := D7.next hb5
    clear p0 p1 p2 p3 D7 hb4 hb5
    obtain ⟨p0, p1, p2, p3⟩ := E7.pair
    go_wp2_with fail
    refine (HAW.out _).mono ?_
    rintro e w7 ⟨rfl, hb7⟩
    have hb8 := chain hb6 hb7
    go_wp2_with fail
    go_ret
    exact ⟨rfl, hb8⟩
  · have hd : decide (64 * (tx : Int) < (yv.size : Int)) = false := decide_eq_false (by omega)
    go_wp2_with fail
    refine (HN.out (by omega) _).mono ?_
    rintro e w5 ⟨bk, U, rfl, hbk, k5, hb5⟩
    have hb6 := chain hb4 hb5
    have E7 := D7.next hb5
    have K5 := hide k5
    have hsB := hb5.size
    have hsw := hb4.size
    obtain ⟨B, hB⟩ : ∃ z, w3.heap.size = z := ⟨_, rfl⟩
    rw [hB] at hbk K5 hsB hsw h7B
    clear p0 p1 p2 p3 D7 hb4 hb5 k5 hB HN HNF
    obtain ⟨p0, p1, p2, p3⟩ := E7.pair
    go_upto_region 6 with fail
    have HK := hide (fun w' (h : Below w5.heap.size w5 w') => show (fun w' => Below w5.heap.size w5 w' ∧ w'.cell? ⟨b7, 0, none⟩ = some (.int .i64 (lg : Int)) ∧ w'.cell? ⟨b7, 1, none⟩ = some (.int .i64 (tx : Int))) w' from ⟨h, (E7.next h).cell 0, (E7.next h).cell 1⟩)
    clear p0 p1 p2 p3
    go_region_held3 (fun w' => Below w5.heap.size w5 w' ∧ w'.cell? ⟨b7, 0, none⟩ = some (.int .i64 (lg : Int)) ∧ w'.cell? ⟨b7, 1, none⟩ = some (.int .i64 (tx : Int))) (first | exact HK.out _ (Below.drewed (Below.refl _ _)) | exact HK.out _ hbq.out) (first
      | (go_at_call 57
         have hq := (‹Below w5.heap.size w5 _ ∧ _›).1
         refine (HSZ.out _).mono ?_
         rintro e w8 ⟨rfl, hb8⟩
         have hbq := hide (chain hq hb8)
         clear hq hb8)
      | (go_at_call 58
         have hq := (‹Below w5.heap.size w5 _ ∧ _›).1
         refine (HSZ2.out _).mono ?_
         rintro e w8 ⟨rfl, hb8⟩
         have hbq := hide (chain hq hb8)
         clear hq hb8))
    have F7 := E7.next hbq.out
    have hb7 := chain hb6 hbq.out
    have K6 := hide (K5.out.next hbq.out)
    have hB6 := Nat.le_trans hsB hbq.out.size
    clear HK hbq K5 E7 hb6 hsB
    go_wp2_with fail
    go_loopw [0, 8, 10, 11] (fun s0 s8 s10 s11 wr => ∃ (i : Nat) (m : Hd) (cs : List (List UInt8)) (text : List UInt8) (l : List (List UInt8)) (v : Value) (bk : Nat), i ≤ n ∧ i ≤ 16 ∧ s11 = .int .i64 (i : Int) ∧ s0 = .string (bs text) ∧ s8 = .pointer (some ⟨bk, 0, none⟩) ∧ m.gen ≤ 1 + i ∧ m.serial + l.length ≤ 1 + i ∧ l.length ≤ i ∧ B ≤ bk ∧ (s10.ownBlock = none ∨ s10.ownBlock ≠ v.ownBlock) ∧ Hid (KpAt wr bk B v H m cs text l) ∧ Hid (OwnS wr B s10 l) ∧ Hid (Blk wr b7 [.int .i64 (lg : Int), .int .i64 (tx : Int)] 89) ∧ B ≤ wr.heap.size ∧ Below w.heap.size w wr) (fun _ _ _ s11 _ => 16 - (intOf s11).toNat)
    case atStart => exact ⟨0, _, _, y, [], _, bk, Nat.zero_le _, by omega, rfl, by rw [HYV.out], rfl, by simp, by simp, by simp, hbk, .inl rfl, K6, hide (OwnS.nil _ _), hide F7, hB6, hb7⟩
    case round =>
      obtain ⟨i, m, cs, text, l, v, bk, hin, hi16, rfl, rfl, rfl, hgen, hser, hll, hbk, hNE, hK, hL, hC, hBs, hbw⟩ := hrel
      clear K6 F7 hb7 hB6 hys hlt HYV
      by_cases hii : i < n ∧ i < 16
      · obtain ⟨hi1, hi2⟩ := hii
        obtain ⟨bx, ox, hlx, hix, hcx, hcx2⟩ := (HO.out.below hbw).at c i hi1
        have HFi := hide (HF.out i hi1)
        have hsl := few19_length (acts.getD i ⟨[], false⟩).s
        obtain ⟨s, hs⟩ : ∃ s, few19 (acts.getD i ⟨[], false⟩).s = s := ⟨_, rfl⟩
        rw [hs] at HFi hsl
        obtain ⟨x0, hx0⟩ : ∃ z, bs (acts.getD i ⟨[], false⟩).s = z := ⟨_, rfl⟩
        rw [hx0] at HFi hcx
        obtain ⟨save, hsave⟩ : ∃ z, (acts.getD i ⟨[], false⟩).save = z := ⟨_, rfl⟩
        have HSA := hide hsave
        have hss : (bs s).size = s.length := bs_size s
        have hneL : (i : Int) < (n : Int) := by omega
        have hl17 : l.length ≤ 17 := by omega
        have hfit := hK.out.on.fits
        have hshort := hide hK.out.on.short
        rw [HLG.out] at hfit
        have HSAVE := hide (fun (w : World) (k : KpAt w bk B v H m cs text l) (hfl : s.length ≤ tx * 64) => HSV.out bk B v m cs text l s w k (by omega) (by omega) hfl)
        have HFULL := hide (fun (w : World) (k : KpAt w bk B v H m cs text l) (hfl : tx * 64 < s.length) => HSF.out bk B v m cs text l s w k hfl (by omega))
        have HADD := hide (fun (w : World) (k : KpAt w bk B v H m cs text l) (hb : B ≤ w.heap.size) => HAD.out bk B v m cs text l s w k (by omega) (by omega) hb)
        have HROOM := hide (fun (w : World) (ho : OwnS w B u10 l) => HRM.out u10 B l s w ho (by omega) hshort.out (by omega) hfit)
        have hcase := room_cases H l s (by rw [HLG.out]; exact hfit)
        rw [HLG.out] at hcase
        obtain ⟨rm, hrm⟩ : ∃ z, decide ((span l : Int) + cellsOf (s.length : Int) ≤ (lg : Int)) = z := ⟨_, rfl⟩
        obtain ⟨E, hE⟩ : ∃ E, addErr H l s = E := ⟨_, rfl⟩
        rw [hrm] at HROOM hcase
        rw [hE] at HADD hcase
        obtain ⟨sv, hsv⟩ : ∃ z, bs s = z := ⟨_, rfl⟩
        rw [hsv] at HFi HSAVE HFULL HADD HROOM hss
        have HSVV := hide hsv
        have HCASE := hide hcase
        clear hs hx0 hsv hsave hshort hrm hE hcase hfit
        go_wp2_with fail
        refine (HFi.out _).mono ?_
        rintro e w4 ⟨rfl, hb4⟩
        have K4 := hide (hK.out.next hb4)
        have L4 := hide (OwnZ.below hL.out hb4)
        have C4 := hide (hC.out.next hb4)
        have hb5 := chain hbw hb4
        have hB4 := Nat.le_trans hBs hb4.size
        clear hK hL hC hb4 hcx hcx2 HFi hbw hBs hix hlx
        obtain ⟨by_, oy, hly, hiy, hcy, hcy2⟩ := (HO.out.below hb5).at c i hi1
        rw [HSA.out] at hcy2
        clear hcy
        go_upto_if 77 with fail
        clear hiy hcy2 hly
        have H7 := hide C4.out.pair
        go_cut [0, 10, 13] (fun s0 s10 s13 wx => ∃ (m' : Hd) (cs' : List (List UInt8)) (text' : List UInt8) (l' : List (List UInt8)) (v' : Value), s0 = .string (bs text') ∧ m'.gen ≤ 2 + i ∧ m'.serial + l'.length ≤ 2 + i ∧ l'.length ≤ i + 1 ∧ (s10.ownBlock = none ∨ s10.ownBlock ≠ v'.ownBlock) ∧ Hid (KpAt wx bk B v' H m' cs' text' l') ∧ Hid (OwnS wx B s10 l') ∧ Hid (Blk wx b7 [.int .i64 (lg : Int), .int .i64 (tx : Int)] 89) ∧ B ≤ wx.heap.size ∧ Below w.heap.size w wx)
        case first =>
          cases save with
          | true =>
            by_cases hbig2 : tx * 64 < s.length
            · have hd2 : decide (64 * (tx : Int) < (sv.size : Int)) = true := decide_eq_true (by omega)
              obtain ⟨p0, p1, p2, p3⟩ := H7.out
              go_wp2_with fail
              refine (HFULL.out _ K4.out hbig2).mono ?_
              rintro e w5 ⟨rfl, hb6⟩
              have K5 := hide (K4.out.next hb6)
              have L5 := hide (OwnZ.below L4.out hb6)
              have C5 := hide (C4.out.next hb6)
              have hb7 := chain hb5 hb6
              have hB5 := Nat.le_trans hB4 hb6.size
              clear K4 L4 C4 hb5 hB4 hb6 p0 p1 p2 p3 H7
              go_wp2_with fail
              go_meet
              case rel => exact ⟨m, cs, text, l, v, rfl, by omega, by omega, by omega, hNE, K5, L5, C5, hB5, hb7⟩
            · have hd2 : decide (64 * (tx : Int) < (sv.size : Int)) = false := decide_eq_false (by omega)
              obtain ⟨p0, p1, p2, p3⟩ := H7.out
              go_wp2_with fail
              refine (HSAVE.out _ K4.out (by omega)).mono ?_
              rintro e w5 ⟨rfl, ⟨cs5, k5⟩, hg5⟩
              have C5 := hide (C4.out.grown hg5 (fun e => by injection e with e; omega))
              have hb7 : Below w.heap.size w w5 := hb5.grown hg5 (by have := hb5.size; omega) (fun g hg => by injection hg with hg; omega)
              have hB5 := Nat.le_trans hB4 hg5.size
              have K5 := hide k5
              clear K4 L4 C4 hb5 hB4 hg5 k5 p0 p1 p2 p3 H7
              go_wp2_with fail
              go_meet
              case rel => exact ⟨_, cs5, s, [], _, by rw [HSVV.out], by simp only; omega, by simp only [List.length_nil]; omega, by simp, .inl rfl, K5, hide (OwnS.nil _ _), C5, hB5, hb7⟩
          | false =>
            obtain ⟨p0, p1, p2, p3⟩ := H7.out
            go_wp2_with fail
            refine (HROOM.out _ L4.out).mono ?_
            rintro e w5 ⟨rfl, hb6⟩
            have K5 := hide (K4.out.next hb6)
            have L5 := hide (OwnZ.below L4.out hb6)
            have C5 := hide (C4.out.next hb6)
            have hb7 := chain hb5 hb6
            have hB5 := Nat.le_trans hB4 hb6.size
            clear K4 L4 C4 hb5 hB4 hb6 p0 p1 p2 p3 H7
            rcases HCASE.out with ⟨hc1, rfl, rfl⟩ | ⟨hc1, rfl, rfl⟩ | ⟨hc1, rfl, rfl⟩
            · have hd4 : decide ((4000 : Int) < (sv.size : Int)) = true := decide_eq_true (by omega)
              go_wp2_with fail
              refine (HADD.out _ K5.out hB5).mono ?_
              rintro e w6 ⟨rfl, hD⟩
              rcases hD with ⟨hx, _⟩ | ⟨_, hbd⟩
              · exact absurd hx (by decide)
              have K6 := hide (K5.out.next hbd)
              have L6 := hide (OwnZ.below L5.out hbd)
              have C6 := hide (C5.out.next hbd)
              have hb8 := chain hb7 hbd
              have hB6 := Nat.le_trans hB5 hbd.size
              clear K5 L5 C5 hb7 hB5 hbd
              go_wp2_with fail
              go_meet
              case rel => exact ⟨m, cs, text, l, v, rfl, by omega, by omega, by omega, hNE, K6, L6, C6, hB6, hb8⟩
            · have hd4 : decide ((4000 : Int) < (sv.size : Int)) = false := decide_eq_false (by omega)
              go_wp2_with fail
              refine (HADD.out _ K5.out hB5).mono ?_
              rintro e w6 ⟨rfl, hD⟩
              have hlow := hD.low K5.out hbk (Nat.le_refl _) hB5
              have L6 := hide (hD.row K5.out L5.out hNE)
              have C6 := hide (C5.out.below hlow h7B)
              have hb8 : Below w.heap.size w w6 := hb7.trans (hlow.mono (by omega))
              have hB6 := Nat.le_trans hB5 hlow.size
              rcases hD with ⟨_, v', cs', k6, hown, _⟩ | ⟨hx, _⟩
              · have hNE6 : u10.ownBlock = none ∨ u10.ownBlock ≠ v'.ownBlock := by
                  cases hu : u10.ownBlock with
                  | none => exact .inl rfl
                  | some g =>
                    have hlt := (L5.out.1.lt g hu).2
                    rcases hown with e | ⟨g', e1, e2⟩
                    · rw [hu] at hNE
                      rw [e]
                      exact hNE
                    · rw [e1]
                      exact .inr (fun e => by injection e with e; omega)
                have HNE6 := hide hNE6
                have K6 := hide k6
                have hnb := Blk.new w6 [.string sv] 9
                have hal : Below w6.heap.size w6 (w6.alloc (.cells #[.string sv] 9)) := (Below.refl _ _).alloc (Nat.le_refl _) _
                clear hlow hown hNE6 k6 hNE K5 L5 C5 hb7 hB5
                go_wp2_with (at_builtin; refine wpList_appS rfl (.tmp 107) (.tmp 109) rfl B u10 l rfl (OwnZ.below L6.out hal) _ 1 1 [s] rfl rfl (by show Row _ _ [Value.string (bs s)]; rw [HSVV.out]; exact row_of_blk hnb) (by omega) (by simp; omega) ?_)
                intro v10 w10 hO10 hg10 hk10 ho10
                have L7 := OwnZ.below L6.out hal
                have K7 := hide ((K6.out.next hal).rowStep L7 hg10 hk10 HNE6.out)
                have C7 := hide ((C6.out.next hal).grown hg10 (fun e => own_base L7 h7B e.symm))
                have hb9 : Below w.heap.size w w10 := (hb8.trans (hal.mono hb8.size)).grown hg10 (by have := hb8.size; have := hal.size; omega) (fun g hg => by have := (L7.1.lt g hg).1; omega)
                have hB7 : B ≤ w10.heap.size := Nat.le_trans (Nat.le_trans hB6 hal.size) hg10.size
                have hNE7 : v10.ownBlock = none ∨ v10.ownBlock ≠ v'.ownBlock := by
                  rcases ho10 with e | e
                  · rw [e]; exact HNE6.out
                  · refine .inr (fun e2 => ?_)
                    rw [e] at e2
                    have h1 := K6.out.ownLt e2.symm
                    have h2 := hal.size
                    omega
                have O10 := hide hO10
                clear hO10 hg10 hk10 ho10 L7 L6 K6 C6 hb8 hal hnb hB6
                go_wp2_with fail
                go_meet
                case rel => exact ⟨m, cs', text, l ++ [s], v', rfl, by omega, by simp; omega, by simp; omega, hNE7, K7, O10, C7, hB7, hb9⟩
              · exact absurd rfl hx
            · have hd4 : decide ((4000 : Int) < (sv.size : Int)) = false := decide_eq_false (by omega)
              go_wp2_with fail
              refine (HADD.out _ K5.out hB5).mono ?_
              rintro e w6 ⟨rfl, hD⟩
              rcases hD with ⟨hx, _⟩ | ⟨_, hbd⟩
              · exact absurd hx (by decide)
              have K6 := hide (K5.out.next hbd)
              have L6 := hide (OwnZ.below L5.out hbd)
              have C6 := hide (C5.out.next hbd)
              have hb8 := chain hb7 hbd
              have hB6 := Nat.le_trans hB5 hbd.size
              clear K5 L5 C5 hb7 hB5 hbd
              go_wp2_with fail
              go_meet
              case rel => exact ⟨m, cs, text, l, v, rfl, by omega, by omega, by omega, hNE, K6, L6, C6, hB6, hb8⟩
        case rest =>
          obtain ⟨m', cs', text', l', v', rfl, hgen', hser', hll', hNE', hK', hL', hC', hBs', hbw'⟩ := hcut
          clear K4 L4 C4 hb5 hB4 H7 HADD HROOM HSAVE HFULL HCASE
          have hON := hide hK'.out.on
          have hMY := hide hK'.out.on.may
          have HSM : Hid (∀ (v1 v2 : Value) (b1 b2 : Nat) (w : World), OwnS w b1 v1 l' → OwnS w b2 v2 l' → Calls Try.prog 49 #[v1, v2] w fun e w' => e = .returned (.bool true) ∧ Below w.heap.size w w') := hide (fun v1 v2 b1 b2 w h1 h2 => by
            obtain ⟨a1, c1, rfl, _, _, hs1⟩ := h1.form
            obtain ⟨a2, c2, rfl, _, _, hs2⟩ := h2.form
            have h := ref2same_any a1 a2 l'.length c1 l'.length c2 l' l' w hs1 hs2 (by omega) (by omega)
            rw [decide_eq_true rfl] at h
            exact h)
          have HT : Hid (∀ (b base : Nat) (v : Value) (w : World), KpAt w b base v H m' cs' text' l' → Calls Try.prog 62 #[.pointer (some ⟨b, 0, none⟩)] w fun e w' => e = .returned (.string (bs text')) ∧ w = w') := hide (fun _ _ _ w k => ktext_any w k)
          have HG : Hid (∀ (b base : Nat) (v : Value) (w : World), KpAt w b base v H m' cs' text' l' → Calls Try.prog 66 #[.pointer (some ⟨b, 0, none⟩)] w fun e w' => e = .returned (.int .i64 (m'.gen : Int)) ∧ w = w') := hide (fun _ _ _ w k => kgen_any w k)
          have HREC : Hid (∀ (b base : Nat) (v : Value) (w : World), KpAt w b base v H m' cs' text' l' → Calls Try.prog 63 #[.pointer (some ⟨b, 0, none⟩)] w fun e w' => ∃ rv, e = .returned rv ∧ OwnS w' w.heap.size rv l' ∧ Below w.heap.size w w') := hide (fun _ _ _ w k => by
            refine (krecords_any w k (by omega)).mono ?_
            rintro e w' ⟨a, nn, cc, rfl, h2, _, h4⟩
            exact ⟨_, rfl, h2, h4⟩)
          have HKEPT : Hid (∀ (dv : Value) (w : World), IsDrive w dv ⟨cs', [], -1, false⟩ → Calls Try.prog 65 #[dv, .agg #[.int .i64 (lg : Int), .int .i64 (tx : Int)]] w fun e w' => ∃ rv, e = .returned (.tuple #[.string (bs text'), rv, .int .i64 (m'.gen : Int)]) ∧ OwnS w' w.heap.size rv l' ∧ Below w.heap.size w w') := hide (fun dv w hd => HKT.out dv m' cs' text' l' w hd hON.out (by omega))
          have HREFMAY : Hid (∀ (dv : Value) (w : World), IsDrive w dv ⟨cs', [], -1, false⟩ → Calls Try.prog 26 #[dv] w fun e w' => e = .returned (.bool true) ∧ Below w.heap.size w w') := hide (fun dv w hd => by
            have h := refmay_any dv _ w hd
            rw [mayB_yes hMY.out] at h
            exact h)
          obtain ⟨⟨a1, n1, c1, a2, n2, c2, hkb, hkd⟩, _, _⟩ := hK'.out
          have HKD := hide hkd
          obtain ⟨y1, z1, t1, y2, z2, t2, f1, o1, hye, hyd⟩ := hkd
          have hn1 : n1 = nz := by
            have h1 := HLEN.out hON.out
            have h2 := hyd.cells.len
            simp only [drvVal, Value.agg.injEq] at hye
            simp at hye
            have h3 : n1 = z1 := hye.1.2.1
            rw [h3, ← h1]
            exact h2.symm
          subst hn1
          have HDR : Hid (∀ w', Below wc.heap.size wc w' → Calls Try.prog 64 #[.pointer (some ⟨bk, 0, none⟩)] w' fun e w'' => e = .returned (.agg #[.slice a1 n1 c1, .slice a2 n2 c2, .int .i64 (-1), .bool false]) ∧ Below w'.heap.size w' w'') := hide (fun w' hb => kdrive_val w' (hkb.next hb))
          have HDV : Hid (∀ w', Below wc.heap.size wc w' → IsDrive w' (.agg #[.slice a1 n1 c1, .slice a2 n2 c2, .int .i64 (-1), .bool false]) ⟨cs', [], -1, false⟩) := hide (fun w' hb => HKD.out.below hb)
          obtain ⟨tv, htv⟩ : ∃ z, bs text' = z := ⟨_, rfl⟩
          rw [htv] at HT HKEPT ⊢
          clear hye hyd hkb
          have hf3 := drv_off a1 n1 c1 a2 n2 c2 (-1) false
          have hf0 := drv_cells a1 n1 c1 a2 n2 c2 (-1) false
          go_upto_region 29 with fail
          have HK := hide (fun w' (h : Below wc.heap.size wc w') => show (fun w' => Below wc.heap.size wc w' ∧ w'.cell? ⟨b7, 0, none⟩ = some (.int .i64 (lg : Int)) ∧ w'.cell? ⟨b7, 1, none⟩ = some (.int .i64 (tx : Int))) w' from ⟨h, (hC'.out.next h).cell 0, (hC'.out.next h).cell 1⟩)
          go_region_held3 (fun w' => Below wc.heap.size wc w' ∧ w'.cell? ⟨b7, 0, none⟩ = some (.int .i64 (lg : Int)) ∧ w'.cell? ⟨b7, 1, none⟩ = some (.int .i64 (tx : Int))) (first | exact HK.out _ (Below.drewed (Below.refl _ _)) | exact HK.out _ hbq.out) (first
            | (go_at_call 62
               have hq := (‹Below wc.heap.size wc _ ∧ _›).1
               refine (HT.out _ _ _ _ (hK'.out.next hq)).mono ?_
               rintro e w8 ⟨rfl, rfl⟩
               have hbq := hide hq
               clear hq)
            | (go_at_call 63
               have hq := (‹Below wc.heap.size wc _ ∧ _›).1
               refine (HREC.out _ _ _ _ (hK'.out.next hq)).mono ?_
               rintro e w8 ⟨rv, rfl, hown, hb8⟩
               have hor := hide hown
               clear hown
               have hbq := hide (chain hq hb8)
               clear hq hb8)
            | (go_at_call 49
               have hq := (‹Below wc.heap.size wc _ ∧ _›).1
               refine (HSM.out _ _ _ _ _ hor.out (OwnZ.below hL'.out hq)).mono ?_
               rintro e w8 ⟨rfl, hb8⟩
               have hbq := hide (chain hq hb8)
               clear hq hb8)
            | (go_at_call 64
               have hq := (‹Below wc.heap.size wc _ ∧ _›).1
               refine (HDR.out _ hq).mono ?_
               rintro e w8 ⟨rfl, hb8⟩
               have hbq := hide (chain hq hb8)
               clear hq hb8)
            | (go_at_call 26
               have hq := (‹Below wc.heap.size wc _ ∧ _›).1
               refine (HREFMAY.out _ _ (HDV.out _ hq)).mono ?_
               rintro e w8 ⟨rfl, hb8⟩
               have hbq := hide (chain hq hb8)
               clear hq hb8)
            | (go_at_call 58
               have hq := (‹Below wc.heap.size wc _ ∧ _›).1
               refine (HSZ2.out _).mono ?_
               rintro e w8 ⟨rfl, hb8⟩
               have hbq := hide (chain hq hb8)
               clear hq hb8))
          have hbc := hbq.out
          clear hf3 hf0
          have C9 := hide (hC'.out.next hbc)
          have HBC := hide hbc
          clear HK hbq hbc hor
          obtain ⟨wd, rfl⟩ : ∃ z : World, z = w8 := ⟨_, rfl⟩
          go_upto_region 31 with fail
          have HK := hide (fun w' (h : Below wd.heap.size wd w') => show (fun w' => Below wd.heap.size wd w' ∧ w'.cell? ⟨b7, 0, none⟩ = some (.int .i64 (lg : Int)) ∧ w'.cell? ⟨b7, 1, none⟩ = some (.int .i64 (tx : Int))) w' from ⟨h, (C9.out.next h).cell 0, (C9.out.next h).cell 1⟩)
          go_region_held3 (fun w' => Below wd.heap.size wd w' ∧ w'.cell? ⟨b7, 0, none⟩ = some (.int .i64 (lg : Int)) ∧ w'.cell? ⟨b7, 1, none⟩ = some (.int .i64 (tx : Int))) (first | exact HK.out _ (Below.drewed (Below.refl _ _)) | exact HK.out _ hbq.out) (first
            | (go_at_call 64
               have hq := (‹Below wd.heap.size wd _ ∧ _›).1
               refine (HDR.out _ (chain HBC.out hq)).mono ?_
               rintro e w8 ⟨rfl, hb8⟩
               have hbq := hide (chain hq hb8)
               clear hq hb8)
            | (go_at_call 65
               have hq := (‹Below wd.heap.size wd _ ∧ _›).1
               refine (HKEPT.out _ _ (HDV.out _ (chain HBC.out hq))).mono ?_
               rintro e w8 ⟨rv, rfl, hown, hb8⟩
               have hor := hide hown
               clear hown
               have hbq := hide (chain hq hb8)
               clear hq hb8))
          have hbf := hide (chain HBC.out hbq.out)
          clear HK hbq C9 HBC
          obtain ⟨wf, rfl⟩ : ∃ z : World, z = w8 := ⟨_, rfl⟩
          go_wp2_with fail
          refine (HSM.out _ _ _ _ _ hor.out (OwnZ.below hL'.out hbf.out)).mono ?_
          rintro e wg ⟨rfl, hb12⟩
          have HBG := hide (chain hbf.out hb12)
          clear hor hbf hb12
          go_wp2_with fail
          refine (HG.out _ _ _ _ (hK'.out.next HBG.out)).mono ?_
          rintro e w13 ⟨rfl, rfl⟩
          have KG := hide (hK'.out.next HBG.out)
          have LG := hide (OwnZ.below hL'.out HBG.out)
          have CG := hide (hC'.out.next HBG.out)
          have hBG := Nat.le_trans hBs' HBG.out.size
          have hbG := chain hbw' HBG.out
          by_cases hm3 : s.length % 3 = 0
          · have e3 : ((s.length : Int) % 3 == 0) = true := by rw [beq_iff_eq]; omega
            have e4 : ((sv.size : Int) % 3 == 0) = true := by rw [beq_iff_eq]; omega
            have HC : Hid (∀ (v : Value) (w : World), IsDrive w v ⟨cs', [], -1, false⟩ → Calls Try.prog 24 #[v, .agg #[.int .u64 0, .int .i64 0, .int .i64 0]] w fun e w' => ∃ v', e = .returned v' ∧ IsDrive w' v' ⟨cs', [], -1, false⟩ ∧ Below w.heap.size w w') := hide (fun v w h1 => crash_still v cs' 0 0 0 w h1 hMY.out (by omega) (by omega) (by omega))
            go_upto_region 35 with fail
            have HK := hide (fun w' (h : Below wg.heap.size wg w') => show (fun w' => Below wg.heap.size wg w' ∧ w'.cell? ⟨b7, 0, none⟩ = some (.int .i64 (lg : Int)) ∧ w'.cell? ⟨b7, 1, none⟩ = some (.int .i64 (tx : Int))) w' from ⟨h, (CG.out.next h).cell 0, (CG.out.next h).cell 1⟩)
            go_region_held3 (fun w' => Below wg.heap.size wg w' ∧ w'.cell? ⟨b7, 0, none⟩ = some (.int .i64 (lg : Int)) ∧ w'.cell? ⟨b7, 1, none⟩ = some (.int .i64 (tx : Int))) (first | exact HK.out _ (Below.drewed (Below.refl _ _)) | exact HK.out _ hbq.out) (first
              | (go_at_call 64
                 have hq := (‹Below wg.heap.size wg _ ∧ _›).1
                 refine (HDR.out _ (chain HBG.out hq)).mono ?_
                 rintro e w8 ⟨rfl, hb8⟩
                 have hbq := hide (chain hq hb8)
                 clear hq hb8)
              | (go_at_call 24
                 have hq := (‹Below wg.heap.size wg _ ∧ _›).1
                 refine (HC.out _ _ (HDV.out _ (chain HBG.out hq))).mono ?_
                 rintro e w8 ⟨dv2, rfl, hdv2, hb8⟩
                 have hdc := hide hdv2
                 clear hdv2
                 have hbq := hide (chain hq hb8)
                 clear hq hb8)
              | (go_at_call 67
                 have hq := (‹Below wg.heap.size wg _ ∧ _›).1
                 refine (HOP.out _ _ _ _ _ _ hdc.out hON.out (by omega)).mono ?_
                 rintro e w8 ⟨bo, vo, rfl, hbo, ko, hb8⟩
                 have hko := hide (And.intro (ko.lower (Nat.le_trans hBG hq.size)) (fun g (hg : vo.ownBlock = some g) => Nat.le_trans hq.size (ko.ownBase hg)))
                 have hboo := Nat.le_trans hq.size hbo
                 clear ko hbo
                 have hbq := hide (chain hq hb8)
                 clear hq hb8))
            have KO := hide hko.out.1
            have hNEo : u10.ownBlock = none ∨ u10.ownBlock ≠ vo.ownBlock := by
              cases hu : u10.ownBlock with
              | none => exact .inl rfl
              | some g =>
                have h1 := (LG.out.1.lt g hu).2
                refine .inr fun e => ?_
                have h2 := hko.out.2 g e.symm
                omega
            have KG9 := hide (KG.out.next hbq.out)
            have LG9 := hide (OwnZ.below LG.out hbq.out)
            have CG9 := hide (CG.out.next hbq.out)
            have hBG9 := Nat.le_trans hBG hbq.out.size
            have hbG9 := chain hbG hbq.out
            have hBo : B ≤ bo := by omega
            clear HK hbq hko hdc KG LG CG hBG hbG HC
            go_wp2_with fail
            refine (HG.out _ _ _ _ KO.out).mono ?_
            rintro e w14 ⟨rfl, rfl⟩
            go_wp2_with fail
            refine (HG.out _ _ _ _ KG9.out).mono ?_
            rintro e w15 ⟨rfl, rfl⟩
            go_wp2_with fail
            go_roundw
            case rel => exact ⟨i + 1, m', cs', text', l', vo, bo, by omega, by omega, by go_num, by rw [htv], rfl, by omega, by omega, by omega, hBo, hNEo, KO, LG9, CG9, hBG9, hbG9⟩
            case measure => simp [intOf]; omega
          · have e3 : ((s.length : Int) % 3 == 0) = false := by rw [beq_eq_false_iff_ne]; omega
            have e4 : ((sv.size : Int) % 3 == 0) = false := by rw [beq_eq_false_iff_ne]; omega
            go_wp2_with fail
            go_roundw
            case rel => exact ⟨i + 1, m', cs', text', l', v', bk, by omega, by omega, by go_num, by rw [htv], rfl, by omega, by omega, by omega, hbk, hNE', KG, LG, CG, hBG, hbG⟩
            case measure => simp [intOf]; omega
      · have hnn : ¬ i < n ∨ (i < n ∧ ¬ i < 16) := by omega
        have HSM : Hid (∀ (v1 v2 : Value) (b1 b2 : Nat) (w : World), OwnS w b1 v1 l → OwnS w b2 v2 l → Calls Try.prog 49 #[v1, v2] w fun e w' => e = .returned (.bool true) ∧ Below w.heap.size w w') := hide (fun v1 v2 b1 b2 w h1 h2 => by
          obtain ⟨a1, c1, rfl, _, _, hs1⟩ := h1.form
          obtain ⟨a2, c2, rfl, _, _, hs2⟩ := h2.form
          have h := ref2same_any a1 a2 l.length c1 l.length c2 l l w hs1 hs2 (by omega) (by omega)
          rw [decide_eq_true rfl] at h
          exact h)
        obtain ⟨tv, htv⟩ : ∃ z, bs text = z := ⟨_, rfl⟩
        have HT : Hid (∀ (b base : Nat) (v : Value) (w : World), KpAt w b base v H m cs text l → Calls Try.prog 62 #[.pointer (some ⟨b, 0, none⟩)] w fun e w' => e = .returned (.string tv) ∧ w = w') := hide (fun _ _ _ w k => by rw [← htv]; exact ktext_any w k)
        have hl100 : l.length ≤ 100 := by omega
        rw [htv]
        rcases hnn with hn1 | ⟨hn1, hn2⟩
        all_goals
          go_wp2_with fail
          refine (HT.out _ _ _ _ hK.out).mono ?_
          rintro e w9 ⟨rfl, rfl⟩
          go_wp2_with fail
          refine (krecords_any _ hK.out (by omega)).mono ?_
          rintro e w10 ⟨a8, n8, c8, rfl, hown8, rfl, hb8⟩
          have hb9 := chain hbw hb8
          have HOW := hide hown8
          have HL9 := hide (OwnZ.below hL.out hb8)
          clear hown8 hb8 hbw hK hL hC
          go_wp2_with fail
          refine (HSM.out _ _ _ _ _ HOW.out HL9.out).mono ?_
          rintro e w11 ⟨rfl, hb11⟩
          have hb12 := chain hb9 hb11
          clear hb11 hb9 HOW HL9
          go_wp2_with fail
          refine (HAW.out _).mono ?_
          rintro e w12 ⟨rfl, hb13⟩
          have hb14 := chain hb12 hb13
          go_wp2_with fail
          go_ret
          exact ⟨rfl, hb14⟩

theorem plays_frame {w : World} (a : ByteArray) (ha : a.size ≤ maxLen) (ao : Option Addr) (n c : Nat) (acts : List Act19) (h : Acts w ao n acts) (h1 : n ≤ c) (h2 : c ≤ 9223372036854775807) (hx : ∀ y ∈ acts, y.s.length ≤ 9223372036854775807) (z : Int) (hz : (Lit.int .u8 z).wf = true) (_ : World) :
    Calls Try.prog 16 #[.string a, .slice ao n c, .int .u8 z] w fun e w' => e = .returned (.bool true) ∧ Below w.heap.size w w' := by
  unfold maxLen at ha
  simp [Lit.wf, IntKind.min, IntKind.max, IntKind.bits, IntKind.signed] at hz
  obtain ⟨u, rfl⟩ := Int.eq_ofNat_of_zero_le (show 0 ≤ z by omega)
  have g := plays_walk a.data.toList ao n c acts u w (by simpa using Nat.le_of_lt_succ (Nat.lt_succ_of_le ha)) h ⟨h1, h2⟩ hx (by omega)
  rw [bs_of] at g
  exact g

end Go.Proofs.Ytkapdmhjhbmdjaa
