/-
  The walk through the statement KeepTexts: it returns true.
-/
import Derived.Test.YtkapdmhjhbmdjaaKpD
namespace Go.Proofs.Ytkapdmhjhbmdjaa
open Go.RowKit

set_option maxRecDepth 100000 in
set_option maxHeartbeats 12800000 in
theorem texts_walk (a b : List UInt8) (kept : Nat) (tn cut : Int) (w : World) (ha : a.length ≤ 9223372036854775807) (hb : b.length ≤ 9223372036854775807) (hk : kept < 18446744073709551616) (ht : -9223372036854775808 ≤ tn ∧ tn < 9223372036854775808) (hcut : -9223372036854775808 ≤ cut ∧ cut < 9223372036854775808) :
    Calls Try.prog 18 #[.string (bs a), .string (bs b), .agg #[.int .u64 (kept : Int), .int .i64 tn, .int .i64 cut]] w fun e w' => e = .returned (.bool true) ∧ Below w.heap.size w w' := by
  have HF1 := hide (fun w => few19_any a w (by omega))
  have HF2 := hide (fun w => few19_any b w (by omega))
  have hla := few19_length a
  have hlb := few19_length b
  unfold few19 at hla hlb
  obtain ⟨x, hx⟩ : ∃ z, (if 700 < a.length ∧ a.length ≤ 4000 then a.take 700 else if 4001 < a.length then a.take 4001 else a) = z := ⟨_, rfl⟩
  obtain ⟨y, hy⟩ : ∃ z, (if 700 < b.length ∧ b.length ≤ 4000 then b.take 700 else if 4001 < b.length then b.take 4001 else b) = z := ⟨_, rfl⟩
  rw [hx] at HF1 hla
  rw [hy] at HF2 hlb
  have hok : (⟨3, 70⟩ : Hv).Ok := by unfold Hv.Ok; decide
  have hlt : (⟨3, 70⟩ : Hv).log = 3 ∧ (⟨3, 70⟩ : Hv).text = 70 := ⟨rfl, rfl⟩
  have hvv : hvVal ⟨3, 70⟩ = .agg #[.int .i64 3, .int .i64 70] := rfl
  obtain ⟨h, hh⟩ : ∃ h, (⟨3, 70⟩ : Hv) = h := ⟨_, rfl⟩
  rw [hh] at hok hlt hvv
  have HN : Hid (∀ w, Calls Try.prog 55 #[hvVal h, .string (bs x)] w fun e w' => ∃ b U, e = .returned (.tuple #[.pointer (some ⟨b, 0, none⟩), .int .i64 0]) ∧ w.heap.size ≤ b ∧ KpAt w' b w.heap.size (.slice none 0 0) h ⟨1, 0, 1, x.length⟩ U x [] ∧ Below w.heap.size w w') := hide (fun w => by
    refine (knew_any h x w hok (by rw [hlt.2]; omega) (by omega)).mono ?_
    rintro e w' ⟨b, h1, h2, h3, h4⟩
    exact ⟨b, _, h1, h2, h3, h4⟩)
  have HO : Hid (∀ (dv : Value) (m : Hd) (cs : List (List UInt8)) (text : List UInt8) (l : List (List UInt8)) (w : World), IsDrive w dv ⟨cs, [], -1, false⟩ → OnKeep h cs m text l → m.serial + l.length ≤ 16777216 → Calls Try.prog 67 #[dv, hvVal h] w fun e w' => ∃ b v, e = .returned (.tuple #[.pointer (some ⟨b, 0, none⟩), .int .i64 0]) ∧ w.heap.size ≤ b ∧ KpAt w' b w.heap.size v h m cs text l ∧ Below w.heap.size w w') := hide (fun dv m cs text l w h1 h2 h3 => kopen_any dv h m cs text l w h1 h2 h3)
  have HC : Hid (∀ (v : Value) (cs : List (List UInt8)) (w : World), IsDrive w v ⟨cs, [], -1, false⟩ → (⟨cs, [], -1, false⟩ : Drv).May → Calls Try.prog 24 #[v, .agg #[.int .u64 (kept : Int), .int .i64 tn, .int .i64 cut]] w fun e w' => ∃ v', e = .returned v' ∧ IsDrive w' v' ⟨cs, [], -1, false⟩ ∧ Below w.heap.size w w') := hide (fun v cs w h1 hm => crash_still v cs kept tn cut w h1 hm hk ht hcut)
  have HS : Hid (∀ (b base : Nat) (v : Value) (U : List (List UInt8)) (w : World), KpAt w b base v h ⟨1, 0, 1, x.length⟩ U x [] → Calls Try.prog 59 #[.pointer (some ⟨b, 0, none⟩), .string (bs y)] w fun e w' => e = .returned (.int .i64 0) ∧ (∃ cs', KpAt w' b base (.slice none 0 0) h ⟨2, 1, 1, y.length⟩ cs' y []) ∧ w.grownBy w' (some b)) := hide (fun b base v U w k => ksave_any b base v h ⟨1, 0, 1, x.length⟩ U x [] y w k (by rw [hlt.2]; omega) (by omega) (by simp) (by simp))
  have HT1 : Hid (∀ (b base : Nat) (v : Value) (m : Hd) (cs : List (List UInt8)) (l : List (List UInt8)) (w : World), KpAt w b base v h m cs x l → Calls Try.prog 62 #[.pointer (some ⟨b, 0, none⟩)] w fun e w' => e = .returned (.string (bs x)) ∧ w = w') := hide (fun _ _ _ _ _ _ w k => ktext_any w k)
  have HT2 : Hid (∀ (b base : Nat) (v : Value) (m : Hd) (cs : List (List UInt8)) (l : List (List UInt8)) (w : World), KpAt w b base v h m cs y l → Calls Try.prog 62 #[.pointer (some ⟨b, 0, none⟩)] w fun e w' => e = .returned (.string (bs y)) ∧ w = w') := hide (fun _ _ _ _ _ _ w k => ktext_any w k)
  have HAW := hide (fun w => awake19_any w)
  rw [hvv] at HN HO
  obtain ⟨xv, hxv⟩ : ∃ z, bs x = z := ⟨_, rfl⟩
  obtain ⟨yv, hyv⟩ : ∃ z, bs y = z := ⟨_, rfl⟩
  obtain ⟨av, hav⟩ : ∃ z, bs a = z := ⟨_, rfl⟩
  obtain ⟨bv, hbv⟩ : ∃ z, bs b = z := ⟨_, rfl⟩
  rw [hxv] at HF1 HN HT1
  rw [hyv] at HF2 HS HT2
  rw [hav] at HF1 ⊢
  rw [hbv] at HF2 ⊢
  clear hx hy hla hlb hok hlt hvv hh ha hb hk ht hcut hxv hyv hav hbv
  have B5 := Blk.new w [.int .u64 (kept : Int), .int .i64 tn, .int .i64 cut] 28
  have hal : Below w.heap.size w (w.alloc (.cells #[.int .u64 (kept : Int), .int .i64 tn, .int .i64 cut] 28)) := (Below.refl _ _).alloc (Nat.le_refl _) _
  obtain ⟨W0, hW0⟩ : ∃ z, w.alloc (.cells #[.int .u64 (kept : Int), .int .i64 tn, .int .i64 cut] 28) = z := ⟨_, rfl⟩
  have C5 : Blk W0 w.heap.size [.int .u64 (kept : Int), .int .i64 tn, .int .i64 cut] 28 := by rw [← hW0]; exact B5
  rw [hW0] at hal
  go_enter Try.func18, Try.ntmps18
  go_upto_region 1 with fail
  try rw [hW0]
  clear hW0 B5
  obtain ⟨b5, hb5⟩ : ∃ z, w.heap.size = z := ⟨_, rfl⟩
  rw [hb5] at C5 ⊢
  have hwb5 : w.heap.size ≤ b5 := by omega
  clear hb5
  go_wp2_with fail
  refine (HF1.out _).mono ?_
  rintro e w1 ⟨rfl, hb1⟩
  go_wp2_with fail
  refine (HF2.out _).mono ?_
  rintro e w2 ⟨rfl, hb2⟩
  have D5 := (C5.next hb1).next hb2
  have hbx := chain (chain hal hb1) hb2
  clear C5 hal hb1 hb2 HF1 HF2
  go_upto_region 3 with fail
  have B7 := Blk.new w2 [.int .i64 3, .int .i64 70] 89
  have hal : Below w2.heap.size w2 (w2.alloc (.cells #[.int .i64 3, .int .i64 70] 89)) := (Below.refl _ _).alloc (Nat.le_refl _) _
  obtain ⟨W2, hW2⟩ : ∃ z, w2.alloc (.cells #[.int .i64 3, .int .i64 70] 89) = z := ⟨_, rfl⟩
  have A7 : Blk W2 w2.heap.size [.int .i64 3, .int .i64 70] 89 := by rw [← hW2]; exact B7
  rw [hW2] at hal
  have A5 := D5.next hal
  have hby := chain hbx hal
  have hl5 := D5.lt
  try rw [hW2]
  clear hW2 B7 D5 hbx hal
  obtain ⟨b7, hb7⟩ : ∃ z, w2.heap.size = z := ⟨_, rfl⟩
  rw [hb7] at A7 hl5 ⊢
  have hwb7 : w.heap.size ≤ b7 := by omega
  have hl7 := A7.lt
  clear hb7
  obtain ⟨p0, p1, p2, p3⟩ := A7.pair
  go_wp2_with fail
  refine (HN.out _).mono ?_
  rintro e w3 ⟨bk, U, rfl, hbk, k3, hb3⟩
  have C5 := A5.next hb3
  have C7 := A7.next hb3
  have hbz := chain hby hb3
  have K3 := hide k3
  have HMY := hide k3.on.may
  have HDR := hide (fun (w : World) (k : KpAt w bk W2.heap.size (.slice none 0 0) h ⟨1, 0, 1, x.length⟩ U x []) => kdrive_any w k)
  have hs3 := hb3.size
  have hsy := hby.size
  clear p0 p1 p2 p3 A5 A7 hby hb3 k3 HN
  go_upto_region 6 with fail
  have HK := hide (fun w' (h : Below w3.heap.size w3 w') => show (fun w' => Below w3.heap.size w3 w' ∧ w'.cell? ⟨b5, 0, none⟩ = some (.int .u64 (kept : Int)) ∧ w'.cell? ⟨b5, 1, none⟩ = some (.int .i64 tn) ∧ w'.cell? ⟨b5, 2, none⟩ = some (.int .i64 cut) ∧ w'.cell? ⟨b7, 0, none⟩ = some (.int .i64 3) ∧ w'.cell? ⟨b7, 1, none⟩ = some (.int .i64 70)) w' from ⟨h, (C5.next h).cell 0, (C5.next h).cell 1, (C5.next h).cell 2, (C7.next h).cell 0, (C7.next h).cell 1⟩)
  go_region_held3 (fun w' => Below w3.heap.size w3 w' ∧ w'.cell? ⟨b5, 0, none⟩ = some (.int .u64 (kept : Int)) ∧ w'.cell? ⟨b5, 1, none⟩ = some (.int .i64 tn) ∧ w'.cell? ⟨b5, 2, none⟩ = some (.int .i64 cut) ∧ w'.cell? ⟨b7, 0, none⟩ = some (.int .i64 3) ∧ w'.cell? ⟨b7, 1, none⟩ = some (.int .i64 70)) (first | exact HK.out _ (Below.drewed (Below.refl _ _)) | exact HK.out _ hbq.out) (first
    | (go_at_call 64
       have hq := (‹Below w3.heap.size w3 _ ∧ _›).1
       refine (HDR.out _ (K3.out.next hq)).mono ?_
       rintro e w8 ⟨dv, rfl, hdv, hb8⟩
       have hbq := hide (chain hq hb8)
       have hdr := hide hdv
       clear hdv
       clear hq hb8)
    | (go_at_call 24
       have hq := (‹Below w3.heap.size w3 _ ∧ _›).1
       refine (HC.out _ _ _ hdr.out HMY.out).mono ?_
       rintro e w8 ⟨dv2, rfl, hdv2, hb8⟩
       have hbq := hide (chain hq hb8)
       have hdc := hide hdv2
       clear hdv2
       clear hq hb8)
    | (go_at_call 67
       have hq := (‹Below w3.heap.size w3 _ ∧ _›).1
       refine (HO.out _ _ _ _ _ _ hdc.out K3.out.on (by simp)).mono ?_
       rintro e w8 ⟨bo, vo, rfl, hbo, ko, hb8⟩
       have hbq := hide (chain hq hb8)
       have hko := hide ko
       have hboo := Nat.le_trans hq.size hbo
       clear ko hbo
       clear hq hb8))
  have E5 := C5.next hbq.out
  have E7 := C7.next hbq.out
  have hbv := chain hbz hbq.out
  clear HK HMY HDR hdr hdc C5 C7 hbz hbq K3
  go_wp2_with fail
  refine (HT1.out _ _ _ _ _ _ _ hko.out).mono ?_
  rintro e w9 ⟨rfl, rfl⟩
  go_wp2_with fail
  refine (krecords_any _ hko.out (by simp)).mono ?_
  rintro e w5 ⟨ao, n, c, rfl, hown, hn, hb5⟩
  have hn0 : n = 0 := hn
  subst hn0
  have KO := hide (hko.out.next hb5)
  have F5 := E5.next hb5
  have F7 := E7.next hb5
  have hbu := chain hbv hb5
  have hl5' := F5.lt
  clear hown hn hb5 hko E5 E7 hbv
  go_wp2_with fail
  refine (HS.out _ _ _ _ _ KO.out).mono ?_
  rintro e w6 ⟨rfl, ⟨cs6, k6⟩, hg6⟩
  have hn5 : b5 ≠ bo := by omega
  have hn7 : b7 ≠ bo := by omega
  have D5 : Blk w6 b5 [.int .u64 (kept : Int), .int .i64 tn, .int .i64 cut] 28 := F5.grown hg6 (fun e => hn5 (by injection e))
  have D7 : Blk w6 b7 [.int .i64 3, .int .i64 70] 89 := F7.grown hg6 (fun e => hn7 (by injection e))
  have hbt : Below w.heap.size w w6 := hbu.grown hg6 (by have := hbu.size; omega) (fun g hg => by injection hg with hg; omega)
  have K6 := hide k6
  have HMY := hide k6.on.may
  have HDR := hide (fun (base : Nat) (w : World) (k : KpAt w bo base (.slice none 0 0) h ⟨2, 1, 1, y.length⟩ cs6 y []) => kdrive_any w k)
  clear KO F5 F7 hbu hg6 k6 HS HT1
  go_upto_region 9 with fail
  have HK := hide (fun w' (h : Below w6.heap.size w6 w') => show (fun w' => Below w6.heap.size w6 w' ∧ w'.cell? ⟨b5, 0, none⟩ = some (.int .u64 (kept : Int)) ∧ w'.cell? ⟨b5, 1, none⟩ = some (.int .i64 tn) ∧ w'.cell? ⟨b5, 2, none⟩ = some (.int .i64 cut) ∧ w'.cell? ⟨b7, 0, none⟩ = some (.int .i64 3) ∧ w'.cell? ⟨b7, 1, none⟩ = some (.int .i64 70)) w' from ⟨h, (D5.next h).cell 0, (D5.next h).cell 1, (D5.next h).cell 2, (D7.next h).cell 0, (D7.next h).cell 1⟩)
  go_region_held3 (fun w' => Below w6.heap.size w6 w' ∧ w'.cell? ⟨b5, 0, none⟩ = some (.int .u64 (kept : Int)) ∧ w'.cell? ⟨b5, 1, none⟩ = some (.int .i64 tn) ∧ w'.cell? ⟨b5, 2, none⟩ = some (.int .i64 cut) ∧ w'.cell? ⟨b7, 0, none⟩ = some (.int .i64 3) ∧ w'.cell? ⟨b7, 1, none⟩ = some (.int .i64 70)) (first | exact HK.out _ (Below.drewed (Below.refl _ _)) | exact HK.out _ hbq.out) (first
    | (go_at_call 64
       have hq := (‹Below w6.heap.size w6 _ ∧ _›).1
       refine (HDR.out _ _ (K6.out.next hq)).mono ?_
       rintro e w8 ⟨dv, rfl, hdv, hb8⟩
       have hbq := hide (chain hq hb8)
       have hdr := hide hdv
       clear hdv
       clear hq hb8)
    | (go_at_call 24
       have hq := (‹Below w6.heap.size w6 _ ∧ _›).1
       refine (HC.out _ _ _ hdr.out HMY.out).mono ?_
       rintro e w8 ⟨dv2, rfl, hdv2, hb8⟩
       have hbq := hide (chain hq hb8)
       have hdc := hide hdv2
       clear hdv2
       clear hq hb8)
    | (go_at_call 67
       have hq := (‹Below w6.heap.size w6 _ ∧ _›).1
       refine (HO.out _ _ _ _ _ _ hdc.out K6.out.on (by simp)).mono ?_
       rintro e w8 ⟨bo, vo, rfl, hbo, ko, hb8⟩
       have hbq := hide (chain hq hb8)
       have hko := hide ko
       have hboo := Nat.le_trans hq.size hbo
       clear ko hbo
       clear hq hb8))
  have hbs := chain hbt hbq.out
  have HG : Hid (∀ (b base : Nat) (v : Value) (cs : List (List UInt8)) (w : World), KpAt w b base v h ⟨2, 1, 1, y.length⟩ cs y [] → Calls Try.prog 66 #[.pointer (some ⟨b, 0, none⟩)] w fun e w' => e = .returned (.int .i64 2) ∧ w = w') := hide (fun _ _ _ _ w k => kgen_any w k)
  clear HK HMY HDR hdr hdc D5 D7 hbt hbq K6 HO HC
  go_wp2_with fail
  refine (HT2.out _ _ _ _ _ _ _ hko.out).mono ?_
  rintro e w9 ⟨rfl, rfl⟩
  go_wp2_with fail
  refine (HG.out _ _ _ _ _ hko.out).mono ?_
  rintro e w10 ⟨rfl, rfl⟩
  go_wp2_with fail
  refine (HAW.out _).mono ?_
  rintro e w11 ⟨rfl, hb11⟩
  have hbr := chain hbs hb11
  clear hbs hb11
  go_wp2_with fail
  go_ret
  exact ⟨rfl, hbr⟩

theorem texts_frame {w : World} (a : ByteArray) (ha : a.size ≤ maxLen) (b : ByteArray) (hb : b.size ≤ maxLen) (kept : Nat) (tn cut : Int) (hk : kept < 18446744073709551616) (ht : -9223372036854775808 ≤ tn ∧ tn < 9223372036854775808) (hcut : -9223372036854775808 ≤ cut ∧ cut < 9223372036854775808) (_ : World) :
    Calls Try.prog 18 #[.string a, .string b, .agg #[.int .u64 (kept : Int), .int .i64 tn, .int .i64 cut]] w fun e w' => e = .returned (.bool true) ∧ Below w.heap.size w w' := by
  unfold maxLen at ha hb
  have h := texts_walk a.data.toList b.data.toList kept tn cut w (by simpa using Nat.le_of_lt_succ (Nat.lt_succ_of_le ha)) (by simpa using Nat.le_of_lt_succ (Nat.lt_succ_of_le hb)) hk ht hcut
  rw [bs_of, bs_of] at h
  exact h

end Go.Proofs.Ytkapdmhjhbmdjaa
