/-
  The invariant of the three crashes in the statements' awake of layer 17.
-/
import Derived.Test.YtogonkoeginoaaaGreatDoorBox
import Derived.Test.YtogonkoeginoaaaGreatDoorRefWrite
import Derived.Test.YtogonkoeginoaaaGreatDoorLawDsk
import Derived.Test.YtogonkoeginoaaaGreatDoorDskNew
import Derived.Test.YtogonkoeginoaaaGreatDoorDskWrite
import Derived.Test.YtogonkoeginoaaaGreatDoorApp
import Derived.Test.YtogonkoeginoaaaGreatDoorDskBase
import Derived.Test.YtogonkoeginoaaaGreatDoorBlk
import Derived.Test.YtogonkoeginoaaaGreatDoorDskCrash
import Derived.Deep.RegionHeld3
namespace Go.Proofs.YtogonkoeginoaaaGreatDoor
open Go.RowKit

theorem drv_form {w : World} {v : Value} {d : Drv} (h : IsDrive w v d) : ∃ a1 c1 a2 c2, v = .agg #[.slice a1 d.cells.length c1, .slice a2 d.queue.length c2, .int .i64 d.fuel, .bool d.off] ∧ DriveAt w a1 d.cells.length c1 a2 d.queue.length c2 d.fuel d.off d := by
  obtain ⟨a1, n1, c1, a2, n2, c2, fuel, off, rfl, hd⟩ := h
  obtain rfl := hd.cells.len
  obtain rfl := hd.queue.len
  obtain rfl := hd.fuel_eq
  obtain rfl := hd.off_eq
  exact ⟨a1, c1, a2, c2, rfl, hd⟩
theorem crash_int (v : Value) (d : Drv) (kept tn cut : Int) (w : World) (h : IsDrive w v d) (hk : 0 ≤ kept ∧ kept < 18446744073709551616) (ht : -9223372036854775808 ≤ tn ∧ tn < 9223372036854775808) (hcut : -9223372036854775808 ≤ cut ∧ cut < 9223372036854775808) :
    Calls Tryz.prog 11 #[v, .agg #[.int .u64 kept, .int .i64 tn, .int .i64 cut]] w fun e w' => ∃ v', e = .returned v' ∧ IsDrive w' v' (d.crash kept.toNat tn cut) ∧ Below w.heap.size w w' := by
  obtain ⟨k, rfl⟩ := Int.eq_ofNat_of_zero_le hk.1
  exact crash_any v d k tn cut w h (by omega) ht hcut

def x64 : List UInt8 := List.replicate 64 120
def d0 : Drv := ⟨[blank], [], -1, false⟩
def dw : Drv := ⟨[blank], [⟨0, x64⟩], -1, false⟩
def dk : Drv := ⟨[x64], [], -1, false⟩
def dt : Drv := ⟨[[120, 120, 120] ++ List.replicate 61 0], [], -1, false⟩
theorem new_one : Drv.new 1 = (d0, 0) := by kernel_rfl
theorem write_x : d0.write 0 x64 = (dw, 0) := by kernel_rfl
theorem crash_lost : dw.crash 0 (-1) 0 = d0 := by kernel_rfl
theorem crash_kept : dw.crash 1 (-1) 0 = dk := by kernel_rfl
theorem crash_torn : dw.crash 0 0 3 = dt := by kernel_rfl

/-- What holds while the three crashes of awake are made, in whatever order. -/
structure AwF (W : World) (vw : Value) (l : Array Bool) (w : World) (x5 x6 x7 x18 x19 x20 x21 x22 x23 x24 x25 x26 : Value) : Prop where
  size : l.size = 15
  below : Below W.heap.size W w
  g : ∀ k, 12 ≤ k → fl l k → fl l 2 ∧ fl l 5 ∧ fl l 8
  f0 : fl l 0 → x18 = vw
  f1 : fl l 1 → x19 = .agg #[.int .u64 0, .int .i64 (-1), .int .i64 0]
  f2 : fl l 2 → IsDrive w x20 d0
  f3 : fl l 3 → x21 = vw
  f4 : fl l 4 → x22 = .agg #[.int .u64 1, .int .i64 (-1), .int .i64 0]
  f5 : fl l 5 → IsDrive w x23 dk
  f6 : fl l 6 → x24 = vw
  f7 : fl l 7 → x25 = .agg #[.int .u64 0, .int .i64 0, .int .i64 3]
  f8 : fl l 8 → IsDrive w x26 dt
  f9 : fl l 9 → ∃ b v, x5 = .pointer (some ⟨b, 0, none⟩) ∧ W.heap.size ≤ b ∧ Holds w b v ∧ (fl l 12 → v = x20)
  f10 : fl l 10 → ∃ b v, x6 = .pointer (some ⟨b, 0, none⟩) ∧ W.heap.size ≤ b ∧ Holds w b v ∧ (fl l 13 → v = x23)
  f11 : fl l 11 → ∃ b v, x7 = .pointer (some ⟨b, 0, none⟩) ∧ W.heap.size ≤ b ∧ Holds w b v ∧ (fl l 14 → v = x26)
  e1 : fl l 9 → fl l 10 → x5 ≠ x6
  e2 : fl l 9 → fl l 11 → x5 ≠ x7
  e3 : fl l 10 → fl l 11 → x6 ≠ x7
  n12 : fl l 12 → fl l 9
  n13 : fl l 13 → fl l 10
  n14 : fl l 14 → fl l 11
  k8 : fl l 8 → fl l 5
  k5 : fl l 5 → fl l 2
def AwI (W : World) (vw : Value) (b1 b3 : Nat) (l : Array Bool) (a : Act) (w : World) : Prop := ∃ x5 x6 x7 z8 z9 z10 z11 z12 z13 z14 z15 z16 z17 x18 x19 x20 x21 x22 x23 x24 x25 x26 z27 z28 z29 z30 z31 z32 z33 z34 z35 z36 z37 z38 z39 z40 z41 z42 z43 z44 z45 z46 z47 z48 z49 z50 z51 z52 z53 z54 z55 z56 z57 z58 z59 z60 z61 z62 z63 z64 z65 z66 z67 z68 z69 z70 z71 z72 z73 z74 z75 : Value, a = ⟨#[.bool false, .pointer (some ⟨b1, 0, none⟩), .int .i64 0, .pointer (some ⟨b3, 0, none⟩), .int .i64 0, x5, x6, x7, z8, z9, z10, z11, z12, z13, z14, z15, z16, z17, x18, x19, x20, x21, x22, x23, x24, x25, x26, z27, z28, z29, z30, z31, z32, z33, z34, z35, z36, z37, z38, z39, z40, z41, z42, z43, z44, z45, z46, z47, z48, z49, z50, z51, z52, z53, z54, z55, z56, z57, z58, z59, z60, z61, z62, z63, z64, z65, z66, z67, z68, z69, z70, z71, z72, z73, z74, z75], []⟩ ∧ AwF W vw l w x5 x6 x7 x18 x19 x20 x21 x22 x23 x24 x25 x26
theorem AwF.mono {W : World} {vw : Value} {l : Array Bool} {w w' : World} {x5 x6 x7 x18 x19 x20 x21 x22 x23 x24 x25 x26 : Value} (h : AwF W vw l w x5 x6 x7 x18 x19 x20 x21 x22 x23 x24 x25 x26) (hb : Below w.heap.size w w') : AwF W vw l w' x5 x6 x7 x18 x19 x20 x21 x22 x23 x24 x25 x26 where
  size := h.size
  below := h.below.trans (hb.mono h.below.size)
  g := h.g
  f0 := h.f0
  f1 := h.f1
  f2 := fun f => (h.f2 f).below hb
  f3 := h.f3
  f4 := h.f4
  f5 := fun f => (h.f5 f).below hb
  f6 := h.f6
  f7 := h.f7
  f8 := fun f => (h.f8 f).below hb
  f9 := fun f => by
    obtain ⟨b, v, e, h1, h2, h3⟩ := h.f9 f
    exact ⟨b, v, e, h1, h2.next hb, h3⟩
  f10 := fun f => by
    obtain ⟨b, v, e, h1, h2, h3⟩ := h.f10 f
    exact ⟨b, v, e, h1, h2.next hb, h3⟩
  f11 := fun f => by
    obtain ⟨b, v, e, h1, h2, h3⟩ := h.f11 f
    exact ⟨b, v, e, h1, h2.next hb, h3⟩
  e1 := h.e1
  e2 := h.e2
  e3 := h.e3
  n12 := h.n12
  n13 := h.n13
  n14 := h.n14
  k8 := h.k8
  k5 := h.k5
theorem AwF.s0 {W : World} {vw : Value} {l : Array Bool} {w : World} {x5 x6 x7 x18 x19 x20 x21 x22 x23 x24 x25 x26 y : Value} (h : AwF W vw l w x5 x6 x7 x18 x19 x20 x21 x22 x23 x24 x25 x26) (hy : y = vw) : AwF W vw (l.setIfInBounds 0 true) w x5 x6 x7 y x19 x20 x21 x22 x23 x24 x25 x26 where
  size := by simpa using h.size
  below := h.below
  g := fun k hk f => by
    obtain ⟨g1, g2, g3⟩ := h.g k hk (fl_set f (by omega))
    exact ⟨fl_keep g1 _, fl_keep g2 _, fl_keep g3 _⟩
  f0 := fun _ => hy
  f1 := fun f => h.f1 (fl_set f (by decide))
  f2 := fun f => h.f2 (fl_set f (by decide))
  f3 := fun f => h.f3 (fl_set f (by decide))
  f4 := fun f => h.f4 (fl_set f (by decide))
  f5 := fun f => h.f5 (fl_set f (by decide))
  f6 := fun f => h.f6 (fl_set f (by decide))
  f7 := fun f => h.f7 (fl_set f (by decide))
  f8 := fun f => h.f8 (fl_set f (by decide))
  f9 := fun f => by
    obtain ⟨b, v, e, h1, h2, h3⟩ := h.f9 (fl_set f (by decide))
    exact ⟨b, v, e, h1, h2, fun f => h3 (fl_set f (by decide))⟩
  f10 := fun f => by
    obtain ⟨b, v, e, h1, h2, h3⟩ := h.f10 (fl_set f (by decide))
    exact ⟨b, v, e, h1, h2, fun f => h3 (fl_set f (by decide))⟩
  f11 := fun f => by
    obtain ⟨b, v, e, h1, h2, h3⟩ := h.f11 (fl_set f (by decide))
    exact ⟨b, v, e, h1, h2, fun f => h3 (fl_set f (by decide))⟩
  e1 := fun f g => h.e1 (fl_set f (by decide)) (fl_set g (by decide))
  e2 := fun f g => h.e2 (fl_set f (by decide)) (fl_set g (by decide))
  e3 := fun f g => h.e3 (fl_set f (by decide)) (fl_set g (by decide))
  n12 := fun f => fl_keep (h.n12 (fl_set f (by decide))) _
  n13 := fun f => fl_keep (h.n13 (fl_set f (by decide))) _
  n14 := fun f => fl_keep (h.n14 (fl_set f (by decide))) _
  k8 := fun f => fl_keep (h.k8 (fl_set f (by decide))) _
  k5 := fun f => fl_keep (h.k5 (fl_set f (by decide))) _
theorem AwF.s1 {W : World} {vw : Value} {l : Array Bool} {w : World} {x5 x6 x7 x18 x19 x20 x21 x22 x23 x24 x25 x26 y : Value} (h : AwF W vw l w x5 x6 x7 x18 x19 x20 x21 x22 x23 x24 x25 x26) (hy : y = .agg #[.int .u64 0, .int .i64 (-1), .int .i64 0]) : AwF W vw (l.setIfInBounds 1 true) w x5 x6 x7 x18 y x20 x21 x22 x23 x24 x25 x26 where
  size := by simpa using h.size
  below := h.below
  g := fun k hk f => by
    obtain ⟨g1, g2, g3⟩ := h.g k hk (fl_set f (by omega))
    exact ⟨fl_keep g1 _, fl_keep g2 _, fl_keep g3 _⟩
  f0 := fun f => h.f0 (fl_set f (by decide))
  f1 := fun _ => hy
  f2 := fun f => h.f2 (fl_set f (by decide))
  f3 := fun f => h.f3 (fl_set f (by decide))
  f4 := fun f => h.f4 (fl_set f (by decide))
  f5 := fun f => h.f5 (fl_set f (by decide))
  f6 := fun f => h.f6 (fl_set f (by decide))
  f7 := fun f => h.f7 (fl_set f (by decide))
  f8 := fun f => h.f8 (fl_set f (by decide))
  f9 := fun f => by
    obtain ⟨b, v, e, h1, h2, h3⟩ := h.f9 (fl_set f (by decide))
    exact ⟨b, v, e, h1, h2, fun f => h3 (fl_set f (by decide))⟩
  f10 := fun f => by
    obtain ⟨b, v, e, h1, h2, h3⟩ := h.f10 (fl_set f (by decide))
    exact ⟨b, v, e, h1, h2, fun f => h3 (fl_set f (by decide))⟩
  f11 := fun f => by
    obtain ⟨b, v, e, h1, h2, h3⟩ := h.f11 (fl_set f (by decide))
    exact ⟨b, v, e, h1, h2, fun f => h3 (fl_set f (by decide))⟩
  e1 := fun f g => h.e1 (fl_set f (by decide)) (fl_set g (by decide))
  e2 := fun f g => h.e2 (fl_set f (by decide)) (fl_set g (by decide))
  e3 := fun f g => h.e3 (fl_set f (by decide)) (fl_set g (by decide))
  n12 := fun f => fl_keep (h.n12 (fl_set f (by decide))) _
  n13 := fun f => fl_keep (h.n13 (fl_set f (by decide))) _
  n14 := fun f => fl_keep (h.n14 (fl_set f (by decide))) _
  k8 := fun f => fl_keep (h.k8 (fl_set f (by decide))) _
  k5 := fun f => fl_keep (h.k5 (fl_set f (by decide))) _
theorem AwF.s2 {W : World} {vw : Value} {l : Array Bool} {w : World} {x5 x6 x7 x18 x19 x20 x21 x22 x23 x24 x25 x26 y : Value} (h : AwF W vw l w x5 x6 x7 x18 x19 x20 x21 x22 x23 x24 x25 x26) (hy : IsDrive w y d0) (h0 : l.getD 2 true = false) : AwF W vw (l.setIfInBounds 2 true) w x5 x6 x7 x18 x19 y x21 x22 x23 x24 x25 x26 where
  size := by simpa using h.size
  below := h.below
  g := fun k hk f => by
    obtain ⟨g1, g2, g3⟩ := h.g k hk (fl_set f (by omega))
    exact ⟨fl_keep g1 _, fl_keep g2 _, fl_keep g3 _⟩
  f0 := fun f => h.f0 (fl_set f (by decide))
  f1 := fun f => h.f1 (fl_set f (by decide))
  f2 := fun _ => hy
  f3 := fun f => h.f3 (fl_set f (by decide))
  f4 := fun f => h.f4 (fl_set f (by decide))
  f5 := fun f => h.f5 (fl_set f (by decide))
  f6 := fun f => h.f6 (fl_set f (by decide))
  f7 := fun f => h.f7 (fl_set f (by decide))
  f8 := fun f => h.f8 (fl_set f (by decide))
  f9 := fun f => by
    obtain ⟨b, v, e, h1, h2, h3⟩ := h.f9 (fl_set f (by decide))
    exact ⟨b, v, e, h1, h2, fun f => absurd (h.g 12 (by decide) (fl_set f (by decide))).1 (fl_not h0)⟩
  f10 := fun f => by
    obtain ⟨b, v, e, h1, h2, h3⟩ := h.f10 (fl_set f (by decide))
    exact ⟨b, v, e, h1, h2, fun f => h3 (fl_set f (by decide))⟩
  f11 := fun f => by
    obtain ⟨b, v, e, h1, h2, h3⟩ := h.f11 (fl_set f (by decide))
    exact ⟨b, v, e, h1, h2, fun f => h3 (fl_set f (by decide))⟩
  e1 := fun f g => h.e1 (fl_set f (by decide)) (fl_set g (by decide))
  e2 := fun f g => h.e2 (fl_set f (by decide)) (fl_set g (by decide))
  e3 := fun f g => h.e3 (fl_set f (by decide)) (fl_set g (by decide))
  n12 := fun f => fl_keep (h.n12 (fl_set f (by decide))) _
  n13 := fun f => fl_keep (h.n13 (fl_set f (by decide))) _
  n14 := fun f => fl_keep (h.n14 (fl_set f (by decide))) _
  k8 := fun f => fl_keep (h.k8 (fl_set f (by decide))) _
  k5 := fun f => fl_keep (h.k5 (fl_set f (by decide))) _
theorem AwF.s3 {W : World} {vw : Value} {l : Array Bool} {w : World} {x5 x6 x7 x18 x19 x20 x21 x22 x23 x24 x25 x26 y : Value} (h : AwF W vw l w x5 x6 x7 x18 x19 x20 x21 x22 x23 x24 x25 x26) (hy : y = vw) : AwF W vw (l.setIfInBounds 3 true) w x5 x6 x7 x18 x19 x20 y x22 x23 x24 x25 x26 where
  size := by simpa using h.size
  below := h.below
  g := fun k hk f => by
    obtain ⟨g1, g2, g3⟩ := h.g k hk (fl_set f (by omega))
    exact ⟨fl_keep g1 _, fl_keep g2 _, fl_keep g3 _⟩
  f0 := fun f => h.f0 (fl_set f (by decide))
  f1 := fun f => h.f1 (fl_set f (by decide))
  f2 := fun f => h.f2 (fl_set f (by decide))
  f3 := fun _ => hy
  f4 := fun f => h.f4 (fl_set f (by decide))
  f5 := fun f => h.f5 (fl_set f (by decide))
  f6 := fun f => h.f6 (fl_set f (by decide))
  f7 := fun f => h.f7 (fl_set f (by decide))
  f8 := fun f => h.f8 (fl_set f (by decide))
  f9 := fun f => by
    obtain ⟨b, v, e, h1, h2, h3⟩ := h.f9 (fl_set f (by decide))
    exact ⟨b, v, e, h1, h2, fun f => h3 (fl_set f (by decide))⟩
  f10 := fun f => by
    obtain ⟨b, v, e, h1, h2, h3⟩ := h.f10 (fl_set f (by decide))
    exact ⟨b, v, e, h1, h2, fun f => h3 (fl_set f (by decide))⟩
  f11 := fun f => by
    obtain ⟨b, v, e, h1, h2, h3⟩ := h.f11 (fl_set f (by decide))
    exact ⟨b, v, e, h1, h2, fun f => h3 (fl_set f (by decide))⟩
  e1 := fun f g => h.e1 (fl_set f (by decide)) (fl_set g (by decide))
  e2 := fun f g => h.e2 (fl_set f (by decide)) (fl_set g (by decide))
  e3 := fun f g => h.e3 (fl_set f (by decide)) (fl_set g (by decide))
  n12 := fun f => fl_keep (h.n12 (fl_set f (by decide))) _
  n13 := fun f => fl_keep (h.n13 (fl_set f (by decide))) _
  n14 := fun f => fl_keep (h.n14 (fl_set f (by decide))) _
  k8 := fun f => fl_keep (h.k8 (fl_set f (by decide))) _
  k5 := fun f => fl_keep (h.k5 (fl_set f (by decide))) _
theorem AwF.s4 {W : World} {vw : Value} {l : Array Bool} {w : World} {x5 x6 x7 x18 x19 x20 x21 x22 x23 x24 x25 x26 y : Value} (h : AwF W vw l w x5 x6 x7 x18 x19 x20 x21 x22 x23 x24 x25 x26) (hy : y = .agg #[.int .u64 1, .int .i64 (-1), .int .i64 0]) : AwF W vw (l.setIfInBounds 4 true) w x5 x6 x7 x18 x19 x20 x21 y x23 x24 x25 x26 where
  size := by simpa using h.size
  below := h.below
  g := fun k hk f => by
    obtain ⟨g1, g2, g3⟩ := h.g k hk (fl_set f (by omega))
    exact ⟨fl_keep g1 _, fl_keep g2 _, fl_keep g3 _⟩
  f0 := fun f => h.f0 (fl_set f (by decide))
  f1 := fun f => h.f1 (fl_set f (by decide))
  f2 := fun f => h.f2 (fl_set f (by decide))
  f3 := fun f => h.f3 (fl_set f (by decide))
  f4 := fun _ => hy
  f5 := fun f => h.f5 (fl_set f (by decide))
  f6 := fun f => h.f6 (fl_set f (by decide))
  f7 := fun f => h.f7 (fl_set f (by decide))
  f8 := fun f => h.f8 (fl_set f (by decide))
  f9 := fun f => by
    obtain ⟨b, v, e, h1, h2, h3⟩ := h.f9 (fl_set f (by decide))
    exact ⟨b, v, e, h1, h2, fun f => h3 (fl_set f (by decide))⟩
  f10 := fun f => by
    obtain ⟨b, v, e, h1, h2, h3⟩ := h.f10 (fl_set f (by decide))
    exact ⟨b, v, e, h1, h2, fun f => h3 (fl_set f (by decide))⟩
  f11 := fun f => by
    obtain ⟨b, v, e, h1, h2, h3⟩ := h.f11 (fl_set f (by decide))
    exact ⟨b, v, e, h1, h2, fun f => h3 (fl_set f (by decide))⟩
  e1 := fun f g => h.e1 (fl_set f (by decide)) (fl_set g (by decide))
  e2 := fun f g => h.e2 (fl_set f (by decide)) (fl_set g (by decide))
  e3 := fun f g => h.e3 (fl_set f (by decide)) (fl_set g (by decide))
  n12 := fun f => fl_keep (h.n12 (fl_set f (by decide))) _
  n13 := fun f => fl_keep (h.n13 (fl_set f (by decide))) _
  n14 := fun f => fl_keep (h.n14 (fl_set f (by decide))) _
  k8 := fun f => fl_keep (h.k8 (fl_set f (by decide))) _
  k5 := fun f => fl_keep (h.k5 (fl_set f (by decide))) _
theorem AwF.s5 {W : World} {vw : Value} {l : Array Bool} {w : World} {x5 x6 x7 x18 x19 x20 x21 x22 x23 x24 x25 x26 y : Value} (h : AwF W vw l w x5 x6 x7 x18 x19 x20 x21 x22 x23 x24 x25 x26) (hy : IsDrive w y dk) (h0 : l.getD 5 true = false) (hk : fl l 2) : AwF W vw (l.setIfInBounds 5 true) w x5 x6 x7 x18 x19 x20 x21 x22 y x24 x25 x26 where
  size := by simpa using h.size
  below := h.below
  g := fun k hk f => by
    obtain ⟨g1, g2, g3⟩ := h.g k hk (fl_set f (by omega))
    exact ⟨fl_keep g1 _, fl_keep g2 _, fl_keep g3 _⟩
  f0 := fun f => h.f0 (fl_set f (by decide))
  f1 := fun f => h.f1 (fl_set f (by decide))
  f2 := fun f => h.f2 (fl_set f (by decide))
  f3 := fun f => h.f3 (fl_set f (by decide))
  f4 := fun f => h.f4 (fl_set f (by decide))
  f5 := fun _ => hy
  f6 := fun f => h.f6 (fl_set f (by decide))
  f7 := fun f => h.f7 (fl_set f (by decide))
  f8 := fun f => h.f8 (fl_set f (by decide))
  f9 := fun f => by
    obtain ⟨b, v, e, h1, h2, h3⟩ := h.f9 (fl_set f (by decide))
    exact ⟨b, v, e, h1, h2, fun f => h3 (fl_set f (by decide))⟩
  f10 := fun f => by
    obtain ⟨b, v, e, h1, h2, h3⟩ := h.f10 (fl_set f (by decide))
    exact ⟨b, v, e, h1, h2, fun f => absurd (h.g 13 (by decide) (fl_set f (by decide))).2.1 (fl_not h0)⟩
  f11 := fun f => by
    obtain ⟨b, v, e, h1, h2, h3⟩ := h.f11 (fl_set f (by decide))
    exact ⟨b, v, e, h1, h2, fun f => h3 (fl_set f (by decide))⟩
  e1 := fun f g => h.e1 (fl_set f (by decide)) (fl_set g (by decide))
  e2 := fun f g => h.e2 (fl_set f (by decide)) (fl_set g (by decide))
  e3 := fun f g => h.e3 (fl_set f (by decide)) (fl_set g (by decide))
  n12 := fun f => fl_keep (h.n12 (fl_set f (by decide))) _
  n13 := fun f => fl_keep (h.n13 (fl_set f (by decide))) _
  n14 := fun f => fl_keep (h.n14 (fl_set f (by decide))) _
  k8 := fun f => fl_keep (h.k8 (fl_set f (by decide))) _
  k5 := fun _ => fl_keep hk _
theorem AwF.s6 {W : World} {vw : Value} {l : Array Bool} {w : World} {x5 x6 x7 x18 x19 x20 x21 x22 x23 x24 x25 x26 y : Value} (h : AwF W vw l w x5 x6 x7 x18 x19 x20 x21 x22 x23 x24 x25 x26) (hy : y = vw) : AwF W vw (l.setIfInBounds 6 true) w x5 x6 x7 x18 x19 x20 x21 x22 x23 y x25 x26 where
  size := by simpa using h.size
  below := h.below
  g := fun k hk f => by
    obtain ⟨g1, g2, g3⟩ := h.g k hk (fl_set f (by omega))
    exact ⟨fl_keep g1 _, fl_keep g2 _, fl_keep g3 _⟩
  f0 := fun f => h.f0 (fl_set f (by decide))
  f1 := fun f => h.f1 (fl_set f (by decide))
  f2 := fun f => h.f2 (fl_set f (by decide))
  f3 := fun f => h.f3 (fl_set f (by decide))
  f4 := fun f => h.f4 (fl_set f (by decide))
  f5 := fun f => h.f5 (fl_set f (by decide))
  f6 := fun _ => hy
  f7 := fun f => h.f7 (fl_set f (by decide))
  f8 := fun f => h.f8 (fl_set f (by decide))
  f9 := fun f => by
    obtain ⟨b, v, e, h1, h2, h3⟩ := h.f9 (fl_set f (by decide))
    exact ⟨b, v, e, h1, h2, fun f => h3 (fl_set f (by decide))⟩
  f10 := fun f => by
    obtain ⟨b, v, e, h1, h2, h3⟩ := h.f10 (fl_set f (by decide))
    exact ⟨b, v, e, h1, h2, fun f => h3 (fl_set f (by decide))⟩
  f11 := fun f => by
    obtain ⟨b, v, e, h1, h2, h3⟩ := h.f11 (fl_set f (by decide))
    exact ⟨b, v, e, h1, h2, fun f => h3 (fl_set f (by decide))⟩
  e1 := fun f g => h.e1 (fl_set f (by decide)) (fl_set g (by decide))
  e2 := fun f g => h.e2 (fl_set f (by decide)) (fl_set g (by decide))
  e3 := fun f g => h.e3 (fl_set f (by decide)) (fl_set g (by decide))
  n12 := fun f => fl_keep (h.n12 (fl_set f (by decide))) _
  n13 := fun f => fl_keep (h.n13 (fl_set f (by decide))) _
  n14 := fun f => fl_keep (h.n14 (fl_set f (by decide))) _
  k8 := fun f => fl_keep (h.k8 (fl_set f (by decide))) _
  k5 := fun f => fl_keep (h.k5 (fl_set f (by decide))) _
theorem AwF.s7 {W : World} {vw : Value} {l : Array Bool} {w : World} {x5 x6 x7 x18 x19 x20 x21 x22 x23 x24 x25 x26 y : Value} (h : AwF W vw l w x5 x6 x7 x18 x19 x20 x21 x22 x23 x24 x25 x26) (hy : y = .agg #[.int .u64 0, .int .i64 0, .int .i64 3]) : AwF W vw (l.setIfInBounds 7 true) w x5 x6 x7 x18 x19 x20 x21 x22 x23 x24 y x26 where
  size := by simpa using h.size
  below := h.below
  g := fun k hk f => by
    obtain ⟨g1, g2, g3⟩ := h.g k hk (fl_set f (by omega))
    exact ⟨fl_keep g1 _, fl_keep g2 _, fl_keep g3 _⟩
  f0 := fun f => h.f0 (fl_set f (by decide))
  f1 := fun f => h.f1 (fl_set f (by decide))
  f2 := fun f => h.f2 (fl_set f (by decide))
  f3 := fun f => h.f3 (fl_set f (by decide))
  f4 := fun f => h.f4 (fl_set f (by decide))
  f5 := fun f => h.f5 (fl_set f (by decide))
  f6 := fun f => h.f6 (fl_set f (by decide))
  f7 := fun _ => hy
  f8 := fun f => h.f8 (fl_set f (by decide))
  f9 := fun f => by
    obtain ⟨b, v, e, h1, h2, h3⟩ := h.f9 (fl_set f (by decide))
    exact ⟨b, v, e, h1, h2, fun f => h3 (fl_set f (by decide))⟩
  f10 := fun f => by
    obtain ⟨b, v, e, h1, h2, h3⟩ := h.f10 (fl_set f (by decide))
    exact ⟨b, v, e, h1, h2, fun f => h3 (fl_set f (by decide))⟩
  f11 := fun f => by
    obtain ⟨b, v, e, h1, h2, h3⟩ := h.f11 (fl_set f (by decide))
    exact ⟨b, v, e, h1, h2, fun f => h3 (fl_set f (by decide))⟩
  e1 := fun f g => h.e1 (fl_set f (by decide)) (fl_set g (by decide))
  e2 := fun f g => h.e2 (fl_set f (by decide)) (fl_set g (by decide))
  e3 := fun f g => h.e3 (fl_set f (by decide)) (fl_set g (by decide))
  n12 := fun f => fl_keep (h.n12 (fl_set f (by decide))) _
  n13 := fun f => fl_keep (h.n13 (fl_set f (by decide))) _
  n14 := fun f => fl_keep (h.n14 (fl_set f (by decide))) _
  k8 := fun f => fl_keep (h.k8 (fl_set f (by decide))) _
  k5 := fun f => fl_keep (h.k5 (fl_set f (by decide))) _
theorem AwF.s8 {W : World} {vw : Value} {l : Array Bool} {w : World} {x5 x6 x7 x18 x19 x20 x21 x22 x23 x24 x25 x26 y : Value} (h : AwF W vw l w x5 x6 x7 x18 x19 x20 x21 x22 x23 x24 x25 x26) (hy : IsDrive w y dt) (h0 : l.getD 8 true = false) (hk : fl l 5) : AwF W vw (l.setIfInBounds 8 true) w x5 x6 x7 x18 x19 x20 x21 x22 x23 x24 x25 y where
  size := by simpa using h.size
  below := h.below
  g := fun k hk f => by
    obtain ⟨g1, g2, g3⟩ := h.g k hk (fl_set f (by omega))
    exact ⟨fl_keep g1 _, fl_keep g2 _, fl_keep g3 _⟩
  f0 := fun f => h.f0 (fl_set f (by decide))
  f1 := fun f => h.f1 (fl_set f (by decide))
  f2 := fun f => h.f2 (fl_set f (by decide))
  f3 := fun f => h.f3 (fl_set f (by decide))
  f4 := fun f => h.f4 (fl_set f (by decide))
  f5 := fun f => h.f5 (fl_set f (by decide))
  f6 := fun f => h.f6 (fl_set f (by decide))
  f7 := fun f => h.f7 (fl_set f (by decide))
  f8 := fun _ => hy
  f9 := fun f => by
    obtain ⟨b, v, e, h1, h2, h3⟩ := h.f9 (fl_set f (by decide))
    exact ⟨b, v, e, h1, h2, fun f => h3 (fl_set f (by decide))⟩
  f10 := fun f => by
    obtain ⟨b, v, e, h1, h2, h3⟩ := h.f10 (fl_set f (by decide))
    exact ⟨b, v, e, h1, h2, fun f => h3 (fl_set f (by decide))⟩
  f11 := fun f => by
    obtain ⟨b, v, e, h1, h2, h3⟩ := h.f11 (fl_set f (by decide))
    exact ⟨b, v, e, h1, h2, fun f => absurd (h.g 14 (by decide) (fl_set f (by decide))).2.2 (fl_not h0)⟩
  e1 := fun f g => h.e1 (fl_set f (by decide)) (fl_set g (by decide))
  e2 := fun f g => h.e2 (fl_set f (by decide)) (fl_set g (by decide))
  e3 := fun f g => h.e3 (fl_set f (by decide)) (fl_set g (by decide))
  n12 := fun f => fl_keep (h.n12 (fl_set f (by decide))) _
  n13 := fun f => fl_keep (h.n13 (fl_set f (by decide))) _
  n14 := fun f => fl_keep (h.n14 (fl_set f (by decide))) _
  k8 := fun _ => fl_keep hk _
  k5 := fun f => fl_keep (h.k5 (fl_set f (by decide))) _
theorem AwF.s9 {W : World} {vw : Value} {l : Array Bool} {w : World} {x5 x6 x7 x18 x19 x20 x21 x22 x23 x24 x25 x26 : Value} (h : AwF W vw l w x5 x6 x7 x18 x19 x20 x21 x22 x23 x24 x25 x26) (h0 : ¬ fl l 12) : AwF W vw (l.setIfInBounds 9 true) (w.alloc (.cells #[.slice none 0 0, .slice none 0 0, .int .i64 0, .bool false] 44)) (.pointer (some ⟨w.heap.size, 0, none⟩)) x6 x7 x18 x19 x20 x21 x22 x23 x24 x25 x26 where
  size := by simpa using h.size
  below := h.below.alloc h.below.size _
  g := fun k hk f => by
    obtain ⟨g1, g2, g3⟩ := h.g k hk (fl_set f (by omega))
    exact ⟨fl_keep g1 _, fl_keep g2 _, fl_keep g3 _⟩
  f0 := fun f => h.f0 (fl_set f (by decide))
  f1 := fun f => h.f1 (fl_set f (by decide))
  f2 := fun f => (h.f2 (fl_set f (by decide))).below ((Below.refl _ _).alloc (Nat.le_refl _) _)
  f3 := fun f => h.f3 (fl_set f (by decide))
  f4 := fun f => h.f4 (fl_set f (by decide))
  f5 := fun f => (h.f5 (fl_set f (by decide))).below ((Below.refl _ _).alloc (Nat.le_refl _) _)
  f6 := fun f => h.f6 (fl_set f (by decide))
  f7 := fun f => h.f7 (fl_set f (by decide))
  f8 := fun f => (h.f8 (fl_set f (by decide))).below ((Below.refl _ _).alloc (Nat.le_refl _) _)
  f9 := fun _ => ⟨w.heap.size, _, rfl, h.below.size, Holds.new _ _ _ _ _ _ _ _ _, fun f => absurd (fl_set f (by decide)) h0⟩
  f10 := fun f => by
    obtain ⟨b, v, e, h1, h2, h3⟩ := h.f10 (fl_set f (by decide))
    exact ⟨b, v, e, h1, h2.next ((Below.refl _ _).alloc (Nat.le_refl _) _), fun f => h3 (fl_set f (by decide))⟩
  f11 := fun f => by
    obtain ⟨b, v, e, h1, h2, h3⟩ := h.f11 (fl_set f (by decide))
    exact ⟨b, v, e, h1, h2.next ((Below.refl _ _).alloc (Nat.le_refl _) _), fun f => h3 (fl_set f (by decide))⟩
  e1 := fun f g e => by
    obtain ⟨b, v, e2, h1, h2, h3⟩ := h.f10 (fl_set g (by decide))
    rw [e2] at e
    injection e with e; injection e with e; injection e with e
    have := h2.lt
    omega
  e2 := fun f g e => by
    obtain ⟨b, v, e2, h1, h2, h3⟩ := h.f11 (fl_set g (by decide))
    rw [e2] at e
    injection e with e; injection e with e; injection e with e
    have := h2.lt
    omega
  e3 := fun f g => h.e3 (fl_set f (by decide)) (fl_set g (by decide))
  n12 := fun f => fl_keep (h.n12 (fl_set f (by decide))) _
  n13 := fun f => fl_keep (h.n13 (fl_set f (by decide))) _
  n14 := fun f => fl_keep (h.n14 (fl_set f (by decide))) _
  k8 := fun f => fl_keep (h.k8 (fl_set f (by decide))) _
  k5 := fun f => fl_keep (h.k5 (fl_set f (by decide))) _
theorem AwF.s10 {W : World} {vw : Value} {l : Array Bool} {w : World} {x5 x6 x7 x18 x19 x20 x21 x22 x23 x24 x25 x26 : Value} (h : AwF W vw l w x5 x6 x7 x18 x19 x20 x21 x22 x23 x24 x25 x26) (h0 : ¬ fl l 13) : AwF W vw (l.setIfInBounds 10 true) (w.alloc (.cells #[.slice none 0 0, .slice none 0 0, .int .i64 0, .bool false] 44)) x5 (.pointer (some ⟨w.heap.size, 0, none⟩)) x7 x18 x19 x20 x21 x22 x23 x24 x25 x26 where
  size := by simpa using h.size
  below := h.below.alloc h.below.size _
  g := fun k hk f => by
    obtain ⟨g1, g2, g3⟩ := h.g k hk (fl_set f (by omega))
    exact ⟨fl_keep g1 _, fl_keep g2 _, fl_keep g3 _⟩
  f0 := fun f => h.f0 (fl_set f (by decide))
  f1 := fun f => h.f1 (fl_set f (by decide))
  f2 := fun f => (h.f2 (fl_set f (by decide))).below ((Below.refl _ _).alloc (Nat.le_refl _) _)
  f3 := fun f => h.f3 (fl_set f (by decide))
  f4 := fun f => h.f4 (fl_set f (by decide))
  f5 := fun f => (h.f5 (fl_set f (by decide))).below ((Below.refl _ _).alloc (Nat.le_refl _) _)
  f6 := fun f => h.f6 (fl_set f (by decide))
  f7 := fun f => h.f7 (fl_set f (by decide))
  f8 := fun f => (h.f8 (fl_set f (by decide))).below ((Below.refl _ _).alloc (Nat.le_refl _) _)
  f9 := fun f => by
    obtain ⟨b, v, e, h1, h2, h3⟩ := h.f9 (fl_set f (by decide))
    exact ⟨b, v, e, h1, h2.next ((Below.refl _ _).alloc (Nat.le_refl _) _), fun f => h3 (fl_set f (by decide))⟩
  f10 := fun _ => ⟨w.heap.size, _, rfl, h.below.size, Holds.new _ _ _ _ _ _ _ _ _, fun f => absurd (fl_set f (by decide)) h0⟩
  f11 := fun f => by
    obtain ⟨b, v, e, h1, h2, h3⟩ := h.f11 (fl_set f (by decide))
    exact ⟨b, v, e, h1, h2.next ((Below.refl _ _).alloc (Nat.le_refl _) _), fun f => h3 (fl_set f (by decide))⟩
  e1 := fun f g e => by
    obtain ⟨b, v, e2, h1, h2, h3⟩ := h.f9 (fl_set f (by decide))
    rw [e2] at e
    injection e with e; injection e with e; injection e with e
    have := h2.lt
    omega
  e2 := fun f g => h.e2 (fl_set f (by decide)) (fl_set g (by decide))
  e3 := fun f g e => by
    obtain ⟨b, v, e2, h1, h2, h3⟩ := h.f11 (fl_set g (by decide))
    rw [e2] at e
    injection e with e; injection e with e; injection e with e
    have := h2.lt
    omega
  n12 := fun f => fl_keep (h.n12 (fl_set f (by decide))) _
  n13 := fun f => fl_keep (h.n13 (fl_set f (by decide))) _
  n14 := fun f => fl_keep (h.n14 (fl_set f (by decide))) _
  k8 := fun f => fl_keep (h.k8 (fl_set f (by decide))) _
  k5 := fun f => fl_keep (h.k5 (fl_set f (by decide))) _
theorem AwF.s11 {W : World} {vw : Value} {l : Array Bool} {w : World} {x5 x6 x7 x18 x19 x20 x21 x22 x23 x24 x25 x26 : Value} (h : AwF W vw l w x5 x6 x7 x18 x19 x20 x21 x22 x23 x24 x25 x26) (h0 : ¬ fl l 14) : AwF W vw (l.setIfInBounds 11 true) (w.alloc (.cells #[.slice none 0 0, .slice none 0 0, .int .i64 0, .bool false] 44)) x5 x6 (.pointer (some ⟨w.heap.size, 0, none⟩)) x18 x19 x20 x21 x22 x23 x24 x25 x26 where
  size := by simpa using h.size
  below := h.below.alloc h.below.size _
  g := fun k hk f => by
    obtain ⟨g1, g2, g3⟩ := h.g k hk (fl_set f (by omega))
    exact ⟨fl_keep g1 _, fl_keep g2 _, fl_keep g3 _⟩
  f0 := fun f => h.f0 (fl_set f (by decide))
  f1 := fun f => h.f1 (fl_set f (by decide))
  f2 := fun f => (h.f2 (fl_set f (by decide))).below ((Below.refl _ _).alloc (Nat.le_refl _) _)
  f3 := fun f => h.f3 (fl_set f (by decide))
  f4 := fun f => h.f4 (fl_set f (by decide))
  f5 := fun f => (h.f5 (fl_set f (by decide))).below ((Below.refl _ _).alloc (Nat.le_refl _) _)
  f6 := fun f => h.f6 (fl_set f (by decide))
  f7 := fun f => h.f7 (fl_set f (by decide))
  f8 := fun f => (h.f8 (fl_set f (by decide))).below ((Below.refl _ _).alloc (Nat.le_refl _) _)
  f9 := fun f => by
    obtain ⟨b, v, e, h1, h2, h3⟩ := h.f9 (fl_set f (by decide))
    exact ⟨b, v, e, h1, h2.next ((Below.refl _ _).alloc (Nat.le_refl _) _), fun f => h3 (fl_set f (by decide))⟩
  f10 := fun f => by
    obtain ⟨b, v, e, h1, h2, h3⟩ := h.f10 (fl_set f (by decide))
    exact ⟨b, v, e, h1, h2.next ((Below.refl _ _).alloc (Nat.le_refl _) _), fun f => h3 (fl_set f (by decide))⟩
  f11 := fun _ => ⟨w.heap.size, _, rfl, h.below.size, Holds.new _ _ _ _ _ _ _ _ _, fun f => absurd (fl_set f (by decide)) h0⟩
  e1 := fun f g => h.e1 (fl_set f (by decide)) (fl_set g (by decide))
  e2 := fun f g e => by
    obtain ⟨b, v, e2, h1, h2, h3⟩ := h.f9 (fl_set f (by decide))
    rw [e2] at e
    injection e with e; injection e with e; injection e with e
    have := h2.lt
    omega
  e3 := fun f g e => by
    obtain ⟨b, v, e2, h1, h2, h3⟩ := h.f10 (fl_set f (by decide))
    rw [e2] at e
    injection e with e; injection e with e; injection e with e
    have := h2.lt
    omega
  n12 := fun f => fl_keep (h.n12 (fl_set f (by decide))) _
  n13 := fun f => fl_keep (h.n13 (fl_set f (by decide))) _
  n14 := fun f => fl_keep (h.n14 (fl_set f (by decide))) _
  k8 := fun f => fl_keep (h.k8 (fl_set f (by decide))) _
  k5 := fun f => fl_keep (h.k5 (fl_set f (by decide))) _
theorem AwF.s12 {W : World} {vw : Value} {l : Array Bool} {w : World} {x5 x6 x7 x18 x19 x20 x21 x22 x23 x24 x25 x26 : Value} (h : AwF W vw l w x5 x6 x7 x18 x19 x20 x21 x22 x23 x24 x25 x26) (g1 : fl l 2) (g2 : fl l 5) (g3 : fl l 8) (h9 : fl l 9) {b : Nat} (hb : x5 = .pointer (some ⟨b, 0, none⟩)) (a1 : Option Addr) (n1 c1 : Nat) (a2 : Option Addr) (n2 c2 : Nat) (f : Int) (o : Bool) (hv : x20 = drvVal a1 n1 c1 a2 n2 c2 f o) : AwF W vw (l.setIfInBounds 12 true) ((((w.setCell ⟨b, 0, none⟩ (.slice a1 n1 c1)).setCell ⟨b, 1, none⟩ (.slice a2 n2 c2)).setCell ⟨b, 2, none⟩ (.int .i64 f)).setCell ⟨b, 3, none⟩ (.bool o)) x5 x6 x7 x18 x19 x20 x21 x22 x23 x24 x25 x26 := by
  obtain ⟨b', u, e, hB, hH, hu⟩ := h.f9 h9
  rw [hb] at e
  injection e with e; injection e with e; injection e with e
  subst e
  exact {
    size := by simpa using h.size
    below := below4 h.below hB _ _ _ _
    g := fun k hk f => ⟨fl_keep g1 _, fl_keep g2 _, fl_keep g3 _⟩
    f0 := fun f => h.f0 (fl_set f (by decide))
    f1 := fun f => h.f1 (fl_set f (by decide))
    f2 := fun f => (h.f2 (fl_set f (by decide))).set4 hH _ _ _ _
    f3 := fun f => h.f3 (fl_set f (by decide))
    f4 := fun f => h.f4 (fl_set f (by decide))
    f5 := fun f => (h.f5 (fl_set f (by decide))).set4 hH _ _ _ _
    f6 := fun f => h.f6 (fl_set f (by decide))
    f7 := fun f => h.f7 (fl_set f (by decide))
    f8 := fun f => (h.f8 (fl_set f (by decide))).set4 hH _ _ _ _
    f9 := fun _ => ⟨b, _, hb, hB, hH.set _ _ _ _ _ _ _ _, fun _ => hv.symm⟩
    f10 := fun f => by
      have f9 := fl_set f (by decide)
      obtain ⟨b2, v2, e2, k1, k2, k3⟩ := h.f10 f9
      have hne := h.e1 h9 f9
      rw [hb, e2] at hne
      exact ⟨b2, v2, e2, k1, k2.other (fun e => hne (by rw [e])) _ _ _ _, fun f => k3 (fl_set f (by decide))⟩
    f11 := fun f => by
      have f9 := fl_set f (by decide)
      obtain ⟨b2, v2, e2, k1, k2, k3⟩ := h.f11 f9
      have hne := h.e2 h9 f9
      rw [hb, e2] at hne
      exact ⟨b2, v2, e2, k1, k2.other (fun e => hne (by rw [e])) _ _ _ _, fun f => k3 (fl_set f (by decide))⟩
    e1 := fun f g => h.e1 (fl_set f (by decide)) (fl_set g (by decide))
    e2 := fun f g => h.e2 (fl_set f (by decide)) (fl_set g (by decide))
    e3 := fun f g => h.e3 (fl_set f (by decide)) (fl_set g (by decide))
    n12 := fun _ => fl_keep h9 _
    n13 := fun f => fl_keep (h.n13 (fl_set f (by decide))) _
    n14 := fun f => fl_keep (h.n14 (fl_set f (by decide))) _
    k8 := fun f => fl_keep (h.k8 (fl_set f (by decide))) _
    k5 := fun f => fl_keep (h.k5 (fl_set f (by decide))) _
  }
theorem AwF.s13 {W : World} {vw : Value} {l : Array Bool} {w : World} {x5 x6 x7 x18 x19 x20 x21 x22 x23 x24 x25 x26 : Value} (h : AwF W vw l w x5 x6 x7 x18 x19 x20 x21 x22 x23 x24 x25 x26) (g1 : fl l 2) (g2 : fl l 5) (g3 : fl l 8) (h9 : fl l 10) {b : Nat} (hb : x6 = .pointer (some ⟨b, 0, none⟩)) (a1 : Option Addr) (n1 c1 : Nat) (a2 : Option Addr) (n2 c2 : Nat) (f : Int) (o : Bool) (hv : x23 = drvVal a1 n1 c1 a2 n2 c2 f o) : AwF W vw (l.setIfInBounds 13 true) ((((w.setCell ⟨b, 0, none⟩ (.slice a1 n1 c1)).setCell ⟨b, 1, none⟩ (.slice a2 n2 c2)).setCell ⟨b, 2, none⟩ (.int .i64 f)).setCell ⟨b, 3, none⟩ (.bool o)) x5 x6 x7 x18 x19 x20 x21 x22 x23 x24 x25 x26 := by
  obtain ⟨b', u, e, hB, hH, hu⟩ := h.f10 h9
  rw [hb] at e
  injection e with e; injection e with e; injection e with e
  subst e
  exact {
    size := by simpa using h.size
    below := below4 h.below hB _ _ _ _
    g := fun k hk f => ⟨fl_keep g1 _, fl_keep g2 _, fl_keep g3 _⟩
    f0 := fun f => h.f0 (fl_set f (by decide))
    f1 := fun f => h.f1 (fl_set f (by decide))
    f2 := fun f => (h.f2 (fl_set f (by decide))).set4 hH _ _ _ _
    f3 := fun f => h.f3 (fl_set f (by decide))
    f4 := fun f => h.f4 (fl_set f (by decide))
    f5 := fun f => (h.f5 (fl_set f (by decide))).set4 hH _ _ _ _
    f6 := fun f => h.f6 (fl_set f (by decide))
    f7 := fun f => h.f7 (fl_set f (by decide))
    f8 := fun f => (h.f8 (fl_set f (by decide))).set4 hH _ _ _ _
    f9 := fun f => by
      have f9 := fl_set f (by decide)
      obtain ⟨b2, v2, e2, k1, k2, k3⟩ := h.f9 f9
      have hne := h.e1 f9 h9
      rw [hb, e2] at hne
      exact ⟨b2, v2, e2, k1, k2.other (fun e => hne (by rw [e])) _ _ _ _, fun f => k3 (fl_set f (by decide))⟩
    f10 := fun _ => ⟨b, _, hb, hB, hH.set _ _ _ _ _ _ _ _, fun _ => hv.symm⟩
    f11 := fun f => by
      have f9 := fl_set f (by decide)
      obtain ⟨b2, v2, e2, k1, k2, k3⟩ := h.f11 f9
      have hne := h.e3 h9 f9
      rw [hb, e2] at hne
      exact ⟨b2, v2, e2, k1, k2.other (fun e => hne (by rw [e])) _ _ _ _, fun f => k3 (fl_set f (by decide))⟩
    e1 := fun f g => h.e1 (fl_set f (by decide)) (fl_set g (by decide))
    e2 := fun f g => h.e2 (fl_set f (by decide)) (fl_set g (by decide))
    e3 := fun f g => h.e3 (fl_set f (by decide)) (fl_set g (by decide))
    n12 := fun f => fl_keep (h.n12 (fl_set f (by decide))) _
    n13 := fun _ => fl_keep h9 _
    n14 := fun f => fl_keep (h.n14 (fl_set f (by decide))) _
    k8 := fun f => fl_keep (h.k8 (fl_set f (by decide))) _
    k5 := fun f => fl_keep (h.k5 (fl_set f (by decide))) _
  }
theorem AwF.s14 {W : World} {vw : Value} {l : Array Bool} {w : World} {x5 x6 x7 x18 x19 x20 x21 x22 x23 x24 x25 x26 : Value} (h : AwF W vw l w x5 x6 x7 x18 x19 x20 x21 x22 x23 x24 x25 x26) (g1 : fl l 2) (g2 : fl l 5) (g3 : fl l 8) (h9 : fl l 11) {b : Nat} (hb : x7 = .pointer (some ⟨b, 0, none⟩)) (a1 : Option Addr) (n1 c1 : Nat) (a2 : Option Addr) (n2 c2 : Nat) (f : Int) (o : Bool) (hv : x26 = drvVal a1 n1 c1 a2 n2 c2 f o) : AwF W vw (l.setIfInBounds 14 true) ((((w.setCell ⟨b, 0, none⟩ (.slice a1 n1 c1)).setCell ⟨b, 1, none⟩ (.slice a2 n2 c2)).setCell ⟨b, 2, none⟩ (.int .i64 f)).setCell ⟨b, 3, none⟩ (.bool o)) x5 x6 x7 x18 x19 x20 x21 x22 x23 x24 x25 x26 := by
  obtain ⟨b', u, e, hB, hH, hu⟩ := h.f11 h9
  rw [hb] at e
  injection e with e; injection e with e; injection e with e
  subst e
  exact {
    size := by simpa using h.size
    below := below4 h.below hB _ _ _ _
    g := fun k hk f => ⟨fl_keep g1 _, fl_keep g2 _, fl_keep g3 _⟩
    f0 := fun f => h.f0 (fl_set f (by decide))
    f1 := fun f => h.f1 (fl_set f (by decide))
    f2 := fun f => (h.f2 (fl_set f (by decide))).set4 hH _ _ _ _
    f3 := fun f => h.f3 (fl_set f (by decide))
    f4 := fun f => h.f4 (fl_set f (by decide))
    f5 := fun f => (h.f5 (fl_set f (by decide))).set4 hH _ _ _ _
    f6 := fun f => h.f6 (fl_set f (by decide))
    f7 := fun f => h.f7 (fl_set f (by decide))
    f8 := fun f => (h.f8 (fl_set f (by decide))).set4 hH _ _ _ _
    f9 := fun f => by
      have f9 := fl_set f (by decide)
      obtain ⟨b2, v2, e2, k1, k2, k3⟩ := h.f9 f9
      have hne := h.e2 f9 h9
      rw [hb, e2] at hne
      exact ⟨b2, v2, e2, k1, k2.other (fun e => hne (by rw [e])) _ _ _ _, fun f => k3 (fl_set f (by decide))⟩
    f10 := fun f => by
      have f9 := fl_set f (by decide)
      obtain ⟨b2, v2, e2, k1, k2, k3⟩ := h.f10 f9
      have hne := h.e3 f9 h9
      rw [hb, e2] at hne
      exact ⟨b2, v2, e2, k1, k2.other (fun e => hne (by rw [e])) _ _ _ _, fun f => k3 (fl_set f (by decide))⟩
    f11 := fun _ => ⟨b, _, hb, hB, hH.set _ _ _ _ _ _ _ _, fun _ => hv.symm⟩
    e1 := fun f g => h.e1 (fl_set f (by decide)) (fl_set g (by decide))
    e2 := fun f g => h.e2 (fl_set f (by decide)) (fl_set g (by decide))
    e3 := fun f g => h.e3 (fl_set f (by decide)) (fl_set g (by decide))
    n12 := fun f => fl_keep (h.n12 (fl_set f (by decide))) _
    n13 := fun f => fl_keep (h.n13 (fl_set f (by decide))) _
    n14 := fun _ => fl_keep h9 _
    k8 := fun f => fl_keep (h.k8 (fl_set f (by decide))) _
    k5 := fun f => fl_keep (h.k5 (fl_set f (by decide))) _
  }
theorem AwF.zero (W : World) (vw x5 x6 x7 x18 x19 x20 x21 x22 x23 x24 x25 x26 : Value) : AwF W vw (Array.replicate 15 false) W.drew x5 x6 x7 x18 x19 x20 x21 x22 x23 x24 x25 x26 where
  size := rfl
  below := Below.drewed (Below.refl _ _)
  g := fun k _ f => absurd f (fl_none 15 k)
  f0 := fun f => absurd f (fl_none 15 0)
  f1 := fun f => absurd f (fl_none 15 1)
  f2 := fun f => absurd f (fl_none 15 2)
  f3 := fun f => absurd f (fl_none 15 3)
  f4 := fun f => absurd f (fl_none 15 4)
  f5 := fun f => absurd f (fl_none 15 5)
  f6 := fun f => absurd f (fl_none 15 6)
  f7 := fun f => absurd f (fl_none 15 7)
  f8 := fun f => absurd f (fl_none 15 8)
  f9 := fun f => absurd f (fl_none 15 9)
  f10 := fun f => absurd f (fl_none 15 10)
  f11 := fun f => absurd f (fl_none 15 11)
  e1 := fun f => absurd f (fl_none 15 9)
  e2 := fun f => absurd f (fl_none 15 9)
  e3 := fun f => absurd f (fl_none 15 10)
  n12 := fun f => absurd f (fl_none 15 12)
  n13 := fun f => absurd f (fl_none 15 13)
  n14 := fun f => absurd f (fl_none 15 14)
  k8 := fun f => absurd f (fl_none 15 8)
  k5 := fun f => absurd f (fl_none 15 5)

end Go.Proofs.YtogonkoeginoaaaGreatDoor
