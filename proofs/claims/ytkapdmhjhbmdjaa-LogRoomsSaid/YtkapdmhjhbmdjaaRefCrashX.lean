/-
  The rest of the document's Crash of layer 17: a drive that may not be.
-/
import Derived.Test.YtkapdmhjhbmdjaaRefCrash
namespace Go.Proofs.Ytkapdmhjhbmdjaa
open Go.RowKit

set_option maxRecDepth 100000 in
set_option maxHeartbeats 1600000 in
theorem refcrash_no (a1 a2 : Option Addr) (n1 c1 n2 c2 : Nat) (fuel : Int) (off : Bool) (d : Drv) (kept : Nat) (tn cut : Int) (w : World) (h : DriveAt w a1 n1 c1 a2 n2 c2 fuel off d) (hm : d.mayB = false) :
    Calls Try.prog 25 #[.agg #[.slice a1 n1 c1, .slice a2 n2 c2, .int .i64 fuel, .bool off], .agg #[.int .u64 kept, .int .i64 tn, .int .i64 cut]] w fun e w' => ∃ v, e = .returned v ∧ IsDrive w' v Drv.zero ∧ Below w.heap.size w w' := by
  have HD := hide h
  have HM := hide (fun w => refmay_any (.agg #[.slice a1 n1 c1, .slice a2 n2 c2, .int .i64 fuel, .bool off]) d w)
  rw [hm] at HM
  clear h hm
  go_enter Try.func25, Try.ntmps25
  go_wp2_with fail
  refine (HM.out _ ((HD.out.below ((((Below.refl _ _).alloc (Nat.le_refl _) _).alloc (by simp) _).alloc (by simp; omega) _)).is)).mono ?_
  rintro e w1 ⟨rfl, hb1⟩
  obtain ⟨B0, B1, B2⟩ := three_boxes w [.slice a1 n1 c1, .slice a2 n2 c2, .int .i64 fuel, .bool off] [.int .u64 kept, .int .i64 tn, .int .i64 cut] [.slice none 0 0, .slice none 0 0, .int .i64 0, .bool false] 25 28 25
  have hbw : Below w.heap.size w w1 := ((((Below.refl _ _).alloc (Nat.le_refl _) _).alloc (by simp) _).alloc (by simp; omega) _).trans (hb1.mono (by simp; omega))
  obtain ⟨p0, p1, p2, p3, p4, p5, p6, p7⟩ := (B2.next hb1).four
  clear B0 B1 B2 hb1
  go_wp2_with fail
  refine bodyPost_ret (v := .agg #[.slice none 0 0, .slice none 0 0, .int .i64 0, .bool false]) (by simp [results, Try.results25, go_sem, p0, p1, p2, p3]) rfl ⟨_, rfl, zero_drive _, ?_⟩
  exact below4 hbw (by omega) _ _ _ _

/-- The document's Crash. -/
theorem refcrash_any (v : Value) (d : Drv) (kept : Nat) (tn cut : Int) (w : World) (h : IsDrive w v d) (hk : kept < 18446744073709551616) (ht : -9223372036854775808 ≤ tn ∧ tn < 9223372036854775808) (hcut : -9223372036854775808 ≤ cut ∧ cut < 9223372036854775808) :
    Calls Try.prog 25 #[v, .agg #[.int .u64 kept, .int .i64 tn, .int .i64 cut]] w fun e w' => ∃ v', e = .returned v' ∧ IsDrive w' v' (d.crash kept tn cut) ∧ Below w.heap.size w w' := by
  obtain ⟨a1, n1, c1, a2, n2, c2, fuel, off, rfl, hd⟩ := h
  unfold Drv.crash
  cases hm : d.mayB with
  | false => exact refcrash_no a1 a2 n1 c1 n2 c2 fuel off d kept tn cut w hd hm
  | true => exact refcrash_main a1 a2 n1 c1 n2 c2 fuel off d kept tn cut w hd (d.mayB_iff.1 hm) hk ht hcut

end Go.Proofs.Ytkapdmhjhbmdjaa
