/-
  The walk through val.Lay: a value's octets. The walk through event.Lay: an event's octets. The walk through val.Take, on octets that a value lays. The walks through the reader's methods, on octets that an event lays: number, text, value. The walk through the reader's value, on octets that an event lays. The walk through event.Take, on octets that an event lays: it is taken back.
-/
import Derived.Test.YtogonkoeginoaaaGreatDoorEvA
import Derived.Test.YtogonkoeginoaaaGreatDoorKpA
import Derived.Test.YtogonkoeginoaaaGreatDoorNumPack
import Derived.Test.YtogonkoeginoaaaGreatDoorNumRest
import Derived.Test.YtogonkoeginoaaaGreatDoorLogLay
import Derived.Test.YtogonkoeginoaaaGreatDoorNumUnpack
import Derived.Test.YtogonkoeginoaaaGreatDoorNumLaw
import Derived.Test.YtogonkoeginoaaaGreatDoorKpD
import Derived.Deep.QuietTactic
import Derived.BigQuiet
namespace Go.Proofs.YtogonkoeginoaaaGreatDoor
open Go.RowKit

theorem cell_next {w w' : World} {b o : Nat} {v : Value} (h : w.cell? ⟨b, o, none⟩ = some v) (hb : Below w.heap.size w w') : w'.cell? ⟨b, o, none⟩ = some v := by
  have hlt : b < w.heap.size := World.block_lt_of_cell? w _ h
  rw [hb.cell (p := ⟨b, o, none⟩) hlt]
  exact h

set_option maxRecDepth 100000 in
set_option maxHeartbeats 3200000 in
theorem vlay_any (f : Fd) (w : World) (hf : f.In) (hv : valB f = true) : Calls Tryz.prog 25 #[.agg #[.bool f.num, .int .i64 f.n, .string (bs f.s)]] w fun e w' => e = .returned (.tuple #[.string (bs (layV f)), .int .i64 0]) ∧ Below w.heap.size w w' := by
  have HM := hide (fun (w : World) => valmay_any f w hf)
  rw [hv] at HM
  obtain ⟨nm, num, n, s⟩ := f
  obtain ⟨⟨h1, h2⟩, h3, h4⟩ := hf
  simp only at h1 h2 h3 h4 HM
  simp only
  have hss : (bs s).size = s.length := bs_size s
  have hfr := foldN_range n h1 h2
  have HFO : Hid (∀ w, Calls Tryz.prog 52 #[.int .i64 n] w fun e w' => e = .returned (.int .u64 (foldN n)) ∧ Below w.heap.size w w') := hide (fun w => by
    refine (fold_any n w h1 h2).mono ?_
    rintro e w' ⟨rfl, rfl⟩
    exact ⟨rfl, Below.refl _ _⟩)
  have hvB := hv
  unfold valB at hvB
  simp only at hvB
  cases num with
  | true =>
    have HPK := hide (fun w => pack_any (foldN n) w hfr.1 hfr.2)
    have hp10 := pack_length_le (foldN n).toNat
    have hrs : bs (layV ⟨nm, true, n, s⟩) = bs [1] ++ bs (pack (foldN n).toNat) := by rw [bs_append]; rfl
    have hpks : (bs (pack (foldN n).toNat)).size ≤ 10 := by rw [bs_size]; exact hp10
    have hone : (bs [1]).size = 1 := rfl
    obtain ⟨fo, hfo⟩ : ∃ z, foldN n = z := ⟨_, rfl⟩
    rw [hfo] at HFO HPK hrs hpks
    obtain ⟨pk, hpk⟩ : ∃ z, bs (pack fo.toNat) = z := ⟨_, rfl⟩
    rw [hpk] at HPK hrs hpks
    obtain ⟨rs, hr2⟩ : ∃ z, bs [1] ++ pk = z := ⟨_, rfl⟩
    have HCAT := hide hr2
    rw [hr2] at hrs
    have HRS := hide hrs
    obtain ⟨sv, hsv⟩ : ∃ z, bs s = z := ⟨_, rfl⟩
    rw [hsv] at HM ⊢
    clear hv hvB hfr hp10 hrs hfo hpk hr2 hsv hss
    have hb : Below w.heap.size w (w.alloc (.cells #[.bool true, .int .i64 n, .string sv] 78)) := (Below.refl _ _).alloc (Nat.le_refl _) _
    have hB := Blk.new w [.bool true, .int .i64 n, .string sv] 78
    obtain ⟨W0, hW0⟩ : ∃ z, w.alloc (.cells #[.bool true, .int .i64 n, .string sv] 78) = z := ⟨_, rfl⟩
    rw [hW0] at hb
    have C1 : Blk W0 w.heap.size [.bool true, .int .i64 n, .string sv] 78 := by rw [← hW0]; exact hB
    go_enter Tryz.func25, Tryz.ntmps25
    go_upto_region 1 with fail
    try rw [hW0]
    clear hW0 hB
    obtain ⟨b1, hb1⟩ : ∃ z, w.heap.size = z := ⟨_, rfl⟩
    rw [hb1] at C1 ⊢
    clear hb1
    have q0 := C1.cell 0
    have q1 := C1.cell 1
    have q2 := C1.cell 2
    go_wp2_with fail
    refine (HM.out _).mono ?_
    rintro e w2 ⟨rfl, hb2⟩
    have D1 := C1.next hb2
    have hbx := chain hb hb2
    clear q0 q1 q2 C1 hb hb2 HM
    have q0 := D1.cell 0
    have q1 := D1.cell 1
    have q2 := D1.cell 2
    go_upto_region 4 with fail
    clear q0 q1 q2
    refine (fun h : ∀  y2 y3 : Value, Code.wp Tryz.prog ?_ ?_ ⟨#[.agg #[.bool true, .int .i64 n, .string sv], .pointer (some ⟨b1, 0, none⟩), y2, y3, .agg #[.bool true, .int .i64 n, .string sv], .bool true, .bool false, .pointer (some ⟨b1, 0, none⟩), .bool true, undef, undef, undef, undef, undef, undef, undef, undef, undef, undef, undef, undef, undef, undef, undef, undef, undef, undef], []⟩ w2 => h _ _) ?_
    intro  y2 y3
    refine wp_region_inv2 (fun lq aa wq => ∃ x2 x3 x9 x10 x11 x12 x13 x14 x15 : Value, aa = ⟨#[.agg #[.bool true, .int .i64 n, .string sv], .pointer (some ⟨b1, 0, none⟩), x2, x3, .agg #[.bool true, .int .i64 n, .string sv], .bool true, .bool false, .pointer (some ⟨b1, 0, none⟩), .bool true, x9, x10, x11, x12, x13, x14, x15, undef, undef, undef, undef, undef, undef, undef, undef, undef, undef, undef], []⟩ ∧ lq.size = 9 ∧ Below w2.heap.size w2 wq ∧ Closed lq ([(1, 0), (3, 2), (4, 3), (5, 4), (6, 1), (6, 5), (7, 6)] : List (Nat × Nat)) ∧ (fl lq 0 → ∃ b, x9 = .slice (some ⟨b, 0, none⟩) 1 1 ∧ wq.cell? ⟨b, 0, none⟩ = some (.int .u8 1)) ∧ (fl lq 1 → x10 = .string (bs [1])) ∧ (fl lq 2 → x11 = .pointer (some ⟨b1, 1, none⟩)) ∧ (fl lq 3 → x12 = .int .i64 n) ∧ (fl lq 4 → x13 = .int .u64 fo) ∧ (fl lq 5 → x14 = .string pk) ∧ (fl lq 6 → x15 = .string rs) ∧ (fl lq 7 → x2 = .string rs) ∧ (fl lq 8 → x3 = .int .i64 0)) (by kernel_rfl) (ord_of2 (by decide +kernel)) ⟨_, _, _, _, _, _, _, _, _, rfl, by simp, Below.drewed (Below.refl _ _), Closed.zero _ _, fun f => absurd f (fl_none _ _), fun f => absurd f (fl_none _ _), fun f => absurd f (fl_none _ _), fun f => absurd f (fl_none _ _), fun f => absurd f (fl_none _ _), fun f => absurd f (fl_none _ _), fun f => absurd f (fl_none _ _), fun f => absurd f (fl_none _ _), fun f => absurd f (fl_none _ _)⟩ ?_ ?_
    · intro lq aa w3 i o ho hI h1 h2 KK hK
      obtain ⟨x2, x3, x9, x10, x11, x12, x13, x14, x15, rfl, hsz, hbw3, hcl, g0, g1, g2, g3, g4, g5, g6, g7, g8⟩ := hI
      have hi : i < 9 := (Array.getElem?_eq_some_iff.1 ho).1
      have R9 := D1.next hbw3
      have r0 : w3.cell? ⟨b1, 0, none⟩ = some (.bool true) := R9.cell 0
      have r1 : w3.cell? ⟨b1, 1, none⟩ = some (.int .i64 n) := R9.cell 1
      have r2 : w3.cell? ⟨b1, 2, none⟩ = some (.string sv) := R9.cell 2
      have hcase : i = 0 ∨ i = 1 ∨ i = 2 ∨ i = 3 ∨ i = 4 ∨ i = 5 ∨ i = 6 ∨ i = 7 ∨ i = 8 := by omega
      rcases hcase with rfl | rfl | rfl | rfl | rfl | rfl | rfl | rfl | rfl
      · cases ho
        go_simp
        exact hK _ _ ⟨_, _, _, _, _, _, _, _, _, rfl, by simpa using hsz, hbw3.alloc hbw3.size _, hcl.step 0 [] (by decide) all_nil, fun _ => ⟨w3.heap.size, rfl, (Blk.new w3 [.int .u8 1] 5).cell 0⟩, fun f => absurd (hcl.on (by decide) (fl_set f (by decide))) (fl_not h1), fun f => (g2 (fl_set f (by decide))), fun f => (g3 (fl_set f (by decide))), fun f => (g4 (fl_set f (by decide))), fun f => (g5 (fl_set f (by decide))), fun f => (g6 (fl_set f (by decide))), fun f => (g7 (fl_set f (by decide))), fun f => (g8 (fl_set f (by decide)))⟩
      · cases ho
        have f0 : fl lq 0 := h2 ⟨0, .data⟩ (by simp) rfl
        obtain ⟨b9, rfl, hc9⟩ := g0 f0
        have hcv := conv_cell (P := Tryz.prog) (src := 68) (dst := 9) Tryz.underlying68 Tryz.underlying5 Tryz.underlying9 1 1 rfl b9 w3 hc9
        go_simp
        exact hK _ _ ⟨_, _, _, _, _, _, _, _, _, rfl, by simpa using hsz, hbw3, hcl.step 1 [0] (by decide) (all_cons f0 all_nil), fun f => (g0 (fl_set f (by decide))), fun _ => rfl, fun f => (g2 (fl_set f (by decide))), fun f => (g3 (fl_set f (by decide))), fun f => (g4 (fl_set f (by decide))), fun f => (g5 (fl_set f (by decide))), fun f => absurd (hcl.on (by decide) (fl_set f (by decide))) (fl_not h1), fun f => (g7 (fl_set f (by decide))), fun f => (g8 (fl_set f (by decide)))⟩
      · cases ho
        go_simp
        exact hK _ _ ⟨_, _, _, _, _, _, _, _, _, rfl, by simpa using hsz, hbw3, hcl.step 2 [] (by decide) all_nil, fun f => (g0 (fl_set f (by decide))), fun f => (g1 (fl_set f (by decide))), fun _ => rfl, fun f => absurd (hcl.on (by decide) (fl_set f (by decide))) (fl_not h1), fun f => (g4 (fl_set f (by decide))), fun f => (g5 (fl_set f (by decide))), fun f => (g6 (fl_set f (by decide))), fun f => (g7 (fl_set f (by decide))), fun f => (g8 (fl_set f (by decide)))⟩
      · cases ho
        have f2 : fl lq 2 := h2 ⟨2, .data⟩ (by simp) rfl
        obtain rfl := g2 f2
        go_simp
        exact hK _ _ ⟨_, _, _, _, _, _, _, _, _, rfl, by simpa using hsz, hbw3, hcl.step 3 [2] (by decide) (all_cons f2 all_nil), fun f => (g0 (fl_set f (by decide))), fun f => (g1 (fl_set f (by decide))), fun f => (g2 (fl_set f (by decide))), fun _ => rfl, fun f => absurd (hcl.on (by decide) (fl_set f (by decide))) (fl_not h1), fun f => (g5 (fl_set f (by decide))), fun f => (g6 (fl_set f (by decide))), fun f => (g7 (fl_set f (by decide))), fun f => (g8 (fl_set f (by decide)))⟩
      · cases ho
        have f3 : fl lq 3 := h2 ⟨3, .data⟩ (by simp) rfl
        obtain rfl := g3 f3
        go_simp
        go_at_call 52
        refine (HFO.out _).mono ?_
        rintro e w' ⟨rfl, hb⟩
        exact hK _ _ ⟨_, _, _, _, _, _, _, _, _, rfl, by simpa using hsz, chain hbw3 hb, hcl.step 4 [3] (by decide) (all_cons f3 all_nil), fun f => (let ⟨b, h1, h2⟩ := (g0 (fl_set f (by decide))); ⟨b, h1, cell_next h2 hb⟩), fun f => (g1 (fl_set f (by decide))), fun f => (g2 (fl_set f (by decide))), fun f => (g3 (fl_set f (by decide))), fun _ => rfl, fun f => absurd (hcl.on (by decide) (fl_set f (by decide))) (fl_not h1), fun f => (g6 (fl_set f (by decide))), fun f => (g7 (fl_set f (by decide))), fun f => (g8 (fl_set f (by decide)))⟩
      · cases ho
        have f4 : fl lq 4 := h2 ⟨4, .data⟩ (by simp) rfl
        obtain rfl := g4 f4
        go_simp
        go_at_call 24
        refine (HPK.out _).mono ?_
        rintro e w' ⟨rfl, hb⟩
        exact hK _ _ ⟨_, _, _, _, _, _, _, _, _, rfl, by simpa using hsz, chain hbw3 hb, hcl.step 5 [4] (by decide) (all_cons f4 all_nil), fun f => (let ⟨b, h1, h2⟩ := (g0 (fl_set f (by decide))); ⟨b, h1, cell_next h2 hb⟩), fun f => (g1 (fl_set f (by decide))), fun f => (g2 (fl_set f (by decide))), fun f => (g3 (fl_set f (by decide))), fun f => (g4 (fl_set f (by decide))), fun _ => rfl, fun f => absurd (hcl.on (by decide) (fl_set f (by decide))) (fl_not h1), fun f => (g7 (fl_set f (by decide))), fun f => (g8 (fl_set f (by decide)))⟩
      · cases ho
        have f1 : fl lq 1 := h2 ⟨1, .data⟩ (by simp) rfl
        have f5 : fl lq 5 := h2 ⟨5, .data⟩ (by simp) rfl
        obtain rfl := g1 f1
        obtain rfl := g5 f5
        have hcat := HCAT.out
        have hnb : ¬ 9223372036854775807 < 1 + pk.size := by omega
        go_simp
        exact hK _ _ ⟨_, _, _, _, _, _, _, _, _, rfl, by simpa using hsz, hbw3, hcl.step 6 [1, 5] (by decide) (all_cons f1 (all_cons f5 all_nil)), fun f => (g0 (fl_set f (by decide))), fun f => (g1 (fl_set f (by decide))), fun f => (g2 (fl_set f (by decide))), fun f => (g3 (fl_set f (by decide))), fun f => (g4 (fl_set f (by decide))), fun f => (g5 (fl_set f (by decide))), fun _ => rfl, fun f => absurd (hcl.on (by decide) (fl_set f (by decide))) (fl_not h1), fun f => (g8 (fl_set f (by decide)))⟩
      · cases ho
        have f6 : fl lq 6 := h2 ⟨6, .data⟩ (by simp) rfl
        obtain rfl := g6 f6
        go_simp
        exact hK _ _ ⟨_, _, _, _, _, _, _, _, _, rfl, by simpa using hsz, hbw3, hcl.step 7 [6] (by decide) (all_cons f6 all_nil), fun f => (g0 (fl_set f (by decide))), fun f => (g1 (fl_set f (by decide))), fun f => (g2 (fl_set f (by decide))), fun f => (g3 (fl_set f (by decide))), fun f => (g4 (fl_set f (by decide))), fun f => (g5 (fl_set f (by decide))), fun f => (g6 (fl_set f (by decide))), fun _ => rfl, fun f => (g8 (fl_set f (by decide)))⟩
      · cases ho
        go_simp
        exact hK _ _ ⟨_, _, _, _, _, _, _, _, _, rfl, by simpa using hsz, hbw3, hcl.step 8 [] (by decide) all_nil, fun f => (g0 (fl_set f (by decide))), fun f => (g1 (fl_set f (by decide))), fun f => (g2 (fl_set f (by decide))), fun f => (g3 (fl_set f (by decide))), fun f => (g4 (fl_set f (by decide))), fun f => (g5 (fl_set f (by decide))), fun f => (g6 (fl_set f (by decide))), fun f => (g7 (fl_set f (by decide))), fun _ => rfl⟩
    · intro lq aa w3 hI hall
      obtain ⟨x2, x3, x9, x10, x11, x12, x13, x14, x15, rfl, hsz, hbw3, hcl, g0, g1, g2, g3, g4, g5, g6, g7, g8⟩ := hI
      obtain rfl := g7 (fl_all hall hsz (by decide))
      obtain rfl := g8 (fl_all hall hsz (by decide))
      try dsimp only
      go_wp2_with fail
      exact bodyPost_ret (v := .tuple #[.string rs, .int .i64 0]) (by simp [results, Tryz.results25, go_sem]) rfl ⟨by rw [HRS.out], hbx.trans (hbw3.mono hbx.size)⟩
  | false =>
    rw [if_neg (by simp), decide_eq_true_eq] at hvB
    obtain ⟨hn0, hs60⟩ := hvB
    have HPK : Hid (∀ w, Calls Tryz.prog 24 #[.int .u64 ((bs s).size : Int)] w fun e w' => e = .returned (.string (bs (pack s.length))) ∧ Below w.heap.size w w') := hide (fun w => by
      have h := pack_any (s.length : Int) w (by omega) (by omega)
      rw [Int.toNat_natCast] at h
      rw [hss]
      exact h)
    have hp10 := pack_length_le s.length
    have hcat1 : bs [2] ++ bs (pack s.length) = bs (2 :: pack s.length) := by rw [bs_append]; rfl
    have hrs : bs (layV ⟨nm, false, n, s⟩) = bs (2 :: pack s.length) ++ bs s := by
      rw [bs_append]
      rfl
    have hr1s : (bs (2 :: pack s.length)).size ≤ 11 := by rw [bs_size, List.length_cons]; omega
    have hpks : (bs (pack s.length)).size ≤ 10 := by rw [bs_size]; exact hp10
    have hsvs : (bs s).size ≤ 60 := by rw [hss]; exact hs60
    obtain ⟨rq, hr1⟩ : ∃ z, bs (2 :: pack s.length) = z := ⟨_, rfl⟩
    obtain ⟨pk, hpk⟩ : ∃ z, bs (pack s.length) = z := ⟨_, rfl⟩
    obtain ⟨sv, hsv⟩ : ∃ z, bs s = z := ⟨_, rfl⟩
    rw [hr1] at hcat1 hrs hr1s
    rw [hpk] at HPK hcat1 hpks
    rw [hsv] at HM HPK hrs hsvs ⊢
    obtain ⟨rs, hr2⟩ : ∃ z, rq ++ sv = z := ⟨_, rfl⟩
    rw [hr2] at hrs
    have HCAT := hide hcat1
    have HCAT2 := hide hr2
    have HRS := hide hrs
    have HWR : Hid (IntKind.u64.wrap (sv.size : Int) = (sv.size : Int)) := hide (by rw [IntKind.wrap_u64]; omega)
    have hone : (bs [2]).size = 1 := rfl
    clear hv hfr hp10 hrs hpk hr2 hsv hss hr1 hcat1 hn0 hs60
    have hb : Below w.heap.size w (w.alloc (.cells #[.bool false, .int .i64 n, .string sv] 78)) := (Below.refl _ _).alloc (Nat.le_refl _) _
    have hB := Blk.new w [.bool false, .int .i64 n, .string sv] 78
    obtain ⟨W0, hW0⟩ : ∃ z, w.alloc (.cells #[.bool false, .int .i64 n, .string sv] 78) = z := ⟨_, rfl⟩
    rw [hW0] at hb
    have C1 : Blk W0 w.heap.size [.bool false, .int .i64 n, .string sv] 78 := by rw [← hW0]; exact hB
    go_enter Tryz.func25, Tryz.ntmps25
    go_upto_region 1 with fail
    try rw [hW0]
    clear hW0 hB
    obtain ⟨b1, hb1⟩ : ∃ z, w.heap.size = z := ⟨_, rfl⟩
    rw [hb1] at C1 ⊢
    clear hb1
    have q0 := C1.cell 0
    have q1 := C1.cell 1
    have q2 := C1.cell 2
    go_wp2_with fail
    refine (HM.out _).mono ?_
    rintro e w2 ⟨rfl, hb2⟩
    have D1 := C1.next hb2
    have hbx := chain hb hb2
    clear q0 q1 q2 C1 hb hb2 HM
    have q0 := D1.cell 0
    have q1 := D1.cell 1
    have q2 := D1.cell 2
    go_upto_region 5 with fail
    clear q0 q1 q2
    refine (fun h : ∀  y2 y3 : Value, Code.wp Tryz.prog ?_ ?_ ⟨#[.agg #[.bool false, .int .i64 n, .string sv], .pointer (some ⟨b1, 0, none⟩), y2, y3, .agg #[.bool false, .int .i64 n, .string sv], .bool true, .bool false, .pointer (some ⟨b1, 0, none⟩), .bool false, undef, undef, undef, undef, undef, undef, undef, undef, undef, undef, undef, undef, undef, undef, undef, undef, undef, undef], []⟩ w2 => h _ _) ?_
    intro  y2 y3
    refine wp_region_inv2 (fun lq aa wq => ∃ x2 x3 x16 x17 x18 x19 x20 x21 x22 x23 x24 x25 x26 : Value, aa = ⟨#[.agg #[.bool false, .int .i64 n, .string sv], .pointer (some ⟨b1, 0, none⟩), x2, x3, .agg #[.bool false, .int .i64 n, .string sv], .bool true, .bool false, .pointer (some ⟨b1, 0, none⟩), .bool false, undef, undef, undef, undef, undef, undef, undef, x16, x17, x18, x19, x20, x21, x22, x23, x24, x25, x26], []⟩ ∧ lq.size = 13 ∧ Below w2.heap.size w2 wq ∧ Closed lq ([(1, 0), (3, 2), (4, 3), (5, 4), (6, 5), (7, 1), (7, 6), (9, 8), (10, 7), (10, 9), (11, 10)] : List (Nat × Nat)) ∧ (fl lq 0 → ∃ b, x16 = .slice (some ⟨b, 0, none⟩) 1 1 ∧ wq.cell? ⟨b, 0, none⟩ = some (.int .u8 2)) ∧ (fl lq 1 → x17 = .string (bs [2])) ∧ (fl lq 2 → x18 = .pointer (some ⟨b1, 2, none⟩)) ∧ (fl lq 3 → x19 = .string sv) ∧ (fl lq 4 → x20 = .int .i64 (sv.size : Int)) ∧ (fl lq 5 → x21 = .int .u64 (sv.size : Int)) ∧ (fl lq 6 → x22 = .string pk) ∧ (fl lq 7 → x23 = .string rq) ∧ (fl lq 8 → x24 = .pointer (some ⟨b1, 2, none⟩)) ∧ (fl lq 9 → x25 = .string sv) ∧ (fl lq 10 → x26 = .string rs) ∧ (fl lq 11 → x2 = .string rs) ∧ (fl lq 12 → x3 = .int .i64 0)) (by kernel_rfl) (ord_of2 (by decide +kernel)) ⟨_, _, _, _, _, _, _, _, _, _, _, _, _, rfl, by simp, Below.drewed (Below.refl _ _), Closed.zero _ _, fun f => absurd f (fl_none _ _), fun f => absurd f (fl_none _ _), fun f => absurd f (fl_none _ _), fun f => absurd f (fl_none _ _), fun f => absurd f (fl_none _ _), fun f => absurd f (fl_none _ _), fun f => absurd f (fl_none _ _), fun f => absurd f (fl_none _ _), fun f => absurd f (fl_none _ _), fun f => absurd f (fl_none _ _), fun f => absurd f (fl_none _ _), fun f => absurd f (fl_none _ _), fun f => absurd f (fl_none _ _)⟩ ?_ ?_
    · intro lq aa w3 i o ho hI h1 h2 KK hK
      obtain ⟨x2, x3, x16, x17, x18, x19, x20, x21, x22, x23, x24, x25, x26, rfl, hsz, hbw3, hcl, g0, g1, g2, g3, g4, g5, g6, g7, g8, g9, g10, g11, g12⟩ := hI
      have hi : i < 13 := (Array.getElem?_eq_some_iff.1 ho).1
      have R9 := D1.next hbw3
      have r0 : w3.cell? ⟨b1, 0, none⟩ = some (.bool false) := R9.cell 0
      have r1 : w3.cell? ⟨b1, 1, none⟩ = some (.int .i64 n) := R9.cell 1
      have r2 : w3.cell? ⟨b1, 2, none⟩ = some (.string sv) := R9.cell 2
      have hcase : i = 0 ∨ i = 1 ∨ i = 2 ∨ i = 3 ∨ i = 4 ∨ i = 5 ∨ i = 6 ∨ i = 7 ∨ i = 8 ∨ i = 9 ∨ i = 10 ∨ i = 11 ∨ i = 12 := by omega
      rcases hcase with rfl | rfl | rfl | rfl | rfl | rfl | rfl | rfl | rfl | rfl | rfl | rfl | rfl
      · cases ho
        go_simp
        exact hK _ _ ⟨_, _, _, _, _, _, _, _, _, _, _, _, _, rfl, by simpa using hsz, hbw3.alloc hbw3.size _, hcl.step 0 [] (by decide) all_nil, fun _ => ⟨w3.heap.size, rfl, (Blk.new w3 [.int .u8 2] 5).cell 0⟩, fun f => absurd (hcl.on (by decide) (fl_set f (by decide))) (fl_not h1), fun f => (g2 (fl_set f (by decide))), fun f => (g3 (fl_set f (by decide))), fun f => (g4 (fl_set f (by decide))), fun f => (g5 (fl_set f (by decide))), fun f => (g6 (fl_set f (by decide))), fun f => (g7 (fl_set f (by decide))), fun f => (g8 (fl_set f (by decide))), fun f => (g9 (fl_set f (by decide))), fun f => (g10 (fl_set f (by decide))), fun f => (g11 (fl_set f (by decide))), fun f => (g12 (fl_set f (by decide)))⟩
      · cases ho
        have f0 : fl lq 0 := h2 ⟨0, .data⟩ (by simp) rfl
        obtain ⟨b9, rfl, hc9⟩ := g0 f0
        have hcv := conv_cell (P := Tryz.prog) (src := 68) (dst := 9) Tryz.underlying68 Tryz.underlying5 Tryz.underlying9 2 2 rfl b9 w3 hc9
        go_simp
        exact hK _ _ ⟨_, _, _, _, _, _, _, _, _, _, _, _, _, rfl, by simpa using hsz, hbw3, hcl.step 1 [0] (by decide) (all_cons f0 all_nil), fun f => (g0 (fl_set f (by decide))), fun _ => rfl, fun f => (g2 (fl_set f (by decide))), fun f => (g3 (fl_set f (by decide))), fun f => (g4 (fl_set f (by decide))), fun f => (g5 (fl_set f (by decide))), fun f => (g6 (fl_set f (by decide))), fun f => absurd (hcl.on (by decide) (fl_set f (by decide))) (fl_not h1), fun f => (g8 (fl_set f (by decide))), fun f => (g9 (fl_set f (by decide))), fun f => (g10 (fl_set f (by decide))), fun f => (g11 (fl_set f (by decide))), fun f => (g12 (fl_set f (by decide)))⟩
      · cases ho
        go_simp
        exact hK _ _ ⟨_, _, _, _, _, _, _, _, _, _, _, _, _, rfl, by simpa using hsz, hbw3, hcl.step 2 [] (by decide) all_nil, fun f => (g0 (fl_set f (by decide))), fun f => (g1 (fl_set f (by decide))), fun _ => rfl, fun f => absurd (hcl.on (by decide) (fl_set f (by decide))) (fl_not h1), fun f => (g4 (fl_set f (by decide))), fun f => (g5 (fl_set f (by decide))), fun f => (g6 (fl_set f (by decide))), fun f => (g7 (fl_set f (by decide))), fun f => (g8 (fl_set f (by decide))), fun f => (g9 (fl_set f (by decide))), fun f => (g10 (fl_set f (by decide))), fun f => (g11 (fl_set f (by decide))), fun f => (g12 (fl_set f (by decide)))⟩
      · cases ho
        have f2 : fl lq 2 := h2 ⟨2, .data⟩ (by simp) rfl
        obtain rfl := g2 f2
        go_simp
        exact hK _ _ ⟨_, _, _, _, _, _, _, _, _, _, _, _, _, rfl, by simpa using hsz, hbw3, hcl.step 3 [2] (by decide) (all_cons f2 all_nil), fun f => (g0 (fl_set f (by decide))), fun f => (g1 (fl_set f (by decide))), fun f => (g2 (fl_set f (by decide))), fun _ => rfl, fun f => absurd (hcl.on (by decide) (fl_set f (by decide))) (fl_not h1), fun f => (g5 (fl_set f (by decide))), fun f => (g6 (fl_set f (by decide))), fun f => (g7 (fl_set f (by decide))), fun f => (g8 (fl_set f (by decide))), fun f => (g9 (fl_set f (by decide))), fun f => (g10 (fl_set f (by decide))), fun f => (g11 (fl_set f (by decide))), fun f => (g12 (fl_set f (by decide)))⟩
      · cases ho
        have f3 : fl lq 3 := h2 ⟨3, .data⟩ (by simp) rfl
        obtain rfl := g3 f3
        go_simp
        exact hK _ _ ⟨_, _, _, _, _, _, _, _, _, _, _, _, _, rfl, by simpa using hsz, hbw3, hcl.step 4 [3] (by decide) (all_cons f3 all_nil), fun f => (g0 (fl_set f (by decide))), fun f => (g1 (fl_set f (by decide))), fun f => (g2 (fl_set f (by decide))), fun f => (g3 (fl_set f (by decide))), fun _ => rfl, fun f => absurd (hcl.on (by decide) (fl_set f (by decide))) (fl_not h1), fun f => (g6 (fl_set f (by decide))), fun f => (g7 (fl_set f (by decide))), fun f => (g8 (fl_set f (by decide))), fun f => (g9 (fl_set f (by decide))), fun f => (g10 (fl_set f (by decide))), fun f => (g11 (fl_set f (by decide))), fun f => (g12 (fl_set f (by decide)))⟩
      · cases ho
        have f4 : fl lq 4 := h2 ⟨4, .data⟩ (by simp) rfl
        obtain rfl := g4 f4
        have hwr := HWR.out
        go_simp
        exact hK _ _ ⟨_, _, _, _, _, _, _, _, _, _, _, _, _, rfl, by simpa using hsz, hbw3, hcl.step 5 [4] (by decide) (all_cons f4 all_nil), fun f => (g0 (fl_set f (by decide))), fun f => (g1 (fl_set f (by decide))), fun f => (g2 (fl_set f (by decide))), fun f => (g3 (fl_set f (by decide))), fun f => (g4 (fl_set f (by decide))), fun _ => rfl, fun f => absurd (hcl.on (by decide) (fl_set f (by decide))) (fl_not h1), fun f => (g7 (fl_set f (by decide))), fun f => (g8 (fl_set f (by decide))), fun f => (g9 (fl_set f (by decide))), fun f => (g10 (fl_set f (by decide))), fun f => (g11 (fl_set f (by decide))), fun f => (g12 (fl_set f (by decide)))⟩
      · cases ho
        have f5 : fl lq 5 := h2 ⟨5, .data⟩ (by simp) rfl
        obtain rfl := g5 f5
        go_simp
        go_at_call 24
        refine (HPK.out _).mono ?_
        rintro e w' ⟨rfl, hb⟩
        exact hK _ _ ⟨_, _, _, _, _, _, _, _, _, _, _, _, _, rfl, by simpa using hsz, chain hbw3 hb, hcl.step 6 [5] (by decide) (all_cons f5 all_nil), fun f => (let ⟨b, h1, h2⟩ := (g0 (fl_set f (by decide))); ⟨b, h1, cell_next h2 hb⟩), fun f => (g1 (fl_set f (by decide))), fun f => (g2 (fl_set f (by decide))), fun f => (g3 (fl_set f (by decide))), fun f => (g4 (fl_set f (by decide))), fun f => (g5 (fl_set f (by decide))), fun _ => rfl, fun f => absurd (hcl.on (by decide) (fl_set f (by decide))) (fl_not h1), fun f => (g8 (fl_set f (by decide))), fun f => (g9 (fl_set f (by decide))), fun f => (g10 (fl_set f (by decide))), fun f => (g11 (fl_set f (by decide))), fun f => (g12 (fl_set f (by decide)))⟩
      · cases ho
        have f1 : fl lq 1 := h2 ⟨1, .data⟩ (by simp) rfl
        have f6 : fl lq 6 := h2 ⟨6, .data⟩ (by simp) rfl
        obtain rfl := g1 f1
        obtain rfl := g6 f6
        have hcat := HCAT.out
        have hnb : ¬ 9223372036854775807 < 1 + pk.size := by omega
        go_simp
        exact hK _ _ ⟨_, _, _, _, _, _, _, _, _, _, _, _, _, rfl, by simpa using hsz, hbw3, hcl.step 7 [1, 6] (by decide) (all_cons f1 (all_cons f6 all_nil)), fun f => (g0 (fl_set f (by decide))), fun f => (g1 (fl_set f (by decide))), fun f => (g2 (fl_set f (by decide))), fun f => (g3 (fl_set f (by decide))), fun f => (g4 (fl_set f (by decide))), fun f => (g5 (fl_set f (by decide))), fun f => (g6 (fl_set f (by decide))), fun _ => rfl, fun f => (g8 (fl_set f (by decide))), fun f => (g9 (fl_set f (by decide))), fun f => absurd (hcl.on (by decide) (fl_set f (by decide))) (fl_not h1), fun f => (g11 (fl_set f (by decide))), fun f => (g12 (fl_set f (by decide)))⟩
      · cases ho
        go_simp
        exact hK _ _ ⟨_, _, _, _, _, _, _, _, _, _, _, _, _, rfl, by simpa using hsz, hbw3, hcl.step 8 [] (by decide) all_nil, fun f => (g0 (fl_set f (by decide))), fun f => (g1 (fl_set f (by decide))), fun f => (g2 (fl_set f (by decide))), fun f => (g3 (fl_set f (by decide))), fun f => (g4 (fl_set f (by decide))), fun f => (g5 (fl_set f (by decide))), fun f => (g6 (fl_set f (by decide))), fun f => (g7 (fl_set f (by decide))), fun _ => rfl, fun f => absurd (hcl.on (by decide) (fl_set f (by decide))) (fl_not h1), fun f => (g10 (fl_set f (by decide))), fun f => (g11 (fl_set f (by decide))), fun f => (g12 (fl_set f (by decide)))⟩
      · cases ho
        have f8 : fl lq 8 := h2 ⟨8, .data⟩ (by simp) rfl
        obtain rfl := g8 f8
        go_simp
        exact hK _ _ ⟨_, _, _, _, _, _, _, _, _, _, _, _, _, rfl, by simpa using hsz, hbw3, hcl.step 9 [8] (by decide) (all_cons f8 all_nil), fun f => (g0 (fl_set f (by decide))), fun f => (g1 (fl_set f (by decide))), fun f => (g2 (fl_set f (by decide))), fun f => (g3 (fl_set f (by decide))), fun f => (g4 (fl_set f (by decide))), fun f => (g5 (fl_set f (by decide))), fun f => (g6 (fl_set f (by decide))), fun f => (g7 (fl_set f (by decide))), fun f => (g8 (fl_set f (by decide))), fun _ => rfl, fun f => absurd (hcl.on (by decide) (fl_set f (by decide))) (fl_not h1), fun f => (g11 (fl_set f (by decide))), fun f => (g12 (fl_set f (by decide)))⟩
      · cases ho
        have f7 : fl lq 7 := h2 ⟨7, .data⟩ (by simp) rfl
        have f9 : fl lq 9 := h2 ⟨9, .data⟩ (by simp) rfl
        obtain rfl := g7 f7
        obtain rfl := g9 f9
        have hcat := HCAT2.out
        have hnb : ¬ 9223372036854775807 < rq.size + sv.size := by omega
        go_simp
        exact hK _ _ ⟨_, _, _, _, _, _, _, _, _, _, _, _, _, rfl, by simpa using hsz, hbw3, hcl.step 10 [7, 9] (by decide) (all_cons f7 (all_cons f9 all_nil)), fun f => (g0 (fl_set f (by decide))), fun f => (g1 (fl_set f (by decide))), fun f => (g2 (fl_set f (by decide))), fun f => (g3 (fl_set f (by decide))), fun f => (g4 (fl_set f (by decide))), fun f => (g5 (fl_set f (by decide))), fun f => (g6 (fl_set f (by decide))), fun f => (g7 (fl_set f (by decide))), fun f => (g8 (fl_set f (by decide))), fun f => (g9 (fl_set f (by decide))), fun _ => rfl, fun f => absurd (hcl.on (by decide) (fl_set f (by decide))) (fl_not h1), fun f => (g12 (fl_set f (by decide)))⟩
      · cases ho
        have f10 : fl lq 10 := h2 ⟨10, .data⟩ (by simp) rfl
        obtain rfl := g10 f10
        go_simp
        exact hK _ _ ⟨_, _, _, _, _, _, _, _, _, _, _, _, _, rfl, by simpa using hsz, hbw3, hcl.step 11 [10] (by decide) (all_cons f10 all_nil), fun f => (g0 (fl_set f (by decide))), fun f => (g1 (fl_set f (by decide))), fun f => (g2 (fl_set f (by decide))), fun f => (g3 (fl_set f (by decide))), fun f => (g4 (fl_set f (by decide))), fun f => (g5 (fl_set f (by decide))), fun f => (g6 (fl_set f (by decide))), fun f => (g7 (fl_set f (by decide))), fun f => (g8 (fl_set f (by decide))), fun f => (g9 (fl_set f (by decide))), fun f => (g10 (fl_set f (by decide))), fun _ => rfl, fun f => (g12 (fl_set f (by decide)))⟩
      · cases ho
        go_simp
        exact hK _ _ ⟨_, _, _, _, _, _, _, _, _, _, _, _, _, rfl, by simpa using hsz, hbw3, hcl.step 12 [] (by decide) all_nil, fun f => (g0 (fl_set f (by decide))), fun f => (g1 (fl_set f (by decide))), fun f => (g2 (fl_set f (by decide))), fun f => (g3 (fl_set f (by decide))), fun f => (g4 (fl_set f (by decide))), fun f => (g5 (fl_set f (by decide))), fun f => (g6 (fl_set f (by decide))), fun f => (g7 (fl_set f (by decide))), fun f => (g8 (fl_set f (by decide))), fun f => (g9 (fl_set f (by decide))), fun f => (g10 (fl_set f (by decide))), fun f => (g11 (fl_set f (by decide))), fun _ => rfl⟩
    · intro lq aa w3 hI hall
      obtain ⟨x2, x3, x16, x17, x18, x19, x20, x21, x22, x23, x24, x25, x26, rfl, hsz, hbw3, hcl, g0, g1, g2, g3, g4, g5, g6, g7, g8, g9, g10, g11, g12⟩ := hI
      obtain rfl := g11 (fl_all hall hsz (by decide))
      obtain rfl := g12 (fl_all hall hsz (by decide))
      try dsimp only
      go_wp2_with fail
      exact bodyPost_ret (v := .tuple #[.string rs, .int .i64 0]) (by simp [results, Tryz.results25, go_sem]) rfl ⟨by rw [HRS.out], hbx.trans (hbw3.mono hbx.size)⟩

end Go.Proofs.YtogonkoeginoaaaGreatDoor

namespace Go.Proofs.YtogonkoeginoaaaGreatDoor
open Go.RowKit

theorem bld_write (b : Nat) (l s : List UInt8) (w : World) (hI : IsB b b l w) (hl : l.length + s.length ≤ 1000000) (hb : b ≤ w.heap.size) : Calls Tryz.prog 23 #[.pointer (some ⟨b, 0, none⟩), .string (bs s)] w fun e w' => (∃ v, e = .returned v) ∧ IsB b b (l ++ s) w' ∧ Below b w w' ∧ Lib.OthersKept 5 (some b) w w' := by
  refine (Tryz.Builder_WriteString_k b b _ (bs s) w hI (by rw [Lib.byteCells_length, bs_size]; omega) hb).mono ?_
  rintro e w' ⟨rfl, h1, h2, h3⟩
  exact ⟨⟨_, rfl⟩, .inr (by rw [Lib.byteCells_append]; exact h1), h2, h3⟩
theorem Blk.others {w w' : World} {c b : Nat} {vs : List Value} {t : TypeId} (h : Blk w c vs t) (hk : Lib.OthersKept 5 (some b) w w') (hne : c ≠ b) (ht : t ≠ 5) : Blk w' c vs t := hk c _ h (fun e => hne (by injection e)) (fun cs fz e => ht (by injection e))
theorem isB_next {b : Nat} {l : List UInt8} {w w' : World} (hI : IsB b b l w) (hb : Below w.heap.size w w') : IsB b b l w' := isB_grown hI (below_grown hb) (fun r e => by cases e)
theorem others_next {b : Nat} {w w' : World} (hb : Below w.heap.size w w') : Lib.OthersKept 5 (some b) w w' := fun k _ hk _ _ => (hb.block k (Array.getElem?_eq_some_iff.1 hk).1).trans hk
theorem isB_lt {b : Nat} {l : List UInt8} {w : World} (hI : IsB b b l w) : b < w.heap.size := by
  rcases hI with ⟨_, v, h, _⟩ | ⟨_, v, h, _⟩ <;> exact (Array.getElem?_eq_some_iff.1 h).1

set_option maxRecDepth 100000 in
set_option maxHeartbeats 1600000 in
theorem laytext_any (b : Nat) (l s : List UInt8) (w : World) (hI : IsB b b l w) (hs : s.length ≤ 100) (hl : l.length ≤ 5000) : Calls Tryz.prog 22 #[.string (bs s), .pointer (some ⟨b, 0, none⟩)] w fun e w' => e = .returned (.tuple #[]) ∧ IsB b b (l ++ layT s) w' ∧ Below b w w' ∧ Lib.OthersKept 5 (some b) w w' := by
  have hss : (bs s).size = s.length := bs_size s
  have HPK : Hid (∀ w, Calls Tryz.prog 24 #[.int .u64 ((bs s).size : Int)] w fun e w' => e = .returned (.string (bs (pack s.length))) ∧ Below w.heap.size w w') := hide (fun w => by
    have h := pack_any (s.length : Int) w (by omega) (by omega)
    rw [Int.toNat_natCast] at h
    rw [hss]
    exact h)
  have hpl := pack_length_le s.length
  have HW := hide (fun (l s : List UInt8) (w : World) (hI : IsB b b l w) (hl : l.length + s.length ≤ 1000000) (hb : b ≤ w.heap.size) => bld_write b l s w hI hl hb)
  have HW1 := hide (fun (w : World) (hI : IsB b b l w) => HW.out l (pack s.length) w hI (by omega) (Nat.le_of_lt (isB_lt hI)))
  have HW2 := hide (fun (w : World) (hI : IsB b b (l ++ pack s.length) w) => HW.out (l ++ pack s.length) s w hI (by rw [List.length_append]; omega) (Nat.le_of_lt (isB_lt hI)))
  have hll : l ++ pack s.length ++ s = l ++ layT s := by unfold layT; rw [List.append_assoc]
  rw [hll] at HW2
  have HII := hide hI
  have hlt := isB_lt hI
  obtain ⟨pk, hpk⟩ : ∃ z, bs (pack s.length) = z := ⟨_, rfl⟩
  obtain ⟨sv, hsv⟩ : ∃ z, bs s = z := ⟨_, rfl⟩
  rw [hpk] at HPK HW1
  rw [hsv] at HPK HW2 hss ⊢
  have hwr : IntKind.u64.wrap (sv.size : Int) = (sv.size : Int) := by rw [IntKind.wrap_u64]; omega
  clear hI hpk hsv hll hpl HW hs hl hss
  go_enter Tryz.func22, Tryz.ntmps22
  go_wp2_with fail
  refine (HPK.out _).mono ?_
  rintro e w1 ⟨rfl, hb1⟩
  have I1 := hide (isB_next HII.out hb1)
  have o1 := others_next (b := b) hb1
  have k1 := hb1.mono (Nat.le_of_lt hlt)
  have O1 := hide (And.intro k1 o1)
  clear hb1 o1 k1 HII HPK
  go_wp2_with fail
  refine (HW1.out _ I1.out).mono ?_
  rintro e w2 ⟨⟨v2, rfl⟩, hI2, k2, o2⟩
  have I2 := hide hI2
  have O2 := hide (And.intro (O1.out.1.trans k2) (O1.out.2.trans o2))
  clear hI2 k2 o2 I1 O1 HW1
  go_wp2_with fail
  refine (HW2.out _ I2.out).mono ?_
  rintro e w3 ⟨⟨v3, rfl⟩, hI3, k3, o3⟩
  go_wp2_with fail
  go_end0
  exact ⟨rfl, hI3, O2.out.1.trans k3, O2.out.2.trans o3⟩

/-- The octets up to the fields. -/
def layH (e : Ev) : List UInt8 := layT e.topic ++ layT e.prod ++ pack e.seq ++ pack e.l.length
theorem layE_eq (e : Ev) : layE e = layH e ++ layFs e.l := by
  unfold layE layH
  simp only [List.append_assoc]

set_option maxRecDepth 100000 in
set_option maxHeartbeats 12800000 in
theorem evlay_any (e : Ev) (a : Option Addr) (n c : Nat) (w : World) (hf : Fds w a n e.l) (hnc : n ≤ c ∧ c ≤ 9223372036854775807) (hin : e.In) (hv : Vars w) :
    Calls Tryz.prog 5 #[.agg #[.string (bs e.topic), .string (bs e.prod), .int .u64 (e.seq : Int), .slice a n c]] w fun x w' => ((mayE e = true ∧ x = .returned (.tuple #[.string (bs (layE e)), .int .i64 0])) ∨ (mayE e = false ∧ x = .returned (.tuple #[.string ⟨#[]⟩, .int .i64 1]))) ∧ Below w.heap.size w w' := by
  have HMY := hide (fun (w : World) (hf : Fds w a n e.l) (hv : Vars w) => evmay_any e a n c w hf hnc hin hv)
  have HFD := hide hf
  have HV := hide hv
  have hln := hf.len
  cases hmay : mayE e with
  | false =>
    rw [hmay] at HMY
    obtain ⟨tv, htv⟩ : ∃ z, bs e.topic = z := ⟨_, rfl⟩
    obtain ⟨pv, hpv⟩ : ∃ z, bs e.prod = z := ⟨_, rfl⟩
    obtain ⟨sq, hsq⟩ : ∃ z, e.seq = z := ⟨_, rfl⟩
    rw [htv, hpv, hsq] at HMY ⊢
    have hb : Below w.heap.size w (w.alloc (.cells #[.string tv, .string pv, .int .u64 (sq : Int), .slice a n c] 37)) := (Below.refl _ _).alloc (Nat.le_refl _) _
    have hB := Blk.new w [.string tv, .string pv, .int .u64 (sq : Int), .slice a n c] 37
    obtain ⟨p0, p1, p2, p3, p4, p5, p6, p7⟩ := hB.four
    have HB := hide hb
    clear hf hv hB htv hpv hsq hb hin hnc hmay hln
    go_enter Tryz.func5, Tryz.ntmps5
    go_wp2_with fail
    refine (HMY.out _ (HFD.out.below HB.out) (HV.out.next HB.out)).mono ?_
    rintro x w2 ⟨rfl, hb2⟩
    go_wp2_with fail
    exact bodyPost_ret (v := .tuple #[.string ⟨#[]⟩, .int .i64 1]) (by simp [results, Tryz.results5, go_sem]) rfl ⟨.inr ⟨trivial, rfl⟩, chain HB.out hb2⟩
  | true =>
    rw [hmay] at HMY
    have hm := hmay
    unfold mayE at hm
    simp only [Bool.and_eq_true, decide_eq_true_eq] at hm
    obtain ⟨⟨⟨⟨m1, m2⟩, m3⟩, m4⟩, m5⟩ := hm
    have t1 := topicB_length m1
    have t2 := fieldB_length m2
    have hLEN := hide (fun k (hk : k ≤ e.l.length) => layFs_length e.l k hk (fdsB_le e.l _ k hk m5))
    have hFDB := hide (fun i (hi : i < e.l.length) => fdsB_at e.l _ m5 i hi)
    have hp1 := pack_length_le e.seq
    have hp2 : (pack e.l.length).length = 1 := by rw [pack_small (by omega)]; rfl
    have hq1 := layT_length (s := e.topic) (by omega)
    have hq2 := layT_length (s := e.prod) (by omega)
    have HTT := hide (fun (b : Nat) (w : World) (hI : IsB b b [] w) => laytext_any b [] e.topic w hI (by omega) (by simp))
    have HTP := hide (fun (b : Nat) (w : World) (hI : IsB b b ([] ++ layT e.topic) w) => laytext_any b ([] ++ layT e.topic) e.prod w hI (by omega) (by rw [List.nil_append]; omega))
    have HW1 := hide (fun (b : Nat) (w : World) (hI : IsB b b ([] ++ layT e.topic ++ layT e.prod) w) => bld_write b ([] ++ layT e.topic ++ layT e.prod) (pack e.seq) w hI (by simp only [List.nil_append, List.length_append]; omega) (Nat.le_of_lt (isB_lt hI)))
    have HW2 := hide (fun (b : Nat) (w : World) (hI : IsB b b ([] ++ layT e.topic ++ layT e.prod ++ pack e.seq) w) => bld_write b ([] ++ layT e.topic ++ layT e.prod ++ pack e.seq) (pack e.l.length) w hI (by simp only [List.nil_append, List.length_append]; omega) (Nat.le_of_lt (isB_lt hI)))
    have hH : [] ++ layT e.topic ++ layT e.prod ++ pack e.seq ++ pack e.l.length = layH e := by unfold layH; rfl
    rw [hH] at HW2
    have hHl : (layH e).length ≤ 100 := by unfold layH; simp only [List.length_append]; omega
    have HEQ := hide (layE_eq e)
    have HPS : Hid (∀ w, Calls Tryz.prog 24 #[.int .u64 (e.seq : Int)] w fun x w' => x = .returned (.string (bs (pack e.seq))) ∧ Below w.heap.size w w') := hide (fun w => by
      have h := pack_any (e.seq : Int) w (by omega) (by have := hin.seq; omega)
      rw [Int.toNat_natCast] at h
      exact h)
    have HPL : Hid (∀ w, Calls Tryz.prog 24 #[.int .u64 (n : Int)] w fun x w' => x = .returned (.string (bs (pack e.l.length))) ∧ Below w.heap.size w w') := hide (fun w => by
      have h := pack_any (n : Int) w (by omega) (by omega)
      rw [Int.toNat_natCast, ← hln] at h
      rw [← hln]
      exact h)
    have HNAME := hide (fun (i : Nat) (hi : i < e.l.length) (b : Nat) (l : List UInt8) (w : World) (hI : IsB b b l w) (hl : l.length ≤ 1000) => laytext_any b l (e.l.getD i .zero).name w hI (by
      have h := hFDB.out i hi
      unfold fdB at h
      simp only [Bool.and_eq_true] at h
      have := fieldB_length h.1.1
      omega) (by omega))
    have HVAL := hide (fun (i : Nat) (hi : i < e.l.length) (w : World) (hin : (e.l.getD i .zero).In) => vlay_any (e.l.getD i .zero) w hin (by
      have h := hFDB.out i hi
      unfold fdB at h
      simp only [Bool.and_eq_true] at h
      exact h.1.2))
    have HTAKE := hide (fun (i : Nat) (hi : i < e.l.length) => layFs_take e.l i hi)
    have HVL := hide (fun (i : Nat) (hi : i < e.l.length) => layV_length (f := e.l.getD i .zero) (by
      have h := hFDB.out i hi
      unfold fdB at h
      simp only [Bool.and_eq_true] at h
      exact h.1.2))
    have HNL := hide (fun (i : Nat) (hi : i < e.l.length) => layT_length (s := (e.l.getD i .zero).name) (by
      have h := hFDB.out i hi
      unfold fdB at h
      simp only [Bool.and_eq_true] at h
      have := fieldB_length h.1.1
      omega))
    have HN16 := hide (fun (i : Nat) (hi : i < e.l.length) => show (e.l.getD i .zero).name.length ≤ 16 by
      have h := hFDB.out i hi
      unfold fdB at h
      simp only [Bool.and_eq_true] at h
      exact fieldB_length h.1.1)
    have hn8 : n ≤ 8 := by omega
    obtain ⟨tv, htv⟩ : ∃ z, bs e.topic = z := ⟨_, rfl⟩
    obtain ⟨pv, hpv⟩ : ∃ z, bs e.prod = z := ⟨_, rfl⟩
    obtain ⟨sq, hsq⟩ : ∃ z, (e.seq : Int) = z := ⟨_, rfl⟩
    obtain ⟨ps, hps⟩ : ∃ z, bs (pack e.seq) = z := ⟨_, rfl⟩
    obtain ⟨pl, hpl⟩ : ∃ z, bs (pack e.l.length) = z := ⟨_, rfl⟩
    rw [htv] at HMY HTT ⊢
    rw [hpv] at HMY HTP ⊢
    rw [hsq] at HMY HPS ⊢
    rw [hps] at HPS HW1
    rw [hpl] at HPL HW2
    have hwr : IntKind.u64.wrap (n : Int) = (n : Int) := by rw [IntKind.wrap_u64]; omega
    obtain ⟨G1, hG1⟩ : ∃ z, [] ++ layT e.topic = z := ⟨_, rfl⟩
    rw [hG1] at HTP HW1 HW2
    have HTT2 : Hid (∀ (b : Nat) (w : World), IsB b b [] w → Calls Tryz.prog 22 #[.string tv, .pointer (some ⟨b, 0, none⟩)] w fun e w' => e = .returned (.tuple #[]) ∧ IsB b b G1 w' ∧ Below b w w' ∧ Lib.OthersKept 5 (some b) w w') := hide (fun b w hI => by rw [← hG1]; exact HTT.out b w hI)
    clear HTT
    obtain ⟨G2, hG2⟩ : ∃ z, G1 ++ layT e.prod = z := ⟨_, rfl⟩
    rw [hG2] at HTP HW1 HW2
    obtain ⟨G3, hG3⟩ : ∃ z, G2 ++ pack e.seq = z := ⟨_, rfl⟩
    rw [hG3] at HW1 HW2
    clear hf hv htv hpv hsq hps hpl hG1 hG2 hG3 hH hmay m1 m2 m3 m4 m5 t1 t2 hp1 hp2 hq1 hq2 hin
    have hb : Below w.heap.size w (w.alloc (.cells #[.string tv, .string pv, .int .u64 sq, .slice a n c] 37)) := (Below.refl _ _).alloc (Nat.le_refl _) _
    have hB := Blk.new w [.string tv, .string pv, .int .u64 sq, .slice a n c] 37
    obtain ⟨W0, hW0⟩ : ∃ z, w.alloc (.cells #[.string tv, .string pv, .int .u64 sq, .slice a n c] 37) = z := ⟨_, rfl⟩
    rw [hW0] at hb
    have C1 : Blk W0 w.heap.size [.string tv, .string pv, .int .u64 sq, .slice a n c] 37 := by rw [← hW0]; exact hB
    go_enter Tryz.func5, Tryz.ntmps5
    go_upto_region 1 with fail
    try rw [hW0]
    clear hW0 hB
    obtain ⟨b1, hb1⟩ : ∃ z, w.heap.size = z := ⟨_, rfl⟩
    rw [hb1] at C1 ⊢
    have HB1 := hide hb1
    clear hb1
    obtain ⟨p0, p1, p2, p3, p4, p5, p6, p7⟩ := C1.four
    go_wp2_with fail
    refine (HMY.out _ (HFD.out.below hb) (HV.out.next hb)).mono ?_
    rintro x w2 ⟨rfl, hb2⟩
    have D1 := C1.next hb2
    have hb3 := chain hb hb2
    clear p0 p1 p2 p3 p4 p5 p6 p7 C1 hb hb2 HMY
    go_upto_region 4 with fail
    have hI0 : IsB w2.heap.size w2.heap.size [] (w2.alloc (.cells #[.pointer none, .slice none 0 0] 70)) := .inl ⟨Nat.le_refl _, .slice none 0 0, World.alloc_heap_new w2 _, World.ownsRowF_nil _ _ _ _, by simp [Value.ownBlock]⟩
    have hal : Below w2.heap.size w2 (w2.alloc (.cells #[.pointer none, .slice none 0 0] 70)) := (Below.refl _ _).alloc (Nat.le_refl _) _
    obtain ⟨W3, hW3⟩ : ∃ z, w2.alloc (.cells #[.pointer none, .slice none 0 0] 70) = z := ⟨_, rfl⟩
    rw [hW3] at hI0 hal ⊢
    have h14 := D1.lt
    have E1 := hide (D1.next hal)
    have hb4' := chain hb3 hal
    have hs2 : w.heap.size ≤ w2.heap.size := hb3.size
    clear hW3 hal D1 hb3
    obtain ⟨b4, hb4⟩ : ∃ z, w2.heap.size = z := ⟨_, rfl⟩
    rw [hb4] at hI0 h14 hs2 ⊢
    have hI0' := hide hI0
    have hmf : ∀ (fn : Fn) (first cap : Array Value) (w : World), (Instr.makeFunc fn first cap).run Tryz.prog w = .ok (.func fn first cap) w := fun _ _ _ _ => rfl
    clear hb4 hI0
    have hne14 : b1 ≠ b4 := by omega
    obtain ⟨p0, p1, p2, p3, p4, p5, p6, p7⟩ := E1.out.four
    go_wp2_with fail
    refine (HTT2.out _ _ hI0'.out).mono ?_
    rintro x w5 ⟨rfl, hI, hk, ho⟩
    have I5 := hide hI
    have E5 := hide (E1.out.others ho hne14 (by decide))
    have hb5 := hb4'.trans (hk.mono hs2)
    clear hI hk ho hI0' E1 hb4' p0 p1 p2 p3 p4 p5 p6 p7 HTT2
    obtain ⟨p0, p1, p2, p3, p4, p5, p6, p7⟩ := E5.out.four
    go_wp2_with fail
    refine (HTP.out _ _ I5.out).mono ?_
    rintro x w6 ⟨rfl, hI, hk, ho⟩
    have I6 := hide hI
    have E6 := hide (E5.out.others ho hne14 (by decide))
    have hb6 := hb5.trans (hk.mono hs2)
    clear hI hk ho I5 E5 hb5 p0 p1 p2 p3 p4 p5 p6 p7 HTP
    obtain ⟨p0, p1, p2, p3, p4, p5, p6, p7⟩ := E6.out.four
    go_wp2_with fail
    refine (HPS.out _).mono ?_
    rintro x w7 ⟨rfl, hb⟩
    have I7 := hide (isB_next I6.out hb)
    have E7 := hide (E6.out.next hb)
    have hb7 := chain hb6 hb
    clear hb I6 E6 hb6 p0 p1 p2 p3 p4 p5 p6 p7 HPS
    go_wp2_with fail
    refine (HW1.out _ _ I7.out).mono ?_
    rintro x w8 ⟨⟨v8, rfl⟩, hI, hk, ho⟩
    have I8 := hide hI
    have E8 := hide (E7.out.others ho hne14 (by decide))
    have hb8 := hb7.trans (hk.mono hs2)
    clear hI hk ho I7 E7 hb7 HW1
    obtain ⟨p0, p1, p2, p3, p4, p5, p6, p7⟩ := E8.out.four
    go_wp2_with fail
    refine (HPL.out _).mono ?_
    rintro x w9 ⟨rfl, hb⟩
    have I9 := hide (isB_next I8.out hb)
    have E9 := hide (E8.out.next hb)
    have hb9 := chain hb8 hb
    clear hb I8 E8 hb8 p0 p1 p2 p3 p4 p5 p6 p7 HPL
    go_wp2_with fail
    refine (HW2.out _ _ I9.out).mono ?_
    rintro x wa ⟨⟨v9, rfl⟩, hI, hk, ho⟩
    have Ia := hide hI
    have Ea := hide (E9.out.others ho hne14 (by decide))
    have hba := hb9.trans (hk.mono hs2)
    clear hI hk ho I9 E9 hb9 HW2
    obtain ⟨p0, p1, p2, p3, p4, p5, p6, p7⟩ := Ea.out.four
    go_wp2_with fail
    clear p0 p1 p2 p3 p4 p5 p6 p7
    have hLen : e.l.length = n := hln
    obtain ⟨L, hL⟩ : ∃ z, e.l = z := ⟨_, rfl⟩
    rw [hL] at HFD HNAME HVAL HTAKE HVL HNL HN16 hLEN hLen HEQ
    rw [hLen] at HNAME HVAL HTAKE HVL HNL HN16 hLEN
    obtain ⟨hd, hhd⟩ : ∃ z, layH e = z := ⟨_, rfl⟩
    rw [hhd] at Ia hHl HEQ
    clear hL hln hhd hFDB
    go_loopw [35] (fun s35 wr => ∃ i : Nat, i ≤ n ∧ s35 = .int .i64 (i : Int) ∧ Hid (IsB b4 b4 (hd ++ layFs (L.take i)) wr) ∧ Hid (Blk wr b1 [.string tv, .string pv, .int .u64 sq, .slice a n c] 37) ∧ Below w.heap.size w wr) (fun s35 _ => n - (intOf s35).toNat)
    case atStart => exact ⟨0, Nat.zero_le _, rfl, hide (by simpa [layFs] using Ia.out), Ea, hba⟩
    case round =>
      obtain ⟨i, hin, rfl, hI, hE, hbw⟩ := hrel
      clear Ia Ea hba
      by_cases hlt : i < n
      · obtain ⟨bx, ox, hlx, hix, x0, x1, x2, x3, hfi⟩ := (HFD.out.below hbw).at c i hlt
        have hln' := hLEN.out i (Nat.le_of_lt hlt)
        have hvl := HVL.out i hlt
        have hnl := HNL.out i hlt
        have HNi := hide (fun (w : World) (hI : IsB b4 b4 (hd ++ layFs (L.take i)) w) => HNAME.out i hlt b4 (hd ++ layFs (L.take i)) w hI (by rw [List.length_append]; omega))
        have HVi := hide (fun (w : World) => HVAL.out i hlt w hfi)
        have hnl16 : (layT (L.getD i .zero).name).length ≤ 200 := by have := HN16.out i hlt; omega
        have HWi := hide (fun (w : World) (hI : IsB b4 b4 (hd ++ layFs (L.take i) ++ layT (L.getD i .zero).name) w) => bld_write b4 (hd ++ layFs (L.take i) ++ layT (L.getD i .zero).name) (layV (L.getD i .zero)) w hI (by simp only [List.length_append]; omega) (Nat.le_of_lt (isB_lt hI)))
        have hnext : hd ++ layFs (L.take i) ++ layT (L.getD i .zero).name ++ layV (L.getD i .zero) = hd ++ layFs (L.take (i + 1)) := by
          rw [HTAKE.out i hlt]
          unfold layF
          simp only [List.append_assoc]
        rw [hnext] at HWi
        have hlti : (i : Int) < (n : Int) := by omega
        obtain ⟨fnum, hfnum⟩ : ∃ z, (L.getD i .zero).num = z := ⟨_, rfl⟩
        obtain ⟨fn, hfn⟩ : ∃ z, (L.getD i .zero).n = z := ⟨_, rfl⟩
        obtain ⟨sv, hsv⟩ : ∃ z, bs (L.getD i .zero).s = z := ⟨_, rfl⟩
        obtain ⟨nv, hnv⟩ : ∃ z, bs (L.getD i .zero).name = z := ⟨_, rfl⟩
        obtain ⟨lv, hlv⟩ : ∃ z, bs (layV (L.getD i .zero)) = z := ⟨_, rfl⟩
        rw [hnv] at HNi x0
        rw [hfnum, hfn, hsv, hlv] at HVi
        rw [hlv] at HWi
        rw [hfnum] at x1
        rw [hfn] at x2
        rw [hsv] at x3
        clear hfnum hfn hsv hnv hlv hnext hfi hvl hnl hnl16 hln'
        have hal : Below wr.heap.size wr (wr.alloc (.cells #[.string nv, .bool fnum, .int .i64 fn, .string sv] 80)) := (Below.refl _ _).alloc (Nat.le_refl _) _
        have hFB := Blk.new wr [.string nv, .bool fnum, .int .i64 fn, .string sv] 80
        obtain ⟨W1, hW1⟩ : ∃ z, wr.alloc (.cells #[.string nv, .bool fnum, .int .i64 fn, .string sv] 80) = z := ⟨_, rfl⟩
        rw [hW1] at hal
        have F7 : Blk W1 wr.heap.size [.string nv, .bool fnum, .int .i64 fn, .string sv] 80 := by rw [← hW1]; exact hFB
        have I1 := hide (isB_next hI.out hal)
        have E1 := hide (hE.out.next hal)
        have hbx := chain hbw hal
        have hlt4 := isB_lt hI.out
        clear hFB hI hE hbw
        go_upto_region 12 with fail
        try rw [hW1]
        clear hW1
        obtain ⟨b7, hb7⟩ : ∃ z, wr.heap.size = z := ⟨_, rfl⟩
        rw [hb7] at F7 hlt4 ⊢
        have hne47 : b7 ≠ b4 := by omega
        clear hb7 x0 x1 x2 x3 hix hal
        obtain ⟨p0, p1, p2, p3, p4, p5, p6, p7⟩ := F7.four
        go_wp2_with fail
        refine (HNi.out _ I1.out).mono ?_
        rintro x wb ⟨rfl, hI, hk, ho⟩
        have I2 := hide hI
        have E2 := hide (E1.out.others ho hne14 (by decide))
        have F2 := F7.others ho hne47 (by decide)
        have hby := hbx.trans (hk.mono hs2)
        clear hI hk ho I1 E1 hbx p0 p1 p2 p3 p4 p5 p6 p7 HNi F7
        obtain ⟨p0, p1, p2, p3, p4, p5, p6, p7⟩ := F2.four
        go_wp2_with fail
        refine (HVi.out _).mono ?_
        rintro x wd ⟨rfl, hb⟩
        have I3 := hide (isB_next I2.out hb)
        have E3 := hide (E2.out.next hb)
        have hbz := chain hby hb
        clear hb I2 E2 hby p0 p1 p2 p3 p4 p5 p6 p7 HVi F2
        go_wp2_with fail
        refine (HWi.out _ I3.out).mono ?_
        rintro x we ⟨⟨v9, rfl⟩, hI, hk, ho⟩
        have I4 := hide hI
        have E4 := hide (E3.out.others ho hne14 (by decide))
        have hbv := hbz.trans (hk.mono hs2)
        clear hI hk ho I3 E3 hbz HWi
        go_wp2_with fail
        go_roundw
        case rel => exact ⟨i + 1, by omega, by go_num, I4, E4, hbv⟩
        case measure => simp [intOf]; omega
      · obtain rfl : i = n := by omega
        have hfull : L.take L.length = L := List.take_length
        rw [hLen] at hfull
        rw [hfull, ← HEQ.out] at hI
        have hbb : b4 ≤ wr.heap.size := Nat.le_of_lt (isB_lt hI.out)
        go_wp2_with fail
        refine (Tryz.Builder_String_any_k b4 b4 (layE e) wr hI.out hbb).mono ?_
        rintro x wb ⟨rfl, _, hk, _⟩
        have hbv := hbw.trans (hk.mono hs2)
        go_wp2_with fail
        exact bodyPost_ret (v := .tuple #[.string (bs (layE e)), .int .i64 0]) (by simp [results, Tryz.results5, go_sem, bs]) rfl ⟨.inl ⟨trivial, rfl⟩, hbv⟩

end Go.Proofs.YtogonkoeginoaaaGreatDoor

namespace Go.Proofs.YtogonkoeginoaaaGreatDoor
open Go.RowKit

/-- An octet of a string. -/
theorem bs_getx (l : List UInt8) (i : Nat) (h : i < (bs l).size) : (bs l)[i] = l.getD i 0 := by
  have h2 : i < l.length := h
  rw [List.getD_eq_getElem?_getD, List.getElem?_eq_getElem h2]
  rfl
theorem idx_at (l : List UInt8) (i : Nat) (h : i < l.length) (w : World) : (Instr.index 9 (.string (bs l)) (.int .i64 (i : Int))).run Tryz.prog w = .ok (.int .u8 ((l.getD i 0).toNat : Int)) w := by
  rw [run_index_string _ _ _ _ _ (by kernel_rfl), dif_pos ⟨by omega, by rw [bs_size]; omega⟩]
  simp only [Int.toNat_natCast]
  rw [bs_getx]
theorem slice_from (l : List UInt8) (k : Nat) : (bs l).extract k (bs l).size = bs (l.drop k) := by
  rw [bs_slice, bs_size, List.take_of_length_le (by rw [List.length_drop]; omega)]
theorem slice_mid (l : List UInt8) (k n : Nat) : (bs l).extract k (k + n) = bs ((l.drop k).take n) := by
  rw [bs_slice, Nat.add_sub_cancel_left]

theorem unpack_at (m : Nat) (r : List UInt8) (w : World) (hm : m < 18446744073709551616) (hl : (pack m ++ r).length ≤ 1000000) : Calls Tryz.prog 66 #[.string (bs (pack m ++ r))] w fun e w' => e = .returned (.tuple #[.int .u64 (m : Int), .int .i64 ((pack m).length : Int), .int .i64 0]) ∧ w = w' := by
  have h := unpack_any (bs (pack m ++ r)) w (by rw [bs_size]; unfold maxLen; omega)
  rw [bs_data, unpack_pack m r hm] at h
  exact h

set_option maxRecDepth 100000 in
set_option maxHeartbeats 3200000 in
theorem vtake_any (f : Fd) (r : List UInt8) (w : World) (hf : f.In) (hv : valB f = true) (hl : (layV f ++ r).length ≤ 100000) : Calls Tryz.prog 67 #[.string (bs (layV f ++ r))] w fun e w' => e = .returned (.tuple #[.agg #[.bool f.num, .int .i64 f.n, .string (bs f.s)], .int .i64 ((layV f).length : Int), .int .i64 0]) ∧ Below w.heap.size w w' := by
  obtain ⟨nm, num, n, s⟩ := f
  obtain ⟨⟨h1, h2⟩, h3, h4⟩ := hf
  simp only at h1 h2 h3 h4
  have hfr := foldN_range n h1 h2
  have hvB := hv
  unfold valB at hvB
  simp only at hvB
  have hvl := layV_length hv
  have hb : Below w.heap.size w (w.alloc (.cells #[.bool false, .int .i64 0, .string ⟨#[]⟩] 78)) := (Below.refl _ _).alloc (Nat.le_refl _) _
  have hB := Blk.new w [.bool false, .int .i64 0, .string ⟨#[]⟩] 78
  cases num with
  | true =>
    have hs0 : s = [] := by simpa using hvB
    subst hs0
    have hX : layV ⟨nm, true, n, []⟩ ++ r = 1 :: (pack (foldN n).toNat ++ r) := rfl
    have hlen : (layV ⟨nm, true, n, []⟩).length = (pack (foldN n).toNat).length + 1 := rfl
    rw [hX] at hl ⊢
    have hpl := pack_length_le (foldN n).toNat
    have HU := hide (fun w => unpack_at (foldN n).toNat r w (by omega) (by simp only [List.length_cons] at hl; omega))
    have HUF : Hid (∀ w, Calls Tryz.prog 89 #[.int .u64 (((foldN n).toNat : Nat) : Int)] w fun e w' => e = .returned (.int .i64 n) ∧ w = w') := hide (fun w => by
      have h := unfold_any (foldN n) w hfr.1 hfr.2
      rw [unfold_foldN] at h
      rw [Int.toNat_of_nonneg hfr.1]
      exact h)
    have hI0 : ∀ wz : World, (Instr.index 9 (.string (bs (1 :: (pack (foldN n).toNat ++ r)))) (.int .i64 0)).run Tryz.prog wz = .ok (.int .u8 1) wz := fun wz => idx_at (1 :: (pack (foldN n).toNat ++ r)) 0 (by simp) wz
    have hx := slice_from (1 :: (pack (foldN n).toNat ++ r)) 1
    rw [List.drop_succ_cons, List.drop_zero] at hx
    have hsz : (bs (1 :: (pack (foldN n).toNat ++ r))).size = (pack (foldN n).toNat ++ r).length + 1 := by rw [bs_size, List.length_cons]
    have hem : (bs (1 :: (pack (foldN n).toNat ++ r))).toList.isEmpty = false := by rw [ByteArray.toList_eq]; rfl
    obtain ⟨fo, hfo⟩ : ∃ z, (foldN n).toNat = z := ⟨_, rfl⟩
    rw [hfo] at HU HUF hI0 hx hsz hem hl hlen hpl ⊢
    obtain ⟨sv, hsv⟩ : ∃ z, bs (1 :: (pack fo ++ r)) = z := ⟨_, rfl⟩
    obtain ⟨xv, hxv⟩ : ∃ z, bs (pack fo ++ r) = z := ⟨_, rfl⟩
    obtain ⟨k, hk⟩ : ∃ z, (pack fo).length = z := ⟨_, rfl⟩
    rw [hsv] at hI0 hx hsz hem ⊢
    rw [hxv] at HU hx
    rw [hk] at HU hlen hpl
    have h1s : (1 : Int) ≤ (sv.size : Int) := by omega
    have hRES : ((layV ⟨nm, true, n, []⟩).length : Int) = (k : Int) + 1 := by omega
    rw [hRES]
    clear hv hvB hX hlen hfr hfo hsv hxv hk hsz hl hvl hRES h1 h2 h3 h4
    obtain ⟨W0, hW0⟩ : ∃ z, w.alloc (.cells #[.bool false, .int .i64 0, .string ⟨#[]⟩] 78) = z := ⟨_, rfl⟩
    rw [hW0] at hb
    have C2 : Blk W0 w.heap.size [.bool false, .int .i64 0, .string ⟨#[]⟩] 78 := by rw [← hW0]; exact hB
    go_enter Tryz.func67, Tryz.ntmps67
    go_upto_region 1 with fail
    try rw [hW0]
    clear hW0 hB
    obtain ⟨b2, hb2⟩ : ∃ z, w.heap.size = z := ⟨_, rfl⟩
    rw [hb2] at C2 ⊢
    have hle : w.heap.size ≤ b2 := by omega
    clear hb2
    obtain ⟨p0, p1, p2, p3, p4, p5⟩ := C2.three'
    go_wp2_with fail
    refine (HU.out _).mono ?_
    rintro e w2 ⟨rfl, rfl⟩
    go_wp2_with fail
    refine (HUF.out _).mono ?_
    rintro e w3 ⟨rfl, rfl⟩
    go_wp2_with fail
    exact bodyPost_ret (v := .tuple #[.agg #[.bool true, .int .i64 n, .string ⟨#[]⟩], .int .i64 ((k : Int) + 1), .int .i64 0]) (by simp [results, Tryz.results67, go_sem, p0, p1, p2]) rfl ⟨rfl, ((hb.setCell (p := ⟨b2, 0, none⟩) hle _).setCell (p := ⟨b2, 1, none⟩) hle _).setCell (p := ⟨b2, 2, none⟩) hle _⟩
  | false =>
    rw [if_neg (by simp), decide_eq_true_eq] at hvB
    obtain ⟨hn0, hs60⟩ := hvB
    subst hn0
    have hX : layV ⟨nm, false, 0, s⟩ ++ r = 2 :: (pack s.length ++ (s ++ r)) := by
      show (2 :: layT s) ++ r = _
      unfold layT
      simp only [List.cons_append, List.append_assoc]
    have hlen : (layV ⟨nm, false, 0, s⟩).length = (pack s.length).length + 1 + s.length := by
      show (2 :: layT s).length = _
      unfold layT
      rw [List.length_cons, List.length_append]
      omega
    rw [hX] at hl ⊢
    have hpl := pack_length_le s.length
    have hppos := pack_length_pos s.length
    have HU := hide (fun w => unpack_at s.length (s ++ r) w (by omega) (by simp only [List.length_cons] at hl; omega))
    have hI0 : ∀ wz : World, (Instr.index 9 (.string (bs (2 :: (pack s.length ++ (s ++ r))))) (.int .i64 0)).run Tryz.prog wz = .ok (.int .u8 2) wz := fun wz => idx_at (2 :: (pack s.length ++ (s ++ r))) 0 (by simp) wz
    have hx := slice_from (2 :: (pack s.length ++ (s ++ r))) 1
    rw [List.drop_succ_cons, List.drop_zero] at hx
    have hx2 : (bs (2 :: (pack s.length ++ (s ++ r)))).extract ((pack s.length).length + 1) ((pack s.length).length + 1 + s.length) = bs s := by
      rw [slice_mid, show 2 :: (pack s.length ++ (s ++ r)) = (2 :: pack s.length) ++ (s ++ r) from rfl, List.drop_left' (by rw [List.length_cons]), List.take_left' rfl]
    have hsz : (bs (2 :: (pack s.length ++ (s ++ r)))).size = (pack s.length).length + 1 + s.length + r.length := by rw [bs_size, List.length_cons, List.length_append, List.length_append]; omega
    have hem : (bs (2 :: (pack s.length ++ (s ++ r)))).toList.isEmpty = false := by rw [ByteArray.toList_eq]; rfl
    obtain ⟨sl, hsl⟩ : ∃ z, s.length = z := ⟨_, rfl⟩
    rw [hsl] at HU hI0 hx hx2 hsz hem hl hlen hpl hs60 ⊢
    obtain ⟨sv, hsv⟩ : ∃ z, bs (2 :: (pack sl ++ (s ++ r))) = z := ⟨_, rfl⟩
    obtain ⟨xv, hxv⟩ : ∃ z, bs (pack sl ++ (s ++ r)) = z := ⟨_, rfl⟩
    obtain ⟨k, hk⟩ : ∃ z, (pack sl).length = z := ⟨_, rfl⟩
    obtain ⟨tv, htv⟩ : ∃ z, bs s = z := ⟨_, rfl⟩
    rw [hsv] at hI0 hx hx2 hsz hem ⊢
    rw [hxv] at HU hx
    rw [hk] at HU hlen hpl hx2 hsz
    rw [htv] at hx2 ⊢
    have h1s : (1 : Int) ≤ (sv.size : Int) := by omega
    have hb1 : (k : Int) + 1 + (sl : Int) ≤ (sv.size : Int) := by omega
    have hb2' : ¬ (sv.size : Int) < (k : Int) + 1 + (sl : Int) := by omega
    have hb3 : ¬ (60 : Int) < (sl : Int) := by omega
    have hwr : IntKind.i64.wrap (sl : Int) = (sl : Int) := IntWalk.i64_in _ (by omega)
    have hRES : ((layV ⟨nm, false, 0, s⟩).length : Int) = (k : Int) + 1 + (sl : Int) := by omega
    rw [hRES]
    have hk10 : k ≤ 10 := hpl
    clear hv hX hlen hfr hsv hxv hk hsz hl hvl hRES hsl htv hpl hppos h1 h2 h3 h4
    obtain ⟨W0, hW0⟩ : ∃ z, w.alloc (.cells #[.bool false, .int .i64 0, .string ⟨#[]⟩] 78) = z := ⟨_, rfl⟩
    rw [hW0] at hb
    have C2 : Blk W0 w.heap.size [.bool false, .int .i64 0, .string ⟨#[]⟩] 78 := by rw [← hW0]; exact hB
    go_enter Tryz.func67, Tryz.ntmps67
    go_upto_region 1 with fail
    try rw [hW0]
    clear hW0 hB
    obtain ⟨b2, hb2⟩ : ∃ z, w.heap.size = z := ⟨_, rfl⟩
    rw [hb2] at C2 ⊢
    have hle : w.heap.size ≤ b2 := by omega
    clear hb2
    obtain ⟨p0, p1, p2, p3, p4, p5⟩ := C2.three'
    go_wp2_with fail
    refine (HU.out _).mono ?_
    rintro e w2 ⟨rfl, rfl⟩
    go_wp2_with fail
    exact bodyPost_ret (v := .tuple #[.agg #[.bool false, .int .i64 0, .string tv], .int .i64 ((k : Int) + 1 + (sl : Int)), .int .i64 0]) (by simp [results, Tryz.results67, go_sem, p0, p1, p2]) rfl ⟨rfl, ((hb.setCell (p := ⟨b2, 0, none⟩) hle _).setCell (p := ⟨b2, 1, none⟩) hle _).setCell (p := ⟨b2, 2, none⟩) hle _⟩

end Go.Proofs.YtogonkoeginoaaaGreatDoor

namespace Go.Proofs.YtogonkoeginoaaaGreatDoor
open Go.RowKit

def rdC (S : List UInt8) (a : Nat) : List Value := [.string (bs S), .int .i64 (a : Int), .int .i64 0]
theorem quiet_now {P : Program} {f : FuncId} {args : Array Value} {w : World} {n : Nat} {v : Value} (h : Calls P f args (w.drewN n) fun e w' => e = .returned v ∧ w.drewN n = w') : Calls P f args (w.drewN n) fun e w'' => e = .returned v ∧ ∃ m, w'' = w.drewN m :=
  Go.Calls.quiet_of_same (h.mono fun _ _ ⟨a, b⟩ => ⟨a, b.symm⟩)
theorem drewN_below (w : World) (n : Nat) : Below w.heap.size w (w.drewN n) := ⟨rfl, rfl, rfl, Nat.le_refl _, fun _ _ => rfl⟩

set_option maxRecDepth 100000 in
set_option maxHeartbeats 3200000 in
theorem number_any (b : Nat) (S p r : List UInt8) (m most : Nat) (w : World) (h : Blk w b (rdC S p.length) 100) (hS : S = p ++ (pack m ++ r)) (hm : m ≤ most) (hmost : most < 18446744073709551616) (hl : S.length ≤ 100000) :
    Calls Tryz.prog 41 #[.pointer (some ⟨b, 0, none⟩), .int .u64 (most : Int)] w fun e w' => e = .returned (.int .u64 (m : Int)) ∧ Blk w' b (rdC S (p ++ pack m).length) 100 ∧ w.grownBy w' (some b) := by
  have hSl : S.length = p.length + (pack m).length + r.length := by rw [hS]; simp only [List.length_append]; omega
  have HU := hide (fun w => unpack_at m r w (by omega) (by rw [List.length_append]; omega))
  have hx : (bs S).extract p.length (bs S).size = bs (pack m ++ r) := by rw [slice_from, hS, List.drop_left' rfl]
  have hsz : (bs S).size = p.length + (pack m).length + r.length := by rw [bs_size, hSl]
  have HH := hide h
  unfold rdC at h
  have hpp : (p ++ pack m).length = p.length + (pack m).length := List.length_append
  rw [hpp]
  obtain ⟨sv, hsv⟩ : ∃ z, bs S = z := ⟨_, rfl⟩
  obtain ⟨xv, hxv⟩ : ∃ z, bs (pack m ++ r) = z := ⟨_, rfl⟩
  obtain ⟨k, hk⟩ : ∃ z, (pack m).length = z := ⟨_, rfl⟩
  obtain ⟨a, ha⟩ : ∃ z, p.length = z := ⟨_, rfl⟩
  rw [hxv] at HU hx
  rw [hk] at HU hSl hsz ⊢
  rw [ha] at h hx hsz hSl ⊢
  rw [hsv] at h hx hsz
  have hle : (a : Int) ≤ (sv.size : Int) := by omega
  have hgt : ¬ (most : Int) < (m : Int) := by omega
  have hbase := h
  obtain ⟨p0, p1, p2, p3, p4, p5⟩ := h.three'
  have hcast : ((a + k : Nat) : Int) = (a : Int) + (k : Int) := by omega
  have hak : a + k ≤ 100000 := by omega
  have HSV := hide hsv
  have HB := hide hbase
  have HCA := hide hcast
  clear h hS hsv hxv hk ha hSl hm hmost hbase hcast HH hl hpp hsz
  go_enter Tryz.func41, Tryz.ntmps41
  go_upto_region 3 with fail
  refine wp_region_quiet_lit (by kernel_rfl) (by kernel_rfl) ?_
  iterate 9 (go_big_quiet_step (fail))
  go_big_quiet_step ((go_at_call 66; exact quiet_now (HU.out _)))
  iterate 7 (go_big_quiet_step (fail))
  refine wpQuiet_nil ?_
  rintro _ ⟨nq, hw''⟩
  subst hw''
  go_wp2_with fail
  go_ret
  have D := HB.out.next (drewN_below w nq)
  refine ⟨rfl, ?_, grown_trans (below_row (drewN_below w nq) _) (grown_setCell _ b 1 _)⟩
  unfold rdC
  rw [HSV.out, HCA.out]
  exact D.set 1 _

set_option maxRecDepth 100000 in
set_option maxHeartbeats 3200000 in
theorem text_any (b : Nat) (S p r t : List UInt8) (most : Nat) (w : World) (h : Blk w b (rdC S p.length) 100) (hS : S = p ++ (layT t ++ r)) (ht : t.length ≤ most) (hmost : most ≤ 100) (hl : S.length ≤ 100000) :
    Calls Tryz.prog 40 #[.pointer (some ⟨b, 0, none⟩), .int .u64 (most : Int)] w fun e w' => e = .returned (.string (bs t)) ∧ Blk w' b (rdC S (p ++ layT t).length) 100 ∧ w.grownBy w' (some b) := by
  have hS2 : S = p ++ (pack t.length ++ (t ++ r)) := by rw [hS]; unfold layT; rw [List.append_assoc]
  have HN := hide (number_any b S p (t ++ r) t.length most w h hS2 ht (by omega) hl)
  have hx : (bs S).extract (p ++ pack t.length).length ((p ++ pack t.length).length + t.length) = bs t := by
    rw [slice_mid, hS2, ← List.append_assoc, List.drop_left' rfl, List.take_left' rfl]
  have hpp : (p ++ layT t).length = (p ++ pack t.length).length + t.length := by unfold layT; simp only [List.length_append]; omega
  have hSl : (p ++ pack t.length).length + t.length ≤ S.length := by rw [hS2]; simp only [List.length_append]; omega
  have hsz : (bs S).size = S.length := bs_size S
  rw [hpp]
  have HSV0 : Hid (∀ a, rdC S a = [.string (bs S), .int .i64 (a : Int), .int .i64 0]) := hide (fun _ => rfl)
  obtain ⟨a, ha⟩ : ∃ z, (p ++ pack t.length).length = z := ⟨_, rfl⟩
  obtain ⟨n, hn⟩ : ∃ z, t.length = z := ⟨_, rfl⟩
  rw [hn] at HN hx hSl ht ⊢
  rw [← hn, ha, hn] at hx hSl ⊢
  have HN2 : Hid (Calls Tryz.prog 41 #[.pointer (some ⟨b, 0, none⟩), .int .u64 (most : Int)] w fun e w' => e = .returned (.int .u64 (n : Int)) ∧ Blk w' b [.string (bs S), .int .i64 (a : Int), .int .i64 0] 100 ∧ w.grownBy w' (some b)) := hide (by
    rw [← HSV0.out, ← ha, hn]
    exact HN.out)
  rw [HSV0.out]
  obtain ⟨sv, hsv⟩ : ∃ z, bs S = z := ⟨_, rfl⟩
  obtain ⟨tv, htv⟩ : ∃ z, bs t = z := ⟨_, rfl⟩
  rw [hsv] at HN2 hx hsz ⊢
  rw [htv] at hx ⊢
  have hle1 : (a : Int) ≤ (a : Int) + (n : Int) := by omega
  have hle2 : (a : Int) + (n : Int) ≤ (sv.size : Int) := by omega
  have hwr : IntKind.i64.wrap (n : Int) = (n : Int) := IntWalk.i64_in _ (by omega)
  have hws : IntKind.i64.wrap ((sv.size : Int) - (a : Int)) = (sv.size : Int) - (a : Int) := IntWalk.i64_in _ (by omega)
  have hd : decide ((sv.size : Int) - (a : Int) < (n : Int)) = false := decide_eq_false (by omega)
  have hcast : ((a + n : Nat) : Int) = (a : Int) + (n : Int) := by omega
  have hsum : a + n ≤ 100000 := by omega
  have HCA := hide hcast
  clear h hS hS2 HN hpp hSl hsz ha hn hsv htv hl ht hcast HSV0
  go_enter Tryz.func40, Tryz.ntmps40
  go_wp2_with fail
  refine HN2.out.mono ?_
  rintro e w1 ⟨rfl, hB, hg⟩
  have HB := hide hB
  have HG := hide hg
  obtain ⟨p0, p1, p2, p3, p4, p5⟩ := hB.three'
  clear hB hg HN2
  go_upto_region 2 with fail
  go_quiet (fail)
  go_upto_region 7 with fail
  go_quiet (fail)
  go_wp2_with fail
  go_ret
  refine ⟨show Ending.returned (.string (sv.extract a (a + n))) = _ by rw [hx], ?_, ?_⟩
  · rw [HCA.out]
    exact Blk.next (Blk.set (Blk.next HB.out (drewN_below _ _)) 1 _) (drewN_below _ _)
  · exact grown_trans (grown_trans (grown_trans HG.out (below_row (drewN_below _ _) _)) (grown_setCell _ b 1 _)) (below_row (drewN_below _ _) _)

end Go.Proofs.YtogonkoeginoaaaGreatDoor

namespace Go.Proofs.YtogonkoeginoaaaGreatDoor
open Go.RowKit

theorem Blk.fill3 {w : World} {b : Nat} {u0 u1 u2 : Value} {t : TypeId} (h : Blk w b [u0, u1, u2] t) (v0 v1 v2 : Value) : Blk (((w.setCell ⟨b, 0, none⟩ v0).setCell ⟨b, 1, none⟩ v1).setCell ⟨b, 2, none⟩ v2) b [v0, v1, v2] t := ((h.set 0 v0).set 1 v1).set 2 v2

set_option maxRecDepth 100000 in
set_option maxHeartbeats 6400000 in
theorem value_any (b : Nat) (S p r : List UInt8) (f : Fd) (w : World) (h : Blk w b (rdC S p.length) 100) (hS : S = p ++ (layV f ++ r)) (hf : f.In) (hv : valB f = true) (hl : S.length ≤ 100000) :
    Calls Tryz.prog 42 #[.pointer (some ⟨b, 0, none⟩)] w fun e w' => e = .returned (.agg #[.bool f.num, .int .i64 f.n, .string (bs f.s)]) ∧ Blk w' b (rdC S (p ++ layV f).length) 100 ∧ w.grownBy w' (some b) := by
  have hSl : S.length = p.length + (layV f).length + r.length := by rw [hS]; simp only [List.length_append]; omega
  have HT := hide (fun w => vtake_any f r w hf hv (by rw [List.length_append]; omega))
  have hx : (bs S).extract p.length (bs S).size = bs (layV f ++ r) := by rw [slice_from, hS, List.drop_left' rfl]
  have hsz : (bs S).size = S.length := bs_size S
  have hpp : (p ++ layV f).length = p.length + (layV f).length := List.length_append
  rw [hpp]
  unfold rdC at h ⊢
  obtain ⟨sv, hsv⟩ : ∃ z, bs S = z := ⟨_, rfl⟩
  obtain ⟨xv, hxv⟩ : ∃ z, bs (layV f ++ r) = z := ⟨_, rfl⟩
  obtain ⟨tv, htv⟩ : ∃ z, bs f.s = z := ⟨_, rfl⟩
  obtain ⟨k, hk⟩ : ∃ z, (layV f).length = z := ⟨_, rfl⟩
  obtain ⟨a, ha⟩ : ∃ z, p.length = z := ⟨_, rfl⟩
  obtain ⟨num, hnum⟩ : ∃ z, f.num = z := ⟨_, rfl⟩
  obtain ⟨n, hn⟩ : ∃ z, f.n = z := ⟨_, rfl⟩
  rw [hxv] at HT hx
  rw [hk] at HT hSl ⊢
  rw [ha] at h hx hSl ⊢
  rw [hsv] at h hx hsz ⊢
  rw [htv, hnum, hn] at HT ⊢
  have hle : (a : Int) ≤ (sv.size : Int) := by omega
  have hak : a + k ≤ 100000 := by omega
  have hcast : ((a + k : Nat) : Int) = (a : Int) + (k : Int) := by omega
  have HCA := hide hcast
  have hlt := h.lt
  have hal : Below w.heap.size w (w.alloc (.cells #[.bool false, .int .i64 0, .string ⟨#[]⟩] 78)) := (Below.refl _ _).alloc (Nat.le_refl _) _
  have hB := Blk.new w [.bool false, .int .i64 0, .string ⟨#[]⟩] 78
  obtain ⟨W1, hW1⟩ : ∃ z, w.alloc (.cells #[.bool false, .int .i64 0, .string ⟨#[]⟩] 78) = z := ⟨_, rfl⟩
  rw [hW1] at hal
  have C2 : Blk W1 w.heap.size [.bool false, .int .i64 0, .string ⟨#[]⟩] 78 := by rw [← hW1]; exact hB
  have C1 := h.next hal
  clear h hS hSl hpp hsz hsv hxv htv hk ha hnum hn hl hf hv hcast hB
  go_enter Tryz.func42, Tryz.ntmps42
  go_upto_region 1 with fail
  try rw [hW1]
  clear hW1
  obtain ⟨b2, hb2⟩ : ∃ z, w.heap.size = z := ⟨_, rfl⟩
  rw [hb2] at C2 ⊢
  have hne2 : b ≠ b2 := by omega
  have hne2' : b2 ≠ b := by omega
  have hwb2 : w.heap.size ≤ b2 := by omega
  have h2lt := C2.lt
  clear hb2
  obtain ⟨p0, p1, p2, p3, p4, p5⟩ := C1.three'
  go_upto_region 3 with fail
  clear p0 p1 p2 p3 p4 p5
  go_cut [3, 4, 5] (fun s3 s4 s5 wx => ∃ c : Nat, s3 = .pointer (some ⟨c, 0, none⟩) ∧ s4 = .int .i64 (k : Int) ∧ s5 = .int .i64 0 ∧ W1.heap.size ≤ c ∧ Blk wx c [.bool num, .int .i64 n, .string tv] 78 ∧ Below W1.heap.size W1 wx)
  case first =>
    refine wp_region_inv2 (fun lq aa wq => ∃ x3 x4 x5 x12 x13 x14 x15 x16 x17 x18 x19 x20 x21 x22 x23 x24 x25 : Value, aa = ⟨#[.pointer (some ⟨b, 0, none⟩), undef, .pointer (some ⟨b2, 0, none⟩), x3, x4, x5, .pointer (some ⟨b, 0, none⟩), .pointer (some ⟨b, 0, none⟩), .pointer (some ⟨b, 2, none⟩), .int .i64 0, .bool false, undef, x12, x13, x14, x15, x16, x17, x18, x19, x20, x21, x22, x23, x24, x25, undef, undef, undef, undef, undef, undef, undef, undef, undef, undef, undef, undef, undef, undef], []⟩ ∧ lq.size = 18 ∧ Below W1.heap.size W1 wq ∧ Closed lq ([(1, 0), (2, 1), (3, 2), (5, 4), (6, 5), (7, 6), (8, 3), (8, 7), (9, 8), (10, 9), (11, 10), (12, 10), (13, 10), (15, 11), (15, 14), (16, 12), (17, 13)] : List (Nat × Nat)) ∧ (fl lq 0 → x13 = .pointer (some ⟨b, 0, none⟩)) ∧ (fl lq 1 → x14 = .pointer (some ⟨b, 0, none⟩)) ∧ (fl lq 2 → x15 = .pointer (some ⟨b, 0, none⟩)) ∧ (fl lq 3 → x16 = .string sv) ∧ (fl lq 4 → x17 = .pointer (some ⟨b, 0, none⟩)) ∧ (fl lq 5 → x18 = .pointer (some ⟨b, 0, none⟩)) ∧ (fl lq 6 → x19 = .pointer (some ⟨b, 1, none⟩)) ∧ (fl lq 7 → x20 = .int .i64 (a : Int)) ∧ (fl lq 8 → x21 = .string xv) ∧ (fl lq 9 → x22 = .tuple #[.agg #[.bool num, .int .i64 n, .string tv], .int .i64 (k : Int), .int .i64 0]) ∧ (fl lq 10 → x12 = .tuple #[.agg #[.bool num, .int .i64 n, .string tv], .int .i64 (k : Int), .int .i64 0]) ∧ (fl lq 11 → x23 = .agg #[.bool num, .int .i64 n, .string tv]) ∧ (fl lq 12 → x24 = .int .i64 (k : Int)) ∧ (fl lq 13 → x25 = .int .i64 0) ∧ (fl lq 14 → ∃ c vs, x3 = .pointer (some ⟨c, 0, none⟩) ∧ W1.heap.size ≤ c ∧ vs.length = 3 ∧ Blk wq c vs 78) ∧ (fl lq 15 → ∃ c, x3 = .pointer (some ⟨c, 0, none⟩) ∧ W1.heap.size ≤ c ∧ Blk wq c [.bool num, .int .i64 n, .string tv] 78) ∧ (fl lq 16 → x4 = .int .i64 (k : Int)) ∧ (fl lq 17 → x5 = .int .i64 0)) (by kernel_rfl) (ord_of2 (by decide +kernel)) ⟨_, _, _, _, _, _, _, _, _, _, _, _, _, _, _, _, _, rfl, by simp, Below.drewed (Below.refl _ _), Closed.zero _ _, fun f => absurd f (fl_none _ _), fun f => absurd f (fl_none _ _), fun f => absurd f (fl_none _ _), fun f => absurd f (fl_none _ _), fun f => absurd f (fl_none _ _), fun f => absurd f (fl_none _ _), fun f => absurd f (fl_none _ _), fun f => absurd f (fl_none _ _), fun f => absurd f (fl_none _ _), fun f => absurd f (fl_none _ _), fun f => absurd f (fl_none _ _), fun f => absurd f (fl_none _ _), fun f => absurd f (fl_none _ _), fun f => absurd f (fl_none _ _), fun f => absurd f (fl_none _ _), fun f => absurd f (fl_none _ _), fun f => absurd f (fl_none _ _), fun f => absurd f (fl_none _ _)⟩ ?_ ?_
    · intro lq aa w3 i o ho hI h1 h2 KK hK
      obtain ⟨x3, x4, x5, x12, x13, x14, x15, x16, x17, x18, x19, x20, x21, x22, x23, x24, x25, rfl, hsz, hbw3, hcl, g0, g1, g2, g3, g4, g5, g6, g7, g8, g9, g10, g11, g12, g13, g14, g15, g16, g17⟩ := hI
      have hi : i < 18 := (Array.getElem?_eq_some_iff.1 ho).1
      have R9 := C1.next hbw3
      have r0 : w3.cell? ⟨b, 0, none⟩ = some (.string sv) := R9.cell 0
      have r1 : w3.cell? ⟨b, 1, none⟩ = some (.int .i64 (a : Int)) := R9.cell 1
      have hcase : i = 0 ∨ i = 1 ∨ i = 2 ∨ i = 3 ∨ i = 4 ∨ i = 5 ∨ i = 6 ∨ i = 7 ∨ i = 8 ∨ i = 9 ∨ i = 10 ∨ i = 11 ∨ i = 12 ∨ i = 13 ∨ i = 14 ∨ i = 15 ∨ i = 16 ∨ i = 17 := by omega
      rcases hcase with rfl | rfl | rfl | rfl | rfl | rfl | rfl | rfl | rfl | rfl | rfl | rfl | rfl | rfl | rfl | rfl | rfl | rfl
      · cases ho
        go_simp
        exact hK _ _ ⟨_, _, _, _, _, _, _, _, _, _, _, _, _, _, _, _, _, rfl, by simpa using hsz, hbw3, hcl.step 0 [] (by decide) all_nil, fun _ => rfl, fun f => absurd (hcl.on (by decide) (fl_set f (by decide))) (fl_not h1), fun f => (g2 (fl_set f (by decide))), fun f => (g3 (fl_set f (by decide))), fun f => (g4 (fl_set f (by decide))), fun f => (g5 (fl_set f (by decide))), fun f => (g6 (fl_set f (by decide))), fun f => (g7 (fl_set f (by decide))), fun f => (g8 (fl_set f (by decide))), fun f => (g9 (fl_set f (by decide))), fun f => (g10 (fl_set f (by decide))), fun f => (g11 (fl_set f (by decide))), fun f => (g12 (fl_set f (by decide))), fun f => (g13 (fl_set f (by decide))), fun f => (g14 (fl_set f (by decide))), fun f => (g15 (fl_set f (by decide))), fun f => (g16 (fl_set f (by decide))), fun f => (g17 (fl_set f (by decide)))⟩
      · cases ho
        have f0 : fl lq 0 := h2 ⟨0, .data⟩ (by simp) rfl
        obtain rfl := g0 f0
        go_simp
        exact hK _ _ ⟨_, _, _, _, _, _, _, _, _, _, _, _, _, _, _, _, _, rfl, by simpa using hsz, hbw3, hcl.step 1 [0] (by decide) (all_cons f0 all_nil), fun f => (g0 (fl_set f (by decide))), fun _ => rfl, fun f => absurd (hcl.on (by decide) (fl_set f (by decide))) (fl_not h1), fun f => (g3 (fl_set f (by decide))), fun f => (g4 (fl_set f (by decide))), fun f => (g5 (fl_set f (by decide))), fun f => (g6 (fl_set f (by decide))), fun f => (g7 (fl_set f (by decide))), fun f => (g8 (fl_set f (by decide))), fun f => (g9 (fl_set f (by decide))), fun f => (g10 (fl_set f (by decide))), fun f => (g11 (fl_set f (by decide))), fun f => (g12 (fl_set f (by decide))), fun f => (g13 (fl_set f (by decide))), fun f => (g14 (fl_set f (by decide))), fun f => (g15 (fl_set f (by decide))), fun f => (g16 (fl_set f (by decide))), fun f => (g17 (fl_set f (by decide)))⟩
      · cases ho
        have f1 : fl lq 1 := h2 ⟨1, .data⟩ (by simp) rfl
        obtain rfl := g1 f1
        go_simp
        exact hK _ _ ⟨_, _, _, _, _, _, _, _, _, _, _, _, _, _, _, _, _, rfl, by simpa using hsz, hbw3, hcl.step 2 [1] (by decide) (all_cons f1 all_nil), fun f => (g0 (fl_set f (by decide))), fun f => (g1 (fl_set f (by decide))), fun _ => rfl, fun f => absurd (hcl.on (by decide) (fl_set f (by decide))) (fl_not h1), fun f => (g4 (fl_set f (by decide))), fun f => (g5 (fl_set f (by decide))), fun f => (g6 (fl_set f (by decide))), fun f => (g7 (fl_set f (by decide))), fun f => (g8 (fl_set f (by decide))), fun f => (g9 (fl_set f (by decide))), fun f => (g10 (fl_set f (by decide))), fun f => (g11 (fl_set f (by decide))), fun f => (g12 (fl_set f (by decide))), fun f => (g13 (fl_set f (by decide))), fun f => (g14 (fl_set f (by decide))), fun f => (g15 (fl_set f (by decide))), fun f => (g16 (fl_set f (by decide))), fun f => (g17 (fl_set f (by decide)))⟩
      · cases ho
        have f2 : fl lq 2 := h2 ⟨2, .data⟩ (by simp) rfl
        obtain rfl := g2 f2
        go_simp
        exact hK _ _ ⟨_, _, _, _, _, _, _, _, _, _, _, _, _, _, _, _, _, rfl, by simpa using hsz, hbw3, hcl.step 3 [2] (by decide) (all_cons f2 all_nil), fun f => (g0 (fl_set f (by decide))), fun f => (g1 (fl_set f (by decide))), fun f => (g2 (fl_set f (by decide))), fun _ => rfl, fun f => (g4 (fl_set f (by decide))), fun f => (g5 (fl_set f (by decide))), fun f => (g6 (fl_set f (by decide))), fun f => (g7 (fl_set f (by decide))), fun f => absurd (hcl.on (by decide) (fl_set f (by decide))) (fl_not h1), fun f => (g9 (fl_set f (by decide))), fun f => (g10 (fl_set f (by decide))), fun f => (g11 (fl_set f (by decide))), fun f => (g12 (fl_set f (by decide))), fun f => (g13 (fl_set f (by decide))), fun f => (g14 (fl_set f (by decide))), fun f => (g15 (fl_set f (by decide))), fun f => (g16 (fl_set f (by decide))), fun f => (g17 (fl_set f (by decide)))⟩
      · cases ho
        go_simp
        exact hK _ _ ⟨_, _, _, _, _, _, _, _, _, _, _, _, _, _, _, _, _, rfl, by simpa using hsz, hbw3, hcl.step 4 [] (by decide) all_nil, fun f => (g0 (fl_set f (by decide))), fun f => (g1 (fl_set f (by decide))), fun f => (g2 (fl_set f (by decide))), fun f => (g3 (fl_set f (by decide))), fun _ => rfl, fun f => absurd (hcl.on (by decide) (fl_set f (by decide))) (fl_not h1), fun f => (g6 (fl_set f (by decide))), fun f => (g7 (fl_set f (by decide))), fun f => (g8 (fl_set f (by decide))), fun f => (g9 (fl_set f (by decide))), fun f => (g10 (fl_set f (by decide))), fun f => (g11 (fl_set f (by decide))), fun f => (g12 (fl_set f (by decide))), fun f => (g13 (fl_set f (by decide))), fun f => (g14 (fl_set f (by decide))), fun f => (g15 (fl_set f (by decide))), fun f => (g16 (fl_set f (by decide))), fun f => (g17 (fl_set f (by decide)))⟩
      · cases ho
        have f4 : fl lq 4 := h2 ⟨4, .data⟩ (by simp) rfl
        obtain rfl := g4 f4
        go_simp
        exact hK _ _ ⟨_, _, _, _, _, _, _, _, _, _, _, _, _, _, _, _, _, rfl, by simpa using hsz, hbw3, hcl.step 5 [4] (by decide) (all_cons f4 all_nil), fun f => (g0 (fl_set f (by decide))), fun f => (g1 (fl_set f (by decide))), fun f => (g2 (fl_set f (by decide))), fun f => (g3 (fl_set f (by decide))), fun f => (g4 (fl_set f (by decide))), fun _ => rfl, fun f => absurd (hcl.on (by decide) (fl_set f (by decide))) (fl_not h1), fun f => (g7 (fl_set f (by decide))), fun f => (g8 (fl_set f (by decide))), fun f => (g9 (fl_set f (by decide))), fun f => (g10 (fl_set f (by decide))), fun f => (g11 (fl_set f (by decide))), fun f => (g12 (fl_set f (by decide))), fun f => (g13 (fl_set f (by decide))), fun f => (g14 (fl_set f (by decide))), fun f => (g15 (fl_set f (by decide))), fun f => (g16 (fl_set f (by decide))), fun f => (g17 (fl_set f (by decide)))⟩
      · cases ho
        have f5 : fl lq 5 := h2 ⟨5, .data⟩ (by simp) rfl
        obtain rfl := g5 f5
        go_simp
        exact hK _ _ ⟨_, _, _, _, _, _, _, _, _, _, _, _, _, _, _, _, _, rfl, by simpa using hsz, hbw3, hcl.step 6 [5] (by decide) (all_cons f5 all_nil), fun f => (g0 (fl_set f (by decide))), fun f => (g1 (fl_set f (by decide))), fun f => (g2 (fl_set f (by decide))), fun f => (g3 (fl_set f (by decide))), fun f => (g4 (fl_set f (by decide))), fun f => (g5 (fl_set f (by decide))), fun _ => rfl, fun f => absurd (hcl.on (by decide) (fl_set f (by decide))) (fl_not h1), fun f => (g8 (fl_set f (by decide))), fun f => (g9 (fl_set f (by decide))), fun f => (g10 (fl_set f (by decide))), fun f => (g11 (fl_set f (by decide))), fun f => (g12 (fl_set f (by decide))), fun f => (g13 (fl_set f (by decide))), fun f => (g14 (fl_set f (by decide))), fun f => (g15 (fl_set f (by decide))), fun f => (g16 (fl_set f (by decide))), fun f => (g17 (fl_set f (by decide)))⟩
      · cases ho
        have f6 : fl lq 6 := h2 ⟨6, .data⟩ (by simp) rfl
        obtain rfl := g6 f6
        go_simp
        exact hK _ _ ⟨_, _, _, _, _, _, _, _, _, _, _, _, _, _, _, _, _, rfl, by simpa using hsz, hbw3, hcl.step 7 [6] (by decide) (all_cons f6 all_nil), fun f => (g0 (fl_set f (by decide))), fun f => (g1 (fl_set f (by decide))), fun f => (g2 (fl_set f (by decide))), fun f => (g3 (fl_set f (by decide))), fun f => (g4 (fl_set f (by decide))), fun f => (g5 (fl_set f (by decide))), fun f => (g6 (fl_set f (by decide))), fun _ => rfl, fun f => absurd (hcl.on (by decide) (fl_set f (by decide))) (fl_not h1), fun f => (g9 (fl_set f (by decide))), fun f => (g10 (fl_set f (by decide))), fun f => (g11 (fl_set f (by decide))), fun f => (g12 (fl_set f (by decide))), fun f => (g13 (fl_set f (by decide))), fun f => (g14 (fl_set f (by decide))), fun f => (g15 (fl_set f (by decide))), fun f => (g16 (fl_set f (by decide))), fun f => (g17 (fl_set f (by decide)))⟩
      · cases ho
        have f3 : fl lq 3 := h2 ⟨3, .data⟩ (by simp) rfl
        have f7 : fl lq 7 := h2 ⟨7, .data⟩ (by simp) rfl
        obtain rfl := g3 f3
        obtain rfl := g7 f7
        go_simp
        exact hK _ _ ⟨_, _, _, _, _, _, _, _, _, _, _, _, _, _, _, _, _, rfl, by simpa using hsz, hbw3, hcl.step 8 [3, 7] (by decide) (all_cons f3 (all_cons f7 all_nil)), fun f => (g0 (fl_set f (by decide))), fun f => (g1 (fl_set f (by decide))), fun f => (g2 (fl_set f (by decide))), fun f => (g3 (fl_set f (by decide))), fun f => (g4 (fl_set f (by decide))), fun f => (g5 (fl_set f (by decide))), fun f => (g6 (fl_set f (by decide))), fun f => (g7 (fl_set f (by decide))), fun _ => rfl, fun f => absurd (hcl.on (by decide) (fl_set f (by decide))) (fl_not h1), fun f => (g10 (fl_set f (by decide))), fun f => (g11 (fl_set f (by decide))), fun f => (g12 (fl_set f (by decide))), fun f => (g13 (fl_set f (by decide))), fun f => (g14 (fl_set f (by decide))), fun f => (g15 (fl_set f (by decide))), fun f => (g16 (fl_set f (by decide))), fun f => (g17 (fl_set f (by decide)))⟩
      · cases ho
        have f8 : fl lq 8 := h2 ⟨8, .data⟩ (by simp) rfl
        obtain rfl := g8 f8
        go_simp
        go_at_call 67
        refine (HT.out _).mono ?_
        rintro e w' ⟨rfl, hb⟩
        exact hK _ _ ⟨_, _, _, _, _, _, _, _, _, _, _, _, _, _, _, _, _, rfl, by simpa using hsz, chain hbw3 hb, hcl.step 9 [8] (by decide) (all_cons f8 all_nil), fun f => (g0 (fl_set f (by decide))), fun f => (g1 (fl_set f (by decide))), fun f => (g2 (fl_set f (by decide))), fun f => (g3 (fl_set f (by decide))), fun f => (g4 (fl_set f (by decide))), fun f => (g5 (fl_set f (by decide))), fun f => (g6 (fl_set f (by decide))), fun f => (g7 (fl_set f (by decide))), fun f => (g8 (fl_set f (by decide))), fun _ => rfl, fun f => absurd (hcl.on (by decide) (fl_set f (by decide))) (fl_not h1), fun f => (g11 (fl_set f (by decide))), fun f => (g12 (fl_set f (by decide))), fun f => (g13 (fl_set f (by decide))), fun f => (let ⟨b, vs, h1, h2, h3, h4⟩ := (g14 (fl_set f (by decide))); ⟨b, vs, h1, h2, h3, h4.next hb⟩), fun f => (let ⟨b, h1, h2, h3⟩ := (g15 (fl_set f (by decide))); ⟨b, h1, h2, h3.next hb⟩), fun f => (g16 (fl_set f (by decide))), fun f => (g17 (fl_set f (by decide)))⟩
      · cases ho
        have f9 : fl lq 9 := h2 ⟨9, .data⟩ (by simp) rfl
        obtain rfl := g9 f9
        go_simp
        exact hK _ _ ⟨_, _, _, _, _, _, _, _, _, _, _, _, _, _, _, _, _, rfl, by simpa using hsz, hbw3, hcl.step 10 [9] (by decide) (all_cons f9 all_nil), fun f => (g0 (fl_set f (by decide))), fun f => (g1 (fl_set f (by decide))), fun f => (g2 (fl_set f (by decide))), fun f => (g3 (fl_set f (by decide))), fun f => (g4 (fl_set f (by decide))), fun f => (g5 (fl_set f (by decide))), fun f => (g6 (fl_set f (by decide))), fun f => (g7 (fl_set f (by decide))), fun f => (g8 (fl_set f (by decide))), fun f => (g9 (fl_set f (by decide))), fun _ => rfl, fun f => absurd (hcl.on (by decide) (fl_set f (by decide))) (fl_not h1), fun f => absurd (hcl.on (by decide) (fl_set f (by decide))) (fl_not h1), fun f => absurd (hcl.on (by decide) (fl_set f (by decide))) (fl_not h1), fun f => (g14 (fl_set f (by decide))), fun f => (g15 (fl_set f (by decide))), fun f => (g16 (fl_set f (by decide))), fun f => (g17 (fl_set f (by decide)))⟩
      · cases ho
        have f10 : fl lq 10 := h2 ⟨10, .data⟩ (by simp) rfl
        obtain rfl := g10 f10
        go_simp
        exact hK _ _ ⟨_, _, _, _, _, _, _, _, _, _, _, _, _, _, _, _, _, rfl, by simpa using hsz, hbw3, hcl.step 11 [10] (by decide) (all_cons f10 all_nil), fun f => (g0 (fl_set f (by decide))), fun f => (g1 (fl_set f (by decide))), fun f => (g2 (fl_set f (by decide))), fun f => (g3 (fl_set f (by decide))), fun f => (g4 (fl_set f (by decide))), fun f => (g5 (fl_set f (by decide))), fun f => (g6 (fl_set f (by decide))), fun f => (g7 (fl_set f (by decide))), fun f => (g8 (fl_set f (by decide))), fun f => (g9 (fl_set f (by decide))), fun f => (g10 (fl_set f (by decide))), fun _ => rfl, fun f => (g12 (fl_set f (by decide))), fun f => (g13 (fl_set f (by decide))), fun f => (g14 (fl_set f (by decide))), fun f => absurd (hcl.on (by decide) (fl_set f (by decide))) (fl_not h1), fun f => (g16 (fl_set f (by decide))), fun f => (g17 (fl_set f (by decide)))⟩
      · cases ho
        have f10 : fl lq 10 := h2 ⟨10, .data⟩ (by simp) rfl
        obtain rfl := g10 f10
        go_simp
        exact hK _ _ ⟨_, _, _, _, _, _, _, _, _, _, _, _, _, _, _, _, _, rfl, by simpa using hsz, hbw3, hcl.step 12 [10] (by decide) (all_cons f10 all_nil), fun f => (g0 (fl_set f (by decide))), fun f => (g1 (fl_set f (by decide))), fun f => (g2 (fl_set f (by decide))), fun f => (g3 (fl_set f (by decide))), fun f => (g4 (fl_set f (by decide))), fun f => (g5 (fl_set f (by decide))), fun f => (g6 (fl_set f (by decide))), fun f => (g7 (fl_set f (by decide))), fun f => (g8 (fl_set f (by decide))), fun f => (g9 (fl_set f (by decide))), fun f => (g10 (fl_set f (by decide))), fun f => (g11 (fl_set f (by decide))), fun _ => rfl, fun f => (g13 (fl_set f (by decide))), fun f => (g14 (fl_set f (by decide))), fun f => (g15 (fl_set f (by decide))), fun f => absurd (hcl.on (by decide) (fl_set f (by decide))) (fl_not h1), fun f => (g17 (fl_set f (by decide)))⟩
      · cases ho
        have f10 : fl lq 10 := h2 ⟨10, .data⟩ (by simp) rfl
        obtain rfl := g10 f10
        go_simp
        exact hK _ _ ⟨_, _, _, _, _, _, _, _, _, _, _, _, _, _, _, _, _, rfl, by simpa using hsz, hbw3, hcl.step 13 [10] (by decide) (all_cons f10 all_nil), fun f => (g0 (fl_set f (by decide))), fun f => (g1 (fl_set f (by decide))), fun f => (g2 (fl_set f (by decide))), fun f => (g3 (fl_set f (by decide))), fun f => (g4 (fl_set f (by decide))), fun f => (g5 (fl_set f (by decide))), fun f => (g6 (fl_set f (by decide))), fun f => (g7 (fl_set f (by decide))), fun f => (g8 (fl_set f (by decide))), fun f => (g9 (fl_set f (by decide))), fun f => (g10 (fl_set f (by decide))), fun f => (g11 (fl_set f (by decide))), fun f => (g12 (fl_set f (by decide))), fun _ => rfl, fun f => (g14 (fl_set f (by decide))), fun f => (g15 (fl_set f (by decide))), fun f => (g16 (fl_set f (by decide))), fun f => absurd (hcl.on (by decide) (fl_set f (by decide))) (fl_not h1)⟩
      · cases ho
        go_simp
        exact hK _ _ ⟨_, _, _, _, _, _, _, _, _, _, _, _, _, _, _, _, _, rfl, by simpa using hsz, hbw3.alloc hbw3.size _, hcl.step 14 [] (by decide) all_nil, fun f => (g0 (fl_set f (by decide))), fun f => (g1 (fl_set f (by decide))), fun f => (g2 (fl_set f (by decide))), fun f => (g3 (fl_set f (by decide))), fun f => (g4 (fl_set f (by decide))), fun f => (g5 (fl_set f (by decide))), fun f => (g6 (fl_set f (by decide))), fun f => (g7 (fl_set f (by decide))), fun f => (g8 (fl_set f (by decide))), fun f => (g9 (fl_set f (by decide))), fun f => (g10 (fl_set f (by decide))), fun f => (g11 (fl_set f (by decide))), fun f => (g12 (fl_set f (by decide))), fun f => (g13 (fl_set f (by decide))), fun _ => ⟨w3.heap.size, [.bool false, .int .i64 0, .string ⟨#[]⟩], rfl, hbw3.size, rfl, Blk.new w3 [.bool false, .int .i64 0, .string ⟨#[]⟩] _⟩, fun f => absurd (hcl.on (by decide) (fl_set f (by decide))) (fl_not h1), fun f => (g16 (fl_set f (by decide))), fun f => (g17 (fl_set f (by decide)))⟩
      · cases ho
        have f11 : fl lq 11 := h2 ⟨11, .data⟩ (by simp) rfl
        have f14 : fl lq 14 := h2 ⟨14, .data⟩ (by simp) rfl
        obtain rfl := g11 f11
        obtain ⟨c, vs, rfl, hB, hvs, hH⟩ := g14 f14
        obtain ⟨u0, u1, u2, rfl⟩ : ∃ u0 u1 u2, vs = [u0, u1, u2] := by match vs, hvs with | [u0, u1, u2], _ => exact ⟨u0, u1, u2, rfl⟩
        obtain ⟨y0, y1, y2, y3, y4, y5⟩ := hH.three'
        go_simp
        exact hK _ _ ⟨_, _, _, _, _, _, _, _, _, _, _, _, _, _, _, _, _, rfl, by simpa using hsz, ((hbw3.setCell (p := ⟨c, 0, none⟩) hB _).setCell (p := ⟨c, 1, none⟩) hB _).setCell (p := ⟨c, 2, none⟩) hB _, hcl.step 15 [11, 14] (by decide) (all_cons f11 (all_cons f14 all_nil)), fun f => (g0 (fl_set f (by decide))), fun f => (g1 (fl_set f (by decide))), fun f => (g2 (fl_set f (by decide))), fun f => (g3 (fl_set f (by decide))), fun f => (g4 (fl_set f (by decide))), fun f => (g5 (fl_set f (by decide))), fun f => (g6 (fl_set f (by decide))), fun f => (g7 (fl_set f (by decide))), fun f => (g8 (fl_set f (by decide))), fun f => (g9 (fl_set f (by decide))), fun f => (g10 (fl_set f (by decide))), fun f => (g11 (fl_set f (by decide))), fun f => (g12 (fl_set f (by decide))), fun f => (g13 (fl_set f (by decide))), fun f => ⟨c, _, rfl, hB, rfl, hH.fill3 _ _ _⟩, fun _ => ⟨c, rfl, hB, hH.fill3 _ _ _⟩, fun f => (g16 (fl_set f (by decide))), fun f => (g17 (fl_set f (by decide)))⟩
      · cases ho
        have f12 : fl lq 12 := h2 ⟨12, .data⟩ (by simp) rfl
        obtain rfl := g12 f12
        go_simp
        exact hK _ _ ⟨_, _, _, _, _, _, _, _, _, _, _, _, _, _, _, _, _, rfl, by simpa using hsz, hbw3, hcl.step 16 [12] (by decide) (all_cons f12 all_nil), fun f => (g0 (fl_set f (by decide))), fun f => (g1 (fl_set f (by decide))), fun f => (g2 (fl_set f (by decide))), fun f => (g3 (fl_set f (by decide))), fun f => (g4 (fl_set f (by decide))), fun f => (g5 (fl_set f (by decide))), fun f => (g6 (fl_set f (by decide))), fun f => (g7 (fl_set f (by decide))), fun f => (g8 (fl_set f (by decide))), fun f => (g9 (fl_set f (by decide))), fun f => (g10 (fl_set f (by decide))), fun f => (g11 (fl_set f (by decide))), fun f => (g12 (fl_set f (by decide))), fun f => (g13 (fl_set f (by decide))), fun f => (g14 (fl_set f (by decide))), fun f => (g15 (fl_set f (by decide))), fun _ => rfl, fun f => (g17 (fl_set f (by decide)))⟩
      · cases ho
        have f13 : fl lq 13 := h2 ⟨13, .data⟩ (by simp) rfl
        obtain rfl := g13 f13
        go_simp
        exact hK _ _ ⟨_, _, _, _, _, _, _, _, _, _, _, _, _, _, _, _, _, rfl, by simpa using hsz, hbw3, hcl.step 17 [13] (by decide) (all_cons f13 all_nil), fun f => (g0 (fl_set f (by decide))), fun f => (g1 (fl_set f (by decide))), fun f => (g2 (fl_set f (by decide))), fun f => (g3 (fl_set f (by decide))), fun f => (g4 (fl_set f (by decide))), fun f => (g5 (fl_set f (by decide))), fun f => (g6 (fl_set f (by decide))), fun f => (g7 (fl_set f (by decide))), fun f => (g8 (fl_set f (by decide))), fun f => (g9 (fl_set f (by decide))), fun f => (g10 (fl_set f (by decide))), fun f => (g11 (fl_set f (by decide))), fun f => (g12 (fl_set f (by decide))), fun f => (g13 (fl_set f (by decide))), fun f => (g14 (fl_set f (by decide))), fun f => (g15 (fl_set f (by decide))), fun f => (g16 (fl_set f (by decide))), fun _ => rfl⟩
    · intro lq aa w3 hI hall
      obtain ⟨x3, x4, x5, x12, x13, x14, x15, x16, x17, x18, x19, x20, x21, x22, x23, x24, x25, rfl, hsz, hbw3, hcl, g0, g1, g2, g3, g4, g5, g6, g7, g8, g9, g10, g11, g12, g13, g14, g15, g16, g17⟩ := hI
      obtain ⟨c, rfl, hB, hH⟩ := g15 (fl_all hall hsz (by decide))
      obtain rfl := g16 (fl_all hall hsz (by decide))
      obtain rfl := g17 (fl_all hall hsz (by decide))
      try dsimp only
      go_wp2_with fail
      go_meet
      exact ⟨c, rfl, rfl, rfl, hB, hH, hbw3⟩
  case rest =>
    obtain ⟨wx, rfl⟩ : ∃ wx, wx = wc := ⟨_, rfl⟩
    obtain ⟨c, rfl, rfl, rfl, hc, C3, hbw⟩ := hcut
    have D1 := C1.next hbw
    have D2 := C2.next hbw
    have hlt1 := C1.lt
    have hnc : b ≠ c := by omega
    have hnc' : c ≠ b := by omega
    have hnc2 : b2 ≠ c := by omega
    have hnc2' : c ≠ b2 := by omega
    obtain ⟨p0, p1, p2, p3, p4, p5⟩ := D1.three'
    obtain ⟨q0, q1, q2, q3, q4, q5⟩ := D2.three'
    obtain ⟨r0, r1, r2, r3, r4, r5⟩ := C3.three'
    have HW := hide (chain hal hbw)
    go_wp2_with fail
    have DB := ((((D1.set 1 (.int .i64 ((a : Int) + (k : Int)))).set 2 (.int .i64 0)).other (a := ⟨b2, 0, none⟩) hne2 (.bool num)).other (a := ⟨b2, 1, none⟩) hne2 (.int .i64 n)).other (a := ⟨b2, 2, none⟩) hne2 (.string tv)
    have HG := grown_new (grown_new (grown_new (grown_trans (grown_trans (below_row HW.out (some b)) (grown_setCell wx b 1 (.int .i64 ((a : Int) + (k : Int))))) (grown_setCell _ b 2 (.int .i64 0))) (grown_setCell _ b2 0 (.bool num)) hwb2) (grown_setCell _ b2 1 (.int .i64 n)) hwb2) (grown_setCell _ b2 2 (.string tv)) hwb2
    exact bodyPost_ret (v := .agg #[.bool num, .int .i64 n, .string tv]) (by simp [results, Tryz.results42, go_sem, q0, q1, q2]) rfl ⟨rfl, by rw [HCA.out]; exact DB, HG⟩

end Go.Proofs.YtogonkoeginoaaaGreatDoor

namespace Go.Proofs.YtogonkoeginoaaaGreatDoor
open Go.RowKit

theorem fdVals_set (q : List Fd) (f : Fd) : ∀ i, i < q.length → fdVals (q.set i f) = ((((fdVals q).set (i * 4) (.string (bs f.name))).set (i * 4 + 1) (.bool f.num)).set (i * 4 + 2) (.int .i64 f.n)).set (i * 4 + 3) (.string (bs f.s)) := by
  induction q with
  | nil => intro i h; simp at h
  | cons x q ih =>
    intro i h
    have e : ∀ y (q : List Fd), fdVals (y :: q) = Value.string (bs y.name) :: Value.bool y.num :: Value.int .i64 y.n :: Value.string (bs y.s) :: fdVals q := fun _ _ => rfl
    cases i with
    | zero => rw [List.set_cons_zero, e, e]; rfl
    | succ i =>
      rw [List.set_cons_succ, e, e, ih i (by simpa using h), show (i + 1) * 4 = i * 4 + 1 + 1 + 1 + 1 by omega]
      simp only [List.set_cons_succ, show ∀ k, i * 4 + 1 + 1 + 1 + 1 + k = (i * 4 + k) + 1 + 1 + 1 + 1 from fun k => by omega]
theorem q_next (L : List Fd) (n i : Nat) (hn : L.length = n) (hi : i < n) : (L.take i ++ List.replicate (n - i) Fd.zero).set i (L.getD i .zero) = L.take (i + 1) ++ List.replicate (n - (i + 1)) Fd.zero := by
  have hl : (L.take i).length = i := by rw [List.length_take]; omega
  have e : L.take (i + 1) = L.take i ++ [L.getD i .zero] := by
    rw [List.take_add_one, List.getElem?_eq_getElem (by omega), List.getD_eq_getElem?_getD, List.getElem?_eq_getElem (by omega)]
    rfl
  rw [List.set_append_right _ _ (by omega), hl, Nat.sub_self, show n - i = (n - (i + 1)) + 1 by omega, List.replicate_succ, List.set_cons_zero, e, List.append_assoc]
  rfl
theorem q_len (L : List Fd) (n i : Nat) (hn : L.length = n) (hi : i ≤ n) : (L.take i ++ List.replicate (n - i) Fd.zero).length = n := by
  rw [List.length_append, List.length_take, List.length_replicate]; omega
theorem rd_step {w w' : World} {b a a' : Nat} {S : List UInt8} {t : TypeId} (h : Blk w b (rdC S a) t) (h' : Blk w' b (rdC S a') t) (hg : w.grownBy w' (some b)) : Step w w' (some b) := by
  refine ⟨hg, fun b' j c hc hb => ?_⟩
  by_cases e : b' = b
  · subst e
    rw [h.cell j] at hb
    rw [h'.cell j]
    unfold rdC at hb ⊢
    match j with
    | 0 => exact hb
    | 1 => simp at hb
    | 2 => simp at hb
    | n + 3 => simp at hb
  · exact hg.cell hb (fun e2 => e (by injection e2))
theorem fds_row {w : World} {b : Nat} {L : List Fd} {t : TypeId} (h : Blk w b (fdVals L) t) : Row w (some ⟨b, 0, none⟩) (fdVals L) := .inr ⟨b, 0, rfl, fun j v hj => by rw [Nat.zero_add, h.cell j]; exact hj⟩

theorem info_fd : (Tryz.prog.info? 80).map (fun i => (i.zero, i.size, i.bytes)) = some (some (.agg #[.string ⟨#[]⟩, .bool false, .int .i64 0, .string ⟨#[]⟩]), 4, 48) := by kernel_rfl
theorem made_fds (n : Nat) (hn : n ≤ 8) : madeCells (Value.agg #[.string ⟨#[]⟩, .bool false, .int .i64 0, .string ⟨#[]⟩]).cells (n * 4) = (fdVals (List.replicate n Fd.zero)).toArray := by
  have h8 : n = 0 ∨ n = 1 ∨ n = 2 ∨ n = 3 ∨ n = 4 ∨ n = 5 ∨ n = 6 ∨ n = 7 ∨ n = 8 := by omega
  apply Array.ext'
  unfold madeCells
  rw [Array.toList_map, Array.toList_range]
  rcases h8 with rfl | rfl | rfl | rfl | rfl | rfl | rfl | rfl | rfl <;> rfl
theorem mk_fields (n : Nat) (hn : n ≤ 8) (w : World) : (Instr.makeSlice 35 (.int .u64 (n : Int)) (.int .u64 (n : Int))).run Tryz.prog w = .ok (.slice (some ⟨w.heap.size, 0, none⟩) n n) (w.alloc (.cells (fdVals (List.replicate n Fd.zero)).toArray 80)) := by
  obtain ⟨i0, hi, hz0, hz1, hz2⟩ := info_parts info_fd
  have h := run_makeSlice (P := Tryz.prog) w 35 80 i0 _ Tryz.underlying35 hi hz0 .u64 .u64 (n : Int) (n : Int) (by omega) (Int.le_refl _) (by rw [hz1, Int.toNat_natCast]; omega) (by rw [hz2]; omega) (by omega)
  rw [Int.toNat_natCast, hz1] at h
  rw [made_fds n hn] at h
  exact h

/-- What stands before the i-th field; before its value. -/
def atF (e : Ev) (i : Nat) : Nat := (layH e ++ layFs (e.l.take i)).length
def atV (e : Ev) (i : Nat) : Nat := (layH e ++ layFs (e.l.take i) ++ layT (e.l.getD i .zero).name).length
theorem split_at (e : Ev) (r : List UInt8) (i : Nat) (hi : i < e.l.length) : layE e ++ r = (layH e ++ layFs (e.l.take i)) ++ (layT (e.l.getD i .zero).name ++ (layV (e.l.getD i .zero) ++ (layFs (e.l.drop (i + 1)) ++ r))) := by
  rw [layE_eq, layFs_all e.l i, layFs_split e.l i hi]
  unfold layF
  simp only [List.append_assoc]
theorem atF_next (e : Ev) (i : Nat) (hi : i < e.l.length) : (layH e ++ layFs (e.l.take i) ++ layT (e.l.getD i .zero).name ++ layV (e.l.getD i .zero)).length = atF e (i + 1) := by
  unfold atF
  rw [layFs_take e.l i hi]
  unfold layF
  simp only [List.append_assoc]

set_option maxRecDepth 100000 in
set_option maxHeartbeats 12800000 in
theorem evtake_any (e : Ev) (r : List UInt8) (w : World) (hm : mayE e = true) (hin : e.In) (hfs : ∀ x ∈ e.l, x.In) (hl : (layE e ++ r).length ≤ 100000) (hv : Vars w) :
    Calls Tryz.prog 16 #[.string (bs (layE e ++ r))] w fun x w' => ∃ a n c, x = .returned (.tuple #[.agg #[.string (bs e.topic), .string (bs e.prod), .int .u64 (e.seq : Int), .slice a n c], .int .i64 ((layE e).length : Int), .int .i64 0]) ∧ Fds w' a n e.l ∧ (n ≤ c ∧ c ≤ 9223372036854775807) ∧ Below w.heap.size w w' := by
  have hel := layE_length hm
  have hmm := hm
  unfold mayE at hmm
  simp only [Bool.and_eq_true, decide_eq_true_eq] at hmm
  obtain ⟨⟨⟨⟨m1, m2⟩, m3⟩, m4⟩, m5⟩ := hmm
  have t1 := topicB_length m1
  have t2 := fieldB_length m2
  obtain ⟨S, hS⟩ : ∃ z, layE e ++ r = z := ⟨_, rfl⟩
  have hS0 : S = [] ++ (layT e.topic ++ (layT e.prod ++ (pack e.seq ++ (pack e.l.length ++ (layFs e.l ++ r))))) := by rw [← hS]; unfold layE; simp only [List.append_assoc, List.nil_append]
  have hS1 : S = ([] ++ layT e.topic) ++ (layT e.prod ++ (pack e.seq ++ (pack e.l.length ++ (layFs e.l ++ r)))) := by rw [hS0]; simp only [List.append_assoc]
  have hS2 : S = ([] ++ layT e.topic ++ layT e.prod) ++ (pack e.seq ++ (pack e.l.length ++ (layFs e.l ++ r))) := by rw [hS0]; simp only [List.append_assoc]
  have hS3 : S = ([] ++ layT e.topic ++ layT e.prod ++ pack e.seq) ++ (pack e.l.length ++ (layFs e.l ++ r)) := by rw [hS0]; simp only [List.append_assoc]
  rw [hS] at hl ⊢
  have hsq := hin.seq
  have H1 : Hid (∀ b w, Blk w b (rdC S 0) 100 → Calls Tryz.prog 40 #[.pointer (some ⟨b, 0, none⟩), .int .u64 40] w fun x w' => x = .returned (.string (bs e.topic)) ∧ Blk w' b (rdC S ([] ++ layT e.topic).length) 100 ∧ Step w w' (some b)) := hide (fun b w h => by
    refine (text_any b S [] _ e.topic 40 w h hS0 t1 (by omega) hl).mono ?_
    rintro x w' ⟨h1, h2, h3⟩
    exact ⟨h1, h2, rd_step h h2 h3⟩)
  have H2 : Hid (∀ b w, Blk w b (rdC S ([] ++ layT e.topic).length) 100 → Calls Tryz.prog 40 #[.pointer (some ⟨b, 0, none⟩), .int .u64 16] w fun x w' => x = .returned (.string (bs e.prod)) ∧ Blk w' b (rdC S ([] ++ layT e.topic ++ layT e.prod).length) 100 ∧ Step w w' (some b)) := hide (fun b w h => by
    refine (text_any b S _ _ e.prod 16 w h hS1 t2 (by omega) hl).mono ?_
    rintro x w' ⟨h1, h2, h3⟩
    exact ⟨h1, h2, rd_step h h2 h3⟩)
  have H3 : Hid (∀ b w, Blk w b (rdC S ([] ++ layT e.topic ++ layT e.prod).length) 100 → Calls Tryz.prog 41 #[.pointer (some ⟨b, 0, none⟩), .int .u64 18446744073709551615] w fun x w' => x = .returned (.int .u64 (e.seq : Int)) ∧ Blk w' b (rdC S ([] ++ layT e.topic ++ layT e.prod ++ pack e.seq).length) 100 ∧ Step w w' (some b)) := hide (fun b w h => by
    refine (number_any b S _ _ e.seq 18446744073709551615 w h hS2 (by omega) (by omega) hl).mono ?_
    rintro x w' ⟨h1, h2, h3⟩
    exact ⟨h1, h2, rd_step h h2 h3⟩)
  have H4 : Hid (∀ b w, Blk w b (rdC S ([] ++ layT e.topic ++ layT e.prod ++ pack e.seq).length) 100 → Calls Tryz.prog 41 #[.pointer (some ⟨b, 0, none⟩), .int .u64 8] w fun x w' => x = .returned (.int .u64 (e.l.length : Int)) ∧ Blk w' b (rdC S (atF e 0)) 100 ∧ Step w w' (some b)) := hide (fun b w h => by
    refine (number_any b S _ _ e.l.length 8 w h hS3 m4 (by omega) hl).mono ?_
    rintro x w' ⟨h1, h2, h3⟩
    have h4 : ([] ++ layT e.topic ++ layT e.prod ++ pack e.seq ++ pack e.l.length).length = atF e 0 := by unfold atF layH layFs; simp
    rw [h4] at h2
    exact ⟨h1, h2, rd_step h h2 h3⟩)
  have HIN : Hid (∀ i, i < e.l.length → (e.l.getD i .zero).In) := hide (fun i hi => hfs _ (by
    rw [List.getD_eq_getElem?_getD, List.getElem?_eq_getElem hi]
    exact List.getElem_mem _))
  have HFB : Hid (∀ i, i < e.l.length → fieldB (e.l.getD i .zero).name = true ∧ valB (e.l.getD i .zero) = true) := hide (fun i hi => by
    have h := fdsB_at e.l _ m5 i hi
    unfold fdB at h
    simp only [Bool.and_eq_true] at h
    exact h.1)
  have H5 : Hid (∀ i, i < e.l.length → ∀ b w, Blk w b (rdC S (atF e i)) 100 → Calls Tryz.prog 40 #[.pointer (some ⟨b, 0, none⟩), .int .u64 16] w fun x w' => x = .returned (.string (bs (e.l.getD i .zero).name)) ∧ Blk w' b (rdC S (atV e i)) 100 ∧ Step w w' (some b)) := hide (fun i hi b w h => by
    refine (text_any b S _ _ (e.l.getD i .zero).name 16 w h (by rw [← hS]; exact split_at e r i hi) (fieldB_length (HFB.out i hi).1) (by omega) hl).mono ?_
    rintro x w' ⟨h1, h2, h3⟩
    exact ⟨h1, h2, rd_step h h2 h3⟩)
  have H6 : Hid (∀ i, i < e.l.length → ∀ b w, Blk w b (rdC S (atV e i)) 100 → Calls Tryz.prog 42 #[.pointer (some ⟨b, 0, none⟩)] w fun x w' => x = .returned (.agg #[.bool (e.l.getD i .zero).num, .int .i64 (e.l.getD i .zero).n, .string (bs (e.l.getD i .zero).s)]) ∧ Blk w' b (rdC S (atF e (i + 1))) 100 ∧ Step w w' (some b)) := hide (fun i hi b w h => by
    refine (value_any b S _ (layFs (e.l.drop (i + 1)) ++ r) (e.l.getD i .zero) w h (by rw [← hS, split_at e r i hi]; simp only [List.append_assoc]) (HIN.out i hi) (HFB.out i hi).2 hl).mono ?_
    rintro x w' ⟨h1, h2, h3⟩
    rw [atF_next e i hi] at h2
    exact ⟨h1, h2, rd_step h h2 h3⟩)
  have HMY := hide (fun (a : Option Addr) (n c : Nat) (w : World) (hf : Fds w a n e.l) (hnc : n ≤ c ∧ c ≤ 9223372036854775807) (hv : Vars w) => evmay_any e a n c w hf hnc hin hv)
  rw [hm] at HMY
  have hend : atF e e.l.length = (layE e).length := by unfold atF; rw [List.take_length, ← layE_eq]
  have HEND := hide hend
  have HV := hide hv
  clear hm m1 m2 m3 m5 t1 t2 hS hS0 hS1 hS2 hS3 hv hend hfs hin
  obtain ⟨L, hL⟩ : ∃ z, e.l = z := ⟨_, rfl⟩
  rw [hL] at m4 H4 HIN HFB H5 H6 HMY HEND ⊢
  obtain ⟨n, hn⟩ : ∃ z, L.length = z := ⟨_, rfl⟩
  have HLN := hide hn
  rw [hn] at m4 H4 HIN HFB H5 H6 HEND
  obtain ⟨F, hF⟩ : ∃ z, atF e = z := ⟨_, rfl⟩
  obtain ⟨G, hG⟩ : ∃ z, atV e = z := ⟨_, rfl⟩
  rw [hF] at H4 H5 H6 HEND
  rw [hG] at H5 H6
  have HRD : Hid (∀ a, rdC S a = [.string (bs S), .int .i64 (a : Int), .int .i64 0]) := hide (fun _ => rfl)
  have hrd0 : rdC S 0 = [.string (bs S), .int .i64 0, .int .i64 0] := rfl
  obtain ⟨sv, hsv⟩ : ∃ z, bs S = z := ⟨_, rfl⟩
  rw [hsv] at HRD hrd0 ⊢
  obtain ⟨tv, htv⟩ : ∃ z, bs e.topic = z := ⟨_, rfl⟩
  obtain ⟨pv, hpv⟩ : ∃ z, bs e.prod = z := ⟨_, rfl⟩
  obtain ⟨sq, hsq'⟩ : ∃ z, (e.seq : Int) = z := ⟨_, rfl⟩
  obtain ⟨le, hle⟩ : ∃ z, (layE e).length = z := ⟨_, rfl⟩
  rw [htv] at H1 HMY ⊢
  rw [hpv] at H2 HMY ⊢
  rw [hsq'] at H3 HMY ⊢
  rw [hle] at HEND hel ⊢
  obtain ⟨A1, hA1⟩ : ∃ z, ([] ++ layT e.topic).length = z := ⟨_, rfl⟩
  rw [hA1] at H1 H2
  obtain ⟨A2, hA2⟩ : ∃ z, ([] ++ layT e.topic ++ layT e.prod).length = z := ⟨_, rfl⟩
  rw [hA2] at H2 H3
  obtain ⟨A3, hA3⟩ : ∃ z, ([] ++ layT e.topic ++ layT e.prod ++ pack e.seq).length = z := ⟨_, rfl⟩
  rw [hA3] at H3 H4
  clear hL hn hF hG hsv htv hpv hsq' hle hA1 hA2 hA3 hsq hl
  obtain ⟨B2, B5, B6⟩ := three_kinds w [.string ⟨#[]⟩, .string ⟨#[]⟩, .int .u64 0, .slice none 0 0] [.string sv, .int .i64 0, .int .i64 0] [.string ⟨#[]⟩, .string ⟨#[]⟩, .int .u64 0, .slice none 0 0] 37 100 37
  have hal : Below w.heap.size w (((w.alloc (.cells #[.string ⟨#[]⟩, .string ⟨#[]⟩, .int .u64 0, .slice none 0 0] 37)).alloc (.cells #[.string sv, .int .i64 0, .int .i64 0] 100)).alloc (.cells #[.string ⟨#[]⟩, .string ⟨#[]⟩, .int .u64 0, .slice none 0 0] 37)) := (((Below.refl _ _).alloc (Nat.le_refl _) _).alloc (by simp) _).alloc (by simp; omega) _
  obtain ⟨W1, hW1⟩ : ∃ z, (((w.alloc (.cells #[.string ⟨#[]⟩, .string ⟨#[]⟩, .int .u64 0, .slice none 0 0] 37)).alloc (.cells #[.string sv, .int .i64 0, .int .i64 0] 100)).alloc (.cells #[.string ⟨#[]⟩, .string ⟨#[]⟩, .int .u64 0, .slice none 0 0] 37)) = z := ⟨_, rfl⟩
  rw [hW1] at B2 B5 B6 hal
  go_enter Tryz.func16, Tryz.ntmps16
  go_upto_region 3 with fail
  try rw [hW1]
  clear hW1
  obtain ⟨b2, hb2⟩ : ∃ z, w.heap.size = z := ⟨_, rfl⟩
  rw [hb2] at B2 B5 B6 ⊢
  obtain ⟨b5, hb5⟩ : ∃ z, b2 + 1 = z := ⟨_, rfl⟩
  rw [hb5] at B5 ⊢
  obtain ⟨b6, hb6⟩ : ∃ z, b2 + 2 = z := ⟨_, rfl⟩
  have hb6' : b5 + 1 = b6 := by omega
  rw [hb6] at B6
  try rw [hb6]
  try rw [hb6']
  have hw2 : w.heap.size ≤ b2 := by omega
  have hw5 : w.heap.size ≤ b5 := by omega
  have hw6 : w.heap.size ≤ b6 := by omega
  have n25 : b2 ≠ b5 := by omega
  have n26 : b2 ≠ b6 := by omega
  have n56 : b5 ≠ b6 := by omega
  have n52 : b5 ≠ b2 := by omega
  have n62 : b6 ≠ b2 := by omega
  have n65 : b6 ≠ b5 := by omega
  rw [← hrd0] at B5
  have hwb : w.heap.size ≤ W1.heap.size := hal.size
  clear hb2 hb5 hb6 hb6' hrd0
  obtain ⟨p0, p1, p2, p3, p4, p5, p6, p7⟩ := B6.four
  go_wp2_with fail
  refine (H1.out _ _ B5).mono ?_
  rintro x w1 ⟨rfl, C5, st⟩
  have C2 := B2.step st n25
  have C6 := B6.step st n65
  have hb := Step.toBelow hal hwb st hw5
  have hwb1 := hb.size
  clear p0 p1 p2 p3 p4 p5 p6 p7 B2 B5 B6 hal st H1 hwb
  obtain ⟨p0, p1, p2, p3, p4, p5, p6, p7⟩ := C6.four
  go_upto_region 4 with fail
  obtain ⟨V1, hV1⟩ : ∃ z, w1.setCell ⟨b6, 0, none⟩ (.string tv) = z := ⟨_, rfl⟩
  rw [hV1]
  have D2 : Blk V1 b2 [.string ⟨#[]⟩, .string ⟨#[]⟩, .int .u64 0, .slice none 0 0] 37 := by rw [← hV1]; exact C2.other (a := ⟨b6, 0, none⟩) n26 _
  have D5 : Blk V1 b5 (rdC S A1) 100 := by rw [← hV1]; exact C5.other (a := ⟨b6, 0, none⟩) n56 _
  have D6 : Blk V1 b6 [.string tv, .string ⟨#[]⟩, .int .u64 0, .slice none 0 0] 37 := by rw [← hV1]; exact C6.set 0 _
  have hbd : Below w.heap.size w V1 := by rw [← hV1]; exact hb.setCell (p := ⟨b6, 0, none⟩) hw6 _
  clear hV1 C2 C5 C6 hb hwb1 p0 p1 p2 p3 p4 p5 p6 p7
  have hwb := hbd.size
  obtain ⟨p0, p1, p2, p3, p4, p5, p6, p7⟩ := D6.four
  go_wp2_with fail
  refine (H2.out _ _ D5).mono ?_
  rintro x w2 ⟨rfl, C5, st⟩
  have C2 := D2.step st n25
  have C6 := D6.step st n65
  have hb := Step.toBelow hbd hwb st hw5
  have hwb1 := hb.size
  clear p0 p1 p2 p3 p4 p5 p6 p7 D2 D5 D6 hbd st H2 hwb
  obtain ⟨p0, p1, p2, p3, p4, p5, p6, p7⟩ := C6.four
  go_upto_region 5 with fail
  obtain ⟨V2, hV2⟩ : ∃ z, w2.setCell ⟨b6, 1, none⟩ (.string pv) = z := ⟨_, rfl⟩
  rw [hV2]
  have D2 : Blk V2 b2 [.string ⟨#[]⟩, .string ⟨#[]⟩, .int .u64 0, .slice none 0 0] 37 := by rw [← hV2]; exact C2.other (a := ⟨b6, 1, none⟩) n26 _
  have D5 : Blk V2 b5 (rdC S A2) 100 := by rw [← hV2]; exact C5.other (a := ⟨b6, 1, none⟩) n56 _
  have D6 : Blk V2 b6 [.string tv, .string pv, .int .u64 0, .slice none 0 0] 37 := by rw [← hV2]; exact C6.set 1 _
  have hbd : Below w.heap.size w V2 := by rw [← hV2]; exact hb.setCell (p := ⟨b6, 1, none⟩) hw6 _
  clear hV2 C2 C5 C6 hb hwb1 p0 p1 p2 p3 p4 p5 p6 p7
  have hwb := hbd.size
  obtain ⟨p0, p1, p2, p3, p4, p5, p6, p7⟩ := D6.four
  go_wp2_with fail
  refine (H3.out _ _ D5).mono ?_
  rintro x w3 ⟨rfl, C5, st⟩
  have C2 := D2.step st n25
  have C6 := D6.step st n65
  have hb := Step.toBelow hbd hwb st hw5
  have hwb1 := hb.size
  clear p0 p1 p2 p3 p4 p5 p6 p7 D2 D5 D6 hbd st H3 hwb
  obtain ⟨p0, p1, p2, p3, p4, p5, p6, p7⟩ := C6.four
  go_upto_region 6 with fail
  obtain ⟨V3, hV3⟩ : ∃ z, w3.setCell ⟨b6, 2, none⟩ (.int .u64 sq) = z := ⟨_, rfl⟩
  rw [hV3]
  have D2 : Blk V3 b2 [.string ⟨#[]⟩, .string ⟨#[]⟩, .int .u64 0, .slice none 0 0] 37 := by rw [← hV3]; exact C2.other (a := ⟨b6, 2, none⟩) n26 _
  have D5 : Blk V3 b5 (rdC S A3) 100 := by rw [← hV3]; exact C5.other (a := ⟨b6, 2, none⟩) n56 _
  have D6 : Blk V3 b6 [.string tv, .string pv, .int .u64 sq, .slice none 0 0] 37 := by rw [← hV3]; exact C6.set 2 _
  have hbd : Below w.heap.size w V3 := by rw [← hV3]; exact hb.setCell (p := ⟨b6, 2, none⟩) hw6 _
  clear hV3 C2 C5 C6 hb hwb1 p0 p1 p2 p3 p4 p5 p6 p7
  have hwb := hbd.size
  obtain ⟨p0, p1, p2, p3, p4, p5, p6, p7⟩ := D6.four
  go_wp2_with fail
  refine (H4.out _ _ D5).mono ?_
  rintro x w4 ⟨rfl, C5, st⟩
  have C2 := D2.step st n25
  have C6 := D6.step st n65
  have hb := Step.toBelow hbd hwb st hw5
  have hwb1 := hb.size
  clear p0 p1 p2 p3 p4 p5 p6 p7 D2 D5 D6 hbd st H4 hwb
  obtain ⟨p0, p1, p2, p3, p4, p5, p6, p7⟩ := C6.four
  by_cases hn0 : n = 0
  · subst hn0
    go_wp2_with fail
    clear p0 p1 p2 p3 p4 p5 p6 p7
    go_loopw [26] (fun s26 wr => s26 = .int .i64 0 ∧ wr = w4) (fun _ _ => 0)
    case atStart => exact ⟨rfl, rfl⟩
    case round =>
      obtain ⟨rfl, rfl⟩ := hrel
      have h2 := hide C2
      have h5 := hide C5
      have h6 := hide C6
      have hbw := hb
      clear C2 C5 C6 hb hwb1
      have HRG : Hid (∀ x ∈ L, x.In) := hide (fun x hx => by
        obtain ⟨j, hj, rfl⟩ := List.getElem_of_mem hx
        have h := HIN.out j (by have := HLN.out; omega)
        rw [List.getD_eq_getElem?_getD, List.getElem?_eq_getElem hj] at h
        exact h)
      have hL0 : L = [] := List.eq_nil_of_length_eq_zero HLN.out
      have HFDS : Hid (Fds wr none 0 L) := hide ⟨HLN.out, HRG.out, by rw [hL0]; exact .inl rfl⟩
      have HL0 := hide hL0
      clear hL0
      obtain ⟨p0, p1, p2, p3, p4, p5, p6, p7⟩ := h6.out.four
      have KR : Hid (Blk wr b5 [.string sv, .int .i64 (le : Int), .int .i64 0] 100) := hide (by rw [← HEND.out, ← HRD.out]; exact h5.out)
      obtain ⟨q0, q1, q2, q3, q4, q5⟩ := KR.out.three'
      have hle8 : ¬ (800 : Int) < (le : Int) := by omega
      go_wp2_with fail
      refine (HMY.out none 0 0 _ HFDS.out ⟨by omega, by omega⟩ (HV.out.next hbw)).mono ?_
      rintro x wz ⟨rfl, hbz⟩
      have K2 := h2.out.next hbz
      have K6 := h6.out.next hbz
      have K5 := KR.out.next hbz
      have hbv := chain hbw hbz
      clear p0 p1 p2 p3 p4 p5 p6 p7 q0 q1 q2 q3 q4 q5 h2 h5 h6 hbz KR
      obtain ⟨p0, p1, p2, p3, p4, p5, p6, p7⟩ := K6.four
      obtain ⟨q0, q1, q2, q3, q4, q5⟩ := K5.three'
      obtain ⟨r0, r1, r2, r3, r4, r5, r6, r7⟩ := K2.four
      go_upto_region 19 with fail
      go_region_held3 (fun w' => w'.cell? ⟨b5, 1, none⟩ = some (.int .i64 (le : Int)) ∧ w'.cell? ⟨b6, 0, none⟩ = some (.string tv) ∧ w'.cell? ⟨b6, 1, none⟩ = some (.string pv) ∧ w'.cell? ⟨b6, 2, none⟩ = some (.int .u64 sq) ∧ w'.cell? ⟨b6, 3, none⟩ = some (.slice none 0 0)) (go_keep) (fail)
      go_wp2_with fail
      exact bodyPost_ret (v := .tuple #[.agg #[.string tv, .string pv, .int .u64 sq, .slice none 0 0], .int .i64 (le : Int), .int .i64 0]) (by simp [results, Tryz.results16, go_sem, r0, r1, r2, r3]) rfl ⟨_, _, _, rfl, ⟨HLN.out, HRG.out, by rw [HL0.out]; exact .inl rfl⟩, ⟨by omega, by omega⟩, Below.drewed (below4 hbv hw2 _ _ _ _)⟩
  · have hpos : (0 : Int) < (n : Int) := by omega
    have hmk := mk_fields n m4
    have B7 := Blk.new w4 (fdVals (List.replicate n Fd.zero)) 80
    have hal : Below w4.heap.size w4 (w4.alloc (.cells (fdVals (List.replicate n Fd.zero)).toArray 80)) := (Below.refl _ _).alloc (Nat.le_refl _) _
    have E2 := C2.next hal
    have E5 := C5.next hal
    have E6 := C6.next hal
    have hbe := chain hb hal
    have h2l := C2.lt
    have h5l := C5.lt
    have h6l := C6.lt
    clear p0 p1 p2 p3 p4 p5 p6 p7
    obtain ⟨p0, p1, p2, p3, p4, p5, p6, p7⟩ := E6.four
    obtain ⟨Wm, hWm⟩ : ∃ z, w4.alloc (.cells (fdVals (List.replicate n Fd.zero)).toArray 80) = z := ⟨_, rfl⟩
    have hmk4 := hmk w4
    rw [hWm] at B7 E2 E5 E6 hbe p0 p1 p2 p3 p4 p5 p6 p7 hmk4
    obtain ⟨b7, hb7⟩ : ∃ z, w4.heap.size = z := ⟨_, rfl⟩
    rw [hb7] at B7 h2l h5l h6l hmk4
    clear hmk hal hWm hb7 C2 C5 C6 hb
    go_upto_region 9 with fail
    obtain ⟨V5, hV5⟩ : ∃ z, Wm.setCell ⟨b6, 3, none⟩ (.slice (some ⟨b7, 0, none⟩) n n) = z := ⟨_, rfl⟩
    rw [hV5]
    have n72 : b7 ≠ b2 := by omega
    have n75 : b7 ≠ b5 := by omega
    have n76 : b7 ≠ b6 := by omega
    have n27 : b2 ≠ b7 := by omega
    have n57 : b5 ≠ b7 := by omega
    have n67 : b6 ≠ b7 := by omega
    have hw7 : w.heap.size ≤ b7 := by omega
    have G2 : Blk V5 b2 [.string ⟨#[]⟩, .string ⟨#[]⟩, .int .u64 0, .slice none 0 0] 37 := by rw [← hV5]; exact E2.other (a := ⟨b6, 3, none⟩) n26 _
    have G5 : Blk V5 b5 (rdC S (F 0)) 100 := by rw [← hV5]; exact E5.other (a := ⟨b6, 3, none⟩) n56 _
    have G6 : Blk V5 b6 [.string tv, .string pv, .int .u64 sq, .slice (some ⟨b7, 0, none⟩) n n] 37 := by rw [← hV5]; exact E6.set 3 _
    have G7 : Blk V5 b7 (fdVals (List.replicate n Fd.zero)) 80 := by rw [← hV5]; exact B7.other (a := ⟨b6, 3, none⟩) n76 _
    have hbg : Below w.heap.size w V5 := by rw [← hV5]; exact hbe.setCell (p := ⟨b6, 3, none⟩) hw6 _
    clear hV5 E2 E5 E6 B7 hbe p0 p1 p2 p3 p4 p5 p6 p7 hmk4 hwb1 h2l h5l h6l
    obtain ⟨p0, p1, p2, p3, p4, p5, p6, p7⟩ := G6.four
    go_wp2_with fail
    clear p0 p1 p2 p3 p4 p5 p6 p7
    have hdt : decide (0 < n) = true := decide_eq_true (by omega)
    rw [hdt]
    clear hdt
    go_loopw [26] (fun s26 wr => ∃ i : Nat, i ≤ n ∧ s26 = .int .i64 (i : Int) ∧ Hid (Blk wr b2 [.string ⟨#[]⟩, .string ⟨#[]⟩, .int .u64 0, .slice none 0 0] 37) ∧ Hid (Blk wr b5 (rdC S (F i)) 100) ∧ Hid (Blk wr b6 [.string tv, .string pv, .int .u64 sq, .slice (some ⟨b7, 0, none⟩) n n] 37) ∧ Hid (Blk wr b7 (fdVals (L.take i ++ List.replicate (n - i) Fd.zero)) 80) ∧ Below w.heap.size w wr) (fun s26 _ => n - (intOf s26).toNat)
    case atStart => exact ⟨0, Nat.zero_le _, rfl, hide G2, hide G5, hide G6, hide (by simpa using G7), hbg⟩
    case round =>
      obtain ⟨i, hin, rfl, h2, h5, h6, h7, hbw⟩ := hrel
      clear G2 G5 G6 G7 hbg
      by_cases hlt : i < n
      · have hlti : (i : Int) < (n : Int) := by omega
        have hq := q_len L n i HLN.out (Nat.le_of_lt hlt)
        obtain ⟨e0, e1, e2, e3⟩ := fdVals_at (L.take i ++ List.replicate (n - i) Fd.zero) i (by omega)
        have HQN := hide (q_next L n i HLN.out hlt)
        have HSET := hide (fdVals_set (L.take i ++ List.replicate (n - i) Fd.zero) (L.getD i .zero) i (by omega))
        have HTi := hide (H5.out i hlt)
        have HVi := hide (H6.out i hlt)
        have hix : ∀ W, (Instr.indexAt 35 (.slice (some ⟨b7, 0, none⟩) n n) (.int .i64 (i : Int))).run Tryz.prog W = .ok (.pointer (some ⟨b7, i * 4, none⟩)) W := fun W => by
          have h := idx_fds b7 0 n n i hlt W
          rw [Nat.zero_add] at h
          exact h
        obtain ⟨vs, hvs⟩ : ∃ z, fdVals (L.take i ++ List.replicate (n - i) Fd.zero) = z := ⟨_, rfl⟩
        rw [hvs] at h7 HSET e0 e1 e2 e3
        obtain ⟨z0, hz0⟩ : ∃ z, Value.string (bs ((L.take i ++ List.replicate (n - i) Fd.zero).getD i .zero).name) = z := ⟨_, rfl⟩
        obtain ⟨z1, hz1⟩ : ∃ z, Value.bool ((L.take i ++ List.replicate (n - i) Fd.zero).getD i .zero).num = z := ⟨_, rfl⟩
        obtain ⟨z2, hz2⟩ : ∃ z, Value.int .i64 ((L.take i ++ List.replicate (n - i) Fd.zero).getD i .zero).n = z := ⟨_, rfl⟩
        obtain ⟨z3, hz3⟩ : ∃ z, Value.string (bs ((L.take i ++ List.replicate (n - i) Fd.zero).getD i .zero).s) = z := ⟨_, rfl⟩
        rw [hz0] at e0
        rw [hz1] at e1
        rw [hz2] at e2
        rw [hz3] at e3
        have HE := hide (And.intro e0 (And.intro e1 (And.intro e2 e3)))
        obtain ⟨nv, hnv⟩ : ∃ z, bs (L.getD i .zero).name = z := ⟨_, rfl⟩
        obtain ⟨fnum, hfnum⟩ : ∃ z, (L.getD i .zero).num = z := ⟨_, rfl⟩
        obtain ⟨fn, hfn⟩ : ∃ z, (L.getD i .zero).n = z := ⟨_, rfl⟩
        obtain ⟨fs, hfs⟩ : ∃ z, bs (L.getD i .zero).s = z := ⟨_, rfl⟩
        rw [hnv] at HTi HSET
        rw [hfnum, hfn, hfs] at HVi HSET
        have hwb := hbw.size
        clear hq e0 e1 e2 e3 hvs hz0 hz1 hz2 hz3 hnv hfnum hfn hfs
        go_upto_region 12 with fail
        refine wp_region_noPanic ?_
        refine wp_region_held_drew (S := (fun w' => w'.cell? ⟨b6, 3, none⟩ = some (.slice (some ⟨b7, 0, none⟩) n n))) (by kernel_rfl) ?_ (fun hHeld => ?_)
        · exact (blk_drew h6.out).cell 3
        refine wpAnyH_take (i := 0) (oi := { dst := some 29, op := Go.Op.fieldAddr 37 (Go.Operand.tmp 6) 3, type := 0, pos := "event.go:154", after := #[], guard := none }) (v := ?_) rfl (by kernel_rfl) (by kernel_rfl) (by kernel_rfl) (fun _ _ _ h => h) (Or.inl ⟨by rfl, ?_⟩) (by assumption) ?_
        rotate_left 1
        · intro w hSw
          try dsimp only at hSw
          first | (go_simp; done) | (go_simp; with_reducible rfl)
        try simp only [Act.put, List.setIfInBounds_toArray, List.set_cons_zero, List.set_cons_succ]
        refine wpAnyH_take (i := 1) (oi := { dst := some 30, op := Go.Op.load 35 (Go.Operand.tmp 29), type := 35, pos := "event.go:154", after := #[{ on := 0, ground := Go.Ground.data }], guard := none }) (v := ?_) rfl (by kernel_rfl) (by kernel_rfl) (by kernel_rfl) (fun _ _ _ h => h) (Or.inl ⟨by rfl, ?_⟩) (by assumption) ?_
        rotate_left 1
        · intro w hSw
          try dsimp only at hSw
          first | (go_simp; done) | (go_simp; with_reducible rfl)
        try simp only [Act.put, List.setIfInBounds_toArray, List.set_cons_zero, List.set_cons_succ]
        refine wpAnyH_take (i := 2) (oi := { dst := some 31, op := Go.Op.move (Go.Operand.tmp 8), type := 3, pos := "event.go:154", after := #[], guard := none }) (v := ?_) rfl (by kernel_rfl) (by kernel_rfl) (by kernel_rfl) (fun _ _ _ h => h) (Or.inl ⟨by rfl, ?_⟩) (by assumption) ?_
        rotate_left 1
        · intro w hSw
          try dsimp only at hSw
          first | (go_simp; done) | (go_simp; with_reducible rfl)
        try simp only [Act.put, List.setIfInBounds_toArray, List.set_cons_zero, List.set_cons_succ]
        refine wpAnyH_ready (rs := [3]) (by kernel_rfl) (by simp) ?_
        refine AllReadyH.cons (o := { dst := some 32, op := Go.Op.call { callee := Go.Callee.value (Go.Operand.func 40), args := #[Go.Operand.tmp 5, Go.Operand.const (Go.Value.int Go.IntKind.u64 16)], argTypes := #[100, 23] }, type := 9, pos := "event.go:154", after := #[], guard := none }) rfl (fun K hK => ?_) ?_
        rotate_left 1
        · exact AllReadyH.nil
        go_simp
        have K5 := blk_drew h5.out
        refine (HTi.out _ _ K5).mono ?_
        rintro x wb ⟨rfl, C5, st⟩
        have K2 := hide ((blk_drew h2.out).step st n25)
        have K6 := hide ((blk_drew h6.out).step st n65)
        have K7 := hide ((blk_drew h7.out).step st n75)
        have KK5 := hide C5
        have hbx := Step.toBelow (Below.drewed hbw) hwb st hw5
        have q7 : wb.cell? ⟨b7, i * 4, none⟩ = some z0 := by rw [K7.out.cell]; exact HE.out.1
        have f7 := K7.out.free (i * 4)
        clear K5 C5 st h2 h5 h6 h7 hbw hwb
        refine hK.out _ _ ?_ (fun hHeld2 => ?_)
        · first | exact K6.out.cell 3 | exact (Blk.other K6.out (a := ⟨b7, _, none⟩) n67 _).cell 3
        clear hK K
        try simp only [Act.put, List.setIfInBounds_toArray, List.set_cons_zero, List.set_cons_succ]
        clear hHeld
        have hHeld := hHeld2
        clear hHeld2
        refine wpAnyH_take (i := 4) (oi := { dst := some 33, op := Go.Op.indexAddr 35 (Go.Operand.tmp 30) (Go.Operand.tmp 31), type := 0, pos := "event.go:154", after := #[{ on := 1, ground := Go.Ground.data }, { on := 2, ground := Go.Ground.data }, { on := 0, ground := Go.Ground.phase }, { on := 1, ground := Go.Ground.phase }, { on := 2, ground := Go.Ground.phase }, { on := 3, ground := Go.Ground.phase }], guard := none }) (v := ?_) rfl (by kernel_rfl) (by kernel_rfl) (by kernel_rfl) (fun _ _ _ h => h) (Or.inl ⟨by rfl, ?_⟩) (by assumption) ?_
        rotate_left 1
        · intro w hSw
          try dsimp only at hSw
          first | (go_simp; done) | (go_simp; with_reducible rfl)
        try simp only [Act.put, List.setIfInBounds_toArray, List.set_cons_zero, List.set_cons_succ]
        refine wpAnyH_take (i := 5) (oi := { dst := some 34, op := Go.Op.fieldAddr 80 (Go.Operand.tmp 33) 0, type := 0, pos := "event.go:154", after := #[{ on := 4, ground := Go.Ground.data }, { on := 0, ground := Go.Ground.phase }, { on := 1, ground := Go.Ground.phase }, { on := 2, ground := Go.Ground.phase }, { on := 3, ground := Go.Ground.phase }], guard := none }) (v := ?_) rfl (by kernel_rfl) (by kernel_rfl) (by kernel_rfl) (fun _ _ _ h => h) (Or.inl ⟨by rfl, ?_⟩) (by assumption) ?_
        rotate_left 1
        · intro w hSw
          try dsimp only at hSw
          first | (go_simp; done) | (go_simp; with_reducible rfl)
        try simp only [Act.put, List.setIfInBounds_toArray, List.set_cons_zero, List.set_cons_succ]
        refine wpAnyH_ready (rs := [6]) (by kernel_rfl) (by simp) ?_
        refine AllReadyH.cons (o := { dst := none, op := Go.Op.store 9 (Go.Operand.tmp 34) (Go.Operand.tmp 32), type := 0, pos := "event.go:154", after := #[{ on := 5, ground := Go.Ground.data }, { on := 3, ground := Go.Ground.data }, { on := 3, ground := Go.Ground.chain }, { on := 0, ground := Go.Ground.phase }, { on := 1, ground := Go.Ground.phase }, { on := 2, ground := Go.Ground.phase }, { on := 3, ground := Go.Ground.phase }], guard := none }) rfl (fun K hK => ?_) ?_
        rotate_left 1
        · exact AllReadyH.nil
        go_simp
        refine hK.out _ _ ?_ (fun hHeld2 => ?_)
        · first | exact hHeld | (first | exact K6.out.cell 3 | exact (Blk.other K6.out (a := ⟨b7, _, none⟩) n67 _).cell 3)
        clear hK K
        try simp only [Act.put, List.setIfInBounds_toArray, List.set_cons_zero, List.set_cons_succ]
        clear hHeld
        have hHeld := hHeld2
        clear hHeld2
        refine wpAnyH_done (by kernel_rfl) ?_ _
        refine NoPanic.normal ?_
        try dsimp only
        obtain ⟨V8, hV8⟩ : ∃ z, wb.setCell ⟨b7, i * 4, none⟩ (.string nv) = z := ⟨_, rfl⟩
        rw [hV8]
        have M2 := hide (show Blk V8 b2 _ _ by rw [← hV8]; exact K2.out.other (a := ⟨b7, i * 4, none⟩) n27 _)
        have M5 := hide (show Blk V8 b5 _ _ by rw [← hV8]; exact KK5.out.other (a := ⟨b7, i * 4, none⟩) n57 _)
        have M6 := hide (show Blk V8 b6 _ _ by rw [← hV8]; exact K6.out.other (a := ⟨b7, i * 4, none⟩) n67 _)
        have M7 := hide (show Blk V8 b7 _ _ by rw [← hV8]; exact K7.out.set (i * 4) (.string nv))
        have hbm : Below w.heap.size w V8 := by rw [← hV8]; exact hbx.setCell (p := ⟨b7, i * 4, none⟩) hw7 _
        have hwm := hbm.size
        clear hV8 K2 KK5 K6 K7 hbx q7 f7 HTi
        try clear hHeld
        go_upto_region 13 with fail
        refine wp_region_noPanic ?_
        refine wp_region_held_drew (S := (fun w' => w'.cell? ⟨b6, 3, none⟩ = some (.slice (some ⟨b7, 0, none⟩) n n))) (by kernel_rfl) ?_ (fun hHeld => ?_)
        · exact (blk_drew M6.out).cell 3
        refine wpAnyH_take (i := 0) (oi := { dst := some 35, op := Go.Op.fieldAddr 37 (Go.Operand.tmp 6) 3, type := 0, pos := "event.go:155", after := #[], guard := none }) (v := ?_) rfl (by kernel_rfl) (by kernel_rfl) (by kernel_rfl) (fun _ _ _ h => h) (Or.inl ⟨by rfl, ?_⟩) (by assumption) ?_
        rotate_left 1
        · intro w hSw
          try dsimp only at hSw
          first | (go_simp; done) | (go_simp; with_reducible rfl)
        try simp only [Act.put, List.setIfInBounds_toArray, List.set_cons_zero, List.set_cons_succ]
        refine wpAnyH_take (i := 1) (oi := { dst := some 36, op := Go.Op.load 35 (Go.Operand.tmp 35), type := 35, pos := "event.go:155", after := #[{ on := 0, ground := Go.Ground.data }], guard := none }) (v := ?_) rfl (by kernel_rfl) (by kernel_rfl) (by kernel_rfl) (fun _ _ _ h => h) (Or.inl ⟨by rfl, ?_⟩) (by assumption) ?_
        rotate_left 1
        · intro w hSw
          try dsimp only at hSw
          first | (go_simp; done) | (go_simp; with_reducible rfl)
        try simp only [Act.put, List.setIfInBounds_toArray, List.set_cons_zero, List.set_cons_succ]
        refine wpAnyH_take (i := 2) (oi := { dst := some 37, op := Go.Op.move (Go.Operand.tmp 8), type := 3, pos := "event.go:155", after := #[], guard := none }) (v := ?_) rfl (by kernel_rfl) (by kernel_rfl) (by kernel_rfl) (fun _ _ _ h => h) (Or.inl ⟨by rfl, ?_⟩) (by assumption) ?_
        rotate_left 1
        · intro w hSw
          try dsimp only at hSw
          first | (go_simp; done) | (go_simp; with_reducible rfl)
        try simp only [Act.put, List.setIfInBounds_toArray, List.set_cons_zero, List.set_cons_succ]
        refine wpAnyH_ready (rs := [3]) (by kernel_rfl) (by simp) ?_
        refine AllReadyH.cons (o := { dst := some 38, op := Go.Op.call { callee := Go.Callee.value (Go.Operand.func 42), args := #[Go.Operand.tmp 5], argTypes := #[100] }, type := 78, pos := "event.go:155", after := #[], guard := none }) rfl (fun K hK => ?_) ?_
        rotate_left 1
        · exact AllReadyH.nil
        go_simp
        have K5 := blk_drew M5.out
        refine (HVi.out _ _ K5).mono ?_
        rintro x wd ⟨rfl, C5, st⟩
        have K2 := hide ((blk_drew M2.out).step st n25)
        have K6 := hide ((blk_drew M6.out).step st n65)
        have K7 := hide ((blk_drew M7.out).step st n75)
        have KK5 := hide C5
        have hbx := Step.toBelow (Below.drewed hbm) hwm st hw5
        have q71 : wd.cell? ⟨b7, i * 4 + 1, none⟩ = some z1 := by rw [K7.out.cell, List.getElem?_set_ne (by omega)]; exact HE.out.2.1
        have q72 : wd.cell? ⟨b7, i * 4 + 2, none⟩ = some z2 := by rw [K7.out.cell, List.getElem?_set_ne (by omega)]; exact HE.out.2.2.1
        have q73 : wd.cell? ⟨b7, i * 4 + 3, none⟩ = some z3 := by rw [K7.out.cell, List.getElem?_set_ne (by omega)]; exact HE.out.2.2.2
        have f71 := K7.out.free (i * 4 + 1)
        have f72 := K7.out.free (i * 4 + 2)
        have f73 := K7.out.free (i * 4 + 3)
        clear K5 C5 st M2 M5 M6 M7 hbm hwm
        refine hK.out _ _ ?_ (fun hHeld2 => ?_)
        · first | exact K6.out.cell 3 | exact (Blk.other (Blk.other (Blk.other K6.out (a := ⟨b7, _, none⟩) n67 _) (a := ⟨b7, _, none⟩) n67 _) (a := ⟨b7, _, none⟩) n67 _).cell 3
        clear hK K
        try simp only [Act.put, List.setIfInBounds_toArray, List.set_cons_zero, List.set_cons_succ]
        clear hHeld
        have hHeld := hHeld2
        clear hHeld2
        refine wpAnyH_take (i := 4) (oi := { dst := some 39, op := Go.Op.indexAddr 35 (Go.Operand.tmp 36) (Go.Operand.tmp 37), type := 0, pos := "event.go:155", after := #[{ on := 1, ground := Go.Ground.data }, { on := 2, ground := Go.Ground.data }, { on := 0, ground := Go.Ground.phase }, { on := 1, ground := Go.Ground.phase }, { on := 2, ground := Go.Ground.phase }, { on := 3, ground := Go.Ground.phase }], guard := none }) (v := ?_) rfl (by kernel_rfl) (by kernel_rfl) (by kernel_rfl) (fun _ _ _ h => h) (Or.inl ⟨by rfl, ?_⟩) (by assumption) ?_
        rotate_left 1
        · intro w hSw
          try dsimp only at hSw
          first | (go_simp; done) | (go_simp; with_reducible rfl)
        try simp only [Act.put, List.setIfInBounds_toArray, List.set_cons_zero, List.set_cons_succ]
        refine wpAnyH_take (i := 5) (oi := { dst := some 40, op := Go.Op.fieldAddr 80 (Go.Operand.tmp 39) 1, type := 0, pos := "event.go:155", after := #[{ on := 4, ground := Go.Ground.data }, { on := 0, ground := Go.Ground.phase }, { on := 1, ground := Go.Ground.phase }, { on := 2, ground := Go.Ground.phase }, { on := 3, ground := Go.Ground.phase }], guard := none }) (v := ?_) rfl (by kernel_rfl) (by kernel_rfl) (by kernel_rfl) (fun _ _ _ h => h) (Or.inl ⟨by rfl, ?_⟩) (by assumption) ?_
        rotate_left 1
        · intro w hSw
          try dsimp only at hSw
          first | (go_simp; done) | (go_simp; with_reducible rfl)
        try simp only [Act.put, List.setIfInBounds_toArray, List.set_cons_zero, List.set_cons_succ]
        refine wpAnyH_ready (rs := [6]) (by kernel_rfl) (by simp) ?_
        refine AllReadyH.cons (o := { dst := none, op := Go.Op.store 78 (Go.Operand.tmp 40) (Go.Operand.tmp 38), type := 0, pos := "event.go:155", after := #[{ on := 5, ground := Go.Ground.data }, { on := 3, ground := Go.Ground.data }, { on := 3, ground := Go.Ground.chain }, { on := 0, ground := Go.Ground.phase }, { on := 1, ground := Go.Ground.phase }, { on := 2, ground := Go.Ground.phase }, { on := 3, ground := Go.Ground.phase }], guard := none }) rfl (fun K hK => ?_) ?_
        rotate_left 1
        · exact AllReadyH.nil
        go_simp
        refine hK.out _ _ ?_ (fun hHeld2 => ?_)
        · first | exact hHeld | (first | exact K6.out.cell 3 | exact (Blk.other (Blk.other (Blk.other K6.out (a := ⟨b7, _, none⟩) n67 _) (a := ⟨b7, _, none⟩) n67 _) (a := ⟨b7, _, none⟩) n67 _).cell 3)
        clear hK K
        try simp only [Act.put, List.setIfInBounds_toArray, List.set_cons_zero, List.set_cons_succ]
        clear hHeld
        have hHeld := hHeld2
        clear hHeld2
        refine wpAnyH_done (by kernel_rfl) ?_ _
        refine NoPanic.normal ?_
        try dsimp only
        obtain ⟨V9, hV9⟩ : ∃ z, ((wd.setCell ⟨b7, i * 4 + 1, none⟩ (.bool fnum)).setCell ⟨b7, i * 4 + 1 + 1, none⟩ (.int .i64 fn)).setCell ⟨b7, i * 4 + 1 + 2, none⟩ (.string fs) = z := ⟨_, rfl⟩
        rw [hV9]
        have N2 := hide (show Blk V9 b2 _ _ by rw [← hV9]; exact ((K2.out.other (a := ⟨b7, i * 4 + 1, none⟩) n27 _).other (a := ⟨b7, i * 4 + 1 + 1, none⟩) n27 _).other (a := ⟨b7, i * 4 + 1 + 2, none⟩) n27 _)
        have N5 := hide (show Blk V9 b5 _ _ by rw [← hV9]; exact ((KK5.out.other (a := ⟨b7, i * 4 + 1, none⟩) n57 _).other (a := ⟨b7, i * 4 + 1 + 1, none⟩) n57 _).other (a := ⟨b7, i * 4 + 1 + 2, none⟩) n57 _)
        have N6 := hide (show Blk V9 b6 _ _ by rw [← hV9]; exact ((K6.out.other (a := ⟨b7, i * 4 + 1, none⟩) n67 _).other (a := ⟨b7, i * 4 + 1 + 1, none⟩) n67 _).other (a := ⟨b7, i * 4 + 1 + 2, none⟩) n67 _)
        have N7 : Hid (Blk V9 b7 (fdVals (L.take (i + 1) ++ List.replicate (n - (i + 1)) Fd.zero)) 80) := hide (by
          rw [← HQN.out, HSET.out, ← hV9]
          exact ((K7.out.set (i * 4 + 1) (.bool fnum)).set (i * 4 + 1 + 1) (.int .i64 fn)).set (i * 4 + 1 + 2) (.string fs))
        have hbn : Below w.heap.size w V9 := by rw [← hV9]; exact ((hbx.setCell (p := ⟨b7, i * 4 + 1, none⟩) hw7 _).setCell (p := ⟨b7, i * 4 + 1 + 1, none⟩) hw7 _).setCell (p := ⟨b7, i * 4 + 1 + 2, none⟩) hw7 _
        clear hV9 K2 KK5 K6 K7 hbx q71 q72 q73 f71 f72 f73 HVi HQN HSET HE
        try clear hHeld
        go_wp2_with fail
        go_roundw
        case rel => exact ⟨i + 1, by omega, by go_num, N2, N5, N6, N7, hbn⟩
        case measure => simp [intOf]; omega
      · obtain rfl : i = n := by omega
        have HRG : Hid (∀ x ∈ L, x.In) := hide (fun x hx => by
          obtain ⟨j, hj, rfl⟩ := List.getElem_of_mem hx
          have h := HIN.out j (by have := HLN.out; omega)
          rw [List.getD_eq_getElem?_getD, List.getElem?_eq_getElem hj] at h
          exact h)
        have HB7 : Hid (Blk wr b7 (fdVals L) 80) := hide (by
          have h := h7.out
          have hf : L.take i = L := by have := HLN.out; rw [← this]; exact List.take_length
          rw [hf, Nat.sub_self, List.replicate_zero, List.append_nil] at h
          exact h)
        have HFDS : Hid (Fds wr (some ⟨b7, 0, none⟩) i L) := hide ⟨HLN.out, HRG.out, fds_row HB7.out⟩
        obtain ⟨p0, p1, p2, p3, p4, p5, p6, p7⟩ := h6.out.four
        have KR : Hid (Blk wr b5 [.string sv, .int .i64 (le : Int), .int .i64 0] 100) := hide (by rw [← HEND.out, ← HRD.out]; exact h5.out)
        obtain ⟨q0, q1, q2, q3, q4, q5⟩ := KR.out.three'
        have hle8 : ¬ (800 : Int) < (le : Int) := by omega
        go_wp2_with fail
        refine (HMY.out (some ⟨b7, 0, none⟩) i i _ HFDS.out ⟨by omega, by omega⟩ (HV.out.next hbw)).mono ?_
        rintro x wz ⟨rfl, hbz⟩
        have K2 := h2.out.next hbz
        have K6 := h6.out.next hbz
        have K5 := KR.out.next hbz
        have hbv := chain hbw hbz
        have K7 := HB7.out.next hbz
        clear p0 p1 p2 p3 p4 p5 p6 p7 q0 q1 q2 q3 q4 q5 h2 h5 h6 hbz KR
        obtain ⟨p0, p1, p2, p3, p4, p5, p6, p7⟩ := K6.four
        obtain ⟨q0, q1, q2, q3, q4, q5⟩ := K5.three'
        obtain ⟨r0, r1, r2, r3, r4, r5, r6, r7⟩ := K2.four
        go_upto_region 19 with fail
        go_region_held3 (fun w' => w'.cell? ⟨b5, 1, none⟩ = some (.int .i64 (le : Int)) ∧ w'.cell? ⟨b6, 0, none⟩ = some (.string tv) ∧ w'.cell? ⟨b6, 1, none⟩ = some (.string pv) ∧ w'.cell? ⟨b6, 2, none⟩ = some (.int .u64 sq) ∧ w'.cell? ⟨b6, 3, none⟩ = some (.slice (some ⟨b7, 0, none⟩) i i)) (go_keep) (fail)
        go_wp2_with fail
        exact bodyPost_ret (v := .tuple #[.agg #[.string tv, .string pv, .int .u64 sq, .slice (some ⟨b7, 0, none⟩) i i], .int .i64 (le : Int), .int .i64 0]) (by simp [results, Tryz.results16, go_sem, r0, r1, r2, r3]) rfl ⟨_, _, _, rfl, ⟨HLN.out, HRG.out, fds_row (K7.other4 n72 _ _ _ _)⟩, ⟨by omega, by omega⟩, Below.drewed (below4 hbv hw2 _ _ _ _)⟩

end Go.Proofs.YtogonkoeginoaaaGreatDoor
