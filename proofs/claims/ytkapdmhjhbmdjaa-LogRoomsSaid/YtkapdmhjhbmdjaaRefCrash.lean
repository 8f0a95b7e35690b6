/-
  The walk through the document's Crash of layer 17.
-/
import Derived.Test.YtkapdmhjhbmdjaaRefWrite
import Derived.Test.YtkapdmhjhbmdjaaDskCrash
import Derived.Deep.DeepMust
namespace Go.Proofs.Ytkapdmhjhbmdjaa
open Go.RowKit

/-- How many octets of a write are new. -/
def newN (kept : Nat) (tn cut : Int) (i : Nat) : Int := if (i : Int) = tn then cut else if keepsB kept i then 64 else 0

theorem torn_zero (x y : List UInt8) : torn 0 x y = x := by
  unfold torn
  have e : (min (max (0 : Int) 0) 64).toNat = 0 := by decide
  rw [e]
  rfl
theorem torn_all (x y : List UInt8) (hx : x.length = 64) (hy : y.length = 64) : torn 64 x y = y := by
  unfold torn
  have e : (min (max (64 : Int) 0) 64).toNat = 64 := by decide
  rw [e, List.take_of_length_le (by omega), List.drop_of_length_le (by omega), List.append_nil]
theorem set_same (cs : List (List UInt8)) (p : Nat) (h : p < cs.length) : cs.set p (cs.getD p []) = cs := by
  apply List.ext_getElem?
  intro i
  rw [List.getElem?_set]
  split
  · subst_vars
    rw [List.getD_eq_getElem?_getD, List.getElem?_eq_getElem h]
    rfl
  · rfl
theorem crashOne_torn (kept : Nat) (tn cut : Int) (i : Nat) (w : Wt) (cs : List (List UInt8)) (hp : w.pos.toNat < cs.length) (hx : (cs.getD w.pos.toNat []).length = 64) (hy : w.s.length = 64) :
    crashOne kept tn cut i w cs = cs.set w.pos.toNat (torn (newN kept tn cut i) (cs.getD w.pos.toNat []) w.s) := by
  unfold crashOne newN
  by_cases h1 : (i : Int) = tn
  · rw [if_pos h1, if_pos h1]
  · rw [if_neg h1, if_neg h1]
    cases keepsB kept i with
    | true => rw [if_pos rfl, if_pos rfl, torn_all _ _ hx hy]
    | false => rw [if_neg (by decide), if_neg (by decide), torn_zero, set_same cs _ hp]
theorem torn_getD (n : Int) (x y : List UInt8) (_hx : x.length = 64) (hy : y.length = 64) (k : Nat) (hk : k < 64) : (torn n x y).getD k 0 = if (k : Int) < n then y.getD k 0 else x.getD k 0 := by
  unfold torn
  obtain ⟨c, hc⟩ : ∃ c, (min (max n 0) 64).toNat = c := ⟨_, rfl⟩
  have hc64 : c ≤ 64 := by omega
  rw [hc]
  have hl : (y.take c).length = c := by rw [List.length_take]; omega
  simp only [List.getD_eq_getElem?_getD]
  by_cases h : (k : Int) < n
  · rw [if_pos h, List.getElem?_append_left (by omega), List.getElem?_take, if_pos (by omega)]
  · rw [if_neg h, List.getElem?_append_right (by omega), hl, List.getElem?_drop, show c + (k - c) = k by omega]
theorem torn_take (n : Int) (x y : List UInt8) (hx : x.length = 64) (hy : y.length = 64) (k : Nat) (hk : k < 64) : (torn n x y).take (k + 1) = (torn n x y).take k ++ [if (k : Int) < n then y.getD k 0 else x.getD k 0] := by
  rw [take_getD_snoc _ k 0 (by rw [torn_length n x y hx hy]; exact hk), torn_getD n x y hx hy k hk]
theorem extract_one (l : List UInt8) (k : Nat) (h : k < l.length) : (bs l).extract k (k + 1) = bs [l.getD k 0] := by
  have e : ((bs l).extract k (k + 1)).data.toList = [l.getD k 0] := by
    simp only [bs, ByteArray.data_extract, Array.toList_extract, List.extract_eq_take_drop]
    rw [show k + 1 - k = 0 + 1 by omega, List.take_succ_eq_append_getElem (by rw [List.length_drop]; omega)]
    simp [List.getD_eq_getElem?_getD, h]
  rw [← e]
  rfl
theorem half_pow (kept j : Nat) : kept / 2 ^ j / 2 = kept / 2 ^ (j + 1) := by rw [Nat.div_div_eq_div_mul, Nat.pow_succ]
theorem Blk.pair {w : World} {b : Nat} {v0 v1 : Value} {t : TypeId} (h : Blk w b [v0, v1] t) : w.cell? ⟨b, 0, none⟩ = some v0 ∧ w.cell? ⟨b, 1, none⟩ = some v1 := ⟨h.cell 0, h.cell 1⟩
theorem own_some {w : World} {base : Nat} {e : TypeId} {size : Nat} {v : Value} {n : Nat} {xs : List Value} (h : w.ownsRow base e size v n xs) (hn : 0 < n) : ∃ g c, v = .slice (some ⟨g, 0, none⟩) n c ∧ base ≤ g ∧ n ≤ c ∧ c ≤ 9223372036854775807 := by
  rcases h.2 with ⟨_, h0⟩ | ⟨g, cap, cur, rfl, hb, hh, hnc, hcm, hcs, htk⟩
  · omega
  · exact ⟨g, cap, rfl, hb, hnc, by simpa [maxLen] using hcm⟩

set_option maxRecDepth 100000 in
set_option maxHeartbeats 12800000 in
theorem refcrash_main (a1 a2 : Option Addr) (n1 c1 n2 c2 : Nat) (fuel : Int) (off : Bool) (d : Drv) (kept : Nat) (tn cut : Int) (w : World) (h : DriveAt w a1 n1 c1 a2 n2 c2 fuel off d) (hmay : d.May) (hk : kept < 18446744073709551616) (ht : -9223372036854775808 ≤ tn ∧ tn < 9223372036854775808) (hcut : -9223372036854775808 ≤ cut ∧ cut < 9223372036854775808) :
    Calls Try.prog 25 #[.agg #[.slice a1 n1 c1, .slice a2 n2 c2, .int .i64 fuel, .bool off], .agg #[.int .u64 kept, .int .i64 tn, .int .i64 cut]] w fun e w' => ∃ v, e = .returned v ∧ IsDrive w' v ⟨crashes kept tn cut 0 d.queue d.cells, [], -1, false⟩ ∧ Below w.heap.size w w' := by
  have HD := hide h
  have HM := hide (fun w => refmay_any (.agg #[.slice a1 n1 c1, .slice a2 n2 c2, .int .i64 fuel, .bool off]) d w)
  rw [d.mayB_iff.2 hmay] at HM
  have hN : d.cells.length = n1 := h.cells.len
  have hQ : d.queue.length = n2 := h.queue.len
  have hn6 : n1 ≤ 6000 := by rw [← hN]; exact hmay.most
  have hn1 : 1 ≤ n1 := by rw [← hN]; exact hmay.some
  have hc2 : n2 ≤ c2 := h.room2.1
  have HR2 := hide h.room2
  have HMAY := hide hmay
  have HN := hide (And.intro hN hQ)
  have HK := hide hk
  have HT := hide ht
  have HCUT := hide hcut
  obtain ⟨i0, hi0⟩ := info_parts info_str
  have HI0 := hide hi0
  clear h hmay hN hQ hk ht hcut hi0
  go_enter Try.func25, Try.ntmps25
  go_wp2_with fail
  refine (HM.out _ ((HD.out.below ((((Below.refl _ _).alloc (Nat.le_refl _) _).alloc (by simp) _).alloc (by simp; omega) _)).is)).mono ?_
  rintro e w1 ⟨rfl, hb1⟩
  obtain ⟨B0, B1, B2⟩ := three_boxes w [.slice a1 n1 c1, .slice a2 n2 c2, .int .i64 fuel, .bool off] [.int .u64 kept, .int .i64 tn, .int .i64 cut] [.slice none 0 0, .slice none 0 0, .int .i64 0, .bool false] 25 28 25
  have C0 := B0.next hb1
  have C1 := B1.next hb1
  have C2 := B2.next hb1
  have hbw : Below w.heap.size w w1 := ((((Below.refl _ _).alloc (Nat.le_refl _) _).alloc (by simp) _).alloc (by simp; omega) _).trans (hb1.mono (by simp; omega))
  obtain ⟨p0, p1, p2, p3, p4, p5, p6, p7⟩ := C0.four
  have hw1 := C2.lt
  have hw10 := C0.lt
  have hw11 := C1.lt
  clear B0 B1 B2 hb1
  have D0 := C0.alloc (.cells #[] 9)
  have D1 := C1.alloc (.cells #[] 9)
  have D2 := C2.alloc (.cells #[] 9)
  have hE := Blk.new w1 [] 9
  have hbw2 := hbw.alloc hbw.size (.cells #[] 9)
  have hrow := HD.out.cells.row.below hbw2
  go_wp2_with (at_builtin; go_must (refine wpList_app rfl (.tmp 17) (.tmp 19) 22 rfl w1.heap.size 9 i0 (.string ⟨#[]⟩) 1 16 Try.underlying22 HI0.out.1 HI0.out.2.1 HI0.out.2.2.1 HI0.out.2.2.2 rfl (by decide) _ 0 [] rfl (own_empty hE (Nat.le_refl _)) a1 n1 c1 (strVals d.cells) rfl (by rw [strVals_length, HN.out.1, Nat.mul_one]) hrow (strVals_one _) (by unfold maxLen; omega) (by omega) (by simp) ?_))
  intro v3 w3 hown3 hg3 hob3
  change World.grownBy _ w3 (Value.ownBlock (Value.slice (some ⟨_, 0, none⟩) 0 0)) at hg3
  have F0 := D0.grown hg3 (by simp [Value.ownBlock]; omega)
  have F1 := D1.grown hg3 (by simp [Value.ownBlock]; omega)
  have F2 := D2.grown hg3 (by simp [Value.ownBlock]; omega)
  have hbw3 := grown_below hbw2 (by simp; omega) hg3 (by simp [Value.ownBlock]; omega)
  obtain ⟨g, cx, rfl, hgb, hnc, hcm⟩ := own_some hown3 (by omega)
  have hg3' : g < w3.heap.size := (hown3.lt g rfl).2
  have hw30 := F0.lt
  have hw32 := F2.lt
  clear hg3 hob3 D0 D1 D2 hE hbw2 hrow C0 C1 C2 hbw p0 p1 p2 p3 p4 p5 p6 p7
  go_wp2_with fail
  have HCM := hide hcm
  clear hcm
  go_loopw [6] (fun i wr => ∃ (j : Nat) (xs : List (List UInt8)), j ≤ n2 ∧ i = .int .i64 j ∧ crashes kept tn cut 0 (d.queue.take j) d.cells = xs ∧ xs.length = n1 ∧ (∀ c ∈ xs, c.length = 64) ∧ wr.ownsRow w1.heap.size 9 1 (.slice (some ⟨g, 0, none⟩) n1 cx) n1 (strVals xs) ∧ Blk wr w3.heap.size [.slice (some ⟨g, 0, none⟩) n1 cx, .slice none 0 0, .int .i64 (-1), .bool false] 25 ∧ Below (w.heap.size + 3) w3 wr) (fun i _ => n2 - (intOf i).toNat)
  case atStart => exact ⟨0, d.cells, Nat.zero_le _, rfl, rfl, HN.out.1, HMAY.out.cell, hown3.alloc _, Blk.new _ _ _, (Below.refl _ _).alloc (by omega) _⟩
  case round =>
    obtain ⟨j, xs, hj, rfl, hxe, hxl, hxa, ho, GX, hbr⟩ := hrel
    have hbwr : Below w.heap.size w wr := hbw3.trans (hbr.mono (by omega))
    have E0 := F0.below hbr (by omega)
    have E1 := F1.below hbr (by omega)
    have E2 := F2.below hbr (by omega)
    have hwr3 := GX.lt
    clear hown3 F0 F1 F2 hbw3
    by_cases hjt : j < n2
    · obtain ⟨b, o, hb, hix, hcp, hcs⟩ := (HD.out.queue.below hbwr).at c2 j hjt
      have hw := HMAY.out.wait _ (getD_mem d.queue j ⟨0, []⟩ (by rw [HN.out.2]; exact hjt))
      have hct := crashes_take kept tn cut d.cells d.queue j (by rw [HN.out.2]; exact hjt)
      rw [hxe] at hct
      obtain ⟨x, hx⟩ : ∃ x, d.queue.getD j ⟨0, []⟩ = x := ⟨_, rfl⟩
      rw [hx] at hcp hcs hw hct
      obtain ⟨pos, l⟩ := x
      obtain ⟨hw0, hw1', hw2⟩ := hw
      rw [HN.out.1] at hw1'
      simp only at hcp hcs hw0 hw1' hw2
      obtain ⟨p, rfl⟩ := Int.eq_ofNat_of_zero_le hw0
      have hp1 : p < n1 := by omega
      have hol := crashOne_length kept tn cut j ⟨p, l⟩ xs
      have hoa := crashOne_all kept tn cut j ⟨p, l⟩ xs hw2 (by simp only [Int.toNat_natCast]; omega) hxa
      have hxp : (xs.getD p []).length = 64 := hxa _ (getD_mem _ _ _ (by omega))
      have hto := crashOne_torn kept tn cut j ⟨p, l⟩ xs (by simp only [Int.toNat_natCast]; omega) (by simpa only [Int.toNat_natCast] using hxp) hw2
      simp only [Int.toNat_natCast] at hto
      obtain ⟨xp, hxpe⟩ : ∃ xp, xs.getD p [] = xp := ⟨_, rfl⟩
      rw [hxpe] at hto hxp
      have hvc : wr.cell? ⟨g, p, none⟩ = some (.string (bs xp)) := by
        rw [ho.cellAt p (by omega), strVals_at xs p (by omega), hxpe]
      have hvf := ho.frozenAt p
      have hn2 : n2 ≤ 9223372036854775807 := by have := HR2.out; omega
      obtain ⟨tt, htt⟩ : ∃ tt, torn (newN kept tn cut j) xp l = tt := ⟨_, rfl⟩
      have httl : tt.length = 64 := by rw [← htt]; exact torn_length _ _ _ hxp hw2
      have HTK := hide (fun (k : Nat) (hk : k < 64) => torn_take (newN kept tn cut j) xp l hxp hw2 k hk)
      have HEX := hide (fun (k : Nat) (hk : k < 64) => And.intro (extract_one l k (by omega)) (extract_one xp k (by omega)))
      rw [htt] at hto HTK
      have hs64 : (bs l).size = 64 := by rw [bs_size]; exact hw2
      have hs64' : (bs xp).size = 64 := by rw [bs_size]; exact hxp
      obtain ⟨s, hsl⟩ : ∃ s, bs l = s := ⟨_, rfl⟩
      obtain ⟨s2, hsl2⟩ : ∃ s2, bs xp = s2 := ⟨_, rfl⟩
      rw [hsl, hsl2] at HEX
      rw [hsl] at hcs hs64
      rw [hsl2] at hvc hs64'
      obtain ⟨m, hm⟩ : ∃ m, j % 64 = m := ⟨_, rfl⟩
      have hm64 : m < 64 := by omega
      have hmi : (j : Int) % 64 = (m : Int) := by omega
      have HMJ := hide hm
      have HCT := hide hct
      have HOA := hide hoa
      have HTO := hide hto
      have HTTL := hide httl
      have HO := hide ho
      have HX := hide (And.intro hxe hxl)
      have hsi : (s.size : Int) = 64 := by omega
      have hsi2 : (s2.size : Int) = 64 := by omega
      have HS64 := hide (And.intro hs64 hs64')
      clear hct hol hoa hto hxp hw2 ho hxa hxe hxl hx hsl hsl2 hw0 hxpe htt httl hm hs64 hs64' hsi hsi2
      obtain ⟨W5, hW5⟩ : ∃ W5, wr.alloc (.cells #[.int .i64 (p : Int), .string s] 47) = W5 := ⟨_, rfl⟩
      have hW5s : W5.heap.size = wr.heap.size + 1 := by rw [← hW5]; simp
      have M0 := E0.alloc (.cells #[.int .i64 (p : Int), .string s] 47)
      have M1 := E1.alloc (.cells #[.int .i64 (p : Int), .string s] 47)
      have M2 := E2.alloc (.cells #[.int .i64 (p : Int), .string s] 47)
      have MX := GX.alloc (.cells #[.int .i64 (p : Int), .string s] 47)
      rw [hW5] at M0 M1 M2 MX
      have MT : Blk W5 wr.heap.size [.int .i64 (p : Int), .string s] 47 := by rw [← hW5]; exact Blk.new _ _ _
      have MO : Hid (W5.ownsRow w1.heap.size 9 1 (.slice (some ⟨g, 0, none⟩) n1 cx) n1 (strVals xs)) := hide (by rw [← hW5]; exact HO.out.alloc _)
      have MB : Hid (Below (w.heap.size + 3) w3 W5) := hide (by rw [← hW5]; exact hbr.alloc (by omega) _)
      obtain ⟨p0, p1, p2, p3, p4, p5, p6, p7⟩ := E0.four
      obtain ⟨q0, q1, q2, q3, q4, q5⟩ := M1.three
      obtain ⟨y0, y1, y2, y3, y4, y5, y6, y7⟩ := MX.four
      obtain ⟨z0, z1⟩ := MT.pair
      have hwr0 := E0.lt
      go_wp2_with fail
      have hq0 : kept / 2 ^ 0 = kept := by simp
      have HQ0 := hide hq0
      have HHP := hide (fun r => half_pow kept r)
      clear hq0 hix hcp hcs hb p0 p1 p2 p3 p4 p5 p6 p7 E0 E1 E2 GX
      go_loop [8, 9] (fun v i => ∃ (r q : Nat), r ≤ m ∧ i = .int .i64 r ∧ v = .int .u64 (q : Int) ∧ kept / 2 ^ r = q ∧ q < 18446744073709551616) (fun _ i => m - (intOf i).toNat)
      case atStart => exact ⟨0, kept, Nat.zero_le _, rfl, rfl, HQ0.out, HK.out⟩
      case round =>
        obtain ⟨r, q, hr, rfl, rfl, hq, hqb⟩ := hrel
        by_cases hrt : r < m
        · have hn : Hid (kept / 2 ^ (r + 1) = q / 2) := hide (by rw [← hq, HHP.out])
          have hq2 : q / 2 < 18446744073709551616 := Nat.lt_of_le_of_lt (Nat.div_le_self _ _) hqb
          have HQ := hide hq
          clear hq
          have HQ2 := hide hq2
          clear hq2
          go_wp2_with fail
          go_round
          case rel => exact ⟨r + 1, q / 2, by omega, by go_num, by go_num, hn.out, HQ2.out⟩
          case measure => simp [intOf]; omega
        · obtain rfl : r = m := by omega
          obtain ⟨nn, hnn⟩ : ∃ nn, newN kept tn cut j = nn := ⟨_, rfl⟩
          have hkb : keepsB kept j = decide (q % 2 = 1) := by unfold keepsB; rw [HMJ.out, hq]
          have hcase : ((j : Int) = tn ∧ nn = cut) ∨ (((j : Int) == tn) = false ∧ ((q : Int) % 2 == 1) = true ∧ nn = 64) ∨ (((j : Int) == tn) = false ∧ ((q : Int) % 2 == 1) = false ∧ nn = 0) := by
            unfold newN at hnn
            by_cases h1 : (j : Int) = tn
            · rw [if_pos h1] at hnn
              exact .inl ⟨h1, hnn.symm⟩
            · rw [if_neg h1, hkb] at hnn
              by_cases h2 : q % 2 = 1
              · rw [decide_eq_true h2, if_pos rfl] at hnn
                exact .inr (.inl ⟨beq_eq_false_iff_ne.2 h1, by rw [beq_iff_eq]; omega, hnn.symm⟩)
              · rw [decide_eq_false h2, if_neg (by decide)] at hnn
                exact .inr (.inr ⟨beq_eq_false_iff_ne.2 h1, by rw [beq_eq_false_iff_ne]; omega, hnn.symm⟩)
          have hnr : -9223372036854775808 ≤ nn ∧ nn < 9223372036854775808 := by have := HCUT.out; omega
          rw [hnn] at HTK
          have HQ := hide hq
          have HQB := hide hqb
          have HNR := hide hnr
          clear hq hqb hkb hnn hnr
          have HTO2 := HTO
          rcases hcase with ⟨c1, c2⟩ | ⟨c1, c2, c3⟩ | ⟨c1, c2, c3⟩
          · subst c1
            rw [c2] at HTK
            clear c2
            go_wp2_with fail
            all_goals
              go_loop [11, 12] (fun v i => ∃ (k : Nat) (z : ByteArray), k ≤ 64 ∧ i = .int .i64 k ∧ v = .string z ∧ bs (tt.take k) = z ∧ z.size ≤ k) (fun _ i => 64 - (intOf i).toNat)
              case atStart => exact ⟨0, _, Nat.zero_le _, rfl, rfl, rfl, Nat.le_refl _⟩
              case round =>
                obtain ⟨k, z, hk, rfl, rfl, hz, hzs⟩ := hrel
                have HZ := hide hz
                clear hz
                by_cases hkt : k < 64
                · obtain ⟨hx1, hx2⟩ := HEX.out k hkt
                  have htk := HTK.out k hkt
                  have hb1 : (bs [l.getD k 0]).size = 1 := rfl
                  have hb2 : (bs [xp.getD k 0]).size = 1 := rfl
                  have hz2 : Hid (∀ c, tt.take (k + 1) = tt.take k ++ [c] → bs (tt.take (k + 1)) = z ++ bs [c]) := hide (fun c hc => by rw [hc, ← bs_append, HZ.out])
                  by_cases hkn : (k : Int) < cut
                  ·
                    rw [if_pos hkn] at htk
                    have hn := hz2.out _ htk
                    obtain ⟨f1, hf1⟩ : ∃ f1, bs [l.getD k 0] = f1 := ⟨_, rfl⟩
                    rw [hf1] at hx1 hb1 hn
                    have HN' := hide hn
                    have HB1 := hide hb1
                    have hf1s : f1.size ≤ 1 := by omega
                    clear hn hf1 htk hb1 hb2 hx2
                    have hks : k + 1 ≤ s.size := by have := HS64.out; omega
                    go_wp2_with fail
                    go_round
                    case rel => exact ⟨k + 1, _, by omega, by go_num, rfl, HN'.out, by rw [ByteArray.size_append, HB1.out]; omega⟩
                    case measure => simp [intOf]; omega
                  ·
                    rw [if_neg hkn] at htk
                    have hn := hz2.out _ htk
                    obtain ⟨f1, hf1⟩ : ∃ f1, bs [xp.getD k 0] = f1 := ⟨_, rfl⟩
                    rw [hf1] at hx2 hb2 hn
                    have HN' := hide hn
                    have HB1 := hide hb2
                    have hf1s : f1.size ≤ 1 := by omega
                    clear hn hf1 htk hb1 hb2 hx1
                    have hks : k + 1 ≤ s2.size := by have := HS64.out; omega
                    have hvc5 : W5.cell? ⟨g, p, none⟩ = some (.string s2) := by rw [← hW5]; exact (World.cell?_alloc_some _ _ _ (by rw [hvc]; rfl)).trans hvc
                    go_wp2_with fail
                    go_round
                    case rel => exact ⟨k + 1, _, by omega, by go_num, rfl, HN'.out, by rw [ByteArray.size_append, HB1.out]; omega⟩
                    case measure => simp [intOf]; omega
                · obtain rfl : k = 64 := by omega
                  have hzt : z = bs tt := by rw [← HZ.out, List.take_of_length_le (by rw [HTTL.out]; exact Nat.le_refl _)]
                  have hvc5 : W5.cell? ⟨g, p, none⟩ = some (.string s2) := by rw [← hW5]; exact (World.cell?_alloc_some _ _ _ (by rw [hvc]; rfl)).trans hvc
                  have hvf5 := MO.out.frozenAt p
                  have HZT := hide hzt
                  clear hzt
                  go_wp2_with fail
                  go_roundw
                  case rel =>
                    have hown6 := (MO.out.stored p (.string z)).1
                    rw [HZT.out, strVals_set] at hown6
                    refine ⟨j + 1, xs.set p tt, by omega, by go_num, by rw [HCT.out, HTO.out], by rw [List.length_set]; exact HX.out.2, by rw [← HTO.out]; exact HOA.out, ?_, MX.other (a := ⟨g, p, none⟩) (by simp; omega) _, MB.out.setCell (p := ⟨g, p, none⟩) (by simp; omega) _⟩
                    rw [HZT.out]
                    exact hown6
                  case measure => simp [intOf]; omega
          · rw [c3] at HTK
            clear c3
            go_wp2_with fail
            all_goals
              go_loop [11, 12] (fun v i => ∃ (k : Nat) (z : ByteArray), k ≤ 64 ∧ i = .int .i64 k ∧ v = .string z ∧ bs (tt.take k) = z ∧ z.size ≤ k) (fun _ i => 64 - (intOf i).toNat)
              case atStart => exact ⟨0, _, Nat.zero_le _, rfl, rfl, rfl, Nat.le_refl _⟩
              case round =>
                obtain ⟨k, z, hk, rfl, rfl, hz, hzs⟩ := hrel
                have HZ := hide hz
                clear hz
                by_cases hkt : k < 64
                · obtain ⟨hx1, hx2⟩ := HEX.out k hkt
                  have htk := HTK.out k hkt
                  have hb1 : (bs [l.getD k 0]).size = 1 := rfl
                  have hb2 : (bs [xp.getD k 0]).size = 1 := rfl
                  have hz2 : Hid (∀ c, tt.take (k + 1) = tt.take k ++ [c] → bs (tt.take (k + 1)) = z ++ bs [c]) := hide (fun c hc => by rw [hc, ← bs_append, HZ.out])
                  have hkn : (k : Int) < 64 := by omega
                  rw [if_pos hkn] at htk
                  have hn := hz2.out _ htk
                  obtain ⟨f1, hf1⟩ : ∃ f1, bs [l.getD k 0] = f1 := ⟨_, rfl⟩
                  rw [hf1] at hx1 hb1 hn
                  have HN' := hide hn
                  have HB1 := hide hb1
                  have hf1s : f1.size ≤ 1 := by omega
                  clear hn hf1 htk hb1 hb2 hx2
                  have hks : k + 1 ≤ s.size := by have := HS64.out; omega
                  go_wp2_with fail
                  go_round
                  case rel => exact ⟨k + 1, _, by omega, by go_num, rfl, HN'.out, by rw [ByteArray.size_append, HB1.out]; omega⟩
                  case measure => simp [intOf]; omega
                · obtain rfl : k = 64 := by omega
                  have hzt : z = bs tt := by rw [← HZ.out, List.take_of_length_le (by rw [HTTL.out]; exact Nat.le_refl _)]
                  have hvc5 : W5.cell? ⟨g, p, none⟩ = some (.string s2) := by rw [← hW5]; exact (World.cell?_alloc_some _ _ _ (by rw [hvc]; rfl)).trans hvc
                  have hvf5 := MO.out.frozenAt p
                  have HZT := hide hzt
                  clear hzt
                  go_wp2_with fail
                  go_roundw
                  case rel =>
                    have hown6 := (MO.out.stored p (.string z)).1
                    rw [HZT.out, strVals_set] at hown6
                    refine ⟨j + 1, xs.set p tt, by omega, by go_num, by rw [HCT.out, HTO.out], by rw [List.length_set]; exact HX.out.2, by rw [← HTO.out]; exact HOA.out, ?_, MX.other (a := ⟨g, p, none⟩) (by simp; omega) _, MB.out.setCell (p := ⟨g, p, none⟩) (by simp; omega) _⟩
                    rw [HZT.out]
                    exact hown6
                  case measure => simp [intOf]; omega
          · rw [c3] at HTK
            clear c3
            go_wp2_with fail
            all_goals
              go_loop [11, 12] (fun v i => ∃ (k : Nat) (z : ByteArray), k ≤ 64 ∧ i = .int .i64 k ∧ v = .string z ∧ bs (tt.take k) = z ∧ z.size ≤ k) (fun _ i => 64 - (intOf i).toNat)
              case atStart => exact ⟨0, _, Nat.zero_le _, rfl, rfl, rfl, Nat.le_refl _⟩
              case round =>
                obtain ⟨k, z, hk, rfl, rfl, hz, hzs⟩ := hrel
                have HZ := hide hz
                clear hz
                by_cases hkt : k < 64
                · obtain ⟨hx1, hx2⟩ := HEX.out k hkt
                  have htk := HTK.out k hkt
                  have hb1 : (bs [l.getD k 0]).size = 1 := rfl
                  have hb2 : (bs [xp.getD k 0]).size = 1 := rfl
                  have hz2 : Hid (∀ c, tt.take (k + 1) = tt.take k ++ [c] → bs (tt.take (k + 1)) = z ++ bs [c]) := hide (fun c hc => by rw [hc, ← bs_append, HZ.out])
                  have hkn : ¬ (k : Int) < 0 := by omega
                  rw [if_neg hkn] at htk
                  have hn := hz2.out _ htk
                  obtain ⟨f1, hf1⟩ : ∃ f1, bs [xp.getD k 0] = f1 := ⟨_, rfl⟩
                  rw [hf1] at hx2 hb2 hn
                  have HN' := hide hn
                  have HB1 := hide hb2
                  have hf1s : f1.size ≤ 1 := by omega
                  clear hn hf1 htk hb1 hb2 hx1
                  have hks : k + 1 ≤ s2.size := by have := HS64.out; omega
                  have hvc5 : W5.cell? ⟨g, p, none⟩ = some (.string s2) := by rw [← hW5]; exact (World.cell?_alloc_some _ _ _ (by rw [hvc]; rfl)).trans hvc
                  go_wp2_with fail
                  go_round
                  case rel => exact ⟨k + 1, _, by omega, by go_num, rfl, HN'.out, by rw [ByteArray.size_append, HB1.out]; omega⟩
                  case measure => simp [intOf]; omega
                · obtain rfl : k = 64 := by omega
                  have hzt : z = bs tt := by rw [← HZ.out, List.take_of_length_le (by rw [HTTL.out]; exact Nat.le_refl _)]
                  have hvc5 : W5.cell? ⟨g, p, none⟩ = some (.string s2) := by rw [← hW5]; exact (World.cell?_alloc_some _ _ _ (by rw [hvc]; rfl)).trans hvc
                  have hvf5 := MO.out.frozenAt p
                  have HZT := hide hzt
                  clear hzt
                  go_wp2_with fail
                  go_roundw
                  case rel =>
                    have hown6 := (MO.out.stored p (.string z)).1
                    rw [HZT.out, strVals_set] at hown6
                    refine ⟨j + 1, xs.set p tt, by omega, by go_num, by rw [HCT.out, HTO.out], by rw [List.length_set]; exact HX.out.2, by rw [← HTO.out]; exact HOA.out, ?_, MX.other (a := ⟨g, p, none⟩) (by simp; omega) _, MB.out.setCell (p := ⟨g, p, none⟩) (by simp; omega) _⟩
                    rw [HZT.out]
                    exact hown6
                  case measure => simp [intOf]; omega
    · obtain rfl : j = n2 := by omega
      have htk : d.queue.take j = d.queue := List.take_of_length_le (by rw [HN.out.2]; exact Nat.le_refl _)
      rw [htk] at hxe
      have HO := hide ho
      obtain ⟨p0, p1, p2, p3, p4, p5, p6, p7⟩ := E0.four
      obtain ⟨q0, q1, q2, q3, q4, q5, q6, q7⟩ := GX.four
      obtain ⟨r0, r1, r2, r3, r4, r5, r6, r7⟩ := E2.four
      clear htk ho E0 E1 E2
      go_wp2_with fail
      rw [hxe]
      refine bodyPost_ret (v := .agg #[.slice (some ⟨g, 0, none⟩) n1 cx, .slice none 0 0, .int .i64 (-1), .bool false]) (by simp [results, Try.results25, go_sem, r0, r1, r2, r3]) rfl ⟨_, rfl, ?_, ?_⟩
      · refine DriveAt.is ⟨⟨hxl, ?_⟩, ⟨rfl, (by intro x hx; cases hx), .inl rfl⟩, ⟨hnc, HCM.out⟩, by omega, rfl, rfl, by omega⟩
        exact row_of_own (ownsRow4 HO.out (by omega) _ _ _ _)
      · exact below4 hbwr (by omega) _ _ _ _

end Go.Proofs.Ytkapdmhjhbmdjaa
