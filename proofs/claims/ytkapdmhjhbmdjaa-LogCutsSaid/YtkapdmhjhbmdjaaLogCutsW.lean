/-
  The walk through the statement LogCuts: it returns true.
-/
import Derived.Test.YtkapdmhjhbmdjaaBun
import Derived.Test.YtkapdmhjhbmdjaaOpenLs
import Derived.Test.YtkapdmhjhbmdjaaTapeCuts
import Derived.Deep.CutBlock
namespace Go.Proofs.Ytkapdmhjhbmdjaa
open Go.RowKit

theorem crash_idle {cs : List (List UInt8)} {f : Int} {o : Bool} (hm : (⟨cs, [], f, o⟩ : Drv).May) (kept : Nat) (tn cut : Int) : Drv.crash ⟨cs, [], f, o⟩ kept tn cut = ⟨cs, [], -1, false⟩ := by
  unfold Drv.crash
  rw [if_pos (mayB_of hm)]
  rfl
theorem tell_yes {cs : List (List UInt8)} {f n : Int} (hm : (⟨cs, [], f, false⟩ : Drv).May) (hn : -1 ≤ n) : Drv.tell ⟨cs, [], f, false⟩ n = (⟨cs, [], n, false⟩, 0) := by
  unfold Drv.tell
  rw [if_neg (by rintro (h | h)
                 · rw [mayB_of hm] at h; cases h
                 · omega)]
/-- Appending to a tape, whatever fuel there is. -/
theorem OnTape.cutAny {cs : List (List UInt8)} {sr : Nat} {all : List (List UInt8)} (h : OnTape cs 0 sr all) {f : Int} (hf : -1 ≤ f) (s : List UInt8) (h1 : 1 ≤ sr) (h2 : sr + all.length ≤ 16777215) :
    (∃ cs' f', Drv.append ⟨cs, [], f, false⟩ ⟨3, 20, (span all : Nat), (sr + all.length : Nat)⟩ s = (⟨cs', [], f', false⟩, ⟨3, 20, (span (all ++ [s]) : Nat), (sr + (all ++ [s]).length : Nat)⟩, 0) ∧ -1 ≤ f' ∧ OnTape cs' 0 sr (all ++ [s])) ∨
    (∃ E, Drv.append ⟨cs, [], f, false⟩ ⟨3, 20, (span all : Nat), (sr + all.length : Nat)⟩ s = (Drv.zero, Tp.zero, E) ∧ (E = 6 ∨ E = 1)) ∨
    (∃ y, Drv.append ⟨cs, [], f, false⟩ ⟨3, 20, (span all : Nat), (sr + all.length : Nat)⟩ s = (y, Tp.zero, 10) ∧ y.May ∧ y.queue.length ≤ 100 ∧ ∀ kept tn cut, ∃ cs', y.crash kept tn cut = ⟨cs', [], -1, false⟩ ∧ (OnTape cs' 0 sr all ∨ OnTape cs' 0 sr (all ++ [s]))) := by
  by_cases hs : s.length ≤ 4000
  · by_cases hr : span all + kOf s.length ≤ 20
    · rcases h.cut hf s hs hr h1 h2 with h | h
      · exact .inl h
      · exact .inr (.inr h)
    · exact .inr (.inl ⟨6, h.full hf s hs hr h1 h2, .inl rfl⟩)
  · refine .inr (.inl ⟨1, ?_, .inr rfl⟩)
    unfold Drv.append
    rw [if_pos (.inr (by omega))]
theorem row_below {B : Nat} {a w : World} (h : Below B a w) (_hB : B ≤ w.heap.size) {b : Nat} (hb : B ≤ b) (i : Nat) (v : Value) : Below B a (w.setCell ⟨b, i, none⟩ v) := h.setCell (p := ⟨b, i, none⟩) hb v

/-- The drive of a failed append, whatever waits in it, is not touched by a store to a block without strings. -/
theorem IsDrive.step {w : World} {v : Value} {d : Drv} (h : IsDrive w v d) {b : Nat} {vs : List Value} {t : TypeId} (hb : Blk w b vs t) (hn : ∀ u ∈ vs, noStr u = true) (i : Nat) (x : Value) : IsDrive (w.setCell ⟨b, i, none⟩ x) v d := by
  have hne : ∀ (b' j : Nat) (z : ByteArray), w.cell? ⟨b', j, none⟩ = some (.string z) → b' ≠ b := by
    rintro b' j z hc rfl
    rw [hb.cell j] at hc
    have := hn _ (List.mem_of_getElem? hc)
    cases this
  have hoth : ∀ (b' j : Nat), b' ≠ b → (w.setCell ⟨b, i, none⟩ x).cell? ⟨b', j, none⟩ = w.cell? ⟨b', j, none⟩ := fun b' j e => World.cell?_setCell_other _ _ _ _ (fun e2 => by injection e2 with e2; exact e e2.symm)
  obtain ⟨a1, n1, c1, a2, n2, c2, fuel, off, e, hd⟩ := h
  refine ⟨a1, n1, c1, a2, n2, c2, fuel, off, e, ⟨⟨hd.cells.len, ?_⟩, ⟨hd.queue.len, hd.queue.range, ?_⟩, hd.room1, hd.room2, hd.fuel_eq, hd.off_eq, hd.range⟩⟩
  · rcases hd.cells.row with h0 | ⟨b', off', e, hc⟩
    · exact .inl h0
    · refine .inr ⟨b', off', e, fun j u hj => ?_⟩
      have h1 := hc j u hj
      obtain ⟨z, _, hz⟩ := List.mem_map.1 (List.mem_of_getElem? hj)
      rw [hoth b' _ (hne b' _ _ (by rw [h1, ← hz]))]
      exact h1
  · rcases hd.queue.row with h0 | ⟨b', off', e, hc⟩
    · exact .inl h0
    · cases hq : d.queue with
      | nil => exact .inl rfl
      | cons y q =>
        rw [hq] at hc
        have h1 := hc 1 (.string (bs y.s)) rfl
        refine .inr ⟨b', off', e, fun j u hj => ?_⟩
        rw [hoth b' _ (hne b' _ _ h1)]
        exact hc j u hj
/-- An append behind a guard that lets it by. -/
theorem wpList_appSg {w : World} {ops : Array Oper} {rest : List Oper} {o : Oper} {a : Act} {Q : Exit → Act → World → Prop} (hw : Region.wanted o (yielded ops a.tmps) = true) (s x : Operand)
    (ho : o.op = .call { callee := .builtin .append, args := #[s, x], argTypes := #[22, 22] })
    (base : Nat) (v : Value) (xs : List (List UInt8)) (hs : a.eval s = v) (hown : OwnS w base v xs)
    (A : Option Addr) (m c : Nat) (news : List (List UInt8)) (hx : a.eval x = .slice A m c) (hl : news.length = m) (hr : Row w A (strVals news)) (h63 : xs.length + m ≤ 1000000) (hbase : base ≤ w.heap.size)
    (h : ∀ v' w', OwnS w' base v' (xs ++ news) → w.grownBy w' v.ownBlock → Keeps64 w w' → (v'.ownBlock = v.ownBlock ∨ v'.ownBlock = some w.heap.size) → wpList Try.prog ops Q rest (a.put o.dst v') w') : wpList Try.prog ops Q (o :: rest) a w := by
  obtain ⟨i0, hi, hz0, hz1, hz2⟩ := info_parts info_str
  unfold wpList
  rw [if_pos hw]
  refine .inl (wp_appZ s x _ ho base 9 i0 (.string ByteArray.empty) 1 16 ZS (by simp [ZS, Value.cells]) zs64 Try.underlying22 hi hz0 hz1 hz2 rfl (by decide) v xs.length (strVals xs) hs hown A m c (strVals news) hx (by rw [strVals_length, hl]; omega) hr (strVals_one news) (by unfold maxLen; omega) (by omega) hbase fun v' w' h2 h3 h4 h5 => h v' w' ?_ h3 h4 h5)
  unfold OwnS
  rw [strVals_append, List.length_append, hl]
  exact h2
theorem IsDrive.step3 {w : World} {v : Value} {d : Drv} (h : IsDrive w v d) {b : Nat} {u0 u1 u2 : Value} {t : TypeId} (hb : Blk w b [u0, u1, u2] t) (hn : noStr u0 = true ∧ noStr u1 = true ∧ noStr u2 = true) (v0 v1 v2 : Value) (hv : noStr v0 = true ∧ noStr v1 = true) : IsDrive (((w.setCell ⟨b, 0, none⟩ v0).setCell ⟨b, 1, none⟩ v1).setCell ⟨b, 2, none⟩ v2) v d := by
  obtain ⟨h0, h1, h2⟩ := hn
  obtain ⟨k0, k1⟩ := hv
  exact ((h.step hb (by simp [h0, h1, h2]) 0 v0).step (hb.set 0 v0) (by simp [h1, h2, k0]) 1 v1).step ((hb.set 0 v0).set 1 v1) (by simp [h2, k0, k1]) 2 v2

set_option maxRecDepth 100000 in
set_option maxHeartbeats 12800000 in
theorem cuts_walk (ao : Option Addr) (n c : Nat) (xs : List (List UInt8)) (bo : Option Addr) (n' c' : Nat) (fs : List UInt8) (lo : Option Addr) (m e : Nat) (q : List Lo) (w : World) (h : Strs w ao n xs) (hnc : n ≤ c ∧ c ≤ 9223372036854775807) (hx : ∀ y ∈ xs, y.length ≤ 9223372036854775807)
    (hfs : Octs w bo n' fs) (hnc' : n' ≤ c' ∧ c' ≤ 9223372036854775807) (hq : Losses w lo m q) (hme : m ≤ e ∧ e ≤ 9223372036854775807) :
    Calls Try.prog 15 #[.slice ao n c, .slice bo n' c', .slice lo m e] w fun e w' => e = .returned (.bool true) ∧ Below w.heap.size w w' := by
  have HO := hide h
  have HX := hide hx
  have HFS := hide hfs
  have HQ := hide hq
  have hn1 : n ≤ 9223372036854775807 := by omega
  have hn2 : n' ≤ 9223372036854775807 := by omega
  have hn3 : m ≤ 9223372036854775807 := by omega
  have HS : Hid (∀ w, Calls Try.prog 50 #[.int .i64 24] w fun e w' => ∃ v, e = .returned v ∧ IsDrive w' v ⟨List.replicate 24 blank, [], -1, false⟩ ∧ Below w.heap.size w w') := hide (fun w => by
    have h := some_any 24 w
    rw [new_24] at h
    exact h)
  have HF : Hid (∀ k, k < n → ∀ w, Calls Try.prog 39 #[.string (bs (xs.getD k []))] w fun e w' => e = .returned (.string (bs (fewOf (xs.getD k [])))) ∧ Below w.heap.size w w') := hide (fun k hk w => few18_any (xs.getD k []) w (by
    have hl := h.len
    have e : xs.getD k [] ∈ xs := by
      rw [List.getD_eq_getElem?_getD, List.getElem?_eq_getElem (by omega)]
      exact List.getElem_mem _
    have := hx _ e
    omega))
  have HAW := hide (fun w => awake18_any w)
  clear h hx hnc hfs hnc' hq hme
  go_enter Try.func15, Try.ntmps15
  go_wp2_with fail
  refine (HS.out _).mono ?_
  rintro e w1 ⟨v1, rfl, hd1, hb1⟩
  have HD1 := hide hd1
  obtain ⟨a1, n1, c1, a2, n2, c2, f1, o1, rfl, _⟩ := hd1
  unfold drvVal at HD1 ⊢
  obtain ⟨K3, T8, T9⟩ := three_kinds w1 [.slice a1 n1 c1, .slice a2 n2 c2, .int .i64 f1, .bool o1] [.int .i64 3, .int .i64 20, .int .i64 0, .int .i64 1] [.int .i64 3, .int .i64 20, .int .i64 0, .int .i64 1] 25 60 60
  have hal : Below w1.heap.size w1 (((w1.alloc (.cells #[.slice a1 n1 c1, .slice a2 n2 c2, .int .i64 f1, .bool o1] 25)).alloc (.cells #[.int .i64 3, .int .i64 20, .int .i64 0, .int .i64 1] 60)).alloc (.cells #[.int .i64 3, .int .i64 20, .int .i64 0, .int .i64 1] 60)) := (((Below.refl _ _).alloc (Nat.le_refl _) _).alloc (by simp) _).alloc (by simp; omega) _
  obtain ⟨W3, hW3⟩ : ∃ W3, (((w1.alloc (.cells #[.slice a1 n1 c1, .slice a2 n2 c2, .int .i64 f1, .bool o1] 25)).alloc (.cells #[.int .i64 3, .int .i64 20, .int .i64 0, .int .i64 1] 60)).alloc (.cells #[.int .i64 3, .int .i64 20, .int .i64 0, .int .i64 1] 60)) = W3 := ⟨_, rfl⟩
  rw [hW3] at K3 T8 T9 hal
  have HD3 := hide (HD1.out.below hal)
  have hb3 := chain hb1 hal
  have hs3 : W3.heap.size = w1.heap.size + 3 := by rw [← hW3]; simp
  have hw7 := hb1.size
  go_upto_block 0 with fail
  try rw [hW3]
  obtain ⟨b7, hb7⟩ : ∃ b, w1.heap.size = b := ⟨_, rfl⟩
  rw [hb7] at K3 T8 T9 hs3 hw7 ⊢
  obtain ⟨b8, hb8⟩ : ∃ b, b7 + 1 = b := ⟨_, rfl⟩
  rw [hb8] at T8 T9 ⊢
  obtain ⟨b9, hb9⟩ : ∃ b, b8 + 1 = b := ⟨_, rfl⟩
  rw [hb9] at T9 ⊢
  have h78 : b7 < b8 := by omega
  have h89 : b8 < b9 := by omega
  obtain ⟨B, hBB⟩ : ∃ B, W3.heap.size = B := ⟨_, rfl⟩
  have hB : b9 < B := by omega
  have hB2 : B ≤ W3.heap.size := by omega
  have R3 : Hid (Have W3 [.box b7 ⟨List.replicate 24 blank, [], -1, false⟩, .blk b9 (tpCells ⟨3, 20, ((span [] : Nat) : Int), ((1 + ([] : List (List UInt8)).length : Nat) : Int)⟩) 60, .blk b8 (tpCells ⟨3, 20, 0, 1⟩) 60]) :=
    hide ((((Have.nil _).consB T8).consB T9).consX K3 HD3.out ((OnTape.fresh 0 1 (Nat.zero_le _)).still _ _))
  clear hW3 hb7 hb8 hb9 hBB hs3 K3 T8 T9 HD3 HD1 hal hb1
  go_cut [10] (fun s10 wx => ∃ (all : List (List UInt8)) (cs : List (List UInt8)) (f : Int), all.length ≤ 14 ∧ -1 ≤ f ∧ Hid (OnTape cs 0 1 all) ∧ Hid (Have wx [.ownS B s10 all, .box b7 ⟨cs, [], f, false⟩, .blk b9 (tpCells ⟨3, 20, ((span all : Nat) : Int), ((1 + all.length : Nat) : Int)⟩) 60, .blk b8 (tpCells ⟨3, 20, 0, 1⟩) 60]) ∧ B ≤ wx.heap.size ∧ Below w.heap.size w wx)
  case first =>
    go_wp2_with fail
    go_loopw [10, 11] (fun s10 s11 wr => ∃ (k : Nat) (all : List (List UInt8)) (cs : List (List UInt8)) (f : Int), k ≤ n ∧ k ≤ 14 ∧ all.length ≤ k ∧ s11 = .int .i64 k ∧ -1 ≤ f ∧ Hid (OnTape cs 0 1 all) ∧ Hid (Have wr [.ownS B s10 all, .box b7 ⟨cs, [], f, false⟩, .blk b9 (tpCells ⟨3, 20, ((span all : Nat) : Int), ((1 + all.length : Nat) : Int)⟩) 60, .blk b8 (tpCells ⟨3, 20, 0, 1⟩) 60]) ∧ B ≤ wr.heap.size ∧ Below w.heap.size w wr) (fun _ s11 _ => 14 - (intOf s11).toNat)
    case atStart => exact ⟨0, [], _, -1, Nat.zero_le _, by omega, by simp, rfl, by omega, hide (OnTape.fresh 0 1 (Nat.zero_le _)), hide (R3.out.consS (OwnS.nil _ _)), hB2, hb3⟩
    case round =>
      obtain ⟨k, all, cs, f, hkn, hk14, hak, rfl, hf1, hT, hR, hsz, hbw⟩ := hrel
      clear R3 hb3 hB2
      by_cases hkk : k < n ∧ k < 14
      · obtain ⟨hk1, hk2⟩ := hkk
        obtain ⟨bx, ox, hlx, hix, hcx⟩ := (HO.out.below hbw).at c k hk1
        have HFk := hide (HF.out k hk1)
        have hsl := fewOf_length (xs.getD k [])
        obtain ⟨s, hs⟩ : ∃ s, fewOf (xs.getD k []) = s := ⟨_, rfl⟩
        rw [hs] at HFk hsl
        obtain ⟨x0, hx0⟩ : ∃ z, bs (xs.getD k []) = z := ⟨_, rfl⟩
        rw [hx0] at HFk hcx
        obtain ⟨sv, hsv⟩ : ∃ z, bs s = z := ⟨_, rfl⟩
        rw [hsv] at HFk
        have HSV := hide hsv
        have hneL : (k : Int) < (n : Int) := by omega
        clear hs hx0 hsv
        go_wp2_with fail
        refine (HFk.out _).mono ?_
        rintro e w4 ⟨rfl, hb4⟩
        have R4 := hide (hR.out.next hb4)
        have hb5 := chain hbw hb4
        have hs4 := hb4.size
        clear hR hb4 hcx HFk hix
        go_upto_if 46 with fail
        go_cut [] (fun wx => ∃ (f' : Int), -1 ≤ f' ∧ Hid (Have wx [.ownS B u10 all, .box b7 ⟨cs, [], f', false⟩, .blk b9 (tpCells ⟨3, 20, ((span all : Nat) : Int), ((1 + all.length : Nat) : Int)⟩) 60, .blk b8 (tpCells ⟨3, 20, 0, 1⟩) 60]) ∧ B ≤ wx.heap.size ∧ Below w.heap.size w wx)
        case first =>
          by_cases hkf : k < n'
          · obtain ⟨kb, ko, hkb, hix, hkc⟩ := (HFS.out.below hb5).at c' k hkf
            have hz := UInt8.toNat_lt (fs.getD k 0)
            obtain ⟨z, hzz⟩ : ∃ z, (fs.getD k 0).toNat = z := ⟨_, rfl⟩
            rw [hzz] at hkc hz
            clear hzz
            have htell := tell_yes (hT.out.may hf1) (n := ((z % 10 : Nat) : Int)) (by omega)
            have HTL := hide (fun v w (h : IsDrive w v ⟨cs, [], f, false⟩) => tell_any v ⟨cs, [], f, false⟩ ((z % 10 : Nat) : Int) w h (by omega))
            rw [htell] at HTL
            obtain ⟨g1, m1, q1, g2, m2, q2, fx, oy, hR2⟩ := R4.out.tail.open
            have R := hide (hR2.consS (R4.out.ownSAt 0 rfl))
            clear R4 hR2 htell
            obtain ⟨p0, p1, p2, p3, p4, p5, p6, p7⟩ := (R.out.blkAt 1 rfl).four
            have hl7 := (R.out.blkAt 1 rfl).lt
            have hn4 : (k : Int) < (n' : Int) := by omega
            have hpw : IntKind.i64.wrap (((z : Int)).tmod 10) = ((z % 10 : Nat) : Int) := by
              rw [Int.tmod_eq_emod_of_nonneg (by omega), show ((z : Int) % 10) = ((z % 10 : Nat) : Int) by omega]
              exact IntWalk.i64_in _ (by omega)
            go_wp2_with fail
            go_cut [13, 14] (fun s13 s14 wx => ∃ (b13 : Nat), s13 = .pointer (some ⟨b13, 0, none⟩) ∧ s14 = .int .i64 0 ∧ Hid (Have wx [.box b13 ⟨cs, [], ((z % 10 : Nat) : Int), false⟩, .ownS B u10 all, .box b7 ⟨cs, [], f, false⟩, .blk b9 (tpCells ⟨3, 20, ((span all : Nat) : Int), ((1 + all.length : Nat) : Int)⟩) 60, .blk b8 (tpCells ⟨3, 20, 0, 1⟩) 60]) ∧ B ≤ b13 ∧ B ≤ wx.heap.size ∧ Below w.heap.size w wx)
            case first =>
              go_region_held3 (fun w' => w'.cell? ⟨b7, 0, none⟩ = some (.slice g1 m1 q1) ∧ w'.cell? ⟨b7, 1, none⟩ = some (.slice g2 m2 q2) ∧ w'.cell? ⟨b7, 2, none⟩ = some (.int .i64 fx) ∧ w'.cell? ⟨b7, 3, none⟩ = some (.bool oy) ∧ w'.cell? ⟨kb, ko, none⟩ = some (.int .u8 (z : Int))) (go_keep) (
                (go_at_call 22
                 try rw [hpw]
                 refine (HTL.out _ _ ((R.out.drvAt 2 rfl).below (by first | exact Below.drewed (Below.refl _ _) | exact (Below.drewed (Below.refl _ _)).alloc (Nat.le_refl _) _))).mono ?_
                 rintro e w5 ⟨v5, rfl, hd5, hb⟩
                 have HD5 := hide hd5
                 obtain ⟨y1, j1, z1, y2, j2, z2, fy, og, rfl, _⟩ := hd5
                 unfold drvVal at HD5 ⊢
                 (first
                   | (have hbq : Hid (Below w4.heap.size w4 w5) := hide (undrew1 hb)
                      obtain ⟨hcc, hff⟩ := bcell hbq.out
                      clear hb)
                   | (have hbq : Hid (Below w4.heap.size w4 w5) := hide (undrew_alloc hb)
                      obtain ⟨hcc, hff⟩ := bcell hbq.out
                      have NB : Blk w5 w4.heap.size [.slice none 0 0, .slice none 0 0, .int .i64 0, .bool false] 25 := Blk.next (Blk.new w4.drew _ _) hb
                      have hnl := NB.lt
                      have hq1 : kb ≠ w4.heap.size := by omega
                      have hq2 : w4.heap.size ≠ kb := by omega
                      have hq3 : b7 ≠ w4.heap.size := by omega
                      have hq4 : w4.heap.size ≠ b7 := by omega
                      obtain ⟨n0', n1', n2', n3', n4', n5', n6', n7'⟩ := NB.four
                      clear hb))))
              · have hR3 := (R.out.next hbq.out).consD HD5.out (hT.out.still _ _)
                have hal := (Below.refl w5.heap.size w5).alloc (Nat.le_refl _) (.cells #[.slice y1 j1 z1, .slice y2 j2 z2, .int .i64 fy, .bool og] 25)
                have hs3 := hbq.out.size
                have hR4 := hR3.next hal
                go_wp2_with fail
                go_meet
                exact ⟨w5.heap.size, rfl, rfl, hide ((((hR4.tail.tail.tail.tail).consX (hR4.blkAt 2 rfl) (hR4.drvAt 3 rfl) (hT.out.still _ _)).consS (hR4.ownSAt 1 rfl)).consX (Blk.new _ _ _) (hR4.drvAt 0 rfl) (hT.out.still _ _)), by omega, by simp; omega, chain (chain hb5 hbq.out) hal⟩
              · have hR3 := R.out.next hbq.out
                have hs3 := hbq.out.size
                have hl8 := (R.out.blkAt 4 rfl).lt
                have hl9 := (R.out.blkAt 3 rfl).lt
                have RX := (((hR3.tail.tail.tail).consX (hR3.blkAt 1 rfl) (hR3.drvAt 2 rfl) (hT.out.still _ _)).consS (hR3.ownSAt 0 rfl)).storeD NB ⟨rfl, rfl, rfl, rfl⟩ HD5.out (hT.out.still _ _) ⟨own_size (R.out.ownSAt 0 rfl) (Nat.le_refl _), hq3, Nat.ne_of_lt hl9, Nat.ne_of_lt hl8, trivial⟩
                go_wp2_with fail
                go_meet
                exact ⟨w4.heap.size, rfl, rfl, hide RX, by omega, by simp; omega, below4 (chain hb5 hbq.out) (by have := hb5.size; omega) _ _ _ _⟩
            case rest =>
              obtain ⟨wx, rfl⟩ : ∃ wx, wx = wc := ⟨_, rfl⟩
              clear R hb5 p0 p1 p2 p3 p4 p5 p6 p7 hkc hix
              obtain ⟨b13, rfl, rfl, hR5, h13, hsz5, hb6⟩ := hcut
              obtain ⟨y1, j1, z1, y2, j2, z2, fy, og, hR6⟩ := hR5.out.open
              obtain ⟨g1, m1, q1, g2, m2, q2, fx, oy, hR7⟩ := hR6.tail.tail.tail.open
              have R := hide (((hR7.consS (hR6.ownSAt 2 rfl)).consD (hR6.drvAt 1 rfl) (hT.out.still _ _)).consB (hR6.blkAt 0 rfl))
              clear hR5 hR6 hR7
              obtain ⟨p0, p1, p2, p3, p4, p5, p6, p7⟩ := (R.out.blkAt 0 rfl).four
              obtain ⟨r0, r1, r2, r3, r4, r5, r6, r7⟩ := (R.out.blkAt 3 rfl).four
              have hl13 := (R.out.blkAt 0 rfl).lt
              have hne1 : b13 ≠ b7 := by omega
              have hne2 : b7 ≠ b13 := by omega
              go_wp2_with fail
              go_meet
              have RX := (((((Have.nil _).consB (R.out.blkAt 6 rfl)).consB (R.out.blkAt 5 rfl)).consS (R.out.ownSAt 2 rfl))).storeD (R.out.blkAt 3 rfl) ⟨rfl, rfl, rfl, rfl⟩ (R.out.drvAt 1 rfl) (hT.out.still _ _) ⟨own_base (R.out.ownSAt 2 rfl) (by omega), Nat.ne_of_gt (by omega), Nat.ne_of_gt (by omega), trivial⟩
              exact ⟨((z % 10 : Nat) : Int), by omega, hide ((((RX.tail.tail).cons (RX.at 0 rfl)).consS (RX.ownSAt 1 rfl))), by simp; omega, below4 hb6 (by omega) _ _ _ _⟩
          · have hn4 : ¬ (k : Int) < (n' : Int) := by omega
            go_wp2_with fail
            go_meet
            exact ⟨f, hf1, R4, by omega, hb5⟩
        case rest =>
          obtain ⟨wx, rfl⟩ : ∃ wx, wx = wc := ⟨_, rfl⟩
          clear R4 hb5
          obtain ⟨f', hf2, hR, hsz5, hb5⟩ := hcut
          have hapd := hT.out.cutAny hf2 s (by omega) (by omega)
          have HA := hide (fun v w (h : IsDrive w v ⟨cs, [], f', false⟩) => append_any v ⟨cs, [], f', false⟩ ⟨3, 20, (span all : Nat), (1 + all.length : Nat)⟩ s w h (by have := hT.out.fits; unfold Tp.In; dsimp only; omega) (by simp) (by omega))
          rw [HSV.out] at HA
          obtain ⟨SR, hSR⟩ : ∃ z, 1 + all.length = z := ⟨_, rfl⟩
          obtain ⟨SP, hSP⟩ : ∃ z, span all = z := ⟨_, rfl⟩
          rw [hSR, hSP] at hR HA hapd
          have HN := hide (And.intro hSR hSP)
          obtain ⟨g1, m1, q1, g2, m2, q2, fx, oy, hR2⟩ := hR.out.tail.open
          have R := hide (hR2.consS (hR.out.ownSAt 0 rfl))
          clear hR hR2 hSR hSP
          obtain ⟨p0, p1, p2, p3, p4, p5, p6, p7⟩ := (R.out.blkAt 1 rfl).four
          obtain ⟨r0, r1, r2, r3, r4, r5, r6, r7⟩ := (R.out.blkAt 3 rfl).four
          rcases hapd with ⟨cs', f2, happ, hf3, hT'⟩ | ⟨E, happ, hE⟩ | ⟨Y, happ, hym, hyq, hyc⟩
          · rw [happ] at HA
            obtain ⟨SP2, hSP2⟩ : ∃ z, span (all ++ [s]) = z := ⟨_, rfl⟩
            obtain ⟨SR2, hSR2⟩ : ∃ z, 1 + (all ++ [s]).length = z := ⟨_, rfl⟩
            rw [hSP2, hSR2] at HA
            have HN2 := hide (And.intro hSP2 hSR2)
            have hT2 := hide hT'
            clear happ hSP2 hSR2 hT'
            go_wp2_with fail
            refine (HA.out _ _ (R.out.drvAt 2 rfl)).mono ?_
            rintro e w6 ⟨v', rfl, hd6, hb6⟩
            obtain ⟨u1, k1, t1, u2, k2, t2, fu, oz, hve, _⟩ := id hd6
            subst hve
            unfold drvVal at hd6 ⊢
            unfold tpVal
            have hY : Below w6.heap.size w6 ((w6.alloc (.cells #[.slice u1 k1 t1, .slice u2 k2 t2, .int .i64 fu, .bool oz] 25)).alloc (.cells #[.int .i64 3, .int .i64 20, .int .i64 (SP2 : Nat), .int .i64 (SR2 : Nat)] 60)) := ((Below.refl _ _).alloc (Nat.le_refl _) _).alloc (by simp) _
            have R7 := (R.out.next hb6).next hY
            have hb7' := chain (chain hb5 hb6) hY
            have hd7 := hd6.below hY
            obtain ⟨W8, hW8⟩ : ∃ W8, (w6.alloc (.cells #[.slice u1 k1 t1, .slice u2 k2 t2, .int .i64 fu, .bool oz] 25)).alloc (.cells #[.int .i64 3, .int .i64 20, .int .i64 (SP2 : Nat), .int .i64 (SR2 : Nat)] 60) = W8 := ⟨_, rfl⟩
            have N8 : Blk W8 w6.heap.size [.slice u1 k1 t1, .slice u2 k2 t2, .int .i64 fu, .bool oz] 25 := by rw [← hW8]; exact (Blk.new w6 _ _).alloc _
            have M8 : Blk W8 (w6.heap.size + 1) [.int .i64 3, .int .i64 20, .int .i64 (SP2 : Nat), .int .i64 (SR2 : Nat)] 60 := by
              rw [← hW8]
              have := Blk.new (w6.alloc (.cells #[.slice u1 k1 t1, .slice u2 k2 t2, .int .i64 fu, .bool oz] 25)) [.int .i64 3, .int .i64 20, .int .i64 (SP2 : Nat), .int .i64 (SR2 : Nat)] 60
              simpa using this
            rw [hW8] at R7 hb7' hd7
            have hs8 : W8.heap.size = w6.heap.size + 2 := by rw [← hW8]; simp
            have hs86 : B ≤ w6.heap.size := by have := hb6.size; omega
            have hbig : u10.ownBlock ≠ some (w6.heap.size + 1) := by have := hb6.size; exact own_size (R.out.ownSAt 0 rfl) (by omega)
            have HBIG := hide hbig
            go_upto_region 16 with fail
            try rw [hW8]
            obtain ⟨b15, hb15⟩ : ∃ b, w6.heap.size = b := ⟨_, rfl⟩
            rw [hb15] at N8 M8 hs8 hs86 HBIG ⊢
            obtain ⟨b16, hb16⟩ : ∃ b, b15 + 1 = b := ⟨_, rfl⟩
            rw [hb16] at M8 HBIG ⊢
            have R8 := hide ((((R7.tail.consB M8).consB N8).consD hd7 (hT2.out.still _ _)).consS (R7.ownSAt 0 rfl))
            have h1516 : B ≤ b15 ∧ b15 < b16 ∧ b16 < W8.heap.size := by omega
            clear hW8 hb15 hb16 p0 p1 p2 p3 p4 p5 p6 p7 r0 r1 r2 r3 r4 r5 r6 r7 hY R R7 hb5 hd6 hb6 hd7 N8 M8 hs8 hbig
            have hnb := Blk.new W8 [.string sv] 9
            have hal : Below W8.heap.size W8 (W8.alloc (.cells #[.string sv] 9)) := (Below.refl _ _).alloc (Nat.le_refl _) _
            go_wp2_with (at_builtin; refine wpList_appS rfl (.tmp 71) (.tmp 73) rfl B u10 all rfl ((R8.out.next hal).ownSAt 0 rfl) _ 1 1 [s] rfl rfl (by show Row _ _ [Value.string (bs s)]; rw [HSV.out]; exact row_of_blk hnb) (by omega) (by simp; omega) ?_)
            intro v10 w10 hO10 hg10 hk10 ho10
            have hR8 := R8.out.next hal
            have R10 := hide ((hR8.tail.grow hg10 hk10 (fun b hb => ⟨trivial, apart_type (hR8.ownSAt 0 rfl) hb (hR8.blkAt 2 rfl) (by decide), apart_type (hR8.ownSAt 0 rfl) hb (hR8.blkAt 3 rfl) (by decide), apart_base (hR8.ownSAt 0 rfl) hb (by omega), trivial, apart_base (hR8.ownSAt 0 rfl) hb (by omega), apart_base (hR8.ownSAt 0 rfl) hb (by omega), trivial⟩)).consS hO10)
            have hz10 := hg10.size
            have hb10 := grown_below (hb7'.trans (hal.mono hb7'.size)) (by have := hb7'.size; simp; omega) hg10 (fun g hg => by have := ((hR8.ownSAt 0 rfl).1.lt g hg).1; omega)
            have hsz10 : W8.heap.size + 1 ≤ w10.heap.size := by simpa using hz10
            clear hR8 R8 hal hnb hg10 hk10 ho10 hz10 hO10 hb7'
            go_upto_region 17 with fail
            obtain ⟨p0, p1, p2, p3, p4, p5, p6, p7⟩ := (R10.out.blkAt 2 rfl).four
            obtain ⟨r0, r1, r2, r3, r4, r5, r6, r7⟩ := (R10.out.blkAt 3 rfl).four
            obtain ⟨s0, s1, s2, s3, s4, s5, s6, s7⟩ := (R10.out.blkAt 4 rfl).four
            obtain ⟨l0, l1, l2, l3, l4, l5, l6, l7⟩ := (R10.out.blkAt 6 rfl).four
            have hne1 : b7 ≠ b15 := by omega
            have hne2 : b15 ≠ b7 := by omega
            have hne3 : b7 ≠ b16 := by omega
            have hne4 : b16 ≠ b7 := by omega
            have hne5 : b9 ≠ b15 := by omega
            have hne6 : b15 ≠ b9 := by omega
            have hne7 : b9 ≠ b16 := by omega
            have hne8 : b16 ≠ b9 := by omega
            have hne9 : b7 ≠ b9 := by omega
            have hne10 : b9 ≠ b7 := by omega
            go_region_held3 (fun w' => w'.cell? ⟨b15, 0, none⟩ = some (.slice u1 k1 t1) ∧ w'.cell? ⟨b15, 1, none⟩ = some (.slice u2 k2 t2) ∧ w'.cell? ⟨b15, 2, none⟩ = some (.int .i64 fu) ∧ w'.cell? ⟨b15, 3, none⟩ = some (.bool oz) ∧ w'.cell? ⟨b16, 0, none⟩ = some (.int .i64 3) ∧ w'.cell? ⟨b16, 1, none⟩ = some (.int .i64 20) ∧ w'.cell? ⟨b16, 2, none⟩ = some (.int .i64 (SP2 : Nat)) ∧ w'.cell? ⟨b16, 3, none⟩ = some (.int .i64 (SR2 : Nat))) (go_keep) (fail)
            clear p0 p1 p2 p3 p4 p5 p6 p7 r0 r1 r2 r3 r4 r5 r6 r7 s0 s1 s2 s3 s4 s5 s6 s7 l0 l1 l2 l3 l4 l5 l6 l7
            go_wp2_with fail
            go_roundw
            case rel =>
              have RN := ((Have.nil _).consB (R10.out.blkAt 7 rfl)).consS (R10.out.ownSAt 0 rfl)
              have RX := (RN.store2 (t := ⟨3, 20, (SP2 : Nat), (SR2 : Nat)⟩) (R10.out.blkAt 4 rfl) ⟨rfl, rfl, rfl, rfl⟩ (R10.out.blkAt 6 rfl) ⟨rfl, rfl, rfl, rfl⟩ (R10.out.drvAt 1 rfl) (hT2.out.still _ _) ⟨own_base (R10.out.ownSAt 0 rfl) (by omega), Nat.ne_of_gt h78, trivial⟩ ⟨own_base (R10.out.ownSAt 0 rfl) (by omega), Nat.ne_of_lt h89, trivial⟩ hne10).next (Below.drewed (Below.refl _ _))
              refine ⟨k + 1, all ++ [s], cs', f2, by omega, by omega, by simp; omega, by go_num, hf3, hT2, hide ?_, by simp; omega, ?_⟩
              · rw [HN2.out.1, HN2.out.2]
                exact ((((Have.nil _).consB (RX.blkAt 3 rfl)).consB (RX.blkAt 0 rfl)).cons (RX.at 1 rfl)).consS (RX.ownSAt 2 rfl)
              · exact Below.drewed (below4 (below4 hb10 (by omega) _ _ _ _) (by omega) _ _ _ _)
            case measure => simp [intOf]; omega
          · rw [happ] at HA
            clear happ
            go_wp2_with fail
            refine (HA.out _ _ (R.out.drvAt 2 rfl)).mono ?_
            rintro e w6 ⟨v', rfl, hd6, hb6⟩
            obtain ⟨u1, k1, t1, u2, k2, t2, fu, oz, rfl, _⟩ := hd6
            unfold drvVal tpVal Tp.zero
            have hY : Below w6.heap.size w6 ((w6.alloc (.cells #[.slice u1 k1 t1, .slice u2 k2 t2, .int .i64 fu, .bool oz] 25)).alloc (.cells #[.int .i64 0, .int .i64 0, .int .i64 0, .int .i64 0] 60)) := ((Below.refl _ _).alloc (Nat.le_refl _) _).alloc (by simp) _
            have R7 := hide ((R.out.next hb6).next hY)
            have hb7' := chain (chain hb5 hb6) hY
            have hs7 : B ≤ ((w6.alloc (.cells #[.slice u1 k1 t1, .slice u2 k2 t2, .int .i64 fu, .bool oz] 25)).alloc (.cells #[.int .i64 0, .int .i64 0, .int .i64 0, .int .i64 0] 60)).heap.size := by
              have := hY.size
              have := hb6.size
              omega
            clear p0 p1 p2 p3 p4 p5 p6 p7 r0 r1 r2 r3 r4 r5 r6 r7 R hb5 hb6 hY
            have RX := hide ((((Have.nil _).consB (R7.out.blkAt 4 rfl)).consB (R7.out.blkAt 3 rfl)).consX (R7.out.blkAt 1 rfl) (R7.out.drvAt 2 rfl) (hT.out.still _ _) |>.consS (R7.out.ownSAt 0 rfl))
            clear R7
            rcases hE with rfl | rfl
            · go_wp2_with fail
              go_roundw
              case rel => exact ⟨k + 1, all, cs, f', by omega, by omega, by omega, by go_num, hf2, hT, (by rw [HN.out.1, HN.out.2]; exact RX), hs7, hb7'⟩
              case measure => simp [intOf]; omega
            · go_wp2_with fail
              go_roundw
              case rel => exact ⟨k + 1, all, cs, f', by omega, by omega, by omega, by go_num, hf2, hT, (by rw [HN.out.1, HN.out.2]; exact RX), hs7, hb7'⟩
              case measure => simp [intOf]; omega
          · rw [happ] at HA
            clear happ
            go_wp2_with fail
            refine (HA.out _ _ (R.out.drvAt 2 rfl)).mono ?_
            rintro e w6 ⟨v', rfl, hd6, hb6⟩
            obtain ⟨u1, k1, t1, u2, k2, t2, fu, oz, hve, _⟩ := id hd6
            subst hve
            unfold drvVal at hd6 ⊢
            unfold tpVal Tp.zero
            have hal : Below w6.heap.size w6 (((w6.alloc (.cells #[.slice u1 k1 t1, .slice u2 k2 t2, .int .i64 fu, .bool oz] 25)).alloc (.cells #[.int .i64 0, .int .i64 0, .int .i64 0, .int .i64 0] 60)).alloc (.cells #[.int .u64 0, .int .i64 (-1), .int .i64 0] 28)) := (((Below.refl _ _).alloc (Nat.le_refl _) _).alloc (by simp) _).alloc (by simp; omega) _
            obtain ⟨N8, M8, L8⟩ := three_kinds w6 [.slice u1 k1 t1, .slice u2 k2 t2, .int .i64 fu, .bool oz] [.int .i64 0, .int .i64 0, .int .i64 0, .int .i64 0] [.int .u64 0, .int .i64 (-1), .int .i64 0] 25 60 28
            obtain ⟨W8, hW8⟩ : ∃ W8, (((w6.alloc (.cells #[.slice u1 k1 t1, .slice u2 k2 t2, .int .i64 fu, .bool oz] 25)).alloc (.cells #[.int .i64 0, .int .i64 0, .int .i64 0, .int .i64 0] 60)).alloc (.cells #[.int .u64 0, .int .i64 (-1), .int .i64 0] 28)) = W8 := ⟨_, rfl⟩
            have hs8 : W8.heap.size = w6.heap.size + 3 := by rw [← hW8]; simp
            rw [hW8] at N8 M8 L8 hal
            have R7 := (R.out.next hb6).next hal
            have hb7' := chain (chain hb5 hb6) hal
            have hd7 := hd6.below hal
            have hs86 : B ≤ w6.heap.size := by have := hb6.size; omega
            have HW8 := hide hW8
            clear hW8
            go_upto_if 83 with fail
            rw [HW8.out]
            clear HW8
            obtain ⟨b15, hb15⟩ : ∃ b, w6.heap.size = b := ⟨_, rfl⟩
            rw [hb15] at N8 M8 L8 hs8 hs86 ⊢
            obtain ⟨b16, hb16⟩ : ∃ b, b15 + 1 = b := ⟨_, rfl⟩
            rw [hb16] at M8 L8 ⊢
            obtain ⟨b18, hb18⟩ : ∃ b, b16 + 1 = b := ⟨_, rfl⟩
            rw [hb18] at L8 ⊢
            have h1518 : B ≤ b15 ∧ b15 < b16 ∧ b16 < b18 ∧ b18 < W8.heap.size := by omega
            have HYC := hide (And.intro hym (And.intro hyq hyc))
            have HD8 := hide hd7
            have R8 := hide (((((Have.nil _).consB (R7.blkAt 4 rfl)).consB (R7.blkAt 3 rfl)).consX (R7.blkAt 1 rfl) (R7.drvAt 2 rfl) (hT.out.still _ _)).consS (R7.ownSAt 0 rfl))
            clear hb15 hb16 hb18 p0 p1 p2 p3 p4 p5 p6 p7 r0 r1 r2 r3 r4 r5 r6 r7 hal R R7 hb5 hd6 hb6 hd7 hs8 hym hyq hyc M8
            go_cut [] (fun wx => ∃ (kept : Nat) (tn cut : Int), Lo.In ⟨kept, tn, cut⟩ ∧ Hid (Have wx [.blk b18 [.int .u64 (kept : Int), .int .i64 tn, .int .i64 cut] 28, .blk b15 [.slice u1 k1 t1, .slice u2 k2 t2, .int .i64 fu, .bool oz] 25, .ownS B u10 all, .box b7 ⟨cs, [], f', false⟩, .blk b9 (tpCells ⟨3, 20, (SP : Nat), (SR : Nat)⟩) 60, .blk b8 (tpCells ⟨3, 20, 0, 1⟩) 60]) ∧ Hid (IsDrive wx (.agg #[.slice u1 k1 t1, .slice u2 k2 t2, .int .i64 fu, .bool oz]) Y) ∧ b18 < wx.heap.size ∧ Below w.heap.size w wx)
            case first =>
              by_cases hkm : k < m
              · obtain ⟨kb, ko, hkb, hix, hk0, hk1, hk2', hlin⟩ := (HQ.out.below hb7').at e k hkm
                obtain ⟨⟨ke, tn, cu⟩, hlo⟩ : ∃ x, q.getD k ⟨0, 0, 0⟩ = x := ⟨_, rfl⟩
                rw [hlo] at hk0 hk1 hk2' hlin
                clear hlo
                simp only at hk0 hk1 hk2'
                have hn5 : (k : Int) < (m : Int) := by omega
                obtain ⟨l0, l1, l2, l3, l4, l5⟩ := L8.three'
                go_wp2_with fail
                go_meet
                obtain ⟨hst, hbl⟩ := Step.set3 L8 ⟨rfl, rfl, rfl⟩ (.int .u64 (ke : Int)) (.int .i64 tn) (.int .i64 cu) ⟨rfl, rfl⟩
                have hRN := (R8.out.consB N8).step hst ⟨Nat.ne_of_lt (by omega), own_type (R8.out.ownSAt 0 rfl) L8 (by decide), Nat.ne_of_lt (by omega), Nat.ne_of_lt (by omega), Nat.ne_of_lt (by omega), trivial⟩
                exact ⟨ke, tn, cu, hlin, hide (hRN.consB hbl), hide (HD8.out.step3 L8 ⟨rfl, rfl, rfl⟩ _ _ _ ⟨rfl, rfl⟩), by simp; omega, row_below (row_below (row_below hb7' (by omega) (by omega) _ _) (by simp; omega) (by omega) _ _) (by simp; omega) (by omega) _ _⟩
              · have hn5 : ¬ (k : Int) < (m : Int) := by omega
                go_wp2_with fail
                go_meet
                exact ⟨0, -1, 0, ⟨by simp, by simp, by simp⟩, hide ((R8.out.consB N8).consB L8), HD8, by omega, hb7'⟩
            case rest =>
              obtain ⟨wy, rfl⟩ : ∃ wy, wy = wc := ⟨_, rfl⟩
              clear hb7' N8 L8 HD8 R8
              obtain ⟨kept, tn, cut, hlin, hR9, hD9, h18, hb9⟩ := hcut
              obtain ⟨cs', hcr, hor⟩ := HYC.out.2.2 kept tn cut
              have HCR := hide (fun v w (h : IsDrive w v Y) => crash_any v Y kept tn cut w h hlin.1 hlin.2.1 hlin.2.2)
              rw [hcr] at HCR
              obtain ⟨all', hall', hT'⟩ : ∃ all', (all' = all ∨ all' = all ++ [s]) ∧ OnTape cs' 0 1 all' := by
                rcases hor with h | h
                · exact ⟨all, .inl rfl, h⟩
                · exact ⟨all ++ [s], .inr rfl, h⟩
              have hT2 := hide hT'
              have hall2 : all'.length ≤ k + 1 := by
                rcases hall' with rfl | rfl
                · omega
                · simp; omega
              obtain ⟨x1, i1, e1, x2, i2, e2, fz, oo, hR10⟩ := hR9.out.tail.tail.tail.open
              have R := hide ((((hR10).consS (hR9.out.ownSAt 2 rfl)).consB (hR9.out.blkAt 1 rfl)).consB (hR9.out.blkAt 0 rfl))
              clear hR9 hR10 hcr hor hT' HYC
              obtain ⟨p0, p1, p2, p3, p4, p5, p6, p7⟩ := (R.out.blkAt 1 rfl).four
              obtain ⟨l0, l1, l2, l3, l4, l5⟩ := (R.out.blkAt 0 rfl).three'
              go_wp2_with fail
              refine (HCR.out _ _ hD9.out).mono ?_
              rintro e w10 ⟨v10, rfl, hd10, hb10⟩
              have HD10 := hide hd10
              obtain ⟨y1, j1, z1, y2, j2, z2, fy, og, rfl, _⟩ := hd10
              unfold drvVal at HD10 ⊢
              have R10 := R.out.next hb10
              have hb11 := chain hb9 hb10
              have hs10 := hb10.size
              have hl7 := (R10.blkAt 3 rfl).lt
              clear p0 p1 p2 p3 p4 p5 p6 p7 l0 l1 l2 l3 l4 l5 hb10 hb9
              have R11 := (((Have.nil _).consB (R10.blkAt 6 rfl)).consB (R10.blkAt 5 rfl)).consS (R10.ownSAt 2 rfl) |>.storeO (R10.blkAt 3 rfl) ⟨rfl, rfl, rfl, rfl⟩ HD10.out (hT2.out.still _ _) ⟨own_base (R10.ownSAt 2 rfl) (by omega), Nat.ne_of_gt (by omega), Nat.ne_of_gt (by omega), trivial⟩
              obtain ⟨s0, s1, s2, s3, s4, s5, s6, s7⟩ := (R10.blkAt 3 rfl).four
              obtain ⟨W11, hW11⟩ : ∃ W11, ((((w10.setCell ⟨b7, 0, none⟩ (.slice y1 j1 z1)).setCell ⟨b7, 1, none⟩ (.slice y2 j2 z2)).setCell ⟨b7, 2, none⟩ (.int .i64 fy)).setCell ⟨b7, 3, none⟩ (.bool og)) = W11 := ⟨_, rfl⟩
              have hb12 : Below w.heap.size w W11 := by rw [← hW11]; exact below4 hb11 (by omega) _ _ _ _
              have hs11 : W11.heap.size = w10.heap.size := by rw [← hW11]; simp
              rw [hW11] at R11
              have HR11 := hide R11
              obtain ⟨p0, p1, p2, p3, p4, p5, p6, p7⟩ := (R11.blkAt 0 rfl).four
              obtain ⟨r0, r1, r2, r3, r4, r5, r6, r7⟩ := (R11.blkAt 4 rfl).four
              have hscan := hT2.out.scan (f := -1) (by omega) 0 (by omega) (by omega) (by omega)
              rw [List.take_zero] at hscan
              change Drv.scan _ ⟨3, 20, 0, 1⟩ = _ at hscan
              have HSC := hide (fun v w (h : IsDrive w v ⟨cs', [], -1, false⟩) => scan_own v ⟨cs', [], -1, false⟩ ⟨3, 20, 0, 1⟩ w h (by unfold Tp.In; decide))
              rw [hscan] at HSC
              obtain ⟨SPn, hSPn⟩ : ∃ z, span all' = z := ⟨_, rfl⟩
              obtain ⟨SRn, hSRn⟩ : ∃ z, 1 + all'.length = z := ⟨_, rfl⟩
              rw [hSPn, hSRn, List.drop_zero] at HSC
              have HN2 := hide (And.intro hSPn hSRn)
              clear hscan hSPn hSRn R10 R11
              go_wp2_with fail
              refine (HSC.out _ _ (HR11.out.drvAt 1 rfl)).mono ?_
              rintro e w12 ⟨ao3, c3, rfl, hO3, hb13⟩
              unfold tpVal
              have hal := (Below.refl w12.heap.size w12).alloc (Nat.le_refl _) (.cells #[.int .i64 3, .int .i64 20, .int .i64 (SPn : Nat), .int .i64 (SRn : Nat)] 60)
              have hs13 := hb13.size
              have hBW : B ≤ W11.heap.size := by omega
              have hO3' : OwnS w12 B (.slice ao3 all'.length c3) all' := OwnZ.base hO3 hBW
              have R13 := hide ((((HR11.out.next hb13).consS hO3').next hal).consB (Blk.new w12 [.int .i64 3, .int .i64 20, .int .i64 (SPn : Nat), .int .i64 (SRn : Nat)] 60))
              have hb14 := chain (chain hb12 hb13) hal
              obtain ⟨W13, hW13⟩ : ∃ W13, w12.alloc (.cells #[.int .i64 3, .int .i64 20, .int .i64 (SPn : Nat), .int .i64 (SRn : Nat)] 60) = W13 := ⟨_, rfl⟩
              rw [hW13] at R13 hb14
              have hs14 : W13.heap.size = w12.heap.size + 1 := by rw [← hW13]; simp
              have HW13 := hide hW13
              clear hW13 hal hO3 hO3' p0 p1 p2 p3 p4 p5 p6 p7 r0 r1 r2 r3 r4 r5 r6 r7 s0 s1 s2 s3 s4 s5 s6 s7 hW11 HR11 hb12 hb13 hb11 hD9
              go_upto_region 24 with fail
              rw [HW13.out]
              obtain ⟨b20, hb20⟩ : ∃ b, w12.heap.size = b := ⟨_, rfl⟩
              rw [hb20] at R13 hs13 hs14 ⊢
              clear HW13 hb20
              have h20 : B ≤ b20 := by omega
              obtain ⟨a10, c10, rfl, hc10, hm10, hst10⟩ := (R13.out.ownSAt 4 rfl).form
              obtain ⟨_, _, hxe, hc3, hm3, hst3⟩ := (R13.out.ownSAt 1 rfl).form
              injection hxe with hxe1 hxe0 hxe2
              subst hxe1
              subst hxe2
              clear hxe0
              have HST3 := hide hst3
              have HST10 := hide hst10
              clear hst3 hst10
              have HSM := hide (ref2same_any ao3 a10 all'.length c3 all.length c10 all' all W13 HST3.out HST10.out (by omega) (by omega))
              rcases hall' with hE | hE
              · rw [decide_eq_true hE] at HSM
                clear hE
                go_wp2_with fail
                refine HSM.out.mono ?_
                rintro e w14 ⟨rfl, hb15⟩
                have R14 := hide (R13.out.next hb15)
                have hb16 := chain hb14 hb15
                have hs15 := hb15.size
                clear hb15 R13 HSM
                go_upto_region 26 with fail
                obtain ⟨p0, p1, p2, p3, p4, p5, p6, p7⟩ := (R14.out.blkAt 0 rfl).four
                obtain ⟨r0, r1, r2, r3, r4, r5, r6, r7⟩ := (R14.out.blkAt 5 rfl).four
                have hl9 := (R14.out.blkAt 5 rfl).lt
                have hne1 : b20 ≠ b9 := by omega
                have hne2 : b9 ≠ b20 := by omega
                go_region_held3 (fun w' => w'.cell? ⟨b20, 0, none⟩ = some (.int .i64 3) ∧ w'.cell? ⟨b20, 1, none⟩ = some (.int .i64 20) ∧ w'.cell? ⟨b20, 2, none⟩ = some (.int .i64 (SPn : Nat)) ∧ w'.cell? ⟨b20, 3, none⟩ = some (.int .i64 (SRn : Nat))) (go_keep) (fail)
                go_wp2_with fail
                go_roundw
                case rel =>
                  have RN := (((Have.nil _).consB (R14.out.blkAt 6 rfl)).consX (R14.out.blkAt 2 rfl) (R14.out.drvAt 3 rfl) (hT2.out.still _ _)).consS (R14.out.ownSAt 1 rfl)
                  have RX := (RN.storeT (t := ⟨3, 20, (SPn : Nat), (SRn : Nat)⟩) (R14.out.blkAt 5 rfl) ⟨rfl, rfl, rfl, rfl⟩ ⟨own_base (R14.out.ownSAt 1 rfl) (by omega), Nat.ne_of_lt (by omega), Nat.ne_of_lt (by omega), trivial⟩).next (Below.drewed (Below.refl _ _))
                  refine ⟨k + 1, all', cs', -1, by omega, by omega, by omega, by go_num, by omega, hT2, hide ?_, by simp; omega, Below.drewed (below4 hb16 (by omega) _ _ _ _)⟩
                  rw [HN2.out.1, HN2.out.2]
                  exact ((((Have.nil _).consB (RX.blkAt 3 rfl)).consB (RX.blkAt 0 rfl)).cons (RX.at 2 rfl)).consS (RX.ownSAt 1 rfl)
                case measure => simp [intOf]; omega
              · rw [decide_eq_false (by intro h; rw [h] at hE; have := congrArg List.length hE; simp at this)] at HSM
                have HE := hide hE
                clear hE
                go_wp2_with fail
                refine HSM.out.mono ?_
                rintro e w14 ⟨rfl, hb15⟩
                have R14 := hide (R13.out.next hb15)
                have hb16 := chain hb14 hb15
                have hs15 := hb15.size
                clear hb15 R13 HSM
                have HOA : Hid (∀ b, w14.heap.size ≤ b → (Value.slice ao3 all'.length c3).ownBlock ≠ some b) := hide (fun b hb => own_size (R14.out.ownSAt 1 rfl) hb)
                have HOB : Hid (∀ b, w14.heap.size ≤ b → (Value.slice a10 all.length c10).ownBlock ≠ some b) := hide (fun b hb => own_size (R14.out.ownSAt 4 rfl) hb)
                have HWB := hide hb16.size
                have E0 := Blk.new w14 [] 9
                have hal0 : Below w14.heap.size w14 (w14.alloc (.cells #[] 9)) := (Below.refl _ _).alloc (Nat.le_refl _) _
                go_wp2_with (at_builtin; refine wpList_appSg (by rfl) (.tmp 107) (.tmp 108) rfl w14.heap.size (.slice (some ⟨w14.heap.size, 0, none⟩) 0 0) [] rfl (OwnS.empty E0 (Nat.le_refl _)) a10 all.length c10 all rfl rfl (own_row ((R14.out.next hal0).ownSAt 4 rfl).1) (by simp; omega) (by simp) ?_)
                intro v15 w15 hO15 hg15 hk15 ho15
                try rw [List.nil_append] at hO15
                have hR15 := R14.out.next hal0
                have R15 := hide ((hR15.grow hg15 hk15 (fun b hb => by
                  injection hb with hb
                  simp only at hb
                  subst hb
                  exact ⟨Nat.ne_of_lt (by omega), own_size (R14.out.ownSAt 1 rfl) (Nat.le_refl _), Nat.ne_of_lt (by omega), trivial, own_size (R14.out.ownSAt 4 rfl) (Nat.le_refl _), Nat.ne_of_lt (by omega), Nat.ne_of_lt (by omega), trivial⟩)).consS hO15)
                have hs16 := hg15.size
                have hb17 := grown_below (hb16.trans (hal0.mono hb16.size)) (by have := hb16.size; simp; omega) hg15 (fun g hg => by injection hg with hg; simp only at hg; subst hg; exact hb16.size)
                have hs17 : w14.heap.size + 1 ≤ w15.heap.size := by simpa using hs16
                clear hR15 R14 hal0 E0 hg15 hk15 ho15 hs16 hO15 hb16
                have hnb := Blk.new w15 [.string sv] 9
                have hal1 : Below w15.heap.size w15 (w15.alloc (.cells #[.string sv] 9)) := (Below.refl _ _).alloc (Nat.le_refl _) _
                go_wp2_with (at_builtin; refine wpList_appSg (by rfl) (.tmp 109) (.tmp 111) rfl w14.heap.size v15 all rfl ((R15.out.next hal1).ownSAt 0 rfl) _ 1 1 [s] rfl rfl (by show Row _ _ [Value.string (bs s)]; rw [HSV.out]; exact row_of_blk hnb) (by omega) (by simp; omega) ?_)
                intro v16 w16 hO16 hg16 hk16 ho16
                have hR16 := R15.out.next hal1
                have hvb : ∀ b, v15.ownBlock = some b → w14.heap.size ≤ b := fun b hb => ((R15.out.ownSAt 0 rfl).1.lt b hb).1
                have R16 := hide ((hR16.tail.grow hg16 hk16 (fun b hb => by
                  have hbb := hvb b hb
                  exact ⟨Nat.ne_of_lt (by omega), HOA.out b hbb, Nat.ne_of_lt (by omega), trivial, HOB.out b hbb, Nat.ne_of_lt (by omega), Nat.ne_of_lt (by omega), trivial⟩)).consS hO16)
                have hs18 := hg16.size
                have hs19 : w15.heap.size + 1 ≤ w16.heap.size := by simpa using hs18
                have hb18 := grown_below (hb17.trans (hal1.mono hb17.size)) (by have := hb17.size; simp; omega) hg16 (fun g hg => by have := hvb g hg; have := HWB.out; omega)
                clear hR16 R15 hal1 hnb hg16 hk16 ho16 hs18 hO16 hb17 hvb
                obtain ⟨a16, c16, rfl, hc16, hm16, hst16⟩ := (R16.out.ownSAt 0 rfl).form
                obtain ⟨_, _, hxe, _, _, hst3⟩ := (R16.out.ownSAt 2 rfl).form
                injection hxe with hxe1 hxe0 hxe2
                subst hxe1
                subst hxe2
                clear hxe0
                have HSM2 := hide (ref2same_any ao3 a16 all'.length c3 (all ++ [s]).length c16 all' (all ++ [s]) w16 hst3 hst16 (by omega) (by simp; omega))
                rw [decide_eq_true HE.out] at HSM2
                clear hst3 hst16
                simp only [List.length_append, List.length_singleton] at HSM2
                go_wp2_with fail
                refine HSM2.out.mono ?_
                rintro e w17 ⟨rfl, hb19⟩
                have RR := hide (R16.out.next hb19).tail
                have HBB := chain hb18 hb19
                have hs20 := hb19.size
                clear hb19 R16 HSM2 hb18
                go_upto_region 26 with fail
                obtain ⟨p0, p1, p2, p3, p4, p5, p6, p7⟩ := (RR.out.blkAt 0 rfl).four
                obtain ⟨r0, r1, r2, r3, r4, r5, r6, r7⟩ := (RR.out.blkAt 5 rfl).four
                have hl9 := (RR.out.blkAt 5 rfl).lt
                have hne1 : b20 ≠ b9 := by omega
                have hne2 : b9 ≠ b20 := by omega
                go_region_held3 (fun w' => w'.cell? ⟨b20, 0, none⟩ = some (.int .i64 3) ∧ w'.cell? ⟨b20, 1, none⟩ = some (.int .i64 20) ∧ w'.cell? ⟨b20, 2, none⟩ = some (.int .i64 (SPn : Nat)) ∧ w'.cell? ⟨b20, 3, none⟩ = some (.int .i64 (SRn : Nat))) (go_keep) (fail)
                go_wp2_with fail
                go_roundw
                case rel =>
                  have RN := (((Have.nil _).consB (RR.out.blkAt 6 rfl)).consX (RR.out.blkAt 2 rfl) (RR.out.drvAt 3 rfl) (hT2.out.still _ _)).consS (RR.out.ownSAt 1 rfl)
                  have RX := (RN.storeT (t := ⟨3, 20, (SPn : Nat), (SRn : Nat)⟩) (RR.out.blkAt 5 rfl) ⟨rfl, rfl, rfl, rfl⟩ ⟨own_base (RR.out.ownSAt 1 rfl) (by omega), Nat.ne_of_lt (by omega), Nat.ne_of_lt (by omega), trivial⟩).next (Below.drewed (Below.refl _ _))
                  refine ⟨k + 1, all', cs', -1, by omega, by omega, by omega, by go_num, by omega, hT2, hide ?_, by simp; omega, Below.drewed (below4 HBB (by omega) _ _ _ _)⟩
                  rw [HN2.out.1, HN2.out.2]
                  exact ((((Have.nil _).consB (RX.blkAt 3 rfl)).consB (RX.blkAt 0 rfl)).cons (RX.at 2 rfl)).consS (RX.ownSAt 1 rfl)
                case measure => simp [intOf]; omega
      · by_cases hk1 : k < n
        · have hk2 : ¬ k < 14 := fun h => hkk ⟨hk1, h⟩
          have hneL : (k : Int) < (n : Int) := by omega
          clear hkk
          go_wp2_with fail
          go_meet
          exact ⟨all, cs, f, by omega, hf1, hT, hR, hsz, hbw⟩
        · have hneL : ¬ (k : Int) < (n : Int) := by omega
          clear hkk
          go_wp2_with fail
          go_meet
          exact ⟨all, cs, f, by omega, hf1, hT, hR, hsz, hbw⟩
  case rest =>
    obtain ⟨wr, rfl⟩ : ∃ wr, wr = wc := ⟨_, rfl⟩
    clear R3 hb3 hB2 HF HS HO HX HFS HQ hn1 hn2 hn3
    obtain ⟨all, cs, f, hal, hf1, hT, hR, hsz, hbw⟩ := hcut
    have HCR := hide (fun v w (h : IsDrive w v ⟨cs, [], f, false⟩) => crash_any v ⟨cs, [], f, false⟩ 0 (-1) 0 w h (by omega) (by omega) (by omega))
    rw [crash_idle (hT.out.may hf1)] at HCR
    have hscan := hT.out.scan (f := -1) (by omega) 0 (by omega) (by omega) (by omega)
    rw [List.take_zero] at hscan
    change Drv.scan _ ⟨3, 20, 0, 1⟩ = _ at hscan
    have HSC := hide (fun v w (h : IsDrive w v ⟨cs, [], -1, false⟩) => scan_own v ⟨cs, [], -1, false⟩ ⟨3, 20, 0, 1⟩ w h (by unfold Tp.In; decide))
    rw [hscan, List.drop_zero] at HSC
    obtain ⟨SR, hSR⟩ : ∃ z, 1 + all.length = z := ⟨_, rfl⟩
    obtain ⟨SP, hSP⟩ : ∃ z, span all = z := ⟨_, rfl⟩
    rw [hSR, hSP] at hR HSC
    obtain ⟨g1, m1, q1, g2, m2, q2, fx, oy, hR2⟩ := hR.out.tail.open
    have R := hide (hR2.consS (hR.out.ownSAt 0 rfl))
    clear hR hR2 hSR hSP hscan
    obtain ⟨a10, c10, rfl, hc10, hm10, _⟩ := (R.out.ownSAt 0 rfl).form
    obtain ⟨p0, p1, p2, p3, p4, p5, p6, p7⟩ := (R.out.blkAt 1 rfl).four
    obtain ⟨r0, r1, r2, r3, r4, r5, r6, r7⟩ := (R.out.blkAt 4 rfl).four
    have hl7 := (R.out.blkAt 1 rfl).lt
    have hl8 := (R.out.blkAt 4 rfl).lt
    have hl9 := (R.out.blkAt 3 rfl).lt
    go_upto_region 27 with fail
    go_cut [22, 23, 24] (fun s22 s23 s24 wx => ∃ (ao' : Option Addr) (c' b23 : Nat), s22 = .slice ao' all.length c' ∧ s23 = .pointer (some ⟨b23, 0, none⟩) ∧ s24 = .int .i64 0 ∧ Hid (Have wx [.blk b23 (tpCells ⟨3, 20, (SP : Nat), (SR : Nat)⟩) 60, .ownS B (.slice ao' all.length c') all, .ownS B (.slice a10 all.length c10) all, .blk b9 (tpCells ⟨3, 20, (SP : Nat), (SR : Nat)⟩) 60]) ∧ Below w.heap.size w wx)
    case first =>
      go_region_held3 (fun w' => w'.cell? ⟨b7, 0, none⟩ = some (.slice g1 m1 q1) ∧ w'.cell? ⟨b7, 1, none⟩ = some (.slice g2 m2 q2) ∧ w'.cell? ⟨b7, 2, none⟩ = some (.int .i64 fx) ∧ w'.cell? ⟨b7, 3, none⟩ = some (.bool oy) ∧ w'.cell? ⟨b8, 0, none⟩ = some (.int .i64 3) ∧ w'.cell? ⟨b8, 1, none⟩ = some (.int .i64 20) ∧ w'.cell? ⟨b8, 2, none⟩ = some (.int .i64 0) ∧ w'.cell? ⟨b8, 3, none⟩ = some (.int .i64 1)) (go_keep) (first
        | (go_at_call 24
           refine (HCR.out _ _ ((R.out.drvAt 2 rfl).below (by first | exact Below.drewed (Below.refl _ _) | exact (Below.drewed (Below.refl _ _)).alloc (Nat.le_refl _) _))).mono ?_
           rintro e w5 ⟨v5, rfl, hd5, hb⟩
           have HD5 := hide hd5
           (first
             | (have hbq : Hid (Below wr.heap.size wr w5) := hide (undrew1 hb))
             | (have hbq : Hid (Below wr.heap.size wr w5) := hide (undrew_alloc hb)
                have NB : Blk w5 wr.heap.size [.int .i64 0, .int .i64 0, .int .i64 0, .int .i64 0] 60 := Blk.next (Blk.new wr.drew _ _) hb))
           have R5 := hide (R.out.next hbq.out)
           obtain ⟨p0', p1', p2', p3', p4', p5', p6', p7'⟩ := (R5.out.blkAt 1 rfl).four
           obtain ⟨r0', r1', r2', r3', r4', r5', r6', r7'⟩ := (R5.out.blkAt 4 rfl).four
           have hs5 := hbq.out.size
           clear hb hd5)
        | (go_at_call 47
           refine (HSC.out _ _ (by first | exact HD5.out | exact HD5.out.below ((Below.refl _ _).alloc (Nat.le_refl _) _))).mono ?_
           rintro e w6 ⟨ao3, c3, rfl, ho3, hb⟩
           try unfold tpVal
           have HO3 := hide ho3
           (first
             | (have NB2 : Blk w6 wr.heap.size [.int .i64 0, .int .i64 0, .int .i64 0, .int .i64 0] 60 := Blk.next NB hb
                have hbq2 : Hid (Below w5.heap.size w5 w6) := hide hb
                have hq1 : b7 ≠ wr.heap.size := by omega
                have hq2 : wr.heap.size ≠ b7 := by omega
                have hq3 : b8 ≠ wr.heap.size := by omega
                have hq4 : wr.heap.size ≠ b8 := by omega
                have hnl := NB2.lt
                obtain ⟨n0', n1', n2', n3', n4', n5', n6', n7'⟩ := NB2.four)
             | (have hbq2 : Hid (Below w5.heap.size w5 w6) := hide hb)
             | (have hbq2 : Hid (Below w5.heap.size w5 w6) := hide (chain ((Below.refl _ _).alloc (Nat.le_refl _) _) hb)
                have NB2 : Blk w6 w5.heap.size [.int .i64 0, .int .i64 0, .int .i64 0, .int .i64 0] 60 := Blk.next (Blk.new w5 _ _) hb
                have hq1 : b7 ≠ w5.heap.size := by omega
                have hq2 : w5.heap.size ≠ b7 := by omega
                have hq3 : b8 ≠ w5.heap.size := by omega
                have hq4 : w5.heap.size ≠ b8 := by omega
                have hnl := NB2.lt
                obtain ⟨n0', n1', n2', n3', n4', n5', n6', n7'⟩ := NB2.four))
           have R6 := hide (R5.out.next hbq2.out)
           obtain ⟨s0', s1', s2', s3', s4', s5', s6', s7'⟩ := (R6.out.blkAt 1 rfl).four
           obtain ⟨t0', t1', t2', t3', t4', t5', t6', t7'⟩ := (R6.out.blkAt 4 rfl).four
           have hs6 := hbq2.out.size
           clear hb ho3))
      · have hO : OwnS w6 B (.slice ao3 all.length c3) all := OwnZ.base HO3.out (by omega)
        have hal6 := (Below.refl w6.heap.size w6).alloc (Nat.le_refl _) (.cells #[.int .i64 3, .int .i64 20, .int .i64 (SP : Nat), .int .i64 (SR : Nat)] 60)
        have RX := (((((Have.nil _).consB (R6.out.blkAt 3 rfl)).consS (R6.out.ownSAt 0 rfl)).consS hO).next hal6).consB (Blk.new _ _ _)
        go_wp2_with fail
        go_meet
        exact ⟨ao3, c3, w6.heap.size, rfl, rfl, rfl, hide RX, chain (chain (chain hbw hbq.out) hbq2.out) hal6⟩
      · have hO : OwnS w6 B (.slice ao3 all.length c3) all := OwnZ.base HO3.out (by simp; omega)
        have RX := (((Have.nil _).consB (R6.out.blkAt 3 rfl)).consS (R6.out.ownSAt 0 rfl)).consS hO |>.storeT (t := ⟨3, 20, (SP : Nat), (SR : Nat)⟩) NB2 ⟨rfl, rfl, rfl, rfl⟩ ⟨own_type hO NB2 (by decide), own_type (R6.out.ownSAt 0 rfl) NB2 (by decide), Nat.ne_of_lt (by omega), trivial⟩
        have hbW := hbw.size
        go_wp2_with fail
        go_meet
        exact ⟨ao3, c3, w5.heap.size, rfl, rfl, rfl, hide RX, below4 (chain (chain hbw hbq.out) hbq2.out) (by omega) _ _ _ _⟩
      · have hO : OwnS w6 B (.slice ao3 all.length c3) all := OwnZ.base HO3.out (by omega)
        have RX := (((Have.nil _).consB (R6.out.blkAt 3 rfl)).consS (R6.out.ownSAt 0 rfl)).consS hO |>.storeT (t := ⟨3, 20, (SP : Nat), (SR : Nat)⟩) NB2 ⟨rfl, rfl, rfl, rfl⟩ ⟨own_type hO NB2 (by decide), own_type (R6.out.ownSAt 0 rfl) NB2 (by decide), Nat.ne_of_lt (by omega), trivial⟩
        have hbW := hbw.size
        go_wp2_with fail
        go_meet
        exact ⟨ao3, c3, wr.heap.size, rfl, rfl, rfl, hide RX, below4 (chain (chain hbw hbq.out) hbq2.out) (by omega) _ _ _ _⟩
    case rest =>
      obtain ⟨wx, rfl⟩ : ∃ wx, wx = wc := ⟨_, rfl⟩
      clear R hbw p0 p1 p2 p3 p4 p5 p6 p7 r0 r1 r2 r3 r4 r5 r6 r7 HCR HSC
      obtain ⟨ao3, c3, b23, rfl, rfl, rfl, hR, hbw⟩ := hcut
      obtain ⟨_, _, hxe, hc3, hm3, hst3⟩ := (hR.out.ownSAt 1 rfl).form
      injection hxe with hxe1 hxe0 hxe2
      subst hxe1
      subst hxe2
      clear hxe0
      obtain ⟨_, _, hxe, _, _, hst10⟩ := (hR.out.ownSAt 2 rfl).form
      injection hxe with hxe1 hxe0 hxe2
      subst hxe1
      subst hxe2
      clear hxe0
      have HSM := hide (ref2same_any ao3 a10 all.length c3 all.length c10 all all wx hst3 hst10 (by omega) (by omega))
      rw [decide_eq_true rfl] at HSM
      clear hst3 hst10
      go_wp2_with fail
      refine HSM.out.mono ?_
      rintro e w7 ⟨rfl, hb8⟩
      have R7 := hR.out.next hb8
      have hb9 := chain hbw hb8
      obtain ⟨p0, p1, p2, p3, p4, p5, p6, p7⟩ := (R7.blkAt 0 rfl).four
      obtain ⟨r0, r1, r2, r3, r4, r5, r6, r7⟩ := (R7.blkAt 3 rfl).four
      clear hb8 R7 hR HSM
      go_wp2_with fail
      refine (HAW.out _).mono ?_
      rintro e w8 ⟨rfl, hb10⟩
      have hb11 := chain hb9 hb10
      clear hb10 hb9
      go_wp2_with fail
      go_ret
      exact ⟨rfl, hb11⟩

theorem cuts_frame {w : World} (ao : Option Addr) (n c : Nat) (xs : List (List UInt8)) (h : Strs w ao n xs) (h1 : n ≤ c) (h2 : c ≤ 9223372036854775807) (hx : ∀ y ∈ xs, y.length ≤ 9223372036854775807)
    (bo : Option Addr) (n' c' : Nat) (fs : List UInt8) (hfs : Octs w bo n' fs) (h3 : n' ≤ c') (h4 : c' ≤ 9223372036854775807) (_ : True) (lo : Option Addr) (m e : Nat) (q : List Lo) (hq : Losses w lo m q) (h5 : m ≤ e) (h6 : e ≤ 9223372036854775807) (_ : True) (_ : World) :
    Calls Try.prog 15 #[.slice ao n c, .slice bo n' c', .slice lo m e] w fun e w' => e = .returned (.bool true) ∧ Below w.heap.size w w' := cuts_walk ao n c xs bo n' c' fs lo m e q w h ⟨h1, h2⟩ hx hfs ⟨h3, h4⟩ hq ⟨h5, h6⟩

end Go.Proofs.Ytkapdmhjhbmdjaa
