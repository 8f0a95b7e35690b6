/-
  The walk through the statement KeepLikewise: it returns true.
-/
import Derived.Test.YtkapdmhjhbmdjaaKpD
namespace Go.Proofs.Ytkapdmhjhbmdjaa
open Go.RowKit

def begin19 : List UInt8 := [98, 101, 103, 105, 110]

set_option maxRecDepth 100000 in
set_option maxHeartbeats 12800000 in
theorem likewise_walk (ao : Option Addr) (n c : Nat) (xs : List (List UInt8)) (text : List UInt8) (kept : Nat) (tn cut : Int) (w : World) (h : Strs w ao n xs) (hnc : n ≤ c ∧ c ≤ 9223372036854775807) (hx : ∀ y ∈ xs, y.length ≤ 9223372036854775807) (ht : text.length ≤ 9223372036854775807) (hk : kept < 18446744073709551616) (htn : -9223372036854775808 ≤ tn ∧ tn < 9223372036854775808) (hcut : -9223372036854775808 ≤ cut ∧ cut < 9223372036854775808) :
    Calls Try.prog 17 #[.slice ao n c, .string (bs text), .agg #[.int .u64 (kept : Int), .int .i64 tn, .int .i64 cut]] w fun e w' => e = .returned (.bool true) ∧ Below w.heap.size w w' := by
  have HO := hide h
  have hn1 : n ≤ 9223372036854775807 := by omega
  have HF : Hid (∀ k, k < n → ∀ w, Calls Try.prog 54 #[.string (bs (xs.getD k []))] w fun e w' => e = .returned (.string (bs (few19 (xs.getD k [])))) ∧ Below w.heap.size w w') := hide (fun k hk w => few19_any (xs.getD k []) w (by
    have hl := h.len
    have e : xs.getD k [] ∈ xs := by
      rw [List.getD_eq_getElem?_getD, List.getElem?_eq_getElem (by omega)]
      exact List.getElem_mem _
    have := hx _ e
    omega))
  have HFT : Hid (∀ w, Calls Try.prog 54 #[.string (bs text)] w fun e w' => e = .returned (.string (bs (few19 text))) ∧ Below w.heap.size w w') := hide (fun w => few19_any text w (by omega))
  have hlt := few19_length text
  obtain ⟨tt, htt⟩ : ∃ z, few19 text = z := ⟨_, rfl⟩
  rw [htt] at HFT hlt
  have hok : (⟨30, 70⟩ : Hv).Ok := by unfold Hv.Ok; decide
  have HN : Hid (∀ w, Calls Try.prog 55 #[.agg #[.int .i64 30, .int .i64 70], .string ⟨#[98, 101, 103, 105, 110]⟩] w fun e w' => ∃ b U, e = .returned (.tuple #[.pointer (some ⟨b, 0, none⟩), .int .i64 0]) ∧ w.heap.size ≤ b ∧ KpAt w' b w.heap.size (.slice none 0 0) ⟨30, 70⟩ ⟨1, 0, 1, 5⟩ U begin19 [] ∧ Below w.heap.size w w') := hide (fun w => by
    refine (knew_any ⟨30, 70⟩ begin19 w hok (by decide) (by decide)).mono ?_
    rintro e w' ⟨b, h1, h2, h3, h4⟩
    exact ⟨b, _, h1, h2, h3, h4⟩)
  have HOP : Hid (∀ (dv : Value) (cs : List (List UInt8)) (l : List (List UInt8)) (w : World), IsDrive w dv ⟨cs, [], -1, false⟩ → OnKeep ⟨30, 70⟩ cs ⟨1, 0, 1, 5⟩ begin19 l → l.length ≤ 100 → Calls Try.prog 67 #[dv, .agg #[.int .i64 30, .int .i64 70]] w fun e w' => ∃ b v, e = .returned (.tuple #[.pointer (some ⟨b, 0, none⟩), .int .i64 0]) ∧ w.heap.size ≤ b ∧ KpAt w' b w.heap.size v ⟨30, 70⟩ ⟨1, 0, 1, 5⟩ cs begin19 l ∧ Below w.heap.size w w') := hide (fun dv cs l w h1 h2 h3 => kopen_any dv ⟨30, 70⟩ ⟨1, 0, 1, 5⟩ cs begin19 l w h1 h2 (by simp only; omega))
  have HC : Hid (∀ (v : Value) (cs : List (List UInt8)) (w : World), IsDrive w v ⟨cs, [], -1, false⟩ → (⟨cs, [], -1, false⟩ : Drv).May → Calls Try.prog 24 #[v, .agg #[.int .u64 (kept : Int), .int .i64 tn, .int .i64 cut]] w fun e w' => ∃ v', e = .returned v' ∧ IsDrive w' v' ⟨cs, [], -1, false⟩ ∧ Below w.heap.size w w') := hide (fun v cs w h1 hm => crash_still v cs kept tn cut w h1 hm hk htn hcut)
  have HAD : Hid (∀ (b base : Nat) (v : Value) (cs : List (List UInt8)) (l : List (List UInt8)) (s : List UInt8) (w : World), KpAt w b base v ⟨30, 70⟩ ⟨1, 0, 1, 5⟩ cs begin19 l → s.length ≤ 4001 → l.length ≤ 100 → base ≤ w.heap.size → Calls Try.prog 61 #[.pointer (some ⟨b, 0, none⟩), .string (bs s)] w fun e w' => e = .returned (.int .i64 (addErr ⟨30, 70⟩ l s)) ∧ AddDone w w' b base v ⟨30, 70⟩ ⟨1, 0, 1, 5⟩ begin19 l s (addErr ⟨30, 70⟩ l s)) := hide (fun b base v cs l s w k h1 h2 h3 => kadd_say b base v _ _ cs begin19 l s w k (by omega) (by simp only; omega) h3)
  have HSV : Hid (∀ (b base : Nat) (v : Value) (cs : List (List UInt8)) (l : List (List UInt8)) (w : World), KpAt w b base v ⟨30, 70⟩ ⟨1, 0, 1, 5⟩ cs begin19 l → l.length ≤ 100 → Calls Try.prog 59 #[.pointer (some ⟨b, 0, none⟩), .string (bs tt)] w fun e w' => e = .returned (.int .i64 0) ∧ (∃ m cs', m.gen = 2 ∧ KpAt w' b base (.slice none 0 0) ⟨30, 70⟩ m cs' tt []) ∧ w.grownBy w' (some b)) := hide (fun b base v cs l w k h1 => by
    refine (ksave_any b base v ⟨30, 70⟩ ⟨1, 0, 1, 5⟩ cs begin19 l tt w k (by simp only; omega) (by omega) (by simp) (by simp only; omega)).mono ?_
    rintro e w' ⟨h1, ⟨cs', h2⟩, h3⟩
    exact ⟨h1, ⟨_, cs', rfl, h2⟩, h3⟩)
  have HG : Hid (∀ (b base : Nat) (v : Value) (cs : List (List UInt8)) (l : List (List UInt8)) (w : World), KpAt w b base v ⟨30, 70⟩ ⟨1, 0, 1, 5⟩ cs begin19 l → Calls Try.prog 66 #[.pointer (some ⟨b, 0, none⟩)] w fun e w' => e = .returned (.int .i64 1) ∧ w = w') := hide (fun _ _ _ _ _ w k => kgen_any w k)
  have HG2 : Hid (∀ (b base : Nat) (v : Value) (m : Hd) (cs : List (List UInt8)) (l : List (List UInt8)) (w : World), m.gen = 2 → KpAt w b base v ⟨30, 70⟩ m cs tt l → Calls Try.prog 66 #[.pointer (some ⟨b, 0, none⟩)] w fun e w' => e = .returned (.int .i64 2) ∧ w = w') := hide (fun _ _ _ m _ _ w hm k => by
    have := kgen_any w k
    rw [hm] at this
    exact this)
  have HT1 : Hid (∀ (b base : Nat) (v : Value) (cs : List (List UInt8)) (l : List (List UInt8)) (w : World), KpAt w b base v ⟨30, 70⟩ ⟨1, 0, 1, 5⟩ cs begin19 l → Calls Try.prog 62 #[.pointer (some ⟨b, 0, none⟩)] w fun e w' => e = .returned (.string (bs begin19)) ∧ w = w') := hide (fun _ _ _ _ _ w k => ktext_any w k)
  have HT2 : Hid (∀ (b base : Nat) (v : Value) (m : Hd) (cs : List (List UInt8)) (l : List (List UInt8)) (w : World), KpAt w b base v ⟨30, 70⟩ m cs tt l → Calls Try.prog 62 #[.pointer (some ⟨b, 0, none⟩)] w fun e w' => e = .returned (.string (bs tt)) ∧ w = w') := hide (fun _ _ _ _ _ _ w k => ktext_any w k)
  have HAW := hide (fun w => awake19_any w)
  obtain ⟨H, hH⟩ : ∃ z, (⟨30, 70⟩ : Hv) = z := ⟨_, rfl⟩
  obtain ⟨M, hM⟩ : ∃ z, (⟨1, 0, 1, 5⟩ : Hd) = z := ⟨_, rfl⟩
  rw [hH] at HN HOP HAD HSV HG HG2 HT1 HT2
  rw [hM] at HN HOP HAD HSV HG HT1
  obtain ⟨xv, hxv⟩ : ∃ z, bs begin19 = z := ⟨_, rfl⟩
  obtain ⟨tv, htv⟩ : ∃ z, bs tt = z := ⟨_, rfl⟩
  obtain ⟨av, hav⟩ : ∃ z, bs text = z := ⟨_, rfl⟩
  rw [hxv] at HT1
  rw [htv] at HFT HSV HT2
  rw [hav] at HFT ⊢
  clear h hx hnc ht hk htn hcut hlt htt hok hH hM hxv htv hav
  have B5 := Blk.new w [.int .u64 (kept : Int), .int .i64 tn, .int .i64 cut] 28
  have hal : Below w.heap.size w (w.alloc (.cells #[.int .u64 (kept : Int), .int .i64 tn, .int .i64 cut] 28)) := (Below.refl _ _).alloc (Nat.le_refl _) _
  obtain ⟨W0, hW0⟩ : ∃ z, w.alloc (.cells #[.int .u64 (kept : Int), .int .i64 tn, .int .i64 cut] 28) = z := ⟨_, rfl⟩
  have C5 : Blk W0 w.heap.size [.int .u64 (kept : Int), .int .i64 tn, .int .i64 cut] 28 := by rw [← hW0]; exact B5
  rw [hW0] at hal
  go_enter Try.func17, Try.ntmps17
  go_upto_region 1 with fail
  try rw [hW0]
  clear hW0 B5
  obtain ⟨b5, hb5⟩ : ∃ z, w.heap.size = z := ⟨_, rfl⟩
  rw [hb5] at C5 ⊢
  have hwb5 : w.heap.size ≤ b5 := by omega
  clear hb5
  go_upto_region 2 with fail
  have B7 := Blk.new W0 [.int .i64 30, .int .i64 70] 89
  have hal2 : Below W0.heap.size W0 (W0.alloc (.cells #[.int .i64 30, .int .i64 70] 89)) := (Below.refl _ _).alloc (Nat.le_refl _) _
  obtain ⟨W2, hW2⟩ : ∃ z, W0.alloc (.cells #[.int .i64 30, .int .i64 70] 89) = z := ⟨_, rfl⟩
  have A7 : Blk W2 W0.heap.size [.int .i64 30, .int .i64 70] 89 := by rw [← hW2]; exact B7
  rw [hW2] at hal2
  try rw [hW2]
  have A5 := C5.next hal2
  have hb2 := chain hal hal2
  clear hW2 B7 C5 hal hal2
  obtain ⟨b7, hb7⟩ : ∃ z, W0.heap.size = z := ⟨_, rfl⟩
  rw [hb7] at A7 ⊢
  clear hb7
  go_wp2_with fail
  refine (HFT.out _).mono ?_
  rintro e w3 ⟨rfl, hb3⟩
  have E5 := A5.next hb3
  have E7 := A7.next hb3
  have hb4 := chain hb2 hb3
  obtain ⟨p0, p1, p2, p3⟩ := E7.pair
  have hl5 := E5.lt
  have hl7 := E7.lt
  clear A5 A7 hb2 hb3 HFT
  go_wp2_with fail
  refine (HN.out _).mono ?_
  rintro e w4 ⟨ba, Ua, rfl, hba, ka, hb5'⟩
  have F5 := E5.next hb5'
  have F7 := E7.next hb5'
  have hb6 := chain hb4 hb5'
  have hsB := hb5'.size
  have hsw := hb4.size
  clear p0 p1 p2 p3
  obtain ⟨p0, p1, p2, p3⟩ := F7.pair
  have hlta := ka.lt
  have KA := hide ka
  clear E5 E7 hb4 hb5' ka
  go_wp2_with fail
  refine (HN.out _).mono ?_
  rintro e w5 ⟨bb, Ub, rfl, hbb, kb, hb7'⟩
  have G5 := F5.next hb7'
  have G7 := F7.next hb7'
  have hb8 := chain hb6 hb7'
  have hsC := hb7'.size
  have hne : bb ≠ ba := by omega
  have KB := hide (kb.lower hsB)
  have KA2 := hide (KA.out.next hb7')
  have h5B := hl5
  have h7B := hl7
  obtain ⟨B, hB⟩ : ∃ z, w3.heap.size = z := ⟨_, rfl⟩
  rw [hB] at hba hsB hsw KB KA2 h5B h7B
  have hB5 : B ≤ w5.heap.size := by omega
  have hBb : B ≤ bb := by omega
  clear p0 p1 p2 p3 F5 F7 hb6 hb7' kb KA HN hB hlta
  go_wp2_with fail
  go_loopw [10, 12] (fun s10 s12 wr => ∃ (i : Nat) (csa csb : List (List UInt8)) (rl : List (List UInt8)) (va vb : Value) (bb : Nat), i ≤ n ∧ i ≤ 12 ∧ s12 = .int .i64 (i : Int) ∧ s10 = .pointer (some ⟨bb, 0, none⟩) ∧ rl.length ≤ i ∧ bb ≠ ba ∧ B ≤ bb ∧ (vb.ownBlock = none ∨ vb.ownBlock ≠ va.ownBlock) ∧ Hid (KpAt wr ba B va H M csa begin19 rl) ∧ Hid (KpAt wr bb B vb H M csb begin19 rl) ∧ Hid (Blk wr b5 [.int .u64 (kept : Int), .int .i64 tn, .int .i64 cut] 28) ∧ Hid (Blk wr b7 [.int .i64 30, .int .i64 70] 89) ∧ B ≤ wr.heap.size ∧ Below w.heap.size w wr) (fun _ s12 _ => 12 - (intOf s12).toNat)
  case atStart => exact ⟨0, _, _, _, _, _, _, Nat.zero_le _, by omega, rfl, rfl, by simp, hne, hBb, .inl rfl, KA2, KB, hide G5, hide G7, hB5, hb8⟩
  case round =>
    obtain ⟨i, csa, csb, rl, va, vb, bb, hin, hi12, rfl, rfl, hrl, hne, hBb, hNE, hKa, hKb, hC5, hC7, hBs, hbw⟩ := hrel
    clear KA2 KB G5 G7 hB5 hb8
    by_cases hii : i < n ∧ i < 12
    · obtain ⟨hi1, hi2⟩ := hii
      obtain ⟨bx, ox, hlx, hix, hcx⟩ := (HO.out.below hbw).at c i hi1
      have HFi := hide (HF.out i hi1)
      have hsl := few19_length (xs.getD i [])
      obtain ⟨s, hs⟩ : ∃ s, few19 (xs.getD i []) = s := ⟨_, rfl⟩
      rw [hs] at HFi hsl
      obtain ⟨x0, hx0⟩ : ∃ z, bs (xs.getD i []) = z := ⟨_, rfl⟩
      rw [hx0] at HFi hcx
      have HA : Hid (∀ (b base : Nat) (v : Value) (cs : List (List UInt8)) (w : World), KpAt w b base v H M cs begin19 rl → base ≤ w.heap.size → Calls Try.prog 61 #[.pointer (some ⟨b, 0, none⟩), .string (bs s)] w fun e w' => e = .returned (.int .i64 (addErr H rl s)) ∧ AddDone w w' b base v H M begin19 rl s (addErr H rl s)) := hide (fun b base v cs w k hb => HAD.out b base v cs rl s w k hsl (by omega) hb)
      have hlr : rl.length ≤ 12 := by omega
      obtain ⟨E, hE⟩ : ∃ E, addErr H rl s = E := ⟨_, rfl⟩
      rw [hE] at HA
      obtain ⟨sv, hsv⟩ : ∃ z, bs s = z := ⟨_, rfl⟩
      rw [hsv] at HFi HA
      have hneL : (i : Int) < (n : Int) := by omega
      clear hs hx0 hsv hE hsl
      go_wp2_with fail
      refine (HFi.out _).mono ?_
      rintro e w4 ⟨rfl, hb4⟩
      have KA4 := hide (hKa.out.next hb4)
      have KB4 := hide (hKb.out.next hb4)
      have C5 := hide (hC5.out.next hb4)
      have C7 := hide (hC7.out.next hb4)
      have hb5 := chain hbw hb4
      have hB4 : B ≤ w4.heap.size := by have := hb4.size; omega
      clear hKa hKb hC5 hC7 hb4 hcx hix HFi hbw hBs
      go_wp2_with fail
      refine (HA.out _ _ _ _ _ KA4.out hB4).mono ?_
      rintro e w5 ⟨rfl, hDa⟩
      have KB5 := hide (hDa.other KA4.out KB4.out hne hNE)
      have hlow := hDa.low KA4.out hba (Nat.le_refl _) hB4
      have hB5 : B ≤ w5.heap.size := by have := hlow.size; omega
      have HDA := hide hDa
      clear hDa
      go_wp2_with fail
      refine (HA.out _ _ _ _ _ KB5.out hB5).mono ?_
      rintro e w6 ⟨rfl, hDb⟩
      obtain ⟨va', vb', csa', csb', rl', hrl', ka, kb, hlow2⟩ := add_two HDA.out hDb KA4.out KB4.out hne hNE hba hBb hB4
      have KA6 := hide ka
      have KB6 := hide kb
      have D5 := C5.out.below hlow2 h5B
      have D7 := C7.out.below hlow2 h7B
      have hb6 : Below w.heap.size w w6 := hb5.trans (hlow2.mono (by omega))
      have hB6 : B ≤ w6.heap.size := by have := hlow2.size; omega
      have hMY := hide kb.on.may
      have hON := hide kb.on
      have hown : ∀ g, va'.ownBlock = some g → g < w6.heap.size := fun g hg => ka.ownLt hg
      have HOWN := hide hown
      have hba6 := ka.lt
      have hrl6 : rl'.length ≤ i + 1 := by omega
      clear HDA hDb ka kb hlow hlow2 KA4 KB4 KB5 C5 C7 hb5 hB4 hB5 HA hNE hown hne hBb hlr hrl
      go_upto_region 13 with fail
      have HDR := hide (fun (w : World) (k : KpAt w bb B vb' H M csb' begin19 rl') => kdrive_any w k)
      have HK := hide (fun w' (h : Below w6.heap.size w6 w') => show (fun w' => Below w6.heap.size w6 w' ∧ w'.cell? ⟨b5, 0, none⟩ = some (.int .u64 (kept : Int)) ∧ w'.cell? ⟨b5, 1, none⟩ = some (.int .i64 tn) ∧ w'.cell? ⟨b5, 2, none⟩ = some (.int .i64 cut) ∧ w'.cell? ⟨b7, 0, none⟩ = some (.int .i64 30) ∧ w'.cell? ⟨b7, 1, none⟩ = some (.int .i64 70)) w' from ⟨h, (D5.next h).cell 0, (D5.next h).cell 1, (D5.next h).cell 2, (D7.next h).cell 0, (D7.next h).cell 1⟩)
      go_region_held3 (fun w' => Below w6.heap.size w6 w' ∧ w'.cell? ⟨b5, 0, none⟩ = some (.int .u64 (kept : Int)) ∧ w'.cell? ⟨b5, 1, none⟩ = some (.int .i64 tn) ∧ w'.cell? ⟨b5, 2, none⟩ = some (.int .i64 cut) ∧ w'.cell? ⟨b7, 0, none⟩ = some (.int .i64 30) ∧ w'.cell? ⟨b7, 1, none⟩ = some (.int .i64 70)) (first | exact HK.out _ (Below.drewed (Below.refl _ _)) | exact HK.out _ hbq.out) (first
        | (go_at_call 64
           have hq := (‹Below w6.heap.size w6 _ ∧ _›).1
           refine (HDR.out _ (KB6.out.next hq)).mono ?_
           rintro e w8 ⟨dv, rfl, hdv, hb8⟩
           have hbq := hide (chain hq hb8)
           have hdr := hide hdv
           clear hdv
           clear hq hb8)
        | (go_at_call 24
           have hq := (‹Below w6.heap.size w6 _ ∧ _›).1
           refine (HC.out _ _ _ hdr.out hMY.out).mono ?_
           rintro e w8 ⟨dv2, rfl, hdv2, hb8⟩
           have hbq := hide (chain hq hb8)
           have hdc := hide hdv2
           clear hdv2
           clear hq hb8)
        | (go_at_call 67
           have hq := (‹Below w6.heap.size w6 _ ∧ _›).1
           refine (HOP.out _ _ _ _ hdc.out hON.out (by omega)).mono ?_
           rintro e w8 ⟨bo, vo, rfl, hbo, ko, hb8⟩
           have hbq := hide (chain hq hb8)
           have hko := hide (And.intro (ko.lower (Nat.le_trans hB6 hq.size)) (fun g (hg : vo.ownBlock = some g) => Nat.le_trans hq.size (ko.ownBase hg)))
           have hboo := Nat.le_trans hq.size hbo
           clear ko hbo
           clear hq hb8))
      have KA7 := hide (KA6.out.next hbq.out)
      have E5 := D5.next hbq.out
      have E7 := D7.next hbq.out
      have hb7 := chain hb6 hbq.out
      have hB7 := Nat.le_trans hB6 hbq.out.size
      have KO := hide hko.out.1
      have hNE : vo.ownBlock = none ∨ vo.ownBlock ≠ va'.ownBlock := by
        cases hvo : vo.ownBlock with
        | none => exact .inl rfl
        | some g =>
          refine .inr fun e => ?_
          have h1 := hko.out.2 g hvo
          have h2 := HOWN.out g e.symm
          omega
      have hne : bo ≠ ba := by omega
      have hBo : B ≤ bo := by omega
      clear HK hMY HDR hdr hdc KA6 KB6 D5 D7 hb6 hbq hko HOWN hON hB6
      have HSM : Hid (∀ (v1 v2 : Value) (b1 b2 : Nat) (w : World), OwnS w b1 v1 rl' → OwnS w b2 v2 rl' → Calls Try.prog 49 #[v1, v2] w fun e w' => e = .returned (.bool true) ∧ Below w.heap.size w w') := hide (fun v1 v2 b1 b2 w h1 h2 => by
        obtain ⟨a1, c1, rfl, _, _, hs1⟩ := h1.form
        obtain ⟨a2, c2, rfl, _, _, hs2⟩ := h2.form
        have h := ref2same_any a1 a2 rl'.length c1 rl'.length c2 rl' rl' w hs1 hs2 (by omega) (by omega)
        rw [decide_eq_true rfl] at h
        exact h)
      go_wp2_with fail
      refine (HT1.out _ _ _ _ _ _ KO.out).mono ?_
      rintro e w9 ⟨rfl, rfl⟩
      go_wp2_with fail
      refine (HT1.out _ _ _ _ _ _ KA7.out).mono ?_
      rintro e w9 ⟨rfl, rfl⟩
      go_wp2_with fail
      refine (krecords_any _ KA7.out (by omega)).mono ?_
      rintro e w8 ⟨a8, n8, c8, rfl, hown8, rfl, hb8⟩
      have KA8 := hide (KA7.out.next hb8)
      have KO8 := hide (KO.out.next hb8)
      have F5 := E5.next hb8
      have F7 := E7.next hb8
      have hb9 := chain hb7 hb8
      have hB8 := Nat.le_trans hB7 hb8.size
      have HOW8 := hide hown8
      clear KA7 KO E5 E7 hb7 hb8 hB7 hown8
      go_wp2_with fail
      refine (krecords_any _ KO8.out (by omega)).mono ?_
      rintro e w10 ⟨a9, n9, c9, rfl, hown9, rfl, hb10⟩
      have KA9 := hide (KA8.out.next hb10)
      have KO9 := hide (KO8.out.next hb10)
      have G5 := F5.next hb10
      have G7 := F7.next hb10
      have hb11 := chain hb9 hb10
      have hB9 := Nat.le_trans hB8 hb10.size
      have HOW9 := hide hown9
      have HOW8' := hide (OwnZ.below HOW8.out hb10)
      clear KA8 KO8 F5 F7 hb9 hb10 hB8 hown9 HOW8
      go_wp2_with fail
      refine (HSM.out _ _ _ _ _ HOW8'.out HOW9.out).mono ?_
      rintro e w12 ⟨rfl, hb12⟩
      have KA10 := hide (KA9.out.next hb12)
      have KO10 := hide (KO9.out.next hb12)
      have H5 := G5.next hb12
      have H7 := G7.next hb12
      have hb13 := chain hb11 hb12
      have hB10 := Nat.le_trans hB9 hb12.size
      clear KA9 KO9 G5 G7 hb11 hb12 hB9 HOW8' HOW9 HSM
      go_wp2_with fail
      refine (HG.out _ _ _ _ _ _ KA10.out).mono ?_
      rintro e w14 ⟨rfl, rfl⟩
      go_wp2_with fail
      refine (HG.out _ _ _ _ _ _ KO10.out).mono ?_
      rintro e w15 ⟨rfl, rfl⟩
      go_wp2_with fail
      go_roundw
      case rel => exact ⟨i + 1, _, _, rl', va', vo, bo, by omega, by omega, by go_num, rfl, by omega, hne, hBo, hNE, KA10, KO10, hide H5, hide H7, hB10, hb13⟩
      case measure => simp [intOf]; omega
    · have hnn : ¬ i < n ∨ (i < n ∧ ¬ i < 12) := by omega
      have hrl13 : rl.length ≤ 13 := by omega
      rcases hnn with hn1 | ⟨hn1, hn2⟩
      all_goals
        go_wp2_with fail
        refine (HG.out _ _ _ _ _ _ hKa.out).mono ?_
        rintro e w9 ⟨rfl, rfl⟩
        go_wp2_with fail
        refine (HSV.out _ _ _ _ _ _ hKa.out (by omega)).mono ?_
        rintro e w10 ⟨rfl, ⟨m2, cs2, hm2, k2⟩, hg2⟩
        have hbt : Below w.heap.size w w10 := hbw.grown hg2 (by have := hbw.size; omega) (fun g hg => by injection hg with hg; omega)
        have K2 := hide k2
        clear k2 hg2 hbw hKa hKb hC5 hC7
        go_wp2_with fail
        refine (HG2.out _ _ _ _ _ _ _ hm2 K2.out).mono ?_
        rintro e w11 ⟨rfl, rfl⟩
        go_wp2_with fail
        refine (HT2.out _ _ _ _ _ _ _ K2.out).mono ?_
        rintro e w12 ⟨rfl, rfl⟩
        go_wp2_with fail
        refine (krecords_any _ K2.out (by simp)).mono ?_
        rintro e w13 ⟨a8, n8, c8, rfl, hown8, hn8, hb8⟩
        have hn0 : n8 = 0 := hn8
        subst hn0
        have hbr := chain hbt hb8
        clear hown8 hn8 K2 hbt hb8
        go_wp2_with fail
        refine (HAW.out _).mono ?_
        rintro e w14 ⟨rfl, hb14⟩
        have hbs := chain hbr hb14
        go_wp2_with fail
        go_ret
        exact ⟨rfl, hbs⟩

theorem likewise_frame {w : World} (ao : Option Addr) (n c : Nat) (xs : List (List UInt8)) (h : Strs w ao n xs) (h1 : n ≤ c) (h2 : c ≤ 9223372036854775807) (hx : ∀ y ∈ xs, y.length ≤ 9223372036854775807) (a : ByteArray) (ha : a.size ≤ maxLen) (kept : Nat) (tn cut : Int) (hk : kept < 18446744073709551616) (ht : -9223372036854775808 ≤ tn ∧ tn < 9223372036854775808) (hcut : -9223372036854775808 ≤ cut ∧ cut < 9223372036854775808) (_ : World) :
    Calls Try.prog 17 #[.slice ao n c, .string a, .agg #[.int .u64 (kept : Int), .int .i64 tn, .int .i64 cut]] w fun e w' => e = .returned (.bool true) ∧ Below w.heap.size w w' := by
  unfold maxLen at ha
  have g := likewise_walk ao n c xs a.data.toList kept tn cut w h ⟨h1, h2⟩ hx (by simpa using Nat.le_of_lt_succ (Nat.lt_succ_of_le ha)) hk ht hcut
  rw [bs_of] at g
  exact g

end Go.Proofs.Ytkapdmhjhbmdjaa
