/-
  The walk through the statement KeepTurns: it returns true.
-/
import Derived.Test.YtkapdmhjhbmdjaaKpD
namespace Go.Proofs.Ytkapdmhjhbmdjaa
open Go.RowKit

set_option maxRecDepth 100000 in
set_option maxHeartbeats 12800000 in
theorem turns_walk (ao : Option Addr) (n c : Nat) (xs : List (List UInt8)) (u : Nat) (w : World) (h : Strs w ao n xs) (hnc : n ≤ c ∧ c ≤ 9223372036854775807) (hx : ∀ y ∈ xs, y.length ≤ 9223372036854775807) (hu : u < 256) :
    Calls Try.prog 19 #[.slice ao n c, .int .u8 (u : Int)] w fun e w' => e = .returned (.bool true) ∧ Below w.heap.size w w' := by
  have HO := hide h
  have hn1 : n ≤ 9223372036854775807 := by omega
  have HF : Hid (∀ k, k < n → ∀ w, Calls Try.prog 54 #[.string (bs (xs.getD k []))] w fun e w' => e = .returned (.string (bs (few19 (xs.getD k [])))) ∧ Below w.heap.size w w') := hide (fun k hk w => few19_any (xs.getD k []) w (by
    have hl := h.len
    have e : xs.getD k [] ∈ xs := by
      rw [List.getD_eq_getElem?_getD, List.getElem?_eq_getElem (by omega)]
      exact List.getElem_mem _
    have := hx _ e
    omega))
  have HH := hide (fun w => halves_any u w hu)
  have hok := halves_ok u
  have hbig : 128 ≤ (halvesOf u).text * 64 := by unfold halvesOf; simp only; omega
  obtain ⟨H, hH⟩ : ∃ z, halvesOf u = z := ⟨_, rfl⟩
  rw [hH] at HH hok hbig
  have hvv : hvVal H = .agg #[.int .i64 (H.log : Int), .int .i64 (H.text : Int)] := rfl
  have HN : Hid (∀ w, Calls Try.prog 55 #[hvVal H, .string ⟨#[48]⟩] w fun e w' => ∃ b U, e = .returned (.tuple #[.pointer (some ⟨b, 0, none⟩), .int .i64 0]) ∧ w.heap.size ≤ b ∧ KpAt w' b w.heap.size (.slice none 0 0) H ⟨1, 0, 1, 1⟩ U [48] [] ∧ Below w.heap.size w w') := hide (fun w => by
    refine (knew_any H [48] w hok (by simp; omega) (by simp)).mono ?_
    rintro e w' ⟨b, h1, h2, h3, h4⟩
    exact ⟨b, _, h1, h2, h3, h4⟩)
  have HOP : Hid (∀ (dv : Value) (m : Hd) (cs : List (List UInt8)) (text : List UInt8) (l : List (List UInt8)) (w : World), IsDrive w dv ⟨cs, [], -1, false⟩ → OnKeep H cs m text l → m.serial + l.length ≤ 16777216 → Calls Try.prog 67 #[dv, hvVal H] w fun e w' => ∃ b v, e = .returned (.tuple #[.pointer (some ⟨b, 0, none⟩), .int .i64 0]) ∧ w.heap.size ≤ b ∧ KpAt w' b w.heap.size v H m cs text l ∧ Below w.heap.size w w') := hide (fun dv m cs text l w h1 h2 h3 => kopen_any dv H m cs text l w h1 h2 h3)
  have HS : Hid (∀ (b base : Nat) (v : Value) (m : Hd) (U : List (List UInt8)) (text : List UInt8) (l : List (List UInt8)) (x : UInt8) (w : World), KpAt w b base v H m U text l → m.gen ≤ 100 → m.serial + l.length ≤ 100 → Calls Try.prog 59 #[.pointer (some ⟨b, 0, none⟩), .string (bs [x])] w fun e w' => e = .returned (.int .i64 0) ∧ (∃ cs', KpAt w' b base (.slice none 0 0) H ⟨m.gen + 1, 1 - m.half, m.serial + l.length, 1⟩ cs' [x] []) ∧ w.grownBy w' (some b)) := hide (fun b base v m U text l x w k h1 h2 => ksave_any b base v H m U text l [x] w k (by simp; omega) (by simp) (by omega) (by omega))
  have HAW := hide (fun w => awake19_any w)
  rw [hvv] at HH HN HOP
  obtain ⟨lg, hlg⟩ : ∃ z, H.log = z := ⟨_, rfl⟩
  obtain ⟨tx, htx⟩ : ∃ z, H.text = z := ⟨_, rfl⟩
  rw [hlg, htx] at HH HN HOP
  clear h hx hnc hu hH hok hbig hvv hlg htx
  go_enter Try.func19, Try.ntmps19
  go_wp2_with fail
  refine (HH.out _).mono ?_
  rintro e w1 ⟨rfl, hb1⟩
  clear HH
  go_upto_region 2 with fail
  have B5 := Blk.new w1 [.int .i64 (lg : Int), .int .i64 (tx : Int)] 89
  have hal : Below w1.heap.size w1 (w1.alloc (.cells #[.int .i64 (lg : Int), .int .i64 (tx : Int)] 89)) := (Below.refl _ _).alloc (Nat.le_refl _) _
  obtain ⟨W2, hW2⟩ : ∃ z, w1.alloc (.cells #[.int .i64 (lg : Int), .int .i64 (tx : Int)] 89) = z := ⟨_, rfl⟩
  have C5 : Blk W2 w1.heap.size [.int .i64 (lg : Int), .int .i64 (tx : Int)] 89 := by rw [← hW2]; exact B5
  rw [hW2] at hal
  try rw [hW2]
  have hb2 := chain hb1 hal
  clear hW2 B5 hal hb1
  obtain ⟨b5, hb5⟩ : ∃ z, w1.heap.size = z := ⟨_, rfl⟩
  rw [hb5] at C5 ⊢
  clear hb5
  obtain ⟨p0, p1, p2, p3⟩ := C5.pair
  go_wp2_with fail
  refine (HN.out _).mono ?_
  rintro e w3 ⟨bk, U, rfl, hbk, k3, hb3⟩
  have C6 := C5.next hb3
  have hb4 := chain hb2 hb3
  have K3 := hide k3
  have hsz := hb3.size
  have hsw := hb2.size
  have h5B := C5.lt
  obtain ⟨B, hB⟩ : ∃ z, W2.heap.size = z := ⟨_, rfl⟩
  rw [hB] at hbk K3 hsz hsw h5B
  clear p0 p1 p2 p3 C5 hb2 hb3 k3 HN hB
  have hB3 : B ≤ w3.heap.size := hsz
  go_wp2_with fail
  go_loopw [8] (fun s8 wr => ∃ (i : Nat) (m : Hd) (cs : List (List UInt8)) (text : List UInt8) (rl : List (List UInt8)) (v : Value), i ≤ n ∧ i ≤ 12 ∧ s8 = .int .i64 (i : Int) ∧ m.gen = 1 + i / 3 ∧ m.serial + rl.length ≤ 1 + i ∧ Hid (KpAt wr bk B v H m cs text rl) ∧ Hid (Blk wr b5 [.int .i64 (lg : Int), .int .i64 (tx : Int)] 89) ∧ B ≤ wr.heap.size ∧ Below w.heap.size w wr) (fun s8 _ => 12 - (intOf s8).toNat)
  case atStart => exact ⟨0, _, _, _, _, _, Nat.zero_le _, by omega, rfl, rfl, by simp, K3, hide C6, hB3, hb4⟩
  case round =>
    obtain ⟨i, m, cs, text, rl, v, hin, hi12, rfl, hgen, hser, hK, hC, hBs, hbw⟩ := hrel
    clear K3 C6 hb4 hB3
    by_cases hii : i < n ∧ i < 12
    · obtain ⟨hi1, hi2⟩ := hii
      obtain ⟨bx, ox, hlx, hix, hcx⟩ := (HO.out.below hbw).at c i hi1
      have HFi := hide (HF.out i hi1)
      have hsl := few19_length (xs.getD i [])
      obtain ⟨s, hs⟩ : ∃ s, few19 (xs.getD i []) = s := ⟨_, rfl⟩
      rw [hs] at HFi hsl
      obtain ⟨x0, hx0⟩ : ∃ z, bs (xs.getD i []) = z := ⟨_, rfl⟩
      rw [hx0] at HFi hcx
      have HA : Hid (∀ (b base : Nat) (v : Value) (cs : List (List UInt8)) (w : World), KpAt w b base v H m cs text rl → base ≤ w.heap.size → Calls Try.prog 61 #[.pointer (some ⟨b, 0, none⟩), .string (bs s)] w fun e w' => e = .returned (.int .i64 (addErr H rl s)) ∧ AddDone w w' b base v H m text rl s (addErr H rl s)) := hide (fun b base v cs w k hb => kadd_say b base v H m cs text rl s w k (by omega) (by omega) hb)
      have hcase := addErr_cases (h := H) (l := rl) (s := s)
      have hlr : rl.length ≤ 13 := by omega
      obtain ⟨E, hE⟩ : ∃ E, addErr H rl s = E := ⟨_, rfl⟩
      rw [hE] at HA hcase
      obtain ⟨sv, hsv⟩ : ∃ z, bs s = z := ⟨_, rfl⟩
      rw [hsv] at HFi HA
      have hneL : (i : Int) < (n : Int) := by omega
      clear hs hx0 hsv hE hsl
      go_wp2_with fail
      refine (HFi.out _).mono ?_
      rintro e w4 ⟨rfl, hb4⟩
      have K4 := hide (hK.out.next hb4)
      have C4 := hide (hC.out.next hb4)
      have hb5 := chain hbw hb4
      have hB4 : B ≤ w4.heap.size := by have := hb4.size; omega
      clear hK hC hb4 hcx hix HFi hbw hBs
      go_wp2_with fail
      refine (krecords_any _ K4.out (by omega)).mono ?_
      rintro e w5 ⟨a5, n5, c5, rfl, hown, rfl, hb6⟩
      have K5 := hide (K4.out.next hb6)
      have C5 := hide (C4.out.next hb6)
      have hb7 := chain hb5 hb6
      have hB5 : B ≤ w5.heap.size := by have := hb6.size; omega
      have HOW := hide hown
      clear K4 C4 hb5 hb6 hB4 hown
      go_wp2_with fail
      refine (HA.out _ _ _ _ _ K5.out hB5).mono ?_
      rintro e w6 ⟨rfl, hD⟩
      have hlow := hD.low K5.out hbk (Nat.le_refl _) hB5
      have C6 := hide (C5.out.below hlow h5B)
      have hb8 : Below w.heap.size w w6 := hb7.trans (hlow.mono (by omega))
      have hB6 : B ≤ w6.heap.size := by have := hlow.size; omega
      clear hb7 hB5 C5
      have HSM : Hid (∀ (v1 v2 : Value) (b1 b2 : Nat) (w : World), OwnS w b1 v1 rl → OwnS w b2 v2 rl → Calls Try.prog 49 #[v1, v2] w fun e w' => e = .returned (.bool true) ∧ Below w.heap.size w w') := hide (fun v1 v2 b1 b2 w h1 h2 => by
        obtain ⟨a1, c1, rfl, _, _, hs1⟩ := h1.form
        obtain ⟨a2, c2, rfl, _, _, hs2⟩ := h2.form
        have h := ref2same_any a1 a2 rl.length c1 rl.length c2 rl rl w hs1 hs2 (by omega) (by omega)
        rw [decide_eq_true rfl] at h
        exact h)
      go_upto_region 11 with fail
      go_cut [55] (fun s55 wx => ∃ (cs' rl' : List (List UInt8)) (v' : Value), s55 = .bool false ∧ rl'.length ≤ rl.length + 1 ∧ Hid (KpAt wx bk B v' H m cs' text rl') ∧ Hid (Blk wx b5 [.int .i64 (lg : Int), .int .i64 (tx : Int)] 89) ∧ B ≤ wx.heap.size ∧ Below w.heap.size w wx)
      case first =>
        rcases hcase with hE | hcase
        · subst hE
          rcases hD with ⟨_, v', cs', k6, _⟩ | ⟨hx, _⟩
          · go_wp2_with fail
            go_meet
            case rel => exact ⟨cs', rl ++ [s], v', rfl, by simp, hide k6, C6, hB6, hb8⟩
          · exact absurd rfl hx
        · rcases hD with ⟨hx, _⟩ | ⟨_, hbd⟩
          · subst hx
            rcases hcase with h | h <;> cases h
          have K6 := hide (K5.out.next hbd)
          have HOW6 := hide (OwnZ.below HOW.out hbd)
          clear K5 HOW hbd hlow
          rcases hcase with hE | hE
          all_goals
            subst hE
            go_wp2_with fail
            refine (krecords_any _ K6.out (by omega)).mono ?_
            rintro e w7 ⟨a7, n7, c7, rfl, hown7, rfl, hb9⟩
            have K7 := hide (K6.out.next hb9)
            have C7 := hide (C6.out.next hb9)
            have hb10 := chain hb8 hb9
            have HOW7 := hide (OwnZ.below HOW6.out hb9)
            have HOW8 := hide hown7
            have hB7 := Nat.le_trans hB6 hb9.size
            clear K6 HOW6 hown7 hb9 C6 hb8 hB6
            go_wp2_with fail
            refine (HSM.out _ _ _ _ _ HOW8.out HOW7.out).mono ?_
            rintro e w8 ⟨rfl, hb11⟩
            have K8 := hide (K7.out.next hb11)
            have C8 := hide (C7.out.next hb11)
            have hb12 := chain hb10 hb11
            have hB8 := Nat.le_trans hB7 hb11.size
            clear K7 HOW7 HOW8 hb11 C7 hb10 hB7
            go_wp2_with fail
            go_meet
            case rel => exact ⟨_, rl, _, rfl, by omega, K8, C8, hB8, hb12⟩
      case rest =>
        obtain ⟨cs6, rl6, v6, rfl, hrl6, hK, hC, hBs, hbw⟩ := hcut
        clear K5 HOW hD hlow C6 hb8 hB6 HA HSM hcase
        go_upto_if 58 with fail
        go_cut [] (fun wx => ∃ (m' : Hd) (cs' rl' : List (List UInt8)) (text' : List UInt8) (v' : Value), m'.gen = 1 + (i + 1) / 3 ∧ m'.serial + rl'.length ≤ 2 + i ∧ rl'.length ≤ 14 ∧ Hid (KpAt wx bk B v' H m' cs' text' rl') ∧ Hid (Blk wx b5 [.int .i64 (lg : Int), .int .i64 (tx : Int)] 89) ∧ B ≤ wx.heap.size ∧ Below w.heap.size w wx)
        case first =>
          by_cases h3 : i % 3 = 2
          · have hi4 : i = 2 ∨ i = 5 ∨ i = 8 ∨ i = 11 := by omega
            rcases hi4 with rfl | rfl | rfl | rfl
            · have hcv := fun (w : World) => conv_new (P := Try.prog) (src := 57) (dst := 9) Try.underlying57 Try.underlying5 Try.underlying9 50 50 rfl w
              have hal : Below wc.heap.size wc (wc.alloc (.cells #[.int .u8 50] 5)) := (Below.refl _ _).alloc (Nat.le_refl _) _
              have KS := hide (hK.out.next hal)
              have CS := hide (hC.out.next hal)
              have hbs := chain hbw hal
              have hBS := Nat.le_trans hBs hal.size
              clear hK hC hbw hBs hal
              go_wp2_with fail
              refine (HS.out _ _ _ _ _ _ _ 50 _ KS.out (by omega) (by omega)).mono ?_
              rintro e w7 ⟨rfl, ⟨cs7, k7⟩, hg7⟩
              have C7 := hide (CS.out.grown hg7 (fun e => by injection e with e; omega))
              have hb7 : Below w.heap.size w w7 := hbs.grown hg7 (by have := hbs.size; omega) (fun g hg => by injection hg with hg; omega)
              have hB7 := Nat.le_trans hBS hg7.size
              have K7 := hide k7
              clear KS CS hbs hBS hg7 k7 hcv
              go_wp2_with fail
              go_meet
              case rel => exact ⟨_, _, [], _, _, by simp only; omega, by simp only [List.length_nil]; omega, by simp, K7, C7, hB7, hb7⟩
            · have hcv := fun (w : World) => conv_new (P := Try.prog) (src := 57) (dst := 9) Try.underlying57 Try.underlying5 Try.underlying9 53 53 rfl w
              have hal : Below wc.heap.size wc (wc.alloc (.cells #[.int .u8 53] 5)) := (Below.refl _ _).alloc (Nat.le_refl _) _
              have KS := hide (hK.out.next hal)
              have CS := hide (hC.out.next hal)
              have hbs := chain hbw hal
              have hBS := Nat.le_trans hBs hal.size
              clear hK hC hbw hBs hal
              go_wp2_with fail
              refine (HS.out _ _ _ _ _ _ _ 53 _ KS.out (by omega) (by omega)).mono ?_
              rintro e w7 ⟨rfl, ⟨cs7, k7⟩, hg7⟩
              have C7 := hide (CS.out.grown hg7 (fun e => by injection e with e; omega))
              have hb7 : Below w.heap.size w w7 := hbs.grown hg7 (by have := hbs.size; omega) (fun g hg => by injection hg with hg; omega)
              have hB7 := Nat.le_trans hBS hg7.size
              have K7 := hide k7
              clear KS CS hbs hBS hg7 k7 hcv
              go_wp2_with fail
              go_meet
              case rel => exact ⟨_, _, [], _, _, by simp only; omega, by simp only [List.length_nil]; omega, by simp, K7, C7, hB7, hb7⟩
            · have hcv := fun (w : World) => conv_new (P := Try.prog) (src := 57) (dst := 9) Try.underlying57 Try.underlying5 Try.underlying9 56 56 rfl w
              have hal : Below wc.heap.size wc (wc.alloc (.cells #[.int .u8 56] 5)) := (Below.refl _ _).alloc (Nat.le_refl _) _
              have KS := hide (hK.out.next hal)
              have CS := hide (hC.out.next hal)
              have hbs := chain hbw hal
              have hBS := Nat.le_trans hBs hal.size
              clear hK hC hbw hBs hal
              go_wp2_with fail
              refine (HS.out _ _ _ _ _ _ _ 56 _ KS.out (by omega) (by omega)).mono ?_
              rintro e w7 ⟨rfl, ⟨cs7, k7⟩, hg7⟩
              have C7 := hide (CS.out.grown hg7 (fun e => by injection e with e; omega))
              have hb7 : Below w.heap.size w w7 := hbs.grown hg7 (by have := hbs.size; omega) (fun g hg => by injection hg with hg; omega)
              have hB7 := Nat.le_trans hBS hg7.size
              have K7 := hide k7
              clear KS CS hbs hBS hg7 k7 hcv
              go_wp2_with fail
              go_meet
              case rel => exact ⟨_, _, [], _, _, by simp only; omega, by simp only [List.length_nil]; omega, by simp, K7, C7, hB7, hb7⟩
            · have hcv := fun (w : World) => conv_new (P := Try.prog) (src := 57) (dst := 9) Try.underlying57 Try.underlying5 Try.underlying9 59 59 rfl w
              have hal : Below wc.heap.size wc (wc.alloc (.cells #[.int .u8 59] 5)) := (Below.refl _ _).alloc (Nat.le_refl _) _
              have KS := hide (hK.out.next hal)
              have CS := hide (hC.out.next hal)
              have hbs := chain hbw hal
              have hBS := Nat.le_trans hBs hal.size
              clear hK hC hbw hBs hal
              go_wp2_with fail
              refine (HS.out _ _ _ _ _ _ _ 59 _ KS.out (by omega) (by omega)).mono ?_
              rintro e w7 ⟨rfl, ⟨cs7, k7⟩, hg7⟩
              have C7 := hide (CS.out.grown hg7 (fun e => by injection e with e; omega))
              have hb7 : Below w.heap.size w w7 := hbs.grown hg7 (by have := hbs.size; omega) (fun g hg => by injection hg with hg; omega)
              have hB7 := Nat.le_trans hBS hg7.size
              have K7 := hide k7
              clear KS CS hbs hBS hg7 k7 hcv
              go_wp2_with fail
              go_meet
              case rel => exact ⟨_, _, [], _, _, by simp only; omega, by simp only [List.length_nil]; omega, by simp, K7, C7, hB7, hb7⟩
          · have hb3 : ((i : Int) % 3 == 2) = false := by rw [beq_eq_false_iff_ne]; omega
            go_wp2_with fail
            go_meet
            case rel => exact ⟨m, _, rl6, text, _, by omega, by omega, by omega, hK, hC, hBs, hbw⟩
        case rest =>
          obtain ⟨m', cs', rl', text', v', hgen', hser', hlr', hK', hC', hBs', hbw'⟩ := hcut
          clear hK hC hBs hbw
          have hMY := hide hK'.out.on.may
          have hON := hide hK'.out.on
          have HSM : Hid (∀ (v1 v2 : Value) (b1 b2 : Nat) (w : World), OwnS w b1 v1 rl' → OwnS w b2 v2 rl' → Calls Try.prog 49 #[v1, v2] w fun e w' => e = .returned (.bool true) ∧ Below w.heap.size w w') := hide (fun v1 v2 b1 b2 w h1 h2 => by
            obtain ⟨a1, c1, rfl, _, _, hs1⟩ := h1.form
            obtain ⟨a2, c2, rfl, _, _, hs2⟩ := h2.form
            have h := ref2same_any a1 a2 rl'.length c1 rl'.length c2 rl' rl' w hs1 hs2 (by omega) (by omega)
            rw [decide_eq_true rfl] at h
            exact h)
          have HT : Hid (∀ (b base : Nat) (v : Value) (w : World), KpAt w b base v H m' cs' text' rl' → Calls Try.prog 62 #[.pointer (some ⟨b, 0, none⟩)] w fun e w' => e = .returned (.string (bs text')) ∧ w = w') := hide (fun _ _ _ w k => ktext_any w k)
          have HG : Hid (∀ (b base : Nat) (v : Value) (w : World), KpAt w b base v H m' cs' text' rl' → Calls Try.prog 66 #[.pointer (some ⟨b, 0, none⟩)] w fun e w' => e = .returned (.int .i64 (1 + (((i + 1) / 3 : Nat) : Int))) ∧ w = w') := hide (fun _ _ _ w k => by
            have h := kgen_any w k
            rw [hgen'] at h
            simpa using h)
          have hquo : ((i : Int) + 1) / 3 = (((i + 1) / 3 : Nat) : Int) := by omega
          obtain ⟨q, hq⟩ : ∃ q, (i + 1) / 3 = q := ⟨_, rfl⟩
          have hqb : q ≤ 5 := by omega
          rw [hq] at hgen' HG hquo
          obtain ⟨tv, htv⟩ : ∃ z, bs text' = z := ⟨_, rfl⟩
          rw [htv] at HT
          clear htv
          have C5 := hC'.out
          have hs5 := C5.lt
          go_upto_region 16 with fail
          have HDR := hide (fun (w : World) (k : KpAt w bk B v' H m' cs' text' rl') => kdrive_any w k)
          have HK := hide (fun w' (h : Below wc.heap.size wc w') => show (fun w' => Below wc.heap.size wc w' ∧ w'.cell? ⟨b5, 0, none⟩ = some (.int .i64 (lg : Int)) ∧ w'.cell? ⟨b5, 1, none⟩ = some (.int .i64 (tx : Int))) w' from ⟨h, (C5.next h).cell 0, (C5.next h).cell 1⟩)
          go_region_held3 (fun w' => Below wc.heap.size wc w' ∧ w'.cell? ⟨b5, 0, none⟩ = some (.int .i64 (lg : Int)) ∧ w'.cell? ⟨b5, 1, none⟩ = some (.int .i64 (tx : Int))) (first | exact HK.out _ (Below.drewed (Below.refl _ _)) | exact HK.out _ hbq.out) (first
            | (go_at_call 64
               have hq := (‹Below wc.heap.size wc _ ∧ _›).1
               refine (HDR.out _ (hK'.out.next hq)).mono ?_
               rintro e w8 ⟨dv, rfl, hdv, hb8⟩
               have hbq := hide (chain hq hb8)
               have hdr := hide hdv
               clear hdv
               clear hq hb8)
            | (go_at_call 67
               have hq := (‹Below wc.heap.size wc _ ∧ _›).1
               refine (HOP.out _ _ _ _ _ _ hdr.out hON.out (by omega)).mono ?_
               rintro e w8 ⟨bo, vo, rfl, hbo, ko, hb8⟩
               have hbq := hide (chain hq hb8)
               have hko := hide ko
               clear ko hbo
               clear hq hb8))
          have K7 := hide (hK'.out.next hbq.out)
          have C7 := hide (hC'.out.next hbq.out)
          have hb7 := chain hbw' hbq.out
          have hB7 := Nat.le_trans hBs' hbq.out.size
          have KO := hide hko.out
          clear HK hMY HDR hdr hK' hC' hbw' hbq hko hON hBs' C5
          go_wp2_with fail
          refine (HT.out _ _ _ _ KO.out).mono ?_
          rintro e w9 ⟨rfl, rfl⟩
          go_wp2_with fail
          refine (HT.out _ _ _ _ K7.out).mono ?_
          rintro e w9 ⟨rfl, rfl⟩
          go_wp2_with fail
          refine (krecords_any _ KO.out (by omega)).mono ?_
          rintro e w8 ⟨a8, n8, c8, rfl, hown8, rfl, hb8⟩
          have K8 := hide (K7.out.next hb8)
          have KO8 := hide (KO.out.next hb8)
          have C8 := hide (C7.out.next hb8)
          have hb9 := chain hb7 hb8
          have hB8 := Nat.le_trans hB7 hb8.size
          have HOW8 := hide hown8
          clear K7 KO C7 hb7 hb8 hB7 hown8
          go_wp2_with fail
          refine (krecords_any _ K8.out (by omega)).mono ?_
          rintro e w10 ⟨a9, n9, c9, rfl, hown9, rfl, hb10⟩
          have K9 := hide (K8.out.next hb10)
          have KO9 := hide (KO8.out.next hb10)
          have C9 := hide (C8.out.next hb10)
          have hb11 := chain hb9 hb10
          have hB9 := Nat.le_trans hB8 hb10.size
          have HOW9 := hide hown9
          have HOW8' := hide (OwnZ.below HOW8.out hb10)
          clear K8 KO8 C8 hb9 hb10 hB8 hown9 HOW8
          go_wp2_with fail
          refine (HSM.out _ _ _ _ _ HOW8'.out HOW9.out).mono ?_
          rintro e w12 ⟨rfl, hb12⟩
          have K10 := hide (K9.out.next hb12)
          have KO10 := hide (KO9.out.next hb12)
          have C10 := hide (C9.out.next hb12)
          have hb13 := chain hb11 hb12
          have hB10 := Nat.le_trans hB9 hb12.size
          clear K9 KO9 C9 hb11 hb12 hB9 HOW8' HOW9 HSM
          go_wp2_with fail
          refine (HG.out _ _ _ _ KO10.out).mono ?_
          rintro e w14 ⟨rfl, rfl⟩
          go_wp2_with fail
          go_roundw
          case rel => exact ⟨i + 1, m', cs', text', rl', v', by omega, by omega, by go_num, by omega, by omega, K10, C10, hB10, hb13⟩
          case measure => simp [intOf]; omega
    · have hnn : ¬ i < n ∨ (i < n ∧ ¬ i < 12) := by omega
      rcases hnn with hn1 | ⟨hn1, hn2⟩
      all_goals
        go_wp2_with fail
        refine (HAW.out _).mono ?_
        rintro e w11 ⟨rfl, hb11⟩
        have hbr := chain hbw hb11
        go_wp2_with fail
        go_ret
        exact ⟨rfl, hbr⟩

theorem turns_frame {w : World} (ao : Option Addr) (n c : Nat) (xs : List (List UInt8)) (h : Strs w ao n xs) (h1 : n ≤ c) (h2 : c ≤ 9223372036854775807) (hx : ∀ y ∈ xs, y.length ≤ 9223372036854775807) (z : Int) (hz : (Lit.int .u8 z).wf = true) (_ : World) :
    Calls Try.prog 19 #[.slice ao n c, .int .u8 z] w fun e w' => e = .returned (.bool true) ∧ Below w.heap.size w w' := by
  simp [Lit.wf, IntKind.min, IntKind.max, IntKind.bits, IntKind.signed] at hz
  obtain ⟨u, rfl⟩ := Int.eq_ofNat_of_zero_le (show 0 ≤ z by omega)
  exact turns_walk ao n c xs u w h ⟨h1, h2⟩ hx (by omega)

end Go.Proofs.Ytkapdmhjhbmdjaa
