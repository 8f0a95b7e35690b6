/-
  The walk through Save: another text is kept, where there is room. The walk through Add: a record goes behind the others, where there is room. The keep's statements' own small functions: few, halves, awake; a crash of a drive where nothing waits. The statements' own awake of layer 19: the chapter's examples. Two Keeps side by side: what Add says, and what it leaves as it was.
-/
import Derived.Test.YtogonkoeginoaaaGreatDoorKpA
import Derived.Test.YtogonkoeginoaaaGreatDoorLogApp2
import Derived.Test.YtogonkoeginoaaaGreatDoorKpOpen
import Derived.Test.YtogonkoeginoaaaGreatDoorDskCrash
import Derived.Test.YtogonkoeginoaaaGreatDoorLogLawS
namespace Go.Proofs.YtogonkoeginoaaaGreatDoor
open Go.RowKit

theorem grown_trans {a b c : World} {row : Option Nat} (h1 : a.grownBy b row) (h2 : b.grownBy c row) : a.grownBy c row :=
  ⟨h2.os.trans h1.os, h2.tape.trans h1.tape, h2.output.trans h1.output, Nat.le_trans h1.size h2.size, fun k hk hne => (h2.block k (Nat.lt_of_lt_of_le hk h1.size) hne).trans (h1.block k hk hne)⟩
theorem below_row {w w' : World} (h : Below w.heap.size w w') (row : Option Nat) : w.grownBy w' row := ⟨h.os, h.tape, h.output, h.size, fun k hk _ => h.block k hk⟩
/-- Steps to a new block are nothing to older ones. -/
theorem grown_new {a b c : World} {g : Nat} {row : Option Nat} (h1 : a.grownBy b row) (h2 : b.grownBy c (some g)) (hg : a.heap.size ≤ g) : a.grownBy c row :=
  ⟨h2.os.trans h1.os, h2.tape.trans h1.tape, h2.output.trans h1.output, Nat.le_trans h1.size h2.size, fun k hk hne => (h2.block k (Nat.lt_of_lt_of_le hk h1.size) (by intro e; injection e with e; omega)).trans (h1.block k hk hne)⟩

/-- No two strings lie side by side. -/
def NoPair (vs : List Value) : Prop := ∀ (i : Nat) (x y : ByteArray), vs[i]? = some (.string x) → vs[i + 1]? = some (.string y) → False
theorem kp_noPair {h : Hv} {m : Hd} {a1 : Option Addr} {n1 c1 : Nat} {a2 : Option Addr} {n2 c2 : Nat} {t : Tp} {s : ByteArray} {ao : Option Addr} {n c : Nat} : NoPair (kpCells h m a1 n1 c1 a2 n2 c2 t s (.slice ao n c)) := by
  intro i x y h1 h2
  unfold kpCells at h1 h2
  match i with
  | 0 | 1 | 2 | 3 | 4 | 5 | 6 | 7 | 8 | 9 | 10 | 11 | 12 | 13 => simp at h1
  | 14 => simp at h2
  | 15 => simp at h1
  | n + 16 => simp at h1
theorem row2_ne {w : World} {b b' off : Nat} {vs : List Value} {t : TypeId} {xs : List (List UInt8)} (hc : ∀ (j : Nat) (v : Value), (strVals xs)[j]? = some v → w.cell? ⟨b', off + j, none⟩ = some v) (h2 : 2 ≤ xs.length) (hB : Blk w b vs t) (hp : NoPair vs) : b' ≠ b := by
  rintro rfl
  match xs, h2 with
  | x :: y :: l, _ =>
    have e0 := hc 0 (.string (bs x)) rfl
    have e1 := hc 1 (.string (bs y)) rfl
    rw [hB.cell] at e0 e1
    exact hp off _ _ e0 e1
theorem IsDrive.grownK {w w' : World} {v : Value} {cs : List (List UInt8)} {f : Int} {o : Bool} (h : IsDrive w v ⟨cs, [], f, o⟩) (h2 : 2 ≤ cs.length) {b : Nat} {vs : List Value} {t : TypeId} (hB : Blk w b vs t) (hp : NoPair vs) (hg : w.grownBy w' (some b)) : IsDrive w' v ⟨cs, [], f, o⟩ := by
  obtain ⟨a1, n1, c1, a2, n2, c2, fu, of, e, hd⟩ := h
  refine ⟨a1, n1, c1, a2, n2, c2, fu, of, e, ⟨⟨hd.cells.len, ?_⟩, ⟨hd.queue.len, hd.queue.range, .inl rfl⟩, hd.room1, hd.room2, hd.fuel_eq, hd.off_eq, hd.range⟩⟩
  rcases hd.cells.row with h0 | ⟨b', off, e', hc⟩
  · exact .inl h0
  · have hne := row2_ne hc h2 hB hp
    refine .inr ⟨b', off, e', fun j u hj => hg.cell (hc j u hj) (by intro e; injection e with e; exact hne e)⟩
/-- A Keep where another Keep's block is written. -/
theorem KpAt.grownK {w w' : World} {b base : Nat} {v : Value} {h : Hv} {m : Hd} {cs : List (List UInt8)} {text : List UInt8} {l : List (List UInt8)} (k : KpAt w b base v h m cs text l) {b' : Nat} {vs : List Value} (hB : Blk w b' vs 66) (hp : NoPair vs) (hg : w.grownBy w' (some b')) (hne : b ≠ b') : KpAt w' b base v h m cs text l := by
  have h2 := k.on.bound
  obtain ⟨⟨a1, n1, c1, a2, n2, c2, h1, hd⟩, h3, h4⟩ := k
  exact ⟨⟨a1, n1, c1, a2, n2, c2, h1.grown hg (fun e => hne (by injection e)), IsDrive.grownK hd (by omega) hB hp hg⟩, OwnZ.kept h3 hg (.inr (own_type h3 hB (by decide))), h4⟩
theorem KpAt.block {w : World} {b base : Nat} {v : Value} {h : Hv} {m : Hd} {cs : List (List UInt8)} {text : List UInt8} {l : List (List UInt8)} (k : KpAt w b base v h m cs text l) : ∃ vs, Blk w b vs 66 ∧ NoPair vs := by
  obtain ⟨⟨a1, n1, c1, a2, n2, c2, h1, hd⟩, h3, h4⟩ := k
  obtain ⟨ao, c, rfl, _⟩ := h3.form
  exact ⟨_, h1, kp_noPair⟩

theorem kp_free {w : World} {b : Nat} {vs : List Value} {t : TypeId} (k : Blk w b vs t) : (w.frozen? ⟨b, 0, none⟩ = false ∧ w.frozen? ⟨b, 1, none⟩ = false ∧ w.frozen? ⟨b, 2, none⟩ = false ∧ w.frozen? ⟨b, 3, none⟩ = false) ∧ (w.frozen? ⟨b, 6, none⟩ = false ∧ w.frozen? ⟨b, 7, none⟩ = false ∧ w.frozen? ⟨b, 8, none⟩ = false ∧ w.frozen? ⟨b, 9, none⟩ = false) ∧
    (w.frozen? ⟨b, 10, none⟩ = false ∧ w.frozen? ⟨b, 11, none⟩ = false ∧ w.frozen? ⟨b, 12, none⟩ = false ∧ w.frozen? ⟨b, 13, none⟩ = false) ∧ w.frozen? ⟨b, 14, none⟩ = false ∧ w.frozen? ⟨b, 15, none⟩ = false :=
  ⟨⟨k.free 0, k.free 1, k.free 2, k.free 3⟩, ⟨k.free 6, k.free 7, k.free 8, k.free 9⟩, ⟨k.free 10, k.free 11, k.free 12, k.free 13⟩, k.free 14, k.free 15⟩

theorem cell_off (w : World) (b i j : Nat) (u : Value) (h : i ≠ j) : (w.setCell ⟨b, i, none⟩ u).cell? ⟨b, j, none⟩ = w.cell? ⟨b, j, none⟩ := World.cell?_setCell_other _ _ _ _ (fun e => by injection e with _ e; exact h e)
theorem grown_set {w w' : World} {b : Nat} (h : w.grownBy w' (some b)) (i : Nat) (u : Value) : w.grownBy (w'.setCell ⟨b, i, none⟩ u) (some b) := grown_trans h (grown_setCell w' b i u)

set_option maxRecDepth 100000 in
set_option maxHeartbeats 1600000 in
/-- A text that is too long. -/
theorem ksave_full (b base : Nat) (v : Value) (h : Hv) (m : Hd) (cs : List (List UInt8)) (text : List UInt8) (l : List (List UInt8)) (s : List UInt8) (w : World) (k : KpAt w b base v h m cs text l) (hs : h.text * 64 < s.length) (_hs2 : s.length < 9223372036854775808) :
    Calls Tryz.prog 7 #[.pointer (some ⟨b, 0, none⟩), .string (bs s)] w fun e w' => e = .returned (.int .i64 6) ∧ Below w.heap.size w w' := by
  obtain ⟨⟨a1, n1, c1, a2, n2, c2, h1, hd⟩, h3, h4⟩ := k
  have ho := h4.ok.2.2.2
  have hsz : (bs s).size = s.length := bs_size s
  obtain ⟨sv, hsv⟩ : ∃ z, bs s = z := ⟨_, rfl⟩
  rw [hsv] at hsz ⊢
  have hgt : (sv.size : Int) > (h.text : Int) * 64 := by omega
  obtain ⟨⟨p0, p1, p2, p3, p4, p5⟩, ⟨p6, p7, p8, p9⟩, ⟨q0, q1, q2, q3⟩, q4, q5⟩ := kp_cells h1
  have hb := Below.refl w.heap.size w
  clear h1 hd h3 h4 hsv
  go_enter Tryz.func7, Tryz.ntmps7
  go_wp2
  go_ret
  exact ⟨rfl, hb⟩

set_option maxRecDepth 100000 in
set_option maxHeartbeats 12800000 in
theorem ksave_any (b base : Nat) (v : Value) (h : Hv) (m : Hd) (cs : List (List UInt8)) (text : List UInt8) (l : List (List UInt8)) (s : List UInt8) (w : World) (k : KpAt w b base v h m cs text l) (hs : s.length ≤ h.text * 64) (hs2 : s.length ≤ 6400) (hg : m.gen < 16777215) (hsr : m.serial + l.length ≤ 16777215) :
    Calls Tryz.prog 7 #[.pointer (some ⟨b, 0, none⟩), .string (bs s)] w fun e w' => e = .returned (.int .i64 0) ∧ (∃ cs', KpAt w' b base (.slice none 0 0) h ⟨m.gen + 1, 1 - m.half, m.serial + l.length, s.length⟩ cs' s []) ∧ w.grownBy w' (some b) := by
  obtain ⟨⟨a1, n1, c1, a2, n2, c2, h1, hd⟩, h3, on⟩ := k
  have HON := hide (on.save s hs hg hsr)
  have hin : (⟨m.gen + 1, 1 - m.half, m.serial + l.length, s.length⟩ : Hd).In := by unfold Hd.In; simp only; omega
  have hb6 := on.bound
  have HL := hide (fun (b2 : Nat) (w : World) (hw : Work w b2 ⟨cs, [], -1, false⟩) => klay_any b2 h ⟨m.gen + 1, 1 - m.half, m.serial + l.length, s.length⟩ cs s w hw on.ok hin (by simp only; omega) on.len on.cell hs hs2)
  have HT := hide (fun w => ktape_any h ⟨m.gen + 1, 1 - m.half, m.serial + l.length, s.length⟩ w on.ok (by simp only; omega))
  obtain ⟨U, hU⟩ : ∃ U, layOn h cs ⟨m.gen + 1, 1 - m.half, m.serial + l.length, s.length⟩ s = U := ⟨_, rfl⟩
  rw [hU] at HON HL
  have hUl : 2 ≤ U.length := by have := HON.out.bound; omega
  have hsz : (bs s).size = s.length := bs_size s
  obtain ⟨sv, hsv⟩ : ∃ z, bs s = z := ⟨_, rfl⟩
  rw [hsv] at hsz HL ⊢
  have HSV := hide hsv
  have HSZ := hide hsz
  rw [← hsz] at HL HT
  have hng : ¬ (sv.size : Int) > (h.text : Int) * 64 := by omega
  have ho4 := on.ok.2.2.2
  have hhf := on.half
  obtain ⟨xv, hxv⟩ : ∃ z, bs text = z := ⟨_, rfl⟩
  rw [hxv] at h1
  obtain ⟨⟨f1, f2, f3, f4⟩, hft⟩ : ∃ z, kpTape h m l = z := ⟨_, rfl⟩
  have hf4 : f4 = ((m.serial + l.length : Nat) : Int) := by have := congrArg Tp.serial hft; exact this.symm
  rw [hft, hf4] at h1
  obtain ⟨ts, hts⟩ : ∃ z, m.serial + l.length = z := ⟨_, rfl⟩
  rw [hts] at h1 HL HT hsr HON
  obtain ⟨la, hla⟩ : ∃ z, logAt h (⟨m.gen + 1, 1 - m.half, ts, sv.size⟩ : Hd).half = z := ⟨_, rfl⟩
  rw [hla] at HT
  have HLA := hide hla
  have HTS := hide hts
  unfold hdVal at HL HT
  simp only at HL HT
  have HI := hide hd
  have HNP := hide (fun (a1 : Option Addr) (n1 c1 : Nat) (a2 : Option Addr) (n2 c2 : Nat) (t : Tp) (s : ByteArray) (ao : Option Addr) (n c : Nat) => kp_noPair (h := h) (m := m) (a1 := a1) (n1 := n1) (c1 := c1) (a2 := a2) (n2 := n2) (c2 := c2) (t := t) (s := s) (ao := ao) (n := n) (c := c))
  obtain ⟨ao, c, rfl, _⟩ := h3.form
  clear hU hsv hxv hft hf4 hts hla hsz h3 on hin hb6 hs hs2 hd
  obtain ⟨g, hgl⟩ : ∃ g, h.log = g := ⟨_, rfl⟩
  obtain ⟨t, hgt⟩ : ∃ t, h.text = t := ⟨_, rfl⟩
  have hvv : hvVal h = .agg #[.int .i64 (g : Int), .int .i64 (t : Int)] := by unfold hvVal; rw [hgl, hgt]
  rw [hvv] at HL HT
  rw [hgl] at HT
  rw [hgt] at hng ho4
  obtain ⟨gn, hgn⟩ : ∃ z, m.gen = z := ⟨_, rfl⟩
  obtain ⟨hf, hhf'⟩ : ∃ z, m.half = z := ⟨_, rfl⟩
  rw [hgn] at hg HL HT
  rw [hhf'] at hhf HL HT
  obtain ⟨hg2, hhg2⟩ : ∃ z, 1 - hf = z := ⟨_, rfl⟩
  rw [hhg2] at HL HT
  have hh2 : (1 : Int) - (hf : Int) = (hg2 : Int) := by omega
  have hgi : ¬ (gn : Int) ≥ 16777215 := by omega
  have hti : ¬ (ts : Int) > 16777215 := by omega
  have hgw : ((gn + 1 : Nat) : Int) = (gn : Int) + 1 := by omega
  rw [hgw] at HL HT
  have HGW := hide hgw
  clear hgw
  have HM := hide (And.intro (And.intro hgn hhf') (And.intro hgl hgt))
  have HH2 := hide hhg2
  have hK := h1
  unfold kpCells at hK
  rw [hgl, hgt, hgn, hhf'] at hK
  obtain ⟨⟨p0, p1, p2, p3, p4, p5⟩, ⟨p6, p7, p8, p9⟩, ⟨q0, q1, q2, q3⟩, q4, q5⟩ := kp_cells h1
  rw [hgl] at p4
  rw [hgt] at p5
  rw [hgn] at p0
  rw [hhf'] at p1
  simp only at q0 q1 q2 q3
  have hlt := h1.lt
  have hK0 : Blk w b [.int .i64 (gn : Int), .int .i64 (hf : Int), .int .i64 (m.serial : Int), .int .i64 (m.size : Int), .int .i64 (g : Int), .int .i64 (t : Int), .slice a1 n1 c1, .slice a2 n2 c2, .int .i64 (-1), .bool false, .int .i64 f1, .int .i64 f2, .int .i64 f3, .int .i64 ((ts : Nat) : Int), .string xv, .slice ao l.length c] 66 := hK
  clear hvv hgn hhf' hgl hgt hhg2 hK
  go_enter Tryz.func7, Tryz.ntmps7
  go_upto_region 5 with fail
  have hw1 : IntKind.i64.wrap ((gn : Int) + 1) = (gn : Int) + 1 := IntWalk.i64_in _ (by omega)
  have hw2 : IntKind.i64.wrap (hg2 : Int) = (hg2 : Int) := IntWalk.i64_in _ (by omega)
  have HK := hide (fun w' (h : Below w.heap.size w w') => show (fun w' => Below w.heap.size w w' ∧ w'.cell? ⟨b, 0, none⟩ = some (.int .i64 (gn : Int)) ∧ w'.cell? ⟨b, 1, none⟩ = some (.int .i64 (hf : Int)) ∧ w'.cell? ⟨b, 13, none⟩ = some (.int .i64 ((ts : Nat) : Int))) w' from ⟨h, (hK0.next h).cell 0, (hK0.next h).cell 1, (hK0.next h).cell 13⟩)
  go_cut [5] (fun s5 wx => ∃ b1, s5 = .pointer (some ⟨b1, 0, none⟩) ∧ w.heap.size ≤ b1 ∧ Blk wx b1 [.int .i64 ((gn : Int) + 1), .int .i64 (hg2 : Int), .int .i64 (ts : Int), .int .i64 (sv.size : Int)] 56 ∧ Below w.heap.size w wx)
  case first =>
    clear HL HT HON HI HNP
    go_region_held3 (fun w' => Below w.heap.size w w' ∧ w'.cell? ⟨b, 0, none⟩ = some (.int .i64 (gn : Int)) ∧ w'.cell? ⟨b, 1, none⟩ = some (.int .i64 (hf : Int)) ∧ w'.cell? ⟨b, 13, none⟩ = some (.int .i64 ((ts : Nat) : Int))) (first | exact HK.out _ (Below.drewed (Below.refl _ _)) | exact HK.out _ ((Below.drewed (Below.refl _ _)).alloc (Nat.le_refl _) _)) (fail)
    all_goals
      have hBN := Blk.new w [.int .i64 ((gn : Int) + 1), .int .i64 (hg2 : Int), .int .i64 (ts : Int), .int .i64 (sv.size : Int)] 56
      have hbn : Below w.heap.size w (w.alloc (.cells #[.int .i64 ((gn : Int) + 1), .int .i64 (hg2 : Int), .int .i64 (ts : Int), .int .i64 (sv.size : Int)] 56)) := (Below.refl _ _).alloc (Nat.le_refl _) _
      try go_wp2_with fail
      go_meet
      exact ⟨w.heap.size, rfl, Nat.le_refl _, hBN, Below.drewed hbn⟩
  case rest =>
    obtain ⟨wx, rfl⟩ : ∃ wx, wx = wc := ⟨_, rfl⟩
    obtain ⟨b1, rfl, hb1, B1, hbx⟩ := hcut
    have K1 := hK0.next hbx
    have HD1 := hide (HI.out.below hbx)
    have hl1 := B1.lt
    clear hw1 hw2 hh2 hgi hti hng HK p0 p1 p2 p3 p4 p5 p6 p7 p8 p9 q0 q1 q2 q3 q4 q5 HI h1
    obtain ⟨p6, p7, p8, p9⟩ : (wx.cell? ⟨b, 6, none⟩ = some (.slice a1 n1 c1) ∧ wx.cell? ⟨b, 7, none⟩ = some (.slice a2 n2 c2) ∧ wx.cell? ⟨b, 8, none⟩ = some (.int .i64 (-1)) ∧ wx.cell? ⟨b, 9, none⟩ = some (.bool false)) := ⟨K1.cell 6, K1.cell 7, K1.cell 8, K1.cell 9⟩
    have Q2 := Blk.new wx [.slice a1 n1 c1, .slice a2 n2 c2, .int .i64 (-1), .bool false, .int .i64 0] 58
    have hal : Below wx.heap.size wx (wx.alloc (.cells #[.slice a1 n1 c1, .slice a2 n2 c2, .int .i64 (-1), .bool false, .int .i64 0] 58)) := (Below.refl _ _).alloc (Nat.le_refl _) _
    obtain ⟨W2, hW2⟩ : ∃ z, wx.alloc (.cells #[.slice a1 n1 c1, .slice a2 n2 c2, .int .i64 (-1), .bool false, .int .i64 0] 58) = z := ⟨_, rfl⟩
    have C2 : Blk W2 wx.heap.size [.slice a1 n1 c1, .slice a2 n2 c2, .int .i64 (-1), .bool false, .int .i64 0] 58 := by rw [← hW2]; exact Q2
    rw [hW2] at hal
    have C1 := B1.next hal
    have K2 := K1.next hal
    have HD2 := hide (HD1.out.below hal)
    have hby := chain hbx hal
    have HW2 := hide hW2
    clear hW2
    go_upto_region 7 with fail
    rw [HW2.out]
    clear HW2 Q2 p6 p7 p8 p9 B1 K1 HD1
    have hwx := hbx.size
    obtain ⟨b2, hb2⟩ : ∃ z, wx.heap.size = z := ⟨_, rfl⟩
    rw [hb2] at C2 hl1 hwx hal ⊢
    have hWk : Work W2 b2 ⟨cs, [], -1, false⟩ := ⟨a1, n1, c1, a2, n2, c2, -1, false, C2, HD2.out⟩
    have hnb2 : b ≠ b2 := by omega
    have hnb1 : b1 ≠ b2 := by omega
    have hnbb1 : b ≠ b1 := by omega
    clear hal hbx
    have HLW := hide (HL.out b2)
    go_cut [] (fun wz => Work wz b2 ⟨U, [], -1, false⟩ ∧ Step W2 wz (some b2))
    case first =>
      obtain ⟨p0, p1, p2, p3, p4, p5, p6, p7⟩ := C1.four
      have q4 : W2.cell? ⟨b, 4, none⟩ = some (.int .i64 (g : Int)) := K2.cell 4
      have q5 : W2.cell? ⟨b, 5, none⟩ = some (.int .i64 (t : Int)) := K2.cell 5
      clear HL HT HNP
      go_region_held3 (fun w' => w'.cell? ⟨b1, 0, none⟩ = some (.int .i64 ((gn : Int) + 1)) ∧ w'.cell? ⟨b1, 1, none⟩ = some (.int .i64 (hg2 : Int)) ∧ w'.cell? ⟨b1, 2, none⟩ = some (.int .i64 (ts : Int)) ∧ w'.cell? ⟨b1, 3, none⟩ = some (.int .i64 (sv.size : Int)) ∧ w'.cell? ⟨b, 4, none⟩ = some (.int .i64 (g : Int)) ∧ w'.cell? ⟨b, 5, none⟩ = some (.int .i64 (t : Int))) (go_keep) (
        (go_at_call 20
         refine (HLW.out _ (hWk.next (Below.drewed (Below.refl _ _)))).mono ?_
         rintro e w8 ⟨rfl, hw8, hs8⟩
         have hs9 := hide ((Step.ofBelow (Below.drewed (Below.refl W2.heap.size W2)) (some b2)).trans hs8)
         have hw9 := hide hw8
         obtain ⟨k0, k1, k2, k3, k4, k5, k6, k7⟩ := (C1.step hs9.out hnb1).four
         have m4 : w8.cell? ⟨b, 4, none⟩ = some (.int .i64 (g : Int)) := (K2.step hs9.out hnb2).cell 4
         have m5 : w8.cell? ⟨b, 5, none⟩ = some (.int .i64 (t : Int)) := (K2.step hs9.out hnb2).cell 5
         clear hw8 hs8))
      all_goals
        try go_wp2_with fail
        go_meet
        exact ⟨hw9.out, hs9.out⟩
    case rest =>
      obtain ⟨wz, rfl⟩ : ∃ wx, wx = wc := ⟨_, rfl⟩
      obtain ⟨hwz, hsz2⟩ := hcut
      have K3 := K2.step hsz2 hnb2
      have C3 := C1.step hsz2 hnb1
      have hgr : w.grownBy wz (some b) := grown_new (below_row hby (some b)) hsz2.grown hwx
      clear HL HLW hWk C2 C1 K2 HD2 hby hsz2
      obtain ⟨u1, r1, t1, u2, r2, t2, fy, oy, F2, hd⟩ := hwz
      have hfy := hd
      obtain ⟨_, _, _, _, _, _, _, _, hfe, hfd⟩ := hfy
      unfold drvVal at hfe
      injection hfe with hfe
      have hfl := congrArg Array.toList hfe
      simp only [List.cons.injEq, Value.slice.injEq, Value.int.injEq, Value.bool.injEq, and_true, true_and] at hfl
      obtain ⟨⟨rfl, rfl, rfl⟩, ⟨rfl, rfl, rfl⟩, rfl, rfl⟩ := hfl
      obtain rfl := hfd.fuel_eq
      obtain rfl := hfd.off_eq
      have HDD := hide hd
      clear hd hfd hfe
      unfold wkCells at F2
      obtain ⟨g0, g1, g2, g3, g4, g5, g6, g7, g8, g9⟩ := F2.five
      have p6 : wz.cell? ⟨b, 6, none⟩ = some (.slice a1 n1 c1) := K3.cell 6
      have p7 : wz.cell? ⟨b, 7, none⟩ = some (.slice a2 n2 c2) := K3.cell 7
      have p8 : wz.cell? ⟨b, 8, none⟩ = some (.int .i64 (-1)) := K3.cell 8
      have p9 : wz.cell? ⟨b, 9, none⟩ = some (.bool false) := K3.cell 9
      obtain ⟨_, ⟨z6, z7, z8, z9⟩, _⟩ := kp_free K3
      have hnb2' : b2 ≠ b := fun h => hnb2 h.symm
      have hnb1' : b1 ≠ b := by omega
      obtain ⟨W5, hW5⟩ : ∃ z, ((((wz.setCell ⟨b, 6, none⟩ (.slice u1 r1 t1)).setCell ⟨b, 7, none⟩ (.slice u2 r2 t2)).setCell ⟨b, 8, none⟩ (.int .i64 (-1))).setCell ⟨b, 9, none⟩ (.bool false)) = z := ⟨_, rfl⟩
      have hg5 : wz.grownBy W5 (some b) := by rw [← hW5]; exact grown_set (grown_set (grown_set (grown_setCell wz b _ _) _ _) _ _) _ _
      have K5 : Blk W5 b [.int .i64 (gn : Int), .int .i64 (hf : Int), .int .i64 (m.serial : Int), .int .i64 (m.size : Int), .int .i64 (g : Int), .int .i64 (t : Int), .slice u1 r1 t1, .slice u2 r2 t2, .int .i64 (-1), .bool false, .int .i64 f1, .int .i64 f2, .int .i64 f3, .int .i64 ((ts : Nat) : Int), .string xv, .slice ao l.length c] 66 := by rw [← hW5]; exact (((K3.set 6 _).set 7 _).set 8 _).set 9 _
      have C5 : Blk W5 b1 [.int .i64 ((gn : Int) + 1), .int .i64 (hg2 : Int), .int .i64 (ts : Int), .int .i64 (sv.size : Int)] 56 := C3.grown hg5 (fun e => hnb1' (by injection e))
      have F5 : Blk W5 b2 [.slice u1 r1 t1, .slice u2 r2 t2, .int .i64 (-1), .bool false, .int .i64 0] 58 := F2.grown hg5 (fun e => hnb2' (by injection e))
      have HNPx : NoPair [.int .i64 (gn : Int), .int .i64 (hf : Int), .int .i64 (m.serial : Int), .int .i64 (m.size : Int), .int .i64 (g : Int), .int .i64 (t : Int), .slice a1 n1 c1, .slice a2 n2 c2, .int .i64 (-1), .bool false, .int .i64 f1, .int .i64 f2, .int .i64 f3, .int .i64 ((ts : Nat) : Int), .string xv, .slice ao l.length c] := by
        have := HNP.out a1 n1 c1 a2 n2 c2 ⟨f1, f2, f3, (ts : Int)⟩ xv ao l.length c
        unfold kpCells at this
        rw [HM.out.1.1, HM.out.1.2, HM.out.2.1, HM.out.2.2] at this
        exact this
      have HD5 := hide (IsDrive.grownK HDD.out hUl K3 HNPx hg5)
      have hgs := grown_trans hgr hg5
      have HW5 := hide hW5
      clear hW5 HNPx hgr hg5 HDD
      go_upto_region 10 with fail
      rw [HW5.out]
      clear HW5 g0 g1 g2 g3 g4 g5 g6 g7 g8 g9 p6 p7 p8 p9 z6 z7 z8 z9 K3 C3 F2
      have e4 : W5.cell? ⟨b2, 4, none⟩ = some (.int .i64 0) := F5.cell 4
      go_upto_region 12 with fail
      clear e4 F5
      obtain ⟨p0, p1, p2, p3, p4, p5, p6, p7⟩ := C5.four
      have q4 : W5.cell? ⟨b, 4, none⟩ = some (.int .i64 (g : Int)) := K5.cell 4
      have q5 : W5.cell? ⟨b, 5, none⟩ = some (.int .i64 (t : Int)) := K5.cell 5
      clear HNP
      go_region_held3 (fun w' => w'.cell? ⟨b1, 0, none⟩ = some (.int .i64 ((gn : Int) + 1)) ∧ w'.cell? ⟨b1, 1, none⟩ = some (.int .i64 (hg2 : Int)) ∧ w'.cell? ⟨b1, 2, none⟩ = some (.int .i64 (ts : Int)) ∧ w'.cell? ⟨b1, 3, none⟩ = some (.int .i64 (sv.size : Int)) ∧ w'.cell? ⟨b, 4, none⟩ = some (.int .i64 (g : Int)) ∧ w'.cell? ⟨b, 5, none⟩ = some (.int .i64 (t : Int))) (first | (go_keep; done) | (simp [*, cell_off, World.cell?_setCell_far]; done) | (refine ⟨?_, ?_, ?_, ?_, ?_, ?_⟩ <;> (first | (go_keep; done) | (simp [*, cell_off, World.cell?_setCell_far]; done)))) (
        (go_at_call 21
         refine (HT.out _).mono ?_
         rintro e w8 ⟨rfl, hb8⟩
         have hbq := hide (undrew1 hb8)
         clear hb8
         obtain ⟨k0, k1, k2, k3, k4, k5, k6, k7⟩ := (C5.next hbq.out).four
         have K8 := K5.next hbq.out
         have m0 : w8.cell? ⟨b, 0, none⟩ = some (.int .i64 (gn : Int)) := K8.cell 0
         have m1 : w8.cell? ⟨b, 1, none⟩ = some (.int .i64 (hf : Int)) := K8.cell 1
         have m2 : w8.cell? ⟨b, 2, none⟩ = some (.int .i64 (m.serial : Int)) := K8.cell 2
         have m3 : w8.cell? ⟨b, 3, none⟩ = some (.int .i64 (m.size : Int)) := K8.cell 3
         have m4 : w8.cell? ⟨b, 4, none⟩ = some (.int .i64 (g : Int)) := K8.cell 4
         have m5 : w8.cell? ⟨b, 5, none⟩ = some (.int .i64 (t : Int)) := K8.cell 5
         have m6 : w8.cell? ⟨b, 6, none⟩ = some (.slice u1 r1 t1) := K8.cell 6
         have m7 : w8.cell? ⟨b, 7, none⟩ = some (.slice u2 r2 t2) := K8.cell 7
         have m8 : w8.cell? ⟨b, 8, none⟩ = some (.int .i64 (-1)) := K8.cell 8
         have m9 : w8.cell? ⟨b, 9, none⟩ = some (.bool false) := K8.cell 9
         have m10 : w8.cell? ⟨b, 10, none⟩ = some (.int .i64 f1) := K8.cell 10
         have m11 : w8.cell? ⟨b, 11, none⟩ = some (.int .i64 f2) := K8.cell 11
         have m12 : w8.cell? ⟨b, 12, none⟩ = some (.int .i64 f3) := K8.cell 12
         have m13 : w8.cell? ⟨b, 13, none⟩ = some (.int .i64 ((ts : Nat) : Int)) := K8.cell 13
         have m14 : w8.cell? ⟨b, 14, none⟩ = some (.string xv) := K8.cell 14
         have m15 : w8.cell? ⟨b, 15, none⟩ = some (.slice ao l.length c) := K8.cell 15
         obtain ⟨⟨z0, z1, z2, z3⟩, ⟨z6, z7, z8, z9⟩, ⟨z10, z11, z12, z13⟩, z14, z15⟩ := kp_free K8))
      all_goals
        obtain ⟨W9, hW9⟩ : ∃ z, ((((((((((w8.setCell ⟨b, 0, none⟩ (.int .i64 ((gn : Int) + 1))).setCell ⟨b, 1, none⟩ (.int .i64 (hg2 : Int))).setCell ⟨b, 2, none⟩ (.int .i64 (ts : Int))).setCell ⟨b, 3, none⟩ (.int .i64 (sv.size : Int))).setCell ⟨b, 10, none⟩ (.int .i64 (la : Int))).setCell ⟨b, 11, none⟩ (.int .i64 (g : Int))).setCell ⟨b, 12, none⟩ (.int .i64 0)).setCell ⟨b, 13, none⟩ (.int .i64 (ts : Int))).setCell ⟨b, 14, none⟩ (.string sv)).setCell ⟨b, 15, none⟩ (.slice none 0 0)) = z := ⟨_, rfl⟩
        have hg9 : w8.grownBy W9 (some b) := by
          rw [← hW9]
          exact grown_set (grown_set (grown_set (grown_set (grown_set (grown_set (grown_set (grown_set (grown_set (grown_setCell w8 b _ _) _ _) _ _) _ _) _ _) _ _) _ _) _ _) _ _) _ _
        have K9 : Blk W9 b [.int .i64 ((gn : Int) + 1), .int .i64 (hg2 : Int), .int .i64 (ts : Int), .int .i64 (sv.size : Int), .int .i64 (g : Int), .int .i64 (t : Int), .slice u1 r1 t1, .slice u2 r2 t2, .int .i64 (-1), .bool false, .int .i64 (la : Int), .int .i64 (g : Int), .int .i64 0, .int .i64 (ts : Int), .string sv, .slice none 0 0] 66 := by
          rw [← hW9]
          exact (((((((((K8.set 0 _).set 1 _).set 2 _).set 3 _).set 10 _).set 11 _).set 12 _).set 13 _).set 14 _).set 15 _
        have hNP5 : NoPair [.int .i64 (gn : Int), .int .i64 (hf : Int), .int .i64 (m.serial : Int), .int .i64 (m.size : Int), .int .i64 (g : Int), .int .i64 (t : Int), .slice u1 r1 t1, .slice u2 r2 t2, .int .i64 (-1), .bool false, .int .i64 f1, .int .i64 f2, .int .i64 f3, .int .i64 ((ts : Nat) : Int), .string xv, .slice ao l.length c] := by
          have := kp_noPair (h := h) (m := m) (a1 := u1) (n1 := r1) (c1 := t1) (a2 := u2) (n2 := r2) (c2 := t2) (t := ⟨f1, f2, f3, (ts : Int)⟩) (s := xv) (ao := ao) (n := l.length) (c := c)
          unfold kpCells at this
          rw [HM.out.1.1, HM.out.1.2, HM.out.2.1, HM.out.2.2] at this
          exact this
        have HD9 := hide (IsDrive.grownK (HD5.out.below hbq.out) hUl K8 hNP5 hg9)
        have hgr := grown_trans (grown_trans hgs (below_row hbq.out _)) hg9
        try rw [hW9]
        clear hW9 hg9 K8 hbq K5 C5 HD5 hgs k0 k1 k2 k3 k4 k5 k6 k7 m0 m1 m2 m3 m4 m5 m6 m7 m8 m9 m10 m11 m12 m13 m14 m15 z0 z1 z2 z3 z6 z7 z8 z9 z10 z11 z12 z13 z14 z15
        go_wp2_with fail
        go_ret
        have hm := HM.out
        have HC : kpCells h ⟨m.gen + 1, 1 - m.half, m.serial + l.length, s.length⟩ u1 r1 t1 u2 r2 t2 (kpTape h ⟨m.gen + 1, 1 - m.half, m.serial + l.length, s.length⟩ []) sv (.slice none 0 0) = [.int .i64 ((gn : Int) + 1), .int .i64 (hg2 : Int), .int .i64 (ts : Int), .int .i64 (sv.size : Int), .int .i64 (g : Int), .int .i64 (t : Int), .slice u1 r1 t1, .slice u2 r2 t2, .int .i64 (-1), .bool false, .int .i64 (la : Int), .int .i64 (g : Int), .int .i64 0, .int .i64 (ts : Int), .string sv, .slice none 0 0] := by
          unfold kpCells kpTape
          rw [HTS.out, hm.1.1, hm.1.2, hm.2.1, hm.2.2, HH2.out]
          try simp only
          have hla := HLA.out
          try simp only at hla
          rw [HM.out.1.2, HH2.out] at hla
          rw [hla, ← HSZ.out, HGW.out]
          rfl
        refine ⟨rfl, ⟨U, ⟨⟨u1, r1, t1, u2, r2, t2, ?_, HD9.out⟩, OwnS.nil _ _, by rw [HTS.out]; exact HON.out⟩⟩, hgr⟩
        rw [HSV.out, HC]
        exact K9

end Go.Proofs.YtogonkoeginoaaaGreatDoor

namespace Go.Proofs.YtogonkoeginoaaaGreatDoor
open Go.RowKit

/-- What an Add leaves. -/
def AddDone (w0 w' : World) (b base : Nat) (v : Value) (h : Hv) (m : Hd) (text : List UInt8) (rl : List (List UInt8)) (s : List UInt8) (E1 : Int) : Prop :=
  (E1 = 0 ∧ ∃ v' cs', KpAt w' b base v' h m cs' text (rl ++ [s]) ∧ (v'.ownBlock = v.ownBlock ∨ ∃ g, v'.ownBlock = some g ∧ w0.heap.size ≤ g) ∧ ∃ w1 w2, w0.grownBy w1 (some b) ∧ w1.grownBy w2 v.ownBlock ∧ Keeps64 w1 w2 ∧ w2.grownBy w' (some b)) ∨ (E1 ≠ 0 ∧ Below w0.heap.size w0 w')

set_option maxRecDepth 100000 in
set_option maxHeartbeats 12800000 in
theorem kadd_any (b base : Nat) (v : Value) (h : Hv) (m : Hd) (cs : List (List UInt8)) (text : List UInt8) (rl : List (List UInt8)) (s : List UInt8) (w0 : World) (D1 : Drv) (T1 : Tp) (E1 : Int) (k : KpAt w0 b base v h m cs text rl) (hs : s.length ≤ 10000) (hn : m.serial + rl.length ≤ 16777215) (hbase : base ≤ w0.heap.size)
    (hap : Drv.append ⟨cs, [], -1, false⟩ (kpTape h m rl) s = (D1, T1, E1)) (hres : (E1 = 0 ∧ ∃ cs', D1 = ⟨cs', [], -1, false⟩ ∧ T1 = kpTape h m (rl ++ [s]) ∧ OnKeep h cs' m text (rl ++ [s])) ∨ E1 = 6 ∨ E1 = 1) :
    Calls Tryz.prog 8 #[.pointer (some ⟨b, 0, none⟩), .string (bs s)] w0 fun e w' => e = .returned (.int .i64 E1) ∧ AddDone w0 w' b base v h m text rl s E1 := by
  obtain ⟨⟨a1, n1, c1, a2, n2, c2, h1, hd⟩, h3, on⟩ := k
  have hfit := on.fits
  have hb6 := on.bound
  have hok := on.ok
  have hsr := on.serial
  have hpl := half_place (h := h) on.half
  have hln := on.len
  have hsp := span_ge' rl
  unfold Hv.Ok at hok
  have HA := hide (fun (v : Value) (w : World) (h' : IsDrive w v ⟨cs, [], -1, false⟩) => append_any v ⟨cs, [], -1, false⟩ (kpTape h m rl) s w h' (by unfold kpTape Tp.In; dsimp only; omega) (by simp) (by omega))
  rw [hap] at HA
  obtain ⟨⟨f1, f2, f3, f4⟩, hft⟩ : ∃ z, kpTape h m rl = z := ⟨_, rfl⟩
  rw [hft] at h1 HA
  obtain ⟨t1, t2, t3, t4⟩ := T1
  unfold tpVal at HA
  simp only at HA
  obtain ⟨sv, hsv⟩ : ∃ z, bs s = z := ⟨_, rfl⟩
  rw [hsv] at HA ⊢
  have HSV := hide hsv
  obtain ⟨xv, hxv⟩ : ∃ z, bs text = z := ⟨_, rfl⟩
  rw [hxv] at h1
  have HXV := hide hxv
  obtain ⟨ao, c, rfl, hrc, hc63, hst⟩ := h3.form
  have HOW := hide h3
  have HRES := hide hres
  have HI := hide hd
  have hK0 : Blk w0 b [.int .i64 (m.gen : Int), .int .i64 (m.half : Int), .int .i64 (m.serial : Int), .int .i64 (m.size : Int), .int .i64 (h.log : Int), .int .i64 (h.text : Int), .slice a1 n1 c1, .slice a2 n2 c2, .int .i64 (-1), .bool false, .int .i64 f1, .int .i64 f2, .int .i64 f3, .int .i64 f4, .string xv, .slice ao rl.length c] 66 := h1
  have hrl : rl.length ≤ 1500 := by omega
  have hlt := h1.lt
  obtain ⟨⟨p0, p1, p2, p3, p4, p5⟩, ⟨p6, p7, p8, p9⟩, ⟨q0, q1, q2, q3⟩, q4, q5⟩ := kp_cells h1
  simp only at q0 q1 q2 q3
  have hcs2 : 2 ≤ cs.length := by omega
  clear hfit hb6 hok hsr hpl hln hsp hap hft hsv hxv h3 hres hd h1 on hst hrc hc63
  go_enter Tryz.func8, Tryz.ntmps8
  go_upto_region 3 with fail
  go_cut [5, 6, 7] (fun s5 s6 s7 wx => ∃ (b5 b6 : Nat) (v5 : Value), s5 = .pointer (some ⟨b5, 0, none⟩) ∧ s6 = .pointer (some ⟨b6, 0, none⟩) ∧ s7 = .int .i64 E1 ∧ Holds wx b5 v5 ∧ IsDrive wx v5 D1 ∧ Blk wx b6 (tpCells ⟨t1, t2, t3, t4⟩) 63 ∧ b6 ≠ b5 ∧ w0.heap.size ≤ b5 ∧ w0.heap.size ≤ b6 ∧ Below w0.heap.size w0 wx)
  case first =>
    refine (fun h : ∀ z8 z9 z10 z11 z12 z27 z28 z29 z30 z31 z32 z33 z34 z35 z36 z37 z38 z39 z40 z41 z42 z43 z44 z45 z46 z47 z48 z49 z50 z51 z52 z53 y13 y14 y15 y16 y17 y18 y19 y20 y21 y22 y23 y24 y25 y26 : Value, Code.wp Tryz.prog ?_ ?_ ⟨#[.pointer (some ⟨b, 0, none⟩), .string sv, undef, undef, .int .i64 0, undef, undef, undef, z8, z9, z10, z11, z12, y13, y14, y15, y16, y17, y18, y19, y20, y21, y22, y23, y24, y25, y26, z27, z28, z29, z30, z31, z32, z33, z34, z35, z36, z37, z38, z39, z40, z41, z42, z43, z44, z45, z46, z47, z48, z49, z50, z51, z52, z53], []⟩ w0 => h _ _ _ _ _ _ _ _ _ _ _ _ _ _ _ _ _ _ _ _ _ _ _ _ _ _ _ _ _ _ _ _ _ _ _ _ _ _ _ _ _ _ _ _ _ _) ?_
    intro z8 z9 z10 z11 z12 z27 z28 z29 z30 z31 z32 z33 z34 z35 z36 z37 z38 z39 z40 z41 z42 z43 z44 z45 z46 z47 z48 z49 z50 z51 z52 z53 y13 y14 y15 y16 y17 y18 y19 y20 y21 y22 y23 y24 y25 y26
    refine wp_region_inv2 (fun l aa w => ∃ x5 x6 x7 x13 x14 x15 x16 x17 x18 x19 x20 x21 x22 x23 x24 x25 x26 : Value, aa = ⟨#[.pointer (some ⟨b, 0, none⟩), .string sv, undef, undef, .int .i64 0, x5, x6, x7, z8, z9, z10, z11, z12, x13, x14, x15, x16, x17, x18, x19, x20, x21, x22, x23, x24, x25, x26, z27, z28, z29, z30, z31, z32, z33, z34, z35, z36, z37, z38, z39, z40, z41, z42, z43, z44, z45, z46, z47, z48, z49, z50, z51, z52, z53], []⟩ ∧ AppF w0 9 D1 ⟨t1, t2, t3, t4⟩ E1 l w x23 x13 x24 x25 x26 x5 x6 ∧ (fl l 0 → x14 = .pointer (some ⟨b, 0, none⟩)) ∧ (fl l 1 → x15 = .pointer (some ⟨b, 0, none⟩)) ∧ (fl l 2 → x16 = .pointer (some ⟨b, 6, none⟩)) ∧ (fl l 3 → x17 = .agg #[.slice a1 n1 c1, .slice a2 n2 c2, .int .i64 (-1), .bool false]) ∧ (fl l 4 → x18 = .pointer (some ⟨b, 0, none⟩)) ∧ (fl l 5 → x19 = .pointer (some ⟨b, 0, none⟩)) ∧ (fl l 6 → x20 = .pointer (some ⟨b, 10, none⟩)) ∧ (fl l 7 → x21 = .agg #[.int .i64 f1, .int .i64 f2, .int .i64 f3, .int .i64 f4]) ∧ (fl l 8 → x22 = .string sv) ∧ (fl l 18 → x7 = x26 ∧ fl l 13)) (by kernel_rfl) (ord_of2 (by decide +kernel)) ⟨_, _, _, _, _, _, _, _, _, _, _, _, _, _, _, _, _, rfl, AppF.zero _ _ _ _ _ _ _ _ _ _ _ _, fun f => absurd f (fl_none _ _), fun f => absurd f (fl_none _ _), fun f => absurd f (fl_none _ _), fun f => absurd f (fl_none _ _), fun f => absurd f (fl_none _ _), fun f => absurd f (fl_none _ _), fun f => absurd f (fl_none _ _), fun f => absurd f (fl_none _ _), fun f => absurd f (fl_none _ _), fun f => absurd f (fl_none _ _)⟩ ?_ ?_
    · intro l aa w3 i o ho hI h1 h2 KK hK
      obtain ⟨x5, x6, x7, x13, x14, x15, x16, x17, x18, x19, x20, x21, x22, x23, x24, x25, x26, rfl, hF, g0, g1, g2, g3, g4, g5, g6, g7, g8, h4⟩ := hI
      have hi : i < 19 := (Array.getElem?_eq_some_iff.1 ho).1
      have R9 := hK0.next hF.below
      have r6 : w3.cell? ⟨b, 6, none⟩ = some (.slice a1 n1 c1) := R9.cell 6
      have r7 : w3.cell? ⟨b, 7, none⟩ = some (.slice a2 n2 c2) := R9.cell 7
      have r8 : w3.cell? ⟨b, 8, none⟩ = some (.int .i64 (-1)) := R9.cell 8
      have r9 : w3.cell? ⟨b, 9, none⟩ = some (.bool false) := R9.cell 9
      have r10 : w3.cell? ⟨b, 10, none⟩ = some (.int .i64 f1) := R9.cell 10
      have r11 : w3.cell? ⟨b, 11, none⟩ = some (.int .i64 f2) := R9.cell 11
      have r12 : w3.cell? ⟨b, 12, none⟩ = some (.int .i64 f3) := R9.cell 12
      have r13 : w3.cell? ⟨b, 13, none⟩ = some (.int .i64 f4) := R9.cell 13
      have hcase : i = 0 ∨ i = 1 ∨ i = 2 ∨ i = 3 ∨ i = 4 ∨ i = 5 ∨ i = 6 ∨ i = 7 ∨ i = 8 ∨ i = 9 ∨ i = 10 ∨ i = 11 ∨ i = 12 ∨ i = 13 ∨ i = 14 ∨ i = 15 ∨ i = 16 ∨ i = 17 ∨ i = 18 := by omega
      rcases hcase with rfl | rfl | rfl | rfl | rfl | rfl | rfl | rfl | rfl | rfl | rfl | rfl | rfl | rfl | rfl | rfl | rfl | rfl | rfl
      · cases ho
        go_simp
        exact hK _ _ ⟨_, _, _, _, _, _, _, _, _, _, _, _, _, _, _, _, _, rfl, hF.pre (.inl (by decide)), fun _ => rfl, fun f => g1 (fl_set f (by decide)), fun f => g2 (fl_set f (by decide)), fun f => g3 (fl_set f (by decide)), fun f => g4 (fl_set f (by decide)), fun f => g5 (fl_set f (by decide)), fun f => g6 (fl_set f (by decide)), fun f => g7 (fl_set f (by decide)), fun f => g8 (fl_set f (by decide)), fun f => ⟨(h4 (fl_set f (by decide))).1, fl_keep (h4 (fl_set f (by decide))).2 _⟩⟩
      · cases ho
        have f0 : fl l 0 := h2 ⟨0, .data⟩ (by simp) rfl
        obtain rfl := g0 f0
        go_simp
        exact hK _ _ ⟨_, _, _, _, _, _, _, _, _, _, _, _, _, _, _, _, _, rfl, hF.pre (.inl (by decide)), fun f => g0 (fl_set f (by decide)), fun _ => rfl, fun f => g2 (fl_set f (by decide)), fun f => g3 (fl_set f (by decide)), fun f => g4 (fl_set f (by decide)), fun f => g5 (fl_set f (by decide)), fun f => g6 (fl_set f (by decide)), fun f => g7 (fl_set f (by decide)), fun f => g8 (fl_set f (by decide)), fun f => ⟨(h4 (fl_set f (by decide))).1, fl_keep (h4 (fl_set f (by decide))).2 _⟩⟩
      · cases ho
        have f1 : fl l 1 := h2 ⟨1, .data⟩ (by simp) rfl
        obtain rfl := g1 f1
        go_simp
        exact hK _ _ ⟨_, _, _, _, _, _, _, _, _, _, _, _, _, _, _, _, _, rfl, hF.pre (.inl (by decide)), fun f => g0 (fl_set f (by decide)), fun f => g1 (fl_set f (by decide)), fun _ => rfl, fun f => g3 (fl_set f (by decide)), fun f => g4 (fl_set f (by decide)), fun f => g5 (fl_set f (by decide)), fun f => g6 (fl_set f (by decide)), fun f => g7 (fl_set f (by decide)), fun f => g8 (fl_set f (by decide)), fun f => ⟨(h4 (fl_set f (by decide))).1, fl_keep (h4 (fl_set f (by decide))).2 _⟩⟩
      · cases ho
        have f2 : fl l 2 := h2 ⟨2, .data⟩ (by simp) rfl
        obtain rfl := g2 f2
        go_simp
        exact hK _ _ ⟨_, _, _, _, _, _, _, _, _, _, _, _, _, _, _, _, _, rfl, hF.pre (.inl (by decide)), fun f => g0 (fl_set f (by decide)), fun f => g1 (fl_set f (by decide)), fun f => g2 (fl_set f (by decide)), fun _ => rfl, fun f => g4 (fl_set f (by decide)), fun f => g5 (fl_set f (by decide)), fun f => g6 (fl_set f (by decide)), fun f => g7 (fl_set f (by decide)), fun f => g8 (fl_set f (by decide)), fun f => ⟨(h4 (fl_set f (by decide))).1, fl_keep (h4 (fl_set f (by decide))).2 _⟩⟩
      · cases ho
        go_simp
        exact hK _ _ ⟨_, _, _, _, _, _, _, _, _, _, _, _, _, _, _, _, _, rfl, hF.pre (.inl (by decide)), fun f => g0 (fl_set f (by decide)), fun f => g1 (fl_set f (by decide)), fun f => g2 (fl_set f (by decide)), fun f => g3 (fl_set f (by decide)), fun _ => rfl, fun f => g5 (fl_set f (by decide)), fun f => g6 (fl_set f (by decide)), fun f => g7 (fl_set f (by decide)), fun f => g8 (fl_set f (by decide)), fun f => ⟨(h4 (fl_set f (by decide))).1, fl_keep (h4 (fl_set f (by decide))).2 _⟩⟩
      · cases ho
        have f4 : fl l 4 := h2 ⟨4, .data⟩ (by simp) rfl
        obtain rfl := g4 f4
        go_simp
        exact hK _ _ ⟨_, _, _, _, _, _, _, _, _, _, _, _, _, _, _, _, _, rfl, hF.pre (.inl (by decide)), fun f => g0 (fl_set f (by decide)), fun f => g1 (fl_set f (by decide)), fun f => g2 (fl_set f (by decide)), fun f => g3 (fl_set f (by decide)), fun f => g4 (fl_set f (by decide)), fun _ => rfl, fun f => g6 (fl_set f (by decide)), fun f => g7 (fl_set f (by decide)), fun f => g8 (fl_set f (by decide)), fun f => ⟨(h4 (fl_set f (by decide))).1, fl_keep (h4 (fl_set f (by decide))).2 _⟩⟩
      · cases ho
        have f5 : fl l 5 := h2 ⟨5, .data⟩ (by simp) rfl
        obtain rfl := g5 f5
        go_simp
        exact hK _ _ ⟨_, _, _, _, _, _, _, _, _, _, _, _, _, _, _, _, _, rfl, hF.pre (.inl (by decide)), fun f => g0 (fl_set f (by decide)), fun f => g1 (fl_set f (by decide)), fun f => g2 (fl_set f (by decide)), fun f => g3 (fl_set f (by decide)), fun f => g4 (fl_set f (by decide)), fun f => g5 (fl_set f (by decide)), fun _ => rfl, fun f => g7 (fl_set f (by decide)), fun f => g8 (fl_set f (by decide)), fun f => ⟨(h4 (fl_set f (by decide))).1, fl_keep (h4 (fl_set f (by decide))).2 _⟩⟩
      · cases ho
        have f6 : fl l 6 := h2 ⟨6, .data⟩ (by simp) rfl
        obtain rfl := g6 f6
        go_simp
        exact hK _ _ ⟨_, _, _, _, _, _, _, _, _, _, _, _, _, _, _, _, _, rfl, hF.pre (.inl (by decide)), fun f => g0 (fl_set f (by decide)), fun f => g1 (fl_set f (by decide)), fun f => g2 (fl_set f (by decide)), fun f => g3 (fl_set f (by decide)), fun f => g4 (fl_set f (by decide)), fun f => g5 (fl_set f (by decide)), fun f => g6 (fl_set f (by decide)), fun _ => rfl, fun f => g8 (fl_set f (by decide)), fun f => ⟨(h4 (fl_set f (by decide))).1, fl_keep (h4 (fl_set f (by decide))).2 _⟩⟩
      · cases ho
        go_simp
        exact hK _ _ ⟨_, _, _, _, _, _, _, _, _, _, _, _, _, _, _, _, _, rfl, hF.pre (.inl (by decide)), fun f => g0 (fl_set f (by decide)), fun f => g1 (fl_set f (by decide)), fun f => g2 (fl_set f (by decide)), fun f => g3 (fl_set f (by decide)), fun f => g4 (fl_set f (by decide)), fun f => g5 (fl_set f (by decide)), fun f => g6 (fl_set f (by decide)), fun f => g7 (fl_set f (by decide)), fun _ => rfl, fun f => ⟨(h4 (fl_set f (by decide))).1, fl_keep (h4 (fl_set f (by decide))).2 _⟩⟩
      · cases ho
        have f3 : fl l 3 := h2 ⟨3, .data⟩ (by simp) rfl
        have f7 : fl l 7 := h2 ⟨7, .data⟩ (by simp) rfl
        have f8 : fl l 8 := h2 ⟨8, .data⟩ (by simp) rfl
        obtain rfl := g3 f3
        obtain rfl := g7 f7
        obtain rfl := g8 f8
        go_simp
        go_at_call 29
        refine (HA.out _ _ (HI.out.below hF.below)).mono ?_
        rintro e w' ⟨v', rfl, hdv, hb⟩
        exact hK _ _ ⟨_, _, _, _, _, _, _, _, _, _, _, _, _, _, _, _, _, rfl, hF.call h1 hb hdv, fun f => g0 (fl_set f (by decide)), fun f => g1 (fl_set f (by decide)), fun f => g2 (fl_set f (by decide)), fun f => g3 (fl_set f (by decide)), fun f => g4 (fl_set f (by decide)), fun f => g5 (fl_set f (by decide)), fun f => g6 (fl_set f (by decide)), fun f => g7 (fl_set f (by decide)), fun f => g8 (fl_set f (by decide)), fun f => ⟨(h4 (fl_set f (by decide))).1, fl_keep (h4 (fl_set f (by decide))).2 _⟩⟩
      · cases ho
        have f9 : fl l 9 := h2 ⟨9, .data⟩ (by simp) rfl
        go_simp
        exact hK _ _ ⟨_, _, _, _, _, _, _, _, _, _, _, _, _, _, _, _, _, rfl, hF.move f9, fun f => g0 (fl_set f (by decide)), fun f => g1 (fl_set f (by decide)), fun f => g2 (fl_set f (by decide)), fun f => g3 (fl_set f (by decide)), fun f => g4 (fl_set f (by decide)), fun f => g5 (fl_set f (by decide)), fun f => g6 (fl_set f (by decide)), fun f => g7 (fl_set f (by decide)), fun f => g8 (fl_set f (by decide)), fun f => ⟨(h4 (fl_set f (by decide))).1, fl_keep (h4 (fl_set f (by decide))).2 _⟩⟩
      · cases ho
        have f10 : fl l 10 := h2 ⟨10, .data⟩ (by simp) rfl
        obtain ⟨y, rfl, hy, rfl⟩ := hF.moved f10
        go_simp
        exact hK _ _ ⟨_, _, _, _, _, _, _, _, _, _, _, _, _, _, _, _, _, rfl, hF.ex0 h1 f10 rfl, fun f => g0 (fl_set f (by decide)), fun f => g1 (fl_set f (by decide)), fun f => g2 (fl_set f (by decide)), fun f => g3 (fl_set f (by decide)), fun f => g4 (fl_set f (by decide)), fun f => g5 (fl_set f (by decide)), fun f => g6 (fl_set f (by decide)), fun f => g7 (fl_set f (by decide)), fun f => g8 (fl_set f (by decide)), fun f => ⟨(h4 (fl_set f (by decide))).1, fl_keep (h4 (fl_set f (by decide))).2 _⟩⟩
      · cases ho
        have f10 : fl l 10 := h2 ⟨10, .data⟩ (by simp) rfl
        obtain ⟨y, rfl, hy, rfl⟩ := hF.moved f10
        go_simp
        exact hK _ _ ⟨_, _, _, _, _, _, _, _, _, _, _, _, _, _, _, _, _, rfl, hF.ex1 f10, fun f => g0 (fl_set f (by decide)), fun f => g1 (fl_set f (by decide)), fun f => g2 (fl_set f (by decide)), fun f => g3 (fl_set f (by decide)), fun f => g4 (fl_set f (by decide)), fun f => g5 (fl_set f (by decide)), fun f => g6 (fl_set f (by decide)), fun f => g7 (fl_set f (by decide)), fun f => g8 (fl_set f (by decide)), fun f => ⟨(h4 (fl_set f (by decide))).1, fl_keep (h4 (fl_set f (by decide))).2 _⟩⟩
      · cases ho
        have f10 : fl l 10 := h2 ⟨10, .data⟩ (by simp) rfl
        obtain ⟨y, rfl, hy, rfl⟩ := hF.moved f10
        go_simp
        exact hK _ _ ⟨_, _, _, _, _, _, _, _, _, _, _, _, _, _, _, _, _, rfl, hF.ex2 f10, fun f => g0 (fl_set f (by decide)), fun f => g1 (fl_set f (by decide)), fun f => g2 (fl_set f (by decide)), fun f => g3 (fl_set f (by decide)), fun f => g4 (fl_set f (by decide)), fun f => g5 (fl_set f (by decide)), fun f => g6 (fl_set f (by decide)), fun f => g7 (fl_set f (by decide)), fun f => g8 (fl_set f (by decide)), fun f => absurd (h4 (fl_set f (by decide))).2 (fl_not h1)⟩
      · cases ho
        go_simp
        exact hK _ _ ⟨_, _, _, _, _, _, _, _, _, _, _, _, _, _, _, _, _, rfl, hF.boxa h1, fun f => g0 (fl_set f (by decide)), fun f => g1 (fl_set f (by decide)), fun f => g2 (fl_set f (by decide)), fun f => g3 (fl_set f (by decide)), fun f => g4 (fl_set f (by decide)), fun f => g5 (fl_set f (by decide)), fun f => g6 (fl_set f (by decide)), fun f => g7 (fl_set f (by decide)), fun f => g8 (fl_set f (by decide)), fun f => ⟨(h4 (fl_set f (by decide))).1, fl_keep (h4 (fl_set f (by decide))).2 _⟩⟩
      · cases ho
        go_simp
        exact hK _ _ ⟨_, _, _, _, _, _, _, _, _, _, _, _, _, _, _, _, _, rfl, hF.boxb h1, fun f => g0 (fl_set f (by decide)), fun f => g1 (fl_set f (by decide)), fun f => g2 (fl_set f (by decide)), fun f => g3 (fl_set f (by decide)), fun f => g4 (fl_set f (by decide)), fun f => g5 (fl_set f (by decide)), fun f => g6 (fl_set f (by decide)), fun f => g7 (fl_set f (by decide)), fun f => g8 (fl_set f (by decide)), fun f => ⟨(h4 (fl_set f (by decide))).1, fl_keep (h4 (fl_set f (by decide))).2 _⟩⟩
      · cases ho
        have f14 : fl l 14 := h2 ⟨14, .data⟩ (by simp) rfl
        have f11 : fl l 11 := h2 ⟨11, .data⟩ (by simp) rfl
        obtain ⟨b, u, rfl, hB, hHo, _⟩ := hF.fa f14
        have hHo2 := hHo
        obtain ⟨_, _, _, _, _, _, _, _, _, hH⟩ := hHo
        obtain ⟨y, hxc, hy, h3⟩ := hF.fc (hF.fm (hF.f0 f11)).1
        clear hxc
        obtain rfl := h3 f11
        obtain ⟨u1, m1, t1, u2, m2, t2, fu, of, rfl, _⟩ := hy
        obtain ⟨y0, y1, y2, y3, y4, y5, y6, y7⟩ := hH.four
        unfold drvVal
        go_simp
        exact hK _ _ ⟨_, _, _, _, _, _, _, _, _, _, _, _, _, _, _, _, _, rfl, hF.sta f14 f11 rfl u1 m1 t1 u2 m2 t2 fu of rfl, fun f => g0 (fl_set f (by decide)), fun f => g1 (fl_set f (by decide)), fun f => g2 (fl_set f (by decide)), fun f => g3 (fl_set f (by decide)), fun f => g4 (fl_set f (by decide)), fun f => g5 (fl_set f (by decide)), fun f => g6 (fl_set f (by decide)), fun f => g7 (fl_set f (by decide)), fun f => g8 (fl_set f (by decide)), fun f => ⟨(h4 (fl_set f (by decide))).1, fl_keep (h4 (fl_set f (by decide))).2 _⟩⟩
      · cases ho
        have f15 : fl l 15 := h2 ⟨15, .data⟩ (by simp) rfl
        have f12 : fl l 12 := h2 ⟨12, .data⟩ (by simp) rfl
        obtain ⟨b, u, rfl, hB, hH, _⟩ := hF.fb f15
        obtain ⟨e5, _⟩ := hF.f1 f12
        subst e5
        have hH2 := hH
        unfold tpCells at hH
        obtain ⟨y0, y1, y2, y3, y4, y5, y6, y7⟩ := hH.four
        unfold tpVal
        go_simp
        exact hK _ _ ⟨_, _, _, _, _, _, _, _, _, _, _, _, _, _, _, _, _, rfl, hF.stb f15 rfl, fun f => g0 (fl_set f (by decide)), fun f => g1 (fl_set f (by decide)), fun f => g2 (fl_set f (by decide)), fun f => g3 (fl_set f (by decide)), fun f => g4 (fl_set f (by decide)), fun f => g5 (fl_set f (by decide)), fun f => g6 (fl_set f (by decide)), fun f => g7 (fl_set f (by decide)), fun f => g8 (fl_set f (by decide)), fun f => ⟨(h4 (fl_set f (by decide))).1, fl_keep (h4 (fl_set f (by decide))).2 _⟩⟩
      · cases ho
        have f13 : fl l 13 := h2 ⟨13, .data⟩ (by simp) rfl
        go_simp
        exact hK _ _ ⟨_, _, _, _, _, _, _, _, _, _, _, _, _, _, _, _, _, rfl, hF.pre (.inr rfl), fun f => g0 (fl_set f (by decide)), fun f => g1 (fl_set f (by decide)), fun f => g2 (fl_set f (by decide)), fun f => g3 (fl_set f (by decide)), fun f => g4 (fl_set f (by decide)), fun f => g5 (fl_set f (by decide)), fun f => g6 (fl_set f (by decide)), fun f => g7 (fl_set f (by decide)), fun f => g8 (fl_set f (by decide)), fun _ => ⟨rfl, fl_keep f13 _⟩⟩
    · intro l aa w3 hI hall
      obtain ⟨x5, x6, x7, x13, x14, x15, x16, x17, x18, x19, x20, x21, x22, x23, x24, x25, x26, rfl, hF, g0, g1, g2, g3, g4, g5, g6, g7, g8, h4⟩ := hI
      obtain ⟨b, v, c, rfl, rfl, rfl, hb1, hc1, hH, hdv, hT, hcb, hbw⟩ := hF.done hall
      obtain rfl := (h4 (fl_all hall hF.size (by decide))).1
      dsimp only
      go_wp2_with fail
      go_meet
      exact ⟨b, c, v, rfl, rfl, rfl, hH, hdv, hT, hcb, hb1, hc1, hbw⟩
  case rest =>
    obtain ⟨wx, rfl⟩ : ∃ wx, wx = wc := ⟨_, rfl⟩
    obtain ⟨b5, b6, v5, rfl, rfl, rfl, hH5, hd5, hT6, hne65, hb5, hb6, hbx⟩ := hcut
    clear HA HI p0 p1 p2 p3 p4 p5 p6 p7 p8 p9 q0 q1 q2 q3 q4 q5
    have K1 := hK0.next hbx
    rcases HRES.out with ⟨rfl, cs', rfl, hT, hon⟩ | hE
    · obtain ⟨u1, r1, e1, u2, r2, e2, fy, oy, rfl, H5⟩ := hH5
      have hfy := hd5
      obtain ⟨_, _, _, _, _, _, _, _, hfe, hfd⟩ := hfy
      unfold drvVal at hfe
      injection hfe with hfe
      have hfl := congrArg Array.toList hfe
      simp only [List.cons.injEq, Value.slice.injEq, Value.int.injEq, Value.bool.injEq, and_true, true_and] at hfl
      obtain ⟨⟨rfl, rfl, rfl⟩, ⟨rfl, rfl, rfl⟩, rfl, rfl⟩ := hfl
      obtain rfl := hfd.fuel_eq
      obtain rfl := hfd.off_eq
      have HD := hide hd5
      have HT := hide hT
      have HON := hide hon
      have hcl : 2 ≤ cs'.length := by have := hon.bound; omega
      unfold tpCells at hT6
      obtain ⟨p0, p1, p2, p3, p4, p5, p6, p7⟩ := H5.four
      obtain ⟨q0, q1, q2, q3, q4, q5, q6, q7⟩ := hT6.four
      simp only at q0 q1 q2 q3
      have m6 : wx.cell? ⟨b, 6, none⟩ = some (.slice a1 n1 c1) := K1.cell 6
      have m7 : wx.cell? ⟨b, 7, none⟩ = some (.slice a2 n2 c2) := K1.cell 7
      have m8 : wx.cell? ⟨b, 8, none⟩ = some (.int .i64 (-1)) := K1.cell 8
      have m9 : wx.cell? ⟨b, 9, none⟩ = some (.bool false) := K1.cell 9
      have m10 : wx.cell? ⟨b, 10, none⟩ = some (.int .i64 f1) := K1.cell 10
      have m11 : wx.cell? ⟨b, 11, none⟩ = some (.int .i64 f2) := K1.cell 11
      have m12 : wx.cell? ⟨b, 12, none⟩ = some (.int .i64 f3) := K1.cell 12
      have m13 : wx.cell? ⟨b, 13, none⟩ = some (.int .i64 f4) := K1.cell 13
      obtain ⟨_, ⟨z6, z7, z8, z9⟩, ⟨z10, z11, z12, z13⟩, _⟩ := kp_free K1
      have hn5 : b ≠ b5 := by omega
      have hn6 : b ≠ b6 := by omega
      have hn5' : b5 ≠ b := by omega
      have hn6' : b6 ≠ b := by omega
      clear HRES hd5 hfd hfe hT hon
      go_upto_region 8 with fail
      go_region_held3 (fun w' => w'.cell? ⟨b5, 0, none⟩ = some (.slice u1 r1 e1) ∧ w'.cell? ⟨b5, 1, none⟩ = some (.slice u2 r2 e2) ∧ w'.cell? ⟨b5, 2, none⟩ = some (.int .i64 (-1)) ∧ w'.cell? ⟨b5, 3, none⟩ = some (.bool false) ∧ w'.cell? ⟨b6, 0, none⟩ = some (.int .i64 t1) ∧ w'.cell? ⟨b6, 1, none⟩ = some (.int .i64 t2) ∧ w'.cell? ⟨b6, 2, none⟩ = some (.int .i64 t3) ∧ w'.cell? ⟨b6, 3, none⟩ = some (.int .i64 t4)) (go_keep) (fail)
      all_goals
        obtain ⟨W5, hW5⟩ : ∃ z, ((((((((wx.setCell ⟨b, 6, none⟩ (.slice u1 r1 e1)).setCell ⟨b, 7, none⟩ (.slice u2 r2 e2)).setCell ⟨b, 8, none⟩ (.int .i64 (-1))).setCell ⟨b, 9, none⟩ (.bool false)).setCell ⟨b, 10, none⟩ (.int .i64 t1)).setCell ⟨b, 11, none⟩ (.int .i64 t2)).setCell ⟨b, 12, none⟩ (.int .i64 t3)).setCell ⟨b, 13, none⟩ (.int .i64 t4)).drew = z := ⟨_, rfl⟩
        have hg5 : wx.grownBy W5 (some b) := by
          rw [← hW5]
          exact grown_trans (grown_set (grown_set (grown_set (grown_set (grown_set (grown_set (grown_set (grown_setCell wx b _ _) _ _) _ _) _ _) _ _) _ _) _ _) _ _) (below_row (Below.drewed (Below.refl _ _)) _)
        have K5 : Blk W5 b [.int .i64 (m.gen : Int), .int .i64 (m.half : Int), .int .i64 (m.serial : Int), .int .i64 (m.size : Int), .int .i64 (h.log : Int), .int .i64 (h.text : Int), .slice u1 r1 e1, .slice u2 r2 e2, .int .i64 (-1), .bool false, .int .i64 t1, .int .i64 t2, .int .i64 t3, .int .i64 t4, .string xv, .slice ao rl.length c] 66 := by
          rw [← hW5]
          exact blk_drew ((((((((K1.set 6 _).set 7 _).set 8 _).set 9 _).set 10 _).set 11 _).set 12 _).set 13 _)
        have hNP1 : NoPair [.int .i64 (m.gen : Int), .int .i64 (m.half : Int), .int .i64 (m.serial : Int), .int .i64 (m.size : Int), .int .i64 (h.log : Int), .int .i64 (h.text : Int), .slice a1 n1 c1, .slice a2 n2 c2, .int .i64 (-1), .bool false, .int .i64 f1, .int .i64 f2, .int .i64 f3, .int .i64 f4, .string xv, .slice ao rl.length c] := kp_noPair (h := h) (m := m) (a1 := a1) (n1 := n1) (c1 := c1) (a2 := a2) (n2 := n2) (c2 := c2) (t := ⟨f1, f2, f3, f4⟩) (s := xv) (ao := ao) (n := rl.length) (c := c)
        have hNP5 : Hid (NoPair [.int .i64 (m.gen : Int), .int .i64 (m.half : Int), .int .i64 (m.serial : Int), .int .i64 (m.size : Int), .int .i64 (h.log : Int), .int .i64 (h.text : Int), .slice u1 r1 e1, .slice u2 r2 e2, .int .i64 (-1), .bool false, .int .i64 t1, .int .i64 t2, .int .i64 t3, .int .i64 t4, .string xv, .slice ao rl.length c]) := hide (kp_noPair (h := h) (m := m) (a1 := u1) (n1 := r1) (c1 := e1) (a2 := u2) (n2 := r2) (c2 := e2) (t := ⟨t1, t2, t3, t4⟩) (s := xv) (ao := ao) (n := rl.length) (c := c))
        have HD5 := hide (IsDrive.grownK HD.out hcl K1 hNP1 hg5)
        have HO5 := hide (OwnZ.kept (OwnZ.below HOW.out hbx) hg5 (.inr (own_type (OwnZ.below HOW.out hbx) K1 (by decide))))
        have hgs := grown_trans (below_row hbx (some b)) hg5
        have hsz5 := hgs.size
        rw [hW5]
        clear hW5 hg5 hNP1 HD p0 p1 p2 p3 p4 p5 p6 p7 q0 q1 q2 q3 q4 q5 q6 q7 z6 z7 z8 z9 z10 z11 z12 z13 m6 m7 m8 m9 m10 m11 m12 m13 H5 hT6 K1 hK0
        have m15 : W5.cell? ⟨b, 15, none⟩ = some (.slice ao rl.length c) := K5.cell 15
        have hnb := Blk.new W5 [.string sv] 9
        have hal : Below W5.heap.size W5 (W5.alloc (.cells #[.string sv] 9)) := (Below.refl _ _).alloc (Nat.le_refl _) _
        have hl5 := K5.lt
        go_wp2_with (at_builtin; refine wpList_appS rfl (.tmp 48) (.tmp 50) rfl base (.slice ao rl.length c) rl rfl (OwnZ.below HO5.out hal) _ 1 1 [s] rfl rfl (by show Row _ _ [Value.string (bs s)]; rw [HSV.out]; exact row_of_blk hnb) (by omega) (by simp; omega) ?_)
        intro v9 w9 hown9 hg9 hk9 hob9
        have hal9 : Below W5.heap.size W5 (W5.alloc (.cells #[.string sv] 9)) := hal
        have hnr : some b ≠ (Value.slice ao rl.length c).ownBlock := fun e => own_type HO5.out K5 (by decide) e.symm
        have hbl := HO5.out.1.lt
        have K8 : Blk w9 b [.int .i64 (m.gen : Int), .int .i64 (m.half : Int), .int .i64 (m.serial : Int), .int .i64 (m.size : Int), .int .i64 (h.log : Int), .int .i64 (h.text : Int), .slice u1 r1 e1, .slice u2 r2 e2, .int .i64 (-1), .bool false, .int .i64 t1, .int .i64 t2, .int .i64 t3, .int .i64 t4, .string xv, .slice ao rl.length c] 66 := (K5.next hal).grown hg9 hnr
        have hk64 : Keeps64 W5 w9 := fun b' j c' hc hb' => hk9 b' j c' hc ((Step.below hal).k64 b' j c' hc hb')
        have hg59 : W5.grownBy w9 (Value.slice ao rl.length c).ownBlock := grown_trans (below_row hal _) hg9
        have HD9 := hide (HD5.out.keeps64 hk64 HON.out.cell rfl)
        have hob : v9.ownBlock = (Value.slice ao rl.length c).ownBlock ∨ ∃ g, v9.ownBlock = some g ∧ w0.heap.size ≤ g := by
          rcases hob9 with h | h
          · exact .inl h
          · exact .inr ⟨_, h, Nat.le_succ_of_le hsz5⟩
        have m8 : w9.cell? ⟨b, 15, none⟩ = some (.slice ao rl.length c) := K8.cell 15
        have z8 : w9.frozen? ⟨b, 15, none⟩ = false := K8.free 15
        obtain ⟨a9, c9, rfl, _, _, _⟩ := hown9.form
        have hlnn : (rl ++ [s]).length = rl.length + 1 := by simp
        have HO9 : Hid (OwnS w9 base (.slice a9 (rl.length + 1) c9) (rl ++ [s])) := hide (by rw [← hlnn]; exact hown9)
        have HOB : Hid ((Value.slice a9 (rl.length + 1) c9).ownBlock = (Value.slice ao rl.length c).ownBlock ∨ ∃ g, (Value.slice a9 (rl.length + 1) c9).ownBlock = some g ∧ w0.heap.size ≤ g) := hide (by rw [← hlnn]; exact hob)
        clear hlnn hob
        have hgx : w9.grownBy (w9.setCell ⟨b, 15, none⟩ (.slice a9 (rl.length + 1) c9)) (some b) := grown_setCell _ _ _ _
        obtain ⟨W6, hW6⟩ : ∃ z, w9.setCell ⟨b, 15, none⟩ (.slice a9 (rl.length + 1) c9) = z := ⟨_, rfl⟩
        rw [hW6] at hgx
        have K9 : Hid (Blk W6 b [.int .i64 (m.gen : Int), .int .i64 (m.half : Int), .int .i64 (m.serial : Int), .int .i64 (m.size : Int), .int .i64 (h.log : Int), .int .i64 (h.text : Int), .slice u1 r1 e1, .slice u2 r2 e2, .int .i64 (-1), .bool false, .int .i64 t1, .int .i64 t2, .int .i64 t3, .int .i64 t4, .string xv, .slice a9 (rl.length + 1) c9] 66) := hide (by rw [← hW6]; exact K8.set 15 _)
        have HD10 := hide (IsDrive.grownK HD9.out hcl K8 hNP5.out hgx)
        have HO10 := hide (OwnZ.kept HO9.out hgx (.inr (own_type HO9.out K8 (by decide))))
        have HW6 := hide hW6
        clear hown9 hg9 hk9 hob9 hnr hW6 hnb HD9 HO9
        go_wp2_with fail
        rw [HW6.out]
        go_wp2_with fail
        go_ret
        have hti := HT.out
        refine ⟨rfl, .inl ⟨rfl, .slice a9 (rl.length + 1) c9, cs', ⟨⟨u1, r1, e1, u2, r2, e2, ?_, HD10.out⟩, HO10.out, HON.out⟩, HOB.out, W5, w9, hgs, hg59, hk64, hgx⟩⟩
        rw [← hti, HXV.out]
        exact K9.out
    · have hE0 : E1 ≠ 0 := by omega
      have d1 : (E1 == 10) = false := by rw [beq_eq_false_iff_ne]; omega
      have d2 : (E1 != 0) = true := by rw [bne_iff_ne]; exact hE0
      clear HRES hE
      go_wp2_with fail
      go_ret
      exact ⟨rfl, .inr ⟨hE0, hbx⟩⟩

end Go.Proofs.YtogonkoeginoaaaGreatDoor

namespace Go.Proofs.YtogonkoeginoaaaGreatDoor
open Go.RowKit

/-- What few makes of a text. -/
def few19 (l : List UInt8) : List UInt8 := if 700 < l.length ∧ l.length ≤ 4000 then l.take 700 else if 4001 < l.length then l.take 4001 else l
theorem few19_length (l : List UInt8) : (few19 l).length ≤ 4001 := by
  unfold few19
  split
  · rw [List.length_take]; omega
  · split
    · rw [List.length_take]; omega
    · omega


theorem still_crash {cs : List (List UInt8)} (hm : (⟨cs, [], -1, false⟩ : Drv).May) (kept : Nat) (tn cut : Int) : Drv.crash ⟨cs, [], -1, false⟩ kept tn cut = ⟨cs, [], -1, false⟩ := by
  unfold Drv.crash
  rw [mayB_yes hm]
  rfl
theorem crash_still (v : Value) (cs : List (List UInt8)) (kept : Nat) (tn cut : Int) (w : World) (h : IsDrive w v ⟨cs, [], -1, false⟩) (hm : (⟨cs, [], -1, false⟩ : Drv).May) (hk : kept < 18446744073709551616) (ht : -9223372036854775808 ≤ tn ∧ tn < 9223372036854775808) (hcut : -9223372036854775808 ≤ cut ∧ cut < 9223372036854775808) :
    Calls Tryz.prog 11 #[v, .agg #[.int .u64 kept, .int .i64 tn, .int .i64 cut]] w fun e w' => ∃ v', e = .returned v' ∧ IsDrive w' v' ⟨cs, [], -1, false⟩ ∧ Below w.heap.size w w' := by
  have := crash_any v _ kept tn cut w h hk ht hcut
  rw [still_crash hm] at this
  exact this

/-- What the statements are about. -/
def halvesOf (n : Nat) : Hv := ⟨6 + n % 8, 2 + n / 8 % 8⟩
theorem halves_ok (n : Nat) : (halvesOf n).Ok := by unfold halvesOf Hv.Ok; simp only; omega

end Go.Proofs.YtogonkoeginoaaaGreatDoor

namespace Go.Proofs.YtogonkoeginoaaaGreatDoor
open Go.RowKit

/-- The tape behind a Keep's records, as numbers. -/
theorem kpTape_eq (h : Hv) (m : Hd) (l : List (List UInt8)) : kpTape h m l = ⟨(logAt h m.half : Nat), (h.log : Nat), (span l : Nat), ((m.serial + l.length : Nat) : Int)⟩ := rfl


/-- What Add answers. -/
def addErr (h : Hv) (l : List (List UInt8)) (s : List UInt8) : Int := if 4000 < s.length then 1 else if span l + kOf s.length ≤ h.log then 0 else 6
section
variable {w0 w1 w2 w' : World} {b base : Nat} {v : Value} {h : Hv} {m : Hd} {cs : List (List UInt8)} {text : List UInt8} {l : List (List UInt8)} {s : List UInt8}
theorem addErr_zero (e : addErr h l s = 0) : s.length ≤ 4000 ∧ span l + kOf s.length ≤ h.log := by
  unfold addErr at e
  split at e
  · omega
  · split at e
    · omega
    · omega
theorem addErr_cases : addErr h l s = 0 ∨ addErr h l s = 6 ∨ addErr h l s = 1 := by
  unfold addErr
  split
  · exact .inr (.inr rfl)
  · split
    · exact .inl rfl
    · exact .inr (.inl rfl)
theorem kadd_say (b base : Nat) (v : Value) (h : Hv) (m : Hd) (cs : List (List UInt8)) (text : List UInt8) (l : List (List UInt8)) (s : List UInt8) (w : World) (k : KpAt w b base v h m cs text l) (hs : s.length ≤ 10000) (hn : m.serial + l.length ≤ 16777215) (hbase : base ≤ w.heap.size) :
    Calls Tryz.prog 8 #[.pointer (some ⟨b, 0, none⟩), .string (bs s)] w fun e w' => e = .returned (.int .i64 (addErr h l s)) ∧ AddDone w w' b base v h m text l s (addErr h l s) := by
  by_cases h1 : 4000 < s.length
  · have e : addErr h l s = 1 := by unfold addErr; rw [if_pos h1]
    rw [e]
    exact kadd_any b base v h m cs text l s w _ _ 1 k hs hn hbase (addArg _ _ s h1) (.inr (.inr rfl))
  · by_cases h2 : span l + kOf s.length ≤ h.log
    · have e : addErr h l s = 0 := by unfold addErr; rw [if_neg h1, if_pos h2]
      rw [e]
      obtain ⟨cs', e1, e2⟩ := k.on.add s (by omega) h2 hn
      exact kadd_any b base v h m cs text l s w _ _ 0 k hs hn hbase e1 (.inl ⟨rfl, cs', rfl, rfl, e2⟩)
    · have e : addErr h l s = 6 := by unfold addErr; rw [if_neg h1, if_neg h2]
      rw [e]
      exact kadd_any b base v h m cs text l s w _ _ 6 k hs hn hbase (k.on.addFull s (by omega) h2 hn) (.inr (.inl rfl))

/-- Its own block lies at or behind base. -/
theorem KpAt.ownBase (k : KpAt w0 b base v h m cs text l) {g : Nat} (hg : v.ownBlock = some g) : base ≤ g := (k.own.1.lt g hg).1
theorem KpAt.ownLt (k : KpAt w0 b base v h m cs text l) {g : Nat} (hg : v.ownBlock = some g) : g < w0.heap.size := (k.own.1.lt g hg).2
/-- What an Add leaves below. -/
theorem AddDone.low {E : Int} (d : AddDone w0 w' b base v h m text l s E) (k : KpAt w0 b base v h m cs text l) {lo : Nat} (h1 : lo ≤ b) (h2 : lo ≤ base) (h3 : lo ≤ w0.heap.size) : Below lo w0 w' := by
  rcases d with ⟨_, v', cs', _, _, a1, a2, g1, g2, _, g3⟩ | ⟨_, hb⟩
  · have s1 := g1.size
    have s2 := g2.size
    exact (((Below.refl lo w0).grown g1 h3 (fun k hk => by injection hk with hk; omega)).grown g2 (by omega) (fun g hg => Nat.le_trans h2 (k.ownBase hg))).grown g3 (by omega) (fun k hk => by injection hk with hk; omega)
  · exact hb.mono h3
/-- Another Keep. -/
theorem KpAt.three {b2 base2 : Nat} {v2 : Value} {h2 : Hv} {m2 : Hd} {cs2 : List (List UInt8)} {t2 : List UInt8} {l2 : List (List UInt8)} {vs : List Value} {row : Option Nat} (k : KpAt w0 b2 base2 v2 h2 m2 cs2 t2 l2) (hB : Blk w0 b vs 66) (hp : NoPair vs) (hne : b2 ≠ b) (hr : some b2 ≠ row) (hv : v2.ownBlock = none ∨ v2.ownBlock ≠ row) (g1 : w0.grownBy w1 (some b)) (g2 : w1.grownBy w2 row) (k64 : Keeps64 w1 w2) (g3 : w2.grownBy w' (some b)) : KpAt w' b2 base2 v2 h2 m2 cs2 t2 l2 := by
  have hb2 := k.on.bound
  have hc := k.on.cell
  have hnb : some b2 ≠ some b := fun e => hne (by injection e)
  obtain ⟨⟨a1, n1, c1, a2, n2, c2, q1, hd⟩, q3, q4⟩ := k
  have hob : v2.ownBlock = none ∨ v2.ownBlock ≠ some b := .inr (own_type q3 hB (by decide))
  refine ⟨⟨a1, n1, c1, a2, n2, c2, ((q1.grown g1 hnb).grown g2 hr).grown g3 hnb, ?_⟩, ((OwnZ.kept q3 g1 hob).kept g2 hv).kept g3 hob, q4⟩
  obtain ⟨x1, y1, z1, x2, y2, z2, fu, of, e, hd⟩ := hd
  refine ⟨x1, y1, z1, x2, y2, z2, fu, of, e, ⟨⟨hd.cells.len, ?_⟩, ⟨hd.queue.len, hd.queue.range, .inl rfl⟩, hd.room1, hd.room2, hd.fuel_eq, hd.off_eq, hd.range⟩⟩
  rcases hd.cells.row with h0 | ⟨b', off, e', hcc⟩
  · exact .inl h0
  · have hne2 := row2_ne hcc (by show 2 ≤ cs2.length; omega) hB hp
    have hn3 : some b' ≠ some b := fun e => hne2 (by injection e)
    refine .inr ⟨b', off, e', fun j u hj => ?_⟩
    obtain ⟨x, hx, hu⟩ := List.mem_map.1 (List.mem_of_getElem? hj)
    have c1 := g1.cell (hcc j u hj) hn3
    rw [← hu] at c1
    have c2 := k64 _ _ x (hc x hx) c1
    rw [← hu]
    exact g3.cell c2 hn3
theorem AddDone.other {E : Int} {b2 base2 : Nat} {v2 : Value} {h2 : Hv} {m2 : Hd} {cs2 : List (List UInt8)} {t2 : List UInt8} {l2 : List (List UInt8)} (d : AddDone w0 w' b base v h m text l s E) (k : KpAt w0 b base v h m cs text l) (k2 : KpAt w0 b2 base2 v2 h2 m2 cs2 t2 l2) (hne : b2 ≠ b) (hv : v2.ownBlock = none ∨ v2.ownBlock ≠ v.ownBlock) : KpAt w' b2 base2 v2 h2 m2 cs2 t2 l2 := by
  rcases d with ⟨_, v', cs', _, _, a1, a2, g1, g2, k64, g3⟩ | ⟨_, hb⟩
  · obtain ⟨vs, hB, hp⟩ := k.block
    obtain ⟨vs2, hB2, _⟩ := k2.block
    exact k2.three hB hp hne (fun e => own_type k.own hB2 (by decide) e.symm) hv g1 g2 k64 g3
  · exact k2.next hb
/-- Both Keeps are added to. -/
theorem add_two {ba bb B : Nat} {va vb : Value} {csa csb : List (List UInt8)} {E : Int} (d1 : AddDone w0 w1 ba B va h m text l s E) (d2 : AddDone w1 w2 bb B vb h m text l s E) (ka : KpAt w0 ba B va h m csa text l) (kb : KpAt w0 bb B vb h m csb text l) (hne : bb ≠ ba) (hv : vb.ownBlock = none ∨ vb.ownBlock ≠ va.ownBlock) (hB : B ≤ ba) (hB2 : B ≤ bb) (hB3 : B ≤ w0.heap.size) :
    ∃ va' vb' csa' csb' l', l'.length ≤ l.length + 1 ∧ KpAt w2 ba B va' h m csa' text l' ∧ KpAt w2 bb B vb' h m csb' text l' ∧ Below B w0 w2 := by
  have kb1 := d1.other ka kb hne hv
  have lo1 := d1.low ka hB (Nat.le_refl _) hB3
  have lo2 := d2.low kb1 hB2 (Nat.le_refl _) (Nat.le_trans hB3 lo1.size)
  rcases d1 with ⟨e, va', csa', ka1, own, _⟩ | ⟨e, b1⟩
  · have hv' : va'.ownBlock = none ∨ va'.ownBlock ≠ vb.ownBlock := by
      cases hvb : vb.ownBlock with
      | none => cases va'.ownBlock with
        | none => exact .inl rfl
        | some g => exact .inr (by simp)
      | some g' =>
        have hlt := kb.ownLt hvb
        rcases own with own | ⟨g, hg, hle⟩
        · rcases hv with hv | hv
          · rw [hvb] at hv; cases hv
          · rw [own, ← hvb]; exact .inr (fun e => hv e.symm)
        · rw [hg]; exact .inr (fun e => by injection e with e; omega)
    have ka2 := d2.other kb1 ka1 hne.symm hv'
    rcases d2 with ⟨_, vb', csb', kb2, _⟩ | ⟨e2, _⟩
    · exact ⟨va', vb', csa', csb', l ++ [s], by simp, ka2, kb2, lo1.trans lo2⟩
    · exact absurd e e2
  · rcases d2 with ⟨e2, _⟩ | ⟨_, b2⟩
    · exact absurd e2 e
    · exact ⟨va, vb, csa, csb, l, by omega, (ka.next b1).next b2, kb1.next b2, lo1.trans lo2⟩
/-- A lesser base. -/
theorem KpAt.lower (k : KpAt w0 b base v h m cs text l) {lo : Nat} (hb : lo ≤ base) : KpAt w0 b lo v h m cs text l := ⟨k.blk, OwnZ.base k.own hb, k.on⟩
end

end Go.Proofs.YtogonkoeginoaaaGreatDoor
