/-
  name.Meets at one glob and one topic: the walk of worksFirst's part. Glob at 'a.**', Topic at 'a.b', and strings.Split at both. name.Meets at 'a.**' and 'a.b'. worksFirst: what it asks of the other packages is as it asks.
-/
import Derived.Test.YtogonkoeginoaaaGreatDoorEvA
import Derived.Test.YtogonkoeginoaaaGreatDoorApp
import Derived.Maps.OwnSet
import Derived.DeepKeys4
import Derived.Maps.AppendAt
import Derived.Test.YtogonkoeginoaaaGreatDoorEvB
import Derived.BigQuiet
import Derived.Test.YtogonkoeginoaaaGreatDoorNumPack
import Derived.Lib.AppendIntMem
namespace Go.Proofs.YtogonkoeginoaaaGreatDoor
open Go.RowKit Go.Maps
set_option maxRecDepth 100000

theorem left_laidOut : laidOutB Tryz.prog = true := by kernel_rfl
theorem left_row : (115 : TypeId) < Tryz.prog.types.size := of_decide_eq_true (by kernel_rfl)
theorem left_wide : (match Tryz.prog.underlying 115 with | some (.array _ _) | some (.struct _) => true | _ => false) = true := by rw [Tryz.underlying115]
theorem left_law : Keyed Tryz.prog 115 := Keyed.of_law (deep_law_laid left_laidOut (m := 3) (by omega) left_row (by kernel_rfl) left_wide)
theorem unit_zero (w : World) : (zeroValue 116).run Tryz.prog w = .ok (.agg #[]) w := by kernel_rfl
theorem info_left : (Tryz.prog.info? 115).map (fun i => (i.zero, i.size, i.bytes)) = some (some (.agg #[.int .i64 0, .int .i64 0]), 2, 16) := by kernel_rfl

def leftV (p : Nat × Nat) : Value := .agg #[.int .i64 (p.1 : Int), .int .i64 (p.2 : Int)]
def leftVals (l : List (Nat × Nat)) : List Value := l.flatMap fun p => [Value.int .i64 (p.1 : Int), Value.int .i64 (p.2 : Int)]
noncomputable def leftK (p : Nat × Nat) : Lit := (keyOf Tryz.prog 115 (leftV p)).getD (.bool false)
noncomputable def leftD (l : List (Nat × Nat)) : DataW Unit := l.foldl (fun d p => d.put (leftK p) (.agg [])) (.map [])
theorem leftVals_length (l : List (Nat × Nat)) : (leftVals l).length = l.length * 2 := by
  induction l with
  | nil => rfl
  | cons x q ih =>
    have e : leftVals (x :: q) = [Value.int .i64 (x.1 : Int), Value.int .i64 (x.2 : Int)] ++ leftVals q := rfl
    rw [e, List.length_append, ih]; simp; omega
/-- A key whose parts are small. -/
theorem left_key (p : Nat × Nat) (h : p = (0, 0) ∨ p = (1, 1) ∨ p = (2, 1) ∨ p = (1, 2) ∨ p = (2, 2)) : keyOf Tryz.prog 115 (leftV p) = some (leftK p) := by
  rcases h with rfl | rfl | rfl | rfl | rfl <;> kernel_rfl

theorem wpList_insert_own {P : Program} (w : World) {ops : Array Oper} {rest : List Oper} {o : Oper} {a : Act} {Q : Exit → Act → World → Prop}
    (hg : o.guard = none) (m x v : Operand) (t : TypeId) (hop : o.op = Op.insert t m x v)
    (k e : TypeId) (K : Keyed P k) (ht : P.underlying t = some (.map k e)) (b n : Nat) (D : DataW Unit)
    (hm : a.eval m = .map (some b)) (hown : w.ownsMap P k unitElem b n D) (hn : n < maxLen) (key : Value) (kl : Lit) (hx : a.eval x = key) (hv : a.eval v = .agg #[]) (hkey : keyOf P k key = some kl)
    (hK : ∀ w', w'.ownsMap P k unitElem b (n + 1) (D.put kl (.agg [])) → w.grownBy w' (some b) → wpList P ops Q rest (a.put o.dst undef) w') :
    wpList P ops Q (o :: rest) a w := by
  refine wpList_plain hg fun K' hK' => ?_
  obtain ⟨w', hrun, r1, r2⟩ := hown.update K ht hn hkey unitElem_mk
  unfold Oper.wp
  simp [execOp, hop, hm, hx, hv, hrun, Result.andThen]
  exact hK' _ _ (hK w' r1 r2)

/-- What the walk of Meets carries. -/
structure Met (w : World) (base pm pw M : Nat) (v : Value) (d l : List (Nat × Nat)) : Prop where
  m : Blk w pm [.map (some M)] 117
  s : Blk w pw [v] 118
  own : w.ownsMap Tryz.prog 115 unitElem M d.length (leftD d)
  row : w.ownsRow base 115 2 v l.length (leftVals l)
  hm : base ≤ pm
  hs : base ≤ pw
  hM : base ≤ M

theorem leftVals_snoc (l : List (Nat × Nat)) (p : Nat × Nat) : leftVals (l ++ [p]) = leftVals l ++ [Value.int .i64 (p.1 : Int), Value.int .i64 (p.2 : Int)] := by
  unfold leftVals
  rw [List.flatMap_append]
  rfl
theorem leftD_snoc (l : List (Nat × Nat)) (p : Nat × Nat) : leftD (l ++ [p]) = (leftD l).put (leftK p) (.agg []) := by
  unfold leftD
  rw [List.foldl_append]
  rfl

theorem blk_ne_map {P : Program} {k : TypeId} {R : Value → Option (DataW Unit × List MemPlace)} {w : World} {b M n : Nat} {D : DataW Unit} {vs : List Value} {t : TypeId} (hb : Blk w b vs t) (hm : w.ownsMap P k R M n D) : b ≠ M := by
  rintro rfl
  obtain ⟨es, cl, h1, _⟩ := hm
  unfold Blk at hb
  rw [h1] at hb
  cases hb
theorem row_ne_map {P : Program} {k e : TypeId} {R : Value → Option (DataW Unit × List MemPlace)} {w : World} {base size M n m : Nat} {D : DataW Unit} {v : Value} {xs : List Value} (hr : w.ownsRow base e size v m xs) (hm : w.ownsMap P k R M n D) : v.ownBlock = none ∨ v.ownBlock ≠ some M := by
  rcases hr.2 with ⟨rfl, _⟩ | ⟨g, cap, cur, rfl, _, hg, _⟩
  · exact .inl rfl
  · refine .inr fun h => ?_
    simp [Value.ownBlock] at h
    subst h
    obtain ⟨es, cl, h1, _⟩ := hm
    rw [h1] at hg
    cases hg
theorem row_ne_map' {P : Program} {k e : TypeId} {R : Value → Option (DataW Unit × List MemPlace)} {w : World} {base size M n m : Nat} {D : DataW Unit} {v : Value} {xs : List Value} (hr : w.ownsRow base e size v m xs) (hm : w.ownsMap P k R M n D) : some M ≠ v.ownBlock := by
  rcases row_ne_map hr hm with h | h
  · rw [h]; simp
  · exact fun e => h e.symm
theorem row_ne_blk {e t : TypeId} {w : World} {base size b m : Nat} {v : Value} {xs vs : List Value} (hr : w.ownsRow base e size v m xs) (hb : Blk w b vs t) (hne : t ≠ e) : some b ≠ v.ownBlock := by
  rcases hr.2 with ⟨rfl, _⟩ | ⟨g, cap, cur, rfl, _, hg, _⟩
  · simp [Value.ownBlock]
  · intro h
    simp [Value.ownBlock] at h
    subst h
    unfold Blk at hb
    rw [hb] at hg
    injection hg with hg
    injection hg with _ h2 _
    exact hne h2
theorem row_setCell {e : TypeId} {w : World} {base size m : Nat} {v : Value} {xs : List Value} (hr : w.ownsRow base e size v m xs) {a : Addr} (hne : some a.block ≠ v.ownBlock) (u : Value) : (w.setCell a u).ownsRow base e size v m xs := by
  refine ⟨hr.1, ?_⟩
  rcases hr.2 with hn | ⟨g, cap, cur, rfl, hb, hgg, rest⟩
  · exact .inl hn
  · refine .inr ⟨g, cap, cur, rfl, hb, ?_, rest⟩
    rw [heap_setCell_other w a g u (fun h => hne (by simp [Value.ownBlock, h]))]
    exact hgg
theorem blk_ne_blk {w : World} {b c : Nat} {vs us : List Value} {t t' : TypeId} (hb : Blk w b vs t) (hc : Blk w c us t') (hne : t ≠ t') : b ≠ c := by
  rintro rfl
  unfold Blk at hb hc
  rw [hb] at hc
  injection hc with hc
  injection hc with _ h2 _
  exact hne h2

set_option maxHeartbeats 1600000 in
/-- A pair that was not met yet goes to the end of the work. -/
theorem meets1_any (p : Nat × Nat) (base pm pw M : Nat) (v : Value) (d l : List (Nat × Nat)) (w : World) (h : Met w base pm pw M v d l) (hkey : keyOf Tryz.prog 115 (leftV p) = some (leftK p)) (hnew : Maps.has (leftD d) (leftK p) = false) (hd : d.length ≤ 100) (hl : l.length ≤ 100) (hbase : base ≤ w.heap.size) :
    Calls Tryz.prog 56 #[leftV p, .pointer (some ⟨pm, 0, none⟩), .pointer (some ⟨pw, 0, none⟩)] w fun e w' => e = .returned (.tuple #[]) ∧ (∃ v', Met w' base pm pw M v' (d ++ [p]) (l ++ [p])) ∧ Below base w w' ∧ (∀ k vs t, Blk w k vs t → k ≠ pw → some k ≠ v.ownBlock → Blk w' k vs t) := by
  obtain ⟨a, b⟩ := p
  obtain ⟨hm, hs, hown, hrow, hm0, hs0, hM0⟩ := h
  have cm := hm.cell 0
  have cs := hs.cell 0
  have fs := hs.free 0
  simp only [List.getElem?_cons_zero] at cm cs
  have hltm := hm.lt
  have hlts := hs.lt
  have HKEY := hide hkey
  have HNEW := hide hnew
  obtain ⟨K, hK⟩ : ∃ z, leftK (a, b) = z := ⟨_, rfl⟩
  rw [hK] at HKEY HNEW
  obtain ⟨D, hD⟩ : ∃ z, leftD d = z := ⟨_, rfl⟩
  rw [hD] at HNEW hown
  have HDS := hide (leftD_snoc d (a, b))
  rw [hD, hK] at HDS
  obtain ⟨n, hn⟩ : ∃ z, d.length = z := ⟨_, rfl⟩
  have HN := hide hn
  rw [hn] at hown hd
  obtain ⟨i0, hi, hz0, hz1, hz2⟩ := info_parts info_left
  have HI0 := hide (And.intro hi (And.intro hz0 (And.intro hz1 hz2)))
  clear hkey hnew hK hD hn hi hz0 hz1 hz2
  unfold leftV
  go_enter Tryz.func56, Tryz.ntmps56
  have HMW := hide hm
  have HSW := hide hs
  have HRW := hide hrow
  have HOW := hide hown
  clear hm hs hrow hown
  go_wp2_with (first
    | (at_lookup; refine wpList_lookup_own_unit _ rfl _ _ 117 rfl 115 116 left_law Tryz.underlying117 (unit_zero _) M n D rfl (HOW.out.alloc _) _ K rfl HKEY.out ?_; rw [HNEW.out])
    | (at_mapUpdate; refine wpList_mapUpdate_own _ rfl _ _ _ 117 rfl 115 116 left_law Tryz.underlying117 (unitElem (H := Unit)) M n D rfl ((HOW.out.alloc _).alloc _) (by unfold maxLen; omega) _ _ K rfl rfl HKEY.out _ [] unitElem_mk ?_; intro w1 hown1 hgrow1
       have hne1 : some pw ≠ some M := fun e => blk_ne_map HSW.out HOW.out (Option.some.inj e)
       have hne2 : some pm ≠ some M := fun e => blk_ne_map HMW.out HOW.out (Option.some.inj e)
       have hs1 : Blk w1 pw [v] _ := ((HSW.out.alloc _).alloc _).grown hgrow1 hne1
       have hm1 : Blk w1 pm [.map (some M)] _ := ((HMW.out.alloc _).alloc _).grown hgrow1 hne2
       have hb1 : Blk w1 w.heap.size [.int .i64 (a : Int), .int .i64 (b : Int)] 115 := ((Blk.new w [.int .i64 (a : Int), .int .i64 (b : Int)] 115).alloc _).grown hgrow1 (fun e => by have := HOW.out.lt; injection e with e; omega)
       have cs1 := hs1.cell 0
       have fs1 := hs1.free 0
       have cb0 := hb1.cell 0
       have cb1 := hb1.cell 1
       have hr1 := ((HRW.out.alloc (.cells #[.int .i64 (a : Int), .int .i64 (b : Int)] 115)).alloc (.cells #[] 116)).kept hgrow1 (row_ne_map HRW.out HOW.out)
       have HR1 := hide hr1
       have HS1 := hide hs1
       have HM1 := hide hm1
       have HO1 := hide hown1
       have hsz1 := hgrow1.size
       simp only [List.getElem?_cons_zero, List.getElem?_cons_succ] at cs1 cb0 cb1
       simp at hsz1
       have HG1 := hide hgrow1
       clear hne1 hne2 hs1 hm1 hb1 hr1 hown1 hgrow1)
    | (at_builtin; refine wpList_app rfl (.tmp 17) (.tmp 19) 118 rfl base 115 i0 (.agg #[.int .i64 0, .int .i64 0]) 2 16 Tryz.underlying118 HI0.out.1 HI0.out.2.1 HI0.out.2.2.1 HI0.out.2.2.2 rfl (by decide) v l.length (leftVals l) rfl (HR1.out.alloc _) _ 1 1 [.int .i64 (a : Int), .int .i64 (b : Int)] rfl rfl (row_of_blk (Blk.new _ [.int .i64 (a : Int), .int .i64 (b : Int)] 115)) (by simp [Value.oneCell']) (by unfold maxLen; omega) (by omega) (by simp; omega) ?_; intro v2 w2 hr2 hgrow2 hv2
       obtain ⟨ao2, c2, hv3, hnc2, hc2, _, _⟩ := own_form hr2
       subst hv3
       have hs2 : Blk w2 pw [v] _ := (HS1.out.alloc _).grown hgrow2 (row_ne_blk HR1.out HS1.out (by decide))
       have fs2 := hs2.free 0
       have cs2 := hs2.cell 0
       simp only [List.getElem?_cons_zero] at cs2
       have HS2 := hide hs2
       have HR2 := hide hr2
       have HG2 := hide hgrow2
       clear hs2 hr2 hgrow2 hv2)
    | fail)
  go_end0
  have gh := HG1.out
  have g2 := HG2.out
  have hsz2 := g2.size
  simp at hsz2
  have hmpw : pm ≠ pw := blk_ne_blk HM1.out HS1.out (by decide)
  have hMpw : pw ≠ M := blk_ne_map HS1.out HO1.out
  have hm2 : Blk w2 pm _ _ := (HM1.out.alloc _).grown g2 (row_ne_blk HR1.out HM1.out (by decide))
  have ho2 := (HO1.out.alloc (.cells #[.int .i64 (a : Int), .int .i64 (b : Int)] 115)).kept g2 (row_ne_map' HR1.out HO1.out)
  have hl1 : (l ++ [(a, b)]).length = l.length + 1 := by simp
  have hd1 : (d ++ [(a, b)]).length = n + 1 := by rw [List.length_append, HN.out]; rfl
  refine ⟨rfl, ⟨_, ⟨hm2.other hmpw _, HS2.out.set 0 _, ?_, ?_, hm0, hs0, hM0⟩⟩, ?_, ?_⟩
  · rw [hd1, HDS.out]
    exact ho2.setCell (fun e => hMpw e.symm) _
  · rw [hl1, leftVals_snoc]
    exact row_setCell HR2.out (row_ne_blk HR2.out HS2.out (by decide)) _
  · have b0 : Below base w ((w.alloc (.cells #[.int .i64 (a : Int), .int .i64 (b : Int)] 115)).alloc (.cells #[] 116)) := ((Below.refl _ _).alloc hbase _).alloc (by simp; omega) _
    have b1 : Below base w w1 := b0.grown gh (by simp; omega) (fun k e => by injection e with e; omega)
    have b2 := b1.alloc (by omega) (.cells #[.int .i64 (a : Int), .int .i64 (b : Int)] 115)
    have b3 : Below base w w2 := b2.grown g2 (by simp; omega) (fun k e => (HR1.out.lt k e).1)
    exact b3.setCell (by exact hs0) _
  · intro k vs t hk h1 h2
    exact (((((hk.alloc _).alloc _).grown gh (fun e => blk_ne_map hk HOW.out (Option.some.inj e))).alloc _).grown g2 h2).other h1 _
/-- The last of the work. -/
theorem Met.top {w : World} {base pm pw M : Nat} {v : Value} {d l : List (Nat × Nat)} {p : Nat × Nat} (h : Met w base pm pw M v d (l ++ [p])) : ∃ g c, v = .slice (some ⟨g, 0, none⟩) (l.length + 1) c ∧ l.length + 1 ≤ c ∧ c ≤ 9223372036854775807 ∧ g < w.heap.size ∧ base ≤ g ∧ w.cell? ⟨g, l.length * 2, none⟩ = some (.int .i64 (p.1 : Int)) ∧ w.cell? ⟨g, l.length * 2 + 1, none⟩ = some (.int .i64 (p.2 : Int)) ∧ (w.setCell ⟨pw, 0, none⟩ (.slice (some ⟨g, 0, none⟩) l.length c)).ownsRow base 115 2 (.slice (some ⟨g, 0, none⟩) l.length c) l.length (leftVals l) := by
  have hr := h.row
  have hl : (l ++ [p]).length = l.length + 1 := by simp
  rw [hl, leftVals_snoc] at hr
  have hne := row_ne_blk hr h.s (by decide)
  have hlv := leftVals_length l
  have hcells := fun g hg => hr.cells (g := g) hg
  have hlt := hr.lt
  rcases hr.2 with ⟨_, h0⟩ | ⟨g, cap, cur, rfl, hb, hg, hn, hcap, hsz, htake⟩
  · omega
  · have c0 := hcells g rfl (l.length * 2) (.int .i64 (p.1 : Int)) (by rw [List.getElem?_append_right (by omega), hlv, Nat.sub_self]; rfl)
    have c1 := hcells g rfl (l.length * 2 + 1) (.int .i64 (p.2 : Int)) (by rw [List.getElem?_append_right (by omega), hlv, show l.length * 2 + 1 - l.length * 2 = 1 by omega]; rfl)
    have hadd : ∀ j, (⟨g, 0, none⟩ : Addr).add j = ⟨g, j, none⟩ := fun j => by unfold Addr.add; split <;> simp_all
    rw [hadd] at c0 c1
    refine ⟨g, cap, rfl, hn, by unfold maxLen at hcap; omega, (hlt g rfl).2, hb, c0, c1, ?_⟩
    have h2 : w.ownsRow base 115 2 (.slice (some ⟨g, 0, none⟩) l.length cap) l.length (leftVals l) := by
      refine ⟨hlv, .inr ⟨g, cap, cur, rfl, hb, hg, by omega, hcap, hsz, ?_⟩⟩
      have e : cur.toList.take (l.length * 2) = (cur.toList.take ((l.length + 1) * 2)).take (l.length * 2) := by rw [List.take_take]; congr 1; omega
      rw [e, htake, List.take_left' hlv]
    exact row_setCell h2 hne _
theorem Met.pop {w : World} {base pm pw M : Nat} {v v' : Value} {d l l' : List (Nat × Nat)} (h : Met w base pm pw M v d l) (hr : (w.setCell ⟨pw, 0, none⟩ v').ownsRow base 115 2 v' l'.length (leftVals l')) : Met (w.setCell ⟨pw, 0, none⟩ v') base pm pw M v' d l' := by
  have hmpw : pm ≠ pw := blk_ne_blk h.m h.s (by decide)
  have hMpw : pw ≠ M := blk_ne_map h.s h.own
  exact ⟨h.m.other hmpw _, h.s.set 0 _, h.own.setCell (fun e => hMpw e.symm) _, hr, h.hm, h.hs, h.hM⟩
theorem Met.drewN {w : World} {base pm pw M : Nat} {v : Value} {d l : List (Nat × Nat)} (h : Met w base pm pw M v d l) (n : Nat) : Met (w.drewN n) base pm pw M v d l := ⟨h.m, h.s, h.own, h.row, h.hm, h.hs, h.hM⟩
theorem Met.alloc {w : World} {base pm pw M : Nat} {v : Value} {d l : List (Nat × Nat)} (h : Met w base pm pw M v d l) (o : Obj) : Met (w.alloc o) base pm pw M v d l := ⟨h.m.alloc o, h.s.alloc o, h.own.alloc o, h.row.alloc o, h.hm, h.hs, h.hM⟩
end Go.Proofs.YtogonkoeginoaaaGreatDoor

namespace Go.Proofs.YtogonkoeginoaaaGreatDoor
open Go.RowKit Go.Maps
set_option maxRecDepth 100000

theorem cut_a (w : World) (hv : Vars w) : Calls Tryz.prog 90 #[.string ⟨#[97, 46, 42, 42]⟩, .string ⟨#[46]⟩] w fun e w' => e = .returned (.tuple #[.string ⟨#[97]⟩, .string ⟨#[42, 42]⟩, .bool true]) ∧ Below w.heap.size w w' :=
  (dotcut_any [97, 46, 42, 42] w hv (by decide)).mono (by rintro e w' ⟨rfl, h⟩; exact ⟨by kernel_rfl, h⟩)
theorem cut_b (w : World) (hv : Vars w) : Calls Tryz.prog 90 #[.string ⟨#[42, 42]⟩, .string ⟨#[46]⟩] w fun e w' => e = .returned (.tuple #[.string ⟨#[42, 42]⟩, .string ⟨#[]⟩, .bool false]) ∧ Below w.heap.size w w' :=
  (dotcut_any [42, 42] w hv (by decide)).mono (by rintro e w' ⟨rfl, h⟩; exact ⟨by kernel_rfl, h⟩)
theorem part_a (w : World) : Calls Tryz.prog 69 #[.string ⟨#[97]⟩] w fun e w' => e = .returned (.bool true) ∧ Below w.heap.size w w' :=
  (part_any [97] w (by decide)).mono (by rintro e w' ⟨rfl, h⟩; exact ⟨by kernel_rfl, h⟩)
theorem globf_a (w : World) : Calls Tryz.prog 81 #[.string ⟨#[97]⟩] w fun e w' => e = .returned (.bool true) ∧ Below w.heap.size w w' := by
  have hp := part_a w
  go_enter Tryz.func81, Tryz.ntmps81
  go_wp2_with fail
  refine hp.mono ?_
  rintro e w' ⟨rfl, hb⟩
  go_wp2_with fail
  go_ret
  exact ⟨rfl, hb⟩
theorem globf_b (w : World) : Calls Tryz.prog 81 #[.string ⟨#[42, 42]⟩] w fun e w' => e = .returned (.bool true) ∧ Below w.heap.size w w' := by
  have hb := Below.refl w.heap.size w
  go_enter Tryz.func81, Tryz.ntmps81
  go_wp2_with fail
  go_ret
  exact ⟨rfl, hb⟩

set_option maxHeartbeats 1600000 in
theorem all_glob (w : World) (hv : Vars w) : Calls Tryz.prog 68 #[.string ⟨#[97, 46, 42, 42]⟩, .func (Fn.func 81) #[] #[]] w fun e w' => e = .returned (.bool true) ∧ Below w.heap.size w w' := by
  have C1 := hide (cut_a w hv)
  have C2 := hide cut_b
  have G1 := hide globf_a
  have G2 := hide globf_b
  have HV := hide hv
  go_enter Tryz.func68, Tryz.ntmps68
  go_wp2_with fail
  refine wp_loop_rounds 2 ?_
  rw [rounds_succ]
  go_wp2_with fail
  refine C1.out.mono ?_
  rintro e w1 ⟨rfl, hb1⟩
  go_wp2_with fail
  refine (G1.out _).mono ?_
  rintro e w2 ⟨rfl, hb2⟩
  have hb := hb1.trans (hb2.mono hb1.size)
  clear hb1 hb2
  go_wp2_with fail
  rw [rounds_succ]
  go_wp2_with fail
  refine (C2.out _ (HV.out.next hb)).mono ?_
  rintro e w3 ⟨rfl, hb3⟩
  have hb' := hb.trans (hb3.mono hb.size)
  clear hb hb3
  go_wp2_with fail
  refine (G2.out _).mono ?_
  rintro e w4 ⟨rfl, hb4⟩
  have hb5 := hb'.trans (hb4.mono hb'.size)
  clear hb' hb4
  go_wp2_with fail
  go_ret
  exact ⟨rfl, hb5⟩

theorem glob_a (w : World) (hv : Vars w) : Calls Tryz.prog 54 #[.string ⟨#[97, 46, 42, 42]⟩] w fun e w' => e = .returned (.bool true) ∧ Below w.heap.size w w' := by
  have HA := hide (all_glob w hv)
  go_enter Tryz.func54, Tryz.ntmps54
  go_wp2_with fail
  refine HA.out.mono ?_
  rintro e w2 ⟨rfl, hb⟩
  go_wp2_with fail
  go_ret
  exact ⟨rfl, hb⟩
theorem topic_a (w : World) (hv : Vars w) : Calls Tryz.prog 43 #[.string ⟨#[97, 46, 98]⟩] w fun e w' => e = .returned (.bool true) ∧ Below w.heap.size w w' :=
  (topic_any [97, 46, 98] w hv (by decide)).mono (by rintro e w' ⟨rfl, h⟩; exact ⟨by kernel_rfl, h⟩)
theorem split_a (w : World) (hv : Vars w) : Calls Tryz.prog 55 #[.string ⟨#[97, 46, 42, 42]⟩, .string ⟨#[46]⟩] w fun e w' => e = .returned (.slice (some ⟨w.heap.size, 0, none⟩) 2 2) ∧ w' = w.alloc (.cells #[.string ⟨#[97]⟩, .string ⟨#[42, 42]⟩] 9) := by
  obtain ⟨m, hm⟩ := hv.max
  refine (Tryz.strings_Split ⟨#[97, 46, 42, 42]⟩ ⟨#[46]⟩ m w (by decide) hm (by decide)).mono ?_
  rintro e w' ⟨rfl, rfl⟩
  have e1 : Lib.countB ⟨#[97, 46, 42, 42]⟩ ⟨#[46]⟩ = 1 := by kernel_rfl
  have e2 : Lib.splitB ⟨#[46]⟩ 0 1 ⟨#[97, 46, 42, 42]⟩ = [⟨#[97]⟩, ⟨#[42, 42]⟩] := by kernel_rfl
  rw [e1, e2]
  exact ⟨rfl, rfl⟩
theorem split_b (w : World) (hv : Vars w) : Calls Tryz.prog 55 #[.string ⟨#[97, 46, 98]⟩, .string ⟨#[46]⟩] w fun e w' => e = .returned (.slice (some ⟨w.heap.size, 0, none⟩) 2 2) ∧ w' = w.alloc (.cells #[.string ⟨#[97]⟩, .string ⟨#[98]⟩] 9) := by
  obtain ⟨m, hm⟩ := hv.max
  refine (Tryz.strings_Split ⟨#[97, 46, 98]⟩ ⟨#[46]⟩ m w (by decide) hm (by decide)).mono ?_
  rintro e w' ⟨rfl, rfl⟩
  have e1 : Lib.countB ⟨#[97, 46, 98]⟩ ⟨#[46]⟩ = 1 := by kernel_rfl
  have e2 : Lib.splitB ⟨#[46]⟩ 0 1 ⟨#[97, 46, 98]⟩ = [⟨#[97]⟩, ⟨#[98]⟩] := by kernel_rfl
  rw [e1, e2]
  exact ⟨rfl, rfl⟩
end Go.Proofs.YtogonkoeginoaaaGreatDoor

namespace Go.Proofs.YtogonkoeginoaaaGreatDoor
open Go.RowKit Go.Maps
set_option maxRecDepth 100000

set_option maxHeartbeats 3200000 in
theorem meets_one (w : World) (hv : Vars w) : Calls Tryz.prog 28 #[.string ⟨#[97, 46, 42, 42]⟩, .string ⟨#[97, 46, 98]⟩] w fun e w' => e = .returned (.bool true) ∧ Below w.heap.size w w' := by
  have HG := hide (glob_a w hv)
  have HT := hide topic_a
  have HA := hide split_a
  have HB := hide split_b
  have HV := hide hv
  have hmm := @run_makeMap Tryz.prog
  go_enter Tryz.func28, Tryz.ntmps28
  go_wp2_with fail
  refine HG.out.mono ?_
  rintro e w1 ⟨rfl, hb1⟩
  go_wp2_with fail
  refine (HT.out _ (HV.out.next hb1)).mono ?_
  rintro e w2 ⟨rfl, hb2⟩
  have hb := hb1.trans (hb2.mono hb1.size)
  clear hb1 hb2
  go_wp2_with fail
  refine (HA.out _ (HV.out.next hb)).mono ?_
  rintro e w3 ⟨rfl, rfl⟩
  go_wp2_with fail
  refine (HB.out _ (HV.out.next (hb.alloc hb.size _))).mono ?_
  rintro e w4 ⟨rfl, rfl⟩
  have hg0 := Blk.new w2 [.string ⟨#[97]⟩, .string ⟨#[42, 42]⟩] 9
  have ht0 := Blk.new (w2.alloc (.cells #[.string ⟨#[97]⟩, .string ⟨#[42, 42]⟩] 9)) [.string ⟨#[97]⟩, .string ⟨#[98]⟩] 9
  have hg1 := hg0.alloc (.cells #[.string ⟨#[97]⟩, .string ⟨#[98]⟩] 9)
  have hbb := (hb.alloc hb.size (.cells #[.string ⟨#[97]⟩, .string ⟨#[42, 42]⟩] 9)).alloc (by have := hb.size; simp; omega) (.cells #[.string ⟨#[97]⟩, .string ⟨#[98]⟩] 9)
  have HBB := hide hbb
  obtain ⟨bg, hbg⟩ : ∃ z, w2.heap.size = z := ⟨_, rfl⟩
  have hbt : (w2.alloc (.cells #[.string ⟨#[97]⟩, .string ⟨#[42, 42]⟩] 9)).heap.size = bg + 1 := by rw [← hbg]; simp
  rw [hbt] at ht0 ⊢
  rw [hbg] at hg1 ⊢
  obtain ⟨W, hW⟩ : ∃ z, (w2.alloc (.cells #[.string ⟨#[97]⟩, .string ⟨#[42, 42]⟩] 9)).alloc (.cells #[.string ⟨#[97]⟩, .string ⟨#[98]⟩] 9) = z := ⟨_, rfl⟩
  have hWs : W.heap.size = bg + 2 := by rw [← hW, ← hbg]; simp
  rw [hW] at HBB hg1 ht0 ⊢
  have HWS := hide hWs
  have HG1 := hide hg1
  have HT0 := hide ht0
  clear hW hWs hbt hbg hbb hg0 hg1 ht0 hb HA HB HT HG
  have hown0 := World.ownsMap_made (H := Unit) W Tryz.prog 115 unitElem
  have HO0 := hide hown0
  clear hown0
  go_wp2_with (first
    | (refine wpList_insert_own _ rfl _ _ _ 117 rfl 115 116 left_law Tryz.underlying117 W.heap.size 0 (.map []) rfl HO0.out (by unfold maxLen; omega) _ (leftK (0, 0)) rfl rfl (left_key (0, 0) (.inl rfl)) ?_; intro w5 hown5 hgrow5)
    | fail)
  have hBB := HBB.out
  have hsz5 := hgrow5.size
  simp at hsz5
  have hb5 : Below w.heap.size w w5 := (hBB.alloc hBB.size _).grown hgrow5 (by have := hBB.size; simp; omega) (fun k e => by injection e with e; have := hBB.size; omega)
  have hg5 := (HG1.out.alloc (.map #[] 0)).grown hgrow5 (fun e => by injection e with e; have := HWS.out; omega)
  have ht5 := (HT0.out.alloc (.map #[] 0)).grown hgrow5 (fun e => by injection e with e; have := HWS.out; omega)
  have hm6 := (Blk.new w5 [.map (some W.heap.size)] 117)
  have hr6 := (Blk.new (w5.alloc (.cells #[.map (some W.heap.size)] 117)) [.int .i64 0, .int .i64 0] 115)
  have hs6 := (Blk.new ((w5.alloc (.cells #[.map (some W.heap.size)] 117)).alloc (.cells #[.int .i64 0, .int .i64 0] 115)) [.slice (some ⟨w5.heap.size + 1, 0, none⟩) 1 1] 118)
  obtain ⟨W6, hW6⟩ : ∃ z, ((w5.alloc (.cells #[.map (some W.heap.size)] 117)).alloc (.cells #[.int .i64 0, .int .i64 0] 115)).alloc (.cells #[.slice (some ⟨w5.heap.size + 1, 0, none⟩) 1 1] 118) = z := ⟨_, rfl⟩
  have HB6 : Hid (Below w.heap.size w W6) := hide (by rw [← hW6]; exact ((hb5.alloc hb5.size _).alloc (by have := hb5.size; simp; omega) _).alloc (by have := hb5.size; simp; omega) _)
  have HG6 : Hid (Blk W6 bg [.string ⟨#[97]⟩, .string ⟨#[42, 42]⟩] 9) := hide (by rw [← hW6]; exact ((hg5.alloc _).alloc _).alloc _)
  have HT6 : Hid (Blk W6 (bg + 1) [.string ⟨#[97]⟩, .string ⟨#[98]⟩] 9) := hide (by rw [← hW6]; exact ((ht5.alloc _).alloc _).alloc _)
  have HM6 : Hid (Met W6 (bg + 2) w5.heap.size (w5.heap.size + 1 + 1) W.heap.size (.slice (some ⟨w5.heap.size + 1, 0, none⟩) 1 1) [(0, 0)] [(0, 0)]) := hide (by
    have hws := HWS.out
    refine ⟨?_, ?_, ?_, ?_, by omega, by omega, by omega⟩
    · rw [← hW6]; exact (hm6.alloc _).alloc _
    · rw [← hW6]
      have e : (((w5.alloc (.cells #[.map (some W.heap.size)] 117)).alloc (.cells #[.int .i64 0, .int .i64 0] 115))).heap.size = w5.heap.size + 1 + 1 := by simp
      rw [e] at hs6
      exact hs6
    · rw [← hW6]; exact ((hown5.alloc _).alloc _).alloc _
    · have e : (w5.alloc (.cells #[.map (some W.heap.size)] 117)).heap.size = w5.heap.size + 1 := by simp
      rw [e] at hr6
      rw [← hW6]
      exact ⟨rfl, .inr ⟨w5.heap.size + 1, 1, #[.int .i64 0, .int .i64 0], rfl, by omega, hr6.alloc _, Nat.le_refl _, by unfold maxLen; omega, rfl, rfl⟩⟩)
  obtain ⟨pm, hpm⟩ : ∃ z, w5.heap.size = z := ⟨_, rfl⟩
  rw [hpm] at HM6
  rw [hW6, hpm]
  obtain ⟨M, hMM⟩ : ∃ z, W.heap.size = z := ⟨_, rfl⟩
  rw [hMM] at HM6 ⊢
  have hws := HWS.out
  rw [hMM] at hws
  have HBW : Hid (w.heap.size ≤ bg + 2) := hide (by have := HBB.out.size; have := HWS.out; omega)
  rw [hpm, hMM] at hsz5
  clear hBB hb5 hg5 ht5 hm6 hr6 hs6 hW6 hpm hMM HO0 HG1 HT0 HBB hown5 hgrow5 HWS hmm
  have hpm3 : bg + 3 ≤ pm := by omega
  clear hws hsz5
  refine wp_loop_rounds 6 ?_
  obtain ⟨v1, hv1⟩ : ∃ z, Value.slice (some ⟨pm + 1, 0, none⟩) 1 1 = z := ⟨_, rfl⟩
  rw [hv1] at HM6
  clear hv1
  rw [rounds_succ]
  obtain ⟨g0, c0, hvv0, hc10, hc20, hgl0, hgb0, e00, e10, hrow0⟩ := Met.top (l := []) (p := (0, 0)) HM6.out
  subst hvv0
  have cs := HM6.out.s.cell 0
  have fs := HM6.out.s.free 0
  have ltw := HM6.out.s.lt
  simp at cs e00 e10 hc10
  go_wp2_with fail
  have hmp : Met ((W6.setCell ⟨pm + 1 + 1, 0, none⟩ (.slice (some ⟨g0, 0, none⟩) 0 c0)).alloc (.cells #[.int .i64 0, .int .i64 0] 115)) (bg + 2) pm (pm + 1 + 1) M (.slice (some ⟨g0, 0, none⟩) 0 c0) [(0, 0)] [] := (Met.pop (l' := []) HM6.out hrow0).alloc _
  have hgp := (HG6.out.other (a := ⟨pm + 1 + 1, 0, none⟩) (by simp; omega) (.slice (some ⟨g0, 0, none⟩) 0 c0)).alloc (.cells #[.int .i64 0, .int .i64 0] 115)
  have htp := (HT6.out.other (a := ⟨pm + 1 + 1, 0, none⟩) (by simp; omega) (.slice (some ⟨g0, 0, none⟩) 0 c0)).alloc (.cells #[.int .i64 0, .int .i64 0] 115)
  have hbp : Below w.heap.size w ((W6.setCell ⟨pm + 1 + 1, 0, none⟩ (.slice (some ⟨g0, 0, none⟩) 0 c0)).alloc (.cells #[.int .i64 0, .int .i64 0] 115)) := (HB6.out.setCell (by have := HBW.out; show w.heap.size ≤ pm + 1 + 1; omega) _).alloc (by have := HBW.out; simp; omega) _
  have hkp := Blk.new (W6.setCell ⟨pm + 1 + 1, 0, none⟩ (.slice (some ⟨g0, 0, none⟩) 0 c0)) [.int .i64 0, .int .i64 0] 115
  obtain ⟨X0, hX0⟩ : ∃ z, (W6.setCell ⟨pm + 1 + 1, 0, none⟩ (.slice (some ⟨g0, 0, none⟩) 0 c0)).alloc (.cells #[.int .i64 0, .int .i64 0] 115) = z := ⟨_, rfl⟩
  rw [hX0] at hmp hgp htp hbp hkp ⊢
  have hks : (W6.setCell ⟨pm + 1 + 1, 0, none⟩ (.slice (some ⟨g0, 0, none⟩) 0 c0)).heap.size = W6.heap.size := by simp
  rw [hks] at hkp
  have HMx0 := hide hmp
  have HGx0 := hide hgp
  have HTx0 := hide htp
  have HBx0 := hide hbp
  have HKx0 := hide hkp
  have k0 := hkp.cell 0
  have k1 := hkp.cell 1
  have cg0 := hgp.cell 0
  have cg1 := hgp.cell 1
  have ct0 := htp.cell 0
  have ct1 := htp.cell 1
  simp only [List.getElem?_cons_zero, List.getElem?_cons_succ] at k0 k1 cg0 cg1 ct0 ct1
  clear hmp hgp htp hbp hkp hks hX0 HM6 HG6 HT6 HB6 hrow0 e00 e10 cs fs ltw
  refine wp_region_quiet_lit (by kernel_rfl) (by kernel_rfl) ?_
  iterate 12 (go_big_quiet_step (fail))
  refine wpQuiet_nil ?_
  rintro _ ⟨nq, hwx⟩
  subst hwx
  go_wp2_with fail
  refine (meets1_any (1, 1) (bg + 2) pm (pm + 1 + 1) M _ [(0, 0)] [] _ (Met.drewN HMx0.out nq) (left_key (1, 1) (.inr (.inl rfl))) (by kernel_rfl) (by decide) (by decide) (Nat.le_trans (Met.drewN HMx0.out nq).hm (Nat.le_of_lt (Met.drewN HMx0.out nq).m.lt))).mono ?_
  rintro e Y00 ⟨rfl, ⟨v00, hmy00⟩, hby00, hky00⟩
  have HMy00 := hide hmy00
  have HGy00 := hide (Blk.below (w := (X0.drewN nq)) (B := bg + 2) HGx0.out hby00 (by omega))
  have HTy00 := hide (Blk.below (w := (X0.drewN nq)) (B := bg + 2) HTx0.out hby00 (by omega))
  have HBy00 : Hid (Below w.heap.size w Y00) := hide ((HBx0.out.trans (drewN_below X0 nq |>.mono (by have := HBx0.out.size; exact this))).trans (hby00.mono HBW.out))
  clear hmy00 hby00 hky00
  go_wp2_with fail
  rw [rounds_succ]
  obtain ⟨g1, c1, hvv1, hc11, hc21, hgl1, hgb1, e01, e11, hrow1⟩ := Met.top (l := []) (p := (1, 1)) HMy00.out
  subst hvv1
  have cs := HMy00.out.s.cell 0
  have fs := HMy00.out.s.free 0
  have ltw := HMy00.out.s.lt
  simp at cs e01 e11 hc11
  go_wp2_with fail
  have hmp : Met ((Y00.setCell ⟨pm + 1 + 1, 0, none⟩ (.slice (some ⟨g1, 0, none⟩) 0 c1)).alloc (.cells #[.int .i64 1, .int .i64 1] 115)) (bg + 2) pm (pm + 1 + 1) M (.slice (some ⟨g1, 0, none⟩) 0 c1) [(0, 0), (1, 1)] [] := (Met.pop (l' := []) HMy00.out hrow1).alloc _
  have hgp := (HGy00.out.other (a := ⟨pm + 1 + 1, 0, none⟩) (by simp; omega) (.slice (some ⟨g1, 0, none⟩) 0 c1)).alloc (.cells #[.int .i64 1, .int .i64 1] 115)
  have htp := (HTy00.out.other (a := ⟨pm + 1 + 1, 0, none⟩) (by simp; omega) (.slice (some ⟨g1, 0, none⟩) 0 c1)).alloc (.cells #[.int .i64 1, .int .i64 1] 115)
  have hbp : Below w.heap.size w ((Y00.setCell ⟨pm + 1 + 1, 0, none⟩ (.slice (some ⟨g1, 0, none⟩) 0 c1)).alloc (.cells #[.int .i64 1, .int .i64 1] 115)) := (HBy00.out.setCell (by have := HBW.out; show w.heap.size ≤ pm + 1 + 1; omega) _).alloc (by have := HBW.out; simp; omega) _
  have hkp := Blk.new (Y00.setCell ⟨pm + 1 + 1, 0, none⟩ (.slice (some ⟨g1, 0, none⟩) 0 c1)) [.int .i64 1, .int .i64 1] 115
  obtain ⟨X1, hX1⟩ : ∃ z, (Y00.setCell ⟨pm + 1 + 1, 0, none⟩ (.slice (some ⟨g1, 0, none⟩) 0 c1)).alloc (.cells #[.int .i64 1, .int .i64 1] 115) = z := ⟨_, rfl⟩
  rw [hX1] at hmp hgp htp hbp hkp ⊢
  have hks : (Y00.setCell ⟨pm + 1 + 1, 0, none⟩ (.slice (some ⟨g1, 0, none⟩) 0 c1)).heap.size = Y00.heap.size := by simp
  rw [hks] at hkp
  have HMx1 := hide hmp
  have HGx1 := hide hgp
  have HTx1 := hide htp
  have HBx1 := hide hbp
  have HKx1 := hide hkp
  have k0 := hkp.cell 0
  have k1 := hkp.cell 1
  have cg0 := hgp.cell 0
  have cg1 := hgp.cell 1
  have ct0 := htp.cell 0
  have ct1 := htp.cell 1
  simp only [List.getElem?_cons_zero, List.getElem?_cons_succ] at k0 k1 cg0 cg1 ct0 ct1
  clear hmp hgp htp hbp hkp hks hX1 HMy00 HGy00 HTy00 HBy00 hrow1 e01 e11 cs fs ltw
  refine wp_region_quiet_lit (by kernel_rfl) (by kernel_rfl) ?_
  iterate 12 (go_big_quiet_step (fail))
  refine wpQuiet_nil ?_
  rintro _ ⟨nq, hwx⟩
  subst hwx
  go_wp2_with fail
  refine (meets1_any (2, 1) (bg + 2) pm (pm + 1 + 1) M _ [(0, 0), (1, 1)] [] _ (Met.drewN HMx1.out nq) (left_key (2, 1) (.inr (.inr (.inl rfl)))) (by kernel_rfl) (by decide) (by decide) (Nat.le_trans (Met.drewN HMx1.out nq).hm (Nat.le_of_lt (Met.drewN HMx1.out nq).m.lt))).mono ?_
  rintro e Y10 ⟨rfl, ⟨v10, hmy10⟩, hby10, hky10⟩
  have HMy10 := hide hmy10
  have HGy10 := hide (Blk.below (w := (X1.drewN nq)) (B := bg + 2) HGx1.out hby10 (by omega))
  have HTy10 := hide (Blk.below (w := (X1.drewN nq)) (B := bg + 2) HTx1.out hby10 (by omega))
  have HBy10 : Hid (Below w.heap.size w Y10) := hide ((HBx1.out.trans (drewN_below X1 nq |>.mono (by have := HBx1.out.size; exact this))).trans (hby10.mono HBW.out))
  have hkk := hky10 _ _ _ (show Blk (X1.drewN nq) _ _ _ from HKx1.out) (blk_ne_blk HKx1.out HMx1.out.s (by decide)) (by simp [Value.ownBlock]; omega)
  have k0 := hkk.cell 0
  have k1 := hkk.cell 1
  simp only [List.getElem?_cons_zero, List.getElem?_cons_succ] at k0 k1
  clear hmy10 hby10 hky10 hkk
  go_wp2_with fail
  refine (meets1_any (1, 2) (bg + 2) pm (pm + 1 + 1) M _ [(0, 0), (1, 1), (2, 1)] [(2, 1)] _ HMy10.out (left_key (1, 2) (.inr (.inr (.inr (.inl rfl))))) (by kernel_rfl) (by decide) (by decide) (Nat.le_trans HMy10.out.hm (Nat.le_of_lt HMy10.out.m.lt))).mono ?_
  rintro e Y11 ⟨rfl, ⟨v11, hmy11⟩, hby11, hky11⟩
  have HMy11 := hide hmy11
  have HGy11 := hide (Blk.below (B := bg + 2) HGy10.out hby11 (by omega))
  have HTy11 := hide (Blk.below (B := bg + 2) HTy10.out hby11 (by omega))
  have HBy11 : Hid (Below w.heap.size w Y11) := hide (HBy10.out.trans (hby11.mono HBW.out))
  clear hmy11 hby11 hky11
  go_wp2_with fail
  rw [rounds_succ]
  obtain ⟨g2, c2, hvv2, hc12, hc22, hgl2, hgb2, e02, e12, hrow2⟩ := Met.top (l := [(2, 1)]) (p := (1, 2)) HMy11.out
  subst hvv2
  have cs := HMy11.out.s.cell 0
  have fs := HMy11.out.s.free 0
  have ltw := HMy11.out.s.lt
  simp at cs e02 e12 hc12
  go_wp2_with fail
  have hmp : Met ((Y11.setCell ⟨pm + 1 + 1, 0, none⟩ (.slice (some ⟨g2, 0, none⟩) 1 c2)).alloc (.cells #[.int .i64 1, .int .i64 2] 115)) (bg + 2) pm (pm + 1 + 1) M (.slice (some ⟨g2, 0, none⟩) 1 c2) [(0, 0), (1, 1), (2, 1), (1, 2)] [(2, 1)] := (Met.pop (l' := [(2, 1)]) HMy11.out hrow2).alloc _
  have hgp := (HGy11.out.other (a := ⟨pm + 1 + 1, 0, none⟩) (by simp; omega) (.slice (some ⟨g2, 0, none⟩) 1 c2)).alloc (.cells #[.int .i64 1, .int .i64 2] 115)
  have htp := (HTy11.out.other (a := ⟨pm + 1 + 1, 0, none⟩) (by simp; omega) (.slice (some ⟨g2, 0, none⟩) 1 c2)).alloc (.cells #[.int .i64 1, .int .i64 2] 115)
  have hbp : Below w.heap.size w ((Y11.setCell ⟨pm + 1 + 1, 0, none⟩ (.slice (some ⟨g2, 0, none⟩) 1 c2)).alloc (.cells #[.int .i64 1, .int .i64 2] 115)) := (HBy11.out.setCell (by have := HBW.out; show w.heap.size ≤ pm + 1 + 1; omega) _).alloc (by have := HBW.out; simp; omega) _
  have hkp := Blk.new (Y11.setCell ⟨pm + 1 + 1, 0, none⟩ (.slice (some ⟨g2, 0, none⟩) 1 c2)) [.int .i64 1, .int .i64 2] 115
  obtain ⟨X2, hX2⟩ : ∃ z, (Y11.setCell ⟨pm + 1 + 1, 0, none⟩ (.slice (some ⟨g2, 0, none⟩) 1 c2)).alloc (.cells #[.int .i64 1, .int .i64 2] 115) = z := ⟨_, rfl⟩
  rw [hX2] at hmp hgp htp hbp hkp ⊢
  have hks : (Y11.setCell ⟨pm + 1 + 1, 0, none⟩ (.slice (some ⟨g2, 0, none⟩) 1 c2)).heap.size = Y11.heap.size := by simp
  rw [hks] at hkp
  have HMx2 := hide hmp
  have HGx2 := hide hgp
  have HTx2 := hide htp
  have HBx2 := hide hbp
  have HKx2 := hide hkp
  have k0 := hkp.cell 0
  have k1 := hkp.cell 1
  have cg0 := hgp.cell 0
  have cg1 := hgp.cell 1
  have ct0 := htp.cell 0
  have ct1 := htp.cell 1
  simp only [List.getElem?_cons_zero, List.getElem?_cons_succ] at k0 k1 cg0 cg1 ct0 ct1
  clear hmp hgp htp hbp hkp hks hX2 HMy11 HGy11 HTy11 HBy11 hrow2 e02 e12 cs fs ltw
  refine wp_region_quiet_lit (by kernel_rfl) (by kernel_rfl) ?_
  iterate 12 (go_big_quiet_step (fail))
  refine wpQuiet_nil ?_
  rintro _ ⟨nq, hwx⟩
  subst hwx
  go_wp2_with fail
  refine (meets1_any (2, 2) (bg + 2) pm (pm + 1 + 1) M _ [(0, 0), (1, 1), (2, 1), (1, 2)] [(2, 1)] _ (Met.drewN HMx2.out nq) (left_key (2, 2) (.inr (.inr (.inr (.inr rfl))))) (by kernel_rfl) (by decide) (by decide) (Nat.le_trans (Met.drewN HMx2.out nq).hm (Nat.le_of_lt (Met.drewN HMx2.out nq).m.lt))).mono ?_
  rintro e Y20 ⟨rfl, ⟨v20, hmy20⟩, hby20, hky20⟩
  have HMy20 := hide hmy20
  have HGy20 := hide (Blk.below (w := (X2.drewN nq)) (B := bg + 2) HGx2.out hby20 (by omega))
  have HTy20 := hide (Blk.below (w := (X2.drewN nq)) (B := bg + 2) HTx2.out hby20 (by omega))
  have HBy20 : Hid (Below w.heap.size w Y20) := hide ((HBx2.out.trans (drewN_below X2 nq |>.mono (by have := HBx2.out.size; exact this))).trans (hby20.mono HBW.out))
  clear hmy20 hby20 hky20
  go_wp2_with fail
  rw [rounds_succ]
  obtain ⟨g3, c3, hvv3, hc13, hc23, hgl3, hgb3, e03, e13, hrow3⟩ := Met.top (l := [(2, 1)]) (p := (2, 2)) HMy20.out
  subst hvv3
  have cs := HMy20.out.s.cell 0
  have fs := HMy20.out.s.free 0
  have ltw := HMy20.out.s.lt
  simp at cs e03 e13 hc13
  go_wp2_with fail
  have hmp : Met ((Y20.setCell ⟨pm + 1 + 1, 0, none⟩ (.slice (some ⟨g3, 0, none⟩) 1 c3)).alloc (.cells #[.int .i64 2, .int .i64 2] 115)) (bg + 2) pm (pm + 1 + 1) M (.slice (some ⟨g3, 0, none⟩) 1 c3) [(0, 0), (1, 1), (2, 1), (1, 2), (2, 2)] [(2, 1)] := (Met.pop (l' := [(2, 1)]) HMy20.out hrow3).alloc _
  have hgp := (HGy20.out.other (a := ⟨pm + 1 + 1, 0, none⟩) (by simp; omega) (.slice (some ⟨g3, 0, none⟩) 1 c3)).alloc (.cells #[.int .i64 2, .int .i64 2] 115)
  have htp := (HTy20.out.other (a := ⟨pm + 1 + 1, 0, none⟩) (by simp; omega) (.slice (some ⟨g3, 0, none⟩) 1 c3)).alloc (.cells #[.int .i64 2, .int .i64 2] 115)
  have hbp : Below w.heap.size w ((Y20.setCell ⟨pm + 1 + 1, 0, none⟩ (.slice (some ⟨g3, 0, none⟩) 1 c3)).alloc (.cells #[.int .i64 2, .int .i64 2] 115)) := (HBy20.out.setCell (by have := HBW.out; show w.heap.size ≤ pm + 1 + 1; omega) _).alloc (by have := HBW.out; simp; omega) _
  have hkp := Blk.new (Y20.setCell ⟨pm + 1 + 1, 0, none⟩ (.slice (some ⟨g3, 0, none⟩) 1 c3)) [.int .i64 2, .int .i64 2] 115
  obtain ⟨X3, hX3⟩ : ∃ z, (Y20.setCell ⟨pm + 1 + 1, 0, none⟩ (.slice (some ⟨g3, 0, none⟩) 1 c3)).alloc (.cells #[.int .i64 2, .int .i64 2] 115) = z := ⟨_, rfl⟩
  rw [hX3] at hmp hgp htp hbp hkp ⊢
  have hks : (Y20.setCell ⟨pm + 1 + 1, 0, none⟩ (.slice (some ⟨g3, 0, none⟩) 1 c3)).heap.size = Y20.heap.size := by simp
  rw [hks] at hkp
  have HMx3 := hide hmp
  have HGx3 := hide hgp
  have HTx3 := hide htp
  have HBx3 := hide hbp
  have HKx3 := hide hkp
  have k0 := hkp.cell 0
  have k1 := hkp.cell 1
  have cg0 := hgp.cell 0
  have cg1 := hgp.cell 1
  have ct0 := htp.cell 0
  have ct1 := htp.cell 1
  simp only [List.getElem?_cons_zero, List.getElem?_cons_succ] at k0 k1 cg0 cg1 ct0 ct1
  clear hmp hgp htp hbp hkp hks hX3 HMy20 HGy20 HTy20 HBy20 hrow3 e03 e13 cs fs ltw
  go_wp2_with fail
  obtain ⟨v4, hv4⟩ : ∃ z, Value.slice (some ⟨g3, 0, none⟩) 1 c3 = z := ⟨_, rfl⟩
  rw [hv4] at HMx3
  clear hv4
  rw [rounds_succ]
  obtain ⟨g4, c4, hvv4, hc14, hc24, hgl4, hgb4, e04, e14, hrow4⟩ := Met.top (l := []) (p := (2, 1)) HMx3.out
  subst hvv4
  have cs := HMx3.out.s.cell 0
  have fs := HMx3.out.s.free 0
  have ltw := HMx3.out.s.lt
  simp at cs e04 e14 hc14
  go_wp2_with fail
  have hmp : Met ((X3.setCell ⟨pm + 1 + 1, 0, none⟩ (.slice (some ⟨g4, 0, none⟩) 0 c4)).alloc (.cells #[.int .i64 2, .int .i64 1] 115)) (bg + 2) pm (pm + 1 + 1) M (.slice (some ⟨g4, 0, none⟩) 0 c4) [(0, 0), (1, 1), (2, 1), (1, 2), (2, 2)] [] := (Met.pop (l' := []) HMx3.out hrow4).alloc _
  have hgp := (HGx3.out.other (a := ⟨pm + 1 + 1, 0, none⟩) (by simp; omega) (.slice (some ⟨g4, 0, none⟩) 0 c4)).alloc (.cells #[.int .i64 2, .int .i64 1] 115)
  have htp := (HTx3.out.other (a := ⟨pm + 1 + 1, 0, none⟩) (by simp; omega) (.slice (some ⟨g4, 0, none⟩) 0 c4)).alloc (.cells #[.int .i64 2, .int .i64 1] 115)
  have hbp : Below w.heap.size w ((X3.setCell ⟨pm + 1 + 1, 0, none⟩ (.slice (some ⟨g4, 0, none⟩) 0 c4)).alloc (.cells #[.int .i64 2, .int .i64 1] 115)) := (HBx3.out.setCell (by have := HBW.out; show w.heap.size ≤ pm + 1 + 1; omega) _).alloc (by have := HBW.out; simp; omega) _
  have hkp := Blk.new (X3.setCell ⟨pm + 1 + 1, 0, none⟩ (.slice (some ⟨g4, 0, none⟩) 0 c4)) [.int .i64 2, .int .i64 1] 115
  obtain ⟨X4, hX4⟩ : ∃ z, (X3.setCell ⟨pm + 1 + 1, 0, none⟩ (.slice (some ⟨g4, 0, none⟩) 0 c4)).alloc (.cells #[.int .i64 2, .int .i64 1] 115) = z := ⟨_, rfl⟩
  rw [hX4] at hmp hgp htp hbp hkp ⊢
  have hks : (X3.setCell ⟨pm + 1 + 1, 0, none⟩ (.slice (some ⟨g4, 0, none⟩) 0 c4)).heap.size = X3.heap.size := by simp
  rw [hks] at hkp
  have HMx4 := hide hmp
  have HGx4 := hide hgp
  have HTx4 := hide htp
  have HBx4 := hide hbp
  have HKx4 := hide hkp
  have k0 := hkp.cell 0
  have k1 := hkp.cell 1
  have cg0 := hgp.cell 0
  have cg1 := hgp.cell 1
  have ct0 := htp.cell 0
  have ct1 := htp.cell 1
  simp only [List.getElem?_cons_zero, List.getElem?_cons_succ] at k0 k1 cg0 cg1 ct0 ct1
  clear hmp hgp htp hbp hkp hks hX4 HMx3 HGx3 HTx3 HBx3 hrow4 e04 e14 cs fs ltw
  go_wp2_with fail
  rw [rounds_succ]
  have cs := HMx4.out.s.cell 0
  have cm := HMx4.out.m.cell 0
  have HAS : Hid (Maps.has (leftD [(0, 0), (1, 1), (2, 1), (1, 2), (2, 2)]) (leftK (2, 2)) = true) := hide (by kernel_rfl)
  simp at cs cm
  have HX := hide HBx4.out
  go_wp2_with (first
    | (at_lookup; go_loud (refine wpList_lookup_own_unit _ rfl _ _ 117 rfl 115 116 left_law Tryz.underlying117 (unit_zero _) M 5 (leftD [(0, 0), (1, 1), (2, 1), (1, 2), (2, 2)]) rfl HMx4.out.own _ (leftK (2, 2)) rfl (left_key (2, 2) (.inr (.inr (.inr (.inr rfl))))) ?_; rw [HAS.out]))
    | fail)
  go_ret
  exact ⟨rfl, HX.out.alloc HX.out.size _⟩
end Go.Proofs.YtogonkoeginoaaaGreatDoor

namespace Go.Proofs.YtogonkoeginoaaaGreatDoor
open Go.RowKit Go.Maps
set_option maxRecDepth 100000

/-- The table of powers lies in the world. -/
def Tab (w : World) : Prop := Lib.TabIs Tryz.prog w "internal/strconv.uint64pow10" .u64 Lib.pow10Tab
theorem Tab.next {w w' : World} (h : Tab w) (hb : Below w.heap.size w w') : Tab w' := by
  unfold Tab Lib.TabIs World.var? at h ⊢
  cases hg : Tryz.prog.globalNamed "internal/strconv.uint64pow10" with
  | none => rw [hg] at h; cases h
  | some g =>
    rw [hg] at h
    simp only [Option.bind_some] at h ⊢
    have hlt : g < w.heap.size := by
      rcases Nat.lt_or_ge g w.heap.size with h' | h'
      · exact h'
      · rw [Array.getElem?_eq_none h'] at h; cases h
    rw [hb.block g hlt]
    exact h

theorem format_seven (w : World) (ht : Tab w) : Calls Tryz.prog 53 #[.int .i64 (-7), .int .i64 10] w fun e w' => e = .returned (.string ⟨#[45, 55]⟩) ∧ Below w.heap.size w w' := by
  have HF := hide (Tryz.internal_strconv_FormatInt_10 (-7) (by omega) (by omega) w ht)
  go_enter Tryz.func53, Tryz.ntmps53
  go_wp2_with fail
  refine HF.out.mono ?_
  rintro e w2 ⟨rfl, k, os, rfl⟩
  have e1 : (⟨(Lib.itoa (-7)).toArray⟩ : ByteArray) = ⟨#[45, 55]⟩ := by kernel_rfl
  rw [e1]
  go_wp2_with fail
  go_ret
  exact ⟨rfl, Go.Lib.below_grow _ _ (Nat.le_refl _) _ _⟩

theorem valmay_seven (w : World) : Calls Tryz.prog 45 #[.agg #[.bool true, .int .i64 (-7), .string ⟨#[]⟩]] w fun e w' => e = .returned (.bool true) ∧ Below w.heap.size w w' :=
  (valmay_any ⟨[], true, -7, []⟩ w ⟨⟨by decide, by decide⟩, by decide, by decide⟩).mono (by rintro e w' ⟨rfl, h⟩; exact ⟨by kernel_rfl, h⟩)
theorem pack_300 (w : World) : Calls Tryz.prog 24 #[.int .u64 300] w fun e w' => e = .returned (.string ⟨#[172, 2]⟩) ∧ Below w.heap.size w w' :=
  (pack_any 300 w (by decide) (by decide)).mono (by rintro e w' ⟨rfl, h⟩; exact ⟨by kernel_rfl, h⟩)

theorem write_seven (w : World) (ht : Tab w) : Calls Tryz.prog 27 #[.agg #[.bool true, .int .i64 (-7), .string ⟨#[]⟩]] w fun e w' => e = .returned (.tuple #[.string ⟨#[45, 55]⟩, .int .i64 0]) ∧ Below w.heap.size w w' := by
  have HV := hide valmay_seven
  have HF := hide (fun (w : World) (ht : Tab w) => format_seven w ht)
  have HT := hide ht
  have hbx : Below w.heap.size w (w.alloc (.cells #[.bool true, .int .i64 (-7), .string ⟨#[]⟩] 78)) := (Below.refl _ _).alloc (Nat.le_refl _) _
  have HBX := hide hbx
  have hbk := Blk.new w [.bool true, .int .i64 (-7), .string ⟨#[]⟩] 78
  have HBK := hide hbk
  clear hbx hbk
  go_enter Tryz.func27, Tryz.ntmps27
  go_wp2_with fail
  refine (HV.out _).mono ?_
  rintro e w2 ⟨rfl, hb⟩
  have hk2 := HBK.out.next hb
  have c0 := hk2.cell 0
  have c1 := hk2.cell 1
  simp only [List.getElem?_cons_zero, List.getElem?_cons_succ] at c0 c1
  have hb2 := HBX.out.trans (hb.mono HBX.out.size)
  have HB2 := hide hb2
  have HT2 := hide (HT.out.next hb2)
  clear hb hb2 hk2
  go_wp2_with fail
  refine (HF.out _ HT2.out).mono ?_
  rintro e w3 ⟨rfl, hb3⟩
  go_wp2_with fail
  go_ret2
  exact ⟨rfl, HB2.out.trans (hb3.mono HB2.out.size)⟩

theorem works_first (w : World) (hv : Vars w) (ht : Tab w) : Calls Tryz.prog 6 #[] w fun e w' => e = .returned (.bool true) ∧ Below w.heap.size w w' := by
  have HW := hide (write_seven w ht)
  have HP := hide pack_300
  have HM := hide (fun (w : World) (hv : Vars w) => meets_one w hv)
  have HV := hide hv
  clear hv
  go_enter Tryz.func6, Tryz.ntmps6
  go_wp2_with fail
  refine HW.out.mono ?_
  rintro e w1 ⟨rfl, hb1⟩
  go_wp2_with fail
  refine (HP.out _).mono ?_
  rintro e w2 ⟨rfl, hb2⟩
  have hb := hb1.trans (hb2.mono hb1.size)
  clear hb1 hb2
  go_wp2_with fail
  refine (HM.out _ (HV.out.next hb)).mono ?_
  rintro e w3 ⟨rfl, hb3⟩
  go_wp2_with fail
  go_ret
  exact ⟨rfl, hb.trans (hb3.mono hb.size)⟩
end Go.Proofs.YtogonkoeginoaaaGreatDoor
