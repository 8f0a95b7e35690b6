/-
  Small facts on memory: an owned row of octets, and the string that is made of it.
-/
import Derived.Test.YtogonkoeginoaaaGreatDoorProg
import Derived.Test.YtogonkoeginoaaaGreatDoorNumPure
import Derived.WalkKit
import Derived.WalkSpells
import Derived.WalkLawsBesides
import Derived.Laws.BitsAllLaws
namespace Go.Proofs.YtogonkoeginoaaaGreatDoor
open Go.RowKit

theorem hide {p : Prop} (h : p) : Hid p := h

theorem own : ownKnob Tryz.prog.godebug = none := by kernel_rfl
theorem laidOut : laidOutB Tryz.prog = true := by kernel_rfl

/-- The cells of octets. -/
def byteCells (l : List UInt8) : List Value := l.map fun c => Value.int .u8 (c.toNat : Int)
theorem byteCells_length (l : List UInt8) : (byteCells l).length = l.length := by simp [byteCells]
theorem byteCells_append (a b : List UInt8) : byteCells (a ++ b) = byteCells a ++ byteCells b := by simp [byteCells]
theorem byteCells_set (a : List UInt8) (i : Nat) (c : UInt8) : (byteCells a).set i (.int .u8 (c.toNat : Int)) = byteCells (a.set i c) := by
  simp [byteCells, List.map_set]

theorem byteCells_one (l : List UInt8) : ∀ u ∈ byteCells l, u.oneCell' = true := by
  intro u hu
  obtain ⟨_, _, rfl⟩ := List.mem_map.1 hu
  rfl

theorem info_u8 : (Tryz.prog.info? 5).map (fun i => (i.zero, i.size, i.bytes)) = some (some (.int .u8 0), 1, 1) := by kernel_rfl

/-- 'string(b)' of an owned row of octets. -/
theorem conv_own {P : Program} {w : World} {base e : Nat} {v : Value} {n : Nat} {l : List UInt8} {src dst : TypeId} (hs : P.underlying src = some (.slice e)) (he : P.underlying e = some (.int .u8)) (hd : P.underlying dst = some .string)
    (h : w.ownsRow base e 1 v n (byteCells l)) : (convert src dst v).run P w = .ok (.string (bs l)) w := by
  obtain ⟨hlen, h2⟩ := h
  rw [byteCells_length] at hlen
  rcases h2 with ⟨rfl, hn⟩ | ⟨g, cap, cur, rfl, hb, hg, hnc, hcm, hcs, htake⟩
  · have : l = [] := List.eq_nil_of_length_eq_zero (by omega)
    subst this
    exact run_convert_bytes_nil w src e hs he 0 0 dst hd
  · obtain rfl : n = l.length := by omega
    refine run_convert_bytes_back w src dst e ⟨g, 0, none⟩ cap l hs he hd ?_
    intro j hj
    have hadd : (⟨g, 0, none⟩ : Addr).add j = ⟨g, j, none⟩ := by unfold Addr.add; split <;> simp_all
    rw [hadd, cell_of_row w g j cur e (0, 0) hg]
    have h3 : (cur.toList.take (l.length * 1))[j]? = (byteCells l)[j]? := by rw [htake]
    rw [List.getElem?_take, if_pos (by omega)] at h3
    simp [byteCells, hj] at h3
    simp [h3]

/-- 'string([]byte{c})': a new block of one octet, and the string of it. -/
theorem conv_new {P : Program} {src dst e : TypeId} (hs : P.underlying src = some (.slice e)) (he : P.underlying e = some (.int .u8)) (hd : P.underlying dst = some .string) (x : Int) (c : UInt8) (hx : x = (c.toNat : Int)) (w : World) :
    (convert src dst (.slice (some ⟨w.heap.size, 0, none⟩) 1 1)).run P (w.alloc (.cells #[.int .u8 x] e)) = .ok (.string (bs [c])) (w.alloc (.cells #[.int .u8 x] e)) := by
  subst hx
  refine conv_own (base := w.heap.size) (n := 1) (l := [c]) hs he hd ?_
  exact ⟨rfl, .inr ⟨w.heap.size, 1, _, rfl, Nat.le_refl _, heap_alloc_new w _, Nat.le_refl _, by simp [maxLen], rfl, rfl⟩⟩

theorem bs_append (a b : List UInt8) : bs a ++ bs b = bs (a ++ b) := by
  unfold bs
  rw [ByteArray.mk_append_mk]

theorem toList_empty {s : ByteArray} (h : s.size = 0) : s.toList.isEmpty = true := by
  rw [ByteArray.toList_eq]
  have : s.data.toList.length = 0 := h
  rw [List.length_eq_zero_iff.1 this]
  rfl
theorem toList_some {s : ByteArray} (h : 0 < s.size) : s.toList.isEmpty = false := by
  rw [ByteArray.toList_eq]
  have : 0 < s.data.toList.length := by simpa using h
  cases hs : s.data.toList with
  | nil => rw [hs] at this; simp at this
  | cons c r => rfl

/-- 'string(b)' of one octet that lies at the head of a block, in whatever world. -/
theorem conv_cell {P : Program} {src dst e : TypeId} (hs : P.underlying src = some (.slice e)) (he : P.underlying e = some (.int .u8)) (hd : P.underlying dst = some .string) (x : Int) (c : UInt8) (hx : x = (c.toNat : Int)) (b : Nat) (w : World)
    (hc : w.cell? ⟨b, 0, none⟩ = some (.int .u8 x)) : (convert src dst (.slice (some ⟨b, 0, none⟩) 1 1)).run P w = .ok (.string (bs [c])) w := by
  subst hx
  refine run_convert_bytes_back w src dst e ⟨b, 0, none⟩ 1 [c] hs he hd ?_
  intro j hj
  obtain rfl : j = 0 := by simpa using hj
  exact hc

theorem bcell {B : Nat} {W w1 : World} (hb : Below B W w1) : (∀ b o, b < B → w1.cell? ⟨b, o, none⟩ = W.cell? ⟨b, o, none⟩) ∧ (∀ b o, b < B → w1.frozen? ⟨b, o, none⟩ = W.frozen? ⟨b, o, none⟩) :=
  ⟨fun b o h => hb.cell (p := ⟨b, o, none⟩) h, fun b o h => hb.frozen (p := ⟨b, o, none⟩) h⟩

/-- Two steps, one behind the other, each of which writes nothing that was there ahead of it. -/
theorem chain {w w1 w2 : World} (h1 : Below w.heap.size w w1) (h2 : Below w1.heap.size w1 w2) : Below w.heap.size w w2 := h1.trans (h2.mono h1.size)

theorem u64_bd {a : Int} (h : (Lit.int .u64 a).wf = true) : 0 ≤ a ∧ a < 18446744073709551616 := by
  simp [Lit.wf, IntKind.min, IntKind.max, IntKind.bits, IntKind.signed] at h
  omega
theorem i64_bd {a : Int} (h : (Lit.int .i64 a).wf = true) : -9223372036854775808 ≤ a ∧ a < 9223372036854775808 := by
  simp [Lit.wf, IntKind.min, IntKind.max, IntKind.bits, IntKind.signed] at h
  omega

end Go.Proofs.YtogonkoeginoaaaGreatDoor
