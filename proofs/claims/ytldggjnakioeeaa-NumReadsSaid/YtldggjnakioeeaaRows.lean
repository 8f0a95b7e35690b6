/-
  No cell of these rows narrows 'for every input' (looked for: loops, veiled, ifaces, maps, wideKeys, modest, calm, conditions, laid).
  DERIVED. THE GIVEN ROWS OF THIS SEAT. 7 by the template 'for every input the law returns true; each argument reads behind the call as it read before'; 0 by the template 'total and deterministic' (their statements: YtldggjnakioeeaaTotals.lean).
  GIVEN WITH THE SEED: the statements are not yours to turn. If you find one false, say at which input.
  Laid BY PROGRAM, IN A SANDBOX (cutbox-rows.mjs): the forced cells as the released guide's own fill.sh prints them over the translation 0dc56b3e997d0083… (all of the seat's roots in one cut). By AI agents, Wed Nov 11 2026. No macro, syntax, notation, axiom, sorry.
-/
import Derived.Test.YtldggjnakioeeaaChecked
import GoSem.Claim
import GoSem.ClaimJoined
import GoSem.ClaimMapViews
import Derived.JoinedTies
import Derived.KernelRfl
namespace Go.Proofs.Ytldggjnakioeeaa
/- THE CELL 'sum', in the pinned program and in every row, IS THE sha256 OF THE DUMP (.gsa) THAT YtldggjnakioeeaaProg.lean LOADS. Nothing in Lean hashes anything: it is a label: what it is worth is what the hold of that sum in a sandbox is worth. -/
noncomputable def Try.pinned : Pinned := { name := "ytldggjnakioeeaa", sum := "0dc56b3e997d008314ceedea03ca9a24e55252a1598dea916807f1a7f0b7dd90", checked := Try.checked }
namespace Rows
def none {H : Type} : Left H := { results := [], args := [] }

/-- 'trystlaw01.NumApart': WHATEVER THE INPUT: true; the input reads as it did. -/
def numApartSpec : ChangeSpec := { name := "numApart", fn := fun _ => fun
  | [d1, d2, d3] => { results := [.lit (.bool true)], args := [d1, d2, d3] }
  | _ => none }
def numApartRow : OpenClaim := { program := "ytldggjnakioeeaa", sum := "0dc56b3e997d008314ceedea03ca9a24e55252a1598dea916807f1a7f0b7dd90", func := "tryst/trystlaw01.NumApart", spec := "numApart", apart := false }
def NumApartSaid : Prop := numApartRow.holds Try.pinned (OpenSpec.ofChange numApartSpec)

/-- ITS FALSE NEIGHBOUR: 'it returns false'. Refute it at one input. -/
def numApartWrong : ChangeSpec := { name := "numApart", fn := fun _ => fun
  | [d1, d2, d3] => { results := [.lit (.bool false)], args := [d1, d2, d3] }
  | _ => none }
def NumApartWrongFalsely : Prop := numApartRow.holds Try.pinned (OpenSpec.ofChange numApartWrong)

/-- 'trystlaw01.NumBehind': WHATEVER THE INPUT: true; the input reads as it did. -/
def numBehindSpec : ChangeSpec := { name := "numBehind", fn := fun _ => fun
  | [d1, d2] => { results := [.lit (.bool true)], args := [d1, d2] }
  | _ => none }
def numBehindRow : OpenClaim := { program := "ytldggjnakioeeaa", sum := "0dc56b3e997d008314ceedea03ca9a24e55252a1598dea916807f1a7f0b7dd90", func := "tryst/trystlaw01.NumBehind", spec := "numBehind", apart := false }
def NumBehindSaid : Prop := numBehindRow.holds Try.pinned (OpenSpec.ofChange numBehindSpec)

/-- ITS FALSE NEIGHBOUR: 'it returns false'. Refute it at one input. -/
def numBehindWrong : ChangeSpec := { name := "numBehind", fn := fun _ => fun
  | [d1, d2] => { results := [.lit (.bool false)], args := [d1, d2] }
  | _ => none }
def NumBehindWrongFalsely : Prop := numBehindRow.holds Try.pinned (OpenSpec.ofChange numBehindWrong)

/-- 'trystlaw01.NumWidths': WHATEVER THE INPUT: true; the input reads as it did. -/
def numWidthsSpec : ChangeSpec := { name := "numWidths", fn := fun _ => fun
  | [d1, d2] => { results := [.lit (.bool true)], args := [d1, d2] }
  | _ => none }
def numWidthsRow : OpenClaim := { program := "ytldggjnakioeeaa", sum := "0dc56b3e997d008314ceedea03ca9a24e55252a1598dea916807f1a7f0b7dd90", func := "tryst/trystlaw01.NumWidths", spec := "numWidths", apart := false }
def NumWidthsSaid : Prop := numWidthsRow.holds Try.pinned (OpenSpec.ofChange numWidthsSpec)

/-- ITS FALSE NEIGHBOUR: 'it returns false'. Refute it at one input. -/
def numWidthsWrong : ChangeSpec := { name := "numWidths", fn := fun _ => fun
  | [d1, d2] => { results := [.lit (.bool false)], args := [d1, d2] }
  | _ => none }
def NumWidthsWrongFalsely : Prop := numWidthsRow.holds Try.pinned (OpenSpec.ofChange numWidthsWrong)

/-- 'trystlaw01.NumShort': WHATEVER THE INPUT: true; the input reads as it did. -/
def numShortSpec : ChangeSpec := { name := "numShort", fn := fun _ => fun
  | [d1, d2] => { results := [.lit (.bool true)], args := [d1, d2] }
  | _ => none }
def numShortRow : OpenClaim := { program := "ytldggjnakioeeaa", sum := "0dc56b3e997d008314ceedea03ca9a24e55252a1598dea916807f1a7f0b7dd90", func := "tryst/trystlaw01.NumShort", spec := "numShort", apart := false }
def NumShortSaid : Prop := numShortRow.holds Try.pinned (OpenSpec.ofChange numShortSpec)

/-- ITS FALSE NEIGHBOUR: 'it returns false'. Refute it at one input. -/
def numShortWrong : ChangeSpec := { name := "numShort", fn := fun _ => fun
  | [d1, d2] => { results := [.lit (.bool false)], args := [d1, d2] }
  | _ => none }
def NumShortWrongFalsely : Prop := numShortRow.holds Try.pinned (OpenSpec.ofChange numShortWrong)

/-- 'trystlaw01.NumSigns': WHATEVER THE INPUT: true; the input reads as it did. -/
def numSignsSpec : ChangeSpec := { name := "numSigns", fn := fun _ => fun
  | [d1, d2] => { results := [.lit (.bool true)], args := [d1, d2] }
  | _ => none }
def numSignsRow : OpenClaim := { program := "ytldggjnakioeeaa", sum := "0dc56b3e997d008314ceedea03ca9a24e55252a1598dea916807f1a7f0b7dd90", func := "tryst/trystlaw01.NumSigns", spec := "numSigns", apart := false }
def NumSignsSaid : Prop := numSignsRow.holds Try.pinned (OpenSpec.ofChange numSignsSpec)

/-- ITS FALSE NEIGHBOUR: 'it returns false'. Refute it at one input. -/
def numSignsWrong : ChangeSpec := { name := "numSigns", fn := fun _ => fun
  | [d1, d2] => { results := [.lit (.bool false)], args := [d1, d2] }
  | _ => none }
def NumSignsWrongFalsely : Prop := numSignsRow.holds Try.pinned (OpenSpec.ofChange numSignsWrong)

/-- 'trystlaw01.NumLays': WHATEVER THE INPUT: true; the input reads as it did. -/
def numLaysSpec : ChangeSpec := { name := "numLays", fn := fun _ => fun
  | [d1, d2] => { results := [.lit (.bool true)], args := [d1, d2] }
  | _ => none }
def numLaysRow : OpenClaim := { program := "ytldggjnakioeeaa", sum := "0dc56b3e997d008314ceedea03ca9a24e55252a1598dea916807f1a7f0b7dd90", func := "tryst/trystlaw01.NumLays", spec := "numLays", recurses := true, apart := false }
def NumLaysSaid : Prop := numLaysRow.holds Try.pinned (OpenSpec.ofChange numLaysSpec)

/-- ITS FALSE NEIGHBOUR: 'it returns false'. Refute it at one input. -/
def numLaysWrong : ChangeSpec := { name := "numLays", fn := fun _ => fun
  | [d1, d2] => { results := [.lit (.bool false)], args := [d1, d2] }
  | _ => none }
def NumLaysWrongFalsely : Prop := numLaysRow.holds Try.pinned (OpenSpec.ofChange numLaysWrong)

/-- 'trystlaw01.NumReads': WHATEVER THE INPUT: true; the input reads as it did. -/
def numReadsSpec : ChangeSpec := { name := "numReads", fn := fun _ => fun
  | [d] => { results := [.lit (.bool true)], args := [d] }
  | _ => none }
def numReadsRow : OpenClaim := { program := "ytldggjnakioeeaa", sum := "0dc56b3e997d008314ceedea03ca9a24e55252a1598dea916807f1a7f0b7dd90", func := "tryst/trystlaw01.NumReads", spec := "numReads", recurses := true, apart := false }
def NumReadsSaid : Prop := numReadsRow.holds Try.pinned (OpenSpec.ofChange numReadsSpec)

/-- ITS FALSE NEIGHBOUR: 'it returns false'. Refute it at one input. -/
def numReadsWrong : ChangeSpec := { name := "numReads", fn := fun _ => fun
  | [d] => { results := [.lit (.bool false)], args := [d] }
  | _ => none }
def NumReadsWrongFalsely : Prop := numReadsRow.holds Try.pinned (OpenSpec.ofChange numReadsWrong)

/- THE SECOND FORM. 'bulk': how many values and letters a reading holds, each counted each time it is reached (what is shared counts as often as it is met; a slice's spare places count too). A statement '..UptoSaid' is the law's where the arguments, and the package variables that the reading takes, are together of bulk at most 1048576: NARROWER than '..Said'. Prove '..Said' where nothing that the law and all that it calls make is longer than what came in: it says more and counts as full. Else prove '..UptoSaid'. A law counts once. -/
mutual
def uptoBulk {H : Type} : DataW H → Nat
  | .lit (.string bytes) => bytes.length + 1
  | .lit _ => 1
  | .nil => 1
  | .ptr d => uptoBulk d + 1
  | .slice elems spare => uptoBulkAll elems + uptoBulkAll spare + 1
  | .agg parts => uptoBulkAll parts + 1
  | .iface _ d => uptoBulk d + 1
  | .map entries => uptoBulkEntries entries + 1
  | .held _ => 1
def uptoBulkAll {H : Type} : List (DataW H) → Nat
  | [] => 0
  | d :: r => uptoBulk d + uptoBulkAll r
def uptoBulkEntries {H : Type} : List (Lit × DataW H) → Nat
  | [] => 0
  | x :: r => uptoBulkEntry x + uptoBulkEntries r
def uptoBulkEntry {H : Type} : Lit × DataW H → Nat
  | (.string bytes, d) => bytes.length + uptoBulk d + 1
  | (_, d) => uptoBulk d + 1
 end
def uptoSmall : (H : Type) → List (DataW H) → Bool := fun _ ds => decide (uptoBulkAll ds ≤ 1048576)
def OpenSpec.upto (s : _root_.Go.ChangeSpec) : _root_.Go.OpenSpec := { _root_.Go.OpenSpec.ofChange s with cond := some uptoSmall }

/-- 'trystlaw01.NumApart', WHERE WHAT IT READS IS OF BULK AT MOST 1048576: true; the input reads as it did. -/
def numApartUptoRow : OpenClaim := { program := "ytldggjnakioeeaa", sum := "0dc56b3e997d008314ceedea03ca9a24e55252a1598dea916807f1a7f0b7dd90", func := "tryst/trystlaw01.NumApart", spec := "numApart", apart := false, narrowed := true }
def NumApartUptoSaid : Prop := numApartUptoRow.holds Try.pinned (OpenSpec.upto numApartSpec)

/-- 'trystlaw01.NumBehind', WHERE WHAT IT READS IS OF BULK AT MOST 1048576: true; the input reads as it did. -/
def numBehindUptoRow : OpenClaim := { program := "ytldggjnakioeeaa", sum := "0dc56b3e997d008314ceedea03ca9a24e55252a1598dea916807f1a7f0b7dd90", func := "tryst/trystlaw01.NumBehind", spec := "numBehind", apart := false, narrowed := true }
def NumBehindUptoSaid : Prop := numBehindUptoRow.holds Try.pinned (OpenSpec.upto numBehindSpec)

/-- 'trystlaw01.NumWidths', WHERE WHAT IT READS IS OF BULK AT MOST 1048576: true; the input reads as it did. -/
def numWidthsUptoRow : OpenClaim := { program := "ytldggjnakioeeaa", sum := "0dc56b3e997d008314ceedea03ca9a24e55252a1598dea916807f1a7f0b7dd90", func := "tryst/trystlaw01.NumWidths", spec := "numWidths", apart := false, narrowed := true }
def NumWidthsUptoSaid : Prop := numWidthsUptoRow.holds Try.pinned (OpenSpec.upto numWidthsSpec)

/-- 'trystlaw01.NumShort', WHERE WHAT IT READS IS OF BULK AT MOST 1048576: true; the input reads as it did. -/
def numShortUptoRow : OpenClaim := { program := "ytldggjnakioeeaa", sum := "0dc56b3e997d008314ceedea03ca9a24e55252a1598dea916807f1a7f0b7dd90", func := "tryst/trystlaw01.NumShort", spec := "numShort", apart := false, narrowed := true }
def NumShortUptoSaid : Prop := numShortUptoRow.holds Try.pinned (OpenSpec.upto numShortSpec)

/-- 'trystlaw01.NumSigns', WHERE WHAT IT READS IS OF BULK AT MOST 1048576: true; the input reads as it did. -/
def numSignsUptoRow : OpenClaim := { program := "ytldggjnakioeeaa", sum := "0dc56b3e997d008314ceedea03ca9a24e55252a1598dea916807f1a7f0b7dd90", func := "tryst/trystlaw01.NumSigns", spec := "numSigns", apart := false, narrowed := true }
def NumSignsUptoSaid : Prop := numSignsUptoRow.holds Try.pinned (OpenSpec.upto numSignsSpec)

/-- 'trystlaw01.NumLays', WHERE WHAT IT READS IS OF BULK AT MOST 1048576: true; the input reads as it did. -/
def numLaysUptoRow : OpenClaim := { program := "ytldggjnakioeeaa", sum := "0dc56b3e997d008314ceedea03ca9a24e55252a1598dea916807f1a7f0b7dd90", func := "tryst/trystlaw01.NumLays", spec := "numLays", recurses := true, apart := false, narrowed := true }
def NumLaysUptoSaid : Prop := numLaysUptoRow.holds Try.pinned (OpenSpec.upto numLaysSpec)

/-- 'trystlaw01.NumReads', WHERE WHAT IT READS IS OF BULK AT MOST 1048576: true; the input reads as it did. -/
def numReadsUptoRow : OpenClaim := { program := "ytldggjnakioeeaa", sum := "0dc56b3e997d008314ceedea03ca9a24e55252a1598dea916807f1a7f0b7dd90", func := "tryst/trystlaw01.NumReads", spec := "numReads", recurses := true, apart := false, narrowed := true }
def NumReadsUptoSaid : Prop := numReadsUptoRow.holds Try.pinned (OpenSpec.upto numReadsSpec)

end Rows
end Go.Proofs.Ytldggjnakioeeaa
