/-
  No cell of these rows narrows 'for every input' (looked for: loops, veiled, ifaces, maps, wideKeys, modest, calm, conditions, laid).
  DERIVED. THE GIVEN ROWS OF THIS SEAT. 17 by the template 'for every input the law returns true; each argument reads behind the call as it read before'; 0 by the template 'total and deterministic' (their statements: YtkapdmhjhbmdjaaTotals.lean).
  GIVEN WITH THE SEED: the statements are not yours to turn. If you find one false, say at which input.
  Laid BY PROGRAM, IN A SANDBOX (cutbox-rows.mjs): the forced cells as the released guide's own fill.sh prints them over the translation f9e5743077740377… (all of the seat's roots in one cut). By AI agents, Wed Nov 11 2026. No macro, syntax, notation, axiom, sorry.
-/
import Derived.Test.YtkapdmhjhbmdjaaChecked
import GoSem.Claim
import GoSem.ClaimJoined
import GoSem.ClaimMapViews
import Derived.JoinedTies
import Derived.KernelRfl
namespace Go.Proofs.Ytkapdmhjhbmdjaa
/- THE CELL 'sum', in the pinned program and in every row, IS THE sha256 OF THE DUMP (.gsa) THAT YtkapdmhjhbmdjaaProg.lean LOADS. Nothing in Lean hashes anything: it is a label: what it is worth is what the hold of that sum in a sandbox is worth. -/
noncomputable def Try.pinned : Pinned := { name := "ytkapdmhjhbmdjaa", sum := "f9e5743077740377875965892934469818150c25d98fa2074b7459614311cbb0", checked := Try.checked }
namespace Rows
def none {H : Type} : Left H := { results := [], args := [] }

/-- 'trystlaw17.DiskCrashes': WHATEVER THE INPUT: true; the input reads as it did. -/
def diskCrashesSpec : ChangeSpec := { name := "diskCrashes", fn := fun _ => fun
  | [d1, d2, d3] => { results := [.lit (.bool true)], args := [d1, d2, d3] }
  | _ => none }
def diskCrashesRow : OpenClaim := { program := "ytkapdmhjhbmdjaa", sum := "f9e5743077740377875965892934469818150c25d98fa2074b7459614311cbb0", func := "tryst/trystlaw17.DiskCrashes", spec := "diskCrashes", inPlace := ["internal/abi.NoEscape", "internal/bytealg.MakeNoZero"], unfollowed := true, recurses := true, apart := false }
def DiskCrashesSaid : Prop := diskCrashesRow.holds Try.pinned (OpenSpec.ofChange diskCrashesSpec)

/-- ITS FALSE NEIGHBOUR: 'it returns false'. Refute it at one input. -/
def diskCrashesWrong : ChangeSpec := { name := "diskCrashes", fn := fun _ => fun
  | [d1, d2, d3] => { results := [.lit (.bool false)], args := [d1, d2, d3] }
  | _ => none }
def DiskCrashesWrongFalsely : Prop := diskCrashesRow.holds Try.pinned (OpenSpec.ofChange diskCrashesWrong)

/-- 'trystlaw17.DiskWrites': WHATEVER THE INPUT: true; the input reads as it did. -/
def diskWritesSpec : ChangeSpec := { name := "diskWrites", fn := fun _ => fun
  | [d1, d2, d3] => { results := [.lit (.bool true)], args := [d1, d2, d3] }
  | _ => none }
def diskWritesRow : OpenClaim := { program := "ytkapdmhjhbmdjaa", sum := "f9e5743077740377875965892934469818150c25d98fa2074b7459614311cbb0", func := "tryst/trystlaw17.DiskWrites", spec := "diskWrites", inPlace := ["internal/abi.NoEscape", "internal/bytealg.MakeNoZero"], unfollowed := true, recurses := true, apart := false }
def DiskWritesSaid : Prop := diskWritesRow.holds Try.pinned (OpenSpec.ofChange diskWritesSpec)

/-- ITS FALSE NEIGHBOUR: 'it returns false'. Refute it at one input. -/
def diskWritesWrong : ChangeSpec := { name := "diskWrites", fn := fun _ => fun
  | [d1, d2, d3] => { results := [.lit (.bool false)], args := [d1, d2, d3] }
  | _ => none }
def DiskWritesWrongFalsely : Prop := diskWritesRow.holds Try.pinned (OpenSpec.ofChange diskWritesWrong)

/-- 'trystlaw17.DiskHolds': WHATEVER THE INPUT: true; the input reads as it did. -/
def diskHoldsSpec : ChangeSpec := { name := "diskHolds", fn := fun _ => fun
  | [d1, d2, d3] => { results := [.lit (.bool true)], args := [d1, d2, d3] }
  | _ => none }
def diskHoldsRow : OpenClaim := { program := "ytkapdmhjhbmdjaa", sum := "f9e5743077740377875965892934469818150c25d98fa2074b7459614311cbb0", func := "tryst/trystlaw17.DiskHolds", spec := "diskHolds", inPlace := ["internal/abi.NoEscape", "internal/bytealg.MakeNoZero"], unfollowed := true, recurses := true, apart := false }
def DiskHoldsSaid : Prop := diskHoldsRow.holds Try.pinned (OpenSpec.ofChange diskHoldsSpec)

/-- ITS FALSE NEIGHBOUR: 'it returns false'. Refute it at one input. -/
def diskHoldsWrong : ChangeSpec := { name := "diskHolds", fn := fun _ => fun
  | [d1, d2, d3] => { results := [.lit (.bool false)], args := [d1, d2, d3] }
  | _ => none }
def DiskHoldsWrongFalsely : Prop := diskHoldsRow.holds Try.pinned (OpenSpec.ofChange diskHoldsWrong)

/-- 'trystlaw17.DiskTears': WHATEVER THE INPUT: true; the input reads as it did. -/
def diskTearsSpec : ChangeSpec := { name := "diskTears", fn := fun _ => fun
  | [d1, d2, d3] => { results := [.lit (.bool true)], args := [d1, d2, d3] }
  | _ => none }
def diskTearsRow : OpenClaim := { program := "ytkapdmhjhbmdjaa", sum := "f9e5743077740377875965892934469818150c25d98fa2074b7459614311cbb0", func := "tryst/trystlaw17.DiskTears", spec := "diskTears", inPlace := ["internal/abi.NoEscape", "internal/bytealg.MakeNoZero"], unfollowed := true, recurses := true, apart := false }
def DiskTearsSaid : Prop := diskTearsRow.holds Try.pinned (OpenSpec.ofChange diskTearsSpec)

/-- ITS FALSE NEIGHBOUR: 'it returns false'. Refute it at one input. -/
def diskTearsWrong : ChangeSpec := { name := "diskTears", fn := fun _ => fun
  | [d1, d2, d3] => { results := [.lit (.bool false)], args := [d1, d2, d3] }
  | _ => none }
def DiskTearsWrongFalsely : Prop := diskTearsRow.holds Try.pinned (OpenSpec.ofChange diskTearsWrong)

/-- 'trystlaw17.DiskReads': WHATEVER THE INPUT: true; the input reads as it did. -/
def diskReadsSpec : ChangeSpec := { name := "diskReads", fn := fun _ => fun
  | [d1, d2, d3] => { results := [.lit (.bool true)], args := [d1, d2, d3] }
  | _ => none }
def diskReadsRow : OpenClaim := { program := "ytkapdmhjhbmdjaa", sum := "f9e5743077740377875965892934469818150c25d98fa2074b7459614311cbb0", func := "tryst/trystlaw17.DiskReads", spec := "diskReads", inPlace := ["internal/abi.NoEscape", "internal/bytealg.MakeNoZero"], unfollowed := true, recurses := true, apart := false }
def DiskReadsSaid : Prop := diskReadsRow.holds Try.pinned (OpenSpec.ofChange diskReadsSpec)

/-- ITS FALSE NEIGHBOUR: 'it returns false'. Refute it at one input. -/
def diskReadsWrong : ChangeSpec := { name := "diskReads", fn := fun _ => fun
  | [d1, d2, d3] => { results := [.lit (.bool false)], args := [d1, d2, d3] }
  | _ => none }
def DiskReadsWrongFalsely : Prop := diskReadsRow.holds Try.pinned (OpenSpec.ofChange diskReadsWrong)

/-- 'trystlaw17.DiskFuels': WHATEVER THE INPUT: true; the input reads as it did. -/
def diskFuelsSpec : ChangeSpec := { name := "diskFuels", fn := fun _ => fun
  | [d1, d2] => { results := [.lit (.bool true)], args := [d1, d2] }
  | _ => none }
def diskFuelsRow : OpenClaim := { program := "ytkapdmhjhbmdjaa", sum := "f9e5743077740377875965892934469818150c25d98fa2074b7459614311cbb0", func := "tryst/trystlaw17.DiskFuels", spec := "diskFuels", inPlace := ["internal/abi.NoEscape", "internal/bytealg.MakeNoZero"], unfollowed := true, recurses := true, apart := false }
def DiskFuelsSaid : Prop := diskFuelsRow.holds Try.pinned (OpenSpec.ofChange diskFuelsSpec)

/-- ITS FALSE NEIGHBOUR: 'it returns false'. Refute it at one input. -/
def diskFuelsWrong : ChangeSpec := { name := "diskFuels", fn := fun _ => fun
  | [d1, d2] => { results := [.lit (.bool false)], args := [d1, d2] }
  | _ => none }
def DiskFuelsWrongFalsely : Prop := diskFuelsRow.holds Try.pinned (OpenSpec.ofChange diskFuelsWrong)

/-- 'trystlaw18.LogAppends': WHATEVER THE INPUT: true; the input reads as it did. -/
def logAppendsSpec : ChangeSpec := { name := "logAppends", fn := fun _ => fun
  | [d] => { results := [.lit (.bool true)], args := [d] }
  | _ => none }
def logAppendsRow : OpenClaim := { program := "ytkapdmhjhbmdjaa", sum := "f9e5743077740377875965892934469818150c25d98fa2074b7459614311cbb0", func := "tryst/trystlaw18.LogAppends", spec := "logAppends", inPlace := ["internal/abi.NoEscape", "internal/bytealg.MakeNoZero"], unfollowed := true, recurses := true, apart := false }
def LogAppendsSaid : Prop := logAppendsRow.holds Try.pinned (OpenSpec.ofChange logAppendsSpec)

/-- ITS FALSE NEIGHBOUR: 'it returns false'. Refute it at one input. -/
def logAppendsWrong : ChangeSpec := { name := "logAppends", fn := fun _ => fun
  | [d] => { results := [.lit (.bool false)], args := [d] }
  | _ => none }
def LogAppendsWrongFalsely : Prop := logAppendsRow.holds Try.pinned (OpenSpec.ofChange logAppendsWrong)

/-- 'trystlaw18.LogScans': WHATEVER THE INPUT: true; the input reads as it did. -/
def logScansSpec : ChangeSpec := { name := "logScans", fn := fun _ => fun
  | [d] => { results := [.lit (.bool true)], args := [d] }
  | _ => none }
def logScansRow : OpenClaim := { program := "ytkapdmhjhbmdjaa", sum := "f9e5743077740377875965892934469818150c25d98fa2074b7459614311cbb0", func := "tryst/trystlaw18.LogScans", spec := "logScans", inPlace := ["internal/abi.NoEscape", "internal/bytealg.MakeNoZero"], unfollowed := true, recurses := true, apart := false }
def LogScansSaid : Prop := logScansRow.holds Try.pinned (OpenSpec.ofChange logScansSpec)

/-- ITS FALSE NEIGHBOUR: 'it returns false'. Refute it at one input. -/
def logScansWrong : ChangeSpec := { name := "logScans", fn := fun _ => fun
  | [d] => { results := [.lit (.bool false)], args := [d] }
  | _ => none }
def LogScansWrongFalsely : Prop := logScansRow.holds Try.pinned (OpenSpec.ofChange logScansWrong)

/-- 'trystlaw18.LogAgain': WHATEVER THE INPUT: true; the input reads as it did. -/
def logAgainSpec : ChangeSpec := { name := "logAgain", fn := fun _ => fun
  | [d1, d2, d3] => { results := [.lit (.bool true)], args := [d1, d2, d3] }
  | _ => none }
def logAgainRow : OpenClaim := { program := "ytkapdmhjhbmdjaa", sum := "f9e5743077740377875965892934469818150c25d98fa2074b7459614311cbb0", func := "tryst/trystlaw18.LogAgain", spec := "logAgain", inPlace := ["internal/abi.NoEscape", "internal/bytealg.MakeNoZero"], unfollowed := true, recurses := true, apart := false }
def LogAgainSaid : Prop := logAgainRow.holds Try.pinned (OpenSpec.ofChange logAgainSpec)

/-- ITS FALSE NEIGHBOUR: 'it returns false'. Refute it at one input. -/
def logAgainWrong : ChangeSpec := { name := "logAgain", fn := fun _ => fun
  | [d1, d2, d3] => { results := [.lit (.bool false)], args := [d1, d2, d3] }
  | _ => none }
def LogAgainWrongFalsely : Prop := logAgainRow.holds Try.pinned (OpenSpec.ofChange logAgainWrong)

/-- 'trystlaw18.LogSerials': WHATEVER THE INPUT: true; the input reads as it did. -/
def logSerialsSpec : ChangeSpec := { name := "logSerials", fn := fun _ => fun
  | [d1, d2, d3] => { results := [.lit (.bool true)], args := [d1, d2, d3] }
  | _ => none }
def logSerialsRow : OpenClaim := { program := "ytkapdmhjhbmdjaa", sum := "f9e5743077740377875965892934469818150c25d98fa2074b7459614311cbb0", func := "tryst/trystlaw18.LogSerials", spec := "logSerials", inPlace := ["internal/abi.NoEscape", "internal/bytealg.MakeNoZero"], unfollowed := true, recurses := true, apart := false }
def LogSerialsSaid : Prop := logSerialsRow.holds Try.pinned (OpenSpec.ofChange logSerialsSpec)

/-- ITS FALSE NEIGHBOUR: 'it returns false'. Refute it at one input. -/
def logSerialsWrong : ChangeSpec := { name := "logSerials", fn := fun _ => fun
  | [d1, d2, d3] => { results := [.lit (.bool false)], args := [d1, d2, d3] }
  | _ => none }
def LogSerialsWrongFalsely : Prop := logSerialsRow.holds Try.pinned (OpenSpec.ofChange logSerialsWrong)

/-- 'trystlaw18.LogRooms': WHATEVER THE INPUT: true; the input reads as it did. -/
def logRoomsSpec : ChangeSpec := { name := "logRooms", fn := fun _ => fun
  | [d1, d2, d3] => { results := [.lit (.bool true)], args := [d1, d2, d3] }
  | _ => none }
def logRoomsRow : OpenClaim := { program := "ytkapdmhjhbmdjaa", sum := "f9e5743077740377875965892934469818150c25d98fa2074b7459614311cbb0", func := "tryst/trystlaw18.LogRooms", spec := "logRooms", inPlace := ["internal/abi.NoEscape", "internal/bytealg.MakeNoZero"], unfollowed := true, recurses := true, apart := false }
def LogRoomsSaid : Prop := logRoomsRow.holds Try.pinned (OpenSpec.ofChange logRoomsSpec)

/-- ITS FALSE NEIGHBOUR: 'it returns false'. Refute it at one input. -/
def logRoomsWrong : ChangeSpec := { name := "logRooms", fn := fun _ => fun
  | [d1, d2, d3] => { results := [.lit (.bool false)], args := [d1, d2, d3] }
  | _ => none }
def LogRoomsWrongFalsely : Prop := logRoomsRow.holds Try.pinned (OpenSpec.ofChange logRoomsWrong)

/-- 'trystlaw18.LogBack': WHATEVER THE INPUT: true; the input reads as it did. -/
def logBackSpec : ChangeSpec := { name := "logBack", fn := fun _ => fun
  | [d1, d2] => { results := [.lit (.bool true)], args := [d1, d2] }
  | _ => none }
def logBackRow : OpenClaim := { program := "ytkapdmhjhbmdjaa", sum := "f9e5743077740377875965892934469818150c25d98fa2074b7459614311cbb0", func := "tryst/trystlaw18.LogBack", spec := "logBack", inPlace := ["internal/abi.NoEscape", "internal/bytealg.MakeNoZero"], unfollowed := true, recurses := true, apart := false }
def LogBackSaid : Prop := logBackRow.holds Try.pinned (OpenSpec.ofChange logBackSpec)

/-- ITS FALSE NEIGHBOUR: 'it returns false'. Refute it at one input. -/
def logBackWrong : ChangeSpec := { name := "logBack", fn := fun _ => fun
  | [d1, d2] => { results := [.lit (.bool false)], args := [d1, d2] }
  | _ => none }
def LogBackWrongFalsely : Prop := logBackRow.holds Try.pinned (OpenSpec.ofChange logBackWrong)

/-- 'trystlaw18.LogCuts': WHATEVER THE INPUT: true; the input reads as it did. -/
def logCutsSpec : ChangeSpec := { name := "logCuts", fn := fun _ => fun
  | [d1, d2, d3] => { results := [.lit (.bool true)], args := [d1, d2, d3] }
  | _ => none }
def logCutsRow : OpenClaim := { program := "ytkapdmhjhbmdjaa", sum := "f9e5743077740377875965892934469818150c25d98fa2074b7459614311cbb0", func := "tryst/trystlaw18.LogCuts", spec := "logCuts", inPlace := ["internal/abi.NoEscape", "internal/bytealg.MakeNoZero"], unfollowed := true, recurses := true, apart := false }
def LogCutsSaid : Prop := logCutsRow.holds Try.pinned (OpenSpec.ofChange logCutsSpec)

/-- ITS FALSE NEIGHBOUR: 'it returns false'. Refute it at one input. -/
def logCutsWrong : ChangeSpec := { name := "logCuts", fn := fun _ => fun
  | [d1, d2, d3] => { results := [.lit (.bool false)], args := [d1, d2, d3] }
  | _ => none }
def LogCutsWrongFalsely : Prop := logCutsRow.holds Try.pinned (OpenSpec.ofChange logCutsWrong)

/-- 'trystlaw19.KeepPlays': WHATEVER THE INPUT: true; the input reads as it did. -/
def keepPlaysSpec : ChangeSpec := { name := "keepPlays", fn := fun _ => fun
  | [d1, d2, d3] => { results := [.lit (.bool true)], args := [d1, d2, d3] }
  | _ => none }
def keepPlaysRow : OpenClaim := { program := "ytkapdmhjhbmdjaa", sum := "f9e5743077740377875965892934469818150c25d98fa2074b7459614311cbb0", func := "tryst/trystlaw19.KeepPlays", spec := "keepPlays", inPlace := ["internal/abi.NoEscape", "internal/bytealg.MakeNoZero"], unfollowed := true, recurses := true, apart := false }
def KeepPlaysSaid : Prop := keepPlaysRow.holds Try.pinned (OpenSpec.ofChange keepPlaysSpec)

/-- ITS FALSE NEIGHBOUR: 'it returns false'. Refute it at one input. -/
def keepPlaysWrong : ChangeSpec := { name := "keepPlays", fn := fun _ => fun
  | [d1, d2, d3] => { results := [.lit (.bool false)], args := [d1, d2, d3] }
  | _ => none }
def KeepPlaysWrongFalsely : Prop := keepPlaysRow.holds Try.pinned (OpenSpec.ofChange keepPlaysWrong)

/-- 'trystlaw19.KeepLikewise': WHATEVER THE INPUT: true; the input reads as it did. -/
def keepLikewiseSpec : ChangeSpec := { name := "keepLikewise", fn := fun _ => fun
  | [d1, d2, d3] => { results := [.lit (.bool true)], args := [d1, d2, d3] }
  | _ => none }
def keepLikewiseRow : OpenClaim := { program := "ytkapdmhjhbmdjaa", sum := "f9e5743077740377875965892934469818150c25d98fa2074b7459614311cbb0", func := "tryst/trystlaw19.KeepLikewise", spec := "keepLikewise", inPlace := ["internal/abi.NoEscape", "internal/bytealg.MakeNoZero"], unfollowed := true, recurses := true, apart := false }
def KeepLikewiseSaid : Prop := keepLikewiseRow.holds Try.pinned (OpenSpec.ofChange keepLikewiseSpec)

/-- ITS FALSE NEIGHBOUR: 'it returns false'. Refute it at one input. -/
def keepLikewiseWrong : ChangeSpec := { name := "keepLikewise", fn := fun _ => fun
  | [d1, d2, d3] => { results := [.lit (.bool false)], args := [d1, d2, d3] }
  | _ => none }
def KeepLikewiseWrongFalsely : Prop := keepLikewiseRow.holds Try.pinned (OpenSpec.ofChange keepLikewiseWrong)

/-- 'trystlaw19.KeepTexts': WHATEVER THE INPUT: true; the input reads as it did. -/
def keepTextsSpec : ChangeSpec := { name := "keepTexts", fn := fun _ => fun
  | [d1, d2, d3] => { results := [.lit (.bool true)], args := [d1, d2, d3] }
  | _ => none }
def keepTextsRow : OpenClaim := { program := "ytkapdmhjhbmdjaa", sum := "f9e5743077740377875965892934469818150c25d98fa2074b7459614311cbb0", func := "tryst/trystlaw19.KeepTexts", spec := "keepTexts", inPlace := ["internal/abi.NoEscape", "internal/bytealg.MakeNoZero"], unfollowed := true, recurses := true, apart := false }
def KeepTextsSaid : Prop := keepTextsRow.holds Try.pinned (OpenSpec.ofChange keepTextsSpec)

/-- ITS FALSE NEIGHBOUR: 'it returns false'. Refute it at one input. -/
def keepTextsWrong : ChangeSpec := { name := "keepTexts", fn := fun _ => fun
  | [d1, d2, d3] => { results := [.lit (.bool false)], args := [d1, d2, d3] }
  | _ => none }
def KeepTextsWrongFalsely : Prop := keepTextsRow.holds Try.pinned (OpenSpec.ofChange keepTextsWrong)

/-- 'trystlaw19.KeepTurns': WHATEVER THE INPUT: true; the input reads as it did. -/
def keepTurnsSpec : ChangeSpec := { name := "keepTurns", fn := fun _ => fun
  | [d1, d2] => { results := [.lit (.bool true)], args := [d1, d2] }
  | _ => none }
def keepTurnsRow : OpenClaim := { program := "ytkapdmhjhbmdjaa", sum := "f9e5743077740377875965892934469818150c25d98fa2074b7459614311cbb0", func := "tryst/trystlaw19.KeepTurns", spec := "keepTurns", inPlace := ["internal/abi.NoEscape", "internal/bytealg.MakeNoZero"], unfollowed := true, recurses := true, apart := false }
def KeepTurnsSaid : Prop := keepTurnsRow.holds Try.pinned (OpenSpec.ofChange keepTurnsSpec)

/-- ITS FALSE NEIGHBOUR: 'it returns false'. Refute it at one input. -/
def keepTurnsWrong : ChangeSpec := { name := "keepTurns", fn := fun _ => fun
  | [d1, d2] => { results := [.lit (.bool false)], args := [d1, d2] }
  | _ => none }
def KeepTurnsWrongFalsely : Prop := keepTurnsRow.holds Try.pinned (OpenSpec.ofChange keepTurnsWrong)

/- THE SECOND FORM. 'bulk': how many values and letters a reading holds, each counted each time it is reached (what is shared counts as often as it is met; a slice's spare places count too). A statement '..UptoSaid' is the law's where the arguments, and the package variables that the reading takes, are together of bulk at most 1048576: NARROWER than '..Said'. Prove '..Said' where nothing that the law and all that it calls make is longer than what came in: it says more and counts as full. Else prove '..UptoSaid'. A law counts once. -/
mutual
def uptoBulk {H : Type} : DataW H → Nat
  | .lit (.string bytes) => bytes.length + 1
  | .lit _ => 1
  | .nil => 1
  | .ptr d => uptoBulk d + 1
  | .slice elems spare => uptoBulkAll elems + uptoBulkAll spare + 1
  | .agg parts => uptoBulkAll parts + 1
  | .iface _ d => uptoBulk d + 1
  | .map entries => uptoBulkEntries entries + 1
  | .held _ => 1
def uptoBulkAll {H : Type} : List (DataW H) → Nat
  | [] => 0
  | d :: r => uptoBulk d + uptoBulkAll r
def uptoBulkEntries {H : Type} : List (Lit × DataW H) → Nat
  | [] => 0
  | x :: r => uptoBulkEntry x + uptoBulkEntries r
def uptoBulkEntry {H : Type} : Lit × DataW H → Nat
  | (.string bytes, d) => bytes.length + uptoBulk d + 1
  | (_, d) => uptoBulk d + 1
 end
def uptoSmall : (H : Type) → List (DataW H) → Bool := fun _ ds => decide (uptoBulkAll ds ≤ 1048576)
def OpenSpec.upto (s : _root_.Go.ChangeSpec) : _root_.Go.OpenSpec := { _root_.Go.OpenSpec.ofChange s with cond := some uptoSmall }

/-- 'trystlaw17.DiskCrashes', WHERE WHAT IT READS IS OF BULK AT MOST 1048576: true; the input reads as it did. -/
def diskCrashesUptoRow : OpenClaim := { program := "ytkapdmhjhbmdjaa", sum := "f9e5743077740377875965892934469818150c25d98fa2074b7459614311cbb0", func := "tryst/trystlaw17.DiskCrashes", spec := "diskCrashes", inPlace := ["internal/abi.NoEscape", "internal/bytealg.MakeNoZero"], unfollowed := true, recurses := true, apart := false, narrowed := true }
def DiskCrashesUptoSaid : Prop := diskCrashesUptoRow.holds Try.pinned (OpenSpec.upto diskCrashesSpec)

/-- 'trystlaw17.DiskWrites', WHERE WHAT IT READS IS OF BULK AT MOST 1048576: true; the input reads as it did. -/
def diskWritesUptoRow : OpenClaim := { program := "ytkapdmhjhbmdjaa", sum := "f9e5743077740377875965892934469818150c25d98fa2074b7459614311cbb0", func := "tryst/trystlaw17.DiskWrites", spec := "diskWrites", inPlace := ["internal/abi.NoEscape", "internal/bytealg.MakeNoZero"], unfollowed := true, recurses := true, apart := false, narrowed := true }
def DiskWritesUptoSaid : Prop := diskWritesUptoRow.holds Try.pinned (OpenSpec.upto diskWritesSpec)

/-- 'trystlaw17.DiskHolds', WHERE WHAT IT READS IS OF BULK AT MOST 1048576: true; the input reads as it did. -/
def diskHoldsUptoRow : OpenClaim := { program := "ytkapdmhjhbmdjaa", sum := "f9e5743077740377875965892934469818150c25d98fa2074b7459614311cbb0", func := "tryst/trystlaw17.DiskHolds", spec := "diskHolds", inPlace := ["internal/abi.NoEscape", "internal/bytealg.MakeNoZero"], unfollowed := true, recurses := true, apart := false, narrowed := true }
def DiskHoldsUptoSaid : Prop := diskHoldsUptoRow.holds Try.pinned (OpenSpec.upto diskHoldsSpec)

/-- 'trystlaw17.DiskTears', WHERE WHAT IT READS IS OF BULK AT MOST 1048576: true; the input reads as it did. -/
def diskTearsUptoRow : OpenClaim := { program := "ytkapdmhjhbmdjaa", sum := "f9e5743077740377875965892934469818150c25d98fa2074b7459614311cbb0", func := "tryst/trystlaw17.DiskTears", spec := "diskTears", inPlace := ["internal/abi.NoEscape", "internal/bytealg.MakeNoZero"], unfollowed := true, recurses := true, apart := false, narrowed := true }
def DiskTearsUptoSaid : Prop := diskTearsUptoRow.holds Try.pinned (OpenSpec.upto diskTearsSpec)

/-- 'trystlaw17.DiskReads', WHERE WHAT IT READS IS OF BULK AT MOST 1048576: true; the input reads as it did. -/
def diskReadsUptoRow : OpenClaim := { program := "ytkapdmhjhbmdjaa", sum := "f9e5743077740377875965892934469818150c25d98fa2074b7459614311cbb0", func := "tryst/trystlaw17.DiskReads", spec := "diskReads", inPlace := ["internal/abi.NoEscape", "internal/bytealg.MakeNoZero"], unfollowed := true, recurses := true, apart := false, narrowed := true }
def DiskReadsUptoSaid : Prop := diskReadsUptoRow.holds Try.pinned (OpenSpec.upto diskReadsSpec)

/-- 'trystlaw17.DiskFuels', WHERE WHAT IT READS IS OF BULK AT MOST 1048576: true; the input reads as it did. -/
def diskFuelsUptoRow : OpenClaim := { program := "ytkapdmhjhbmdjaa", sum := "f9e5743077740377875965892934469818150c25d98fa2074b7459614311cbb0", func := "tryst/trystlaw17.DiskFuels", spec := "diskFuels", inPlace := ["internal/abi.NoEscape", "internal/bytealg.MakeNoZero"], unfollowed := true, recurses := true, apart := false, narrowed := true }
def DiskFuelsUptoSaid : Prop := diskFuelsUptoRow.holds Try.pinned (OpenSpec.upto diskFuelsSpec)

/-- 'trystlaw18.LogAppends', WHERE WHAT IT READS IS OF BULK AT MOST 1048576: true; the input reads as it did. -/
def logAppendsUptoRow : OpenClaim := { program := "ytkapdmhjhbmdjaa", sum := "f9e5743077740377875965892934469818150c25d98fa2074b7459614311cbb0", func := "tryst/trystlaw18.LogAppends", spec := "logAppends", inPlace := ["internal/abi.NoEscape", "internal/bytealg.MakeNoZero"], unfollowed := true, recurses := true, apart := false, narrowed := true }
def LogAppendsUptoSaid : Prop := logAppendsUptoRow.holds Try.pinned (OpenSpec.upto logAppendsSpec)

/-- 'trystlaw18.LogScans', WHERE WHAT IT READS IS OF BULK AT MOST 1048576: true; the input reads as it did. -/
def logScansUptoRow : OpenClaim := { program := "ytkapdmhjhbmdjaa", sum := "f9e5743077740377875965892934469818150c25d98fa2074b7459614311cbb0", func := "tryst/trystlaw18.LogScans", spec := "logScans", inPlace := ["internal/abi.NoEscape", "internal/bytealg.MakeNoZero"], unfollowed := true, recurses := true, apart := false, narrowed := true }
def LogScansUptoSaid : Prop := logScansUptoRow.holds Try.pinned (OpenSpec.upto logScansSpec)

/-- 'trystlaw18.LogAgain', WHERE WHAT IT READS IS OF BULK AT MOST 1048576: true; the input reads as it did. -/
def logAgainUptoRow : OpenClaim := { program := "ytkapdmhjhbmdjaa", sum := "f9e5743077740377875965892934469818150c25d98fa2074b7459614311cbb0", func := "tryst/trystlaw18.LogAgain", spec := "logAgain", inPlace := ["internal/abi.NoEscape", "internal/bytealg.MakeNoZero"], unfollowed := true, recurses := true, apart := false, narrowed := true }
def LogAgainUptoSaid : Prop := logAgainUptoRow.holds Try.pinned (OpenSpec.upto logAgainSpec)

/-- 'trystlaw18.LogSerials', WHERE WHAT IT READS IS OF BULK AT MOST 1048576: true; the input reads as it did. -/
def logSerialsUptoRow : OpenClaim := { program := "ytkapdmhjhbmdjaa", sum := "f9e5743077740377875965892934469818150c25d98fa2074b7459614311cbb0", func := "tryst/trystlaw18.LogSerials", spec := "logSerials", inPlace := ["internal/abi.NoEscape", "internal/bytealg.MakeNoZero"], unfollowed := true, recurses := true, apart := false, narrowed := true }
def LogSerialsUptoSaid : Prop := logSerialsUptoRow.holds Try.pinned (OpenSpec.upto logSerialsSpec)

/-- 'trystlaw18.LogRooms', WHERE WHAT IT READS IS OF BULK AT MOST 1048576: true; the input reads as it did. -/
def logRoomsUptoRow : OpenClaim := { program := "ytkapdmhjhbmdjaa", sum := "f9e5743077740377875965892934469818150c25d98fa2074b7459614311cbb0", func := "tryst/trystlaw18.LogRooms", spec := "logRooms", inPlace := ["internal/abi.NoEscape", "internal/bytealg.MakeNoZero"], unfollowed := true, recurses := true, apart := false, narrowed := true }
def LogRoomsUptoSaid : Prop := logRoomsUptoRow.holds Try.pinned (OpenSpec.upto logRoomsSpec)

/-- 'trystlaw18.LogBack', WHERE WHAT IT READS IS OF BULK AT MOST 1048576: true; the input reads as it did. -/
def logBackUptoRow : OpenClaim := { program := "ytkapdmhjhbmdjaa", sum := "f9e5743077740377875965892934469818150c25d98fa2074b7459614311cbb0", func := "tryst/trystlaw18.LogBack", spec := "logBack", inPlace := ["internal/abi.NoEscape", "internal/bytealg.MakeNoZero"], unfollowed := true, recurses := true, apart := false, narrowed := true }
def LogBackUptoSaid : Prop := logBackUptoRow.holds Try.pinned (OpenSpec.upto logBackSpec)

/-- 'trystlaw18.LogCuts', WHERE WHAT IT READS IS OF BULK AT MOST 1048576: true; the input reads as it did. -/
def logCutsUptoRow : OpenClaim := { program := "ytkapdmhjhbmdjaa", sum := "f9e5743077740377875965892934469818150c25d98fa2074b7459614311cbb0", func := "tryst/trystlaw18.LogCuts", spec := "logCuts", inPlace := ["internal/abi.NoEscape", "internal/bytealg.MakeNoZero"], unfollowed := true, recurses := true, apart := false, narrowed := true }
def LogCutsUptoSaid : Prop := logCutsUptoRow.holds Try.pinned (OpenSpec.upto logCutsSpec)

/-- 'trystlaw19.KeepPlays', WHERE WHAT IT READS IS OF BULK AT MOST 1048576: true; the input reads as it did. -/
def keepPlaysUptoRow : OpenClaim := { program := "ytkapdmhjhbmdjaa", sum := "f9e5743077740377875965892934469818150c25d98fa2074b7459614311cbb0", func := "tryst/trystlaw19.KeepPlays", spec := "keepPlays", inPlace := ["internal/abi.NoEscape", "internal/bytealg.MakeNoZero"], unfollowed := true, recurses := true, apart := false, narrowed := true }
def KeepPlaysUptoSaid : Prop := keepPlaysUptoRow.holds Try.pinned (OpenSpec.upto keepPlaysSpec)

/-- 'trystlaw19.KeepLikewise', WHERE WHAT IT READS IS OF BULK AT MOST 1048576: true; the input reads as it did. -/
def keepLikewiseUptoRow : OpenClaim := { program := "ytkapdmhjhbmdjaa", sum := "f9e5743077740377875965892934469818150c25d98fa2074b7459614311cbb0", func := "tryst/trystlaw19.KeepLikewise", spec := "keepLikewise", inPlace := ["internal/abi.NoEscape", "internal/bytealg.MakeNoZero"], unfollowed := true, recurses := true, apart := false, narrowed := true }
def KeepLikewiseUptoSaid : Prop := keepLikewiseUptoRow.holds Try.pinned (OpenSpec.upto keepLikewiseSpec)

/-- 'trystlaw19.KeepTexts', WHERE WHAT IT READS IS OF BULK AT MOST 1048576: true; the input reads as it did. -/
def keepTextsUptoRow : OpenClaim := { program := "ytkapdmhjhbmdjaa", sum := "f9e5743077740377875965892934469818150c25d98fa2074b7459614311cbb0", func := "tryst/trystlaw19.KeepTexts", spec := "keepTexts", inPlace := ["internal/abi.NoEscape", "internal/bytealg.MakeNoZero"], unfollowed := true, recurses := true, apart := false, narrowed := true }
def KeepTextsUptoSaid : Prop := keepTextsUptoRow.holds Try.pinned (OpenSpec.upto keepTextsSpec)

/-- 'trystlaw19.KeepTurns', WHERE WHAT IT READS IS OF BULK AT MOST 1048576: true; the input reads as it did. -/
def keepTurnsUptoRow : OpenClaim := { program := "ytkapdmhjhbmdjaa", sum := "f9e5743077740377875965892934469818150c25d98fa2074b7459614311cbb0", func := "tryst/trystlaw19.KeepTurns", spec := "keepTurns", inPlace := ["internal/abi.NoEscape", "internal/bytealg.MakeNoZero"], unfollowed := true, recurses := true, apart := false, narrowed := true }
def KeepTurnsUptoSaid : Prop := keepTurnsUptoRow.holds Try.pinned (OpenSpec.upto keepTurnsSpec)

end Rows
end Go.Proofs.Ytkapdmhjhbmdjaa
