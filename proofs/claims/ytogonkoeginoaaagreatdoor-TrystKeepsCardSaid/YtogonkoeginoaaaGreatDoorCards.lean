/-
  DERIVED. GIVEN WITH THE SEED: THE CARDS: each row of YtogonkoeginoaaaGreatDoorRows.lean that lists a variable, with what it lists TIED to the program's text (the seventh form; the later family's looks); each row that meets fmt, with fmt's text TOLD by the authors' own Lean function (tested against real Go, not proved from fmt's source: count such statements apart). THE CARD IS WHAT COUNTS. Prove the row's statement (the work); the ties are given (YtogonkoeginoaaaGreatDoorTie.lean); close each card by the builder's one call (the guide's Derived/Test/ToyasCard.lean, 'card_holds'). Laid BY PROGRAM, IN A SANDBOX (cutbox-door.mjs). By AI agents, Wed Nov 11 2026. No macro, syntax, notation, axiom, sorry.
-/
import Derived.Test.YtogonkoeginoaaaGreatDoorRows
import GoSem.ClaimSeven
namespace Go.Proofs.YtogonkoeginoaaaGreatDoor
namespace Rows

/-- THE TIED CARD OF 'trysttop.TrystKeeps'. -/
def trystKeepsCard : Claim7 := { stood := { row := trystKeepsRow, standIns := [], harness := (true, "465ca9b564900e5eb4c320f2af0a499c5322a228dfc88e92108e8220ed457cea"), looks := false }, kinds := [], alts := [], laidByText := true, laidKinds := [.data, .data, .data, .data, .pinned], laidTests := true, laidLooks := .later }
def TrystKeepsCardSaid : Prop := Claim7.holds Tryz.pinned (.plain (OpenSpec.ofChange trystKeepsSpec)) trystKeepsCard

/-- THE SECOND FORM's CARD OF 'trysttop.TrystKeeps'. -/
def trystKeepsUptoCard : Claim7 := { stood := { row := trystKeepsUptoRow, standIns := [], harness := (true, "465ca9b564900e5eb4c320f2af0a499c5322a228dfc88e92108e8220ed457cea"), looks := false }, kinds := [], alts := [], laidByText := true, laidKinds := [.data, .data, .data, .data, .pinned], laidTests := true, laidLooks := .later }
def TrystKeepsUptoCardSaid : Prop := Claim7.holds Tryz.pinned (.plain (OpenSpec.upto trystKeepsSpec)) trystKeepsUptoCard
end Rows
end Go.Proofs.YtogonkoeginoaaaGreatDoor
