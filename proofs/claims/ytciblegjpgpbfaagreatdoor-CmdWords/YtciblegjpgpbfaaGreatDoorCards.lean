/-
  DERIVED. GIVEN WITH THE SEED: THE CARDS: each row of YtciblegjpgpbfaaGreatDoorRows.lean that lists a variable, with what it lists TIED to the program's text (the seventh form; the later family's looks); each row that meets fmt, with fmt's text TOLD by the authors' own Lean function (tested against real Go, not proved from fmt's source: count such statements apart). THE CARD IS WHAT COUNTS. Prove the row's statement (the work); the ties are given (YtciblegjpgpbfaaGreatDoorTie.lean); close each card by the builder's one call (the guide's Derived/Test/ToyasCard.lean, 'card_holds'). Laid BY PROGRAM, IN A SANDBOX (cutbox-door.mjs). By AI agents, Wed Nov 11 2026. No macro, syntax, notation, axiom, sorry.
-/
import Derived.Test.YtciblegjpgpbfaaGreatDoorRows
import GoSem.ClaimSeven
namespace Go.Proofs.YtciblegjpgpbfaaGreatDoor
namespace Rows

/-- THE TIED CARD OF 'surdlaw27.CmdWords'. -/
def cmdWordsCard : Claim7 := { stood := { row := cmdWordsRow, standIns := [], harness := (true, "c894a3e8b48f9dd4078001f61732a73593d915b3cd4c41062fdcadf5c63fd5b5"), looks := true }, kinds := [], alts := [], laidByText := true, laidKinds := [.data, .data, .data, .data, .sentinel, .sentinel, .widerDeep, .pinned], laidTests := true, laidLooks := .later }
def CmdWordsCardSaid : Prop := Claim7.holds Tryz.pinned (.plain (OpenSpec.ofChange cmdWordsSpec)) cmdWordsCard

/-- THE SECOND FORM's CARD OF 'surdlaw27.CmdWords'. -/
def cmdWordsUptoCard : Claim7 := { stood := { row := cmdWordsUptoRow, standIns := [], harness := (true, "c894a3e8b48f9dd4078001f61732a73593d915b3cd4c41062fdcadf5c63fd5b5"), looks := true }, kinds := [], alts := [], laidByText := true, laidKinds := [.data, .data, .data, .data, .sentinel, .sentinel, .widerDeep, .pinned], laidTests := true, laidLooks := .later }
def CmdWordsUptoCardSaid : Prop := Claim7.holds Tryz.pinned (.plain (OpenSpec.upto cmdWordsSpec)) cmdWordsUptoCard
end Rows
end Go.Proofs.YtciblegjpgpbfaaGreatDoor
