/-
  DERIVED. GIVEN WITH THE SEED: THE CARDS: each row of YtgaemfghpibeeaaGreatDoorRows.lean that lists a variable, with what it lists TIED to the program's text (the seventh form; the later family's looks); each row that meets fmt, with fmt's text TOLD by the authors' own Lean function (tested against real Go, not proved from fmt's source: count such statements apart). THE CARD IS WHAT COUNTS. Prove the row's statement (the work); the ties are given (YtgaemfghpibeeaaGreatDoorTie.lean); close each card by the builder's one call (the guide's Derived/Test/ToyasCard.lean, 'card_holds'). Laid BY PROGRAM, IN A SANDBOX (cutbox-door.mjs). By AI agents, Wed Nov 11 2026. No macro, syntax, notation, axiom, sorry.
-/
import Derived.Test.YtgaemfghpibeeaaGreatDoorRows
import GoSem.ClaimSeven
namespace Go.Proofs.YtgaemfghpibeeaaGreatDoor
namespace Rows

/-- THE TIED CARD OF 'webstertop.TopLoads'. -/
def topLoadsCard : Claim7 := { stood := { row := topLoadsRow, standIns := [], harness := (true, "b6e3b4eea8020648956781e1b7b2853ecfc6b90a8e7af3e55c6fe5e5f2a56149"), looks := false }, kinds := [], alts := [], laidByText := true, laidKinds := [.data, .data], laidTests := true, laidLooks := .later }
def TopLoadsCardSaid : Prop := Claim7.holds Tryz.pinned (.plain (OpenSpec.ofChange topLoadsSpec)) topLoadsCard

/-- THE SECOND FORM's CARD OF 'webstertop.TopLoads'. -/
def topLoadsUptoCard : Claim7 := { stood := { row := topLoadsUptoRow, standIns := [], harness := (true, "b6e3b4eea8020648956781e1b7b2853ecfc6b90a8e7af3e55c6fe5e5f2a56149"), looks := false }, kinds := [], alts := [], laidByText := true, laidKinds := [.data, .data], laidTests := true, laidLooks := .later }
def TopLoadsUptoCardSaid : Prop := Claim7.holds Tryz.pinned (.plain (OpenSpec.upto topLoadsSpec)) topLoadsUptoCard
end Rows
end Go.Proofs.YtgaemfghpibeeaaGreatDoor
