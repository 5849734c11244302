/-
  DERIVED. GIVEN WITH THE SEED: THE CARDS: each row of YtaibgfnfmkpibaaGreatDoorRows.lean that lists a variable, with what it lists TIED to the program's text (the seventh form; the later family's looks); each row that meets fmt, with fmt's text TOLD by the authors' own Lean function (tested against real Go, not proved from fmt's source: count such statements apart). THE CARD IS WHAT COUNTS. Prove the row's statement (the work); the ties are given (YtaibgfnfmkpibaaGreatDoorTie.lean); close each card by the builder's one call (the guide's Derived/Test/ToyasCard.lean, 'card_holds'). Laid BY PROGRAM, IN A SANDBOX (cutbox-door.mjs). By AI agents, Wed Nov 11 2026. No macro, syntax, notation, axiom, sorry.
-/
import Derived.Test.YtaibgfnfmkpibaaGreatDoorRows
import GoSem.ClaimSeven
namespace Go.Proofs.YtaibgfnfmkpibaaGreatDoor
namespace Rows

/-- THE TIED CARD OF 'pennanttop.TopSectors'. -/
def topSectorsCard : Claim7 := { stood := { row := topSectorsRow, standIns := [], harness := (true, "a4ab844bdfb32f720ca3f6738f98cc112a84f4be14dfce02934f3cae564f95a6"), looks := false }, kinds := [], alts := [], laidByText := true, laidKinds := [.data], laidTests := true, laidLooks := .later }
def TopSectorsCardSaid : Prop := Claim7.holds Tryz.pinned (.plain (OpenSpec.ofChange topSectorsSpec)) topSectorsCard

/-- THE SECOND FORM's CARD OF 'pennanttop.TopSectors'. -/
def topSectorsUptoCard : Claim7 := { stood := { row := topSectorsUptoRow, standIns := [], harness := (true, "a4ab844bdfb32f720ca3f6738f98cc112a84f4be14dfce02934f3cae564f95a6"), looks := false }, kinds := [], alts := [], laidByText := true, laidKinds := [.data], laidTests := true, laidLooks := .later }
def TopSectorsUptoCardSaid : Prop := Claim7.holds Tryz.pinned (.plain (OpenSpec.upto topSectorsSpec)) topSectorsUptoCard
end Rows
end Go.Proofs.YtaibgfnfmkpibaaGreatDoor
