/-
  DERIVED. GIVEN WITH THE SEED: THE CARDS: each row of YtamckbjckgpniaaDoorRows.lean that lists a variable, with what it lists TIED to the program's text (the seventh form; the later family's looks); each row that meets fmt, with fmt's text TOLD by the authors' own Lean function (tested against real Go, not proved from fmt's source: count such statements apart). THE CARD IS WHAT COUNTS. Prove the row's statement (the work); the ties are given (YtamckbjckgpniaaDoorTie.lean); close each card by the builder's one call (the guide's Derived/Test/ToyasCard.lean, 'card_holds'). Laid BY PROGRAM, IN A SANDBOX (cutbox-door.mjs). By AI agents, Wed Nov 11 2026. No macro, syntax, notation, axiom, sorry.
-/
import Derived.Test.YtamckbjckgpniaaDoorRows
import GoSem.ClaimSeven
namespace Go.Proofs.YtamckbjckgpniaaDoor
namespace Rows

/-- THE TIED CARD OF 'packetboatkeep.AddrBack'. -/
def addrBackCard : Claim7 := { stood := { row := addrBackRow, standIns := [], harness := (true, "b9cf5a157f426a2e2523e2bdbcf0b597e6c754a9c104df6ce187870b4a66f98f"), looks := true }, kinds := [], alts := [], laidByText := true, laidKinds := [.data, .data, .data, .data, .sentinel, .sentinel, .pinned], laidTests := true, laidLooks := .later }
def AddrBackCardSaid : Prop := Claim7.holds Tryd.pinned (.plain (OpenSpec.ofChange addrBackSpec)) addrBackCard

/-- THE SECOND FORM's CARD OF 'packetboatkeep.AddrBack'. -/
def addrBackUptoCard : Claim7 := { stood := { row := addrBackUptoRow, standIns := [], harness := (true, "b9cf5a157f426a2e2523e2bdbcf0b597e6c754a9c104df6ce187870b4a66f98f"), looks := true }, kinds := [], alts := [], laidByText := true, laidKinds := [.data, .data, .data, .data, .sentinel, .sentinel, .pinned], laidTests := true, laidLooks := .later }
def AddrBackUptoCardSaid : Prop := Claim7.holds Tryd.pinned (.plain (OpenSpec.upto addrBackSpec)) addrBackUptoCard
end Rows
end Go.Proofs.YtamckbjckgpniaaDoor
