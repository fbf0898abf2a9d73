/-
  DERIVED. GIVEN WITH THE SEED: THE CARDS: each row of YtlehknaiddidaaaDoorRows.lean that lists a variable, with what it lists TIED to the program's text (the seventh form; the later family's looks); each row that meets fmt, with fmt's text TOLD by the authors' own Lean function (tested against real Go, not proved from fmt's source: count such statements apart). THE CARD IS WHAT COUNTS. Prove the row's statement (the work); the ties are given (YtlehknaiddidaaaDoorTie.lean); close each card by the builder's one call (the guide's Derived/Test/ToyasCard.lean, 'card_holds'). Laid BY PROGRAM, IN A SANDBOX (cutbox-door.mjs). By AI agents, Wed Nov 11 2026. No macro, syntax, notation, axiom, sorry.
-/
import Derived.Test.YtlehknaiddidaaaDoorRows
import GoSem.ClaimSeven
namespace Go.Proofs.YtlehknaiddidaaaDoor
namespace Rows

/-- THE TIED CARD OF 'packetboatkeep.AddrSizes'. -/
def addrSizesCard : Claim7 := { stood := { row := addrSizesRow, standIns := [], harness := (true, "02a978f671671a1346e26c9c1faea1d1a645d18a3e664914cb36af36febcd6c0"), looks := false }, kinds := [], alts := [], laidByText := true, laidKinds := [.data], laidTests := true, laidLooks := .later }
def AddrSizesCardSaid : Prop := Claim7.holds Tryd.pinned (.plain (OpenSpec.ofChange addrSizesSpec)) addrSizesCard

/-- THE TIED CARD OF 'packetboatkeep.AddrCover'. -/
def addrCoverCard : Claim7 := { stood := { row := addrCoverRow, standIns := [], harness := (true, "02a978f671671a1346e26c9c1faea1d1a645d18a3e664914cb36af36febcd6c0"), looks := false }, kinds := [], alts := [], laidByText := true, laidKinds := [.data], laidTests := true, laidLooks := .later }
def AddrCoverCardSaid : Prop := Claim7.holds Tryd.pinned (.plain (OpenSpec.ofChange addrCoverSpec)) addrCoverCard

/-- THE SECOND FORM's CARD OF 'packetboatkeep.AddrSizes'. -/
def addrSizesUptoCard : Claim7 := { stood := { row := addrSizesUptoRow, standIns := [], harness := (true, "02a978f671671a1346e26c9c1faea1d1a645d18a3e664914cb36af36febcd6c0"), looks := false }, kinds := [], alts := [], laidByText := true, laidKinds := [.data], laidTests := true, laidLooks := .later }
def AddrSizesUptoCardSaid : Prop := Claim7.holds Tryd.pinned (.plain (OpenSpec.upto addrSizesSpec)) addrSizesUptoCard

/-- THE SECOND FORM's CARD OF 'packetboatkeep.AddrCover'. -/
def addrCoverUptoCard : Claim7 := { stood := { row := addrCoverUptoRow, standIns := [], harness := (true, "02a978f671671a1346e26c9c1faea1d1a645d18a3e664914cb36af36febcd6c0"), looks := false }, kinds := [], alts := [], laidByText := true, laidKinds := [.data], laidTests := true, laidLooks := .later }
def AddrCoverUptoCardSaid : Prop := Claim7.holds Tryd.pinned (.plain (OpenSpec.upto addrCoverSpec)) addrCoverUptoCard
end Rows
end Go.Proofs.YtlehknaiddidaaaDoor
