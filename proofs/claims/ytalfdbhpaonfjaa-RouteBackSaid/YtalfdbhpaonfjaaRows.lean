/-
  No cell of these rows narrows 'for every input' (looked for: loops, veiled, ifaces, maps, wideKeys, modest, calm, conditions, laid).
  DERIVED. THE GIVEN ROWS OF THIS SEAT. 10 by the template 'for every input the law returns true; each argument reads behind the call as it read before'; 0 by the template 'total and deterministic' (their statements: YtalfdbhpaonfjaaTotals.lean).
  GIVEN WITH THE SEED: the statements are not yours to turn. If you find one false, say at which input.
  Laid BY PROGRAM, IN A SANDBOX (cutbox-rows.mjs): the forced cells as the released guide's own fill.sh prints them over the translation 7dba544957163eac… (all of the seat's roots in one cut). By AI agents, Wed Nov 11 2026. No macro, syntax, notation, axiom, sorry.
-/
import Derived.Test.YtalfdbhpaonfjaaChecked
import GoSem.Claim
import GoSem.ClaimJoined
import GoSem.ClaimMapViews
import Derived.JoinedTies
import Derived.KernelRfl
namespace Go.Proofs.Ytalfdbhpaonfjaa
/- THE CELL 'sum', in the pinned program and in every row, IS THE sha256 OF THE DUMP (.gsa) THAT YtalfdbhpaonfjaaProg.lean LOADS. Nothing in Lean hashes anything: it is a label: what it is worth is what the hold of that sum in a sandbox is worth. -/
noncomputable def Try.pinned : Pinned := { name := "ytalfdbhpaonfjaa", sum := "7dba544957163eac02762654d3b0690c4b1704111fe3e6c80894ad7d299f7f3c", checked := Try.checked }
namespace Rows
def none {H : Type} : Left H := { results := [], args := [] }

/-- 'packetboatkeep.RouteApart': WHATEVER THE INPUT: true; the input reads as it did. -/
def routeApartSpec : ChangeSpec := { name := "routeApart", fn := fun _ => fun
  | [d1, d2, d3, d4] => { results := [.lit (.bool true)], args := [d1, d2, d3, d4] }
  | _ => none }
def routeApartRow : OpenClaim := { program := "ytalfdbhpaonfjaa", sum := "7dba544957163eac02762654d3b0690c4b1704111fe3e6c80894ad7d299f7f3c", func := "packetboat/packetboatkeep.RouteApart", spec := "routeApart", recurses := true, apart := false }
def RouteApartSaid : Prop := routeApartRow.holds Try.pinned (OpenSpec.ofChange routeApartSpec)

/-- ITS FALSE NEIGHBOUR: 'it returns false'. Refute it at one input. -/
def routeApartWrong : ChangeSpec := { name := "routeApart", fn := fun _ => fun
  | [d1, d2, d3, d4] => { results := [.lit (.bool false)], args := [d1, d2, d3, d4] }
  | _ => none }
def RouteApartWrongFalsely : Prop := routeApartRow.holds Try.pinned (OpenSpec.ofChange routeApartWrong)

/-- 'packetboatkeep.RouteBack': WHATEVER THE INPUT: true; the input reads as it did. -/
def routeBackSpec : ChangeSpec := { name := "routeBack", fn := fun _ => fun
  | [d1, d2, d3, d4] => { results := [.lit (.bool true)], args := [d1, d2, d3, d4] }
  | _ => none }
def routeBackRow : OpenClaim := { program := "ytalfdbhpaonfjaa", sum := "7dba544957163eac02762654d3b0690c4b1704111fe3e6c80894ad7d299f7f3c", func := "packetboat/packetboatkeep.RouteBack", spec := "routeBack", unfollowed := true, recurses := true, apart := false }
def RouteBackSaid : Prop := routeBackRow.holds Try.pinned (OpenSpec.ofChange routeBackSpec)

/-- ITS FALSE NEIGHBOUR: 'it returns false'. Refute it at one input. -/
def routeBackWrong : ChangeSpec := { name := "routeBack", fn := fun _ => fun
  | [d1, d2, d3, d4] => { results := [.lit (.bool false)], args := [d1, d2, d3, d4] }
  | _ => none }
def RouteBackWrongFalsely : Prop := routeBackRow.holds Try.pinned (OpenSpec.ofChange routeBackWrong)

/-- 'packetboatkeep.RouteEmpty': WHATEVER THE INPUT: true; the input reads as it did. -/
def routeEmptySpec : ChangeSpec := { name := "routeEmpty", fn := fun _ => fun
  | [d1, d2] => { results := [.lit (.bool true)], args := [d1, d2] }
  | _ => none }
def routeEmptyRow : OpenClaim := { program := "ytalfdbhpaonfjaa", sum := "7dba544957163eac02762654d3b0690c4b1704111fe3e6c80894ad7d299f7f3c", func := "packetboat/packetboatkeep.RouteEmpty", spec := "routeEmpty", unfollowed := true, recurses := true, apart := false }
def RouteEmptySaid : Prop := routeEmptyRow.holds Try.pinned (OpenSpec.ofChange routeEmptySpec)

/-- ITS FALSE NEIGHBOUR: 'it returns false'. Refute it at one input. -/
def routeEmptyWrong : ChangeSpec := { name := "routeEmpty", fn := fun _ => fun
  | [d1, d2] => { results := [.lit (.bool false)], args := [d1, d2] }
  | _ => none }
def RouteEmptyWrongFalsely : Prop := routeEmptyRow.holds Try.pinned (OpenSpec.ofChange routeEmptyWrong)

/-- 'packetboatkeep.RouteBest': WHATEVER THE INPUT: true; the input reads as it did. -/
def routeBestSpec : ChangeSpec := { name := "routeBest", fn := fun _ => fun
  | [d1, d2] => { results := [.lit (.bool true)], args := [d1, d2] }
  | _ => none }
def routeBestRow : OpenClaim := { program := "ytalfdbhpaonfjaa", sum := "7dba544957163eac02762654d3b0690c4b1704111fe3e6c80894ad7d299f7f3c", func := "packetboat/packetboatkeep.RouteBest", spec := "routeBest", unfollowed := true, recurses := true, apart := false }
def RouteBestSaid : Prop := routeBestRow.holds Try.pinned (OpenSpec.ofChange routeBestSpec)

/-- ITS FALSE NEIGHBOUR: 'it returns false'. Refute it at one input. -/
def routeBestWrong : ChangeSpec := { name := "routeBest", fn := fun _ => fun
  | [d1, d2] => { results := [.lit (.bool false)], args := [d1, d2] }
  | _ => none }
def RouteBestWrongFalsely : Prop := routeBestRow.holds Try.pinned (OpenSpec.ofChange routeBestWrong)

/-- 'packetboatkeep.RouteAll': WHATEVER THE INPUT: true; the input reads as it did. -/
def routeAllSpec : ChangeSpec := { name := "routeAll", fn := fun _ => fun
  | [d1, d2] => { results := [.lit (.bool true)], args := [d1, d2] }
  | _ => none }
def routeAllRow : OpenClaim := { program := "ytalfdbhpaonfjaa", sum := "7dba544957163eac02762654d3b0690c4b1704111fe3e6c80894ad7d299f7f3c", func := "packetboat/packetboatkeep.RouteAll", spec := "routeAll", unfollowed := true, recurses := true, apart := false }
def RouteAllSaid : Prop := routeAllRow.holds Try.pinned (OpenSpec.ofChange routeAllSpec)

/-- ITS FALSE NEIGHBOUR: 'it returns false'. Refute it at one input. -/
def routeAllWrong : ChangeSpec := { name := "routeAll", fn := fun _ => fun
  | [d1, d2] => { results := [.lit (.bool false)], args := [d1, d2] }
  | _ => none }
def RouteAllWrongFalsely : Prop := routeAllRow.holds Try.pinned (OpenSpec.ofChange routeAllWrong)

/-- 'packetboatkeep.PortsTurns': WHATEVER THE INPUT: true; the input reads as it did. -/
def portsTurnsSpec : ChangeSpec := { name := "portsTurns", fn := fun _ => fun
  | [d1, d2, d3, d4] => { results := [.lit (.bool true)], args := [d1, d2, d3, d4] }
  | _ => none }
def portsTurnsRow : OpenClaim := { program := "ytalfdbhpaonfjaa", sum := "7dba544957163eac02762654d3b0690c4b1704111fe3e6c80894ad7d299f7f3c", func := "packetboat/packetboatkeep.PortsTurns", spec := "portsTurns", unfollowed := true, recurses := true, apart := false }
def PortsTurnsSaid : Prop := portsTurnsRow.holds Try.pinned (OpenSpec.ofChange portsTurnsSpec)

/-- ITS FALSE NEIGHBOUR: 'it returns false'. Refute it at one input. -/
def portsTurnsWrong : ChangeSpec := { name := "portsTurns", fn := fun _ => fun
  | [d1, d2, d3, d4] => { results := [.lit (.bool false)], args := [d1, d2, d3, d4] }
  | _ => none }
def PortsTurnsWrongFalsely : Prop := portsTurnsRow.holds Try.pinned (OpenSpec.ofChange portsTurnsWrong)

/-- 'packetboatkeep.PortsApart': WHATEVER THE INPUT: true; the input reads as it did. -/
def portsApartSpec : ChangeSpec := { name := "portsApart", fn := fun _ => fun
  | [d1, d2, d3] => { results := [.lit (.bool true)], args := [d1, d2, d3] }
  | _ => none }
def portsApartRow : OpenClaim := { program := "ytalfdbhpaonfjaa", sum := "7dba544957163eac02762654d3b0690c4b1704111fe3e6c80894ad7d299f7f3c", func := "packetboat/packetboatkeep.PortsApart", spec := "portsApart", unfollowed := true, recurses := true, apart := false }
def PortsApartSaid : Prop := portsApartRow.holds Try.pinned (OpenSpec.ofChange portsApartSpec)

/-- ITS FALSE NEIGHBOUR: 'it returns false'. Refute it at one input. -/
def portsApartWrong : ChangeSpec := { name := "portsApart", fn := fun _ => fun
  | [d1, d2, d3] => { results := [.lit (.bool false)], args := [d1, d2, d3] }
  | _ => none }
def PortsApartWrongFalsely : Prop := portsApartRow.holds Try.pinned (OpenSpec.ofChange portsApartWrong)

/-- 'packetboatkeep.PortsBack': WHATEVER THE INPUT: true; the input reads as it did. -/
def portsBackSpec : ChangeSpec := { name := "portsBack", fn := fun _ => fun
  | [d1, d2] => { results := [.lit (.bool true)], args := [d1, d2] }
  | _ => none }
def portsBackRow : OpenClaim := { program := "ytalfdbhpaonfjaa", sum := "7dba544957163eac02762654d3b0690c4b1704111fe3e6c80894ad7d299f7f3c", func := "packetboat/packetboatkeep.PortsBack", spec := "portsBack", unfollowed := true, recurses := true, apart := false }
def PortsBackSaid : Prop := portsBackRow.holds Try.pinned (OpenSpec.ofChange portsBackSpec)

/-- ITS FALSE NEIGHBOUR: 'it returns false'. Refute it at one input. -/
def portsBackWrong : ChangeSpec := { name := "portsBack", fn := fun _ => fun
  | [d1, d2] => { results := [.lit (.bool false)], args := [d1, d2] }
  | _ => none }
def PortsBackWrongFalsely : Prop := portsBackRow.holds Try.pinned (OpenSpec.ofChange portsBackWrong)

/-- 'packetboatkeep.PortsOthers': WHATEVER THE INPUT: true; the input reads as it did. -/
def portsOthersSpec : ChangeSpec := { name := "portsOthers", fn := fun _ => fun
  | [d1, d2, d3, d4, d5] => { results := [.lit (.bool true)], args := [d1, d2, d3, d4, d5] }
  | _ => none }
def portsOthersRow : OpenClaim := { program := "ytalfdbhpaonfjaa", sum := "7dba544957163eac02762654d3b0690c4b1704111fe3e6c80894ad7d299f7f3c", func := "packetboat/packetboatkeep.PortsOthers", spec := "portsOthers", unfollowed := true, recurses := true, apart := false }
def PortsOthersSaid : Prop := portsOthersRow.holds Try.pinned (OpenSpec.ofChange portsOthersSpec)

/-- ITS FALSE NEIGHBOUR: 'it returns false'. Refute it at one input. -/
def portsOthersWrong : ChangeSpec := { name := "portsOthers", fn := fun _ => fun
  | [d1, d2, d3, d4, d5] => { results := [.lit (.bool false)], args := [d1, d2, d3, d4, d5] }
  | _ => none }
def PortsOthersWrongFalsely : Prop := portsOthersRow.holds Try.pinned (OpenSpec.ofChange portsOthersWrong)

/-- 'packetboatkeep.PortsFound': WHATEVER THE INPUT: true; the input reads as it did. -/
def portsFoundSpec : ChangeSpec := { name := "portsFound", fn := fun _ => fun
  | [d1, d2, d3, d4, d5] => { results := [.lit (.bool true)], args := [d1, d2, d3, d4, d5] }
  | _ => none }
def portsFoundRow : OpenClaim := { program := "ytalfdbhpaonfjaa", sum := "7dba544957163eac02762654d3b0690c4b1704111fe3e6c80894ad7d299f7f3c", func := "packetboat/packetboatkeep.PortsFound", spec := "portsFound", unfollowed := true, recurses := true, apart := false }
def PortsFoundSaid : Prop := portsFoundRow.holds Try.pinned (OpenSpec.ofChange portsFoundSpec)

/-- ITS FALSE NEIGHBOUR: 'it returns false'. Refute it at one input. -/
def portsFoundWrong : ChangeSpec := { name := "portsFound", fn := fun _ => fun
  | [d1, d2, d3, d4, d5] => { results := [.lit (.bool false)], args := [d1, d2, d3, d4, d5] }
  | _ => none }
def PortsFoundWrongFalsely : Prop := portsFoundRow.holds Try.pinned (OpenSpec.ofChange portsFoundWrong)

/- THE SECOND FORM. 'bulk': how many values and letters a reading holds, each counted each time it is reached (what is shared counts as often as it is met; a slice's spare places count too). A statement '..UptoSaid' is the law's where the arguments, and the package variables that the reading takes, are together of bulk at most 1048576: NARROWER than '..Said'. Prove '..Said' where nothing that the law and all that it calls make is longer than what came in: it says more and counts as full. Else prove '..UptoSaid'. A law counts once. -/
mutual
def uptoBulk {H : Type} : DataW H → Nat
  | .lit (.string bytes) => bytes.length + 1
  | .lit _ => 1
  | .nil => 1
  | .ptr d => uptoBulk d + 1
  | .slice elems spare => uptoBulkAll elems + uptoBulkAll spare + 1
  | .agg parts => uptoBulkAll parts + 1
  | .iface _ d => uptoBulk d + 1
  | .map entries => uptoBulkEntries entries + 1
  | .held _ => 1
def uptoBulkAll {H : Type} : List (DataW H) → Nat
  | [] => 0
  | d :: r => uptoBulk d + uptoBulkAll r
def uptoBulkEntries {H : Type} : List (Lit × DataW H) → Nat
  | [] => 0
  | x :: r => uptoBulkEntry x + uptoBulkEntries r
def uptoBulkEntry {H : Type} : Lit × DataW H → Nat
  | (.string bytes, d) => bytes.length + uptoBulk d + 1
  | (_, d) => uptoBulk d + 1
 end
def uptoSmall : (H : Type) → List (DataW H) → Bool := fun _ ds => decide (uptoBulkAll ds ≤ 1048576)
def OpenSpec.upto (s : _root_.Go.ChangeSpec) : _root_.Go.OpenSpec := { _root_.Go.OpenSpec.ofChange s with cond := some uptoSmall }

/-- 'packetboatkeep.RouteApart', WHERE WHAT IT READS IS OF BULK AT MOST 1048576: true; the input reads as it did. -/
def routeApartUptoRow : OpenClaim := { program := "ytalfdbhpaonfjaa", sum := "7dba544957163eac02762654d3b0690c4b1704111fe3e6c80894ad7d299f7f3c", func := "packetboat/packetboatkeep.RouteApart", spec := "routeApart", recurses := true, apart := false, narrowed := true }
def RouteApartUptoSaid : Prop := routeApartUptoRow.holds Try.pinned (OpenSpec.upto routeApartSpec)

/-- 'packetboatkeep.RouteBack', WHERE WHAT IT READS IS OF BULK AT MOST 1048576: true; the input reads as it did. -/
def routeBackUptoRow : OpenClaim := { program := "ytalfdbhpaonfjaa", sum := "7dba544957163eac02762654d3b0690c4b1704111fe3e6c80894ad7d299f7f3c", func := "packetboat/packetboatkeep.RouteBack", spec := "routeBack", unfollowed := true, recurses := true, apart := false, narrowed := true }
def RouteBackUptoSaid : Prop := routeBackUptoRow.holds Try.pinned (OpenSpec.upto routeBackSpec)

/-- 'packetboatkeep.RouteEmpty', WHERE WHAT IT READS IS OF BULK AT MOST 1048576: true; the input reads as it did. -/
def routeEmptyUptoRow : OpenClaim := { program := "ytalfdbhpaonfjaa", sum := "7dba544957163eac02762654d3b0690c4b1704111fe3e6c80894ad7d299f7f3c", func := "packetboat/packetboatkeep.RouteEmpty", spec := "routeEmpty", unfollowed := true, recurses := true, apart := false, narrowed := true }
def RouteEmptyUptoSaid : Prop := routeEmptyUptoRow.holds Try.pinned (OpenSpec.upto routeEmptySpec)

/-- 'packetboatkeep.RouteBest', WHERE WHAT IT READS IS OF BULK AT MOST 1048576: true; the input reads as it did. -/
def routeBestUptoRow : OpenClaim := { program := "ytalfdbhpaonfjaa", sum := "7dba544957163eac02762654d3b0690c4b1704111fe3e6c80894ad7d299f7f3c", func := "packetboat/packetboatkeep.RouteBest", spec := "routeBest", unfollowed := true, recurses := true, apart := false, narrowed := true }
def RouteBestUptoSaid : Prop := routeBestUptoRow.holds Try.pinned (OpenSpec.upto routeBestSpec)

/-- 'packetboatkeep.RouteAll', WHERE WHAT IT READS IS OF BULK AT MOST 1048576: true; the input reads as it did. -/
def routeAllUptoRow : OpenClaim := { program := "ytalfdbhpaonfjaa", sum := "7dba544957163eac02762654d3b0690c4b1704111fe3e6c80894ad7d299f7f3c", func := "packetboat/packetboatkeep.RouteAll", spec := "routeAll", unfollowed := true, recurses := true, apart := false, narrowed := true }
def RouteAllUptoSaid : Prop := routeAllUptoRow.holds Try.pinned (OpenSpec.upto routeAllSpec)

/-- 'packetboatkeep.PortsTurns', WHERE WHAT IT READS IS OF BULK AT MOST 1048576: true; the input reads as it did. -/
def portsTurnsUptoRow : OpenClaim := { program := "ytalfdbhpaonfjaa", sum := "7dba544957163eac02762654d3b0690c4b1704111fe3e6c80894ad7d299f7f3c", func := "packetboat/packetboatkeep.PortsTurns", spec := "portsTurns", unfollowed := true, recurses := true, apart := false, narrowed := true }
def PortsTurnsUptoSaid : Prop := portsTurnsUptoRow.holds Try.pinned (OpenSpec.upto portsTurnsSpec)

/-- 'packetboatkeep.PortsApart', WHERE WHAT IT READS IS OF BULK AT MOST 1048576: true; the input reads as it did. -/
def portsApartUptoRow : OpenClaim := { program := "ytalfdbhpaonfjaa", sum := "7dba544957163eac02762654d3b0690c4b1704111fe3e6c80894ad7d299f7f3c", func := "packetboat/packetboatkeep.PortsApart", spec := "portsApart", unfollowed := true, recurses := true, apart := false, narrowed := true }
def PortsApartUptoSaid : Prop := portsApartUptoRow.holds Try.pinned (OpenSpec.upto portsApartSpec)

/-- 'packetboatkeep.PortsBack', WHERE WHAT IT READS IS OF BULK AT MOST 1048576: true; the input reads as it did. -/
def portsBackUptoRow : OpenClaim := { program := "ytalfdbhpaonfjaa", sum := "7dba544957163eac02762654d3b0690c4b1704111fe3e6c80894ad7d299f7f3c", func := "packetboat/packetboatkeep.PortsBack", spec := "portsBack", unfollowed := true, recurses := true, apart := false, narrowed := true }
def PortsBackUptoSaid : Prop := portsBackUptoRow.holds Try.pinned (OpenSpec.upto portsBackSpec)

/-- 'packetboatkeep.PortsOthers', WHERE WHAT IT READS IS OF BULK AT MOST 1048576: true; the input reads as it did. -/
def portsOthersUptoRow : OpenClaim := { program := "ytalfdbhpaonfjaa", sum := "7dba544957163eac02762654d3b0690c4b1704111fe3e6c80894ad7d299f7f3c", func := "packetboat/packetboatkeep.PortsOthers", spec := "portsOthers", unfollowed := true, recurses := true, apart := false, narrowed := true }
def PortsOthersUptoSaid : Prop := portsOthersUptoRow.holds Try.pinned (OpenSpec.upto portsOthersSpec)

/-- 'packetboatkeep.PortsFound', WHERE WHAT IT READS IS OF BULK AT MOST 1048576: true; the input reads as it did. -/
def portsFoundUptoRow : OpenClaim := { program := "ytalfdbhpaonfjaa", sum := "7dba544957163eac02762654d3b0690c4b1704111fe3e6c80894ad7d299f7f3c", func := "packetboat/packetboatkeep.PortsFound", spec := "portsFound", unfollowed := true, recurses := true, apart := false, narrowed := true }
def PortsFoundUptoSaid : Prop := portsFoundUptoRow.holds Try.pinned (OpenSpec.upto portsFoundSpec)

end Rows
end Go.Proofs.Ytalfdbhpaonfjaa
