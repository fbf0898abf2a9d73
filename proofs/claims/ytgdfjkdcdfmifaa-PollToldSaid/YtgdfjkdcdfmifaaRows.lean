/-
  No cell of these rows narrows 'for every input' (looked for: loops, veiled, ifaces, maps, wideKeys, modest, calm, conditions, laid).
  DERIVED. THE GIVEN ROWS OF THIS SEAT. 12 by the template 'for every input the law returns true; each argument reads behind the call as it read before'; 0 by the template 'total and deterministic' (their statements: YtgdfjkdcdfmifaaTotals.lean).
  GIVEN WITH THE SEED: the statements are not yours to turn. If you find one false, say at which input.
  Laid BY PROGRAM, IN A SANDBOX (cutbox-rows.mjs): the forced cells as the released guide's own fill.sh prints them over the translation 5b5835975ce9a392… (all of the seat's roots in one cut). By AI agents, Wed Nov 11 2026. No macro, syntax, notation, axiom, sorry.
-/
import Derived.Test.YtgdfjkdcdfmifaaChecked
import GoSem.Claim
import GoSem.ClaimJoined
import GoSem.ClaimMapViews
import Derived.JoinedTies
import Derived.KernelRfl
namespace Go.Proofs.Ytgdfjkdcdfmifaa
/- THE CELL 'sum', in the pinned program and in every row, IS THE sha256 OF THE DUMP (.gsa) THAT YtgdfjkdcdfmifaaProg.lean LOADS. Nothing in Lean hashes anything: it is a label: what it is worth is what the hold of that sum in a sandbox is worth. -/
noncomputable def Try.pinned : Pinned := { name := "ytgdfjkdcdfmifaa", sum := "5b5835975ce9a3920ba19fc4508614d1d2344a46e8c336d5bcb654f7387e3816", checked := Try.checked }
namespace Rows
def none {H : Type} : Left H := { results := [], args := [] }

/-- 'packetboatkeep.RtoSteady': WHATEVER THE INPUT: true; the input reads as it did. -/
def rtoSteadySpec : ChangeSpec := { name := "rtoSteady", fn := fun _ => fun
  | [d1, d2] => { results := [.lit (.bool true)], args := [d1, d2] }
  | _ => none }
def rtoSteadyRow : OpenClaim := { program := "ytgdfjkdcdfmifaa", sum := "5b5835975ce9a3920ba19fc4508614d1d2344a46e8c336d5bcb654f7387e3816", func := "packetboat/packetboatkeep.RtoSteady", spec := "rtoSteady", apart := false }
def RtoSteadySaid : Prop := rtoSteadyRow.holds Try.pinned (OpenSpec.ofChange rtoSteadySpec)

/-- ITS FALSE NEIGHBOUR: 'it returns false'. Refute it at one input. -/
def rtoSteadyWrong : ChangeSpec := { name := "rtoSteady", fn := fun _ => fun
  | [d1, d2] => { results := [.lit (.bool false)], args := [d1, d2] }
  | _ => none }
def RtoSteadyWrongFalsely : Prop := rtoSteadyRow.holds Try.pinned (OpenSpec.ofChange rtoSteadyWrong)

/-- 'packetboatkeep.RtoBounds': WHATEVER THE INPUT: true; the input reads as it did. -/
def rtoBoundsSpec : ChangeSpec := { name := "rtoBounds", fn := fun _ => fun
  | [d] => { results := [.lit (.bool true)], args := [d] }
  | _ => none }
def rtoBoundsRow : OpenClaim := { program := "ytgdfjkdcdfmifaa", sum := "5b5835975ce9a3920ba19fc4508614d1d2344a46e8c336d5bcb654f7387e3816", func := "packetboat/packetboatkeep.RtoBounds", spec := "rtoBounds", apart := false }
def RtoBoundsSaid : Prop := rtoBoundsRow.holds Try.pinned (OpenSpec.ofChange rtoBoundsSpec)

/-- ITS FALSE NEIGHBOUR: 'it returns false'. Refute it at one input. -/
def rtoBoundsWrong : ChangeSpec := { name := "rtoBounds", fn := fun _ => fun
  | [d] => { results := [.lit (.bool false)], args := [d] }
  | _ => none }
def RtoBoundsWrongFalsely : Prop := rtoBoundsRow.holds Try.pinned (OpenSpec.ofChange rtoBoundsWrong)

/-- 'packetboatkeep.DgramFull': WHATEVER THE INPUT: true; the input reads as it did. -/
def dgramFullSpec : ChangeSpec := { name := "dgramFull", fn := fun _ => fun
  | [d1, d2] => { results := [.lit (.bool true)], args := [d1, d2] }
  | _ => none }
def dgramFullRow : OpenClaim := { program := "ytgdfjkdcdfmifaa", sum := "5b5835975ce9a3920ba19fc4508614d1d2344a46e8c336d5bcb654f7387e3816", func := "packetboat/packetboatkeep.DgramFull", spec := "dgramFull", apart := false }
def DgramFullSaid : Prop := dgramFullRow.holds Try.pinned (OpenSpec.ofChange dgramFullSpec)

/-- ITS FALSE NEIGHBOUR: 'it returns false'. Refute it at one input. -/
def dgramFullWrong : ChangeSpec := { name := "dgramFull", fn := fun _ => fun
  | [d1, d2] => { results := [.lit (.bool false)], args := [d1, d2] }
  | _ => none }
def DgramFullWrongFalsely : Prop := dgramFullRow.holds Try.pinned (OpenSpec.ofChange dgramFullWrong)

/-- 'packetboatkeep.DgramRow': WHATEVER THE INPUT: true; the input reads as it did. -/
def dgramRowSpec : ChangeSpec := { name := "dgramRow", fn := fun _ => fun
  | [d] => { results := [.lit (.bool true)], args := [d] }
  | _ => none }
def dgramRowRow : OpenClaim := { program := "ytgdfjkdcdfmifaa", sum := "5b5835975ce9a3920ba19fc4508614d1d2344a46e8c336d5bcb654f7387e3816", func := "packetboat/packetboatkeep.DgramRow", spec := "dgramRow", apart := false }
def DgramRowSaid : Prop := dgramRowRow.holds Try.pinned (OpenSpec.ofChange dgramRowSpec)

/-- ITS FALSE NEIGHBOUR: 'it returns false'. Refute it at one input. -/
def dgramRowWrong : ChangeSpec := { name := "dgramRow", fn := fun _ => fun
  | [d] => { results := [.lit (.bool false)], args := [d] }
  | _ => none }
def DgramRowWrongFalsely : Prop := dgramRowRow.holds Try.pinned (OpenSpec.ofChange dgramRowWrong)

/-- 'packetboatkeep.CongBounds': WHATEVER THE INPUT: true; the input reads as it did. -/
def congBoundsSpec : ChangeSpec := { name := "congBounds", fn := fun _ => fun
  | [d1, d2] => { results := [.lit (.bool true)], args := [d1, d2] }
  | _ => none }
def congBoundsRow : OpenClaim := { program := "ytgdfjkdcdfmifaa", sum := "5b5835975ce9a3920ba19fc4508614d1d2344a46e8c336d5bcb654f7387e3816", func := "packetboat/packetboatkeep.CongBounds", spec := "congBounds", apart := false }
def CongBoundsSaid : Prop := congBoundsRow.holds Try.pinned (OpenSpec.ofChange congBoundsSpec)

/-- ITS FALSE NEIGHBOUR: 'it returns false'. Refute it at one input. -/
def congBoundsWrong : ChangeSpec := { name := "congBounds", fn := fun _ => fun
  | [d1, d2] => { results := [.lit (.bool false)], args := [d1, d2] }
  | _ => none }
def CongBoundsWrongFalsely : Prop := congBoundsRow.holds Try.pinned (OpenSpec.ofChange congBoundsWrong)

/-- 'packetboatkeep.InqEdges': WHATEVER THE INPUT: true; the input reads as it did. -/
def inqEdgesSpec : ChangeSpec := { name := "inqEdges", fn := fun _ => fun
  | [d1, d2, d3] => { results := [.lit (.bool true)], args := [d1, d2, d3] }
  | _ => none }
def inqEdgesRow : OpenClaim := { program := "ytgdfjkdcdfmifaa", sum := "5b5835975ce9a3920ba19fc4508614d1d2344a46e8c336d5bcb654f7387e3816", func := "packetboat/packetboatkeep.InqEdges", spec := "inqEdges", apart := false }
def InqEdgesSaid : Prop := inqEdgesRow.holds Try.pinned (OpenSpec.ofChange inqEdgesSpec)

/-- ITS FALSE NEIGHBOUR: 'it returns false'. Refute it at one input. -/
def inqEdgesWrong : ChangeSpec := { name := "inqEdges", fn := fun _ => fun
  | [d1, d2, d3] => { results := [.lit (.bool false)], args := [d1, d2, d3] }
  | _ => none }
def InqEdgesWrongFalsely : Prop := inqEdgesRow.holds Try.pinned (OpenSpec.ofChange inqEdgesWrong)

/-- 'packetboatkeep.InqTwice': WHATEVER THE INPUT: true; the input reads as it did. -/
def inqTwiceSpec : ChangeSpec := { name := "inqTwice", fn := fun _ => fun
  | [d1, d2, d3, d4] => { results := [.lit (.bool true)], args := [d1, d2, d3, d4] }
  | _ => none }
def inqTwiceRow : OpenClaim := { program := "ytgdfjkdcdfmifaa", sum := "5b5835975ce9a3920ba19fc4508614d1d2344a46e8c336d5bcb654f7387e3816", func := "packetboat/packetboatkeep.InqTwice", spec := "inqTwice", apart := false }
def InqTwiceSaid : Prop := inqTwiceRow.holds Try.pinned (OpenSpec.ofChange inqTwiceSpec)

/-- ITS FALSE NEIGHBOUR: 'it returns false'. Refute it at one input. -/
def inqTwiceWrong : ChangeSpec := { name := "inqTwice", fn := fun _ => fun
  | [d1, d2, d3, d4] => { results := [.lit (.bool false)], args := [d1, d2, d3, d4] }
  | _ => none }
def InqTwiceWrongFalsely : Prop := inqTwiceRow.holds Try.pinned (OpenSpec.ofChange inqTwiceWrong)

/-- 'packetboatkeep.InqStream': WHATEVER THE INPUT: true; the input reads as it did. -/
def inqStreamSpec : ChangeSpec := { name := "inqStream", fn := fun _ => fun
  | [d1, d2, d3] => { results := [.lit (.bool true)], args := [d1, d2, d3] }
  | _ => none }
def inqStreamRow : OpenClaim := { program := "ytgdfjkdcdfmifaa", sum := "5b5835975ce9a3920ba19fc4508614d1d2344a46e8c336d5bcb654f7387e3816", func := "packetboat/packetboatkeep.InqStream", spec := "inqStream", unfollowed := true, recurses := true, apart := false }
def InqStreamSaid : Prop := inqStreamRow.holds Try.pinned (OpenSpec.ofChange inqStreamSpec)

/-- ITS FALSE NEIGHBOUR: 'it returns false'. Refute it at one input. -/
def inqStreamWrong : ChangeSpec := { name := "inqStream", fn := fun _ => fun
  | [d1, d2, d3] => { results := [.lit (.bool false)], args := [d1, d2, d3] }
  | _ => none }
def InqStreamWrongFalsely : Prop := inqStreamRow.holds Try.pinned (OpenSpec.ofChange inqStreamWrong)

/-- 'packetboatkeep.PollFair': WHATEVER THE INPUT: true; the input reads as it did. -/
def pollFairSpec : ChangeSpec := { name := "pollFair", fn := fun _ => fun
  | [d1, d2] => { results := [.lit (.bool true)], args := [d1, d2] }
  | _ => none }
def pollFairRow : OpenClaim := { program := "ytgdfjkdcdfmifaa", sum := "5b5835975ce9a3920ba19fc4508614d1d2344a46e8c336d5bcb654f7387e3816", func := "packetboat/packetboatkeep.PollFair", spec := "pollFair", unfollowed := true, recurses := true, apart := false }
def PollFairSaid : Prop := pollFairRow.holds Try.pinned (OpenSpec.ofChange pollFairSpec)

/-- ITS FALSE NEIGHBOUR: 'it returns false'. Refute it at one input. -/
def pollFairWrong : ChangeSpec := { name := "pollFair", fn := fun _ => fun
  | [d1, d2] => { results := [.lit (.bool false)], args := [d1, d2] }
  | _ => none }
def PollFairWrongFalsely : Prop := pollFairRow.holds Try.pinned (OpenSpec.ofChange pollFairWrong)

/-- 'packetboatkeep.PollTold': WHATEVER THE INPUT: true; the input reads as it did. -/
def pollToldSpec : ChangeSpec := { name := "pollTold", fn := fun _ => fun
  | [d] => { results := [.lit (.bool true)], args := [d] }
  | _ => none }
def pollToldRow : OpenClaim := { program := "ytgdfjkdcdfmifaa", sum := "5b5835975ce9a3920ba19fc4508614d1d2344a46e8c336d5bcb654f7387e3816", func := "packetboat/packetboatkeep.PollTold", spec := "pollTold", unfollowed := true, recurses := true, apart := false }
def PollToldSaid : Prop := pollToldRow.holds Try.pinned (OpenSpec.ofChange pollToldSpec)

/-- ITS FALSE NEIGHBOUR: 'it returns false'. Refute it at one input. -/
def pollToldWrong : ChangeSpec := { name := "pollTold", fn := fun _ => fun
  | [d] => { results := [.lit (.bool false)], args := [d] }
  | _ => none }
def PollToldWrongFalsely : Prop := pollToldRow.holds Try.pinned (OpenSpec.ofChange pollToldWrong)

/-- 'packetboatkeep.PollNone': WHATEVER THE INPUT: true; the input reads as it did. -/
def pollNoneSpec : ChangeSpec := { name := "pollNone", fn := fun _ => fun
  | [d1, d2] => { results := [.lit (.bool true)], args := [d1, d2] }
  | _ => none }
def pollNoneRow : OpenClaim := { program := "ytgdfjkdcdfmifaa", sum := "5b5835975ce9a3920ba19fc4508614d1d2344a46e8c336d5bcb654f7387e3816", func := "packetboat/packetboatkeep.PollNone", spec := "pollNone", unfollowed := true, recurses := true, apart := false }
def PollNoneSaid : Prop := pollNoneRow.holds Try.pinned (OpenSpec.ofChange pollNoneSpec)

/-- ITS FALSE NEIGHBOUR: 'it returns false'. Refute it at one input. -/
def pollNoneWrong : ChangeSpec := { name := "pollNone", fn := fun _ => fun
  | [d1, d2] => { results := [.lit (.bool false)], args := [d1, d2] }
  | _ => none }
def PollNoneWrongFalsely : Prop := pollNoneRow.holds Try.pinned (OpenSpec.ofChange pollNoneWrong)

/-- 'packetboatkeep.HashKnown': WHATEVER THE INPUT: true; the input reads as it did. -/
def hashKnownSpec : ChangeSpec := { name := "hashKnown", fn := fun _ => fun
  | [d1, d2, d3, d4] => { results := [.lit (.bool true)], args := [d1, d2, d3, d4] }
  | _ => none }
def hashKnownRow : OpenClaim := { program := "ytgdfjkdcdfmifaa", sum := "5b5835975ce9a3920ba19fc4508614d1d2344a46e8c336d5bcb654f7387e3816", func := "packetboat/packetboatkeep.HashKnown", spec := "hashKnown", apart := false }
def HashKnownSaid : Prop := hashKnownRow.holds Try.pinned (OpenSpec.ofChange hashKnownSpec)

/-- ITS FALSE NEIGHBOUR: 'it returns false'. Refute it at one input. -/
def hashKnownWrong : ChangeSpec := { name := "hashKnown", fn := fun _ => fun
  | [d1, d2, d3, d4] => { results := [.lit (.bool false)], args := [d1, d2, d3, d4] }
  | _ => none }
def HashKnownWrongFalsely : Prop := hashKnownRow.holds Try.pinned (OpenSpec.ofChange hashKnownWrong)

/- THE SECOND FORM. 'bulk': how many values and letters a reading holds, each counted each time it is reached (what is shared counts as often as it is met; a slice's spare places count too). A statement '..UptoSaid' is the law's where the arguments, and the package variables that the reading takes, are together of bulk at most 1048576: NARROWER than '..Said'. Prove '..Said' where nothing that the law and all that it calls make is longer than what came in: it says more and counts as full. Else prove '..UptoSaid'. A law counts once. -/
mutual
def uptoBulk {H : Type} : DataW H → Nat
  | .lit (.string bytes) => bytes.length + 1
  | .lit _ => 1
  | .nil => 1
  | .ptr d => uptoBulk d + 1
  | .slice elems spare => uptoBulkAll elems + uptoBulkAll spare + 1
  | .agg parts => uptoBulkAll parts + 1
  | .iface _ d => uptoBulk d + 1
  | .map entries => uptoBulkEntries entries + 1
  | .held _ => 1
def uptoBulkAll {H : Type} : List (DataW H) → Nat
  | [] => 0
  | d :: r => uptoBulk d + uptoBulkAll r
def uptoBulkEntries {H : Type} : List (Lit × DataW H) → Nat
  | [] => 0
  | x :: r => uptoBulkEntry x + uptoBulkEntries r
def uptoBulkEntry {H : Type} : Lit × DataW H → Nat
  | (.string bytes, d) => bytes.length + uptoBulk d + 1
  | (_, d) => uptoBulk d + 1
 end
def uptoSmall : (H : Type) → List (DataW H) → Bool := fun _ ds => decide (uptoBulkAll ds ≤ 1048576)
def OpenSpec.upto (s : _root_.Go.ChangeSpec) : _root_.Go.OpenSpec := { _root_.Go.OpenSpec.ofChange s with cond := some uptoSmall }

/-- 'packetboatkeep.RtoSteady', WHERE WHAT IT READS IS OF BULK AT MOST 1048576: true; the input reads as it did. -/
def rtoSteadyUptoRow : OpenClaim := { program := "ytgdfjkdcdfmifaa", sum := "5b5835975ce9a3920ba19fc4508614d1d2344a46e8c336d5bcb654f7387e3816", func := "packetboat/packetboatkeep.RtoSteady", spec := "rtoSteady", apart := false, narrowed := true }
def RtoSteadyUptoSaid : Prop := rtoSteadyUptoRow.holds Try.pinned (OpenSpec.upto rtoSteadySpec)

/-- 'packetboatkeep.RtoBounds', WHERE WHAT IT READS IS OF BULK AT MOST 1048576: true; the input reads as it did. -/
def rtoBoundsUptoRow : OpenClaim := { program := "ytgdfjkdcdfmifaa", sum := "5b5835975ce9a3920ba19fc4508614d1d2344a46e8c336d5bcb654f7387e3816", func := "packetboat/packetboatkeep.RtoBounds", spec := "rtoBounds", apart := false, narrowed := true }
def RtoBoundsUptoSaid : Prop := rtoBoundsUptoRow.holds Try.pinned (OpenSpec.upto rtoBoundsSpec)

/-- 'packetboatkeep.DgramFull', WHERE WHAT IT READS IS OF BULK AT MOST 1048576: true; the input reads as it did. -/
def dgramFullUptoRow : OpenClaim := { program := "ytgdfjkdcdfmifaa", sum := "5b5835975ce9a3920ba19fc4508614d1d2344a46e8c336d5bcb654f7387e3816", func := "packetboat/packetboatkeep.DgramFull", spec := "dgramFull", apart := false, narrowed := true }
def DgramFullUptoSaid : Prop := dgramFullUptoRow.holds Try.pinned (OpenSpec.upto dgramFullSpec)

/-- 'packetboatkeep.DgramRow', WHERE WHAT IT READS IS OF BULK AT MOST 1048576: true; the input reads as it did. -/
def dgramRowUptoRow : OpenClaim := { program := "ytgdfjkdcdfmifaa", sum := "5b5835975ce9a3920ba19fc4508614d1d2344a46e8c336d5bcb654f7387e3816", func := "packetboat/packetboatkeep.DgramRow", spec := "dgramRow", apart := false, narrowed := true }
def DgramRowUptoSaid : Prop := dgramRowUptoRow.holds Try.pinned (OpenSpec.upto dgramRowSpec)

/-- 'packetboatkeep.CongBounds', WHERE WHAT IT READS IS OF BULK AT MOST 1048576: true; the input reads as it did. -/
def congBoundsUptoRow : OpenClaim := { program := "ytgdfjkdcdfmifaa", sum := "5b5835975ce9a3920ba19fc4508614d1d2344a46e8c336d5bcb654f7387e3816", func := "packetboat/packetboatkeep.CongBounds", spec := "congBounds", apart := false, narrowed := true }
def CongBoundsUptoSaid : Prop := congBoundsUptoRow.holds Try.pinned (OpenSpec.upto congBoundsSpec)

/-- 'packetboatkeep.InqEdges', WHERE WHAT IT READS IS OF BULK AT MOST 1048576: true; the input reads as it did. -/
def inqEdgesUptoRow : OpenClaim := { program := "ytgdfjkdcdfmifaa", sum := "5b5835975ce9a3920ba19fc4508614d1d2344a46e8c336d5bcb654f7387e3816", func := "packetboat/packetboatkeep.InqEdges", spec := "inqEdges", apart := false, narrowed := true }
def InqEdgesUptoSaid : Prop := inqEdgesUptoRow.holds Try.pinned (OpenSpec.upto inqEdgesSpec)

/-- 'packetboatkeep.InqTwice', WHERE WHAT IT READS IS OF BULK AT MOST 1048576: true; the input reads as it did. -/
def inqTwiceUptoRow : OpenClaim := { program := "ytgdfjkdcdfmifaa", sum := "5b5835975ce9a3920ba19fc4508614d1d2344a46e8c336d5bcb654f7387e3816", func := "packetboat/packetboatkeep.InqTwice", spec := "inqTwice", apart := false, narrowed := true }
def InqTwiceUptoSaid : Prop := inqTwiceUptoRow.holds Try.pinned (OpenSpec.upto inqTwiceSpec)

/-- 'packetboatkeep.InqStream', WHERE WHAT IT READS IS OF BULK AT MOST 1048576: true; the input reads as it did. -/
def inqStreamUptoRow : OpenClaim := { program := "ytgdfjkdcdfmifaa", sum := "5b5835975ce9a3920ba19fc4508614d1d2344a46e8c336d5bcb654f7387e3816", func := "packetboat/packetboatkeep.InqStream", spec := "inqStream", unfollowed := true, recurses := true, apart := false, narrowed := true }
def InqStreamUptoSaid : Prop := inqStreamUptoRow.holds Try.pinned (OpenSpec.upto inqStreamSpec)

/-- 'packetboatkeep.PollFair', WHERE WHAT IT READS IS OF BULK AT MOST 1048576: true; the input reads as it did. -/
def pollFairUptoRow : OpenClaim := { program := "ytgdfjkdcdfmifaa", sum := "5b5835975ce9a3920ba19fc4508614d1d2344a46e8c336d5bcb654f7387e3816", func := "packetboat/packetboatkeep.PollFair", spec := "pollFair", unfollowed := true, recurses := true, apart := false, narrowed := true }
def PollFairUptoSaid : Prop := pollFairUptoRow.holds Try.pinned (OpenSpec.upto pollFairSpec)

/-- 'packetboatkeep.PollTold', WHERE WHAT IT READS IS OF BULK AT MOST 1048576: true; the input reads as it did. -/
def pollToldUptoRow : OpenClaim := { program := "ytgdfjkdcdfmifaa", sum := "5b5835975ce9a3920ba19fc4508614d1d2344a46e8c336d5bcb654f7387e3816", func := "packetboat/packetboatkeep.PollTold", spec := "pollTold", unfollowed := true, recurses := true, apart := false, narrowed := true }
def PollToldUptoSaid : Prop := pollToldUptoRow.holds Try.pinned (OpenSpec.upto pollToldSpec)

/-- 'packetboatkeep.PollNone', WHERE WHAT IT READS IS OF BULK AT MOST 1048576: true; the input reads as it did. -/
def pollNoneUptoRow : OpenClaim := { program := "ytgdfjkdcdfmifaa", sum := "5b5835975ce9a3920ba19fc4508614d1d2344a46e8c336d5bcb654f7387e3816", func := "packetboat/packetboatkeep.PollNone", spec := "pollNone", unfollowed := true, recurses := true, apart := false, narrowed := true }
def PollNoneUptoSaid : Prop := pollNoneUptoRow.holds Try.pinned (OpenSpec.upto pollNoneSpec)

/-- 'packetboatkeep.HashKnown', WHERE WHAT IT READS IS OF BULK AT MOST 1048576: true; the input reads as it did. -/
def hashKnownUptoRow : OpenClaim := { program := "ytgdfjkdcdfmifaa", sum := "5b5835975ce9a3920ba19fc4508614d1d2344a46e8c336d5bcb654f7387e3816", func := "packetboat/packetboatkeep.HashKnown", spec := "hashKnown", apart := false, narrowed := true }
def HashKnownUptoSaid : Prop := hashKnownUptoRow.holds Try.pinned (OpenSpec.upto hashKnownSpec)

end Rows
end Go.Proofs.Ytgdfjkdcdfmifaa
