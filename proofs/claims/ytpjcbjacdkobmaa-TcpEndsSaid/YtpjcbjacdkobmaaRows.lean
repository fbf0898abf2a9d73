/-
  No cell of these rows narrows 'for every input' (looked for: loops, veiled, ifaces, maps, wideKeys, modest, calm, conditions, laid).
  DERIVED. THE GIVEN ROWS OF THIS SEAT. 9 by the template 'for every input the law returns true; each argument reads behind the call as it read before'; 0 by the template 'total and deterministic' (their statements: YtpjcbjacdkobmaaTotals.lean).
  GIVEN WITH THE SEED: the statements are not yours to turn. If you find one false, say at which input.
  Laid BY PROGRAM, IN A SANDBOX (cutbox-rows.mjs): the forced cells as the released guide's own fill.sh prints them over the translation 1ddfebc9dd561e5e… (all of the seat's roots in one cut). By AI agents, Wed Nov 11 2026. No macro, syntax, notation, axiom, sorry.
-/
import Derived.Test.YtpjcbjacdkobmaaChecked
import GoSem.Claim
import GoSem.ClaimJoined
import GoSem.ClaimMapViews
import Derived.JoinedTies
import Derived.KernelRfl
namespace Go.Proofs.Ytpjcbjacdkobmaa
/- THE CELL 'sum', in the pinned program and in every row, IS THE sha256 OF THE DUMP (.gsa) THAT YtpjcbjacdkobmaaProg.lean LOADS. Nothing in Lean hashes anything: it is a label: what it is worth is what the hold of that sum in a sandbox is worth. -/
noncomputable def Try.pinned : Pinned := { name := "ytpjcbjacdkobmaa", sum := "1ddfebc9dd561e5eda0fa9f7f7ef46d34288ba6f665f1084d7a7da989839a989", checked := Try.checked }
namespace Rows
def none {H : Type} : Left H := { results := [], args := [] }

/-- 'packetboatkeep.UdpBack': WHATEVER THE INPUT: true; the input reads as it did. -/
def udpBackSpec : ChangeSpec := { name := "udpBack", fn := fun _ => fun
  | [d1, d2, d3, d4] => { results := [.lit (.bool true)], args := [d1, d2, d3, d4] }
  | _ => none }
def udpBackRow : OpenClaim := { program := "ytpjcbjacdkobmaa", sum := "1ddfebc9dd561e5eda0fa9f7f7ef46d34288ba6f665f1084d7a7da989839a989", func := "packetboat/packetboatkeep.UdpBack", spec := "udpBack", apart := false }
def UdpBackSaid : Prop := udpBackRow.holds Try.pinned (OpenSpec.ofChange udpBackSpec)

/-- ITS FALSE NEIGHBOUR: 'it returns false'. Refute it at one input. -/
def udpBackWrong : ChangeSpec := { name := "udpBack", fn := fun _ => fun
  | [d1, d2, d3, d4] => { results := [.lit (.bool false)], args := [d1, d2, d3, d4] }
  | _ => none }
def UdpBackWrongFalsely : Prop := udpBackRow.holds Try.pinned (OpenSpec.ofChange udpBackWrong)

/-- 'packetboatkeep.UdpShort': WHATEVER THE INPUT: true; the input reads as it did. -/
def udpShortSpec : ChangeSpec := { name := "udpShort", fn := fun _ => fun
  | [d1, d2, d3] => { results := [.lit (.bool true)], args := [d1, d2, d3] }
  | _ => none }
def udpShortRow : OpenClaim := { program := "ytpjcbjacdkobmaa", sum := "1ddfebc9dd561e5eda0fa9f7f7ef46d34288ba6f665f1084d7a7da989839a989", func := "packetboat/packetboatkeep.UdpShort", spec := "udpShort", apart := false }
def UdpShortSaid : Prop := udpShortRow.holds Try.pinned (OpenSpec.ofChange udpShortSpec)

/-- ITS FALSE NEIGHBOUR: 'it returns false'. Refute it at one input. -/
def udpShortWrong : ChangeSpec := { name := "udpShort", fn := fun _ => fun
  | [d1, d2, d3] => { results := [.lit (.bool false)], args := [d1, d2, d3] }
  | _ => none }
def UdpShortWrongFalsely : Prop := udpShortRow.holds Try.pinned (OpenSpec.ofChange udpShortWrong)

/-- 'packetboatkeep.IpBack': WHATEVER THE INPUT: true; the input reads as it did. -/
def ipBackSpec : ChangeSpec := { name := "ipBack", fn := fun _ => fun
  | [d1, d2] => { results := [.lit (.bool true)], args := [d1, d2] }
  | _ => none }
def ipBackRow : OpenClaim := { program := "ytpjcbjacdkobmaa", sum := "1ddfebc9dd561e5eda0fa9f7f7ef46d34288ba6f665f1084d7a7da989839a989", func := "packetboat/packetboatkeep.IpBack", spec := "ipBack", apart := false }
def IpBackSaid : Prop := ipBackRow.holds Try.pinned (OpenSpec.ofChange ipBackSpec)

/-- ITS FALSE NEIGHBOUR: 'it returns false'. Refute it at one input. -/
def ipBackWrong : ChangeSpec := { name := "ipBack", fn := fun _ => fun
  | [d1, d2] => { results := [.lit (.bool false)], args := [d1, d2] }
  | _ => none }
def IpBackWrongFalsely : Prop := ipBackRow.holds Try.pinned (OpenSpec.ofChange ipBackWrong)

/-- 'packetboatkeep.IpTurned': WHATEVER THE INPUT: true; the input reads as it did. -/
def ipTurnedSpec : ChangeSpec := { name := "ipTurned", fn := fun _ => fun
  | [d1, d2, d3] => { results := [.lit (.bool true)], args := [d1, d2, d3] }
  | _ => none }
def ipTurnedRow : OpenClaim := { program := "ytpjcbjacdkobmaa", sum := "1ddfebc9dd561e5eda0fa9f7f7ef46d34288ba6f665f1084d7a7da989839a989", func := "packetboat/packetboatkeep.IpTurned", spec := "ipTurned", apart := false }
def IpTurnedSaid : Prop := ipTurnedRow.holds Try.pinned (OpenSpec.ofChange ipTurnedSpec)

/-- ITS FALSE NEIGHBOUR: 'it returns false'. Refute it at one input. -/
def ipTurnedWrong : ChangeSpec := { name := "ipTurned", fn := fun _ => fun
  | [d1, d2, d3] => { results := [.lit (.bool false)], args := [d1, d2, d3] }
  | _ => none }
def IpTurnedWrongFalsely : Prop := ipTurnedRow.holds Try.pinned (OpenSpec.ofChange ipTurnedWrong)

/-- 'packetboatkeep.IpShort': WHATEVER THE INPUT: true; the input reads as it did. -/
def ipShortSpec : ChangeSpec := { name := "ipShort", fn := fun _ => fun
  | [d1, d2, d3] => { results := [.lit (.bool true)], args := [d1, d2, d3] }
  | _ => none }
def ipShortRow : OpenClaim := { program := "ytpjcbjacdkobmaa", sum := "1ddfebc9dd561e5eda0fa9f7f7ef46d34288ba6f665f1084d7a7da989839a989", func := "packetboat/packetboatkeep.IpShort", spec := "ipShort", apart := false }
def IpShortSaid : Prop := ipShortRow.holds Try.pinned (OpenSpec.ofChange ipShortSpec)

/-- ITS FALSE NEIGHBOUR: 'it returns false'. Refute it at one input. -/
def ipShortWrong : ChangeSpec := { name := "ipShort", fn := fun _ => fun
  | [d1, d2, d3] => { results := [.lit (.bool false)], args := [d1, d2, d3] }
  | _ => none }
def IpShortWrongFalsely : Prop := ipShortRow.holds Try.pinned (OpenSpec.ofChange ipShortWrong)

/-- 'packetboatkeep.TcpBack': WHATEVER THE INPUT: true; the input reads as it did. -/
def tcpBackSpec : ChangeSpec := { name := "tcpBack", fn := fun _ => fun
  | [d1, d2, d3] => { results := [.lit (.bool true)], args := [d1, d2, d3] }
  | _ => none }
def tcpBackRow : OpenClaim := { program := "ytpjcbjacdkobmaa", sum := "1ddfebc9dd561e5eda0fa9f7f7ef46d34288ba6f665f1084d7a7da989839a989", func := "packetboat/packetboatkeep.TcpBack", spec := "tcpBack", apart := false }
def TcpBackSaid : Prop := tcpBackRow.holds Try.pinned (OpenSpec.ofChange tcpBackSpec)

/-- ITS FALSE NEIGHBOUR: 'it returns false'. Refute it at one input. -/
def tcpBackWrong : ChangeSpec := { name := "tcpBack", fn := fun _ => fun
  | [d1, d2, d3] => { results := [.lit (.bool false)], args := [d1, d2, d3] }
  | _ => none }
def TcpBackWrongFalsely : Prop := tcpBackRow.holds Try.pinned (OpenSpec.ofChange tcpBackWrong)

/-- 'packetboatkeep.TcpAgain': WHATEVER THE INPUT: true; the input reads as it did. -/
def tcpAgainSpec : ChangeSpec := { name := "tcpAgain", fn := fun _ => fun
  | [d1, d2, d3] => { results := [.lit (.bool true)], args := [d1, d2, d3] }
  | _ => none }
def tcpAgainRow : OpenClaim := { program := "ytpjcbjacdkobmaa", sum := "1ddfebc9dd561e5eda0fa9f7f7ef46d34288ba6f665f1084d7a7da989839a989", func := "packetboat/packetboatkeep.TcpAgain", spec := "tcpAgain", apart := false }
def TcpAgainSaid : Prop := tcpAgainRow.holds Try.pinned (OpenSpec.ofChange tcpAgainSpec)

/-- ITS FALSE NEIGHBOUR: 'it returns false'. Refute it at one input. -/
def tcpAgainWrong : ChangeSpec := { name := "tcpAgain", fn := fun _ => fun
  | [d1, d2, d3] => { results := [.lit (.bool false)], args := [d1, d2, d3] }
  | _ => none }
def TcpAgainWrongFalsely : Prop := tcpAgainRow.holds Try.pinned (OpenSpec.ofChange tcpAgainWrong)

/-- 'packetboatkeep.TcpEnds': WHATEVER THE INPUT: true; the input reads as it did. -/
def tcpEndsSpec : ChangeSpec := { name := "tcpEnds", fn := fun _ => fun
  | [d1, d2, d3] => { results := [.lit (.bool true)], args := [d1, d2, d3] }
  | _ => none }
def tcpEndsRow : OpenClaim := { program := "ytpjcbjacdkobmaa", sum := "1ddfebc9dd561e5eda0fa9f7f7ef46d34288ba6f665f1084d7a7da989839a989", func := "packetboat/packetboatkeep.TcpEnds", spec := "tcpEnds", unfollowed := true, recurses := true, apart := false }
def TcpEndsSaid : Prop := tcpEndsRow.holds Try.pinned (OpenSpec.ofChange tcpEndsSpec)

/-- ITS FALSE NEIGHBOUR: 'it returns false'. Refute it at one input. -/
def tcpEndsWrong : ChangeSpec := { name := "tcpEnds", fn := fun _ => fun
  | [d1, d2, d3] => { results := [.lit (.bool false)], args := [d1, d2, d3] }
  | _ => none }
def TcpEndsWrongFalsely : Prop := tcpEndsRow.holds Try.pinned (OpenSpec.ofChange tcpEndsWrong)

/-- 'packetboatkeep.OwnTables': WHATEVER THE INPUT: true; the input reads as it did. -/
def ownTablesSpec : ChangeSpec := { name := "ownTables", fn := fun _ => fun
  | [d1, d2] => { results := [.lit (.bool true)], args := [d1, d2] }
  | _ => none }
def ownTablesRow : OpenClaim := { program := "ytpjcbjacdkobmaa", sum := "1ddfebc9dd561e5eda0fa9f7f7ef46d34288ba6f665f1084d7a7da989839a989", func := "packetboat/packetboatkeep.OwnTables", spec := "ownTables", unfollowed := true, recurses := true, apart := false }
def OwnTablesSaid : Prop := ownTablesRow.holds Try.pinned (OpenSpec.ofChange ownTablesSpec)

/-- ITS FALSE NEIGHBOUR: 'it returns false'. Refute it at one input. -/
def ownTablesWrong : ChangeSpec := { name := "ownTables", fn := fun _ => fun
  | [d1, d2] => { results := [.lit (.bool false)], args := [d1, d2] }
  | _ => none }
def OwnTablesWrongFalsely : Prop := ownTablesRow.holds Try.pinned (OpenSpec.ofChange ownTablesWrong)

/- THE SECOND FORM. 'bulk': how many values and letters a reading holds, each counted each time it is reached (what is shared counts as often as it is met; a slice's spare places count too). A statement '..UptoSaid' is the law's where the arguments, and the package variables that the reading takes, are together of bulk at most 1048576: NARROWER than '..Said'. Prove '..Said' where nothing that the law and all that it calls make is longer than what came in: it says more and counts as full. Else prove '..UptoSaid'. A law counts once. -/
mutual
def uptoBulk {H : Type} : DataW H → Nat
  | .lit (.string bytes) => bytes.length + 1
  | .lit _ => 1
  | .nil => 1
  | .ptr d => uptoBulk d + 1
  | .slice elems spare => uptoBulkAll elems + uptoBulkAll spare + 1
  | .agg parts => uptoBulkAll parts + 1
  | .iface _ d => uptoBulk d + 1
  | .map entries => uptoBulkEntries entries + 1
  | .held _ => 1
def uptoBulkAll {H : Type} : List (DataW H) → Nat
  | [] => 0
  | d :: r => uptoBulk d + uptoBulkAll r
def uptoBulkEntries {H : Type} : List (Lit × DataW H) → Nat
  | [] => 0
  | x :: r => uptoBulkEntry x + uptoBulkEntries r
def uptoBulkEntry {H : Type} : Lit × DataW H → Nat
  | (.string bytes, d) => bytes.length + uptoBulk d + 1
  | (_, d) => uptoBulk d + 1
 end
def uptoSmall : (H : Type) → List (DataW H) → Bool := fun _ ds => decide (uptoBulkAll ds ≤ 1048576)
def OpenSpec.upto (s : _root_.Go.ChangeSpec) : _root_.Go.OpenSpec := { _root_.Go.OpenSpec.ofChange s with cond := some uptoSmall }

/-- 'packetboatkeep.UdpBack', WHERE WHAT IT READS IS OF BULK AT MOST 1048576: true; the input reads as it did. -/
def udpBackUptoRow : OpenClaim := { program := "ytpjcbjacdkobmaa", sum := "1ddfebc9dd561e5eda0fa9f7f7ef46d34288ba6f665f1084d7a7da989839a989", func := "packetboat/packetboatkeep.UdpBack", spec := "udpBack", apart := false, narrowed := true }
def UdpBackUptoSaid : Prop := udpBackUptoRow.holds Try.pinned (OpenSpec.upto udpBackSpec)

/-- 'packetboatkeep.UdpShort', WHERE WHAT IT READS IS OF BULK AT MOST 1048576: true; the input reads as it did. -/
def udpShortUptoRow : OpenClaim := { program := "ytpjcbjacdkobmaa", sum := "1ddfebc9dd561e5eda0fa9f7f7ef46d34288ba6f665f1084d7a7da989839a989", func := "packetboat/packetboatkeep.UdpShort", spec := "udpShort", apart := false, narrowed := true }
def UdpShortUptoSaid : Prop := udpShortUptoRow.holds Try.pinned (OpenSpec.upto udpShortSpec)

/-- 'packetboatkeep.IpBack', WHERE WHAT IT READS IS OF BULK AT MOST 1048576: true; the input reads as it did. -/
def ipBackUptoRow : OpenClaim := { program := "ytpjcbjacdkobmaa", sum := "1ddfebc9dd561e5eda0fa9f7f7ef46d34288ba6f665f1084d7a7da989839a989", func := "packetboat/packetboatkeep.IpBack", spec := "ipBack", apart := false, narrowed := true }
def IpBackUptoSaid : Prop := ipBackUptoRow.holds Try.pinned (OpenSpec.upto ipBackSpec)

/-- 'packetboatkeep.IpTurned', WHERE WHAT IT READS IS OF BULK AT MOST 1048576: true; the input reads as it did. -/
def ipTurnedUptoRow : OpenClaim := { program := "ytpjcbjacdkobmaa", sum := "1ddfebc9dd561e5eda0fa9f7f7ef46d34288ba6f665f1084d7a7da989839a989", func := "packetboat/packetboatkeep.IpTurned", spec := "ipTurned", apart := false, narrowed := true }
def IpTurnedUptoSaid : Prop := ipTurnedUptoRow.holds Try.pinned (OpenSpec.upto ipTurnedSpec)

/-- 'packetboatkeep.IpShort', WHERE WHAT IT READS IS OF BULK AT MOST 1048576: true; the input reads as it did. -/
def ipShortUptoRow : OpenClaim := { program := "ytpjcbjacdkobmaa", sum := "1ddfebc9dd561e5eda0fa9f7f7ef46d34288ba6f665f1084d7a7da989839a989", func := "packetboat/packetboatkeep.IpShort", spec := "ipShort", apart := false, narrowed := true }
def IpShortUptoSaid : Prop := ipShortUptoRow.holds Try.pinned (OpenSpec.upto ipShortSpec)

/-- 'packetboatkeep.TcpBack', WHERE WHAT IT READS IS OF BULK AT MOST 1048576: true; the input reads as it did. -/
def tcpBackUptoRow : OpenClaim := { program := "ytpjcbjacdkobmaa", sum := "1ddfebc9dd561e5eda0fa9f7f7ef46d34288ba6f665f1084d7a7da989839a989", func := "packetboat/packetboatkeep.TcpBack", spec := "tcpBack", apart := false, narrowed := true }
def TcpBackUptoSaid : Prop := tcpBackUptoRow.holds Try.pinned (OpenSpec.upto tcpBackSpec)

/-- 'packetboatkeep.TcpAgain', WHERE WHAT IT READS IS OF BULK AT MOST 1048576: true; the input reads as it did. -/
def tcpAgainUptoRow : OpenClaim := { program := "ytpjcbjacdkobmaa", sum := "1ddfebc9dd561e5eda0fa9f7f7ef46d34288ba6f665f1084d7a7da989839a989", func := "packetboat/packetboatkeep.TcpAgain", spec := "tcpAgain", apart := false, narrowed := true }
def TcpAgainUptoSaid : Prop := tcpAgainUptoRow.holds Try.pinned (OpenSpec.upto tcpAgainSpec)

/-- 'packetboatkeep.TcpEnds', WHERE WHAT IT READS IS OF BULK AT MOST 1048576: true; the input reads as it did. -/
def tcpEndsUptoRow : OpenClaim := { program := "ytpjcbjacdkobmaa", sum := "1ddfebc9dd561e5eda0fa9f7f7ef46d34288ba6f665f1084d7a7da989839a989", func := "packetboat/packetboatkeep.TcpEnds", spec := "tcpEnds", unfollowed := true, recurses := true, apart := false, narrowed := true }
def TcpEndsUptoSaid : Prop := tcpEndsUptoRow.holds Try.pinned (OpenSpec.upto tcpEndsSpec)

/-- 'packetboatkeep.OwnTables', WHERE WHAT IT READS IS OF BULK AT MOST 1048576: true; the input reads as it did. -/
def ownTablesUptoRow : OpenClaim := { program := "ytpjcbjacdkobmaa", sum := "1ddfebc9dd561e5eda0fa9f7f7ef46d34288ba6f665f1084d7a7da989839a989", func := "packetboat/packetboatkeep.OwnTables", spec := "ownTables", unfollowed := true, recurses := true, apart := false, narrowed := true }
def OwnTablesUptoSaid : Prop := ownTablesUptoRow.holds Try.pinned (OpenSpec.upto ownTablesSpec)

end Rows
end Go.Proofs.Ytpjcbjacdkobmaa
