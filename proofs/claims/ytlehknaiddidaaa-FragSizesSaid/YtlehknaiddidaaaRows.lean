/-
  No cell of these rows narrows 'for every input' (looked for: loops, veiled, ifaces, maps, wideKeys, modest, calm, conditions, laid).
  DERIVED. THE GIVEN ROWS OF THIS SEAT. 10 by the template 'for every input the law returns true; each argument reads behind the call as it read before'; 0 by the template 'total and deterministic' (their statements: YtlehknaiddidaaaTotals.lean).
  GIVEN WITH THE SEED: the statements are not yours to turn. If you find one false, say at which input.
  Laid BY PROGRAM, IN A SANDBOX (cutbox-rows.mjs): the forced cells as the released guide's own fill.sh prints them over the translation 5d08b4877e34783f… (all of the seat's roots in one cut). By AI agents, Wed Nov 11 2026. No macro, syntax, notation, axiom, sorry.
-/
import Derived.Test.YtlehknaiddidaaaChecked
import GoSem.Claim
import GoSem.ClaimJoined
import GoSem.ClaimMapViews
import Derived.JoinedTies
import Derived.KernelRfl
namespace Go.Proofs.Ytlehknaiddidaaa
/- THE CELL 'sum', in the pinned program and in every row, IS THE sha256 OF THE DUMP (.gsa) THAT YtlehknaiddidaaaProg.lean LOADS. Nothing in Lean hashes anything: it is a label: what it is worth is what the hold of that sum in a sandbox is worth. -/
noncomputable def Try.pinned : Pinned := { name := "ytlehknaiddidaaa", sum := "5d08b4877e34783fc76088aa70d69d796aa63c1236e131f1e74f20a8f501d408", checked := Try.checked }
namespace Rows
def none {H : Type} : Left H := { results := [], args := [] }

/-- 'packetboatkeep.SeqRound': WHATEVER THE INPUT: true; the input reads as it did. -/
def seqRoundSpec : ChangeSpec := { name := "seqRound", fn := fun _ => fun
  | [d1, d2, d3, d4] => { results := [.lit (.bool true)], args := [d1, d2, d3, d4] }
  | _ => none }
def seqRoundRow : OpenClaim := { program := "ytlehknaiddidaaa", sum := "5d08b4877e34783fc76088aa70d69d796aa63c1236e131f1e74f20a8f501d408", func := "packetboat/packetboatkeep.SeqRound", spec := "seqRound", apart := false }
def SeqRoundSaid : Prop := seqRoundRow.holds Try.pinned (OpenSpec.ofChange seqRoundSpec)

/-- ITS FALSE NEIGHBOUR: 'it returns false'. Refute it at one input. -/
def seqRoundWrong : ChangeSpec := { name := "seqRound", fn := fun _ => fun
  | [d1, d2, d3, d4] => { results := [.lit (.bool false)], args := [d1, d2, d3, d4] }
  | _ => none }
def SeqRoundWrongFalsely : Prop := seqRoundRow.holds Try.pinned (OpenSpec.ofChange seqRoundWrong)

/-- 'packetboatkeep.SeqSides': WHATEVER THE INPUT: true; the input reads as it did. -/
def seqSidesSpec : ChangeSpec := { name := "seqSides", fn := fun _ => fun
  | [d1, d2, d3, d4] => { results := [.lit (.bool true)], args := [d1, d2, d3, d4] }
  | _ => none }
def seqSidesRow : OpenClaim := { program := "ytlehknaiddidaaa", sum := "5d08b4877e34783fc76088aa70d69d796aa63c1236e131f1e74f20a8f501d408", func := "packetboat/packetboatkeep.SeqSides", spec := "seqSides", apart := false }
def SeqSidesSaid : Prop := seqSidesRow.holds Try.pinned (OpenSpec.ofChange seqSidesSpec)

/-- ITS FALSE NEIGHBOUR: 'it returns false'. Refute it at one input. -/
def seqSidesWrong : ChangeSpec := { name := "seqSides", fn := fun _ => fun
  | [d1, d2, d3, d4] => { results := [.lit (.bool false)], args := [d1, d2, d3, d4] }
  | _ => none }
def SeqSidesWrongFalsely : Prop := seqSidesRow.holds Try.pinned (OpenSpec.ofChange seqSidesWrong)

/-- 'packetboatkeep.SeqNearest': WHATEVER THE INPUT: true; the input reads as it did. -/
def seqNearestSpec : ChangeSpec := { name := "seqNearest", fn := fun _ => fun
  | [d1, d2] => { results := [.lit (.bool true)], args := [d1, d2] }
  | _ => none }
def seqNearestRow : OpenClaim := { program := "ytlehknaiddidaaa", sum := "5d08b4877e34783fc76088aa70d69d796aa63c1236e131f1e74f20a8f501d408", func := "packetboat/packetboatkeep.SeqNearest", spec := "seqNearest", apart := false }
def SeqNearestSaid : Prop := seqNearestRow.holds Try.pinned (OpenSpec.ofChange seqNearestSpec)

/-- ITS FALSE NEIGHBOUR: 'it returns false'. Refute it at one input. -/
def seqNearestWrong : ChangeSpec := { name := "seqNearest", fn := fun _ => fun
  | [d1, d2] => { results := [.lit (.bool false)], args := [d1, d2] }
  | _ => none }
def SeqNearestWrongFalsely : Prop := seqNearestRow.holds Try.pinned (OpenSpec.ofChange seqNearestWrong)

/-- 'packetboatkeep.SeqLets': WHATEVER THE INPUT: true; the input reads as it did. -/
def seqLetsSpec : ChangeSpec := { name := "seqLets", fn := fun _ => fun
  | [d1, d2, d3, d4] => { results := [.lit (.bool true)], args := [d1, d2, d3, d4] }
  | _ => none }
def seqLetsRow : OpenClaim := { program := "ytlehknaiddidaaa", sum := "5d08b4877e34783fc76088aa70d69d796aa63c1236e131f1e74f20a8f501d408", func := "packetboat/packetboatkeep.SeqLets", spec := "seqLets", apart := false }
def SeqLetsSaid : Prop := seqLetsRow.holds Try.pinned (OpenSpec.ofChange seqLetsSpec)

/-- ITS FALSE NEIGHBOUR: 'it returns false'. Refute it at one input. -/
def seqLetsWrong : ChangeSpec := { name := "seqLets", fn := fun _ => fun
  | [d1, d2, d3, d4] => { results := [.lit (.bool false)], args := [d1, d2, d3, d4] }
  | _ => none }
def SeqLetsWrongFalsely : Prop := seqLetsRow.holds Try.pinned (OpenSpec.ofChange seqLetsWrong)

/-- 'packetboatkeep.SeqMeets': WHATEVER THE INPUT: true; the input reads as it did. -/
def seqMeetsSpec : ChangeSpec := { name := "seqMeets", fn := fun _ => fun
  | [d1, d2, d3, d4] => { results := [.lit (.bool true)], args := [d1, d2, d3, d4] }
  | _ => none }
def seqMeetsRow : OpenClaim := { program := "ytlehknaiddidaaa", sum := "5d08b4877e34783fc76088aa70d69d796aa63c1236e131f1e74f20a8f501d408", func := "packetboat/packetboatkeep.SeqMeets", spec := "seqMeets", apart := false }
def SeqMeetsSaid : Prop := seqMeetsRow.holds Try.pinned (OpenSpec.ofChange seqMeetsSpec)

/-- ITS FALSE NEIGHBOUR: 'it returns false'. Refute it at one input. -/
def seqMeetsWrong : ChangeSpec := { name := "seqMeets", fn := fun _ => fun
  | [d1, d2, d3, d4] => { results := [.lit (.bool false)], args := [d1, d2, d3, d4] }
  | _ => none }
def SeqMeetsWrongFalsely : Prop := seqMeetsRow.holds Try.pinned (OpenSpec.ofChange seqMeetsWrong)

/-- 'packetboatkeep.SumBit': WHATEVER THE INPUT: true; the input reads as it did. -/
def sumBitSpec : ChangeSpec := { name := "sumBit", fn := fun _ => fun
  | [d1, d2, d3] => { results := [.lit (.bool true)], args := [d1, d2, d3] }
  | _ => none }
def sumBitRow : OpenClaim := { program := "ytlehknaiddidaaa", sum := "5d08b4877e34783fc76088aa70d69d796aa63c1236e131f1e74f20a8f501d408", func := "packetboat/packetboatkeep.SumBit", spec := "sumBit", apart := false }
def SumBitSaid : Prop := sumBitRow.holds Try.pinned (OpenSpec.ofChange sumBitSpec)

/-- ITS FALSE NEIGHBOUR: 'it returns false'. Refute it at one input. -/
def sumBitWrong : ChangeSpec := { name := "sumBit", fn := fun _ => fun
  | [d1, d2, d3] => { results := [.lit (.bool false)], args := [d1, d2, d3] }
  | _ => none }
def SumBitWrongFalsely : Prop := sumBitRow.holds Try.pinned (OpenSpec.ofChange sumBitWrong)

/-- 'packetboatkeep.SumWords': WHATEVER THE INPUT: true; the input reads as it did. -/
def sumWordsSpec : ChangeSpec := { name := "sumWords", fn := fun _ => fun
  | [d1, d2, d3, d4] => { results := [.lit (.bool true)], args := [d1, d2, d3, d4] }
  | _ => none }
def sumWordsRow : OpenClaim := { program := "ytlehknaiddidaaa", sum := "5d08b4877e34783fc76088aa70d69d796aa63c1236e131f1e74f20a8f501d408", func := "packetboat/packetboatkeep.SumWords", spec := "sumWords", apart := false }
def SumWordsSaid : Prop := sumWordsRow.holds Try.pinned (OpenSpec.ofChange sumWordsSpec)

/-- ITS FALSE NEIGHBOUR: 'it returns false'. Refute it at one input. -/
def sumWordsWrong : ChangeSpec := { name := "sumWords", fn := fun _ => fun
  | [d1, d2, d3, d4] => { results := [.lit (.bool false)], args := [d1, d2, d3, d4] }
  | _ => none }
def SumWordsWrongFalsely : Prop := sumWordsRow.holds Try.pinned (OpenSpec.ofChange sumWordsWrong)

/-- 'packetboatkeep.SumJoins': WHATEVER THE INPUT: true; the input reads as it did. -/
def sumJoinsSpec : ChangeSpec := { name := "sumJoins", fn := fun _ => fun
  | [d1, d2] => { results := [.lit (.bool true)], args := [d1, d2] }
  | _ => none }
def sumJoinsRow : OpenClaim := { program := "ytlehknaiddidaaa", sum := "5d08b4877e34783fc76088aa70d69d796aa63c1236e131f1e74f20a8f501d408", func := "packetboat/packetboatkeep.SumJoins", spec := "sumJoins", apart := false }
def SumJoinsSaid : Prop := sumJoinsRow.holds Try.pinned (OpenSpec.ofChange sumJoinsSpec)

/-- ITS FALSE NEIGHBOUR: 'it returns false'. Refute it at one input. -/
def sumJoinsWrong : ChangeSpec := { name := "sumJoins", fn := fun _ => fun
  | [d1, d2] => { results := [.lit (.bool false)], args := [d1, d2] }
  | _ => none }
def SumJoinsWrongFalsely : Prop := sumJoinsRow.holds Try.pinned (OpenSpec.ofChange sumJoinsWrong)

/-- 'packetboatkeep.AddrWithin': WHATEVER THE INPUT: true; the input reads as it did. -/
def addrWithinSpec : ChangeSpec := { name := "addrWithin", fn := fun _ => fun
  | [d1, d2, d3] => { results := [.lit (.bool true)], args := [d1, d2, d3] }
  | _ => none }
def addrWithinRow : OpenClaim := { program := "ytlehknaiddidaaa", sum := "5d08b4877e34783fc76088aa70d69d796aa63c1236e131f1e74f20a8f501d408", func := "packetboat/packetboatkeep.AddrWithin", spec := "addrWithin", apart := false }
def AddrWithinSaid : Prop := addrWithinRow.holds Try.pinned (OpenSpec.ofChange addrWithinSpec)

/-- ITS FALSE NEIGHBOUR: 'it returns false'. Refute it at one input. -/
def addrWithinWrong : ChangeSpec := { name := "addrWithin", fn := fun _ => fun
  | [d1, d2, d3] => { results := [.lit (.bool false)], args := [d1, d2, d3] }
  | _ => none }
def AddrWithinWrongFalsely : Prop := addrWithinRow.holds Try.pinned (OpenSpec.ofChange addrWithinWrong)

/-- 'packetboatkeep.FragSizes': WHATEVER THE INPUT: true; the input reads as it did. -/
def fragSizesSpec : ChangeSpec := { name := "fragSizes", fn := fun _ => fun
  | [d1, d2] => { results := [.lit (.bool true)], args := [d1, d2] }
  | _ => none }
def fragSizesRow : OpenClaim := { program := "ytlehknaiddidaaa", sum := "5d08b4877e34783fc76088aa70d69d796aa63c1236e131f1e74f20a8f501d408", func := "packetboat/packetboatkeep.FragSizes", spec := "fragSizes", apart := false }
def FragSizesSaid : Prop := fragSizesRow.holds Try.pinned (OpenSpec.ofChange fragSizesSpec)

/-- ITS FALSE NEIGHBOUR: 'it returns false'. Refute it at one input. -/
def fragSizesWrong : ChangeSpec := { name := "fragSizes", fn := fun _ => fun
  | [d1, d2] => { results := [.lit (.bool false)], args := [d1, d2] }
  | _ => none }
def FragSizesWrongFalsely : Prop := fragSizesRow.holds Try.pinned (OpenSpec.ofChange fragSizesWrong)

/- THE SECOND FORM. 'bulk': how many values and letters a reading holds, each counted each time it is reached (what is shared counts as often as it is met; a slice's spare places count too). A statement '..UptoSaid' is the law's where the arguments, and the package variables that the reading takes, are together of bulk at most 1048576: NARROWER than '..Said'. Prove '..Said' where nothing that the law and all that it calls make is longer than what came in: it says more and counts as full. Else prove '..UptoSaid'. A law counts once. -/
mutual
def uptoBulk {H : Type} : DataW H → Nat
  | .lit (.string bytes) => bytes.length + 1
  | .lit _ => 1
  | .nil => 1
  | .ptr d => uptoBulk d + 1
  | .slice elems spare => uptoBulkAll elems + uptoBulkAll spare + 1
  | .agg parts => uptoBulkAll parts + 1
  | .iface _ d => uptoBulk d + 1
  | .map entries => uptoBulkEntries entries + 1
  | .held _ => 1
def uptoBulkAll {H : Type} : List (DataW H) → Nat
  | [] => 0
  | d :: r => uptoBulk d + uptoBulkAll r
def uptoBulkEntries {H : Type} : List (Lit × DataW H) → Nat
  | [] => 0
  | x :: r => uptoBulkEntry x + uptoBulkEntries r
def uptoBulkEntry {H : Type} : Lit × DataW H → Nat
  | (.string bytes, d) => bytes.length + uptoBulk d + 1
  | (_, d) => uptoBulk d + 1
 end
def uptoSmall : (H : Type) → List (DataW H) → Bool := fun _ ds => decide (uptoBulkAll ds ≤ 1048576)
def OpenSpec.upto (s : _root_.Go.ChangeSpec) : _root_.Go.OpenSpec := { _root_.Go.OpenSpec.ofChange s with cond := some uptoSmall }

/-- 'packetboatkeep.SeqRound', WHERE WHAT IT READS IS OF BULK AT MOST 1048576: true; the input reads as it did. -/
def seqRoundUptoRow : OpenClaim := { program := "ytlehknaiddidaaa", sum := "5d08b4877e34783fc76088aa70d69d796aa63c1236e131f1e74f20a8f501d408", func := "packetboat/packetboatkeep.SeqRound", spec := "seqRound", apart := false, narrowed := true }
def SeqRoundUptoSaid : Prop := seqRoundUptoRow.holds Try.pinned (OpenSpec.upto seqRoundSpec)

/-- 'packetboatkeep.SeqSides', WHERE WHAT IT READS IS OF BULK AT MOST 1048576: true; the input reads as it did. -/
def seqSidesUptoRow : OpenClaim := { program := "ytlehknaiddidaaa", sum := "5d08b4877e34783fc76088aa70d69d796aa63c1236e131f1e74f20a8f501d408", func := "packetboat/packetboatkeep.SeqSides", spec := "seqSides", apart := false, narrowed := true }
def SeqSidesUptoSaid : Prop := seqSidesUptoRow.holds Try.pinned (OpenSpec.upto seqSidesSpec)

/-- 'packetboatkeep.SeqNearest', WHERE WHAT IT READS IS OF BULK AT MOST 1048576: true; the input reads as it did. -/
def seqNearestUptoRow : OpenClaim := { program := "ytlehknaiddidaaa", sum := "5d08b4877e34783fc76088aa70d69d796aa63c1236e131f1e74f20a8f501d408", func := "packetboat/packetboatkeep.SeqNearest", spec := "seqNearest", apart := false, narrowed := true }
def SeqNearestUptoSaid : Prop := seqNearestUptoRow.holds Try.pinned (OpenSpec.upto seqNearestSpec)

/-- 'packetboatkeep.SeqLets', WHERE WHAT IT READS IS OF BULK AT MOST 1048576: true; the input reads as it did. -/
def seqLetsUptoRow : OpenClaim := { program := "ytlehknaiddidaaa", sum := "5d08b4877e34783fc76088aa70d69d796aa63c1236e131f1e74f20a8f501d408", func := "packetboat/packetboatkeep.SeqLets", spec := "seqLets", apart := false, narrowed := true }
def SeqLetsUptoSaid : Prop := seqLetsUptoRow.holds Try.pinned (OpenSpec.upto seqLetsSpec)

/-- 'packetboatkeep.SeqMeets', WHERE WHAT IT READS IS OF BULK AT MOST 1048576: true; the input reads as it did. -/
def seqMeetsUptoRow : OpenClaim := { program := "ytlehknaiddidaaa", sum := "5d08b4877e34783fc76088aa70d69d796aa63c1236e131f1e74f20a8f501d408", func := "packetboat/packetboatkeep.SeqMeets", spec := "seqMeets", apart := false, narrowed := true }
def SeqMeetsUptoSaid : Prop := seqMeetsUptoRow.holds Try.pinned (OpenSpec.upto seqMeetsSpec)

/-- 'packetboatkeep.SumBit', WHERE WHAT IT READS IS OF BULK AT MOST 1048576: true; the input reads as it did. -/
def sumBitUptoRow : OpenClaim := { program := "ytlehknaiddidaaa", sum := "5d08b4877e34783fc76088aa70d69d796aa63c1236e131f1e74f20a8f501d408", func := "packetboat/packetboatkeep.SumBit", spec := "sumBit", apart := false, narrowed := true }
def SumBitUptoSaid : Prop := sumBitUptoRow.holds Try.pinned (OpenSpec.upto sumBitSpec)

/-- 'packetboatkeep.SumWords', WHERE WHAT IT READS IS OF BULK AT MOST 1048576: true; the input reads as it did. -/
def sumWordsUptoRow : OpenClaim := { program := "ytlehknaiddidaaa", sum := "5d08b4877e34783fc76088aa70d69d796aa63c1236e131f1e74f20a8f501d408", func := "packetboat/packetboatkeep.SumWords", spec := "sumWords", apart := false, narrowed := true }
def SumWordsUptoSaid : Prop := sumWordsUptoRow.holds Try.pinned (OpenSpec.upto sumWordsSpec)

/-- 'packetboatkeep.SumJoins', WHERE WHAT IT READS IS OF BULK AT MOST 1048576: true; the input reads as it did. -/
def sumJoinsUptoRow : OpenClaim := { program := "ytlehknaiddidaaa", sum := "5d08b4877e34783fc76088aa70d69d796aa63c1236e131f1e74f20a8f501d408", func := "packetboat/packetboatkeep.SumJoins", spec := "sumJoins", apart := false, narrowed := true }
def SumJoinsUptoSaid : Prop := sumJoinsUptoRow.holds Try.pinned (OpenSpec.upto sumJoinsSpec)

/-- 'packetboatkeep.AddrWithin', WHERE WHAT IT READS IS OF BULK AT MOST 1048576: true; the input reads as it did. -/
def addrWithinUptoRow : OpenClaim := { program := "ytlehknaiddidaaa", sum := "5d08b4877e34783fc76088aa70d69d796aa63c1236e131f1e74f20a8f501d408", func := "packetboat/packetboatkeep.AddrWithin", spec := "addrWithin", apart := false, narrowed := true }
def AddrWithinUptoSaid : Prop := addrWithinUptoRow.holds Try.pinned (OpenSpec.upto addrWithinSpec)

/-- 'packetboatkeep.FragSizes', WHERE WHAT IT READS IS OF BULK AT MOST 1048576: true; the input reads as it did. -/
def fragSizesUptoRow : OpenClaim := { program := "ytlehknaiddidaaa", sum := "5d08b4877e34783fc76088aa70d69d796aa63c1236e131f1e74f20a8f501d408", func := "packetboat/packetboatkeep.FragSizes", spec := "fragSizes", apart := false, narrowed := true }
def FragSizesUptoSaid : Prop := fragSizesUptoRow.holds Try.pinned (OpenSpec.upto fragSizesSpec)

end Rows
end Go.Proofs.Ytlehknaiddidaaa
