/-
  No cell of these rows narrows 'for every input' (looked for: loops, veiled, ifaces, maps, wideKeys, modest, calm, conditions, laid).
  DERIVED. THE GIVEN ROWS OF THIS SEAT. 10 by the template 'for every input the law returns true; each argument reads behind the call as it read before'; 0 by the template 'total and deterministic' (their statements: YtfpifahkpkjfgaaTotals.lean).
  GIVEN WITH THE SEED: the statements are not yours to turn. If you find one false, say at which input.
  Laid BY PROGRAM, IN A SANDBOX (cutbox-rows.mjs): the forced cells as the released guide's own fill.sh prints them over the translation c5af973bd2553f24… (all of the seat's roots in one cut). By AI agents, Wed Nov 11 2026. No macro, syntax, notation, axiom, sorry.
-/
import Derived.Test.YtfpifahkpkjfgaaChecked
import GoSem.Claim
import GoSem.ClaimJoined
import GoSem.ClaimMapViews
import Derived.JoinedTies
import Derived.KernelRfl
namespace Go.Proofs.Ytfpifahkpkjfgaa
/- THE CELL 'sum', in the pinned program and in every row, IS THE sha256 OF THE DUMP (.gsa) THAT YtfpifahkpkjfgaaProg.lean LOADS. Nothing in Lean hashes anything: it is a label: what it is worth is what the hold of that sum in a sandbox is worth. -/
noncomputable def Try.pinned : Pinned := { name := "ytfpifahkpkjfgaa", sum := "c5af973bd2553f24988a6839152a368eba556ed649a7269d0698c0fa33292cea", checked := Try.checked }
namespace Rows
def none {H : Type} : Left H := { results := [], args := [] }

/-- 'packetboatkeep.ConnSilent': WHATEVER THE INPUT: true; the input reads as it did. -/
def connSilentSpec : ChangeSpec := { name := "connSilent", fn := fun _ => fun
  | [d1, d2] => { results := [.lit (.bool true)], args := [d1, d2] }
  | _ => none }
def connSilentRow : OpenClaim := { program := "ytfpifahkpkjfgaa", sum := "c5af973bd2553f24988a6839152a368eba556ed649a7269d0698c0fa33292cea", func := "packetboat/packetboatkeep.ConnSilent", spec := "connSilent", apart := false }
def ConnSilentSaid : Prop := connSilentRow.holds Try.pinned (OpenSpec.ofChange connSilentSpec)

/-- ITS FALSE NEIGHBOUR: 'it returns false'. Refute it at one input. -/
def connSilentWrong : ChangeSpec := { name := "connSilent", fn := fun _ => fun
  | [d1, d2] => { results := [.lit (.bool false)], args := [d1, d2] }
  | _ => none }
def ConnSilentWrongFalsely : Prop := connSilentRow.holds Try.pinned (OpenSpec.ofChange connSilentWrong)

/-- 'packetboatkeep.ConnBoth': WHATEVER THE INPUT: true; the input reads as it did. -/
def connBothSpec : ChangeSpec := { name := "connBoth", fn := fun _ => fun
  | [d1, d2, d3, d4] => { results := [.lit (.bool true)], args := [d1, d2, d3, d4] }
  | _ => none }
def connBothRow : OpenClaim := { program := "ytfpifahkpkjfgaa", sum := "c5af973bd2553f24988a6839152a368eba556ed649a7269d0698c0fa33292cea", func := "packetboat/packetboatkeep.ConnBoth", spec := "connBoth", apart := false }
def ConnBothSaid : Prop := connBothRow.holds Try.pinned (OpenSpec.ofChange connBothSpec)

/-- ITS FALSE NEIGHBOUR: 'it returns false'. Refute it at one input. -/
def connBothWrong : ChangeSpec := { name := "connBoth", fn := fun _ => fun
  | [d1, d2, d3, d4] => { results := [.lit (.bool false)], args := [d1, d2, d3, d4] }
  | _ => none }
def ConnBothWrongFalsely : Prop := connBothRow.holds Try.pinned (OpenSpec.ofChange connBothWrong)

/-- 'packetboatkeep.ConnBlind': WHATEVER THE INPUT: true; the input reads as it did. -/
def connBlindSpec : ChangeSpec := { name := "connBlind", fn := fun _ => fun
  | [d1, d2, d3, d4, d5] => { results := [.lit (.bool true)], args := [d1, d2, d3, d4, d5] }
  | _ => none }
def connBlindRow : OpenClaim := { program := "ytfpifahkpkjfgaa", sum := "c5af973bd2553f24988a6839152a368eba556ed649a7269d0698c0fa33292cea", func := "packetboat/packetboatkeep.ConnBlind", spec := "connBlind", apart := false }
def ConnBlindSaid : Prop := connBlindRow.holds Try.pinned (OpenSpec.ofChange connBlindSpec)

/-- ITS FALSE NEIGHBOUR: 'it returns false'. Refute it at one input. -/
def connBlindWrong : ChangeSpec := { name := "connBlind", fn := fun _ => fun
  | [d1, d2, d3, d4, d5] => { results := [.lit (.bool false)], args := [d1, d2, d3, d4, d5] }
  | _ => none }
def ConnBlindWrongFalsely : Prop := connBlindRow.holds Try.pinned (OpenSpec.ofChange connBlindWrong)

/-- 'packetboatkeep.ConnBreaks': WHATEVER THE INPUT: true; the input reads as it did. -/
def connBreaksSpec : ChangeSpec := { name := "connBreaks", fn := fun _ => fun
  | [d1, d2, d3, d4, d5] => { results := [.lit (.bool true)], args := [d1, d2, d3, d4, d5] }
  | _ => none }
def connBreaksRow : OpenClaim := { program := "ytfpifahkpkjfgaa", sum := "c5af973bd2553f24988a6839152a368eba556ed649a7269d0698c0fa33292cea", func := "packetboat/packetboatkeep.ConnBreaks", spec := "connBreaks", apart := false }
def ConnBreaksSaid : Prop := connBreaksRow.holds Try.pinned (OpenSpec.ofChange connBreaksSpec)

/-- ITS FALSE NEIGHBOUR: 'it returns false'. Refute it at one input. -/
def connBreaksWrong : ChangeSpec := { name := "connBreaks", fn := fun _ => fun
  | [d1, d2, d3, d4, d5] => { results := [.lit (.bool false)], args := [d1, d2, d3, d4, d5] }
  | _ => none }
def ConnBreaksWrongFalsely : Prop := connBreaksRow.holds Try.pinned (OpenSpec.ofChange connBreaksWrong)

/-- 'packetboatkeep.ConnMeets': WHATEVER THE INPUT: true; the input reads as it did. -/
def connMeetsSpec : ChangeSpec := { name := "connMeets", fn := fun _ => fun
  | [d1, d2, d3, d4, d5] => { results := [.lit (.bool true)], args := [d1, d2, d3, d4, d5] }
  | _ => none }
def connMeetsRow : OpenClaim := { program := "ytfpifahkpkjfgaa", sum := "c5af973bd2553f24988a6839152a368eba556ed649a7269d0698c0fa33292cea", func := "packetboat/packetboatkeep.ConnMeets", spec := "connMeets", apart := false }
def ConnMeetsSaid : Prop := connMeetsRow.holds Try.pinned (OpenSpec.ofChange connMeetsSpec)

/-- ITS FALSE NEIGHBOUR: 'it returns false'. Refute it at one input. -/
def connMeetsWrong : ChangeSpec := { name := "connMeets", fn := fun _ => fun
  | [d1, d2, d3, d4, d5] => { results := [.lit (.bool false)], args := [d1, d2, d3, d4, d5] }
  | _ => none }
def ConnMeetsWrongFalsely : Prop := connMeetsRow.holds Try.pinned (OpenSpec.ofChange connMeetsWrong)

/-- 'packetboatkeep.ConnStates': WHATEVER THE INPUT: true; the input reads as it did. -/
def connStatesSpec : ChangeSpec := { name := "connStates", fn := fun _ => fun
  | [d1, d2, d3, d4, d5] => { results := [.lit (.bool true)], args := [d1, d2, d3, d4, d5] }
  | _ => none }
def connStatesRow : OpenClaim := { program := "ytfpifahkpkjfgaa", sum := "c5af973bd2553f24988a6839152a368eba556ed649a7269d0698c0fa33292cea", func := "packetboat/packetboatkeep.ConnStates", spec := "connStates", apart := false }
def ConnStatesSaid : Prop := connStatesRow.holds Try.pinned (OpenSpec.ofChange connStatesSpec)

/-- ITS FALSE NEIGHBOUR: 'it returns false'. Refute it at one input. -/
def connStatesWrong : ChangeSpec := { name := "connStates", fn := fun _ => fun
  | [d1, d2, d3, d4, d5] => { results := [.lit (.bool false)], args := [d1, d2, d3, d4, d5] }
  | _ => none }
def ConnStatesWrongFalsely : Prop := connStatesRow.holds Try.pinned (OpenSpec.ofChange connStatesWrong)

/-- 'packetboatkeep.ConnStops': WHATEVER THE INPUT: true; the input reads as it did. -/
def connStopsSpec : ChangeSpec := { name := "connStops", fn := fun _ => fun
  | [d1, d2, d3, d4, d5] => { results := [.lit (.bool true)], args := [d1, d2, d3, d4, d5] }
  | _ => none }
def connStopsRow : OpenClaim := { program := "ytfpifahkpkjfgaa", sum := "c5af973bd2553f24988a6839152a368eba556ed649a7269d0698c0fa33292cea", func := "packetboat/packetboatkeep.ConnStops", spec := "connStops", apart := false }
def ConnStopsSaid : Prop := connStopsRow.holds Try.pinned (OpenSpec.ofChange connStopsSpec)

/-- ITS FALSE NEIGHBOUR: 'it returns false'. Refute it at one input. -/
def connStopsWrong : ChangeSpec := { name := "connStops", fn := fun _ => fun
  | [d1, d2, d3, d4, d5] => { results := [.lit (.bool false)], args := [d1, d2, d3, d4, d5] }
  | _ => none }
def ConnStopsWrongFalsely : Prop := connStopsRow.holds Try.pinned (OpenSpec.ofChange connStopsWrong)

/-- 'packetboatkeep.ConnStream': WHATEVER THE INPUT: true; the input reads as it did. -/
def connStreamSpec : ChangeSpec := { name := "connStream", fn := fun _ => fun
  | [d1, d2, d3, d4, d5] => { results := [.lit (.bool true)], args := [d1, d2, d3, d4, d5] }
  | _ => none }
def connStreamRow : OpenClaim := { program := "ytfpifahkpkjfgaa", sum := "c5af973bd2553f24988a6839152a368eba556ed649a7269d0698c0fa33292cea", func := "packetboat/packetboatkeep.ConnStream", spec := "connStream", unfollowed := true, recurses := true, apart := false }
def ConnStreamSaid : Prop := connStreamRow.holds Try.pinned (OpenSpec.ofChange connStreamSpec)

/-- ITS FALSE NEIGHBOUR: 'it returns false'. Refute it at one input. -/
def connStreamWrong : ChangeSpec := { name := "connStream", fn := fun _ => fun
  | [d1, d2, d3, d4, d5] => { results := [.lit (.bool false)], args := [d1, d2, d3, d4, d5] }
  | _ => none }
def ConnStreamWrongFalsely : Prop := connStreamRow.holds Try.pinned (OpenSpec.ofChange connStreamWrong)

/-- 'packetboatkeep.ConnSoon': WHATEVER THE INPUT: true; the input reads as it did. -/
def connSoonSpec : ChangeSpec := { name := "connSoon", fn := fun _ => fun
  | [d1, d2, d3, d4, d5] => { results := [.lit (.bool true)], args := [d1, d2, d3, d4, d5] }
  | _ => none }
def connSoonRow : OpenClaim := { program := "ytfpifahkpkjfgaa", sum := "c5af973bd2553f24988a6839152a368eba556ed649a7269d0698c0fa33292cea", func := "packetboat/packetboatkeep.ConnSoon", spec := "connSoon", unfollowed := true, recurses := true, apart := false }
def ConnSoonSaid : Prop := connSoonRow.holds Try.pinned (OpenSpec.ofChange connSoonSpec)

/-- ITS FALSE NEIGHBOUR: 'it returns false'. Refute it at one input. -/
def connSoonWrong : ChangeSpec := { name := "connSoon", fn := fun _ => fun
  | [d1, d2, d3, d4, d5] => { results := [.lit (.bool false)], args := [d1, d2, d3, d4, d5] }
  | _ => none }
def ConnSoonWrongFalsely : Prop := connSoonRow.holds Try.pinned (OpenSpec.ofChange connSoonWrong)

/-- 'packetboatkeep.ConnHalf': WHATEVER THE INPUT: true; the input reads as it did. -/
def connHalfSpec : ChangeSpec := { name := "connHalf", fn := fun _ => fun
  | [d1, d2, d3, d4, d5, d6] => { results := [.lit (.bool true)], args := [d1, d2, d3, d4, d5, d6] }
  | _ => none }
def connHalfRow : OpenClaim := { program := "ytfpifahkpkjfgaa", sum := "c5af973bd2553f24988a6839152a368eba556ed649a7269d0698c0fa33292cea", func := "packetboat/packetboatkeep.ConnHalf", spec := "connHalf", apart := false }
def ConnHalfSaid : Prop := connHalfRow.holds Try.pinned (OpenSpec.ofChange connHalfSpec)

/-- ITS FALSE NEIGHBOUR: 'it returns false'. Refute it at one input. -/
def connHalfWrong : ChangeSpec := { name := "connHalf", fn := fun _ => fun
  | [d1, d2, d3, d4, d5, d6] => { results := [.lit (.bool false)], args := [d1, d2, d3, d4, d5, d6] }
  | _ => none }
def ConnHalfWrongFalsely : Prop := connHalfRow.holds Try.pinned (OpenSpec.ofChange connHalfWrong)

/- THE SECOND FORM. 'bulk': how many values and letters a reading holds, each counted each time it is reached (what is shared counts as often as it is met; a slice's spare places count too). A statement '..UptoSaid' is the law's where the arguments, and the package variables that the reading takes, are together of bulk at most 1048576: NARROWER than '..Said'. Prove '..Said' where nothing that the law and all that it calls make is longer than what came in: it says more and counts as full. Else prove '..UptoSaid'. A law counts once. -/
mutual
def uptoBulk {H : Type} : DataW H → Nat
  | .lit (.string bytes) => bytes.length + 1
  | .lit _ => 1
  | .nil => 1
  | .ptr d => uptoBulk d + 1
  | .slice elems spare => uptoBulkAll elems + uptoBulkAll spare + 1
  | .agg parts => uptoBulkAll parts + 1
  | .iface _ d => uptoBulk d + 1
  | .map entries => uptoBulkEntries entries + 1
  | .held _ => 1
def uptoBulkAll {H : Type} : List (DataW H) → Nat
  | [] => 0
  | d :: r => uptoBulk d + uptoBulkAll r
def uptoBulkEntries {H : Type} : List (Lit × DataW H) → Nat
  | [] => 0
  | x :: r => uptoBulkEntry x + uptoBulkEntries r
def uptoBulkEntry {H : Type} : Lit × DataW H → Nat
  | (.string bytes, d) => bytes.length + uptoBulk d + 1
  | (_, d) => uptoBulk d + 1
 end
def uptoSmall : (H : Type) → List (DataW H) → Bool := fun _ ds => decide (uptoBulkAll ds ≤ 1048576)
def OpenSpec.upto (s : _root_.Go.ChangeSpec) : _root_.Go.OpenSpec := { _root_.Go.OpenSpec.ofChange s with cond := some uptoSmall }

/-- 'packetboatkeep.ConnSilent', WHERE WHAT IT READS IS OF BULK AT MOST 1048576: true; the input reads as it did. -/
def connSilentUptoRow : OpenClaim := { program := "ytfpifahkpkjfgaa", sum := "c5af973bd2553f24988a6839152a368eba556ed649a7269d0698c0fa33292cea", func := "packetboat/packetboatkeep.ConnSilent", spec := "connSilent", apart := false, narrowed := true }
def ConnSilentUptoSaid : Prop := connSilentUptoRow.holds Try.pinned (OpenSpec.upto connSilentSpec)

/-- 'packetboatkeep.ConnBoth', WHERE WHAT IT READS IS OF BULK AT MOST 1048576: true; the input reads as it did. -/
def connBothUptoRow : OpenClaim := { program := "ytfpifahkpkjfgaa", sum := "c5af973bd2553f24988a6839152a368eba556ed649a7269d0698c0fa33292cea", func := "packetboat/packetboatkeep.ConnBoth", spec := "connBoth", apart := false, narrowed := true }
def ConnBothUptoSaid : Prop := connBothUptoRow.holds Try.pinned (OpenSpec.upto connBothSpec)

/-- 'packetboatkeep.ConnBlind', WHERE WHAT IT READS IS OF BULK AT MOST 1048576: true; the input reads as it did. -/
def connBlindUptoRow : OpenClaim := { program := "ytfpifahkpkjfgaa", sum := "c5af973bd2553f24988a6839152a368eba556ed649a7269d0698c0fa33292cea", func := "packetboat/packetboatkeep.ConnBlind", spec := "connBlind", apart := false, narrowed := true }
def ConnBlindUptoSaid : Prop := connBlindUptoRow.holds Try.pinned (OpenSpec.upto connBlindSpec)

/-- 'packetboatkeep.ConnBreaks', WHERE WHAT IT READS IS OF BULK AT MOST 1048576: true; the input reads as it did. -/
def connBreaksUptoRow : OpenClaim := { program := "ytfpifahkpkjfgaa", sum := "c5af973bd2553f24988a6839152a368eba556ed649a7269d0698c0fa33292cea", func := "packetboat/packetboatkeep.ConnBreaks", spec := "connBreaks", apart := false, narrowed := true }
def ConnBreaksUptoSaid : Prop := connBreaksUptoRow.holds Try.pinned (OpenSpec.upto connBreaksSpec)

/-- 'packetboatkeep.ConnMeets', WHERE WHAT IT READS IS OF BULK AT MOST 1048576: true; the input reads as it did. -/
def connMeetsUptoRow : OpenClaim := { program := "ytfpifahkpkjfgaa", sum := "c5af973bd2553f24988a6839152a368eba556ed649a7269d0698c0fa33292cea", func := "packetboat/packetboatkeep.ConnMeets", spec := "connMeets", apart := false, narrowed := true }
def ConnMeetsUptoSaid : Prop := connMeetsUptoRow.holds Try.pinned (OpenSpec.upto connMeetsSpec)

/-- 'packetboatkeep.ConnStates', WHERE WHAT IT READS IS OF BULK AT MOST 1048576: true; the input reads as it did. -/
def connStatesUptoRow : OpenClaim := { program := "ytfpifahkpkjfgaa", sum := "c5af973bd2553f24988a6839152a368eba556ed649a7269d0698c0fa33292cea", func := "packetboat/packetboatkeep.ConnStates", spec := "connStates", apart := false, narrowed := true }
def ConnStatesUptoSaid : Prop := connStatesUptoRow.holds Try.pinned (OpenSpec.upto connStatesSpec)

/-- 'packetboatkeep.ConnStops', WHERE WHAT IT READS IS OF BULK AT MOST 1048576: true; the input reads as it did. -/
def connStopsUptoRow : OpenClaim := { program := "ytfpifahkpkjfgaa", sum := "c5af973bd2553f24988a6839152a368eba556ed649a7269d0698c0fa33292cea", func := "packetboat/packetboatkeep.ConnStops", spec := "connStops", apart := false, narrowed := true }
def ConnStopsUptoSaid : Prop := connStopsUptoRow.holds Try.pinned (OpenSpec.upto connStopsSpec)

/-- 'packetboatkeep.ConnStream', WHERE WHAT IT READS IS OF BULK AT MOST 1048576: true; the input reads as it did. -/
def connStreamUptoRow : OpenClaim := { program := "ytfpifahkpkjfgaa", sum := "c5af973bd2553f24988a6839152a368eba556ed649a7269d0698c0fa33292cea", func := "packetboat/packetboatkeep.ConnStream", spec := "connStream", unfollowed := true, recurses := true, apart := false, narrowed := true }
def ConnStreamUptoSaid : Prop := connStreamUptoRow.holds Try.pinned (OpenSpec.upto connStreamSpec)

/-- 'packetboatkeep.ConnSoon', WHERE WHAT IT READS IS OF BULK AT MOST 1048576: true; the input reads as it did. -/
def connSoonUptoRow : OpenClaim := { program := "ytfpifahkpkjfgaa", sum := "c5af973bd2553f24988a6839152a368eba556ed649a7269d0698c0fa33292cea", func := "packetboat/packetboatkeep.ConnSoon", spec := "connSoon", unfollowed := true, recurses := true, apart := false, narrowed := true }
def ConnSoonUptoSaid : Prop := connSoonUptoRow.holds Try.pinned (OpenSpec.upto connSoonSpec)

/-- 'packetboatkeep.ConnHalf', WHERE WHAT IT READS IS OF BULK AT MOST 1048576: true; the input reads as it did. -/
def connHalfUptoRow : OpenClaim := { program := "ytfpifahkpkjfgaa", sum := "c5af973bd2553f24988a6839152a368eba556ed649a7269d0698c0fa33292cea", func := "packetboat/packetboatkeep.ConnHalf", spec := "connHalf", apart := false, narrowed := true }
def ConnHalfUptoSaid : Prop := connHalfUptoRow.holds Try.pinned (OpenSpec.upto connHalfSpec)

end Rows
end Go.Proofs.Ytfpifahkpkjfgaa
