/- Parts of a function's code, by the number of a block: so that a great function's walk can be cut into declarations. -/
import Derived.Test.YtppjmhkecogbcaaBase
namespace Go.Proofs.Ytppjmhkecogbcaa
open Go.RowKit
set_option linter.unusedVariables false

/-- the block with that number -/
def blkIn (n : Nat) : Code → Option Code
  | .block m c => if m = n then some (.block m c) else blkIn n c
  | .seq a b => match blkIn n a with
    | some c => some c
    | none => blkIn n b
  | .loop c => blkIn n c
  | .scope c => blkIn n c
  | .cond _ a b => match blkIn n a with
    | some c => some c
    | none => blkIn n b
  | _ => none
/-- the 'if' on that slot -/
def ifIn (n : Nat) : Code → Option Code
  | .block m c => ifIn n c
  | .seq a b => match ifIn n a with
    | some c => some c
    | none => ifIn n b
  | .loop c => ifIn n c
  | .scope c => ifIn n c
  | .cond (.tmp k) a b => if k = n then some (.cond (.tmp k) a b) else match ifIn n a with
    | some c => some c
    | none => ifIn n b
  | .cond _ a b => match ifIn n a with
    | some c => some c
    | none => ifIn n b
  | _ => none
end Go.Proofs.Ytppjmhkecogbcaa
