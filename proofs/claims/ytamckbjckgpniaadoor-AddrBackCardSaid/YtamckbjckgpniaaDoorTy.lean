/- The structs of the program: their sizes, their zero values. -/
import Derived.Test.YtamckbjckgpniaaDoorMem
namespace Go.Proofs.YtamckbjckgpniaaDoor
set_option linter.unusedVariables false
def zPrefix : List Value := [.int .u32 0, .int .i64 0]
theorem sz_Prefix : (Tryd.prog.info? 24).map (·.size) = some 2 := by kernel_rfl
theorem zv_Prefix : ∀ W : World, (zeroValue 24).run Tryd.prog W = .ok (.agg zPrefix.toArray) W := fun _ => by kernel_rfl
end Go.Proofs.YtamckbjckgpniaaDoor
