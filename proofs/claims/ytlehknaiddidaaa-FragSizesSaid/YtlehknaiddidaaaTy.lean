/- The structs of the program: their sizes, their zero values. -/
import Derived.Test.YtlehknaiddidaaaMem
namespace Go.Proofs.Ytlehknaiddidaaa
set_option linter.unusedVariables false
def zPacket : List Value := [.int .u32 0, .int .u32 0, .int .i64 0, .int .i64 0, .int .i64 0, .bool false, .bool false, .int .i64 0, .string ⟨#[]⟩]
theorem sz_Packet : (Try.prog.info? 49).map (·.size) = some 9 := by kernel_rfl
theorem zv_Packet : ∀ W : World, (zeroValue 49).run Try.prog W = .ok (.agg zPacket.toArray) W := fun _ => by kernel_rfl
def zPrefix : List Value := [.int .u32 0, .int .i64 0]
theorem sz_Prefix : (Try.prog.info? 43).map (·.size) = some 2 := by kernel_rfl
theorem zv_Prefix : ∀ W : World, (zeroValue 43).run Try.prog W = .ok (.agg zPrefix.toArray) W := fun _ => by kernel_rfl
end Go.Proofs.Ytlehknaiddidaaa
