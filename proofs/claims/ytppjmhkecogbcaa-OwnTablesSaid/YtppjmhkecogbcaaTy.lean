/- The structs of the program: their sizes, their zero values. -/
import Derived.Test.YtppjmhkecogbcaaMem
namespace Go.Proofs.Ytppjmhkecogbcaa
set_option linter.unusedVariables false
def zPacket : List Value := [.int .u32 0, .int .u32 0, .int .i64 0, .int .i64 0, .int .i64 0, .bool false, .bool false, .int .i64 0, .string ⟨#[]⟩]
theorem sz_Packet : (Try.prog.info? 50).map (·.size) = some 9 := by kernel_rfl
theorem zv_Packet : ∀ W : World, (zeroValue 50).run Try.prog W = .ok (.agg zPacket.toArray) W := fun _ => by kernel_rfl
def zGram : List Value := [.int .u32 0, .int .i64 0, .int .u32 0, .int .i64 0, .string ⟨#[]⟩]
theorem sz_Gram : (Try.prog.info? 54).map (·.size) = some 5 := by kernel_rfl
theorem zv_Gram : ∀ W : World, (zeroValue 54).run Try.prog W = .ok (.agg zGram.toArray) W := fun _ => by kernel_rfl
def zSeg : List Value := [.int .u32 0, .int .i64 0, .int .u32 0, .int .i64 0, .int .u32 0, .int .u32 0, .bool false, .bool false, .bool false, .bool false, .int .i64 0, .int .i64 0, .string ⟨#[]⟩]
theorem sz_Seg : (Try.prog.info? 52).map (·.size) = some 13 := by kernel_rfl
theorem zv_Seg : ∀ W : World, (zeroValue 52).run Try.prog W = .ok (.agg zSeg.toArray) W := fun _ => by kernel_rfl
def zEnd : List Value := [.int .u32 0, .int .i64 0]
theorem sz_End : (Try.prog.info? 37).map (·.size) = some 2 := by kernel_rfl
theorem zv_End : ∀ W : World, (zeroValue 37).run Try.prog W = .ok (.agg zEnd.toArray) W := fun _ => by kernel_rfl
def zPrefix : List Value := [.int .u32 0, .int .i64 0]
theorem sz_Prefix : (Try.prog.info? 33).map (·.size) = some 2 := by kernel_rfl
theorem zv_Prefix : ∀ W : World, (zeroValue 33).run Try.prog W = .ok (.agg zPrefix.toArray) W := fun _ => by kernel_rfl
def zBound : List Value := [.int .i64 0, .int .u32 0, .int .i64 0, .int .u32 0, .int .i64 0, .bool false, .int .i64 0]
theorem sz_Bound : (Try.prog.info? 39).map (·.size) = some 7 := by kernel_rfl
theorem zv_Bound : ∀ W : World, (zeroValue 39).run Try.prog W = .ok (.agg zBound.toArray) W := fun _ => by kernel_rfl
end Go.Proofs.Ytppjmhkecogbcaa
