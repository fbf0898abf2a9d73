/- The structs of the program: their sizes, their zero values. -/
import Derived.Test.YtfpifahkpkjfgaaMem
namespace Go.Proofs.Ytfpifahkpkjfgaa
set_option linter.unusedVariables false
def zPacket : List Value := [.int .u32 0, .int .u32 0, .int .i64 0, .int .i64 0, .int .i64 0, .bool false, .bool false, .int .i64 0, .string ⟨#[]⟩]
theorem sz_Packet : (Try.prog.info? 64).map (·.size) = some 9 := by kernel_rfl
theorem zv_Packet : ∀ W : World, (zeroValue 64).run Try.prog W = .ok (.agg zPacket.toArray) W := fun _ => by kernel_rfl
def zGram : List Value := [.int .u32 0, .int .i64 0, .int .u32 0, .int .i64 0, .string ⟨#[]⟩]
theorem sz_Gram : (Try.prog.info? 66).map (·.size) = some 5 := by kernel_rfl
theorem zv_Gram : ∀ W : World, (zeroValue 66).run Try.prog W = .ok (.agg zGram.toArray) W := fun _ => by kernel_rfl
def zSeg : List Value := [.int .u32 0, .int .i64 0, .int .u32 0, .int .i64 0, .int .u32 0, .int .u32 0, .bool false, .bool false, .bool false, .bool false, .int .i64 0, .int .i64 0, .string ⟨#[]⟩]
theorem sz_Seg : (Try.prog.info? 33).map (·.size) = some 13 := by kernel_rfl
theorem zv_Seg : ∀ W : World, (zeroValue 33).run Try.prog W = .ok (.agg zSeg.toArray) W := fun _ => by kernel_rfl
def zEnd : List Value := [.int .u32 0, .int .i64 0]
theorem sz_End : (Try.prog.info? 29).map (·.size) = some 2 := by kernel_rfl
theorem zv_End : ∀ W : World, (zeroValue 29).run Try.prog W = .ok (.agg zEnd.toArray) W := fun _ => by kernel_rfl
def zPrefix : List Value := [.int .u32 0, .int .i64 0]
theorem sz_Prefix : (Try.prog.info? 62).map (·.size) = some 2 := by kernel_rfl
theorem zv_Prefix : ∀ W : World, (zeroValue 62).run Try.prog W = .ok (.agg zPrefix.toArray) W := fun _ => by kernel_rfl
def zBound : List Value := [.int .i64 0, .int .u32 0, .int .i64 0, .int .u32 0, .int .i64 0, .bool false, .int .i64 0]
theorem sz_Bound : (Try.prog.info? 68).map (·.size) = some 7 := by kernel_rfl
theorem zv_Bound : ∀ W : World, (zeroValue 68).run Try.prog W = .ok (.agg zBound.toArray) W := fun _ => by kernel_rfl
def zPiece : List Value := [.int .i64 0, .bool false, .bool false, .string ⟨#[]⟩]
theorem sz_Piece : (Try.prog.info? 87).map (·.size) = some 4 := by kernel_rfl
theorem zv_Piece : ∀ W : World, (zeroValue 87).run Try.prog W = .ok (.agg zPiece.toArray) W := fun _ => by kernel_rfl
def zOutQ : List Value := [.slice none 0 0, .int .i64 0, .int .i64 0, .int .i64 0, .int .i64 0, .bool false]
theorem sz_OutQ : (Try.prog.info? 106).map (·.size) = some 6 := by kernel_rfl
theorem zv_OutQ : ∀ W : World, (zeroValue 106).run Try.prog W = .ok (.agg zOutQ.toArray) W := fun _ => by kernel_rfl
end Go.Proofs.Ytfpifahkpkjfgaa
