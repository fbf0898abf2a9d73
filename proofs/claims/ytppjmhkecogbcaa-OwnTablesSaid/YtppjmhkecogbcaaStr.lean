/- The structs of package api (and Step) as rows of cells: their kinds, and how they are read. Written by my genstr.py. -/
import Derived.Test.YtppjmhkecogbcaaDat
namespace Go.Proofs.Ytppjmhkecogbcaa
open Go.ChangeShapes Go.WideShapes Go.ChangeAt Go.RowKit
set_option linter.unusedVariables false
set_option maxRecDepth 100000
def ksPrefix : List Kd := [.int .u32, .int .i64]
theorem info_Prefix : (Try.prog.info? 33).map (·.size) = some 2 := by kernel_rfl
section
variable {H : Type} {enc : TypeId × Value → H} {w : World} {base : Nat} {sp : Nat → Bool} {held : Bool}
theorem ok_Prefix {fuel : Nat} {cs : List Value} {x : DataW H × List MemPlace} (h : DataW.trod enc Try.prog w base sp held fuel 33 cs = some x) (hw : Small Try.prog 33 x.1) : okAll ksPrefix cs := by
  refine trod_ok_struct ([[.int .u32], [.int .i64]] : List (List Kd)) Try.underlying33 rfl (by kernel_rfl) ?_ h hw
  intro i f ks hf hk
  match i, hf, hk with
  | 0, hf, hk =>
    obtain rfl : _ = f := Option.some.inj hf
    obtain rfl : _ = ks := Option.some.inj hk
    exact ⟨rfl, by kernel_rfl, fun n c y hh hs => trod_ok_int Try.underlying23 hh⟩
  | 1, hf, hk =>
    obtain rfl : _ = f := Option.some.inj hf
    obtain rfl : _ = ks := Option.some.inj hk
    exact ⟨rfl, by kernel_rfl, fun n c y hh hs => trod_ok_int Try.underlying3 hh⟩
  | i + 2, hf, hk => exact absurd hk (by simp)
end
def ksEnd : List Kd := [.int .u32, .int .i64]
theorem info_End : (Try.prog.info? 37).map (·.size) = some 2 := by kernel_rfl
section
variable {H : Type} {enc : TypeId × Value → H} {w : World} {base : Nat} {sp : Nat → Bool} {held : Bool}
theorem ok_End {fuel : Nat} {cs : List Value} {x : DataW H × List MemPlace} (h : DataW.trod enc Try.prog w base sp held fuel 37 cs = some x) (hw : Small Try.prog 37 x.1) : okAll ksEnd cs := by
  refine trod_ok_struct ([[.int .u32], [.int .i64]] : List (List Kd)) Try.underlying37 rfl (by kernel_rfl) ?_ h hw
  intro i f ks hf hk
  match i, hf, hk with
  | 0, hf, hk =>
    obtain rfl : _ = f := Option.some.inj hf
    obtain rfl : _ = ks := Option.some.inj hk
    exact ⟨rfl, by kernel_rfl, fun n c y hh hs => trod_ok_int Try.underlying23 hh⟩
  | 1, hf, hk =>
    obtain rfl : _ = f := Option.some.inj hf
    obtain rfl : _ = ks := Option.some.inj hk
    exact ⟨rfl, by kernel_rfl, fun n c y hh hs => trod_ok_int Try.underlying3 hh⟩
  | i + 2, hf, hk => exact absurd hk (by simp)
end
def ksPacket : List Kd := [.int .u32, .int .u32, .int .i64, .int .i64, .int .i64, .bool, .bool, .int .i64, .str]
theorem info_Packet : (Try.prog.info? 50).map (·.size) = some 9 := by kernel_rfl
section
variable {H : Type} {enc : TypeId × Value → H} {w : World} {base : Nat} {sp : Nat → Bool} {held : Bool}
theorem ok_Packet {fuel : Nat} {cs : List Value} {x : DataW H × List MemPlace} (h : DataW.trod enc Try.prog w base sp held fuel 50 cs = some x) (hw : Small Try.prog 50 x.1) : okAll ksPacket cs := by
  refine trod_ok_struct ([[.int .u32], [.int .u32], [.int .i64], [.int .i64], [.int .i64], [.bool], [.bool], [.int .i64], [.str]] : List (List Kd)) Try.underlying50 rfl (by kernel_rfl) ?_ h hw
  intro i f ks hf hk
  match i, hf, hk with
  | 0, hf, hk =>
    obtain rfl : _ = f := Option.some.inj hf
    obtain rfl : _ = ks := Option.some.inj hk
    exact ⟨rfl, by kernel_rfl, fun n c y hh hs => trod_ok_int Try.underlying23 hh⟩
  | 1, hf, hk =>
    obtain rfl : _ = f := Option.some.inj hf
    obtain rfl : _ = ks := Option.some.inj hk
    exact ⟨rfl, by kernel_rfl, fun n c y hh hs => trod_ok_int Try.underlying23 hh⟩
  | 2, hf, hk =>
    obtain rfl : _ = f := Option.some.inj hf
    obtain rfl : _ = ks := Option.some.inj hk
    exact ⟨rfl, by kernel_rfl, fun n c y hh hs => trod_ok_int Try.underlying3 hh⟩
  | 3, hf, hk =>
    obtain rfl : _ = f := Option.some.inj hf
    obtain rfl : _ = ks := Option.some.inj hk
    exact ⟨rfl, by kernel_rfl, fun n c y hh hs => trod_ok_int Try.underlying3 hh⟩
  | 4, hf, hk =>
    obtain rfl : _ = f := Option.some.inj hf
    obtain rfl : _ = ks := Option.some.inj hk
    exact ⟨rfl, by kernel_rfl, fun n c y hh hs => trod_ok_int Try.underlying3 hh⟩
  | 5, hf, hk =>
    obtain rfl : _ = f := Option.some.inj hf
    obtain rfl : _ = ks := Option.some.inj hk
    exact ⟨rfl, by kernel_rfl, fun n c y hh hs => trod_ok_bool Try.underlying4 hh⟩
  | 6, hf, hk =>
    obtain rfl : _ = f := Option.some.inj hf
    obtain rfl : _ = ks := Option.some.inj hk
    exact ⟨rfl, by kernel_rfl, fun n c y hh hs => trod_ok_bool Try.underlying4 hh⟩
  | 7, hf, hk =>
    obtain rfl : _ = f := Option.some.inj hf
    obtain rfl : _ = ks := Option.some.inj hk
    exact ⟨rfl, by kernel_rfl, fun n c y hh hs => trod_ok_int Try.underlying3 hh⟩
  | 8, hf, hk =>
    obtain rfl : _ = f := Option.some.inj hf
    obtain rfl : _ = ks := Option.some.inj hk
    exact ⟨rfl, by kernel_rfl, fun n c y hh hs => trod_ok_str Try.underlying9 hh hs⟩
  | i + 9, hf, hk => exact absurd hk (by simp)
end
def ksGram : List Kd := [.int .u32, .int .i64, .int .u32, .int .i64, .str]
theorem info_Gram : (Try.prog.info? 54).map (·.size) = some 5 := by kernel_rfl
section
variable {H : Type} {enc : TypeId × Value → H} {w : World} {base : Nat} {sp : Nat → Bool} {held : Bool}
theorem ok_Gram {fuel : Nat} {cs : List Value} {x : DataW H × List MemPlace} (h : DataW.trod enc Try.prog w base sp held fuel 54 cs = some x) (hw : Small Try.prog 54 x.1) : okAll ksGram cs := by
  refine trod_ok_struct ([ksEnd, ksEnd, [.str]] : List (List Kd)) Try.underlying54 rfl (by kernel_rfl) ?_ h hw
  intro i f ks hf hk
  match i, hf, hk with
  | 0, hf, hk =>
    obtain rfl : _ = f := Option.some.inj hf
    obtain rfl : _ = ks := Option.some.inj hk
    exact ⟨rfl, by kernel_rfl, fun n c y hh hs => ok_End hh hs⟩
  | 1, hf, hk =>
    obtain rfl : _ = f := Option.some.inj hf
    obtain rfl : _ = ks := Option.some.inj hk
    exact ⟨rfl, by kernel_rfl, fun n c y hh hs => ok_End hh hs⟩
  | 2, hf, hk =>
    obtain rfl : _ = f := Option.some.inj hf
    obtain rfl : _ = ks := Option.some.inj hk
    exact ⟨rfl, by kernel_rfl, fun n c y hh hs => trod_ok_str Try.underlying9 hh hs⟩
  | i + 3, hf, hk => exact absurd hk (by simp)
end
def ksSeg : List Kd := [.int .u32, .int .i64, .int .u32, .int .i64, .int .u32, .int .u32, .bool, .bool, .bool, .bool, .int .i64, .int .i64, .str]
theorem info_Seg : (Try.prog.info? 52).map (·.size) = some 13 := by kernel_rfl
section
variable {H : Type} {enc : TypeId × Value → H} {w : World} {base : Nat} {sp : Nat → Bool} {held : Bool}
theorem ok_Seg {fuel : Nat} {cs : List Value} {x : DataW H × List MemPlace} (h : DataW.trod enc Try.prog w base sp held fuel 52 cs = some x) (hw : Small Try.prog 52 x.1) : okAll ksSeg cs := by
  refine trod_ok_struct ([ksEnd, ksEnd, [.int .u32], [.int .u32], [.bool], [.bool], [.bool], [.bool], [.int .i64], [.int .i64], [.str]] : List (List Kd)) Try.underlying52 rfl (by kernel_rfl) ?_ h hw
  intro i f ks hf hk
  match i, hf, hk with
  | 0, hf, hk =>
    obtain rfl : _ = f := Option.some.inj hf
    obtain rfl : _ = ks := Option.some.inj hk
    exact ⟨rfl, by kernel_rfl, fun n c y hh hs => ok_End hh hs⟩
  | 1, hf, hk =>
    obtain rfl : _ = f := Option.some.inj hf
    obtain rfl : _ = ks := Option.some.inj hk
    exact ⟨rfl, by kernel_rfl, fun n c y hh hs => ok_End hh hs⟩
  | 2, hf, hk =>
    obtain rfl : _ = f := Option.some.inj hf
    obtain rfl : _ = ks := Option.some.inj hk
    exact ⟨rfl, by kernel_rfl, fun n c y hh hs => trod_ok_int Try.underlying23 hh⟩
  | 3, hf, hk =>
    obtain rfl : _ = f := Option.some.inj hf
    obtain rfl : _ = ks := Option.some.inj hk
    exact ⟨rfl, by kernel_rfl, fun n c y hh hs => trod_ok_int Try.underlying23 hh⟩
  | 4, hf, hk =>
    obtain rfl : _ = f := Option.some.inj hf
    obtain rfl : _ = ks := Option.some.inj hk
    exact ⟨rfl, by kernel_rfl, fun n c y hh hs => trod_ok_bool Try.underlying4 hh⟩
  | 5, hf, hk =>
    obtain rfl : _ = f := Option.some.inj hf
    obtain rfl : _ = ks := Option.some.inj hk
    exact ⟨rfl, by kernel_rfl, fun n c y hh hs => trod_ok_bool Try.underlying4 hh⟩
  | 6, hf, hk =>
    obtain rfl : _ = f := Option.some.inj hf
    obtain rfl : _ = ks := Option.some.inj hk
    exact ⟨rfl, by kernel_rfl, fun n c y hh hs => trod_ok_bool Try.underlying4 hh⟩
  | 7, hf, hk =>
    obtain rfl : _ = f := Option.some.inj hf
    obtain rfl : _ = ks := Option.some.inj hk
    exact ⟨rfl, by kernel_rfl, fun n c y hh hs => trod_ok_bool Try.underlying4 hh⟩
  | 8, hf, hk =>
    obtain rfl : _ = f := Option.some.inj hf
    obtain rfl : _ = ks := Option.some.inj hk
    exact ⟨rfl, by kernel_rfl, fun n c y hh hs => trod_ok_int Try.underlying3 hh⟩
  | 9, hf, hk =>
    obtain rfl : _ = f := Option.some.inj hf
    obtain rfl : _ = ks := Option.some.inj hk
    exact ⟨rfl, by kernel_rfl, fun n c y hh hs => trod_ok_int Try.underlying3 hh⟩
  | 10, hf, hk =>
    obtain rfl : _ = f := Option.some.inj hf
    obtain rfl : _ = ks := Option.some.inj hk
    exact ⟨rfl, by kernel_rfl, fun n c y hh hs => trod_ok_str Try.underlying9 hh hs⟩
  | i + 11, hf, hk => exact absurd hk (by simp)
end
def ksBound : List Kd := [.int .i64, .int .u32, .int .i64, .int .u32, .int .i64, .bool, .int .i64]
theorem info_Bound : (Try.prog.info? 39).map (·.size) = some 7 := by kernel_rfl
section
variable {H : Type} {enc : TypeId × Value → H} {w : World} {base : Nat} {sp : Nat → Bool} {held : Bool}
theorem ok_Bound {fuel : Nat} {cs : List Value} {x : DataW H × List MemPlace} (h : DataW.trod enc Try.prog w base sp held fuel 39 cs = some x) (hw : Small Try.prog 39 x.1) : okAll ksBound cs := by
  refine trod_ok_struct ([[.int .i64], ksEnd, ksEnd, [.bool], [.int .i64]] : List (List Kd)) Try.underlying39 rfl (by kernel_rfl) ?_ h hw
  intro i f ks hf hk
  match i, hf, hk with
  | 0, hf, hk =>
    obtain rfl : _ = f := Option.some.inj hf
    obtain rfl : _ = ks := Option.some.inj hk
    exact ⟨rfl, by kernel_rfl, fun n c y hh hs => trod_ok_int Try.underlying3 hh⟩
  | 1, hf, hk =>
    obtain rfl : _ = f := Option.some.inj hf
    obtain rfl : _ = ks := Option.some.inj hk
    exact ⟨rfl, by kernel_rfl, fun n c y hh hs => ok_End hh hs⟩
  | 2, hf, hk =>
    obtain rfl : _ = f := Option.some.inj hf
    obtain rfl : _ = ks := Option.some.inj hk
    exact ⟨rfl, by kernel_rfl, fun n c y hh hs => ok_End hh hs⟩
  | 3, hf, hk =>
    obtain rfl : _ = f := Option.some.inj hf
    obtain rfl : _ = ks := Option.some.inj hk
    exact ⟨rfl, by kernel_rfl, fun n c y hh hs => trod_ok_bool Try.underlying4 hh⟩
  | 4, hf, hk =>
    obtain rfl : _ = f := Option.some.inj hf
    obtain rfl : _ = ks := Option.some.inj hk
    exact ⟨rfl, by kernel_rfl, fun n c y hh hs => trod_ok_int Try.underlying3 hh⟩
  | i + 5, hf, hk => exact absurd hk (by simp)
end
def ksStep : List Kd := [.int .i64, .int .i64, .int .i64, .bool, .str, .int .u32, .int .i64, .int .u32, .int .u32, .int .i64, .int .i64, .int .i64, .bool, .bool, .int .i64, .str, .int .u32, .int .i64, .int .u32, .int .i64, .int .u32, .int .u32, .bool, .bool, .bool, .bool, .int .i64, .int .i64, .str, .int .u32, .int .i64, .int .u32, .int .i64, .str, .int .u32, .int .i64, .int .u32, .int .i64, .int .i64, .int .u32, .int .i64, .int .u32, .int .i64, .bool, .int .i64]
theorem info_Step : (Try.prog.info? 56).map (·.size) = some 45 := by kernel_rfl
section
variable {H : Type} {enc : TypeId × Value → H} {w : World} {base : Nat} {sp : Nat → Bool} {held : Bool}
theorem ok_Step {fuel : Nat} {cs : List Value} {x : DataW H × List MemPlace} (h : DataW.trod enc Try.prog w base sp held fuel 56 cs = some x) (hw : Small Try.prog 56 x.1) : okAll ksStep cs := by
  refine trod_ok_struct ([[.int .i64], [.int .i64], [.int .i64], [.bool], [.str], ksPrefix, ksPacket, ksSeg, ksGram, ksEnd, ksEnd, ksBound] : List (List Kd)) Try.underlying56 rfl (by kernel_rfl) ?_ h hw
  intro i f ks hf hk
  match i, hf, hk with
  | 0, hf, hk =>
    obtain rfl : _ = f := Option.some.inj hf
    obtain rfl : _ = ks := Option.some.inj hk
    exact ⟨rfl, by kernel_rfl, fun n c y hh hs => trod_ok_int Try.underlying3 hh⟩
  | 1, hf, hk =>
    obtain rfl : _ = f := Option.some.inj hf
    obtain rfl : _ = ks := Option.some.inj hk
    exact ⟨rfl, by kernel_rfl, fun n c y hh hs => trod_ok_int Try.underlying3 hh⟩
  | 2, hf, hk =>
    obtain rfl : _ = f := Option.some.inj hf
    obtain rfl : _ = ks := Option.some.inj hk
    exact ⟨rfl, by kernel_rfl, fun n c y hh hs => trod_ok_int Try.underlying3 hh⟩
  | 3, hf, hk =>
    obtain rfl : _ = f := Option.some.inj hf
    obtain rfl : _ = ks := Option.some.inj hk
    exact ⟨rfl, by kernel_rfl, fun n c y hh hs => trod_ok_bool Try.underlying4 hh⟩
  | 4, hf, hk =>
    obtain rfl : _ = f := Option.some.inj hf
    obtain rfl : _ = ks := Option.some.inj hk
    exact ⟨rfl, by kernel_rfl, fun n c y hh hs => trod_ok_str Try.underlying9 hh hs⟩
  | 5, hf, hk =>
    obtain rfl : _ = f := Option.some.inj hf
    obtain rfl : _ = ks := Option.some.inj hk
    exact ⟨rfl, by kernel_rfl, fun n c y hh hs => ok_Prefix hh hs⟩
  | 6, hf, hk =>
    obtain rfl : _ = f := Option.some.inj hf
    obtain rfl : _ = ks := Option.some.inj hk
    exact ⟨rfl, by kernel_rfl, fun n c y hh hs => ok_Packet hh hs⟩
  | 7, hf, hk =>
    obtain rfl : _ = f := Option.some.inj hf
    obtain rfl : _ = ks := Option.some.inj hk
    exact ⟨rfl, by kernel_rfl, fun n c y hh hs => ok_Seg hh hs⟩
  | 8, hf, hk =>
    obtain rfl : _ = f := Option.some.inj hf
    obtain rfl : _ = ks := Option.some.inj hk
    exact ⟨rfl, by kernel_rfl, fun n c y hh hs => ok_Gram hh hs⟩
  | 9, hf, hk =>
    obtain rfl : _ = f := Option.some.inj hf
    obtain rfl : _ = ks := Option.some.inj hk
    exact ⟨rfl, by kernel_rfl, fun n c y hh hs => ok_End hh hs⟩
  | 10, hf, hk =>
    obtain rfl : _ = f := Option.some.inj hf
    obtain rfl : _ = ks := Option.some.inj hk
    exact ⟨rfl, by kernel_rfl, fun n c y hh hs => ok_End hh hs⟩
  | 11, hf, hk =>
    obtain rfl : _ = f := Option.some.inj hf
    obtain rfl : _ = ks := Option.some.inj hk
    exact ⟨rfl, by kernel_rfl, fun n c y hh hs => ok_Bound hh hs⟩
  | i + 12, hf, hk => exact absurd hk (by simp)
end
end Go.Proofs.Ytppjmhkecogbcaa
