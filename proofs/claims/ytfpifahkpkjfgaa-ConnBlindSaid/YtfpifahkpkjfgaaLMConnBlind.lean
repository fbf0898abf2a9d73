/- The law ConnBlind of package packetboatkeep: for every input that fits the types (and the form's own reach) the call returns true, and each argument reads afterwards as it read before. The walk is in YtfpifahkpkjfgaaWConnBlind. -/
import Derived.Test.YtfpifahkpkjfgaaMZ
import Derived.Test.YtfpifahkpkjfgaaMCnPc1
import Derived.Test.YtfpifahkpkjfgaaMCnPc2
import Derived.Test.YtfpifahkpkjfgaaMCnPc3
import Derived.Test.YtfpifahkpkjfgaaMCnPc4
import Derived.Test.YtfpifahkpkjfgaaMCnPc5
import Derived.Test.YtfpifahkpkjfgaaMCnPc6
import Derived.Test.YtfpifahkpkjfgaaMCnPc7
import Derived.Test.YtfpifahkpkjfgaaMCnPc8
import Derived.Test.YtfpifahkpkjfgaaMCnPc9
import Derived.Test.YtfpifahkpkjfgaaMCnPc10
import Derived.Test.YtfpifahkpkjfgaaMCnPc11
import Derived.Test.YtfpifahkpkjfgaaMCnPc12
import Derived.Test.YtfpifahkpkjfgaaMCnPc13
import Derived.Test.YtfpifahkpkjfgaaMCnPc14
import Derived.Test.YtfpifahkpkjfgaaMCnPc15
import Derived.Test.YtfpifahkpkjfgaaMCnPc16
import Derived.Test.YtfpifahkpkjfgaaMCnPc17
import Derived.Test.YtfpifahkpkjfgaaMCnPc18
import Derived.Test.YtfpifahkpkjfgaaMCnPc19
import Derived.Test.YtfpifahkpkjfgaaMCnPc20
import Derived.Test.YtfpifahkpkjfgaaMCnPc21
import Derived.Test.YtfpifahkpkjfgaaMCnPc22
import Derived.Test.YtfpifahkpkjfgaaMCnPc23
import Derived.Test.YtfpifahkpkjfgaaMCnPc24
import Derived.Test.YtfpifahkpkjfgaaMCnPc25
import Derived.Test.YtfpifahkpkjfgaaMCnPc26
import Derived.Test.YtfpifahkpkjfgaaMCnPc27
import Derived.Test.YtfpifahkpkjfgaaMCnPc28
import Derived.Test.YtfpifahkpkjfgaaMCnPc29
import Derived.Test.YtfpifahkpkjfgaaMCnPc30
import Derived.Test.YtfpifahkpkjfgaaMConnBlind1
import Derived.Test.YtfpifahkpkjfgaaMConnBlind2
import Derived.Test.YtfpifahkpkjfgaaMConnBlind3
import Derived.Test.YtfpifahkpkjfgaaMConnBlind4
namespace Go.Proofs.Ytfpifahkpkjfgaa.connBlind
open Go.ChangeShapes Go.WideShapes Go.ChangeAt Go.RowKit
open Go.ChangeMaps (open_string)
set_option linter.unusedVariables false

set_option maxRecDepth 100000 in
theorem lifted (os : Os) (started : os.Started) (H : Type) (enc : TypeId × Value → H) :
    ReturnsInHanded {} Try.checked os 5 .any (Rows.connBlindSpec.pre6 enc Try.prog Try.f5 Rows.connBlindRow.domain false) (Rows.connBlindSpec.post enc Try.prog Try.f5 false true false false) := by
  refine returnsInHanded_of_change_sized (C := Try.checked) Kit.own started (by kernel_rfl) Try.func5
    (ChangeSpec.witness6 (enc := enc) (C := Try.checked) false ⟨#[], #[.int .u32 0, .int .u32 0, .int .u32 0, .int .i64 0, .agg #[.int .u32 0, .int .i64 0]], []⟩ 16 (by kernel_rfl) (by kernel_rfl) (by kernel_rfl) (by kernel_rfl)) ?_
  intro W base args ds gs before hval0 hW hcnd hsz _
  have hval : ∀ (j : Nat) t v, Try.f5.params[j]? = some t → args[j]? = some v → Value.okWide Try.prog W .any base t v := hval0
  have hW' := hW
  obtain ⟨p, q, hA0, hV, rfl, hfz, hnd⟩ := hW
  have hA : DataW.TrodAll enc Try.prog W 0 (fun _ => true) true Try.f5.params.toList args.toList ds p := hA0
  rw [Try.params5] at hA hval
  obtain ⟨v0, vs0, d0, ds0, p0, q0, hargs, rfl, rfl, h0, r0⟩ := trodAll_cons hA
  obtain ⟨v1, vs1, d1, ds1, p1, q1, rfl, rfl, rfl, h1, r1⟩ := trodAll_cons r0
  obtain ⟨v2, vs2, d2, ds2, p2, q2, rfl, rfl, rfl, h2, r2⟩ := trodAll_cons r1
  obtain ⟨v3, vs3, d3, ds3, p3, q3, rfl, rfl, rfl, h3, r3⟩ := trodAll_cons r2
  obtain ⟨v4, vs4, d4, ds4, p4, q4, rfl, rfl, rfl, h4, r4⟩ := trodAll_cons r3
  obtain ⟨rfl, rfl, rfl⟩ := trodAll_nil r4
  obtain rfl : args = #[v0, v1, v2, v3, v4] := by cases args; simp_all
  obtain ⟨rfl, rfl⟩ := trodVars_none hV
  have lt0 : ∀ x ∈ p0, x.block < W.heap.size := by obtain ⟨m, hm⟩ := h0; exact DataW.trod_lt m _ _ _ hm
  have lt1 : ∀ x ∈ p1, x.block < W.heap.size := by obtain ⟨m, hm⟩ := h1; exact DataW.trod_lt m _ _ _ hm
  have lt2 : ∀ x ∈ p2, x.block < W.heap.size := by obtain ⟨m, hm⟩ := h2; exact DataW.trod_lt m _ _ _ hm
  have lt3 : ∀ x ∈ p3, x.block < W.heap.size := by obtain ⟨m, hm⟩ := h3; exact DataW.trod_lt m _ _ _ hm
  have lt4 : ∀ x ∈ p4, x.block < W.heap.size := by obtain ⟨m, hm⟩ := h4; exact DataW.trod_lt m _ _ _ hm
  obtain ⟨a0, rfl, a0l, a0h⟩ := cell_int Try.underlying22 (val_cell_int Try.underlying22 (hval 0 22 v0 rfl rfl))
  have a0l : (0 : Int) ≤ a0 := a0l
  have a0h : a0 ≤ (4294967295 : Int) := a0h
  obtain ⟨a1, rfl, a1l, a1h⟩ := cell_int Try.underlying22 (val_cell_int Try.underlying22 (hval 1 22 v1 rfl rfl))
  have a1l : (0 : Int) ≤ a1 := a1l
  have a1h : a1 ≤ (4294967295 : Int) := a1h
  obtain ⟨a2, rfl, a2l, a2h⟩ := cell_int Try.underlying22 (val_cell_int Try.underlying22 (hval 2 22 v2 rfl rfl))
  have a2l : (0 : Int) ≤ a2 := a2l
  have a2h : a2 ≤ (4294967295 : Int) := a2h
  obtain ⟨a3, rfl, a3l, a3h⟩ := cell_int Try.underlying3 (val_cell_int Try.underlying3 (hval 3 3 v3 rfl rfl))
  have a3l : (-9223372036854775808 : Int) ≤ a3 := a3l
  have a3h : a3 ≤ (9223372036854775807 : Int) := a3h
  obtain ⟨cs4, rfl, hl4, hc4⟩ := agg_cells (ts := [22, 3]) Try.underlying29 (by kernel_rfl) (by kernel_rfl) (hval 4 29 v4 rfl rfl)
  obtain ⟨c4_0, c4_1, rfl⟩ := list2 hl4
  obtain ⟨a4a, rfl, a4al, a4ah⟩ := cell_int Try.underlying22 (hc4 0 22 _ rfl rfl)
  have a4al : (0 : Int) ≤ a4a := a4al
  have a4ah : a4a ≤ (4294967295 : Int) := a4ah
  obtain ⟨a4b, rfl, a4bl, a4bh⟩ := cell_int Try.underlying3 (hc4 1 3 _ rfl rfl)
  have a4bl : (-9223372036854775808 : Int) ≤ a4b := a4bl
  have a4bh : a4b ≤ (9223372036854775807 : Int) := a4bh
  clear hc4 hl4
  clear hA0 hval0
  refine (w_ConnBlind a0 a1 a2 a3 a4a a4b W a0l a0h a1l a1h a2l a2h a3l a3h a4al a4ah a4bl a4bh).mono fun e W' ⟨he, bel⟩ => ?_
  subst he
  exact ⟨_, rfl, _, _, _, [], _, [], hW', trodAll_mk1 (shut_bool Try.underlying4 _), (trodAll_cons_mk (Below.trod Kit.laidOut (by kernel_rfl) (of_decide_eq_true (by kernel_rfl)) h0 bel lt0) (trodAll_cons_mk (Below.trod Kit.laidOut (by kernel_rfl) (of_decide_eq_true (by kernel_rfl)) h1 bel lt1) (trodAll_cons_mk (Below.trod Kit.laidOut (by kernel_rfl) (of_decide_eq_true (by kernel_rfl)) h2 bel lt2) (trodAll_cons_mk (Below.trod Kit.laidOut (by kernel_rfl) (of_decide_eq_true (by kernel_rfl)) h3 bel lt3) (trodAll_cons_mk (Below.trod Kit.laidOut (by kernel_rfl) (of_decide_eq_true (by kernel_rfl)) h4 bel lt4) trodAll_mk0))))), rfl, bel.frame _, fun h => by cases h⟩

theorem over : Rows.connBlindRow.holds Try.pinned (OpenSpec.ofChange Rows.connBlindSpec) :=
  OpenClaim.holds_of_wide 5 Try.f5 rfl rfl rfl rfl rfl rfl rfl ⟨rfl, rfl, rfl, rfl, rfl⟩ rfl rfl rfl rfl rfl (by kernel_rfl) Try.func5 (by kernel_rfl)
    (of_decide_eq_true (by kernel_rfl)) (by unfold Func.isWrapper; first | (rw [if_pos (by decide +kernel)]; kernel_rfl) | (rw [if_neg (by decide +kernel)]; exact ⟨rfl, rfl⟩))
    (fun os started H enc _ => lifted os started H enc)

theorem proved : Rows.ConnBlindSaid := over
#print axioms proved
end Go.Proofs.Ytfpifahkpkjfgaa.connBlind
