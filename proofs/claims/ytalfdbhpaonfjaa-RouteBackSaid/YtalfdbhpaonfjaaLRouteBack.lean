/- The law RouteBack of package packetboatkeep: for every input that fits the types (and the form's own reach) the call returns true, and each argument reads afterwards as it read before. The walk is in YtalfdbhpaonfjaaWRouteBack. -/
import Derived.Test.YtalfdbhpaonfjaaDat
import Derived.Test.YtalfdbhpaonfjaaStr
import Derived.Test.YtalfdbhpaonfjaaKit
import Derived.Test.YtalfdbhpaonfjaaWRouteBack
namespace Go.Proofs.Ytalfdbhpaonfjaa.routeBack
open Go.ChangeShapes Go.WideShapes Go.ChangeAt Go.RowKit
open Go.ChangeMaps (open_string)
set_option linter.unusedVariables false

set_option maxRecDepth 100000 in
theorem lifted (os : Os) (started : os.Started) (H : Type) (enc : TypeId × Value → H) :
    ReturnsInHanded {} Try.checked os 4 .any (Rows.routeBackSpec.pre6 enc Try.prog Try.f4 Rows.routeBackRow.domain false) (Rows.routeBackSpec.post enc Try.prog Try.f4 false true false false) := by
  refine returnsInHanded_of_change_sized (C := Try.checked) Kit.own started (by kernel_rfl) Try.func4
    (ChangeSpec.witness6 (enc := enc) (C := Try.checked) false ⟨#[], #[.slice none 0 0, .agg #[.int .u32 0, .int .i64 0], .int .i64 0, .int .u32 0], []⟩ 16 (by kernel_rfl) (by kernel_rfl) (by kernel_rfl) (by kernel_rfl)) ?_
  intro W base args ds gs before hval0 hW hcnd hsz _
  have hval : ∀ (j : Nat) t v, Try.f4.params[j]? = some t → args[j]? = some v → Value.okWide Try.prog W .any base t v := hval0
  have hW' := hW
  obtain ⟨p, q, hA0, hV, rfl, hfz, hnd⟩ := hW
  have hA : DataW.TrodAll enc Try.prog W 0 (fun _ => true) true Try.f4.params.toList args.toList ds p := hA0
  rw [Try.params4] at hA hval
  obtain ⟨v0, vs0, d0, ds0, p0, q0, hargs, rfl, rfl, h0, r0⟩ := trodAll_cons hA
  obtain ⟨v1, vs1, d1, ds1, p1, q1, rfl, rfl, rfl, h1, r1⟩ := trodAll_cons r0
  obtain ⟨v2, vs2, d2, ds2, p2, q2, rfl, rfl, rfl, h2, r2⟩ := trodAll_cons r1
  obtain ⟨v3, vs3, d3, ds3, p3, q3, rfl, rfl, rfl, h3, r3⟩ := trodAll_cons r2
  obtain ⟨rfl, rfl, rfl⟩ := trodAll_nil r3
  obtain rfl : args = #[v0, v1, v2, v3] := by cases args; simp_all
  obtain ⟨rfl, rfl⟩ := trodVars_none hV
  have lt0 : ∀ x ∈ p0, x.block < W.heap.size := by obtain ⟨m, hm⟩ := h0; exact DataW.trod_lt m _ _ _ hm
  have lt1 : ∀ x ∈ p1, x.block < W.heap.size := by obtain ⟨m, hm⟩ := h1; exact DataW.trod_lt m _ _ _ hm
  have lt2 : ∀ x ∈ p2, x.block < W.heap.size := by obtain ⟨m, hm⟩ := h2; exact DataW.trod_lt m _ _ _ hm
  have lt3 : ∀ x ∈ p3, x.block < W.heap.size := by obtain ⟨m, hm⟩ := h3; exact DataW.trod_lt m _ _ _ hm
  obtain ⟨A0, n0, c0, rfl⟩ := okWide_slice Try.underlying22 (hval 0 22 v0 rfl rfl)
  obtain ⟨⟨css0, hR0⟩, hL0⟩ := rows_open (ks := ksStep) Try.underlying22 (by kernel_rfl) (fun _ _ _ hh hs => ok_Step hh hs) (hval 0 22 _ rfl rfl) h0 (small_of hsz (j := 0) (t := 22) (by rw [Try.params4]; rfl) rfl)
  have hl0 : n0 ≤ 140737488351232 := by
    rcases hL0 with ⟨h, _⟩ | ⟨el, sp, rfl, rfl⟩
    · rw [h]; exact Nat.zero_le _
    · have hz := sized_slice hsz (j := 0) (t := 22) (by rw [Try.params4]; rfl) rfl Try.underlying22
      have hb : Nat.ble 1 (Try.prog.bytesOf 72) = true := by kernel_rfl
      have hb' := Nat.le_of_ble_eq_true hb
      exact Nat.le_trans (Nat.le_trans (Nat.le_add_right _ sp.length) (Nat.le_mul_of_pos_right _ hb')) hz
  obtain ⟨cs1, rfl, hl1, hc1⟩ := agg_cells (ts := [23, 3]) Try.underlying25 (by kernel_rfl) (by kernel_rfl) (hval 1 25 v1 rfl rfl)
  obtain ⟨c1_0, c1_1, rfl⟩ := list2 hl1
  obtain ⟨a1a, rfl, a1al, a1ah⟩ := cell_int Try.underlying23 (hc1 0 23 _ rfl rfl)
  have a1al : (0 : Int) ≤ a1a := a1al
  have a1ah : a1a ≤ (4294967295 : Int) := a1ah
  obtain ⟨a1b, rfl, a1bl, a1bh⟩ := cell_int Try.underlying3 (hc1 1 3 _ rfl rfl)
  have a1bl : (-9223372036854775808 : Int) ≤ a1b := a1bl
  have a1bh : a1b ≤ (9223372036854775807 : Int) := a1bh
  clear hc1 hl1
  obtain ⟨a2, rfl, a2l, a2h⟩ := cell_int Try.underlying3 (val_cell_int Try.underlying3 (hval 2 3 v2 rfl rfl))
  have a2l : (-9223372036854775808 : Int) ≤ a2 := a2l
  have a2h : a2 ≤ (9223372036854775807 : Int) := a2h
  obtain ⟨a3, rfl, a3l, a3h⟩ := cell_int Try.underlying23 (val_cell_int Try.underlying23 (hval 3 23 v3 rfl rfl))
  have a3l : (0 : Int) ≤ a3 := a3l
  have a3h : a3 ≤ (4294967295 : Int) := a3h
  clear hA0 hval0
  refine (w_RouteBack A0 n0 c0 css0 a1a a1b a2 a3 W hR0 hl0 a1al a1ah a1bl a1bh a2l a2h a3l a3h).mono fun e W' ⟨he, bel⟩ => ?_
  subst he
  exact ⟨_, rfl, _, _, _, [], _, [], hW', trodAll_mk1 (shut_bool Try.underlying4 _), (trodAll_cons_mk (Below.trod Kit.laidOut (by kernel_rfl) (of_decide_eq_true (by kernel_rfl)) h0 bel lt0) (trodAll_cons_mk (Below.trod Kit.laidOut (by kernel_rfl) (of_decide_eq_true (by kernel_rfl)) h1 bel lt1) (trodAll_cons_mk (Below.trod Kit.laidOut (by kernel_rfl) (of_decide_eq_true (by kernel_rfl)) h2 bel lt2) (trodAll_cons_mk (Below.trod Kit.laidOut (by kernel_rfl) (of_decide_eq_true (by kernel_rfl)) h3 bel lt3) trodAll_mk0)))), rfl, bel.frame _, fun h => by cases h⟩

theorem over : Rows.routeBackRow.holds Try.pinned (OpenSpec.ofChange Rows.routeBackSpec) :=
  OpenClaim.holds_of_wide 4 Try.f4 rfl rfl rfl rfl rfl rfl rfl ⟨rfl, rfl, rfl, rfl, rfl⟩ rfl rfl rfl rfl rfl (by kernel_rfl) Try.func4 (by kernel_rfl)
    (of_decide_eq_true (by kernel_rfl)) (by unfold Func.isWrapper; first | (rw [if_pos (by decide +kernel)]; kernel_rfl) | (rw [if_neg (by decide +kernel)]; exact ⟨rfl, rfl⟩))
    (fun os started H enc _ => lifted os started H enc)

theorem proved : Rows.RouteBackSaid := over
#print axioms proved
end Go.Proofs.Ytalfdbhpaonfjaa.routeBack
