/- The law AddrWithin of package packetboatkeep: for every input that fits the types (and the form's own reach) the call returns true, and each argument reads afterwards as it read before. The walk is in YtlehknaiddidaaaWAddrWithin. -/
import Derived.Test.YtlehknaiddidaaaKit
import Derived.Test.YtlehknaiddidaaaWAddrWithin
namespace Go.Proofs.Ytlehknaiddidaaa.addrWithin
open Go.ChangeShapes Go.WideShapes Go.ChangeAt Go.RowKit
set_option linter.unusedVariables false

set_option maxRecDepth 100000 in
theorem lifted (os : Os) (started : os.Started) (H : Type) (enc : TypeId × Value → H) :
    ReturnsInHanded {} Try.checked os 11 .any (Rows.addrWithinSpec.pre6 enc Try.prog Try.f11 Rows.addrWithinRow.domain false) (Rows.addrWithinSpec.post enc Try.prog Try.f11 false true false false) := by
  refine returnsInHanded_of_change (C := Try.checked) Kit.own started (by kernel_rfl) Try.func11
    (ChangeSpec.witness6 (enc := enc) (C := Try.checked) false ⟨#[], #[.agg #[.int .u32 0, .int .i64 0], .agg #[.int .u32 0, .int .i64 0], .int .u32 0], []⟩ 16 (by kernel_rfl) (by kernel_rfl) (by kernel_rfl) (by kernel_rfl)) ?_
  intro W base args ds gs before hval0 hW hcnd _
  have hval : ∀ (j : Nat) t v, Try.f11.params[j]? = some t → args[j]? = some v → Value.okWide Try.prog W .any base t v := hval0
  have hW' := hW
  obtain ⟨p, q, hA0, hV, rfl, hfz, hnd⟩ := hW
  have hA : DataW.TrodAll enc Try.prog W 0 (fun _ => true) true Try.f11.params.toList args.toList ds p := hA0
  rw [Try.params11] at hA hval
  obtain ⟨v0, vs0, d0, ds0, p0, q0, hargs, rfl, rfl, h0, r0⟩ := trodAll_cons hA
  obtain ⟨v1, vs1, d1, ds1, p1, q1, rfl, rfl, rfl, h1, r1⟩ := trodAll_cons r0
  obtain ⟨v2, vs2, d2, ds2, p2, q2, rfl, rfl, rfl, h2, r2⟩ := trodAll_cons r1
  obtain ⟨rfl, rfl, rfl⟩ := trodAll_nil r2
  obtain rfl : args = #[v0, v1, v2] := by cases args; simp_all
  obtain ⟨rfl, rfl⟩ := trodVars_none hV
  have lt0 : ∀ x ∈ p0, x.block < W.heap.size := by obtain ⟨m, hm⟩ := h0; exact DataW.trod_lt m _ _ _ hm
  have lt1 : ∀ x ∈ p1, x.block < W.heap.size := by obtain ⟨m, hm⟩ := h1; exact DataW.trod_lt m _ _ _ hm
  have lt2 : ∀ x ∈ p2, x.block < W.heap.size := by obtain ⟨m, hm⟩ := h2; exact DataW.trod_lt m _ _ _ hm
  obtain ⟨cs0, rfl, hl0, hc0⟩ := agg_cells (ts := [22, 3]) Try.underlying43 (by kernel_rfl) (by kernel_rfl) (hval 0 43 v0 rfl rfl)
  obtain ⟨c0_0, c0_1, rfl⟩ := list2 hl0
  obtain ⟨a0a, rfl, a0al, a0ah⟩ := cell_int Try.underlying22 (hc0 0 22 _ rfl rfl)
  have a0al : (0 : Int) ≤ a0a := a0al
  have a0ah : a0a ≤ (4294967295 : Int) := a0ah
  obtain ⟨a0b, rfl, a0bl, a0bh⟩ := cell_int Try.underlying3 (hc0 1 3 _ rfl rfl)
  have a0bl : (-9223372036854775808 : Int) ≤ a0b := a0bl
  have a0bh : a0b ≤ (9223372036854775807 : Int) := a0bh
  clear hc0 hl0
  obtain ⟨cs1, rfl, hl1, hc1⟩ := agg_cells (ts := [22, 3]) Try.underlying43 (by kernel_rfl) (by kernel_rfl) (hval 1 43 v1 rfl rfl)
  obtain ⟨c1_0, c1_1, rfl⟩ := list2 hl1
  obtain ⟨a1a, rfl, a1al, a1ah⟩ := cell_int Try.underlying22 (hc1 0 22 _ rfl rfl)
  have a1al : (0 : Int) ≤ a1a := a1al
  have a1ah : a1a ≤ (4294967295 : Int) := a1ah
  obtain ⟨a1b, rfl, a1bl, a1bh⟩ := cell_int Try.underlying3 (hc1 1 3 _ rfl rfl)
  have a1bl : (-9223372036854775808 : Int) ≤ a1b := a1bl
  have a1bh : a1b ≤ (9223372036854775807 : Int) := a1bh
  clear hc1 hl1
  obtain ⟨a2, rfl, a2l, a2h⟩ := cell_int Try.underlying22 (val_cell_int Try.underlying22 (hval 2 22 v2 rfl rfl))
  have a2l : (0 : Int) ≤ a2 := a2l
  have a2h : a2 ≤ (4294967295 : Int) := a2h
  clear hA0 hval0
  refine (w_AddrWithin a0a a0b a1a a1b a2 W a0al a0ah a0bl a0bh a1al a1ah a1bl a1bh a2l a2h).mono fun e W' ⟨he, bel⟩ => ?_
  subst he
  exact ⟨_, rfl, _, _, _, [], _, [], hW', trodAll_mk1 (shut_bool Try.underlying4 _), (trodAll_cons_mk (Below.trod Kit.laidOut (by kernel_rfl) (of_decide_eq_true (by kernel_rfl)) h0 bel lt0) (trodAll_cons_mk (Below.trod Kit.laidOut (by kernel_rfl) (of_decide_eq_true (by kernel_rfl)) h1 bel lt1) (trodAll_cons_mk (Below.trod Kit.laidOut (by kernel_rfl) (of_decide_eq_true (by kernel_rfl)) h2 bel lt2) trodAll_mk0))), rfl, bel.frame _, fun h => by cases h⟩

theorem over : Rows.addrWithinRow.holds Try.pinned (OpenSpec.ofChange Rows.addrWithinSpec) :=
  OpenClaim.holds_of_wide 11 Try.f11 rfl rfl rfl rfl rfl rfl rfl ⟨rfl, rfl, rfl, rfl, rfl⟩ rfl rfl rfl rfl rfl (by kernel_rfl) Try.func11 (by kernel_rfl)
    (of_decide_eq_true (by kernel_rfl)) (by unfold Func.isWrapper; first | (rw [if_pos (by decide +kernel)]; kernel_rfl) | (rw [if_neg (by decide +kernel)]; exact ⟨rfl, rfl⟩))
    (fun os started H enc _ => lifted os started H enc)

theorem proved : Rows.AddrWithinSaid := over
#print axioms proved
end Go.Proofs.Ytlehknaiddidaaa.addrWithin
