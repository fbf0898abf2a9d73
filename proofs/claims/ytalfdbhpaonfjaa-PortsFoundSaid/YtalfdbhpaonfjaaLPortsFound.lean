/- The law PortsFound of package packetboatkeep: for every input that fits the types (and the form's own reach) the call returns true, and each argument reads afterwards as it read before. The walk is in YtalfdbhpaonfjaaWPortsFound. -/
import Derived.Test.YtalfdbhpaonfjaaDat
import Derived.Test.YtalfdbhpaonfjaaStr
import Derived.Test.YtalfdbhpaonfjaaKit
import Derived.Test.YtalfdbhpaonfjaaWPortsFound
namespace Go.Proofs.Ytalfdbhpaonfjaa.portsFound
open Go.ChangeShapes Go.WideShapes Go.ChangeAt Go.RowKit
open Go.ChangeMaps (open_string)
set_option linter.unusedVariables false

set_option maxRecDepth 100000 in
theorem lifted (os : Os) (started : os.Started) (H : Type) (enc : TypeId × Value → H) :
    ReturnsInHanded {} Try.checked os 12 .any (Rows.portsFoundSpec.pre6 enc Try.prog Try.f12 Rows.portsFoundRow.domain false) (Rows.portsFoundSpec.post enc Try.prog Try.f12 false true false false) := by
  refine returnsInHanded_of_change_sized (C := Try.checked) Kit.own started (by kernel_rfl) Try.func12
    (ChangeSpec.witness6 (enc := enc) (C := Try.checked) false ⟨#[], #[.slice none 0 0, .int .i64 0, .agg #[.int .u32 0, .int .i64 0], .agg #[.int .u32 0, .int .i64 0], .int .u64 0], []⟩ 16 (by kernel_rfl) (by kernel_rfl) (by kernel_rfl) (by kernel_rfl)) ?_
  intro W base args ds gs before hval0 hW hcnd hsz _
  have hval : ∀ (j : Nat) t v, Try.f12.params[j]? = some t → args[j]? = some v → Value.okWide Try.prog W .any base t v := hval0
  have hW' := hW
  obtain ⟨p, q, hA0, hV, rfl, hfz, hnd⟩ := hW
  have hA : DataW.TrodAll enc Try.prog W 0 (fun _ => true) true Try.f12.params.toList args.toList ds p := hA0
  rw [Try.params12] at hA hval
  obtain ⟨v0, vs0, d0, ds0, p0, q0, hargs, rfl, rfl, h0, r0⟩ := trodAll_cons hA
  obtain ⟨v1, vs1, d1, ds1, p1, q1, rfl, rfl, rfl, h1, r1⟩ := trodAll_cons r0
  obtain ⟨v2, vs2, d2, ds2, p2, q2, rfl, rfl, rfl, h2, r2⟩ := trodAll_cons r1
  obtain ⟨v3, vs3, d3, ds3, p3, q3, rfl, rfl, rfl, h3, r3⟩ := trodAll_cons r2
  obtain ⟨v4, vs4, d4, ds4, p4, q4, rfl, rfl, rfl, h4, r4⟩ := trodAll_cons r3
  obtain ⟨rfl, rfl, rfl⟩ := trodAll_nil r4
  obtain rfl : args = #[v0, v1, v2, v3, v4] := by cases args; simp_all
  obtain ⟨rfl, rfl⟩ := trodVars_none hV
  have lt0 : ∀ x ∈ p0, x.block < W.heap.size := by obtain ⟨m, hm⟩ := h0; exact DataW.trod_lt m _ _ _ hm
  have lt1 : ∀ x ∈ p1, x.block < W.heap.size := by obtain ⟨m, hm⟩ := h1; exact DataW.trod_lt m _ _ _ hm
  have lt2 : ∀ x ∈ p2, x.block < W.heap.size := by obtain ⟨m, hm⟩ := h2; exact DataW.trod_lt m _ _ _ hm
  have lt3 : ∀ x ∈ p3, x.block < W.heap.size := by obtain ⟨m, hm⟩ := h3; exact DataW.trod_lt m _ _ _ hm
  have lt4 : ∀ x ∈ p4, x.block < W.heap.size := by obtain ⟨m, hm⟩ := h4; exact DataW.trod_lt m _ _ _ hm
  obtain ⟨A0, n0, c0, rfl⟩ := okWide_slice Try.underlying22 (hval 0 22 v0 rfl rfl)
  obtain ⟨⟨css0, hR0⟩, hL0⟩ := rows_open (ks := ksStep) Try.underlying22 (by kernel_rfl) (fun _ _ _ hh hs => ok_Step hh hs) (hval 0 22 _ rfl rfl) h0 (small_of hsz (j := 0) (t := 22) (by rw [Try.params12]; rfl) rfl)
  have hl0 : n0 ≤ 140737488351232 := by
    rcases hL0 with ⟨h, _⟩ | ⟨el, sp, rfl, rfl⟩
    · rw [h]; exact Nat.zero_le _
    · have hz := sized_slice hsz (j := 0) (t := 22) (by rw [Try.params12]; rfl) rfl Try.underlying22
      have hb : Nat.ble 1 (Try.prog.bytesOf 72) = true := by kernel_rfl
      have hb' := Nat.le_of_ble_eq_true hb
      exact Nat.le_trans (Nat.le_trans (Nat.le_add_right _ sp.length) (Nat.le_mul_of_pos_right _ hb')) hz
  obtain ⟨a1, rfl, a1l, a1h⟩ := cell_int Try.underlying3 (val_cell_int Try.underlying3 (hval 1 3 v1 rfl rfl))
  have a1l : (-9223372036854775808 : Int) ≤ a1 := a1l
  have a1h : a1 ≤ (9223372036854775807 : Int) := a1h
  obtain ⟨cs2, rfl, hl2, hc2⟩ := agg_cells (ts := [23, 3]) Try.underlying41 (by kernel_rfl) (by kernel_rfl) (hval 2 41 v2 rfl rfl)
  obtain ⟨c2_0, c2_1, rfl⟩ := list2 hl2
  obtain ⟨a2a, rfl, a2al, a2ah⟩ := cell_int Try.underlying23 (hc2 0 23 _ rfl rfl)
  have a2al : (0 : Int) ≤ a2a := a2al
  have a2ah : a2a ≤ (4294967295 : Int) := a2ah
  obtain ⟨a2b, rfl, a2bl, a2bh⟩ := cell_int Try.underlying3 (hc2 1 3 _ rfl rfl)
  have a2bl : (-9223372036854775808 : Int) ≤ a2b := a2bl
  have a2bh : a2b ≤ (9223372036854775807 : Int) := a2bh
  clear hc2 hl2
  obtain ⟨cs3, rfl, hl3, hc3⟩ := agg_cells (ts := [23, 3]) Try.underlying41 (by kernel_rfl) (by kernel_rfl) (hval 3 41 v3 rfl rfl)
  obtain ⟨c3_0, c3_1, rfl⟩ := list2 hl3
  obtain ⟨a3a, rfl, a3al, a3ah⟩ := cell_int Try.underlying23 (hc3 0 23 _ rfl rfl)
  have a3al : (0 : Int) ≤ a3a := a3al
  have a3ah : a3a ≤ (4294967295 : Int) := a3ah
  obtain ⟨a3b, rfl, a3bl, a3bh⟩ := cell_int Try.underlying3 (hc3 1 3 _ rfl rfl)
  have a3bl : (-9223372036854775808 : Int) ≤ a3b := a3bl
  have a3bh : a3b ≤ (9223372036854775807 : Int) := a3bh
  clear hc3 hl3
  obtain ⟨a4, rfl, a4l, a4h⟩ := cell_int Try.underlying42 (val_cell_int Try.underlying42 (hval 4 42 v4 rfl rfl))
  have a4l : (0 : Int) ≤ a4 := a4l
  have a4h : a4 ≤ (18446744073709551615 : Int) := a4h
  clear hA0 hval0
  refine (w_PortsFound A0 n0 c0 css0 a1 a2a a2b a3a a3b a4 W hR0 hl0 a1l a1h a2al a2ah a2bl a2bh a3al a3ah a3bl a3bh a4l a4h).mono fun e W' ⟨he, bel⟩ => ?_
  subst he
  exact ⟨_, rfl, _, _, _, [], _, [], hW', trodAll_mk1 (shut_bool Try.underlying4 _), (trodAll_cons_mk (Below.trod Kit.laidOut (by kernel_rfl) (of_decide_eq_true (by kernel_rfl)) h0 bel lt0) (trodAll_cons_mk (Below.trod Kit.laidOut (by kernel_rfl) (of_decide_eq_true (by kernel_rfl)) h1 bel lt1) (trodAll_cons_mk (Below.trod Kit.laidOut (by kernel_rfl) (of_decide_eq_true (by kernel_rfl)) h2 bel lt2) (trodAll_cons_mk (Below.trod Kit.laidOut (by kernel_rfl) (of_decide_eq_true (by kernel_rfl)) h3 bel lt3) (trodAll_cons_mk (Below.trod Kit.laidOut (by kernel_rfl) (of_decide_eq_true (by kernel_rfl)) h4 bel lt4) trodAll_mk0))))), rfl, bel.frame _, fun h => by cases h⟩

theorem over : Rows.portsFoundRow.holds Try.pinned (OpenSpec.ofChange Rows.portsFoundSpec) :=
  OpenClaim.holds_of_wide 12 Try.f12 rfl rfl rfl rfl rfl rfl rfl ⟨rfl, rfl, rfl, rfl, rfl⟩ rfl rfl rfl rfl rfl (by kernel_rfl) Try.func12 (by kernel_rfl)
    (of_decide_eq_true (by kernel_rfl)) (by unfold Func.isWrapper; first | (rw [if_pos (by decide +kernel)]; kernel_rfl) | (rw [if_neg (by decide +kernel)]; exact ⟨rfl, rfl⟩))
    (fun os started H enc _ => lifted os started H enc)

theorem proved : Rows.PortsFoundSaid := over
#print axioms proved
end Go.Proofs.Ytalfdbhpaonfjaa.portsFound
