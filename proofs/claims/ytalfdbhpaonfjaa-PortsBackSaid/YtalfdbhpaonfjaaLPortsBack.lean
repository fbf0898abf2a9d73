/- The law PortsBack of package packetboatkeep: for every input that fits the types (and the form's own reach) the call returns true, and each argument reads afterwards as it read before. The walk is in YtalfdbhpaonfjaaWPortsBack. -/
import Derived.Test.YtalfdbhpaonfjaaDat
import Derived.Test.YtalfdbhpaonfjaaStr
import Derived.Test.YtalfdbhpaonfjaaKit
import Derived.Test.YtalfdbhpaonfjaaWPortsBack
namespace Go.Proofs.Ytalfdbhpaonfjaa.portsBack
open Go.ChangeShapes Go.WideShapes Go.ChangeAt Go.RowKit
open Go.ChangeMaps (open_string)
set_option linter.unusedVariables false

set_option maxRecDepth 100000 in
theorem lifted (os : Os) (started : os.Started) (H : Type) (enc : TypeId × Value → H) :
    ReturnsInHanded {} Try.checked os 10 .any (Rows.portsBackSpec.pre6 enc Try.prog Try.f10 Rows.portsBackRow.domain false) (Rows.portsBackSpec.post enc Try.prog Try.f10 false true false false) := by
  refine returnsInHanded_of_change_sized (C := Try.checked) Kit.own started (by kernel_rfl) Try.func10
    (ChangeSpec.witness6 (enc := enc) (C := Try.checked) false ⟨#[], #[.slice none 0 0, .agg #[.int .i64 0, .int .u32 0, .int .i64 0, .int .u32 0, .int .i64 0, .bool false, .int .i64 0]], []⟩ 16 (by kernel_rfl) (by kernel_rfl) (by kernel_rfl) (by kernel_rfl)) ?_
  intro W base args ds gs before hval0 hW hcnd hsz _
  have hval : ∀ (j : Nat) t v, Try.f10.params[j]? = some t → args[j]? = some v → Value.okWide Try.prog W .any base t v := hval0
  have hW' := hW
  obtain ⟨p, q, hA0, hV, rfl, hfz, hnd⟩ := hW
  have hA : DataW.TrodAll enc Try.prog W 0 (fun _ => true) true Try.f10.params.toList args.toList ds p := hA0
  rw [Try.params10] at hA hval
  obtain ⟨v0, vs0, d0, ds0, p0, q0, hargs, rfl, rfl, h0, r0⟩ := trodAll_cons hA
  obtain ⟨v1, vs1, d1, ds1, p1, q1, rfl, rfl, rfl, h1, r1⟩ := trodAll_cons r0
  obtain ⟨rfl, rfl, rfl⟩ := trodAll_nil r1
  obtain rfl : args = #[v0, v1] := by cases args; simp_all
  obtain ⟨rfl, rfl⟩ := trodVars_none hV
  have lt0 : ∀ x ∈ p0, x.block < W.heap.size := by obtain ⟨m, hm⟩ := h0; exact DataW.trod_lt m _ _ _ hm
  have lt1 : ∀ x ∈ p1, x.block < W.heap.size := by obtain ⟨m, hm⟩ := h1; exact DataW.trod_lt m _ _ _ hm
  obtain ⟨A0, n0, c0, rfl⟩ := okWide_slice Try.underlying22 (hval 0 22 v0 rfl rfl)
  obtain ⟨⟨css0, hR0⟩, hL0⟩ := rows_open (ks := ksStep) Try.underlying22 (by kernel_rfl) (fun _ _ _ hh hs => ok_Step hh hs) (hval 0 22 _ rfl rfl) h0 (small_of hsz (j := 0) (t := 22) (by rw [Try.params10]; rfl) rfl)
  have hl0 : n0 ≤ 140737488351232 := by
    rcases hL0 with ⟨h, _⟩ | ⟨el, sp, rfl, rfl⟩
    · rw [h]; exact Nat.zero_le _
    · have hz := sized_slice hsz (j := 0) (t := 22) (by rw [Try.params10]; rfl) rfl Try.underlying22
      have hb : Nat.ble 1 (Try.prog.bytesOf 72) = true := by kernel_rfl
      have hb' := Nat.le_of_ble_eq_true hb
      exact Nat.le_trans (Nat.le_trans (Nat.le_add_right _ sp.length) (Nat.le_mul_of_pos_right _ hb')) hz
  obtain ⟨cs1, rfl, hl1, hc1⟩ := agg_cells (ts := [3, 23, 3, 23, 3, 4, 3]) Try.underlying49 (by kernel_rfl) (by kernel_rfl) (hval 1 49 v1 rfl rfl)
  obtain ⟨c1_0, c1_1, c1_2, c1_3, c1_4, c1_5, c1_6, rfl⟩ := list7 hl1
  obtain ⟨a1a, rfl, a1al, a1ah⟩ := cell_int Try.underlying3 (hc1 0 3 _ rfl rfl)
  have a1al : (-9223372036854775808 : Int) ≤ a1a := a1al
  have a1ah : a1a ≤ (9223372036854775807 : Int) := a1ah
  obtain ⟨a1b, rfl, a1bl, a1bh⟩ := cell_int Try.underlying23 (hc1 1 23 _ rfl rfl)
  have a1bl : (0 : Int) ≤ a1b := a1bl
  have a1bh : a1b ≤ (4294967295 : Int) := a1bh
  obtain ⟨a1c, rfl, a1cl, a1ch⟩ := cell_int Try.underlying3 (hc1 2 3 _ rfl rfl)
  have a1cl : (-9223372036854775808 : Int) ≤ a1c := a1cl
  have a1ch : a1c ≤ (9223372036854775807 : Int) := a1ch
  obtain ⟨a1d, rfl, a1dl, a1dh⟩ := cell_int Try.underlying23 (hc1 3 23 _ rfl rfl)
  have a1dl : (0 : Int) ≤ a1d := a1dl
  have a1dh : a1d ≤ (4294967295 : Int) := a1dh
  obtain ⟨a1e, rfl, a1el, a1eh⟩ := cell_int Try.underlying3 (hc1 4 3 _ rfl rfl)
  have a1el : (-9223372036854775808 : Int) ≤ a1e := a1el
  have a1eh : a1e ≤ (9223372036854775807 : Int) := a1eh
  obtain ⟨b1f, rfl⟩ := cell_bool Try.underlying4 (hc1 5 4 _ rfl rfl)
  obtain ⟨a1g, rfl, a1gl, a1gh⟩ := cell_int Try.underlying3 (hc1 6 3 _ rfl rfl)
  have a1gl : (-9223372036854775808 : Int) ≤ a1g := a1gl
  have a1gh : a1g ≤ (9223372036854775807 : Int) := a1gh
  clear hc1 hl1
  clear hA0 hval0
  refine (w_PortsBack A0 n0 c0 css0 a1a a1b a1c a1d a1e b1f a1g W hR0 hl0 a1al a1ah a1bl a1bh a1cl a1ch a1dl a1dh a1el a1eh a1gl a1gh).mono fun e W' ⟨he, bel⟩ => ?_
  subst he
  exact ⟨_, rfl, _, _, _, [], _, [], hW', trodAll_mk1 (shut_bool Try.underlying4 _), (trodAll_cons_mk (Below.trod Kit.laidOut (by kernel_rfl) (of_decide_eq_true (by kernel_rfl)) h0 bel lt0) (trodAll_cons_mk (Below.trod Kit.laidOut (by kernel_rfl) (of_decide_eq_true (by kernel_rfl)) h1 bel lt1) trodAll_mk0)), rfl, bel.frame _, fun h => by cases h⟩

theorem over : Rows.portsBackRow.holds Try.pinned (OpenSpec.ofChange Rows.portsBackSpec) :=
  OpenClaim.holds_of_wide 10 Try.f10 rfl rfl rfl rfl rfl rfl rfl ⟨rfl, rfl, rfl, rfl, rfl⟩ rfl rfl rfl rfl rfl (by kernel_rfl) Try.func10 (by kernel_rfl)
    (of_decide_eq_true (by kernel_rfl)) (by unfold Func.isWrapper; first | (rw [if_pos (by decide +kernel)]; kernel_rfl) | (rw [if_neg (by decide +kernel)]; exact ⟨rfl, rfl⟩))
    (fun os started H enc _ => lifted os started H enc)

theorem proved : Rows.PortsBackSaid := over
#print axioms proved
end Go.Proofs.Ytalfdbhpaonfjaa.portsBack
