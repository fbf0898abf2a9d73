/- The law ConnStates of package packetboatkeep: for every input that fits the types (and the form's own reach) the call returns true, and each argument reads afterwards as it read before. The walk is in YtfpifahkpkjfgaaWConnStates. -/
import Derived.Test.YtfpifahkpkjfgaaMConnStates1
import Derived.Test.YtfpifahkpkjfgaaMConnStates2
import Derived.Test.YtfpifahkpkjfgaaMConnStates3
import Derived.Test.YtfpifahkpkjfgaaMConnStates4
import Derived.Test.YtfpifahkpkjfgaaMConnStates5
import Derived.Test.YtfpifahkpkjfgaaMConnStates6
import Derived.Test.YtfpifahkpkjfgaaMConnStates7
import Derived.Test.YtfpifahkpkjfgaaMConnStates8
import Derived.Test.YtfpifahkpkjfgaaMConnStates9
import Derived.Test.YtfpifahkpkjfgaaMConnStates10
import Derived.Test.YtfpifahkpkjfgaaMConnStates11
import Derived.Test.YtfpifahkpkjfgaaMConnStates12
import Derived.Test.YtfpifahkpkjfgaaMConnStates13
import Derived.Test.YtfpifahkpkjfgaaMConnStates14
import Derived.Test.YtfpifahkpkjfgaaMConnStates15
import Derived.Test.YtfpifahkpkjfgaaMConnStates16
import Derived.Test.YtfpifahkpkjfgaaMConnStates17
import Derived.Test.YtfpifahkpkjfgaaMConnStates18
import Derived.Test.YtfpifahkpkjfgaaMConnStates19
import Derived.Test.YtfpifahkpkjfgaaMConnStates20
import Derived.Test.YtfpifahkpkjfgaaMConnStates21
import Derived.Test.YtfpifahkpkjfgaaMConnStates22
import Derived.Test.YtfpifahkpkjfgaaMConnStates23
import Derived.Test.YtfpifahkpkjfgaaMConnStates24
import Derived.Test.YtfpifahkpkjfgaaMConnStates25
import Derived.Test.YtfpifahkpkjfgaaMConnStates26
import Derived.Test.YtfpifahkpkjfgaaMConnStates27
import Derived.Test.YtfpifahkpkjfgaaMConnStates28
import Derived.Test.YtfpifahkpkjfgaaMConnStates29
import Derived.Test.YtfpifahkpkjfgaaMConnStates30
import Derived.Test.YtfpifahkpkjfgaaMConnStates31
import Derived.Test.YtfpifahkpkjfgaaMConnStates32
import Derived.Test.YtfpifahkpkjfgaaMConnStates33
import Derived.Test.YtfpifahkpkjfgaaMConnStates34
import Derived.Test.YtfpifahkpkjfgaaMConnStates35
import Derived.Test.YtfpifahkpkjfgaaMConnStates36
import Derived.Test.YtfpifahkpkjfgaaMConnStates37
import Derived.Test.YtfpifahkpkjfgaaMConnStates38
import Derived.Test.YtfpifahkpkjfgaaMConnStates39
namespace Go.Proofs.Ytfpifahkpkjfgaa.connStates
open Go.ChangeShapes Go.WideShapes Go.ChangeAt Go.RowKit
open Go.ChangeMaps (open_string)
set_option linter.unusedVariables false

set_option maxRecDepth 100000 in
theorem lifted (os : Os) (started : os.Started) (H : Type) (enc : TypeId × Value → H) :
    ReturnsInHanded {} Try.checked os 8 .any (Rows.connStatesSpec.pre6 enc Try.prog Try.f8 Rows.connStatesRow.domain false) (Rows.connStatesSpec.post enc Try.prog Try.f8 false true false false) := by
  refine returnsInHanded_of_change_sized (C := Try.checked) Kit.own started (by kernel_rfl) Try.func8
    (ChangeSpec.witness6 (enc := enc) (C := Try.checked) false ⟨#[], #[.agg #[.int .u32 0, .int .i64 0], .agg #[.int .u32 0, .int .i64 0], .int .u32 0, .int .i64 0, .slice none 0 0], []⟩ 16 (by kernel_rfl) (by kernel_rfl) (by kernel_rfl) (by kernel_rfl)) ?_
  intro W base args ds gs before hval0 hW hcnd hsz _
  have hval : ∀ (j : Nat) t v, Try.f8.params[j]? = some t → args[j]? = some v → Value.okWide Try.prog W .any base t v := hval0
  have hW' := hW
  obtain ⟨p, q, hA0, hV, rfl, hfz, hnd⟩ := hW
  have hA : DataW.TrodAll enc Try.prog W 0 (fun _ => true) true Try.f8.params.toList args.toList ds p := hA0
  rw [Try.params8] at hA hval
  obtain ⟨v0, vs0, d0, ds0, p0, q0, hargs, rfl, rfl, h0, r0⟩ := trodAll_cons hA
  obtain ⟨v1, vs1, d1, ds1, p1, q1, rfl, rfl, rfl, h1, r1⟩ := trodAll_cons r0
  obtain ⟨v2, vs2, d2, ds2, p2, q2, rfl, rfl, rfl, h2, r2⟩ := trodAll_cons r1
  obtain ⟨v3, vs3, d3, ds3, p3, q3, rfl, rfl, rfl, h3, r3⟩ := trodAll_cons r2
  obtain ⟨v4, vs4, d4, ds4, p4, q4, rfl, rfl, rfl, h4, r4⟩ := trodAll_cons r3
  obtain ⟨rfl, rfl, rfl⟩ := trodAll_nil r4
  obtain rfl : args = #[v0, v1, v2, v3, v4] := by cases args; simp_all
  obtain ⟨rfl, rfl⟩ := trodVars_none hV
  have lt0 : ∀ x ∈ p0, x.block < W.heap.size := by obtain ⟨m, hm⟩ := h0; exact DataW.trod_lt m _ _ _ hm
  have lt1 : ∀ x ∈ p1, x.block < W.heap.size := by obtain ⟨m, hm⟩ := h1; exact DataW.trod_lt m _ _ _ hm
  have lt2 : ∀ x ∈ p2, x.block < W.heap.size := by obtain ⟨m, hm⟩ := h2; exact DataW.trod_lt m _ _ _ hm
  have lt3 : ∀ x ∈ p3, x.block < W.heap.size := by obtain ⟨m, hm⟩ := h3; exact DataW.trod_lt m _ _ _ hm
  have lt4 : ∀ x ∈ p4, x.block < W.heap.size := by obtain ⟨m, hm⟩ := h4; exact DataW.trod_lt m _ _ _ hm
  obtain ⟨cs0, rfl, hl0, hc0⟩ := agg_cells (ts := [22, 3]) Try.underlying29 (by kernel_rfl) (by kernel_rfl) (hval 0 29 v0 rfl rfl)
  obtain ⟨c0_0, c0_1, rfl⟩ := list2 hl0
  obtain ⟨a0a, rfl, a0al, a0ah⟩ := cell_int Try.underlying22 (hc0 0 22 _ rfl rfl)
  have a0al : (0 : Int) ≤ a0a := a0al
  have a0ah : a0a ≤ (4294967295 : Int) := a0ah
  obtain ⟨a0b, rfl, a0bl, a0bh⟩ := cell_int Try.underlying3 (hc0 1 3 _ rfl rfl)
  have a0bl : (-9223372036854775808 : Int) ≤ a0b := a0bl
  have a0bh : a0b ≤ (9223372036854775807 : Int) := a0bh
  clear hc0 hl0
  obtain ⟨cs1, rfl, hl1, hc1⟩ := agg_cells (ts := [22, 3]) Try.underlying29 (by kernel_rfl) (by kernel_rfl) (hval 1 29 v1 rfl rfl)
  obtain ⟨c1_0, c1_1, rfl⟩ := list2 hl1
  obtain ⟨a1a, rfl, a1al, a1ah⟩ := cell_int Try.underlying22 (hc1 0 22 _ rfl rfl)
  have a1al : (0 : Int) ≤ a1a := a1al
  have a1ah : a1a ≤ (4294967295 : Int) := a1ah
  obtain ⟨a1b, rfl, a1bl, a1bh⟩ := cell_int Try.underlying3 (hc1 1 3 _ rfl rfl)
  have a1bl : (-9223372036854775808 : Int) ≤ a1b := a1bl
  have a1bh : a1b ≤ (9223372036854775807 : Int) := a1bh
  clear hc1 hl1
  obtain ⟨a2, rfl, a2l, a2h⟩ := cell_int Try.underlying22 (val_cell_int Try.underlying22 (hval 2 22 v2 rfl rfl))
  have a2l : (0 : Int) ≤ a2 := a2l
  have a2h : a2 ≤ (4294967295 : Int) := a2h
  obtain ⟨a3, rfl, a3l, a3h⟩ := cell_int Try.underlying3 (val_cell_int Try.underlying3 (hval 3 3 v3 rfl rfl))
  have a3l : (-9223372036854775808 : Int) ≤ a3 := a3l
  have a3h : a3 ≤ (9223372036854775807 : Int) := a3h
  obtain ⟨A4, n4, c4, rfl⟩ := okWide_slice Try.underlying60 (hval 4 60 v4 rfl rfl)
  obtain ⟨⟨css4, hR4⟩, hL4⟩ := rows_open (ks := ksStep) Try.underlying60 (by kernel_rfl) (fun _ _ _ hh hs => ok_Step hh hs) (hval 4 60 _ rfl rfl) h4 (small_of hsz (j := 4) (t := 60) (by rw [Try.params8]; rfl) rfl)
  have hl4 : n4 ≤ 469124961170 := by
    rcases hL4 with ⟨h, _⟩ | ⟨el, sp, rfl, rfl⟩
    · rw [h]; exact Nat.zero_le _
    · have hz := sized_slice hsz (j := 4) (t := 60) (by rw [Try.params8]; rfl) rfl Try.underlying60
      have hb : Nat.ble 300 (Try.prog.bytesOf 70) = true := by kernel_rfl
      have hb' := Nat.le_of_ble_eq_true hb
      have h2 : el.length * 300 ≤ 140737488351232 := Nat.le_trans (Nat.mul_le_mul (Nat.le_add_right el.length sp.length) hb') hz
      omega
  clear hA0 hval0
  refine (w_ConnStates a0a a0b a1a a1b a2 a3 A4 n4 c4 css4 W a0al a0ah a0bl a0bh a1al a1ah a1bl a1bh a2l a2h a3l a3h hR4 hl4).mono fun e W' ⟨he, bel⟩ => ?_
  subst he
  exact ⟨_, rfl, _, _, _, [], _, [], hW', trodAll_mk1 (shut_bool Try.underlying4 _), (trodAll_cons_mk (Below.trod Kit.laidOut (by kernel_rfl) (of_decide_eq_true (by kernel_rfl)) h0 bel lt0) (trodAll_cons_mk (Below.trod Kit.laidOut (by kernel_rfl) (of_decide_eq_true (by kernel_rfl)) h1 bel lt1) (trodAll_cons_mk (Below.trod Kit.laidOut (by kernel_rfl) (of_decide_eq_true (by kernel_rfl)) h2 bel lt2) (trodAll_cons_mk (Below.trod Kit.laidOut (by kernel_rfl) (of_decide_eq_true (by kernel_rfl)) h3 bel lt3) (trodAll_cons_mk (Below.trod Kit.laidOut (by kernel_rfl) (of_decide_eq_true (by kernel_rfl)) h4 bel lt4) trodAll_mk0))))), rfl, bel.frame _, fun h => by cases h⟩

theorem over : Rows.connStatesRow.holds Try.pinned (OpenSpec.ofChange Rows.connStatesSpec) :=
  OpenClaim.holds_of_wide 8 Try.f8 rfl rfl rfl rfl rfl rfl rfl ⟨rfl, rfl, rfl, rfl, rfl⟩ rfl rfl rfl rfl rfl (by kernel_rfl) Try.func8 (by kernel_rfl)
    (of_decide_eq_true (by kernel_rfl)) (by unfold Func.isWrapper; first | (rw [if_pos (by decide +kernel)]; kernel_rfl) | (rw [if_neg (by decide +kernel)]; exact ⟨rfl, rfl⟩))
    (fun os started H enc _ => lifted os started H enc)

theorem proved : Rows.ConnStatesSaid := over
#print axioms proved
end Go.Proofs.Ytfpifahkpkjfgaa.connStates
