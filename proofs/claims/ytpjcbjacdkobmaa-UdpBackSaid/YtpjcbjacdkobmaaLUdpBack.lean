/- The law UdpBack of package packetboatkeep: for every input that fits the types (and the form's own reach) the call returns true, and each argument reads afterwards as it read before. The walk is in YtpjcbjacdkobmaaWUdpBack. -/
import Derived.Test.YtpjcbjacdkobmaaKit
import Derived.Test.YtpjcbjacdkobmaaWUdpBack
namespace Go.Proofs.Ytpjcbjacdkobmaa.udpBack
open Go.ChangeShapes Go.WideShapes Go.ChangeAt Go.RowKit
open Go.ChangeMaps (open_string)
set_option linter.unusedVariables false

set_option maxRecDepth 100000 in
theorem lifted (os : Os) (started : os.Started) (H : Type) (enc : TypeId × Value → H) :
    ReturnsInHanded {} Try.checked os 3 .any (Rows.udpBackSpec.pre6 enc Try.prog Try.f3 Rows.udpBackRow.domain false) (Rows.udpBackSpec.post enc Try.prog Try.f3 false true false false) := by
  refine returnsInHanded_of_change_sized (C := Try.checked) Kit.own started (by kernel_rfl) Try.func3
    (ChangeSpec.witness6 (enc := enc) (C := Try.checked) false ⟨#[], #[.agg #[.int .u32 0, .int .i64 0, .int .u32 0, .int .i64 0, .string ByteArray.empty], .string ByteArray.empty, .int .i64 0, .int .i64 0], []⟩ 16 (by kernel_rfl) (by kernel_rfl) (by kernel_rfl) (by kernel_rfl)) ?_
  intro W base args ds gs before hval0 hW hcnd hsz _
  have hval : ∀ (j : Nat) t v, Try.f3.params[j]? = some t → args[j]? = some v → Value.okWide Try.prog W .any base t v := hval0
  have hW' := hW
  obtain ⟨p, q, hA0, hV, rfl, hfz, hnd⟩ := hW
  have hA : DataW.TrodAll enc Try.prog W 0 (fun _ => true) true Try.f3.params.toList args.toList ds p := hA0
  rw [Try.params3] at hA hval
  obtain ⟨v0, vs0, d0, ds0, p0, q0, hargs, rfl, rfl, h0, r0⟩ := trodAll_cons hA
  obtain ⟨v1, vs1, d1, ds1, p1, q1, rfl, rfl, rfl, h1, r1⟩ := trodAll_cons r0
  obtain ⟨v2, vs2, d2, ds2, p2, q2, rfl, rfl, rfl, h2, r2⟩ := trodAll_cons r1
  obtain ⟨v3, vs3, d3, ds3, p3, q3, rfl, rfl, rfl, h3, r3⟩ := trodAll_cons r2
  obtain ⟨rfl, rfl, rfl⟩ := trodAll_nil r3
  obtain rfl : args = #[v0, v1, v2, v3] := by cases args; simp_all
  obtain ⟨rfl, rfl⟩ := trodVars_none hV
  have lt0 : ∀ x ∈ p0, x.block < W.heap.size := by obtain ⟨m, hm⟩ := h0; exact DataW.trod_lt m _ _ _ hm
  have lt1 : ∀ x ∈ p1, x.block < W.heap.size := by obtain ⟨m, hm⟩ := h1; exact DataW.trod_lt m _ _ _ hm
  have lt2 : ∀ x ∈ p2, x.block < W.heap.size := by obtain ⟨m, hm⟩ := h2; exact DataW.trod_lt m _ _ _ hm
  have lt3 : ∀ x ∈ p3, x.block < W.heap.size := by obtain ⟨m, hm⟩ := h3; exact DataW.trod_lt m _ _ _ hm
  obtain ⟨cs0, rfl, hl0, hc0⟩ := agg_cells (ts := [22, 3, 22, 3, 9]) Try.underlying26 (by kernel_rfl) (by kernel_rfl) (hval 0 26 v0 rfl rfl)
  obtain ⟨c0_0, c0_1, c0_2, c0_3, c0_4, rfl⟩ := list5 hl0
  obtain ⟨a0a, rfl, a0al, a0ah⟩ := cell_int Try.underlying22 (hc0 0 22 _ rfl rfl)
  have a0al : (0 : Int) ≤ a0a := a0al
  have a0ah : a0a ≤ (4294967295 : Int) := a0ah
  obtain ⟨a0b, rfl, a0bl, a0bh⟩ := cell_int Try.underlying3 (hc0 1 3 _ rfl rfl)
  have a0bl : (-9223372036854775808 : Int) ≤ a0b := a0bl
  have a0bh : a0b ≤ (9223372036854775807 : Int) := a0bh
  obtain ⟨a0c, rfl, a0cl, a0ch⟩ := cell_int Try.underlying22 (hc0 2 22 _ rfl rfl)
  have a0cl : (0 : Int) ≤ a0c := a0cl
  have a0ch : a0c ≤ (4294967295 : Int) := a0ch
  obtain ⟨a0d, rfl, a0dl, a0dh⟩ := cell_int Try.underlying3 (hc0 3 3 _ rfl rfl)
  have a0dl : (-9223372036854775808 : Int) ≤ a0d := a0dl
  have a0dh : a0d ≤ (9223372036854775807 : Int) := a0dh
  obtain ⟨s0e, rfl, s0eh⟩ := cell_string Try.underlying9 (hc0 4 9 _ rfl rfl)
  clear hc0 hl0
  obtain ⟨s1, rfl, rfl, -, -⟩ := open_string Try.underlying9 (hval 1 9 v1 rfl rfl) h1
  have s1h : s1.size ≤ 140737488351232 := by
    have := sized_string hsz (j := 1) (t := 9) (by rw [Try.params3]; rfl) rfl
    rw [Array.length_toList] at this
    exact this
  obtain ⟨a2, rfl, a2l, a2h⟩ := cell_int Try.underlying3 (val_cell_int Try.underlying3 (hval 2 3 v2 rfl rfl))
  have a2l : (-9223372036854775808 : Int) ≤ a2 := a2l
  have a2h : a2 ≤ (9223372036854775807 : Int) := a2h
  obtain ⟨a3, rfl, a3l, a3h⟩ := cell_int Try.underlying3 (val_cell_int Try.underlying3 (hval 3 3 v3 rfl rfl))
  have a3l : (-9223372036854775808 : Int) ≤ a3 := a3l
  have a3h : a3 ≤ (9223372036854775807 : Int) := a3h
  clear hA0 hval0
  refine (w_UdpBack a0a a0b a0c a0d s0e s1 a2 a3 W a0al a0ah a0bl a0bh a0cl a0ch a0dl a0dh s0eh s1h a2l a2h a3l a3h).mono fun e W' ⟨he, bel⟩ => ?_
  subst he
  exact ⟨_, rfl, _, _, _, [], _, [], hW', trodAll_mk1 (shut_bool Try.underlying4 _), (trodAll_cons_mk (Below.trod Kit.laidOut (by kernel_rfl) (of_decide_eq_true (by kernel_rfl)) h0 bel lt0) (trodAll_cons_mk (Below.trod Kit.laidOut (by kernel_rfl) (of_decide_eq_true (by kernel_rfl)) h1 bel lt1) (trodAll_cons_mk (Below.trod Kit.laidOut (by kernel_rfl) (of_decide_eq_true (by kernel_rfl)) h2 bel lt2) (trodAll_cons_mk (Below.trod Kit.laidOut (by kernel_rfl) (of_decide_eq_true (by kernel_rfl)) h3 bel lt3) trodAll_mk0)))), rfl, bel.frame _, fun h => by cases h⟩

theorem over : Rows.udpBackRow.holds Try.pinned (OpenSpec.ofChange Rows.udpBackSpec) :=
  OpenClaim.holds_of_wide 3 Try.f3 rfl rfl rfl rfl rfl rfl rfl ⟨rfl, rfl, rfl, rfl, rfl⟩ rfl rfl rfl rfl rfl (by kernel_rfl) Try.func3 (by kernel_rfl)
    (of_decide_eq_true (by kernel_rfl)) (by unfold Func.isWrapper; first | (rw [if_pos (by decide +kernel)]; kernel_rfl) | (rw [if_neg (by decide +kernel)]; exact ⟨rfl, rfl⟩))
    (fun os started H enc _ => lifted os started H enc)

theorem proved : Rows.UdpBackSaid := over
#print axioms proved
end Go.Proofs.Ytpjcbjacdkobmaa.udpBack
