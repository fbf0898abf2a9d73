/- The law TcpEnds of package packetboatkeep: for every input that fits the types (and the form's own reach) the call returns true, and each argument reads afterwards as it read before. The walk is in YtpjcbjacdkobmaaWTcpEnds. -/
import Derived.Test.YtpjcbjacdkobmaaKit
import Derived.Test.YtpjcbjacdkobmaaWTcpEnds
namespace Go.Proofs.Ytpjcbjacdkobmaa.tcpEnds
open Go.ChangeShapes Go.WideShapes Go.ChangeAt Go.RowKit
open Go.ChangeMaps (open_string)
set_option linter.unusedVariables false

set_option maxRecDepth 100000 in
theorem lifted (os : Os) (started : os.Started) (H : Type) (enc : TypeId × Value → H) :
    ReturnsInHanded {} Try.checked os 10 .any (Rows.tcpEndsSpec.pre6 enc Try.prog Try.f10 Rows.tcpEndsRow.domain false) (Rows.tcpEndsSpec.post enc Try.prog Try.f10 false true false false) := by
  refine returnsInHanded_of_change_sized (C := Try.checked) Kit.own started (by kernel_rfl) Try.func10
    (ChangeSpec.witness6 (enc := enc) (C := Try.checked) false ⟨#[], #[.agg #[.int .u32 0, .int .i64 0, .int .u32 0, .int .i64 0, .int .u32 0, .int .u32 0, .bool false, .bool false, .bool false, .bool false, .int .i64 0, .int .i64 0, .string ByteArray.empty], .int .u32 0, .int .u32 0], []⟩ 16 (by kernel_rfl) (by kernel_rfl) (by kernel_rfl) (by kernel_rfl)) ?_
  intro W base args ds gs before hval0 hW hcnd hsz _
  have hval : ∀ (j : Nat) t v, Try.f10.params[j]? = some t → args[j]? = some v → Value.okWide Try.prog W .any base t v := hval0
  have hW' := hW
  obtain ⟨p, q, hA0, hV, rfl, hfz, hnd⟩ := hW
  have hA : DataW.TrodAll enc Try.prog W 0 (fun _ => true) true Try.f10.params.toList args.toList ds p := hA0
  rw [Try.params10] at hA hval
  obtain ⟨v0, vs0, d0, ds0, p0, q0, hargs, rfl, rfl, h0, r0⟩ := trodAll_cons hA
  obtain ⟨v1, vs1, d1, ds1, p1, q1, rfl, rfl, rfl, h1, r1⟩ := trodAll_cons r0
  obtain ⟨v2, vs2, d2, ds2, p2, q2, rfl, rfl, rfl, h2, r2⟩ := trodAll_cons r1
  obtain ⟨rfl, rfl, rfl⟩ := trodAll_nil r2
  obtain rfl : args = #[v0, v1, v2] := by cases args; simp_all
  obtain ⟨rfl, rfl⟩ := trodVars_none hV
  have lt0 : ∀ x ∈ p0, x.block < W.heap.size := by obtain ⟨m, hm⟩ := h0; exact DataW.trod_lt m _ _ _ hm
  have lt1 : ∀ x ∈ p1, x.block < W.heap.size := by obtain ⟨m, hm⟩ := h1; exact DataW.trod_lt m _ _ _ hm
  have lt2 : ∀ x ∈ p2, x.block < W.heap.size := by obtain ⟨m, hm⟩ := h2; exact DataW.trod_lt m _ _ _ hm
  obtain ⟨cs0, rfl, hl0, hc0⟩ := agg_cells (ts := [22, 3, 22, 3, 22, 22, 4, 4, 4, 4, 3, 3, 9]) Try.underlying47 (by kernel_rfl) (by kernel_rfl) (hval 0 47 v0 rfl rfl)
  obtain ⟨c0_0, c0_1, c0_2, c0_3, c0_4, c0_5, c0_6, c0_7, c0_8, c0_9, c0_10, c0_11, c0_12, rfl⟩ := list13 hl0
  obtain ⟨a0a, rfl, a0al, a0ah⟩ := cell_int Try.underlying22 (hc0 0 22 _ rfl rfl)
  have a0al : (0 : Int) ≤ a0a := a0al
  have a0ah : a0a ≤ (4294967295 : Int) := a0ah
  obtain ⟨a0b, rfl, a0bl, a0bh⟩ := cell_int Try.underlying3 (hc0 1 3 _ rfl rfl)
  have a0bl : (-9223372036854775808 : Int) ≤ a0b := a0bl
  have a0bh : a0b ≤ (9223372036854775807 : Int) := a0bh
  obtain ⟨a0c, rfl, a0cl, a0ch⟩ := cell_int Try.underlying22 (hc0 2 22 _ rfl rfl)
  have a0cl : (0 : Int) ≤ a0c := a0cl
  have a0ch : a0c ≤ (4294967295 : Int) := a0ch
  obtain ⟨a0d, rfl, a0dl, a0dh⟩ := cell_int Try.underlying3 (hc0 3 3 _ rfl rfl)
  have a0dl : (-9223372036854775808 : Int) ≤ a0d := a0dl
  have a0dh : a0d ≤ (9223372036854775807 : Int) := a0dh
  obtain ⟨a0e, rfl, a0el, a0eh⟩ := cell_int Try.underlying22 (hc0 4 22 _ rfl rfl)
  have a0el : (0 : Int) ≤ a0e := a0el
  have a0eh : a0e ≤ (4294967295 : Int) := a0eh
  obtain ⟨a0f, rfl, a0fl, a0fh⟩ := cell_int Try.underlying22 (hc0 5 22 _ rfl rfl)
  have a0fl : (0 : Int) ≤ a0f := a0fl
  have a0fh : a0f ≤ (4294967295 : Int) := a0fh
  obtain ⟨b0g, rfl⟩ := cell_bool Try.underlying4 (hc0 6 4 _ rfl rfl)
  obtain ⟨b0i, rfl⟩ := cell_bool Try.underlying4 (hc0 7 4 _ rfl rfl)
  obtain ⟨b0j, rfl⟩ := cell_bool Try.underlying4 (hc0 8 4 _ rfl rfl)
  obtain ⟨b0k, rfl⟩ := cell_bool Try.underlying4 (hc0 9 4 _ rfl rfl)
  obtain ⟨a0m, rfl, a0ml, a0mh⟩ := cell_int Try.underlying3 (hc0 10 3 _ rfl rfl)
  have a0ml : (-9223372036854775808 : Int) ≤ a0m := a0ml
  have a0mh : a0m ≤ (9223372036854775807 : Int) := a0mh
  obtain ⟨a0n, rfl, a0nl, a0nh⟩ := cell_int Try.underlying3 (hc0 11 3 _ rfl rfl)
  have a0nl : (-9223372036854775808 : Int) ≤ a0n := a0nl
  have a0nh : a0n ≤ (9223372036854775807 : Int) := a0nh
  obtain ⟨s0o, rfl, s0oh⟩ := cell_string Try.underlying9 (hc0 12 9 _ rfl rfl)
  clear hc0 hl0
  obtain ⟨a1, rfl, a1l, a1h⟩ := cell_int Try.underlying22 (val_cell_int Try.underlying22 (hval 1 22 v1 rfl rfl))
  have a1l : (0 : Int) ≤ a1 := a1l
  have a1h : a1 ≤ (4294967295 : Int) := a1h
  obtain ⟨a2, rfl, a2l, a2h⟩ := cell_int Try.underlying22 (val_cell_int Try.underlying22 (hval 2 22 v2 rfl rfl))
  have a2l : (0 : Int) ≤ a2 := a2l
  have a2h : a2 ≤ (4294967295 : Int) := a2h
  clear hA0 hval0
  refine (w_TcpEnds a0a a0b a0c a0d a0e a0f b0g b0i b0j b0k a0m a0n s0o a1 a2 W a0al a0ah a0bl a0bh a0cl a0ch a0dl a0dh a0el a0eh a0fl a0fh a0ml a0mh a0nl a0nh s0oh a1l a1h a2l a2h).mono fun e W' ⟨he, bel⟩ => ?_
  subst he
  exact ⟨_, rfl, _, _, _, [], _, [], hW', trodAll_mk1 (shut_bool Try.underlying4 _), (trodAll_cons_mk (Below.trod Kit.laidOut (by kernel_rfl) (of_decide_eq_true (by kernel_rfl)) h0 bel lt0) (trodAll_cons_mk (Below.trod Kit.laidOut (by kernel_rfl) (of_decide_eq_true (by kernel_rfl)) h1 bel lt1) (trodAll_cons_mk (Below.trod Kit.laidOut (by kernel_rfl) (of_decide_eq_true (by kernel_rfl)) h2 bel lt2) trodAll_mk0))), rfl, bel.frame _, fun h => by cases h⟩

theorem over : Rows.tcpEndsRow.holds Try.pinned (OpenSpec.ofChange Rows.tcpEndsSpec) :=
  OpenClaim.holds_of_wide 10 Try.f10 rfl rfl rfl rfl rfl rfl rfl ⟨rfl, rfl, rfl, rfl, rfl⟩ rfl rfl rfl rfl rfl (by kernel_rfl) Try.func10 (by kernel_rfl)
    (of_decide_eq_true (by kernel_rfl)) (by unfold Func.isWrapper; first | (rw [if_pos (by decide +kernel)]; kernel_rfl) | (rw [if_neg (by decide +kernel)]; exact ⟨rfl, rfl⟩))
    (fun os started H enc _ => lifted os started H enc)

theorem proved : Rows.TcpEndsSaid := over
#print axioms proved
end Go.Proofs.Ytpjcbjacdkobmaa.tcpEnds
