/- The law FragWhole of package packetboatkeep: for every input that fits the types (and the form's own reach) the call returns true, and each argument reads afterwards as it read before. The walk is in YtmcdmgnpbhkdhaaWFragWhole. -/
import Derived.Test.YtmcdmgnpbhkdhaaDat
import Derived.Test.YtmcdmgnpbhkdhaaKit
import Derived.Test.YtmcdmgnpbhkdhaaWFragWhole
namespace Go.Proofs.Ytmcdmgnpbhkdhaa.fragWhole
open Go.ChangeShapes Go.WideShapes Go.ChangeAt Go.RowKit
open Go.ChangeMaps (open_string)
set_option linter.unusedVariables false

set_option maxRecDepth 100000 in
theorem lifted (os : Os) (started : os.Started) (H : Type) (enc : TypeId × Value → H) :
    ReturnsInHanded {} Try.checked os 10 .any (Rows.fragWholeSpec.pre6 enc Try.prog Try.f10 Rows.fragWholeRow.domain false) (Rows.fragWholeSpec.post enc Try.prog Try.f10 false true false false) := by
  refine returnsInHanded_of_change_sized (C := Try.checked) Kit.own started (by kernel_rfl) Try.func10
    (ChangeSpec.witness6 (enc := enc) (C := Try.checked) false ⟨#[], #[.agg #[.int .u32 0, .int .u32 0, .int .i64 0, .int .i64 0, .int .i64 0, .bool false, .bool false, .int .i64 0, .string ByteArray.empty], .agg #[.int .u32 0, .int .u32 0, .int .i64 0, .int .i64 0, .int .i64 0, .bool false, .bool false, .int .i64 0, .string ByteArray.empty], .int .i64 0, .slice none 0 0], []⟩ 16 (by kernel_rfl) (by kernel_rfl) (by kernel_rfl) (by kernel_rfl)) ?_
  intro W base args ds gs before hval0 hW hcnd hsz _
  have hval : ∀ (j : Nat) t v, Try.f10.params[j]? = some t → args[j]? = some v → Value.okWide Try.prog W .any base t v := hval0
  have hW' := hW
  obtain ⟨p, q, hA0, hV, rfl, hfz, hnd⟩ := hW
  have hA : DataW.TrodAll enc Try.prog W 0 (fun _ => true) true Try.f10.params.toList args.toList ds p := hA0
  rw [Try.params10] at hA hval
  obtain ⟨v0, vs0, d0, ds0, p0, q0, hargs, rfl, rfl, h0, r0⟩ := trodAll_cons hA
  obtain ⟨v1, vs1, d1, ds1, p1, q1, rfl, rfl, rfl, h1, r1⟩ := trodAll_cons r0
  obtain ⟨v2, vs2, d2, ds2, p2, q2, rfl, rfl, rfl, h2, r2⟩ := trodAll_cons r1
  obtain ⟨v3, vs3, d3, ds3, p3, q3, rfl, rfl, rfl, h3, r3⟩ := trodAll_cons r2
  obtain ⟨rfl, rfl, rfl⟩ := trodAll_nil r3
  obtain rfl : args = #[v0, v1, v2, v3] := by cases args; simp_all
  obtain ⟨rfl, rfl⟩ := trodVars_none hV
  have lt0 : ∀ x ∈ p0, x.block < W.heap.size := by obtain ⟨m, hm⟩ := h0; exact DataW.trod_lt m _ _ _ hm
  have lt1 : ∀ x ∈ p1, x.block < W.heap.size := by obtain ⟨m, hm⟩ := h1; exact DataW.trod_lt m _ _ _ hm
  have lt2 : ∀ x ∈ p2, x.block < W.heap.size := by obtain ⟨m, hm⟩ := h2; exact DataW.trod_lt m _ _ _ hm
  have lt3 : ∀ x ∈ p3, x.block < W.heap.size := by obtain ⟨m, hm⟩ := h3; exact DataW.trod_lt m _ _ _ hm
  obtain ⟨cs0, rfl, hl0, hc0⟩ := agg_cells (ts := [36, 36, 3, 3, 3, 4, 4, 3, 9]) Try.underlying40 (by kernel_rfl) (by kernel_rfl) (hval 0 40 v0 rfl rfl)
  obtain ⟨c0_0, c0_1, c0_2, c0_3, c0_4, c0_5, c0_6, c0_7, c0_8, rfl⟩ := list9 hl0
  obtain ⟨a0a, rfl, a0al, a0ah⟩ := cell_int Try.underlying36 (hc0 0 36 _ rfl rfl)
  have a0al : (0 : Int) ≤ a0a := a0al
  have a0ah : a0a ≤ (4294967295 : Int) := a0ah
  obtain ⟨a0b, rfl, a0bl, a0bh⟩ := cell_int Try.underlying36 (hc0 1 36 _ rfl rfl)
  have a0bl : (0 : Int) ≤ a0b := a0bl
  have a0bh : a0b ≤ (4294967295 : Int) := a0bh
  obtain ⟨a0c, rfl, a0cl, a0ch⟩ := cell_int Try.underlying3 (hc0 2 3 _ rfl rfl)
  have a0cl : (-9223372036854775808 : Int) ≤ a0c := a0cl
  have a0ch : a0c ≤ (9223372036854775807 : Int) := a0ch
  obtain ⟨a0d, rfl, a0dl, a0dh⟩ := cell_int Try.underlying3 (hc0 3 3 _ rfl rfl)
  have a0dl : (-9223372036854775808 : Int) ≤ a0d := a0dl
  have a0dh : a0d ≤ (9223372036854775807 : Int) := a0dh
  obtain ⟨a0e, rfl, a0el, a0eh⟩ := cell_int Try.underlying3 (hc0 4 3 _ rfl rfl)
  have a0el : (-9223372036854775808 : Int) ≤ a0e := a0el
  have a0eh : a0e ≤ (9223372036854775807 : Int) := a0eh
  obtain ⟨b0f, rfl⟩ := cell_bool Try.underlying4 (hc0 5 4 _ rfl rfl)
  obtain ⟨b0g, rfl⟩ := cell_bool Try.underlying4 (hc0 6 4 _ rfl rfl)
  obtain ⟨a0i, rfl, a0il, a0ih⟩ := cell_int Try.underlying3 (hc0 7 3 _ rfl rfl)
  have a0il : (-9223372036854775808 : Int) ≤ a0i := a0il
  have a0ih : a0i ≤ (9223372036854775807 : Int) := a0ih
  obtain ⟨s0j, rfl, s0jh⟩ := cell_string Try.underlying9 (hc0 8 9 _ rfl rfl)
  clear hc0 hl0
  obtain ⟨cs1, rfl, hl1, hc1⟩ := agg_cells (ts := [36, 36, 3, 3, 3, 4, 4, 3, 9]) Try.underlying40 (by kernel_rfl) (by kernel_rfl) (hval 1 40 v1 rfl rfl)
  obtain ⟨c1_0, c1_1, c1_2, c1_3, c1_4, c1_5, c1_6, c1_7, c1_8, rfl⟩ := list9 hl1
  obtain ⟨a1a, rfl, a1al, a1ah⟩ := cell_int Try.underlying36 (hc1 0 36 _ rfl rfl)
  have a1al : (0 : Int) ≤ a1a := a1al
  have a1ah : a1a ≤ (4294967295 : Int) := a1ah
  obtain ⟨a1b, rfl, a1bl, a1bh⟩ := cell_int Try.underlying36 (hc1 1 36 _ rfl rfl)
  have a1bl : (0 : Int) ≤ a1b := a1bl
  have a1bh : a1b ≤ (4294967295 : Int) := a1bh
  obtain ⟨a1c, rfl, a1cl, a1ch⟩ := cell_int Try.underlying3 (hc1 2 3 _ rfl rfl)
  have a1cl : (-9223372036854775808 : Int) ≤ a1c := a1cl
  have a1ch : a1c ≤ (9223372036854775807 : Int) := a1ch
  obtain ⟨a1d, rfl, a1dl, a1dh⟩ := cell_int Try.underlying3 (hc1 3 3 _ rfl rfl)
  have a1dl : (-9223372036854775808 : Int) ≤ a1d := a1dl
  have a1dh : a1d ≤ (9223372036854775807 : Int) := a1dh
  obtain ⟨a1e, rfl, a1el, a1eh⟩ := cell_int Try.underlying3 (hc1 4 3 _ rfl rfl)
  have a1el : (-9223372036854775808 : Int) ≤ a1e := a1el
  have a1eh : a1e ≤ (9223372036854775807 : Int) := a1eh
  obtain ⟨b1f, rfl⟩ := cell_bool Try.underlying4 (hc1 5 4 _ rfl rfl)
  obtain ⟨b1g, rfl⟩ := cell_bool Try.underlying4 (hc1 6 4 _ rfl rfl)
  obtain ⟨a1i, rfl, a1il, a1ih⟩ := cell_int Try.underlying3 (hc1 7 3 _ rfl rfl)
  have a1il : (-9223372036854775808 : Int) ≤ a1i := a1il
  have a1ih : a1i ≤ (9223372036854775807 : Int) := a1ih
  obtain ⟨s1j, rfl, s1jh⟩ := cell_string Try.underlying9 (hc1 8 9 _ rfl rfl)
  clear hc1 hl1
  obtain ⟨a2, rfl, a2l, a2h⟩ := cell_int Try.underlying3 (val_cell_int Try.underlying3 (hval 2 3 v2 rfl rfl))
  have a2l : (-9223372036854775808 : Int) ≤ a2 := a2l
  have a2h : a2 ≤ (9223372036854775807 : Int) := a2h
  obtain ⟨A3, n3, c3, rfl⟩ := okWide_slice Try.underlying23 (hval 3 23 v3 rfl rfl)
  obtain ⟨⟨css3, hR3⟩, hL3⟩ := rows_open (ks := [.int .i64]) Try.underlying23 (by kernel_rfl) (fun _ _ _ hh _ => trod_ok_int Try.underlying3 hh) (hval 3 23 _ rfl rfl) h3 (small_of hsz (j := 3) (t := 23) (by rw [Try.params10]; rfl) rfl)
  have hl3 : n3 ≤ 140737488351232 := by
    rcases hL3 with ⟨h, _⟩ | ⟨el, sp, rfl, rfl⟩
    · rw [h]; exact Nat.zero_le _
    · have hz := sized_slice hsz (j := 3) (t := 23) (by rw [Try.params10]; rfl) rfl Try.underlying23
      have hb : Nat.ble 1 (Try.prog.bytesOf 3) = true := by kernel_rfl
      have hb' := Nat.le_of_ble_eq_true hb
      exact Nat.le_trans (Nat.le_trans (Nat.le_add_right _ sp.length) (Nat.le_mul_of_pos_right _ hb')) hz
  clear hA0 hval0
  refine (w_FragWhole a0a a0b a0c a0d a0e b0f b0g a0i s0j a1a a1b a1c a1d a1e b1f b1g a1i s1j a2 A3 n3 c3 css3 W a0al a0ah a0bl a0bh a0cl a0ch a0dl a0dh a0el a0eh a0il a0ih s0jh a1al a1ah a1bl a1bh a1cl a1ch a1dl a1dh a1el a1eh a1il a1ih s1jh a2l a2h hR3 hl3).mono fun e W' ⟨he, bel⟩ => ?_
  subst he
  exact ⟨_, rfl, _, _, _, [], _, [], hW', trodAll_mk1 (shut_bool Try.underlying4 _), (trodAll_cons_mk (Below.trod Kit.laidOut (by kernel_rfl) (of_decide_eq_true (by kernel_rfl)) h0 bel lt0) (trodAll_cons_mk (Below.trod Kit.laidOut (by kernel_rfl) (of_decide_eq_true (by kernel_rfl)) h1 bel lt1) (trodAll_cons_mk (Below.trod Kit.laidOut (by kernel_rfl) (of_decide_eq_true (by kernel_rfl)) h2 bel lt2) (trodAll_cons_mk (Below.trod Kit.laidOut (by kernel_rfl) (of_decide_eq_true (by kernel_rfl)) h3 bel lt3) trodAll_mk0)))), rfl, bel.frame _, fun h => by cases h⟩

theorem over : Rows.fragWholeRow.holds Try.pinned (OpenSpec.ofChange Rows.fragWholeSpec) :=
  OpenClaim.holds_of_wide 10 Try.f10 rfl rfl rfl rfl rfl rfl rfl ⟨rfl, rfl, rfl, rfl, rfl⟩ rfl rfl rfl rfl rfl (by kernel_rfl) Try.func10 (by kernel_rfl)
    (of_decide_eq_true (by kernel_rfl)) (by unfold Func.isWrapper; first | (rw [if_pos (by decide +kernel)]; kernel_rfl) | (rw [if_neg (by decide +kernel)]; exact ⟨rfl, rfl⟩))
    (fun os started H enc _ => lifted os started H enc)

theorem proved : Rows.FragWholeSaid := over
#print axioms proved
end Go.Proofs.Ytmcdmgnpbhkdhaa.fragWhole
