/- The law InqStream of package packetboatkeep: for every input that fits the types (and the form's own reach) the call returns true, and each argument reads afterwards as it read before. The walk is in YtgdfjkdcdfmifaaWInqStream. -/
import Derived.Test.YtgdfjkdcdfmifaaDat
import Derived.Test.YtgdfjkdcdfmifaaStr
import Derived.Test.YtgdfjkdcdfmifaaKit
import Derived.Test.YtgdfjkdcdfmifaaWInqStream
namespace Go.Proofs.Ytgdfjkdcdfmifaa.inqStream
open Go.ChangeShapes Go.WideShapes Go.ChangeAt Go.RowKit
open Go.ChangeMaps (open_string)
set_option linter.unusedVariables false

set_option maxRecDepth 100000 in
theorem lifted (os : Os) (started : os.Started) (H : Type) (enc : TypeId × Value → H) :
    ReturnsInHanded {} Try.checked os 10 .any (Rows.inqStreamSpec.pre6 enc Try.prog Try.f10 Rows.inqStreamRow.domain false) (Rows.inqStreamSpec.post enc Try.prog Try.f10 false true false false) := by
  refine returnsInHanded_of_change_sized (C := Try.checked) Kit.own started (by kernel_rfl) Try.func10
    (ChangeSpec.witness6 (enc := enc) (C := Try.checked) false ⟨#[], #[.string ByteArray.empty, .slice none 0 0, .bool false], []⟩ 16 (by kernel_rfl) (by kernel_rfl) (by kernel_rfl) (by kernel_rfl)) ?_
  intro W base args ds gs before hval0 hW hcnd hsz _
  have hval : ∀ (j : Nat) t v, Try.f10.params[j]? = some t → args[j]? = some v → Value.okWide Try.prog W .any base t v := hval0
  have hW' := hW
  obtain ⟨p, q, hA0, hV, rfl, hfz, hnd⟩ := hW
  have hA : DataW.TrodAll enc Try.prog W 0 (fun _ => true) true Try.f10.params.toList args.toList ds p := hA0
  rw [Try.params10] at hA hval
  obtain ⟨v0, vs0, d0, ds0, p0, q0, hargs, rfl, rfl, h0, r0⟩ := trodAll_cons hA
  obtain ⟨v1, vs1, d1, ds1, p1, q1, rfl, rfl, rfl, h1, r1⟩ := trodAll_cons r0
  obtain ⟨v2, vs2, d2, ds2, p2, q2, rfl, rfl, rfl, h2, r2⟩ := trodAll_cons r1
  obtain ⟨rfl, rfl, rfl⟩ := trodAll_nil r2
  obtain rfl : args = #[v0, v1, v2] := by cases args; simp_all
  obtain ⟨rfl, rfl⟩ := trodVars_none hV
  have lt0 : ∀ x ∈ p0, x.block < W.heap.size := by obtain ⟨m, hm⟩ := h0; exact DataW.trod_lt m _ _ _ hm
  have lt1 : ∀ x ∈ p1, x.block < W.heap.size := by obtain ⟨m, hm⟩ := h1; exact DataW.trod_lt m _ _ _ hm
  have lt2 : ∀ x ∈ p2, x.block < W.heap.size := by obtain ⟨m, hm⟩ := h2; exact DataW.trod_lt m _ _ _ hm
  obtain ⟨s0, rfl, rfl, -, -⟩ := open_string Try.underlying9 (hval 0 9 v0 rfl rfl) h0
  have s0h : s0.size ≤ 140737488351232 := by
    have := sized_string hsz (j := 0) (t := 9) (by rw [Try.params10]; rfl) rfl
    rw [Array.length_toList] at this
    exact this
  obtain ⟨A1, n1, c1, rfl⟩ := okWide_slice Try.underlying22 (hval 1 22 v1 rfl rfl)
  obtain ⟨⟨css1, hR1⟩, hL1⟩ := rows_open (ks := ksStep) Try.underlying22 (by kernel_rfl) (fun _ _ _ hh hs => ok_Step hh hs) (hval 1 22 _ rfl rfl) h1 (small_of hsz (j := 1) (t := 22) (by rw [Try.params10]; rfl) rfl)
  have hl1 : n1 ≤ 140737488351232 := by
    rcases hL1 with ⟨h, _⟩ | ⟨el, sp, rfl, rfl⟩
    · rw [h]; exact Nat.zero_le _
    · have hz := sized_slice hsz (j := 1) (t := 22) (by rw [Try.params10]; rfl) rfl Try.underlying22
      have hb : Nat.ble 1 (Try.prog.bytesOf 40) = true := by kernel_rfl
      have hb' := Nat.le_of_ble_eq_true hb
      exact Nat.le_trans (Nat.le_trans (Nat.le_add_right _ sp.length) (Nat.le_mul_of_pos_right _ hb')) hz
  obtain ⟨b2, rfl⟩ := cell_bool Try.underlying4 (val_cell_bool Try.underlying4 (hval 2 4 v2 rfl rfl))
  clear hA0 hval0
  refine (w_InqStream s0 A1 n1 c1 css1 b2 W s0h hR1 hl1).mono fun e W' ⟨he, bel⟩ => ?_
  subst he
  exact ⟨_, rfl, _, _, _, [], _, [], hW', trodAll_mk1 (shut_bool Try.underlying4 _), (trodAll_cons_mk (Below.trod Kit.laidOut (by kernel_rfl) (of_decide_eq_true (by kernel_rfl)) h0 bel lt0) (trodAll_cons_mk (Below.trod Kit.laidOut (by kernel_rfl) (of_decide_eq_true (by kernel_rfl)) h1 bel lt1) (trodAll_cons_mk (Below.trod Kit.laidOut (by kernel_rfl) (of_decide_eq_true (by kernel_rfl)) h2 bel lt2) trodAll_mk0))), rfl, bel.frame _, fun h => by cases h⟩

theorem over : Rows.inqStreamRow.holds Try.pinned (OpenSpec.ofChange Rows.inqStreamSpec) :=
  OpenClaim.holds_of_wide 10 Try.f10 rfl rfl rfl rfl rfl rfl rfl ⟨rfl, rfl, rfl, rfl, rfl⟩ rfl rfl rfl rfl rfl (by kernel_rfl) Try.func10 (by kernel_rfl)
    (of_decide_eq_true (by kernel_rfl)) (by unfold Func.isWrapper; first | (rw [if_pos (by decide +kernel)]; kernel_rfl) | (rw [if_neg (by decide +kernel)]; exact ⟨rfl, rfl⟩))
    (fun os started H enc _ => lifted os started H enc)

theorem proved : Rows.InqStreamSaid := over
#print axioms proved
end Go.Proofs.Ytgdfjkdcdfmifaa.inqStream
