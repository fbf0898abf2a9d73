/- The law OwnTables of package packetboatkeep: for every input that fits the types (and the form's own reach) the call returns true, and each argument reads afterwards as it read before. The walk is in YtppjmhkecogbcaaWOwnTables. -/
import Derived.Test.YtppjmhkecogbcaaDat
import Derived.Test.YtppjmhkecogbcaaStr
import Derived.Test.YtppjmhkecogbcaaKit
import Derived.Test.YtppjmhkecogbcaaWOwnTables
namespace Go.Proofs.Ytppjmhkecogbcaa.ownTables
open Go.ChangeShapes Go.WideShapes Go.ChangeAt Go.RowKit
open Go.ChangeMaps (open_string)
set_option linter.unusedVariables false

set_option maxRecDepth 100000 in
theorem lifted (os : Os) (started : os.Started) (H : Type) (enc : TypeId × Value → H) :
    ReturnsInHanded {} Try.checked os 3 .any (Rows.ownTablesSpec.pre6 enc Try.prog Try.f3 Rows.ownTablesRow.domain false) (Rows.ownTablesSpec.post enc Try.prog Try.f3 false true false false) := by
  refine returnsInHanded_of_change_sized (C := Try.checked) Kit.own started (by kernel_rfl) Try.func3
    (ChangeSpec.witness6 (enc := enc) (C := Try.checked) false ⟨#[], #[.slice none 0 0, .int .u32 0], []⟩ 16 (by kernel_rfl) (by kernel_rfl) (by kernel_rfl) (by kernel_rfl)) ?_
  intro W base args ds gs before hval0 hW hcnd hsz _
  have hval : ∀ (j : Nat) t v, Try.f3.params[j]? = some t → args[j]? = some v → Value.okWide Try.prog W .any base t v := hval0
  have hW' := hW
  obtain ⟨p, q, hA0, hV, rfl, hfz, hnd⟩ := hW
  have hA : DataW.TrodAll enc Try.prog W 0 (fun _ => true) true Try.f3.params.toList args.toList ds p := hA0
  rw [Try.params3] at hA hval
  obtain ⟨v0, vs0, d0, ds0, p0, q0, hargs, rfl, rfl, h0, r0⟩ := trodAll_cons hA
  obtain ⟨v1, vs1, d1, ds1, p1, q1, rfl, rfl, rfl, h1, r1⟩ := trodAll_cons r0
  obtain ⟨rfl, rfl, rfl⟩ := trodAll_nil r1
  obtain rfl : args = #[v0, v1] := by cases args; simp_all
  obtain ⟨rfl, rfl⟩ := trodVars_none hV
  have lt0 : ∀ x ∈ p0, x.block < W.heap.size := by obtain ⟨m, hm⟩ := h0; exact DataW.trod_lt m _ _ _ hm
  have lt1 : ∀ x ∈ p1, x.block < W.heap.size := by obtain ⟨m, hm⟩ := h1; exact DataW.trod_lt m _ _ _ hm
  obtain ⟨A0, n0, c0, rfl⟩ := okWide_slice Try.underlying22 (hval 0 22 v0 rfl rfl)
  obtain ⟨⟨css0, hR0⟩, hL0⟩ := rows_open (ks := ksStep) Try.underlying22 (by kernel_rfl) (fun _ _ _ hh hs => ok_Step hh hs) (hval 0 22 _ rfl rfl) h0 (small_of hsz (j := 0) (t := 22) (by rw [Try.params3]; rfl) rfl)
  have hl0 : n0 ≤ 140737488351232 := by
    rcases hL0 with ⟨h, _⟩ | ⟨el, sp, rfl, rfl⟩
    · rw [h]; exact Nat.zero_le _
    · have hz := sized_slice hsz (j := 0) (t := 22) (by rw [Try.params3]; rfl) rfl Try.underlying22
      have hb : Nat.ble 1 (Try.prog.bytesOf 56) = true := by kernel_rfl
      have hb' := Nat.le_of_ble_eq_true hb
      exact Nat.le_trans (Nat.le_trans (Nat.le_add_right _ sp.length) (Nat.le_mul_of_pos_right _ hb')) hz
  obtain ⟨a1, rfl, a1l, a1h⟩ := cell_int Try.underlying23 (val_cell_int Try.underlying23 (hval 1 23 v1 rfl rfl))
  have a1l : (0 : Int) ≤ a1 := a1l
  have a1h : a1 ≤ (4294967295 : Int) := a1h
  clear hA0 hval0
  refine (w_OwnTables A0 n0 c0 css0 a1 W hR0 hl0 a1l a1h).mono fun e W' ⟨he, bel⟩ => ?_
  subst he
  exact ⟨_, rfl, _, _, _, [], _, [], hW', trodAll_mk1 (shut_bool Try.underlying4 _), (trodAll_cons_mk (Below.trod Kit.laidOut (by kernel_rfl) (of_decide_eq_true (by kernel_rfl)) h0 bel lt0) (trodAll_cons_mk (Below.trod Kit.laidOut (by kernel_rfl) (of_decide_eq_true (by kernel_rfl)) h1 bel lt1) trodAll_mk0)), rfl, bel.frame _, fun h => by cases h⟩

theorem over : Rows.ownTablesRow.holds Try.pinned (OpenSpec.ofChange Rows.ownTablesSpec) :=
  OpenClaim.holds_of_wide 3 Try.f3 rfl rfl rfl rfl rfl rfl rfl ⟨rfl, rfl, rfl, rfl, rfl⟩ rfl rfl rfl rfl rfl (by kernel_rfl) Try.func3 (by kernel_rfl)
    (of_decide_eq_true (by kernel_rfl)) (by unfold Func.isWrapper; first | (rw [if_pos (by decide +kernel)]; kernel_rfl) | (rw [if_neg (by decide +kernel)]; exact ⟨rfl, rfl⟩))
    (fun os started H enc _ => lifted os started H enc)

theorem proved : Rows.OwnTablesSaid := over
#print axioms proved
end Go.Proofs.Ytppjmhkecogbcaa.ownTables
