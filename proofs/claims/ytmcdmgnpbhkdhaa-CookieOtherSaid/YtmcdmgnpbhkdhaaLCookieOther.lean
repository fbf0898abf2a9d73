/- The law CookieOther of package packetboatkeep: for every input that fits the types (and the form's own reach) the call returns true, and each argument reads afterwards as it read before. The walk is in YtmcdmgnpbhkdhaaWCookieOther. -/
import Derived.Test.YtmcdmgnpbhkdhaaKit
import Derived.Test.YtmcdmgnpbhkdhaaWCookieOther
namespace Go.Proofs.Ytmcdmgnpbhkdhaa.cookieOther
open Go.ChangeShapes Go.WideShapes Go.ChangeAt Go.RowKit
open Go.ChangeMaps (open_string)
set_option linter.unusedVariables false

set_option maxRecDepth 100000 in
theorem lifted (os : Os) (started : os.Started) (H : Type) (enc : TypeId × Value → H) :
    ReturnsInHanded {} Try.checked os 8 .any (Rows.cookieOtherSpec.pre6 enc Try.prog Try.f8 Rows.cookieOtherRow.domain false) (Rows.cookieOtherSpec.post enc Try.prog Try.f8 false true false false) := by
  refine returnsInHanded_of_change_sized (C := Try.checked) Kit.own started (by kernel_rfl) Try.func8
    (ChangeSpec.witness6 (enc := enc) (C := Try.checked) false ⟨#[], #[.int .u64 0, .int .u64 0, .agg #[.int .u32 0, .int .i64 0], .agg #[.int .u32 0, .int .i64 0], .int .u32 0, .int .i64 0, .int .i64 0, .int .i64 0], []⟩ 16 (by kernel_rfl) (by kernel_rfl) (by kernel_rfl) (by kernel_rfl)) ?_
  intro W base args ds gs before hval0 hW hcnd hsz _
  have hval : ∀ (j : Nat) t v, Try.f8.params[j]? = some t → args[j]? = some v → Value.okWide Try.prog W .any base t v := hval0
  have hW' := hW
  obtain ⟨p, q, hA0, hV, rfl, hfz, hnd⟩ := hW
  have hA : DataW.TrodAll enc Try.prog W 0 (fun _ => true) true Try.f8.params.toList args.toList ds p := hA0
  rw [Try.params8] at hA hval
  obtain ⟨v0, vs0, d0, ds0, p0, q0, hargs, rfl, rfl, h0, r0⟩ := trodAll_cons hA
  obtain ⟨v1, vs1, d1, ds1, p1, q1, rfl, rfl, rfl, h1, r1⟩ := trodAll_cons r0
  obtain ⟨v2, vs2, d2, ds2, p2, q2, rfl, rfl, rfl, h2, r2⟩ := trodAll_cons r1
  obtain ⟨v3, vs3, d3, ds3, p3, q3, rfl, rfl, rfl, h3, r3⟩ := trodAll_cons r2
  obtain ⟨v4, vs4, d4, ds4, p4, q4, rfl, rfl, rfl, h4, r4⟩ := trodAll_cons r3
  obtain ⟨v5, vs5, d5, ds5, p5, q5, rfl, rfl, rfl, h5, r5⟩ := trodAll_cons r4
  obtain ⟨v6, vs6, d6, ds6, p6, q6, rfl, rfl, rfl, h6, r6⟩ := trodAll_cons r5
  obtain ⟨v7, vs7, d7, ds7, p7, q7, rfl, rfl, rfl, h7, r7⟩ := trodAll_cons r6
  obtain ⟨rfl, rfl, rfl⟩ := trodAll_nil r7
  obtain rfl : args = #[v0, v1, v2, v3, v4, v5, v6, v7] := by cases args; simp_all
  obtain ⟨rfl, rfl⟩ := trodVars_none hV
  have lt0 : ∀ x ∈ p0, x.block < W.heap.size := by obtain ⟨m, hm⟩ := h0; exact DataW.trod_lt m _ _ _ hm
  have lt1 : ∀ x ∈ p1, x.block < W.heap.size := by obtain ⟨m, hm⟩ := h1; exact DataW.trod_lt m _ _ _ hm
  have lt2 : ∀ x ∈ p2, x.block < W.heap.size := by obtain ⟨m, hm⟩ := h2; exact DataW.trod_lt m _ _ _ hm
  have lt3 : ∀ x ∈ p3, x.block < W.heap.size := by obtain ⟨m, hm⟩ := h3; exact DataW.trod_lt m _ _ _ hm
  have lt4 : ∀ x ∈ p4, x.block < W.heap.size := by obtain ⟨m, hm⟩ := h4; exact DataW.trod_lt m _ _ _ hm
  have lt5 : ∀ x ∈ p5, x.block < W.heap.size := by obtain ⟨m, hm⟩ := h5; exact DataW.trod_lt m _ _ _ hm
  have lt6 : ∀ x ∈ p6, x.block < W.heap.size := by obtain ⟨m, hm⟩ := h6; exact DataW.trod_lt m _ _ _ hm
  have lt7 : ∀ x ∈ p7, x.block < W.heap.size := by obtain ⟨m, hm⟩ := h7; exact DataW.trod_lt m _ _ _ hm
  obtain ⟨a0, rfl, a0l, a0h⟩ := cell_int Try.underlying67 (val_cell_int Try.underlying67 (hval 0 67 v0 rfl rfl))
  have a0l : (0 : Int) ≤ a0 := a0l
  have a0h : a0 ≤ (18446744073709551615 : Int) := a0h
  obtain ⟨a1, rfl, a1l, a1h⟩ := cell_int Try.underlying67 (val_cell_int Try.underlying67 (hval 1 67 v1 rfl rfl))
  have a1l : (0 : Int) ≤ a1 := a1l
  have a1h : a1 ≤ (18446744073709551615 : Int) := a1h
  obtain ⟨cs2, rfl, hl2, hc2⟩ := agg_cells (ts := [36, 3]) Try.underlying42 (by kernel_rfl) (by kernel_rfl) (hval 2 42 v2 rfl rfl)
  obtain ⟨c2_0, c2_1, rfl⟩ := list2 hl2
  obtain ⟨a2a, rfl, a2al, a2ah⟩ := cell_int Try.underlying36 (hc2 0 36 _ rfl rfl)
  have a2al : (0 : Int) ≤ a2a := a2al
  have a2ah : a2a ≤ (4294967295 : Int) := a2ah
  obtain ⟨a2b, rfl, a2bl, a2bh⟩ := cell_int Try.underlying3 (hc2 1 3 _ rfl rfl)
  have a2bl : (-9223372036854775808 : Int) ≤ a2b := a2bl
  have a2bh : a2b ≤ (9223372036854775807 : Int) := a2bh
  clear hc2 hl2
  obtain ⟨cs3, rfl, hl3, hc3⟩ := agg_cells (ts := [36, 3]) Try.underlying42 (by kernel_rfl) (by kernel_rfl) (hval 3 42 v3 rfl rfl)
  obtain ⟨c3_0, c3_1, rfl⟩ := list2 hl3
  obtain ⟨a3a, rfl, a3al, a3ah⟩ := cell_int Try.underlying36 (hc3 0 36 _ rfl rfl)
  have a3al : (0 : Int) ≤ a3a := a3al
  have a3ah : a3a ≤ (4294967295 : Int) := a3ah
  obtain ⟨a3b, rfl, a3bl, a3bh⟩ := cell_int Try.underlying3 (hc3 1 3 _ rfl rfl)
  have a3bl : (-9223372036854775808 : Int) ≤ a3b := a3bl
  have a3bh : a3b ≤ (9223372036854775807 : Int) := a3bh
  clear hc3 hl3
  obtain ⟨a4, rfl, a4l, a4h⟩ := cell_int Try.underlying36 (val_cell_int Try.underlying36 (hval 4 36 v4 rfl rfl))
  have a4l : (0 : Int) ≤ a4 := a4l
  have a4h : a4 ≤ (4294967295 : Int) := a4h
  obtain ⟨a5, rfl, a5l, a5h⟩ := cell_int Try.underlying3 (val_cell_int Try.underlying3 (hval 5 3 v5 rfl rfl))
  have a5l : (-9223372036854775808 : Int) ≤ a5 := a5l
  have a5h : a5 ≤ (9223372036854775807 : Int) := a5h
  obtain ⟨a6, rfl, a6l, a6h⟩ := cell_int Try.underlying3 (val_cell_int Try.underlying3 (hval 6 3 v6 rfl rfl))
  have a6l : (-9223372036854775808 : Int) ≤ a6 := a6l
  have a6h : a6 ≤ (9223372036854775807 : Int) := a6h
  obtain ⟨a7, rfl, a7l, a7h⟩ := cell_int Try.underlying3 (val_cell_int Try.underlying3 (hval 7 3 v7 rfl rfl))
  have a7l : (-9223372036854775808 : Int) ≤ a7 := a7l
  have a7h : a7 ≤ (9223372036854775807 : Int) := a7h
  clear hA0 hval0
  refine (w_CookieOther a0 a1 a2a a2b a3a a3b a4 a5 a6 a7 W a0l a0h a1l a1h a2al a2ah a2bl a2bh a3al a3ah a3bl a3bh a4l a4h a5l a5h a6l a6h a7l a7h).mono fun e W' ⟨he, bel⟩ => ?_
  subst he
  exact ⟨_, rfl, _, _, _, [], _, [], hW', trodAll_mk1 (shut_bool Try.underlying4 _), (trodAll_cons_mk (Below.trod Kit.laidOut (by kernel_rfl) (of_decide_eq_true (by kernel_rfl)) h0 bel lt0) (trodAll_cons_mk (Below.trod Kit.laidOut (by kernel_rfl) (of_decide_eq_true (by kernel_rfl)) h1 bel lt1) (trodAll_cons_mk (Below.trod Kit.laidOut (by kernel_rfl) (of_decide_eq_true (by kernel_rfl)) h2 bel lt2) (trodAll_cons_mk (Below.trod Kit.laidOut (by kernel_rfl) (of_decide_eq_true (by kernel_rfl)) h3 bel lt3) (trodAll_cons_mk (Below.trod Kit.laidOut (by kernel_rfl) (of_decide_eq_true (by kernel_rfl)) h4 bel lt4) (trodAll_cons_mk (Below.trod Kit.laidOut (by kernel_rfl) (of_decide_eq_true (by kernel_rfl)) h5 bel lt5) (trodAll_cons_mk (Below.trod Kit.laidOut (by kernel_rfl) (of_decide_eq_true (by kernel_rfl)) h6 bel lt6) (trodAll_cons_mk (Below.trod Kit.laidOut (by kernel_rfl) (of_decide_eq_true (by kernel_rfl)) h7 bel lt7) trodAll_mk0)))))))), rfl, bel.frame _, fun h => by cases h⟩

theorem over : Rows.cookieOtherRow.holds Try.pinned (OpenSpec.ofChange Rows.cookieOtherSpec) :=
  OpenClaim.holds_of_wide 8 Try.f8 rfl rfl rfl rfl rfl rfl rfl ⟨rfl, rfl, rfl, rfl, rfl⟩ rfl rfl rfl rfl rfl (by kernel_rfl) Try.func8 (by kernel_rfl)
    (of_decide_eq_true (by kernel_rfl)) (by unfold Func.isWrapper; first | (rw [if_pos (by decide +kernel)]; kernel_rfl) | (rw [if_neg (by decide +kernel)]; exact ⟨rfl, rfl⟩))
    (fun os started H enc _ => lifted os started H enc)

theorem proved : Rows.CookieOtherSaid := over
#print axioms proved
end Go.Proofs.Ytmcdmgnpbhkdhaa.cookieOther
