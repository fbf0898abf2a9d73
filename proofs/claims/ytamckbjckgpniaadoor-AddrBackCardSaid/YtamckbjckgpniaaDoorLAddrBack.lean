/- The law AddrBack of package packetboatkeep: for every input that fits the types (and the form's own reach) the call returns true, and each argument reads afterwards as it read before. The walk is in YtamckbjckgpniaaDoorWAddrBack. -/
import Derived.Test.YtamckbjckgpniaaDoorKit
import Derived.Test.YtamckbjckgpniaaDoorTabA
import Derived.Test.YtamckbjckgpniaaDoorTie
import Derived.Test.YtamckbjckgpniaaDoorCards
import Derived.SevenTiedAt
import Derived.Test.YtamckbjckgpniaaDoorWAddrBack
namespace Go.Proofs.YtamckbjckgpniaaDoor.addrBack
open Go.ChangeShapes Go.WideShapes Go.ChangeAt Go.RowKit
open Go.ChangeMaps (open_string)
set_option linter.unusedVariables false

set_option maxRecDepth 100000 in
theorem lifted (os : Os) (started : os.Started) (H : Type) (enc : TypeId × Value → H) :
    ReturnsInHanded {} Tryd.checked os 3 .any (fun w args => (Rows.addrBackSpec.pre enc Tryd.prog Tryd.f3 [] false w args ∧ laidMetH Tryd.prog laid1 w) ∧ sizedMet enc Tryd.prog Tryd.f3 (OpenSpec.ofChange Rows.addrBackSpec) false w args) (Rows.addrBackSpec.post enc Tryd.prog Tryd.f3 false true false false) := by
  refine returnsInHanded_of_change_and (C := Tryd.checked) (X := fun w _ => laidMetH Tryd.prog laid1 w) (fun _ _ _ hh h => h.of_heap hh) Kit.own started (by kernel_rfl) Tryd.func3
    (ChangeSpec.witness_shaped (enc := enc) (C := Tryd.checked) (os := os) (X := fun w _ => laidMetH Tryd.prog laid1 w) false (World.laidAll Tryd.prog os laid1) #[.int .u32 0, .agg #[.int .u32 0, .int .i64 0], .string ByteArray.empty] 8 (lay_os os) (lay_shaped os) (by kernel_rfl) (by kernel_rfl) (by kernel_rfl) (lay_met os _)) ?_
  intro W base args ds gs before hval0 hW _ hsz hL _
  have hval : ∀ (j : Nat) t v, Tryd.f3.params[j]? = some t → args[j]? = some v → Value.okWide Tryd.prog W .any base t v := hval0
  have hW' := hW
  obtain ⟨p, q, hA0, hV, rfl, hfz, hnd⟩ := hW
  have hA : DataW.TrodAll enc Tryd.prog W 0 (fun _ => true) true Tryd.f3.params.toList args.toList ds p := hA0
  rw [Tryd.params3] at hA hval
  obtain ⟨v0, vs0, d0, ds0, p0, q0, hargs, rfl, rfl, h0, r0⟩ := trodAll_cons hA
  obtain ⟨v1, vs1, d1, ds1, p1, q1, rfl, rfl, rfl, h1, r1⟩ := trodAll_cons r0
  obtain ⟨v2, vs2, d2, ds2, p2, q2, rfl, rfl, rfl, h2, r2⟩ := trodAll_cons r1
  obtain ⟨rfl, rfl, rfl⟩ := trodAll_nil r2
  obtain rfl : args = #[v0, v1, v2] := by cases args; simp_all
  obtain ⟨rfl, rfl⟩ := trodVars_none hV
  have lt0 : ∀ x ∈ p0, x.block < W.heap.size := by obtain ⟨m, hm⟩ := h0; exact DataW.trod_lt m _ _ _ hm
  have lt1 : ∀ x ∈ p1, x.block < W.heap.size := by obtain ⟨m, hm⟩ := h1; exact DataW.trod_lt m _ _ _ hm
  have lt2 : ∀ x ∈ p2, x.block < W.heap.size := by obtain ⟨m, hm⟩ := h2; exact DataW.trod_lt m _ _ _ hm
  obtain ⟨a0, rfl, a0l, a0h⟩ := cell_int Tryd.underlying22 (val_cell_int Tryd.underlying22 (hval 0 22 v0 rfl rfl))
  have a0l : (0 : Int) ≤ a0 := a0l
  have a0h : a0 ≤ (4294967295 : Int) := a0h
  obtain ⟨cs1, rfl, hl1, hc1⟩ := agg_cells (ts := [22, 3]) Tryd.underlying24 (by kernel_rfl) (by kernel_rfl) (hval 1 24 v1 rfl rfl)
  obtain ⟨c1_0, c1_1, rfl⟩ := list2 hl1
  obtain ⟨a1a, rfl, a1al, a1ah⟩ := cell_int Tryd.underlying22 (hc1 0 22 _ rfl rfl)
  have a1al : (0 : Int) ≤ a1a := a1al
  have a1ah : a1a ≤ (4294967295 : Int) := a1ah
  obtain ⟨a1b, rfl, a1bl, a1bh⟩ := cell_int Tryd.underlying3 (hc1 1 3 _ rfl rfl)
  have a1bl : (-9223372036854775808 : Int) ≤ a1b := a1bl
  have a1bh : a1b ≤ (9223372036854775807 : Int) := a1bh
  clear hc1 hl1
  obtain ⟨s2, rfl, rfl, -, -⟩ := open_string Tryd.underlying9 (hval 2 9 v2 rfl rfl) h2
  have s2h : s2.size ≤ 140737488351232 := by
    have := sized_string hsz (j := 2) (t := 9) (by rw [Tryd.params3]; rfl) rfl
    rw [Array.length_toList] at this
    exact this
  clear hA0 hval0
  refine (w_AddrBack a0 a1a a1b s2 W (tab_of_laid hL) a0l a0h a1al a1ah a1bl a1bh s2h).mono fun e W' ⟨he, bel⟩ => ?_
  subst he
  exact ⟨_, rfl, _, _, _, [], _, [], hW', trodAll_mk1 (shut_bool Tryd.underlying4 _), (trodAll_cons_mk (Below.trod Kit.laidOut (by kernel_rfl) (of_decide_eq_true (by kernel_rfl)) h0 bel lt0) (trodAll_cons_mk (Below.trod Kit.laidOut (by kernel_rfl) (of_decide_eq_true (by kernel_rfl)) h1 bel lt1) (trodAll_cons_mk (Below.trod Kit.laidOut (by kernel_rfl) (of_decide_eq_true (by kernel_rfl)) h2 bel lt2) trodAll_mk0))), rfl, bel.frame _, fun h => by cases h⟩

theorem over : Rows.addrBackRow.holds Tryd.pinned (OpenSpec.ofChange Rows.addrBackSpec) :=
  OpenClaim.holds_of_wide 3 Tryd.f3 rfl rfl rfl rfl rfl rfl rfl ⟨rfl, rfl, rfl, rfl, rfl⟩ rfl rfl rfl rfl rfl (by kernel_rfl) Tryd.func3 (by kernel_rfl)
    (of_decide_eq_true (by kernel_rfl)) (by unfold Func.isWrapper; first | (rw [if_pos (by decide +kernel)]; kernel_rfl) | (rw [if_neg (by decide +kernel)]; exact ⟨rfl, rfl⟩))
    (fun os started H enc _ => lifted os started H enc)

theorem proved : Rows.AddrBackCardSaid :=
  Claim7.holds_tied_plain_at .later [] [.data, .data, .data, .data, .sentinel, .sentinel, .pinned] true (true, "b9cf5a157f426a2e2523e2bdbcf0b597e6c754a9c104df6ce187870b4a66f98f") true
    over (fun _ h => by cases h) (by kernel_rfl) (fun _ h => by cases h) addrBack_row_tie rfl ⟨rfl, rfl⟩ (by kernel_rfl) rfl
    (fun f fn hf hfn => by
      obtain rfl : f = 3 := Option.some.inj ((show Tryd.prog.funcNamed "packetboat/packetboatkeep.AddrBack" = some 3 by kernel_rfl).symm.trans hf) |>.symm
      obtain rfl : fn = Tryd.f3 := (Option.some.inj (Tryd.func3.symm.trans hfn)).symm
      exact ⟨by kernel_rfl, fun j t ht => by
        rw [Tryd.params3] at ht
        have hm : t ∈ [22, 24, 9] := by simpa using Array.mem_of_getElem? ht
        have hall : ([22, 24, 9].all fun u => !Tryd.prog.wantsStandIn u) = true := by kernel_rfl
        exact (show Tryd.prog.wantsStandIn t = false by simpa using List.all_eq_true.1 hall t hm)⟩)
    (by kernel_rfl)
#print axioms proved
end Go.Proofs.YtamckbjckgpniaaDoor.addrBack
