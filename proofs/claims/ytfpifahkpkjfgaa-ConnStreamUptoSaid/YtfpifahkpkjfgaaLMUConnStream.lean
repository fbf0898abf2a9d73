/- The law ConnStream of package packetboatkeep: for every input that fits the types (and whose bulk is at most 1048576) the call returns true, and each argument reads afterwards as it read before. The walk is in YtfpifahkpkjfgaaWConnStream. -/
import Derived.Deep.CondSized
import Derived.JoinedCond
import Derived.Test.YtfpifahkpkjfgaaMZ
import Derived.Test.YtfpifahkpkjfgaaMUConnStream1
import Derived.Test.YtfpifahkpkjfgaaMUConnStream2
import Derived.Test.YtfpifahkpkjfgaaMUConnStream3
import Derived.Test.YtfpifahkpkjfgaaMUConnStream4
import Derived.Test.YtfpifahkpkjfgaaMUConnStream5
import Derived.Test.YtfpifahkpkjfgaaMUConnStream6
import Derived.Test.YtfpifahkpkjfgaaMUConnStream7
import Derived.Test.YtfpifahkpkjfgaaMUConnStream8
import Derived.Test.YtfpifahkpkjfgaaMUConnStream9
import Derived.Test.YtfpifahkpkjfgaaMUConnStream10
import Derived.Test.YtfpifahkpkjfgaaMUConnStream11
import Derived.Test.YtfpifahkpkjfgaaMUConnStream12
import Derived.Test.YtfpifahkpkjfgaaMUConnStream13
import Derived.Test.YtfpifahkpkjfgaaMUConnStream14
import Derived.Test.YtfpifahkpkjfgaaMUConnStream15
import Derived.Test.YtfpifahkpkjfgaaMUConnStream16
import Derived.Test.YtfpifahkpkjfgaaMUConnStream17
import Derived.Test.YtfpifahkpkjfgaaMUConnStream18
import Derived.Test.YtfpifahkpkjfgaaMUConnStream19
import Derived.Test.YtfpifahkpkjfgaaMUConnStream20
import Derived.Test.YtfpifahkpkjfgaaMUConnStream21
import Derived.Test.YtfpifahkpkjfgaaMUConnStream22
import Derived.Test.YtfpifahkpkjfgaaMUConnStream23
import Derived.Test.YtfpifahkpkjfgaaMUConnStream24
import Derived.Test.YtfpifahkpkjfgaaMUConnStream25
import Derived.Test.YtfpifahkpkjfgaaMUConnStream26
import Derived.Test.YtfpifahkpkjfgaaMUConnStream27
import Derived.Test.YtfpifahkpkjfgaaMUConnStream28
import Derived.Test.YtfpifahkpkjfgaaMUConnStream29
import Derived.Test.YtfpifahkpkjfgaaMUConnStream30
import Derived.Test.YtfpifahkpkjfgaaMUConnStream31
import Derived.Test.YtfpifahkpkjfgaaMUConnStream32
import Derived.Test.YtfpifahkpkjfgaaMUConnStream33
import Derived.Test.YtfpifahkpkjfgaaMUConnStream34
import Derived.Test.YtfpifahkpkjfgaaMUConnStream35
import Derived.Test.YtfpifahkpkjfgaaMUConnStream36
import Derived.Test.YtfpifahkpkjfgaaMUConnStream37
import Derived.Test.YtfpifahkpkjfgaaMUConnStream38
import Derived.Test.YtfpifahkpkjfgaaMUConnStream39
import Derived.Test.YtfpifahkpkjfgaaMUConnStream40
import Derived.Test.YtfpifahkpkjfgaaMUConnStream41
import Derived.Test.YtfpifahkpkjfgaaMUConnStream42
import Derived.Test.YtfpifahkpkjfgaaMUConnStream43
import Derived.Test.YtfpifahkpkjfgaaMUConnStream44
import Derived.Test.YtfpifahkpkjfgaaMUConnStream45
import Derived.Test.YtfpifahkpkjfgaaMUConnStream46
import Derived.Test.YtfpifahkpkjfgaaMUConnStream47
import Derived.Test.YtfpifahkpkjfgaaMUConnStream48
namespace Go.Proofs.Ytfpifahkpkjfgaa.connStream
open Go.ChangeShapes Go.WideShapes Go.ChangeAt Go.RowKit
open Go.ChangeMaps (open_string)
set_option linter.unusedVariables false

set_option maxRecDepth 100000 in
theorem lifted (os : Os) (started : os.Started) (H : Type) (enc : TypeId × Value → H) (F : Stop.Interp) :
    ReturnsInHanded {} Try.checked os 10 .any ((Rows.OpenSpec.upto Rows.connStreamSpec).pre6 enc Try.prog Try.f10 Rows.connStreamUptoRow.domain false) (((Rows.OpenSpec.upto Rows.connStreamSpec).at F).post enc Try.prog Try.f10 false true false false) := by
  refine returnsInHanded_of_cond_sized (C := Try.checked) (s := Rows.OpenSpec.upto Rows.connStreamSpec) (k := Rows.uptoSmall) rfl Kit.own started (by kernel_rfl) Try.func10
    (OpenSpec.witness (enc := enc) (C := Try.checked) (s := Rows.OpenSpec.upto Rows.connStreamSpec) (k := Rows.uptoSmall) rfl false ⟨#[], #[.int .u32 0, .int .u32 0, .int .i64 0, .int .i64 0, .slice none 0 0], []⟩ 16 (by kernel_rfl) (by kernel_rfl) (by kernel_rfl)
      (x := ([.lit (.int .u32 0), .lit (.int .u32 0), .lit (.int .i64 0), .lit (.int .i64 0), .nil], [], [])) (by kernel_rfl) rfl (by kernel_rfl)) ?_
  intro W base args ds gs before hval0 hW hcnd hk hsz _
  have hval : ∀ (j : Nat) t v, Try.f10.params[j]? = some t → args[j]? = some v → Value.okWide Try.prog W .any base t v := hval0
  have hW' := hW
  obtain ⟨p, q, hA0, hV, rfl, hfz, hnd⟩ := hW
  have hA : DataW.TrodAll enc Try.prog W 0 (fun _ => true) true Try.f10.params.toList args.toList ds p := hA0
  rw [Try.params10] at hA hval
  obtain ⟨v0, vs0, d0, ds0, p0, q0, hargs, rfl, rfl, h0, r0⟩ := trodAll_cons hA
  obtain ⟨v1, vs1, d1, ds1, p1, q1, rfl, rfl, rfl, h1, r1⟩ := trodAll_cons r0
  obtain ⟨v2, vs2, d2, ds2, p2, q2, rfl, rfl, rfl, h2, r2⟩ := trodAll_cons r1
  obtain ⟨v3, vs3, d3, ds3, p3, q3, rfl, rfl, rfl, h3, r3⟩ := trodAll_cons r2
  obtain ⟨v4, vs4, d4, ds4, p4, q4, rfl, rfl, rfl, h4, r4⟩ := trodAll_cons r3
  obtain ⟨rfl, rfl, rfl⟩ := trodAll_nil r4
  obtain rfl : args = #[v0, v1, v2, v3, v4] := by cases args; simp_all
  obtain ⟨rfl, rfl⟩ := trodVars_none hV
  have lt0 : ∀ x ∈ p0, x.block < W.heap.size := by obtain ⟨m, hm⟩ := h0; exact DataW.trod_lt m _ _ _ hm
  have lt1 : ∀ x ∈ p1, x.block < W.heap.size := by obtain ⟨m, hm⟩ := h1; exact DataW.trod_lt m _ _ _ hm
  have lt2 : ∀ x ∈ p2, x.block < W.heap.size := by obtain ⟨m, hm⟩ := h2; exact DataW.trod_lt m _ _ _ hm
  have lt3 : ∀ x ∈ p3, x.block < W.heap.size := by obtain ⟨m, hm⟩ := h3; exact DataW.trod_lt m _ _ _ hm
  have lt4 : ∀ x ∈ p4, x.block < W.heap.size := by obtain ⟨m, hm⟩ := h4; exact DataW.trod_lt m _ _ _ hm
  obtain ⟨a0, rfl, a0l, a0h⟩ := cell_int Try.underlying22 (val_cell_int Try.underlying22 (hval 0 22 v0 rfl rfl))
  have a0l : (0 : Int) ≤ a0 := a0l
  have a0h : a0 ≤ (4294967295 : Int) := a0h
  obtain ⟨a1, rfl, a1l, a1h⟩ := cell_int Try.underlying22 (val_cell_int Try.underlying22 (hval 1 22 v1 rfl rfl))
  have a1l : (0 : Int) ≤ a1 := a1l
  have a1h : a1 ≤ (4294967295 : Int) := a1h
  obtain ⟨a2, rfl, a2l, a2h⟩ := cell_int Try.underlying3 (val_cell_int Try.underlying3 (hval 2 3 v2 rfl rfl))
  have a2l : (-9223372036854775808 : Int) ≤ a2 := a2l
  have a2h : a2 ≤ (9223372036854775807 : Int) := a2h
  obtain ⟨a3, rfl, a3l, a3h⟩ := cell_int Try.underlying3 (val_cell_int Try.underlying3 (hval 3 3 v3 rfl rfl))
  have a3l : (-9223372036854775808 : Int) ≤ a3 := a3l
  have a3h : a3 ≤ (9223372036854775807 : Int) := a3h
  obtain ⟨A4, n4, c4, rfl⟩ := okWide_slice Try.underlying60 (hval 4 60 v4 rfl rfl)
  obtain ⟨css4, hR4, hL4⟩ := rows_open2 (ks := ksStep) Try.underlying60 (by kernel_rfl) (fun _ _ _ hh hs => ok_Step hh hs) (hval 4 60 _ rfl rfl) h4 (small_of hsz (j := 4) (t := 60) (by rw [Try.params10]; rfl) rfl)
  have hb4 : n4 ≤ 1048576 ∧ ∀ k, k ≤ n4 → sumS css4 k ≤ 1048576 := by
    rcases hL4 with h | ⟨el, sp, rfl, rfl, hx⟩
    · subst h
      exact ⟨Nat.zero_le _, fun k hk0 => by
        have e : k = 0 := Nat.le_zero.1 hk0
        subst e
        exact Nat.zero_le _⟩
    · refine rows_bulk (sp := sp) hx ?_ hk
      simp
  clear hA0 hval0
  refine (w_ConnStream a0 a1 a2 a3 A4 n4 c4 css4 W a0l a0h a1l a1h a2l a2h a3l a3h hR4 hb4.1 hb4.2).mono fun e W' ⟨he, bel⟩ => ?_
  subst he
  exact ⟨_, rfl, _, _, _, [], _, [], hW', trodAll_mk1 (shut_bool Try.underlying4 _), (trodAll_cons_mk (Below.trod Kit.laidOut (by kernel_rfl) (of_decide_eq_true (by kernel_rfl)) h0 bel lt0) (trodAll_cons_mk (Below.trod Kit.laidOut (by kernel_rfl) (of_decide_eq_true (by kernel_rfl)) h1 bel lt1) (trodAll_cons_mk (Below.trod Kit.laidOut (by kernel_rfl) (of_decide_eq_true (by kernel_rfl)) h2 bel lt2) (trodAll_cons_mk (Below.trod Kit.laidOut (by kernel_rfl) (of_decide_eq_true (by kernel_rfl)) h3 bel lt3) (trodAll_cons_mk (Below.trod Kit.laidOut (by kernel_rfl) (of_decide_eq_true (by kernel_rfl)) h4 bel lt4) trodAll_mk0))))), rfl, bel.frame _, fun h => by cases h⟩

theorem over : Rows.connStreamUptoRow.holds Try.pinned (Rows.OpenSpec.upto Rows.connStreamSpec) :=
  OpenClaim.holds_of_cond 10 Try.f10 rfl rfl rfl rfl rfl rfl rfl ⟨rfl, rfl, rfl, rfl, rfl⟩ rfl rfl rfl rfl rfl (by kernel_rfl) Try.func10 (by kernel_rfl)
    (of_decide_eq_true (by kernel_rfl)) (by unfold Func.isWrapper; first | (rw [if_pos (by decide +kernel)]; kernel_rfl) | (rw [if_neg (by decide +kernel)]; exact ⟨rfl, rfl⟩))
    (fun os started H enc _ F => lifted os started H enc F)

theorem proved : Rows.ConnStreamUptoSaid := over
#print axioms proved
end Go.Proofs.Ytfpifahkpkjfgaa.connStream
