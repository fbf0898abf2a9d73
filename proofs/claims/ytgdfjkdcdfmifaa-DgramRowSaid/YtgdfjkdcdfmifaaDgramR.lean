/- A Queue of datagrams that holds just this row. -/
import Derived.Test.YtgdfjkdcdfmifaaDgramQ
import Derived.Test.YtgdfjkdcdfmifaaStep
import Derived.Test.YtgdfjkdcdfmifaaWin
namespace Go.Proofs.Ytgdfjkdcdfmifaa
open Go.RowKit
set_option linter.unusedVariables false

/-- the queue g holds row, lost were lost -/
def QRow (w : World) (g : Nat) (row : List Gm) (lost : Int) : Prop :=
  ∃ Rs f, QueueAt w g Rs f row.length lost ∧ Rs.length = 16 ∧ RingIs Rs f row ∧ ∀ x ∈ row, x.b.size ≤ 9223372036854775807
section
variable {w w' : World} {g : Nat} {row : List Gm} {lost : Int}
theorem QRow.lt (h : QRow w g row lost) : g < w.heap.size := let ⟨_, _, hQ, _⟩ := h; hQ.lt
theorem QRow.kept (h : QRow w g row lost) (hb : Below w.heap.size w w') : QRow w' g row lost := let ⟨Rs, f, hQ, hr⟩ := h; ⟨Rs, f, hQ.kept hb, hr⟩
theorem QRow.grown {r : Option Nat} (h : QRow w g row lost) (hb : w.grownBy w' r) (hne : some g ≠ r) : QRow w' g row lost := let ⟨Rs, f, hQ, hr⟩ := h; ⟨Rs, f, At.grown hQ hb hne, hr⟩
theorem QRow.le (h : QRow w g row lost) : row.length ≤ 16 := let ⟨_, _, _, hl, hr, _⟩ := h; hl ▸ hr.2.1
end
theorem dgNew_row (w : World) : Calls Try.prog 21 #[] w fun e w' => e = .returned (.pointer (some ⟨w.heap.size, 0, none⟩)) ∧ QRow w' w.heap.size [] 0 ∧ Below w.heap.size w w' :=
  (dgNew_any w).mono fun e w' ⟨he, hQ, hB⟩ => ⟨he, ⟨_, _, hQ, rfl, ⟨by simp, by simp, by simp⟩, by simp⟩, hB⟩
theorem Waits_row (g : Nat) (row : List Gm) (lost : Int) (w : World) (h : QRow w g row lost) :
    Calls Try.prog 23 #[.pointer (some ⟨g, 0, none⟩)] w fun e w' => e = .returned (.int .i64 row.length) ∧ w = w' := by
  obtain ⟨Rs, f, hQ, hl, _⟩ := h
  exact Waits_any g Rs f row.length lost w hQ hl
theorem Lost_row (g : Nat) (row : List Gm) (lost : Int) (w : World) (h : QRow w g row lost) :
    Calls Try.prog 25 #[.pointer (some ⟨g, 0, none⟩)] w fun e w' => e = .returned (.int .i64 lost) ∧ w = w' := by
  obtain ⟨Rs, f, hQ, hl, _⟩ := h
  exact Lost_is g Rs f row.length lost w hQ hl
theorem Put_row_no (g : Nat) (row : List Gm) (lost : Int) (x : Gm) (w : World) (h : QRow w g row lost) (hn : row.length = 16) (h1 : 0 ≤ lost) (h2 : lost ≤ 4611686018427387904) :
    Calls Try.prog 22 #[.pointer (some ⟨g, 0, none⟩), .agg (gcells x).toArray] w fun e w' => e = .returned (.bool false) ∧ QRow w' g row (lost + 1) ∧ w.grownBy w' (some g) := by
  obtain ⟨Rs, f, hQ, hl, hr, hs⟩ := h
  rw [hn] at hQ
  exact (Put_no g Rs f lost x w hQ hl h1 h2).mono fun e w' ⟨he, hQ', hO⟩ => ⟨he, ⟨Rs, f, by rw [hn]; exact hQ', hl, hr, hs⟩, hO⟩
theorem Put_row_yes (g : Nat) (row : List Gm) (lost : Int) (x : Gm) (w : World) (h : QRow w g row lost) (hn : row.length < 16) (hx : x.b.size ≤ 9223372036854775807) :
    Calls Try.prog 22 #[.pointer (some ⟨g, 0, none⟩), .agg (gcells x).toArray] w fun e w' => e = .returned (.bool true) ∧ QRow w' g (row ++ [x]) lost ∧ w.grownBy w' (some g) := by
  obtain ⟨Rs, f, hQ, hl, hr, hs⟩ := h
  exact (Put_yes g Rs f row.length lost x w hQ hl (hl ▸ hr.1) hn).mono fun e w' ⟨he, hQ', hO⟩ => ⟨he, ⟨_, f, by simpa using hQ', by simpa using hl, by have := ring_put hr (by omega) x; rwa [hl] at this, fun y hy => by
    rcases List.mem_append.1 hy with hy | hy
    · exact hs y hy
    · simp at hy; subst hy; exact hx⟩, hO⟩
theorem Take_row_no (g : Nat) (lost most : Int) (w : World) (h : QRow w g [] lost) :
    Calls Try.prog 24 #[.pointer (some ⟨g, 0, none⟩), .int .i64 most] w fun e w' => e = .returned (.tuple #[gval zeroG, .int .i64 0, .bool false]) ∧ Below w.heap.size w w' := by
  obtain ⟨Rs, f, hQ, hl, hr, hs⟩ := h
  exact Take_no g Rs f lost most w hQ hl
theorem Take_row_yes (g : Nat) (x : Gm) (row : List Gm) (lost most : Int) (w : World) (h : QRow w g (x :: row) lost) (hm1 : -9223372036854775808 ≤ most) (hm2 : most ≤ 9223372036854775807) :
    Calls Try.prog 24 #[.pointer (some ⟨g, 0, none⟩), .int .i64 most] w fun e w' => e = .returned (.tuple #[gval (cutG x most), .int .i64 x.b.size, .bool true]) ∧ QRow w' g row lost ∧ w.grownBy w' (some g) := by
  have hle := h.le
  obtain ⟨Rs, f, hQ, hl, hr, hs⟩ := h
  exact (Take_yes g Rs f (row.length + 1) lost most x w hQ hl (hl ▸ hr.1) (ring_head hr) (by omega) (by simpa using hle) hm1 hm2 (hs x (by simp))).mono fun e w' ⟨he, hQ', hO⟩ =>
    ⟨he, ⟨_, _, by simpa using hQ', by simpa using hl, by have := ring_take hr zeroG; rwa [hl] at this, fun y hy => hs y (by simp [hy])⟩, hO⟩
theorem elem_Gram : ∃ i z, Try.prog.info? 36 = some i ∧ i.zero = some z ∧ i.size = 5 ∧ i.bytes = 48 ∧ z.cells.size = 5 := elem_of (by kernel_rfl)
theorem gcells_one (x : Gm) : ∀ u ∈ gcells x, u.oneCell' = true := by
  intro u hu
  simp [gcells] at hu
  rcases hu with rfl | rfl | rfl | rfl | rfl <;> rfl
theorem cut_is (x : Gm) (most : Int) : ∃ K : Nat, cutG x most = ⟨x.fa, x.fp, x.ta, x.tp, x.b.extract 0 K⟩ ∧ K ≤ x.b.size ∧ (K : Int) = (if (if 0 < most then most else 0) < (x.b.size : Int) then (if 0 < most then most else 0) else (x.b.size : Int)) := by
  refine ⟨_, rfl, ?_, ?_⟩ <;> (repeat' split) <;> omega
/-- the datagram of a step -/
theorem step_gram {cs : List Value} (h : okAll ksStep cs) : ∃ x : Gm, (∀ j u, (gcells x)[j]? = some u → cs[29 + j]? = some u) ∧ x.b.size ≤ 9223372036854775807 := by
  obtain ⟨v0, h0, fa, rfl, _⟩ := okAll_at 29 h (k := .int .u32) rfl
  obtain ⟨v1, h1, fp, rfl, _⟩ := okAll_at 30 h (k := .int .i64) rfl
  obtain ⟨v2, h2, ta, rfl, _⟩ := okAll_at 31 h (k := .int .u32) rfl
  obtain ⟨v3, h3, tp, rfl, _⟩ := okAll_at 32 h (k := .int .i64) rfl
  obtain ⟨v4, h4, b, rfl, hb⟩ := okAll_at 33 h (k := .str) rfl
  refine ⟨⟨fa, fp, ta, tp, b⟩, fun j u hj => ?_, hb⟩
  match j, hj with
  | 0, hj => rw [h0, ← hj]; rfl
  | 1, hj => rw [h1, ← hj]; rfl
  | 2, hj => rw [h2, ← hj]; rfl
  | 3, hj => rw [h3, ← hj]; rfl
  | 4, hj => rw [h4, ← hj]; rfl
  | j + 5, hj => simp [gcells] at hj
end Go.Proofs.Ytgdfjkdcdfmifaa
