/- A Queue of datagrams that is well, whatever lies in it: what Put and Take do to it. -/
import Derived.Test.YtgdfjkdcdfmifaaDgramC
import Derived.Test.YtgdfjkdcdfmifaaStr
namespace Go.Proofs.Ytgdfjkdcdfmifaa
open Go.RowKit
set_option linter.unusedVariables false

theorem At.range {w : World} {g : Nat} {t : TypeId} {cs : List Value} (h : At w g t cs) : w.rangeAt g 0 cs := fun j v hj => by rw [Nat.zero_add, h.cell, hj]
theorem gram_of {cs : List Value} (h : okAll ksGram cs) : ∃ x : Gm, cs = gcells x ∧ x.b.size ≤ 9223372036854775807 := by
  obtain ⟨v0, v1, v2, v3, v4, rfl⟩ := list5 (okAll_len h)
  obtain ⟨⟨fa, h0, _⟩, ⟨fp, h1, _⟩, ⟨ta, h2, _⟩, ⟨tp, h3, _⟩, ⟨b, h4, hb⟩, _⟩ := h
  refine ⟨⟨fa, fp, ta, tp, b⟩, ?_, hb⟩
  rw [h0, h1, h2, h3, h4]
  rfl

/-- n wait, lost were lost -/
def QGood (w : World) (g n : Nat) (lost : Int) : Prop :=
  ∃ Rs f, QueueAt w g Rs f n lost ∧ Rs.length = 16 ∧ f < 16 ∧ n ≤ 16 ∧ ∀ (i : Nat) (x : Gm), Rs[i]? = some x → x.b.size ≤ 9223372036854775807
theorem QGood.lt {w g n lost} (h : QGood w g n lost) : g < w.heap.size := let ⟨_, _, hQ, _⟩ := h; hQ.lt
theorem QGood.kept {w w' : World} {g n lost} (h : QGood w g n lost) (hb : Below w.heap.size w w') : QGood w' g n lost :=
  let ⟨Rs, f, hQ, hr⟩ := h; ⟨Rs, f, hQ.kept hb, hr⟩
theorem QGood.le {w g n lost} (h : QGood w g n lost) : n ≤ 16 := let ⟨_, _, _, _, _, h, _⟩ := h; h

theorem dgNew_good (w : World) : Calls Try.prog 21 #[] w fun e w' => e = .returned (.pointer (some ⟨w.heap.size, 0, none⟩)) ∧ QGood w' w.heap.size 0 0 ∧ Below w.heap.size w w' :=
  (dgNew_any w).mono fun e w' ⟨he, hQ, hB⟩ => ⟨he, ⟨_, _, hQ, rfl, by omega, by omega, fun i x hx => by
    rw [List.getElem?_replicate] at hx
    split at hx
    · cases hx; exact Nat.zero_le _
    · cases hx⟩, hB⟩
theorem Waits_good (g n : Nat) (lost : Int) (w : World) (h : QGood w g n lost) :
    Calls Try.prog 23 #[.pointer (some ⟨g, 0, none⟩)] w fun e w' => e = .returned (.int .i64 n) ∧ w = w' := by
  obtain ⟨Rs, f, hQ, hl, _⟩ := h
  exact Waits_any g Rs f n lost w hQ hl
theorem Put_full (g : Nat) (lost : Int) (x : Gm) (w : World) (h : QGood w g 16 lost) (h1 : 0 ≤ lost) (h2 : lost ≤ 4611686018427387904) :
    Calls Try.prog 22 #[.pointer (some ⟨g, 0, none⟩), .agg (gcells x).toArray] w fun e w' => e = .returned (.bool false) ∧ QGood w' g 16 (lost + 1) ∧ w.grownBy w' (some g) := by
  obtain ⟨Rs, f, hQ, hl, hf, hn, hs⟩ := h
  exact (Put_no g Rs f lost x w hQ hl h1 h2).mono fun e w' ⟨he, hQ', hO⟩ => ⟨he, ⟨Rs, f, hQ', hl, hf, hn, hs⟩, hO⟩
theorem Put_room (g n : Nat) (lost : Int) (x : Gm) (w : World) (h : QGood w g n lost) (hn : n < 16) (hx : x.b.size ≤ 9223372036854775807) :
    Calls Try.prog 22 #[.pointer (some ⟨g, 0, none⟩), .agg (gcells x).toArray] w fun e w' => e = .returned (.bool true) ∧ QGood w' g (n + 1) lost ∧ w.grownBy w' (some g) := by
  obtain ⟨Rs, f, hQ, hl, hf, _, hs⟩ := h
  exact (Put_yes g Rs f n lost x w hQ hl hf hn).mono fun e w' ⟨he, hQ', hO⟩ => ⟨he, ⟨_, f, hQ', by simpa using hl, hf, by omega, fun i y hy => by
    rw [List.getElem?_set] at hy
    split at hy
    · split at hy
      · cases hy; exact hx
      · cases hy
    · exact hs i y hy⟩, hO⟩
theorem Take_good (g n : Nat) (lost most : Int) (w : World) (h : QGood w g n lost) (hn : 0 < n) (hm1 : -9223372036854775808 ≤ most) (hm2 : most ≤ 9223372036854775807) :
    Calls Try.prog 24 #[.pointer (some ⟨g, 0, none⟩), .int .i64 most] w fun e w' => ∃ x k, e = .returned (.tuple #[gval x, .int .i64 k, .bool true]) ∧ QGood w' g (n - 1) lost ∧ w.grownBy w' (some g) := by
  obtain ⟨Rs, f, hQ, hl, hf, hn', hs⟩ := h
  have hx : Rs[f]? = some Rs[f] := List.getElem?_eq_getElem (by omega)
  exact (Take_yes g Rs f n lost most Rs[f] w hQ hl hf hx hn hn' hm1 hm2 (hs f _ hx)).mono fun e w' ⟨he, hQ', hO⟩ => ⟨_, _, he, ⟨_, _, hQ', by simpa using hl, by omega, by omega, fun i y hy => by
    rw [List.getElem?_set] at hy
    split at hy
    · split at hy
      · cases hy; exact Nat.zero_le _
      · cases hy
    · exact hs i y hy⟩, hO⟩
end Go.Proofs.Ytgdfjkdcdfmifaa
