/- Contracts of wire.Append16, Append32, over a slice of one's own. -/
import Derived.Test.YtmcdmgnpbhkdhaaWin
namespace Go.Proofs.Ytmcdmgnpbhkdhaa
open Go.RowKit
set_option linter.unusedVariables false

/-- grown, and what came of it grown again -/
theorem grown_two {w w1 w2 : World} {r1 r2 : Option Nat} (h1 : w.grownBy w1 r1) (h2 : w1.grownBy w2 r2) (h : r2 = r1 ∨ ∃ k, r2 = some k ∧ w.heap.size ≤ k) : w.grownBy w2 r1 :=
  ⟨h2.os.trans h1.os, h2.tape.trans h1.tape, h2.output.trans h1.output, Nat.le_trans h1.size h2.size, fun i hi hne => (h2.block i (Nat.lt_of_lt_of_le hi h1.size) (by
    rcases h with rfl | ⟨k, rfl, hk⟩
    · exact hne
    · intro e; injection e with e; omega)).trans (h1.block i hi hne)⟩
/-- a byte -/
def b8 (x : Int) : Value := .int .u8 (x % 256)
theorem b8_one (l : List Int) : ∀ u ∈ l.map b8, u.oneCell' = true := by
  intro u hu
  obtain ⟨x, _, rfl⟩ := List.mem_map.1 hu
  rfl
theorem elem_u8 : ∃ i z, Try.prog.info? 5 = some i ∧ i.zero = some z ∧ i.size = 1 ∧ i.bytes = 1 ∧ z.cells.size = 1 := elem_of (by kernel_rfl)
/-- bytes of one's own, in the slice v -/
abbrev OwnB (w : World) (base : Nat) (v : Value) (l : List Int) : Prop := Win w base 1 v l.length (l.map b8)
theorem nums_set (x y : Int) : [Value.int .u8 (x % 256), Value.int .u8 (y % 256)] = [x, y].map b8 := rfl
set_option maxRecDepth 100000 in
set_option maxHeartbeats 1000000 in
theorem Append16_any (base : Nat) (v : Value) (l : List Int) (n : Int) (w : World) (hV : OwnB w base v l) (hn : 0 ≤ n) (hn' : n ≤ 65535) (hl : l.length ≤ 140737488350000) (hb : base ≤ w.heap.size) :
    Calls Try.prog 57 #[v, .int .u16 n] w fun e w' => ∃ v', e = .returned v' ∧ OwnB w' base v' (l ++ [n / 256, n]) ∧ w.grownBy w' v.ownBlock ∧ (v'.ownBlock = v.ownBlock ∨ ∃ k, v'.ownBlock = some k ∧ w.heap.size ≤ k) := by
  obtain ⟨A, c, rfl⟩ := hV.form
  go_enter Try.func57, Try.ntmps57
  go_wp2_with (at_builtin; obtain ⟨iG, zG, iG0, iG1, iG2, iG3, iG4⟩ := elem_u8; refine wpList_append_win rfl _ _ 89 rfl base 5 iG zG 1 1 Try.underlying89 iG0 iG1 iG2 iG3 iG4 (by decide) _ l.length (l.map b8) rfl (hV.alloc _) ⟨w.heap.size, 0, none⟩ 2 2 ([n / 256, n].map b8) rfl rfl ?news ?one (by decide) ?mx ?byt ?ba ?_)
  case news => 
    have e : ([n / 256, n].map b8) = [.int .u8 (n / 256), .int .u8 (IntKind.u8.wrap n)] := by
      simp [b8]; constructor
      · omega
      · rw [IntKind.wrap_u8]
    rw [e]
    exact At.news (At.new_ w 5 _)
  case one => exact b8_one _
  case mx => simp only [maxLen]; omega
  case byt => omega
  case ba => simp; omega
  intro v7 w7 hV7 hO7 hat7
  go_wp2_with fail
  go_ret
  refine ⟨_, rfl, ?_, ?_, ?_⟩
  · unfold OwnB
    rw [List.map_append, List.length_append]
    exact hV7
  · exact only_trans (only_alloc (only_refl _ _) _) hO7
  · rcases hat7 with h | ⟨k, h, hk⟩
    · exact .inl h
    · exact .inr ⟨k, h, by omega⟩
set_option maxRecDepth 100000 in
set_option maxHeartbeats 1000000 in
theorem Append32_any (base : Nat) (v : Value) (l : List Int) (n : Int) (w : World) (hV : OwnB w base v l) (hn : 0 ≤ n) (hn' : n ≤ 4294967295) (hl : l.length ≤ 140737488340000) (hb : base ≤ w.heap.size) :
    Calls Try.prog 56 #[v, .int .u32 n] w fun e w' => ∃ v', e = .returned v' ∧ OwnB w' base v' (l ++ [n / 16777216, n / 65536, n % 65536 / 256, n % 65536]) ∧ Below base w w' ∧ w.grownBy w' v.ownBlock ∧ (v'.ownBlock = v.ownBlock ∨ ∃ k, v'.ownBlock = some k ∧ w.heap.size ≤ k) := by
  obtain ⟨A, c, rfl⟩ := hV.form
  go_enter Try.func56, Try.ntmps56
  go_wp2_with fail
  refine (Append16_any base _ l _ _ hV (by omega) (by omega) (by omega) hb).mono ?_
  rintro e w1 ⟨v1, rfl, hV1, hO1, hat1⟩
  have hB1 : Below base w w1 := (Below.refl base w).grown hO1 hb (fun j hj => (hV.lt j hj).1)
  go_wp2_with fail
  refine (Append16_any base _ _ _ _ hV1 (by first | omega | (rw [IntKind.wrap_u16]; omega)) (by first | omega | (rw [IntKind.wrap_u16]; omega)) (by simp; omega) (Nat.le_trans hb hB1.size)).mono ?_
  rintro e w2 ⟨v2, rfl, hV2, hO2, hat2⟩
  have hB2 : Below base w w2 := hB1.grown hO2 (Nat.le_trans hb hB1.size) (fun j hj => (hV1.lt j hj).1)
  go_wp2_with fail
  go_ret
  refine ⟨v2, rfl, ?_, hB2, grown_two hO1 hO2 hat1, ?_⟩
  · have e : ∀ (a b : Int) (x y : Int), x % 256 = a % 256 → y % 256 = b % 256 → OwnB w2 base v2 (l ++ [n / 65536 / 256, n / 65536] ++ [x, y]) → OwnB w2 base v2 (l ++ [n / 16777216, n / 65536, a, b]) := by
      intro a b x y h1 h2 h
      unfold OwnB at h ⊢
      simp [b8, h1, h2, Int.ediv_ediv] at h ⊢
      exact h
    refine e _ _ _ _ ?_ ?_ hV2 <;> (first | rfl | (rw [IntKind.wrap_u16]))
  · rcases hat2 with h | ⟨k, h, hk⟩
    · rw [h]
      rcases hat1 with h | ⟨k, h, hk⟩
      · exact .inl h
      · exact .inr ⟨k, h, hk⟩
    · exact .inr ⟨k, h, Nat.le_trans hB1.size hk⟩
end Go.Proofs.Ytmcdmgnpbhkdhaa
