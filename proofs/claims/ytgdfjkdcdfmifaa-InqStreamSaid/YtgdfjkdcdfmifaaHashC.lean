/- Contracts of the package hash. -/
import Derived.Test.YtgdfjkdcdfmifaaRest
import Derived.Laws.Bits64
import Derived.StillTailTactics
namespace Go.Proofs.Ytgdfjkdcdfmifaa
open Go.RowKit
set_option linter.unusedVariables false

theorem wp_join {P : Program} {c : Code} {K : Act → World → Prop} {Q : Exit → Act → World → Prop} {a : Act} {w : World} (R : World → Prop) (act : Act)
    (h1 : Code.wp P c (Exit.then (fun a' W => a' = act ∧ R W) Q) a w) (h2 : ∀ W, R W → Exit.then K Q .normal act W) : Code.wp P c (Exit.then K Q) a w :=
  Code.wp_mono (fun e a' W h => by
    cases e
    case normal => obtain ⟨ha, hr⟩ := h; subst ha; exact h2 W hr
    all_goals exact h) h1
/-- the same where the region ends the function -/
theorem wp_join_end {P : Program} {c : Code} {Q : Exit → Act → World → Prop} {a : Act} {w : World} (R : World → Prop) (act : Act)
    (h1 : Code.wp P c (Exit.then (fun a' W => a' = act ∧ R W) Q) a w) (h2 : ∀ W, R W → Q .normal act W) : Code.wp P c Q a w :=
  Code.wp_mono (fun e a' W h => by
    cases e
    case normal => obtain ⟨ha, hr⟩ := h; subst ha; exact h2 W hr
    all_goals exact h) h1
abbrev W64 (x : Int) : Prop := 0 ≤ x ∧ x ≤ 18446744073709551615
theorem wrap64 (n : Int) : W64 (IntKind.u64.wrap n) := by rw [IntKind.wrap_u64]; constructor <;> omega
/-- x turned left by k -/
def rotV (x k : Int) : Int := bits BinOp.or IntKind.u64 (IntKind.u64.wrap (x * 2 ^ k.toNat)) (x / 2 ^ (64 - k).toNat)
theorem bits64 (o : BinOp) (x y : Int) : W64 (bits o .u64 x y) := by unfold bits; exact wrap64 _
theorem rot64 (x k : Int) : W64 (rotV x k) := bits64 _ _ _
theorem Rot_any (x k : Int) (w : World) (hx : W64 x) (hk : 0 < k) (hk' : k < 64) (hb : bits .and .u64 k 63 = k) :
    Calls Try.prog 60 #[.int .u64 x, .int .i64 k] w fun e w' => e = .returned (.int .u64 (rotV x k)) ∧ w = w' := by
  obtain ⟨hx, hx'⟩ := hx
  go_enter Try.func60, Try.ntmps60
  go_wp2_with fail
  go_ret
  exact ⟨rfl, rfl⟩
abbrev addV (a b : Int) : Int := IntKind.u64.wrap (a + b)
abbrev xorV (a b : Int) : Int := bits .xor .u64 a b
structure S4 where
  a : Int
  b : Int
  c : Int
  d : Int
def S4.cells (s : S4) : List Value := [.int .u64 s.a, .int .u64 s.b, .int .u64 s.c, .int .u64 s.d]
def S4.ok (s : S4) : Prop := W64 s.a ∧ W64 s.b ∧ W64 s.c ∧ W64 s.d
def roundV (s : S4) : S4 :=
  let a := s.a
  let b := s.b
  let c := s.c
  let d := s.d
  let ax0 := addV a b
  let bx1 := xorV (rotV b 13) ax0
  let ax2 := rotV ax0 32
  let cx3 := addV c d
  let dx4 := xorV (rotV d 16) cx3
  let ax5 := addV ax2 dx4
  let dx6 := xorV (rotV dx4 21) ax5
  let cx7 := addV cx3 bx1
  let bx8 := xorV (rotV bx1 17) cx7
  let cx9 := rotV cx7 32
  ⟨ax5, bx8, cx9, dx6⟩
abbrev StAt (w : World) (g : Nat) (a b c d : Int) : Prop := At w g 115 [.int .u64 a, .int .u64 b, .int .u64 c, .int .u64 d]
def S4At (w : World) (g : Nat) (s : S4) : Prop := StAt w g s.a s.b s.c s.d
set_option maxRecDepth 100000 in
set_option maxHeartbeats 4000000 in
theorem Round_any (g : Nat) (s : S4) (w : World) (hS : S4At w g s) (hok : s.ok) :
    Calls Try.prog 55 #[.pointer (some ⟨g, 0, none⟩)] w fun e w' => e = .returned (.tuple #[]) ∧ S4At w' g (roundV s) ∧ (roundV s).ok ∧ w.grownBy w' (some g) := by
  obtain ⟨a, b, c, d⟩ := s
  obtain ⟨wa, wb, wc, wd⟩ := hok
  simp only at wa wb wc wd
  have hSw : StAt w g a b c d := hS
  clear hS
  have hOw := only_refl w (some g)
  go_enter Try.func55, Try.ntmps55
  have c0 := hSw.cell 0
  have z0 := hSw.free 0
  have c1 := hSw.cell 1
  have z1 := hSw.free 1
  have c2 := hSw.cell 2
  have z2 := hSw.free 2
  have c3 := hSw.cell 3
  have z3 := hSw.free 3
  have hlt := hSw.lt
  simp at c0 c1 c2 c3
  go_wp2_with fail
  go_region
  obtain ⟨ax0, eax0, wax0⟩ : ∃ v, addV a b = v ∧ W64 v := ⟨_, rfl, wrap64 _⟩
  refine ex_gen (fun W => StAt W g ax0 b c d ∧ w.grownBy W (some g)) ⟨?_, ?_⟩ ?_
  · rw [← eax0]; exact ((hSw.set_ 0 _).drew)
  · exact only_drew (only_set hOw (.inl rfl) _)
  rintro W0 ⟨hSW0, hOW0⟩
  clear c0 c1 c2 c3 z0 z1 z2 z3 hlt
  have c0 := hSW0.cell 0
  have z0 := hSW0.free 0
  have c1 := hSW0.cell 1
  have z1 := hSW0.free 1
  have c2 := hSW0.cell 2
  have z2 := hSW0.free 2
  have c3 := hSW0.cell 3
  have z3 := hSW0.free 3
  have hlt := hSW0.lt
  simp at c0 c1 c2 c3
  go_wp2_with fail
  apply wp_join (fun W => ∃ v, xorV (rotV b 13) ax0 = v ∧ W64 v ∧ StAt W g ax0 v c d ∧ w.grownBy W (some g))
  case h1 =>
    go_region_with (first | (go_at_call 60; refine (Rot_any _ 13 _ (by assumption) (by omega) (by omega) (by kernel_rfl)).mono ?_; rintro e w' ⟨rfl, rfl⟩))
    all_goals exact ⟨rfl, _, rfl, bits64 _ _ _, (hSW0.set_ 1 _).drew, only_drew (only_set hOW0 (.inl rfl) _)⟩
  rintro W1 ⟨bx1, ebx1, wbx1, hSW1, hOW1⟩
  clear c0 c1 c2 c3 z0 z1 z2 z3 hlt
  have c0 := hSW1.cell 0
  have z0 := hSW1.free 0
  have c1 := hSW1.cell 1
  have z1 := hSW1.free 1
  have c2 := hSW1.cell 2
  have z2 := hSW1.free 2
  have c3 := hSW1.cell 3
  have z3 := hSW1.free 3
  have hlt := hSW1.lt
  simp at c0 c1 c2 c3
  go_wp2_with fail
  apply wp_join (fun W => ∃ v, rotV ax0 32 = v ∧ W64 v ∧ StAt W g v bx1 c d ∧ w.grownBy W (some g))
  case h1 =>
    go_region_with (first | (go_at_call 60; refine (Rot_any _ 32 _ (by assumption) (by omega) (by omega) (by kernel_rfl)).mono ?_; rintro e w' ⟨rfl, rfl⟩))
    all_goals exact ⟨rfl, _, rfl, rot64 _ _, (hSW1.set_ 0 _).drew, only_drew (only_set hOW1 (.inl rfl) _)⟩
  rintro W2 ⟨ax2, eax2, wax2, hSW2, hOW2⟩
  clear c0 c1 c2 c3 z0 z1 z2 z3 hlt
  have c0 := hSW2.cell 0
  have z0 := hSW2.free 0
  have c1 := hSW2.cell 1
  have z1 := hSW2.free 1
  have c2 := hSW2.cell 2
  have z2 := hSW2.free 2
  have c3 := hSW2.cell 3
  have z3 := hSW2.free 3
  have hlt := hSW2.lt
  simp at c0 c1 c2 c3
  go_wp2_with fail
  go_region
  obtain ⟨cx3, ecx3, wcx3⟩ : ∃ v, addV c d = v ∧ W64 v := ⟨_, rfl, wrap64 _⟩
  refine ex_gen (fun W => StAt W g ax2 bx1 cx3 d ∧ w.grownBy W (some g)) ⟨?_, ?_⟩ ?_
  · rw [← ecx3]; exact ((hSW2.set_ 2 _).drew)
  · exact only_drew (only_set hOW2 (.inl rfl) _)
  rintro W3 ⟨hSW3, hOW3⟩
  clear c0 c1 c2 c3 z0 z1 z2 z3 hlt
  have c0 := hSW3.cell 0
  have z0 := hSW3.free 0
  have c1 := hSW3.cell 1
  have z1 := hSW3.free 1
  have c2 := hSW3.cell 2
  have z2 := hSW3.free 2
  have c3 := hSW3.cell 3
  have z3 := hSW3.free 3
  have hlt := hSW3.lt
  simp at c0 c1 c2 c3
  go_wp2_with fail
  apply wp_join (fun W => ∃ v, xorV (rotV d 16) cx3 = v ∧ W64 v ∧ StAt W g ax2 bx1 cx3 v ∧ w.grownBy W (some g))
  case h1 =>
    go_region_with (first | (go_at_call 60; refine (Rot_any _ 16 _ (by assumption) (by omega) (by omega) (by kernel_rfl)).mono ?_; rintro e w' ⟨rfl, rfl⟩))
    all_goals exact ⟨rfl, _, rfl, bits64 _ _ _, (hSW3.set_ 3 _).drew, only_drew (only_set hOW3 (.inl rfl) _)⟩
  rintro W4 ⟨dx4, edx4, wdx4, hSW4, hOW4⟩
  clear c0 c1 c2 c3 z0 z1 z2 z3 hlt
  have c0 := hSW4.cell 0
  have z0 := hSW4.free 0
  have c1 := hSW4.cell 1
  have z1 := hSW4.free 1
  have c2 := hSW4.cell 2
  have z2 := hSW4.free 2
  have c3 := hSW4.cell 3
  have z3 := hSW4.free 3
  have hlt := hSW4.lt
  simp at c0 c1 c2 c3
  go_wp2_with fail
  go_region
  obtain ⟨ax5, eax5, wax5⟩ : ∃ v, addV ax2 dx4 = v ∧ W64 v := ⟨_, rfl, wrap64 _⟩
  refine ex_gen (fun W => StAt W g ax5 bx1 cx3 dx4 ∧ w.grownBy W (some g)) ⟨?_, ?_⟩ ?_
  · rw [← eax5]; exact ((hSW4.set_ 0 _).drew)
  · exact only_drew (only_set hOW4 (.inl rfl) _)
  rintro W5 ⟨hSW5, hOW5⟩
  clear c0 c1 c2 c3 z0 z1 z2 z3 hlt
  have c0 := hSW5.cell 0
  have z0 := hSW5.free 0
  have c1 := hSW5.cell 1
  have z1 := hSW5.free 1
  have c2 := hSW5.cell 2
  have z2 := hSW5.free 2
  have c3 := hSW5.cell 3
  have z3 := hSW5.free 3
  have hlt := hSW5.lt
  simp at c0 c1 c2 c3
  go_wp2_with fail
  apply wp_join (fun W => ∃ v, xorV (rotV dx4 21) ax5 = v ∧ W64 v ∧ StAt W g ax5 bx1 cx3 v ∧ w.grownBy W (some g))
  case h1 =>
    go_region_with (first | (go_at_call 60; refine (Rot_any _ 21 _ (by assumption) (by omega) (by omega) (by kernel_rfl)).mono ?_; rintro e w' ⟨rfl, rfl⟩))
    all_goals exact ⟨rfl, _, rfl, bits64 _ _ _, (hSW5.set_ 3 _).drew, only_drew (only_set hOW5 (.inl rfl) _)⟩
  rintro W6 ⟨dx6, edx6, wdx6, hSW6, hOW6⟩
  clear c0 c1 c2 c3 z0 z1 z2 z3 hlt
  have c0 := hSW6.cell 0
  have z0 := hSW6.free 0
  have c1 := hSW6.cell 1
  have z1 := hSW6.free 1
  have c2 := hSW6.cell 2
  have z2 := hSW6.free 2
  have c3 := hSW6.cell 3
  have z3 := hSW6.free 3
  have hlt := hSW6.lt
  simp at c0 c1 c2 c3
  go_wp2_with fail
  go_region
  obtain ⟨cx7, ecx7, wcx7⟩ : ∃ v, addV cx3 bx1 = v ∧ W64 v := ⟨_, rfl, wrap64 _⟩
  refine ex_gen (fun W => StAt W g ax5 bx1 cx7 dx6 ∧ w.grownBy W (some g)) ⟨?_, ?_⟩ ?_
  · rw [← ecx7]; exact ((hSW6.set_ 2 _).drew)
  · exact only_drew (only_set hOW6 (.inl rfl) _)
  rintro W7 ⟨hSW7, hOW7⟩
  clear c0 c1 c2 c3 z0 z1 z2 z3 hlt
  have c0 := hSW7.cell 0
  have z0 := hSW7.free 0
  have c1 := hSW7.cell 1
  have z1 := hSW7.free 1
  have c2 := hSW7.cell 2
  have z2 := hSW7.free 2
  have c3 := hSW7.cell 3
  have z3 := hSW7.free 3
  have hlt := hSW7.lt
  simp at c0 c1 c2 c3
  go_wp2_with fail
  apply wp_join (fun W => ∃ v, xorV (rotV bx1 17) cx7 = v ∧ W64 v ∧ StAt W g ax5 v cx7 dx6 ∧ w.grownBy W (some g))
  case h1 =>
    go_region_with (first | (go_at_call 60; refine (Rot_any _ 17 _ (by assumption) (by omega) (by omega) (by kernel_rfl)).mono ?_; rintro e w' ⟨rfl, rfl⟩))
    all_goals exact ⟨rfl, _, rfl, bits64 _ _ _, (hSW7.set_ 1 _).drew, only_drew (only_set hOW7 (.inl rfl) _)⟩
  rintro W8 ⟨bx8, ebx8, wbx8, hSW8, hOW8⟩
  clear c0 c1 c2 c3 z0 z1 z2 z3 hlt
  have c0 := hSW8.cell 0
  have z0 := hSW8.free 0
  have c1 := hSW8.cell 1
  have z1 := hSW8.free 1
  have c2 := hSW8.cell 2
  have z2 := hSW8.free 2
  have c3 := hSW8.cell 3
  have z3 := hSW8.free 3
  have hlt := hSW8.lt
  simp at c0 c1 c2 c3
  go_wp2_with fail
  apply wp_join_end (fun W => ∃ v, rotV cx7 32 = v ∧ W64 v ∧ StAt W g ax5 bx8 v dx6 ∧ w.grownBy W (some g))
  case h1 =>
    go_region_with (first | (go_at_call 60; refine (Rot_any _ 32 _ (by assumption) (by omega) (by omega) (by kernel_rfl)).mono ?_; rintro e w' ⟨rfl, rfl⟩))
    all_goals exact ⟨rfl, _, rfl, rot64 _ _, (hSW8.set_ 2 _).drew, only_drew (only_set hOW8 (.inl rfl) _)⟩
  rintro W9 ⟨cx9, ecx9, wcx9, hSW9, hOW9⟩
  clear c0 c1 c2 c3 z0 z1 z2 z3 hlt
  go_end0
  subst ebx8 eax5 ecx9 edx6 ecx7 edx4 ecx3 eax2 ebx1 eax0
  exact ⟨rfl, hSW9, ⟨wax5, wbx8, wcx9, wdx6⟩, hOW9⟩
end Go.Proofs.Ytgdfjkdcdfmifaa
