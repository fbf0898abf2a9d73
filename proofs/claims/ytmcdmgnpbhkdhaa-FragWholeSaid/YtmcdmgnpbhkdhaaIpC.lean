/- Contracts of the package ip: outside, Check, Write. -/
import Derived.Test.YtmcdmgnpbhkdhaaCodC
import Derived.Test.YtmcdmgnpbhkdhaaQTail
import Derived.Outline
namespace Go.Proofs.Ytmcdmgnpbhkdhaa
open Go.RowKit
set_option linter.unusedVariables false

structure Pk where
  s : Int
  d : Int
  pr : Int
  tl : Int
  id : Int
  df : Bool
  mf : Bool
  off : Int
  b : ByteArray
def pkC (p : Pk) : List Value := [.int .u32 p.s, .int .u32 p.d, .int .i64 p.pr, .int .i64 p.tl, .int .i64 p.id, .bool p.df, .bool p.mf, .int .i64 p.off, .string p.b]
abbrev I64 (n : Int) : Prop := -9223372036854775808 ≤ n ∧ n ≤ 9223372036854775807
abbrev U32 (n : Int) : Prop := 0 ≤ n ∧ n ≤ 4294967295
structure PkOk (p : Pk) : Prop where
  s : U32 p.s
  d : U32 p.d
  pr : I64 p.pr
  tl : I64 p.tl
  id : I64 p.id
  off : I64 p.off
  b : p.b.size ≤ 9223372036854775807
def outB (n m : Int) : Bool := decide (n < 0 ∨ m < n)
theorem outB_no {n m : Int} (h : outB n m = false) : 0 ≤ n ∧ n ≤ m := by unfold outB at h; simp at h; omega
theorem outside_is (n m : Int) (b : Bool) (w : World) (h : outB n m = b) : Calls Try.prog 55 #[.int .i64 n, .int .i64 m] w fun e w' => e = .returned (.bool b) ∧ w = w' := by
  unfold outB at h
  by_cases h1 : n < 0
  · obtain rfl : b = true := by rw [← h]; simp [h1]
    clear h
    go_enter Try.func55, Try.ntmps55
    go_wp2
    go_ret
    exact ⟨rfl, rfl⟩
  · by_cases h2 : m < n
    · obtain rfl : b = true := by rw [← h]; simp [h2]
      clear h
      go_enter Try.func55, Try.ntmps55
      go_wp2
      go_ret
      exact ⟨rfl, rfl⟩
    · obtain rfl : b = false := by rw [← h]; simp [h1, h2]
      have d1 : decide (n < 0) = false := by simpa using h1
      have d2 : decide (m < n) = false := by simpa using h2
      clear h
      go_enter Try.func55, Try.ntmps55
      go_wp2
      go_ret
      exact ⟨rfl, rfl⟩
def ipArg (p : Pk) : Bool := outB p.pr 255 || (outB p.tl 255 || (outB p.id 65535 || outB p.off 8191))
def ipChk (p : Pk) : Int := if ipArg p = true then 1 else if 1400 < p.b.size then 2 else 0
theorem ipChk_ok {p : Pk} (h : ipChk p = 0) : (0 ≤ p.pr ∧ p.pr ≤ 255) ∧ (0 ≤ p.tl ∧ p.tl ≤ 255) ∧ (0 ≤ p.id ∧ p.id ≤ 65535) ∧ (0 ≤ p.off ∧ p.off ≤ 8191) ∧ p.b.size ≤ 1400 := by
  unfold ipChk at h
  split at h
  · cases h
  · rename_i h1
    unfold ipArg at h1
    simp at h1
    obtain ⟨a1, a2, a3, a4⟩ := h1
    refine ⟨outB_no a1, outB_no a2, outB_no a3, outB_no a4, ?_⟩
    split at h
    · cases h
    · omega
set_option maxRecDepth 100000 in
set_option maxHeartbeats 2000000 in
theorem ipCheck_any (p : Pk) (w : World) (ok : PkOk p) :
    Calls Try.prog 49 #[.agg (pkC p).toArray] w fun e w' => e = .returned (.int .i64 (ipChk p)) ∧ Below w.heap.size w w' := by
  have hb := ok.b
  have hv : ipChk p = if ipArg p = true then 1 else if 1400 < p.b.size then 2 else 0 := rfl
  have ha : ipArg p = (outB p.pr 255 || (outB p.tl 255 || (outB p.id 65535 || outB p.off 8191))) := rfl
  obtain ⟨ps, pd, ppr, ptl, pid, pdf, pmf, poff, pb⟩ := p
  unfold pkC
  simp only at *
  rw [hv, ha]
  clear hv ha ok
  cases h1 : outB ppr 255
  · have o1 := fun W => outside_is ppr 255 _ W h1
    cases h2 : outB ptl 255
    · have o2 := fun W => outside_is ptl 255 _ W h2
      cases h3 : outB pid 65535
      · have o3 := fun W => outside_is pid 65535 _ W h3
        cases h4 : outB poff 8191
        · have o4 := fun W => outside_is poff 8191 _ W h4
          have O1 := Lib.hid o1
          have O2 := Lib.hid o2
          have O3 := Lib.hid o3
          have O4 := Lib.hid o4
          clear o1 o2 o3 o4 h1 h2 h3 h4
          by_cases hs : 1400 < pb.size
          all_goals
            simp [hs]
            go_enter Try.func49, Try.ntmps49
            go_wp2_with (go_at_call 55; (first | (with_reducible refine (O1.out _).mono ?_) | (with_reducible refine (O2.out _).mono ?_) | (with_reducible refine (O3.out _).mono ?_) | (with_reducible refine (O4.out _).mono ?_)); rintro e w1 ⟨rfl, rfl⟩)
            go_ret
            exact ⟨rfl, below_ca (Below.refl _ _) _⟩
        · have o4 := fun W => outside_is poff 8191 _ W h4
          have O1 := Lib.hid o1
          have O2 := Lib.hid o2
          have O3 := Lib.hid o3
          have O4 := Lib.hid o4
          clear o1 o2 o3 o4 h1 h2 h3 h4
          simp
          go_enter Try.func49, Try.ntmps49
          go_wp2_with (go_at_call 55; (first | (with_reducible refine (O1.out _).mono ?_) | (with_reducible refine (O2.out _).mono ?_) | (with_reducible refine (O3.out _).mono ?_) | (with_reducible refine (O4.out _).mono ?_)); rintro e w1 ⟨rfl, rfl⟩)
          go_ret
          exact ⟨rfl, below_ca (Below.refl _ _) _⟩
      · have o3 := fun W => outside_is pid 65535 _ W h3
        have O1 := Lib.hid o1
        have O2 := Lib.hid o2
        have O3 := Lib.hid o3
        clear o1 o2 o3 h1 h2 h3
        simp
        go_enter Try.func49, Try.ntmps49
        go_wp2_with (go_at_call 55; (first | (with_reducible refine (O1.out _).mono ?_) | (with_reducible refine (O2.out _).mono ?_) | (with_reducible refine (O3.out _).mono ?_)); rintro e w1 ⟨rfl, rfl⟩)
        go_ret
        exact ⟨rfl, below_ca (Below.refl _ _) _⟩
    · have o2 := fun W => outside_is ptl 255 _ W h2
      have O1 := Lib.hid o1
      have O2 := Lib.hid o2
      clear o1 o2 h1 h2
      simp
      go_enter Try.func49, Try.ntmps49
      go_wp2_with (go_at_call 55; (first | (with_reducible refine (O1.out _).mono ?_) | (with_reducible refine (O2.out _).mono ?_)); rintro e w1 ⟨rfl, rfl⟩)
      go_ret
      exact ⟨rfl, below_ca (Below.refl _ _) _⟩
  · have o1 := fun W => outside_is ppr 255 _ W h1
    have O1 := Lib.hid o1
    clear o1 h1
    simp
    go_enter Try.func49, Try.ntmps49
    go_wp2_with (go_at_call 55; (with_reducible refine (O1.out _).mono ?_); rintro e w1 ⟨rfl, rfl⟩)
    go_ret
    exact ⟨rfl, below_ca (Below.refl _ _) _⟩
end Go.Proofs.Ytmcdmgnpbhkdhaa
