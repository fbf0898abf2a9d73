/- Contracts of take, Little64. -/
import Derived.Test.YtgdfjkdcdfmifaaHashC
namespace Go.Proofs.Ytgdfjkdcdfmifaa
open Go.RowKit
set_option linter.unusedVariables false

/-- what take does to the state -/
def takeV (s : S4) (m : Int) : S4 :=
  let r := roundV (roundV { s with d := xorV s.d m })
  { r with a := xorV r.a m }
set_option maxRecDepth 100000 in
set_option maxHeartbeats 4000000 in
theorem Take_any (g : Nat) (s : S4) (m : Int) (w : World) (hS : S4At w g s) (hok : s.ok) (hm : W64 m) :
    Calls Try.prog 53 #[.pointer (some ⟨g, 0, none⟩), .int .u64 m] w fun e w' => e = .returned (.tuple #[]) ∧ S4At w' g (takeV s m) ∧ (takeV s m).ok ∧ w.grownBy w' (some g) := by
  have hlt := hS.lt
  have c3 : w.cell? ⟨g, 3, none⟩ = some (.int .u64 s.d) := hS.cell 3
  have z3 := hS.free 3
  obtain ⟨wa, wb, wc, wd⟩ := hok
  go_enter Try.func53, Try.ntmps53
  go_wp2_with fail
  go_region
  refine ex_gen (fun W => S4At W g { s with d := xorV s.d m } ∧ w.grownBy W (some g)) ⟨(At.set_ hS 3 _).drew, only_drew (only_set (only_refl w _) (.inl rfl) _)⟩ ?_
  rintro W0 ⟨hS0, hO0⟩
  clear c3 z3
  go_wp2_with fail
  refine (Round_any _ _ _ hS0 ⟨wa, wb, wc, (bits64 _ _ _ : W64 (xorV s.d m))⟩).mono ?_
  rintro e W1 ⟨rfl, hS1, hok1, hO1⟩
  go_wp2_with fail
  refine (Round_any _ _ _ hS1 hok1).mono ?_
  rintro e W2 ⟨rfl, hS2, hok2, hO2⟩
  have hO3 := only_trans (only_trans hO0 hO1) hO2
  obtain ⟨r, hr⟩ : ∃ r, roundV (roundV { s with d := xorV s.d m }) = r := ⟨_, rfl⟩
  have ht : takeV s m = { r with a := xorV r.a m } := by unfold takeV; rw [hr]
  rw [hr] at hS2 hok2
  have HT := Lib.hid ht
  clear ht hr hS1 hS0
  have hlt2 := hS2.lt
  have c0 : W2.cell? ⟨g, 0, none⟩ = some (.int .u64 r.a) := hS2.cell 0
  have z0 := hS2.free 0
  go_wp2_with fail
  go_region
  go_end0
  rw [HT.out]
  exact ⟨rfl, (At.set_ hS2 0 _).drew, ⟨(bits64 _ _ _ : W64 (xorV r.a m)), hok2.2⟩, only_drew (only_trans hO3 (only_set (only_refl _ _) (.inl rfl) _))⟩
/-- the first i bytes as a number, the lowest first -/
def litV (s : ByteArray) (n : Int) : Nat → Int
  | 0 => n
  | i + 1 => bits .or .u64 (litV s n i) (IntKind.u64.wrap (IntKind.u64.wrap ((s.data[i]?.getD 0).toNat : Int) * 2 ^ (8 * i)))
theorem byte_at (s : ByteArray) (k : Nat) (h : k < s.size) : s[k] = s.data[k]?.getD 0 := by
  have : s.data[k]? = some s.data[k] := Array.getElem?_eq_getElem h
  rw [this]; rfl
theorem lit64 (s : ByteArray) (n : Int) (hn : W64 n) : ∀ i, W64 (litV s n i)
  | 0 => hn
  | i + 1 => bits64 _ _ _
set_option maxRecDepth 100000 in
set_option maxHeartbeats 1000000 in
theorem Little_any (s : ByteArray) (w : World) (hs : 8 ≤ s.size) (hs' : s.size ≤ 9223372036854775807) :
    Calls Try.prog 54 #[.string s] w fun e w' => e = .returned (.int .u64 (litV s 0 8)) ∧ w = w' := by
  go_enter Try.func54, Try.ntmps54
  go_wp2_with fail
  go_loop [5, 3] (fun i n => ∃ k : Nat, k ≤ 8 ∧ i = .int .i64 k ∧ n = .int .u64 (litV s 0 k)) (fun i n => 8 - (intOf i).toNat)
  case atStart => exact ⟨0, by omega, rfl, rfl⟩
  case round =>
    obtain ⟨k, hk, rfl, rfl⟩ := hrel
    by_cases hlt : k < 8
    · have hks : k < s.size := by omega
      go_wp2_with fail
      go_round
      case rel => exact ⟨k + 1, by omega, by go_num, by rw [byte_at s k hks]; rfl⟩
      case measure => simp [intOf]; omega
    · obtain rfl : k = 8 := by omega
      go_wp2_with fail
      go_ret
      exact ⟨rfl, rfl⟩
end Go.Proofs.Ytgdfjkdcdfmifaa
