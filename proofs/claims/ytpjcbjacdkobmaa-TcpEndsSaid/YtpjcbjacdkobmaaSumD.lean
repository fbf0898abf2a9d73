/- Contracts of the package sum: Check, Join, Update. -/
import Derived.Test.YtpjcbjacdkobmaaSumC
namespace Go.Proofs.Ytpjcbjacdkobmaa
open Go.RowKit
set_option linter.unusedVariables false

/-- Sum of a list of bytes -/
def sumZ (l : List UInt8) : Int := foldZ (wsum l)
theorem sumZ_lo (l : List UInt8) : 0 ≤ sumZ l := (foldZ_bd _ (wsum_lo l)).1
theorem sumZ_hi (l : List UInt8) : sumZ l ≤ 65535 := (foldZ_bd _ (wsum_lo l)).2
theorem Sum_is (s : ByteArray) (w : World) (h : s.size ≤ 281474976710656) :
    Calls Try.prog 62 #[.string s] w fun e w' => e = .returned (.int .u16 (sumZ s.data.toList)) ∧ Below w.heap.size w w' := Sum_any s w h

set_option maxHeartbeats 400000 in
theorem Check16_any (s : ByteArray) (w : World) (h : s.size ≤ 281474976710656) :
    Calls Try.prog 41 #[.string s] w fun e w' => e = .returned (.int .u16 (65535 - sumZ s.data.toList)) ∧ Below w.heap.size w w' := by
  have h1 := sumZ_lo s.data.toList
  have h2 := sumZ_hi s.data.toList
  have h3 := u16_not _ h1 h2
  have h4 := u16_signed
  go_enter Try.func41, Try.ntmps41
  go_wp2_with (go_at_call 62; go_must (refine (Sum_is _ _ (by omega)).mono ?_; rintro e w1 ⟨rfl, hb1⟩))
  go_ret
  exact ⟨rfl, hb1⟩

/-- the two bytes of a number, one for the other -/
def swapZ (n : Int) : Int := n % 256 * 256 + n / 256
theorem swap_eq (n : Int) (h : 0 ≤ n) (h' : n ≤ 65535) : bits BinOp.or IntKind.u16 (n / 256) (IntKind.u16.wrap (n * 256)) = swapZ n := by
  rw [wrap_u16_is, show n * 256 % 65536 = n % 256 * 256 by omega, u16_or_swap (n % 256) (n / 256) (by omega) (by omega) (by omega) (by omega)]
  rfl
theorem swap_bd (n : Int) (h : 0 ≤ n) (h' : n ≤ 65535) : 0 ≤ swapZ n ∧ swapZ n ≤ 65535 := by unfold swapZ; omega

/-- a number's two bytes, the high one first -/
def two (n : Int) : List UInt8 := [UInt8.ofNat (n / 256).toNat, UInt8.ofNat (n % 256).toNat]
@[simp] theorem two_len (n : Int) : (two n).length = 2 := rfl
theorem byte_of (k : Int) (h : 0 ≤ k) (h' : k ≤ 255) : (((UInt8.ofNat k.toNat).toNat : Nat) : Int) = k := by
  rw [UInt8.toNat_ofNat']; omega
theorem run_two {P : Program} (n : Int) (w : World) (h : 0 ≤ n) (h' : n ≤ 65535) (src dst e : TypeId) (hs : P.underlying src = some (.slice e)) (he : P.underlying e = some (.int .u8)) (hd : P.underlying dst = some .string) :
    (convert src dst (.slice (some ⟨w.heap.size, 0, none⟩) 2 2)).run P (w.alloc (.cells #[.int .u8 (n / 256), .int .u8 (n % 256)] e)) = .ok (.string ⟨(two n).toArray⟩) (w.alloc (.cells #[.int .u8 (n / 256), .int .u8 (n % 256)] e)) := by
  refine run_convert_bytes_back (w.alloc (.cells #[.int .u8 (n / 256), .int .u8 (n % 256)] e)) src dst e ⟨w.heap.size, 0, none⟩ 2 (two n) hs he hd ?_
  intro j hj
  match j, hj with
  | 0, _ => simp only [two, List.getElem_cons_zero]; rw [byte_of _ (by omega) (by omega)]; simp [Addr.add, go_sem]
  | 1, _ => simp only [two, List.getElem_cons_zero, List.getElem_cons_succ]; rw [byte_of _ (by omega) (by omega)]; simp [Addr.add, go_sem]
end Go.Proofs.Ytpjcbjacdkobmaa
