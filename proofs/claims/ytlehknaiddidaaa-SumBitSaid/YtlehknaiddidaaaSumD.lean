/- Contracts of the package sum: Check, Join, Update. -/
import Derived.Test.YtlehknaiddidaaaSumC
namespace Go.Proofs.Ytlehknaiddidaaa
open Go.RowKit
set_option linter.unusedVariables false

/-- Sum of a list of bytes -/
def sumZ (l : List UInt8) : Int := foldZ (wsum l)
theorem sumZ_lo (l : List UInt8) : 0 ≤ sumZ l := (foldZ_bd _ (wsum_lo l)).1
theorem sumZ_hi (l : List UInt8) : sumZ l ≤ 65535 := (foldZ_bd _ (wsum_lo l)).2
theorem Sum_is (s : ByteArray) (w : World) (h : s.size ≤ 281474976710656) :
    Calls Try.prog 19 #[.string s] w fun e w' => e = .returned (.int .u16 (sumZ s.data.toList)) ∧ Below w.heap.size w w' := Sum_any s w h

set_option maxHeartbeats 400000 in
theorem Check16_any (s : ByteArray) (w : World) (h : s.size ≤ 281474976710656) :
    Calls Try.prog 21 #[.string s] w fun e w' => e = .returned (.int .u16 (65535 - sumZ s.data.toList)) ∧ Below w.heap.size w w' := by
  have h1 := sumZ_lo s.data.toList
  have h2 := sumZ_hi s.data.toList
  have h3 := u16_not _ h1 h2
  have h4 := u16_signed
  go_enter Try.func21, Try.ntmps21
  go_wp2_with (go_at_call 19; go_must (refine (Sum_is _ _ (by omega)).mono ?_; rintro e w1 ⟨rfl, hb1⟩))
  go_ret
  exact ⟨rfl, hb1⟩

/-- the two bytes of a number, one for the other -/
def swapZ (n : Int) : Int := n % 256 * 256 + n / 256
theorem swap_eq (n : Int) (h : 0 ≤ n) (h' : n ≤ 65535) : bits BinOp.or IntKind.u16 (n / 256) (IntKind.u16.wrap (n * 256)) = swapZ n := by
  rw [wrap_u16_is, show n * 256 % 65536 = n % 256 * 256 by omega, u16_or_swap (n % 256) (n / 256) (by omega) (by omega) (by omega) (by omega)]
  rfl
theorem swap_bd (n : Int) (h : 0 ≤ n) (h' : n ≤ 65535) : 0 ≤ swapZ n ∧ swapZ n ≤ 65535 := by unfold swapZ; omega
set_option maxHeartbeats 400000 in
theorem Reverse_any (n : Int) (w : World) (h : 0 ≤ n) (h' : n ≤ 65535) :
    Calls Try.prog 29 #[.int .u16 n] w fun e w' => e = .returned (.int .u16 (swapZ n)) ∧ w = w' := by
  have h1 := swap_eq n h h'
  go_enter Try.func29, Try.ntmps29
  go_wp2
  go_ret
  exact ⟨rfl, rfl⟩
set_option maxHeartbeats 400000 in
theorem Join_odd (a b : Int) (w : World) (ha : 0 ≤ a) (ha' : a ≤ 65535) (h : 0 ≤ b) (h' : b ≤ 65535) :
    Calls Try.prog 24 #[.int .u16 a, .bool true, .int .u16 b] w fun e w' => e = .returned (.int .u16 (foldZ (a + swapZ b))) ∧ w = w' := by
  have h1 := (swap_bd b h h').1
  have h2 := (swap_bd b h h').2
  have h3 := wrap_u64_in a ha (by omega)
  have h4 := wrap_u64_in (swapZ b) h1 (by omega)
  have h5 := wrap_u64_in (a + swapZ b) (by omega) (by omega)
  go_enter Try.func24, Try.ntmps24
  go_wp2_with (first | (go_at_call 29; go_must (refine (Reverse_any _ _ (by omega) (by omega)).mono ?_; rintro e w1 ⟨rfl, rfl⟩)) | (go_at_call 28; go_must (refine (fold_any _ _ (by omega) (by omega)).mono ?_; rintro e w1 ⟨rfl, rfl⟩)))
  go_ret
  exact ⟨rfl, rfl⟩
set_option maxHeartbeats 400000 in
theorem Join_even (a b : Int) (w : World) (ha : 0 ≤ a) (ha' : a ≤ 65535) (h : 0 ≤ b) (h' : b ≤ 65535) :
    Calls Try.prog 24 #[.int .u16 a, .bool false, .int .u16 b] w fun e w' => e = .returned (.int .u16 (foldZ (a + b))) ∧ w = w' := by
  have h3 := wrap_u64_in a ha (by omega)
  have h4 := wrap_u64_in b h (by omega)
  have h5 := wrap_u64_in (a + b) (by omega) (by omega)
  go_enter Try.func24, Try.ntmps24
  go_wp2_with (first | (go_at_call 28; go_must (refine (fold_any _ _ (by omega) (by omega)).mono ?_; rintro e w1 ⟨rfl, rfl⟩)))
  go_ret
  exact ⟨rfl, rfl⟩
def updZ (c a b : Int) : Int := 65535 - foldZ ((65535 - c) + (65535 - a) + b)
set_option maxHeartbeats 400000 in
theorem Update_any (c a b : Int) (w : World) (hc : 0 ≤ c) (hc' : c ≤ 65535) (ha : 0 ≤ a) (ha' : a ≤ 65535) (h : 0 ≤ b) (h' : b ≤ 65535) :
    Calls Try.prog 22 #[.int .u16 c, .int .u16 a, .int .u16 b] w fun e w' => e = .returned (.int .u16 (updZ c a b)) ∧ w = w' := by
  have h1 := u16_not c hc hc'
  have h2 := u16_not a ha ha'
  have hs := u16_signed
  have h3 := wrap_u64_in (65535 - c) (by omega) (by omega)
  have h4 := wrap_u64_in (65535 - a) (by omega) (by omega)
  have h5 := wrap_u64_in b h (by omega)
  have h6 := wrap_u64_in (65535 - c + (65535 - a)) (by omega) (by omega)
  have h7 := wrap_u64_in (65535 - c + (65535 - a) + b) (by omega) (by omega)
  have hf := foldZ_bd ((65535 - c) + (65535 - a) + b) (by omega)
  have h8 := u16_not _ hf.1 hf.2
  clear hf
  go_enter Try.func22, Try.ntmps22
  go_wp2_with (first | (go_at_call 28; go_must (refine (fold_any _ _ (by omega) (by omega)).mono ?_; rintro e w1 ⟨rfl, rfl⟩)))
  go_ret
  exact ⟨rfl, rfl⟩

/-- a number's two bytes, the high one first -/
def two (n : Int) : List UInt8 := [UInt8.ofNat (n / 256).toNat, UInt8.ofNat (n % 256).toNat]
@[simp] theorem two_len (n : Int) : (two n).length = 2 := rfl
theorem byte_of (k : Int) (h : 0 ≤ k) (h' : k ≤ 255) : (((UInt8.ofNat k.toNat).toNat : Nat) : Int) = k := by
  rw [UInt8.toNat_ofNat']; omega
theorem run_two {P : Program} (n : Int) (w : World) (h : 0 ≤ n) (h' : n ≤ 65535) (src dst e : TypeId) (hs : P.underlying src = some (.slice e)) (he : P.underlying e = some (.int .u8)) (hd : P.underlying dst = some .string) :
    (convert src dst (.slice (some ⟨w.heap.size, 0, none⟩) 2 2)).run P (w.alloc (.cells #[.int .u8 (n / 256), .int .u8 (n % 256)] e)) = .ok (.string ⟨(two n).toArray⟩) (w.alloc (.cells #[.int .u8 (n / 256), .int .u8 (n % 256)] e)) := by
  refine run_convert_bytes_back (w.alloc (.cells #[.int .u8 (n / 256), .int .u8 (n % 256)] e)) src dst e ⟨w.heap.size, 0, none⟩ 2 (two n) hs he hd ?_
  intro j hj
  match j, hj with
  | 0, _ => simp only [two, List.getElem_cons_zero]; rw [byte_of _ (by omega) (by omega)]; simp [Addr.add, go_sem]
  | 1, _ => simp only [two, List.getElem_cons_zero, List.getElem_cons_succ]; rw [byte_of _ (by omega) (by omega)]; simp [Addr.add, go_sem]
set_option maxHeartbeats 400000 in
theorem two_any (n : Int) (w : World) (h : 0 ≤ n) (h' : n ≤ 65535) :
    Calls Try.prog 23 #[.int .u16 n] w fun e w' => e = .returned (.string ⟨(two n).toArray⟩) ∧ Below w.heap.size w w' := by
  have hcv := run_two (P := Try.prog) n w h h' 57 9 5 Try.underlying57 Try.underlying5 Try.underlying9
  go_enter Try.func23, Try.ntmps23
  go_wp2
  go_ret
  exact ⟨rfl, (Below.refl _ _).alloc (Nat.le_refl _) _⟩
end Go.Proofs.Ytlehknaiddidaaa
