/- Bits and bytes as numbers: masks, shifts and 'or' of parts that do not meet. -/
import Derived.Test.YtamckbjckgpniaaDoorBase
namespace Go.Proofs.YtamckbjckgpniaaDoor
open Go.RowKit
set_option linter.unusedVariables false

theorem wrap_u64_in (n : Int) (h : 0 ≤ n) (h' : n ≤ 18446744073709551615) : IntKind.u64.wrap n = n := by rw [IntKind.wrap_u64]; omega
theorem nat_or_parts (a b k : Nat) (hb : b < 2 ^ k) : a * 2 ^ k ||| b = a * 2 ^ k + b := by
  rw [← Nat.shiftLeft_eq, Nat.shiftLeft_add_eq_or_of_lt hb]
theorem u64_and_ffff (k : Int) (h : 0 ≤ k) (h' : k ≤ 18446744073709551615) : bits .and .u64 k 65535 = k % 65536 := by
  obtain ⟨K, rfl⟩ := Int.eq_ofNat_of_zero_le h
  rw [show (65535 : Int) = ((65535 : Nat) : Int) from rfl, u64_and_nat K 65535 (by omega) (by omega), show (65535 : Nat) = 2 ^ 16 - 1 from rfl, Nat.and_two_pow_sub_one_eq_mod]
  omega
theorem u64_or_byte (a b : Int) (h : 0 ≤ a) (h' : a ≤ 16777215) (hb : 0 ≤ b) (hb' : b ≤ 255) : bits .or .u64 (a * 256) b = a * 256 + b := by
  obtain ⟨A, rfl⟩ := Int.eq_ofNat_of_zero_le h
  obtain ⟨B, rfl⟩ := Int.eq_ofNat_of_zero_le hb
  rw [show ((A : Int) * 256) = ((A * 2 ^ 8 : Nat) : Int) by omega, u64_or_nat _ B (by omega) (by omega), nat_or_parts A B 8 (by omega)]
  omega
theorem u16_or_byte (a b : Int) (h : 0 ≤ a) (h' : a ≤ 255) (hb : 0 ≤ b) (hb' : b ≤ 255) : bits .or .u16 (a * 256) b = a * 256 + b := by
  obtain ⟨A, rfl⟩ := Int.eq_ofNat_of_zero_le h
  obtain ⟨B, rfl⟩ := Int.eq_ofNat_of_zero_le hb
  rw [show ((A : Int) * 256) = ((A * 2 ^ 8 : Nat) : Int) by omega, u16_or_nat _ B (by omega) (by omega), nat_or_parts A B 8 (by omega)]
  omega
theorem u16_or_swap (a b : Int) (h : 0 ≤ a) (h' : a ≤ 255) (hb : 0 ≤ b) (hb' : b ≤ 255) : bits .or .u16 b (a * 256) = a * 256 + b := by
  obtain ⟨A, rfl⟩ := Int.eq_ofNat_of_zero_le h
  obtain ⟨B, rfl⟩ := Int.eq_ofNat_of_zero_le hb
  rw [show ((A : Int) * 256) = ((A * 2 ^ 8 : Nat) : Int) by omega, u16_or_nat B _ (by omega) (by omega), Nat.or_comm, nat_or_parts A B 8 (by omega)]
  omega

theorem nat_xor_ones (x : Nat) (h : x < 2 ^ 16) : 65535 ^^^ x = 65535 - x := by
  have e : (BitVec.allOnes 16 ^^^ BitVec.ofNat 16 x).toNat = (~~~BitVec.ofNat 16 x).toNat := by rw [BitVec.allOnes_xor]
  rw [BitVec.toNat_xor, BitVec.toNat_not, BitVec.toNat_allOnes, BitVec.toNat_ofNat, Nat.mod_eq_of_lt h] at e
  exact e
theorem u16_signed : IntKind.u16.signed = false := rfl
theorem u16_not (x : Int) (h : 0 ≤ x) (h' : x ≤ 65535) : bits .xor .u16 IntKind.u16.max x = 65535 - x := by
  obtain ⟨X, rfl⟩ := Int.eq_ofNat_of_zero_le h
  rw [show IntKind.u16.max = ((65535 : Nat) : Int) from rfl, u16_xor_nat 65535 X (by omega) (by omega), nat_xor_ones X (by omega)]
  omega
theorem wrap_u16_is (n : Int) : IntKind.u16.wrap n = n % 65536 := IntKind.wrap_u16 n

theorem data_len (u : ByteArray) : u.data.toList.length = u.size := by rw [Array.length_toList]; rfl
theorem str_none {u : ByteArray} (h : u.size = 0) : u.toList.isEmpty = true := by
  rw [ByteArray.toList_eq, List.isEmpty_iff]
  exact List.eq_nil_of_length_eq_zero (by rw [data_len, h])
theorem str_some {u : ByteArray} (h : 0 < u.size) : u.toList.isEmpty = false := by
  rw [ByteArray.toList_eq, List.isEmpty_eq_false_iff]
  intro e
  have := data_len u
  rw [e] at this
  simp at this
  omega
theorem str_none' {u : ByteArray} (h : u.size = 0) : (!u.toList.isEmpty) = false := by rw [str_none h]; rfl
theorem str_some' {u : ByteArray} (h : 0 < u.size) : (!u.toList.isEmpty) = true := by rw [str_some h]; rfl
end Go.Proofs.YtamckbjckgpniaaDoor
