/- Contracts of the package sum: fold, Sum, Check, Join, Update; and of two, turned. -/
import Derived.Test.YtpjcbjacdkobmaaSeqC
import Derived.Test.YtpjcbjacdkobmaaBits
namespace Go.Proofs.Ytpjcbjacdkobmaa
open Go.RowKit
set_option linter.unusedVariables false

/-- what fold comes to -/
def foldZ (n : Int) : Int := if n = 0 then 0 else (n - 1) % 65535 + 1
theorem foldZ_small (n : Int) (h : 0 ≤ n) (h' : n ≤ 65535) : foldZ n = n := by unfold foldZ; split <;> omega
theorem foldZ_step (n : Int) (h : 65535 < n) : foldZ (n / 65536 + n % 65536) = foldZ n := by
  unfold foldZ; rw [if_neg (by omega), if_neg (by omega)]; omega
theorem foldZ_bd (n : Int) (h : 0 ≤ n) : 0 ≤ foldZ n ∧ foldZ n ≤ 65535 := by unfold foldZ; split <;> omega

set_option maxHeartbeats 400000 in
theorem fold_any (n : Int) (w : World) (h : 0 ≤ n) (h' : n ≤ 18446744073709551615) :
    Calls Try.prog 68 #[.int .u64 n] w fun e w' => e = .returned (.int .u16 (foldZ n)) ∧ w = w' := by
  go_enter Try.func68, Try.ntmps68
  go_wp2
  go_loop [0] (fun m => ∃ k : Int, 0 ≤ k ∧ k ≤ 18446744073709551615 ∧ m = .int .u64 k ∧ foldZ k = foldZ n) (fun m => (intOf m).toNat)
  case atStart => exact ⟨n, h, h', rfl, rfl⟩
  case round =>
    obtain ⟨k, hk, hk', rfl, hf⟩ := hrel
    have HF := Lib.hid hf
    clear hf
    by_cases hlt : 65535 < k
    · have e1 := u64_and_ffff k hk hk'
      have e2 := wrap_u64_in (k / 65536 + k % 65536) (by omega) (by omega)
      go_wp2
      go_round
      case rel => exact ⟨k / 65536 + k % 65536, by omega, by omega, rfl, by rw [foldZ_step k hlt, HF.out]⟩
      case measure => simp [intOf]; omega
    · have he := foldZ_small k hk (by omega)
      have HE := Lib.hid he
      clear he
      go_wp2
      go_ret
      exact ⟨ret_int (by rw [← HF.out, HE.out]), rfl⟩

/-- the words of a text, added up -/
def wsum : List UInt8 → Int
  | [] => 0
  | [a] => (a.toNat : Int) * 256
  | a :: b :: r => (a.toNat : Int) * 256 + b.toNat + wsum r
theorem wsum_lo : ∀ l : List UInt8, 0 ≤ wsum l
  | [] => by simp [wsum]
  | [a] => by simp only [wsum]; omega
  | a :: b :: r => by have := wsum_lo r; simp only [wsum]; omega
theorem wsum_hi : ∀ l : List UInt8, wsum l ≤ 65535 * l.length
  | [] => by simp [wsum]
  | [a] => by have := a.toNat_lt; simp only [wsum, List.length_singleton]; omega
  | a :: b :: r => by have := wsum_hi r; have := a.toNat_lt; have := b.toNat_lt; simp only [wsum, List.length_cons]; omega

theorem wsum_two : ∀ (l : List UInt8) (h : 1 < l.length), wsum l = (l[0].toNat : Int) * 256 + (l[1].toNat : Int) + wsum (l.drop 2)
  | a :: b :: r, _ => by simp [wsum]
theorem wsum_one : ∀ (l : List UInt8) (h : l.length = 1), wsum l = (l[0].toNat : Int) * 256
  | [a], _ => by simp [wsum]
theorem cut_list (u : ByteArray) (n : Nat) : (u.extract n u.size).data.toList = u.data.toList.drop n := by
  rw [ByteArray.data_extract, Array.toList_extract, List.extract_eq_take_drop]
  apply List.take_of_length_le
  rw [List.length_drop, Array.length_toList]
  exact Nat.le_refl _
theorem ws_cut (u : ByteArray) (h : 1 < u.size) : wsum u.data.toList = (u[0].toNat : Int) * 256 + (u[1].toNat : Int) + wsum (u.extract 2 u.size).data.toList := by
  rw [cut_list]
  exact wsum_two u.data.toList (by rw [Array.length_toList]; exact h)
theorem ws_one (u : ByteArray) (h : u.size = 1) : wsum u.data.toList = (u[0].toNat : Int) * 256 :=
  wsum_one u.data.toList (by rw [Array.length_toList]; exact h)
theorem ws_none (u : ByteArray) (h : u.size = 0) : wsum u.data.toList = 0 := by
  have h' : u.data.toList.length = 0 := by rw [Array.length_toList]; exact h
  rw [List.eq_nil_of_length_eq_zero h']
  rfl
theorem word_in (k x y : Int) (hk : 0 ≤ k) (hk' : k ≤ 18446744073709486079) (hx : 0 ≤ x) (hx' : x ≤ 255) (hy : 0 ≤ y) (hy' : y ≤ 255) :
    IntKind.u64.wrap (k + bits BinOp.or IntKind.u64 (IntKind.u64.wrap (IntKind.u64.wrap x * 256)) (IntKind.u64.wrap y)) = k + (x * 256 + y) := by
  rw [wrap_u64_in x hx (by omega), wrap_u64_in y hy (by omega), wrap_u64_in (x * 256) (by omega) (by omega), u64_or_byte x y hx (by omega) hy hy', wrap_u64_in _ (by omega) (by omega)]
theorem byte_in (k x : Int) (hk : 0 ≤ k) (hk' : k ≤ 18446744073709486079) (hx : 0 ≤ x) (hx' : x ≤ 255) :
    IntKind.u64.wrap (k + IntKind.u64.wrap (IntKind.u64.wrap x * 256)) = k + x * 256 := by
  rw [wrap_u64_in x hx (by omega), wrap_u64_in (x * 256) (by omega) (by omega), wrap_u64_in _ (by omega) (by omega)]
theorem byte_bd (b : UInt8) : (0 : Int) ≤ (b.toNat : Int) ∧ (b.toNat : Int) ≤ 255 := by have := b.toNat_lt; omega
theorem size_cut (u : ByteArray) (h : 1 < u.size) : (u.extract 2 u.size).size = u.size - 2 := by rw [ByteArray.size_extract]; omega

set_option maxRecDepth 100000 in
set_option maxHeartbeats 400000 in
theorem Sum_any (s : ByteArray) (w : World) (h : s.size ≤ 281474976710656) :
    Calls Try.prog 62 #[.string s] w fun e w' => e = .returned (.int .u16 (foldZ (wsum s.data.toList))) ∧ Below w.heap.size w w' := by
  have h1 := wsum_lo s.data.toList
  have h2 := wsum_hi s.data.toList
  rw [show s.data.toList.length = s.size from by rw [Array.length_toList]; rfl] at h2
  go_enter Try.func62, Try.ntmps62
  go_wp2
  go_loopw [0, 3] (fun t n wr => ∃ (u : ByteArray) (k : Int), t = .string u ∧ n = .int .u64 k ∧ 0 ≤ k ∧ u.size ≤ s.size ∧ k + wsum u.data.toList = wsum s.data.toList ∧ Below w.heap.size w wr) (fun t _ _ => match t with | .string u => u.size | _ => 0)
  case atStart => exact ⟨s, 0, rfl, rfl, by omega, by omega, by omega, Below.refl _ _⟩
  case round =>
    obtain ⟨u, k, rfl, rfl, hk, hu, hs, hb⟩ := hrel
    have h3 := wsum_lo u.data.toList
    by_cases hlt : 1 < u.size
    · go_wp2_with fail
      have hi0 : (0 : Int) < (u.size : Int) := by omega
      have hi1 : (1 : Int) < (u.size : Int) := by omega
      have hn0 : 0 < u.size := by omega
      go_quiet (fail)
      go_wp2
      have hw := ws_cut u hlt
      have b0 := byte_bd u[0]
      have b1 := byte_bd u[1]
      have hz := size_cut u hlt
      refine ⟨⟨_, _, rfl, by rw [word_in k _ _ hk (by omega) b0.1 b0.2 b1.1 b1.2], by omega, by omega, by omega, below_dn hb _⟩, ?_⟩
      show (u.extract 2 u.size).size < u.size
      omega
    · by_cases h0 : u.size = 0
      · have hw := ws_none u h0
        have he := str_none' h0
        have HS := Lib.hid (show k = wsum s.data.toList by omega)
        have HT : k ≤ 18446744073709551615 := by omega
        clear hw hs h0 h3
        go_wp2_with (go_at_call 68; go_must (refine (fold_any _ _ (by omega) (by omega)).mono ?_; rintro e w1 ⟨rfl, rfl⟩))
        go_ret
        exact ⟨ret_int (by rw [HS.out]), hb⟩
      · have hn0 : 0 < u.size := by omega
        have hw := ws_one u (by omega)
        have b0 := byte_bd u[0]
        have he := str_some' hn0
        have HB := byte_in k (u[0].toNat : Int) hk (by omega) b0.1 b0.2
        have HS := Lib.hid (show k + (u[0].toNat : Int) * 256 = wsum s.data.toList by omega)
        have HT : k + (u[0].toNat : Int) * 256 ≤ 18446744073709551615 := by omega
        clear hw hs h0 h3
        go_wp2_with (go_at_call 68; go_must (refine (fold_any _ _ (by omega) (by omega)).mono ?_; rintro e w1 ⟨rfl, rfl⟩))
        go_ret
        exact ⟨ret_int (by rw [HS.out]), hb⟩
end Go.Proofs.Ytpjcbjacdkobmaa
