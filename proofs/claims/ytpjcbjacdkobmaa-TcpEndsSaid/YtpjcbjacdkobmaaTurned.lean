/- The contract of turned: a text of which one bit was turned. -/
import Derived.Test.YtpjcbjacdkobmaaSeqC
import Derived.Test.YtpjcbjacdkobmaaBits
import Derived.StillTailTactics
namespace Go.Proofs.Ytpjcbjacdkobmaa
open Go.RowKit
set_option linter.unusedVariables false

theorem flip_all : ∀ j : Fin 8, ∀ x : Fin 256, (x.val ^^^ 2 ^ j.val = x.val + 2 ^ j.val ∨ (x.val ^^^ 2 ^ j.val) + 2 ^ j.val = x.val) ∧ x.val ^^^ 2 ^ j.val < 256 := by decide +kernel
theorem flip_nat (j x : Nat) (hj : j < 8) (hx : x < 256) : (x ^^^ 2 ^ j = x + 2 ^ j ∨ (x ^^^ 2 ^ j) + 2 ^ j = x) ∧ x ^^^ 2 ^ j < 256 := flip_all ⟨j, hj⟩ ⟨x, hx⟩
/-- a byte of which one bit was turned -/
def flipB (x : UInt8) (j : Nat) : UInt8 := UInt8.ofNat (x.toNat ^^^ 2 ^ j)
theorem flipB_val (x : UInt8) (j : Nat) (hj : j < 8) : (flipB x j).toNat = x.toNat ^^^ 2 ^ j := by
  have h := (flip_nat j x.toNat hj x.toNat_lt).2
  unfold flipB
  rw [UInt8.toNat_ofNat']
  exact Nat.mod_eq_of_lt h
theorem flipB_pm (x : UInt8) (j : Nat) (hj : j < 8) : (flipB x j).toNat = x.toNat + 2 ^ j ∨ (flipB x j).toNat + 2 ^ j = x.toNat := by
  have h := (flip_nat j x.toNat hj x.toNat_lt).1
  rw [flipB_val x j hj]
  exact h
theorem pow_small (j : Nat) (hj : j < 8) : 2 ^ j < 256 := Nat.pow_lt_pow_right (a := 2) (by omega) (n := 8) hj
theorem flip_bits (x : UInt8) (j : Nat) (hj : j < 8) : bits BinOp.xor IntKind.u8 (x.toNat : Int) (IntKind.u8.wrap (2 ^ j)) = ((flipB x j).toNat : Int) := by
  have h := pow_small j hj
  have e : IntKind.u8.wrap (2 ^ j) = ((2 ^ j : Nat) : Int) := by
    rw [IntKind.wrap_u8', show ((2 : Int) ^ j) = ((2 ^ j : Nat) : Int) by simp]
    exact Int.emod_eq_of_lt (Int.natCast_nonneg _) (Int.ofNat_lt.2 h)
  rw [e, u8_xor_nat x.toNat (2 ^ j) x.toNat_lt h, flipB_val x j hj]
/-- a text of which one bit was turned -/
def turnL (l : List UInt8) (i j : Nat) : List UInt8 := l.modify i (flipB · j)
theorem turnL_len (l : List UInt8) (i j : Nat) : (turnL l i j).length = l.length := by simp [turnL]
theorem turnL_same (l : List UInt8) (i j : Nat) (h : i < l.length) : (turnL l i j)[i]'(by rw [turnL_len]; exact h) = flipB l[i] j := by simp [turnL]
theorem turnL_other (l : List UInt8) (i j k : Nat) (h : k < l.length) (hne : k ≠ i) : (turnL l i j)[k]'(by rw [turnL_len]; exact h) = l[k] := by
  simp only [turnL, List.getElem_modify]
  rw [if_neg (by omega)]

set_option maxHeartbeats 1000000 in
theorem turned_any (s : ByteArray) (a b : Int) (w : World) (i j : Nat) (hi : i < s.size) (hj : j < 8) (hs : s.size ≤ 281474976710656) (ha : a % (s.size : Int) = (i : Int)) (hb : b % 8 = (j : Int))
    (ha1 : -9223372036854775808 ≤ a) (ha2 : a ≤ 9223372036854775807) (hb1 : -9223372036854775808 ≤ b) (hb2 : b ≤ 9223372036854775807) :
    Calls Try.prog 15 #[.string s, .int .i64 a, .int .i64 b] w fun e w' => e = .returned (.string ⟨(turnL s.data.toList i j).toArray⟩) ∧ Below w.heap.size w w' := by
  have hcv := fun (W : World) => run_bytes_of_string (P := Try.prog) W 9 79 5 s Try.underlying9 Try.underlying79 Try.underlying5
  go_enter Try.func15, Try.ntmps15
  go_wp2_with fail
  generalize grownCap w s.size 0 5 = c
  clear hcv
  refine wp_gen (fun W => (∀ k (h : k < s.size), W.cell? ⟨w.heap.size, k, none⟩ = some (.int .u8 (s.data[k].toNat : Int))) ∧ (∀ k, k < s.size → W.frozen? ⟨w.heap.size, k, none⟩ = false) ∧ Below w.heap.size w W) ⟨?_, ?_, ?_⟩ ?_
  · intro k hk
    rw [World.cell?_drew, World.cell?_alloc_mark, bytesRow_at s c k hk]
  · intro k hk
    rw [World.frozen?_drew, World.frozen?_alloc_mark]
    have : s.size ≤ (bytesRow s c).size := by unfold bytesRow; simp
    simp; omega
  · exact (below_ca (Below.refl _ _) _).drew
  rintro W1 ⟨hc, hf, hB⟩
  have hci := hc i hi
  have hfi := hf i hi
  have hii : (0 : Int) ≤ (i : Int) := by omega
  have hij : (i : Int) < (s.size : Int) := by omega
  have hb3 : (0 : Int) ≤ (j : Int) := by omega
  have hb4 : (j : Int) < 8 := by omega
  go_region_with (first | (go_at_call 16; refine (Rest_any _ _ _ (by omega) (by omega) (by omega) (by omega)).mono ?_; rintro e w' ⟨rfl, rfl⟩))
  all_goals
    refine ex_gen (fun W => (∀ k (h : k < (turnL s.data.toList i j).length), W.cell? ((⟨w.heap.size, 0, none⟩ : Addr).add k) = some (.int .u8 ((turnL s.data.toList i j)[k].toNat : Int))) ∧ Below w.heap.size w W) ⟨?_, ?_⟩ ?_
    · intro k hk
      have hk' : k < s.size := by rw [turnL_len, data_len] at hk; exact hk
      rw [World.cell?_drew, show (⟨w.heap.size, 0, none⟩ : Addr).add k = ⟨w.heap.size, k, none⟩ from by unfold Addr.add; split <;> simp_all]
      by_cases hki : k = i
      · subst hki
        rw [World.cell?_setCell_same _ _ _ hci, turnL_same _ _ _ (by rw [data_len]; exact hi), flip_bits _ j hj]
        rfl
      · rw [World.cell?_setCell_other _ _ _ _ (by intro e; injection e with _ e2 _; exact hki e2.symm), turnL_other _ _ _ _ (by rw [data_len]; exact hk') hki, hc k hk']
        rfl
    · exact (hB.setCell (Nat.le_refl _) _).drew
    rintro W2 ⟨hc2, hB2⟩
    have hback := run_convert_bytes_back (P := Try.prog) W2 79 9 5 ⟨w.heap.size, 0, none⟩ c (turnL s.data.toList i j) Try.underlying79 Try.underlying5 Try.underlying9 hc2
    rw [turnL_len, data_len] at hback
    clear hc hf hc2 hci hfi
    go_wp2
    go_ret
    exact ⟨rfl, hB2⟩
end Go.Proofs.Ytpjcbjacdkobmaa
