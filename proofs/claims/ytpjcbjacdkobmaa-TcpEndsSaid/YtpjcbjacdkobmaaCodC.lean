/- Contracts of wire.Get16, Get32, Put16. -/
import Derived.Test.YtpjcbjacdkobmaaByteS
import Derived.Test.YtpjcbjacdkobmaaBits
namespace Go.Proofs.Ytpjcbjacdkobmaa
open Go.RowKit
set_option linter.unusedVariables false

/-- bytes that lie in memory: place j of block g holds B j -/
def Bts (w : World) (g n : Nat) (B : Nat → Int) : Prop := ∀ j, j < n → w.cell? ⟨g, j, none⟩ = some (.int .u8 (B j))
def BOk (B : Nat → Int) : Prop := ∀ j, 0 ≤ B j ∧ B j ≤ 255
theorem Bts.kept {w w' : World} {g n : Nat} {B : Nat → Int} (h : Bts w g n B) (hb : Below w.heap.size w w') : Bts w' g n B := fun j hj => keep_cell hb (h j hj)
theorem word16 (x y : Int) (hx : 0 ≤ x) (hx' : x ≤ 255) (hy : 0 ≤ y) (hy' : y ≤ 255) :
    bits BinOp.or IntKind.u16 (IntKind.u16.wrap (IntKind.u16.wrap x * 256)) (IntKind.u16.wrap y) = x * 256 + y := by
  have e1 : IntKind.u16.wrap x = x := by rw [IntKind.wrap_u16]; omega
  have e2 : IntKind.u16.wrap y = y := by rw [IntKind.wrap_u16]; omega
  have e3 : IntKind.u16.wrap (x * 256) = x * 256 := by rw [IntKind.wrap_u16]; omega
  rw [e1, e2, e3, u16_or_byte x y hx hx' hy hy']
set_option maxHeartbeats 1000000 in
theorem Get16_at (g off N c : Nat) (B : Nat → Int) (n : Nat) (w : World) (hB : BOk B) (h : Bts w g N B) (hn : off + 2 ≤ N) (h2 : 2 ≤ n) (h3 : n ≤ 9223372036854775807) :
    Calls Try.prog 38 #[.slice (some ⟨g, off, none⟩) n c] w fun e w' => e = .returned (.int .u16 (B off * 256 + B (off + 1))) ∧ Below w.heap.size w w' := by
  have c0 := h off (by omega)
  have c1 := h (off + 1) (by omega)
  have b0 := hB off
  have b1 := hB (off + 1)
  have e1 := u16_or_byte _ _ b0.1 b0.2 b1.1 b1.2
  have hlt := block_of_cell c0
  simp only at hlt
  generalize B off = X at *
  generalize B (off + 1) = Y at *
  obtain ⟨x0, x1⟩ := b0
  obtain ⟨y0, y1⟩ := b1
  have k1 : (1 : Int) < (n : Int) := by omega
  have k0 : (0 : Int) < (n : Int) := by omega
  have k2 : 1 < n := by omega
  have k3 : 0 < n := by omega
  clear h hB
  go_enter Try.func38, Try.ntmps38
  go_wp2_with fail
  refine wp_region_later (by kernel_rfl) (by kernel_rfl) (fun hlc => ?_)
  repeat (go_big_quiet_step (fail))
  refine wpQuiet_nil ?_
  intro wq hbq
  clear hlc
  go_wp2_with fail
  go_ret
  exact ⟨rfl, hbq⟩
theorem wide32 (x y : Int) (hx : 0 ≤ x) (hx' : x ≤ 65535) (hy : 0 ≤ y) (hy' : y ≤ 65535) : bits BinOp.or IntKind.u32 (x * 65536) y = x * 65536 + y := by
  obtain ⟨n, rfl⟩ := Int.eq_ofNat_of_zero_le hx
  obtain ⟨m, rfl⟩ := Int.eq_ofNat_of_zero_le hy
  have e : (n : Int) * 65536 = ((n * 2 ^ 16 : Nat) : Int) := by rw [Int.natCast_mul]; rfl
  rw [e]
  have h1 : (BitVec.ofInt 32 ((n * 2 ^ 16 : Nat) : Int)).toNat = n * 2 ^ 16 := by rw [BitVec.ofInt_natCast, BitVec.toNat_ofNat]; exact Nat.mod_eq_of_lt (by omega)
  have h2 : (BitVec.ofInt 32 ((m : Nat) : Int)).toNat = m := by rw [BitVec.ofInt_natCast, BitVec.toNat_ofNat]; exact Nat.mod_eq_of_lt (by omega)
  show IntKind.u32.wrap ((BitVec.ofInt 32 ((n * 2 ^ 16 : Nat) : Int) ||| BitVec.ofInt 32 ((m : Nat) : Int)).toNat : Int) = _
  rw [BitVec.toNat_or, h1, h2, nat_or_parts n m 16 (by omega), IntKind.wrap_u32]
  omega
def w16 (B : Nat → Int) (k : Nat) : Int := B k * 256 + B (k + 1)
def w32 (B : Nat → Int) (k : Nat) : Int := w16 B k * 65536 + w16 B (k + 2)
theorem w16_bd (B : Nat → Int) (hB : BOk B) (k : Nat) : 0 ≤ w16 B k ∧ w16 B k ≤ 65535 := by
  have h1 := hB k
  have h2 := hB (k + 1)
  unfold w16; omega
theorem w32_bd (B : Nat → Int) (hB : BOk B) (k : Nat) : 0 ≤ w32 B k ∧ w32 B k ≤ 4294967295 := by
  have h1 := w16_bd B hB k
  have h2 := w16_bd B hB (k + 2)
  unfold w32; omega
set_option maxHeartbeats 1000000 in
theorem Get32_at (g off N c : Nat) (B : Nat → Int) (n : Nat) (w : World) (hB : BOk B) (h : Bts w g N B) (hn : off + 4 ≤ N) (h2 : 4 ≤ n) (h3 : n ≤ 9223372036854775807) (hc : n ≤ c) :
    Calls Try.prog 42 #[.slice (some ⟨g, off, none⟩) n c] w fun e w' => e = .returned (.int .u32 (w32 B off)) ∧ Below w.heap.size w w' := by
  have hg1 := fun (u : Later w) => Get16_at g off N c B n u.now hB (h.kept u.still) (by omega) (by omega) h3
  have hg2 := fun (u : Later w) => Get16_at g (off + 2) N (c - 2) B (n - 2) u.now hB (h.kept u.still) (by omega) (by omega) (by omega)
  have b1 := w16_bd B hB off
  have b2 := w16_bd B hB (off + 2)
  have e3 := wide32 _ _ b1.1 b1.2 b2.1 b2.2
  have hv : w32 B off = w16 B off * 65536 + w16 B (off + 2) := rfl
  have r1 : B off * 256 + B (off + 1) = w16 B off := rfl
  have r2 : B (off + 2) * 256 + B (off + 2 + 1) = w16 B (off + 2) := rfl
  rw [r1] at hg1
  rw [r2] at hg2
  obtain ⟨x1, x2⟩ := b1
  obtain ⟨y1, y2⟩ := b2
  clear r1 r2
  rw [hv]
  generalize w16 B off = X at *
  generalize w16 B (off + 2) = Y at *
  have HG1 := Lib.hid hg1
  have HG2 := Lib.hid hg2
  have k1 : (2 : Int) < (c : Int) := by omega
  have k2 : (2 : Int) ≤ (n : Int) := by omega
  have k3 : 2 ≤ n := by omega
  have k4 : ¬ c = 2 := by omega
  have k5 : 2 ≤ c := by omega
  clear hg1 hg2 hv h
  go_enter Try.func42, Try.ntmps42
  go_wp2_with fail
  refine wp_region_later (by kernel_rfl) (by kernel_rfl) (fun hlc => ?_)
  repeat (go_big_quiet_step ((go_at_call 38; first | (with_reducible exact later_call (HG1.out _)) | (with_reducible exact later_call (HG2.out _)))))
  refine wpQuiet_nil ?_
  intro wq hbq
  clear hlc
  go_wp2_with fail
  go_ret
  exact ⟨rfl, hbq⟩
set_option maxHeartbeats 1000000 in
theorem Put16_win (base g off cap n k : Nat) (l : List Int) (v : Int) (w : World) (h : WinAt w base 1 g off cap n (l.map b8)) (hl : l.length = n) (hk : k + 1 < n) (hv : 0 ≤ v) (hv' : v ≤ 65535) :
    Calls Try.prog 36 #[.slice (some ⟨g, off + k, none⟩) (n - k) (cap - k), .int .u16 v] w fun e w' => e = .returned (.tuple #[]) ∧ WinAt w' base 1 g off cap n (((l.set k (v / 256)).set (k + 1) v).map b8) ∧ w.grownBy w' (some g) := by
  have hlt := h.lt
  have hle := h.le
  have hmx := h.mx
  unfold maxLen at hmx
  obtain ⟨u0, c0⟩ : ∃ u, w.cell? ⟨g, off + k, none⟩ = some u := ⟨_, h.here k (b8 (l[k]'(by omega))) (by simp [show k < l.length by omega])⟩
  obtain ⟨u1, c1⟩ : ∃ u, w.cell? ⟨g, off + (k + 1), none⟩ = some u := ⟨_, h.here (k + 1) (b8 (l[k + 1]'(by omega))) (by simp [show k + 1 < l.length by omega])⟩
  have z0 := h.soft k (by omega)
  have z1 := h.soft (k + 1) (by omega)
  rw [← Nat.add_assoc] at c1 z1
  have k0 : (0 : Int) < ((n - k : Nat) : Int) := by omega
  have k1 : (1 : Int) < ((n - k : Nat) : Int) := by omega
  have k2 : 0 < n - k := by omega
  have k3 : 1 < n - k := by omega
  have hs := WinAt.store (WinAt.store h (by simpa using hl) k (by omega) (.int .u8 (v / 256))) (by simpa using hl) (k + 1) hk (.int .u8 (v % 256))
  rw [← Nat.add_assoc] at hs
  have e1 : b8 (v / 256) = .int .u8 (v / 256) := by unfold b8; rw [Int.emod_eq_of_lt (by omega) (by omega)]
  have e2 : b8 v = .int .u8 (v % 256) := rfl
  rw [← e1, ← e2, ← List.map_set, ← List.map_set, e1, e2] at hs
  have HS := Lib.hid hs
  clear hs e1 e2 hl h
  go_enter Try.func36, Try.ntmps36
  go_wp2_with fail
  go_end0
  refine ⟨rfl, HS.out, ?_⟩
  refine only_set ?_ (.inl rfl) _
  refine only_set ?_ (.inl rfl) _
  exact only_refl _ _
end Go.Proofs.Ytpjcbjacdkobmaa
