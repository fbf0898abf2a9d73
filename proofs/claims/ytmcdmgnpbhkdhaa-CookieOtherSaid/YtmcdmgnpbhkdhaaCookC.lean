/- Contracts of the package cookie. -/
import Derived.Test.YtmcdmgnpbhkdhaaHashQ
import Derived.Test.YtmcdmgnpbhkdhaaBits
import Derived.Outline
namespace Go.Proofs.Ytmcdmgnpbhkdhaa
open Go.RowKit
set_option linter.unusedVariables false

abbrev KeyAt (w : World) (g : Nat) (k0 k1 : Int) : Prop := At w g 104 [.int .u64 k0, .int .u64 k1]
theorem ckNew_any (k0 k1 : Int) (w : World) :
    Calls Try.prog 31 #[.int .u64 k0, .int .u64 k1] w fun e w' => e = .returned (.pointer (some ⟨w.heap.size, 0, none⟩)) ∧ KeyAt w' w.heap.size k0 k1 ∧ Below w.heap.size w w' := by
  go_enter Try.func31, Try.ntmps31
  go_wp2
  go_ret
  exact ⟨rfl, At.new_ _ _ _, below_ca (Below.refl _ _) _⟩
theorem isTime_any (n : Int) (w : World) (h : 0 ≤ n) (h' : n ≤ 1099511627776) :
    Calls Try.prog 46 #[.int .i64 n] w fun e w' => e = .returned (.bool true) ∧ w = w' := by
  go_enter Try.func46, Try.ntmps46
  go_wp2
  go_ret
  exact ⟨rfl, rfl⟩
def st (k : Nat) : Int := [8, 64, 216, 400, 536, 700, 850, 1000].getD k 0
abbrev stepsV : Value := .agg #[.int .i64 8, .int .i64 64, .int .i64 216, .int .i64 400, .int .i64 536, .int .i64 700, .int .i64 850, .int .i64 1000]
theorem steps_any (w : World) : Calls Try.prog 47 #[] w fun e w' => e = .returned stepsV ∧ Below w.heap.size w w' := by
  go_enter Try.func47, Try.ntmps47
  go_wp2
  exact bodyPost_ret (v := stepsV) (by simp [results, Try.results47, go_sem]) rfl ⟨rfl, below_ca (Below.refl _ _) _⟩
theorem cases8 (k : Nat) (h : k < 8) : k = 0 ∨ k = 1 ∨ k = 2 ∨ k = 3 ∨ k = 4 ∨ k = 5 ∨ k = 6 ∨ k = 7 := by omega
theorem steps_at (k : Nat) (h : k < 8) (W : World) : (Instr.index 105 stepsV (.int .i64 (k : Int))).run Try.prog W = .ok (.int .i64 (st k)) W := by
  rcases cases8 k h with rfl | rfl | rfl | rfl | rfl | rfl | rfl | rfl <;> kernel_rfl
theorem st_lo (k : Nat) (h : k < 8) : 8 ≤ st k ∧ st k ≤ 1000 := by
  rcases cases8 k h with rfl | rfl | rfl | rfl | rfl | rfl | rfl | rfl <;> simp [st]
/-- the greatest step that is not above mss, among the first k -/
def stepZ (mss : Int) : Nat → Nat
  | 0 => 0
  | k + 1 => if st k ≤ mss then k else stepZ mss k
theorem stepZ_lt (mss : Int) : ∀ k, k ≤ 8 → stepZ mss k ≤ 7
  | 0, _ => by simp [stepZ]
  | k + 1, h => by unfold stepZ; split; omega; exact stepZ_lt mss k (by omega)
theorem u32_and_24 (x : Int) (h : 0 ≤ x) (h' : x ≤ 4294967295) : bits .and .u32 x 16777215 = x % 16777216 := by
  obtain ⟨n, rfl⟩ := Int.eq_ofNat_of_zero_le h
  have h1 : (BitVec.ofInt 32 ((n : Nat) : Int)).toNat = n := by rw [BitVec.ofInt_natCast, BitVec.toNat_ofNat]; exact Nat.mod_eq_of_lt (by omega)
  show IntKind.u32.wrap ((BitVec.ofInt 32 ((n : Nat) : Int) &&& BitVec.ofInt 32 16777215).toNat : Int) = _
  rw [BitVec.toNat_and, h1, show (BitVec.ofInt 32 16777215).toNat = 2 ^ 24 - 1 by rfl, Nat.and_two_pow_sub_one_eq_mod, IntKind.wrap_u32]
  omega
theorem i64_and_31 (x : Int) (h : 0 ≤ x) (h' : x ≤ 9223372036854775807) : bits .and .i64 x 31 = x % 32 := by
  obtain ⟨n, rfl⟩ := Int.eq_ofNat_of_zero_le h
  have h1 : (BitVec.ofInt 64 ((n : Nat) : Int)).toNat = n := by rw [BitVec.ofInt_natCast, BitVec.toNat_ofNat]; exact Nat.mod_eq_of_lt (by omega)
  show IntKind.i64.wrap ((BitVec.ofInt 64 ((n : Nat) : Int) &&& BitVec.ofInt 64 31).toNat : Int) = _
  rw [BitVec.toNat_and, h1, show (BitVec.ofInt 64 31).toNat = 2 ^ 5 - 1 by rfl, Nat.and_two_pow_sub_one_eq_mod, IntKind.wrap_i64]
  omega
theorem u32_and_7 (x : Int) (h : 0 ≤ x) (h' : x ≤ 4294967295) : bits .and .u32 x 7 = x % 8 := by
  obtain ⟨n, rfl⟩ := Int.eq_ofNat_of_zero_le h
  have h1 : (BitVec.ofInt 32 ((n : Nat) : Int)).toNat = n := by rw [BitVec.ofInt_natCast, BitVec.toNat_ofNat]; exact Nat.mod_eq_of_lt (by omega)
  show IntKind.u32.wrap ((BitVec.ofInt 32 ((n : Nat) : Int) &&& BitVec.ofInt 32 7).toNat : Int) = _
  rw [BitVec.toNat_and, h1, show (BitVec.ofInt 32 7).toNat = 2 ^ 3 - 1 by rfl, Nat.and_two_pow_sub_one_eq_mod, IntKind.wrap_u32]
  omega
theorem u32_or_low (a b : Int) (k : Nat) (ha : 0 ≤ a) (hb : 0 ≤ b) (hb' : b < 2 ^ k) (h : a * 2 ^ k + b ≤ 4294967295) : bits .or .u32 (a * 2 ^ k) b = a * 2 ^ k + b := by
  obtain ⟨n, rfl⟩ := Int.eq_ofNat_of_zero_le ha
  obtain ⟨m, rfl⟩ := Int.eq_ofNat_of_zero_le hb
  have hm : m < 2 ^ k := by exact_mod_cast hb'
  have e : (n : Int) * 2 ^ k = ((n * 2 ^ k : Nat) : Int) := by push_cast; rfl
  rw [e] at h ⊢
  have h1 : (BitVec.ofInt 32 ((n * 2 ^ k : Nat) : Int)).toNat = n * 2 ^ k := by rw [BitVec.ofInt_natCast, BitVec.toNat_ofNat]; exact Nat.mod_eq_of_lt (by omega)
  have h2 : (BitVec.ofInt 32 ((m : Nat) : Int)).toNat = m := by rw [BitVec.ofInt_natCast, BitVec.toNat_ofNat]; exact Nat.mod_eq_of_lt (by omega)
  show IntKind.u32.wrap ((BitVec.ofInt 32 ((n * 2 ^ k : Nat) : Int) ||| BitVec.ofInt 32 ((m : Nat) : Int)).toNat : Int) = _
  rw [BitVec.toNat_or, h1, h2, nat_or_parts n m k hm, IntKind.wrap_u32]
  omega
/-- the lowest 24 bits of the hash -/
def ckV (k0 k1 fa fp ta tp irs first : Int) : Int := sipV k0 (bits .xor .u64 (bits .xor .u64 k1 irs) (first * 4294967296)) (byteS (endL fa fp ++ endL ta tp)) % 16777216
theorem ckV_bd (k0 k1 fa fp ta tp irs first : Int) : 0 ≤ ckV k0 k1 fa fp ta tp irs first ∧ ckV k0 k1 fa fp ta tp irs first < 16777216 := by unfold ckV; omega
set_option maxRecDepth 100000 in
set_option maxHeartbeats 1000000 in
theorem cksum_any (g : Nat) (k0 k1 fa fp ta tp irs first : Int) (w : World) (hK : KeyAt w g k0 k1) (h0 : W64 k0) (h1 : W64 k1) (hfa : 0 ≤ fa) (hfa' : fa ≤ 4294967295) (hta : 0 ≤ ta) (hta' : ta ≤ 4294967295)
    (hfp : -9223372036854775808 ≤ fp) (hfp' : fp ≤ 9223372036854775807) (htp : -9223372036854775808 ≤ tp) (htp' : tp ≤ 9223372036854775807) (hi : 0 ≤ irs) (hi' : irs ≤ 4294967295) (hf : 0 ≤ first) (hf' : first ≤ 255) :
    Calls Try.prog 48 #[.pointer (some ⟨g, 0, none⟩), .agg #[.int .u32 fa, .int .i64 fp], .agg #[.int .u32 ta, .int .i64 tp], .int .u32 irs, .int .u32 first] w fun e w' =>
      e = .returned (.int .u32 (ckV k0 k1 fa fp ta tp irs first)) ∧ Below w.heap.size w w' := by
  go_enter Try.func48, Try.ntmps48
  go_upto_region 1 with (fail)
  refine wp_gen (fun W => Below w.heap.size w W ∧ At W w.heap.size 42 [.int .u32 fa, .int .i64 fp] ∧ At W (w.heap.size + 1) 42 [.int .u32 ta, .int .i64 tp]) ⟨by repeat' (first | with_reducible exact Below.refl _ _ | with_reducible assumption | with_reducible refine Below.drew ?_ | with_reducible refine below_dn ?_ _ | with_reducible refine below_ca ?_ _ | with_reducible refine Below.setCell ?_ ?_ _ | (refine below_c ?_ (by with_reducible assumption)) | (simp <;> omega) | omega), At.alloc (At.new_ _ _ _) _, ?_⟩ ?_
  · have h := At.new_ (w.alloc (.cells #[.int .u32 fa, .int .i64 fp] 42)) 42 [.int .u32 ta, .int .i64 tp]
    rw [show (w.alloc (.cells #[.int .u32 fa, .int .i64 fp] 42)).heap.size = w.heap.size + 1 by simp] at h
    exact h
  rintro W1 ⟨hB1, hF1, hT1⟩
  have hK1 := hK.kept hB1
  have c0 := hK1.cell 0
  have c1 := hK1.cell 1
  have hlt := hK1.lt
  have x0 := hF1.cell 0
  have x1 := hF1.cell 1
  have x2 := hT1.cell 0
  have x3 := hT1.cell 1
  have l0 := hF1.lt
  have l1 := hT1.lt
  simp at c0 c1 x0 x1 x2 x3
  clear hK hK1 hF1 hT1
  refine wp_region_later (by kernel_rfl) (by kernel_rfl) (fun hlc => ?_)
  repeat (go_big_quiet_step ((go_at_call 54; exact later_call (Pair_any _ _ _ _ _ _ _ (by constructor <;> omega) (bits64 _ _ _) (by omega) (by omega) (by omega) (by omega) (by omega) (by omega) (by omega) (by omega)))))
  refine wpQuiet_nil ?_
  intro wq hbq
  clear hlc
  go_wp2_with fail
  go_ret
  exact ⟨ret_int (by rw [u32_and_24 _ (by omega) (by omega)]; unfold ckV; omega), below_c hB1 hbq⟩
def firstZ (now mss : Int) : Int := now / 64 % 32 * 8 + stepZ mss 8
set_option maxRecDepth 100000 in
set_option maxHeartbeats 2000000 in
theorem Make_any (g : Nat) (k0 k1 fa fp ta tp irs mss now : Int) (w : World) (hK : KeyAt w g k0 k1) (h0 : W64 k0) (h1 : W64 k1) (hfa : 0 ≤ fa) (hfa' : fa ≤ 4294967295) (hta : 0 ≤ ta) (hta' : ta ≤ 4294967295)
    (hfp : -9223372036854775808 ≤ fp) (hfp' : fp ≤ 9223372036854775807) (htp : -9223372036854775808 ≤ tp) (htp' : tp ≤ 9223372036854775807) (hi : 0 ≤ irs) (hi' : irs ≤ 4294967295)
    (hm : 8 ≤ mss) (hm' : mss ≤ 9223372036854775807) (hn : 0 ≤ now) (hn' : now ≤ 1099511627776) :
    Calls Try.prog 32 #[.pointer (some ⟨g, 0, none⟩), .agg #[.int .u32 fa, .int .i64 fp], .agg #[.int .u32 ta, .int .i64 tp], .int .u32 irs, .int .i64 mss, .int .i64 now] w fun e w' =>
      e = .returned (.tuple #[.int .u32 (firstZ now mss * 16777216 + ckV k0 k1 fa fp ta tp irs (firstZ now mss)), .int .i64 0]) ∧ Below w.heap.size w w' := by
  have hx := steps_at
  obtain ⟨F, hF⟩ : ∃ F, firstZ now mss = F := ⟨_, rfl⟩
  have hs7 := stepZ_lt mss 8 (by omega)
  have e2 : bits .or .u32 (now / 64 % 32 * 8) (stepZ mss 8 : Int) = F := by
    have := u32_or_low (now / 64 % 32) (stepZ mss 8) 3 (by omega) (by omega) (by omega) (by omega)
    rw [← hF]; unfold firstZ; simpa using this
  have hF1' : 0 ≤ F ∧ F ≤ 255 := by rw [← hF]; unfold firstZ; omega
  obtain ⟨f0, f1⟩ := hF1'
  have E2 := Lib.hid e2
  have HF := Lib.hid hF
  have HX := Lib.hid hx
  clear e2 hF hx
  rw [HF.out]
  go_enter Try.func32, Try.ntmps32
  go_upto_region 1 with (fail)
  refine wp_gen (fun W => Below w.heap.size w W ∧ At W w.heap.size 42 [.int .u32 fa, .int .i64 fp] ∧ At W (w.heap.size + 1) 42 [.int .u32 ta, .int .i64 tp]) ⟨by repeat' (first | with_reducible exact Below.refl _ _ | with_reducible assumption | with_reducible refine Below.drew ?_ | with_reducible refine below_dn ?_ _ | with_reducible refine below_ca ?_ _ | with_reducible refine Below.setCell ?_ ?_ _ | (refine below_c ?_ (by with_reducible assumption)) | (simp <;> omega) | omega), At.alloc (At.new_ _ _ _) _, ?_⟩ ?_
  · have h := At.new_ (w.alloc (.cells #[.int .u32 fa, .int .i64 fp] 42)) 42 [.int .u32 ta, .int .i64 tp]
    rw [show (w.alloc (.cells #[.int .u32 fa, .int .i64 fp] 42)).heap.size = w.heap.size + 1 by simp] at h
    exact h
  rintro W1 ⟨hB1, hF1, hT1⟩
  have hK1 := hK.kept hB1
  go_wp2_with (first | (go_at_call 46; go_must (refine (isTime_any _ _ (by omega) (by omega)).mono ?_; rintro e w1 ⟨rfl, rfl⟩)) | (go_at_call 47; go_must (refine (steps_any _).mono ?_; rintro e w2 ⟨rfl, hB2⟩)))
  have hK2 := hK1.kept hB2
  have hF2 := hF1.kept hB2
  have hT2 := hT1.kept hB2
  have hBB := below_c hB1 hB2
  clear hK1 hF1 hT1
  go_loop [26, 14] (fun i t => ∃ k : Nat, k ≤ 8 ∧ i = .int .i64 k ∧ t = .int .u32 (stepZ mss k)) (fun i _ => 8 - (intOf i).toNat)
  case atStart => exact ⟨0, by omega, rfl, rfl⟩
  case round =>
    obtain ⟨k, hk, rfl, rfl⟩ := hrel
    by_cases hlt : k < 8
    · have hxk := HX.out k hlt
      have hl := st_lo k hlt
      obtain ⟨hl1, hl2⟩ := hl
      have hsz : stepZ mss (k + 1) = if st k ≤ mss then k else stepZ mss k := rfl
      have HS := Lib.hid hsz
      clear hsz
      by_cases hle : st k ≤ mss
      · go_wp2_with fail
        go_round
        case rel => exact ⟨k + 1, by omega, by go_num, by rw [HS.out, if_pos hle]⟩
        case measure => simp [intOf]; omega
      · go_wp2_with fail
        go_round
        case rel => exact ⟨k + 1, by omega, by go_num, by rw [HS.out, if_neg hle]⟩
        case measure => simp [intOf]; omega
    · obtain rfl : k = 8 := by omega
      have e1 := i64_and_31 (now / 64) (by omega) (by omega)
      have e2 := E2.out
      have x0 := hF2.cell 0
      have x1 := hF2.cell 1
      have x2 := hT2.cell 0
      have x3 := hT2.cell 1
      simp at x0 x1 x2 x3
      go_wp2_with fail
      clear e1 e2
      refine (cksum_any g k0 k1 fa fp ta tp irs F _ hK2 h0 h1 hfa hfa' hta hta' hfp hfp' htp htp' hi hi' f0 f1).mono ?_
      rintro e w3 ⟨rfl, hB3⟩
      have hc := ckV_bd k0 k1 fa fp ta tp irs F
      have e3 : bits .or .u32 (F * 16777216) (ckV k0 k1 fa fp ta tp irs F) = F * 16777216 + ckV k0 k1 fa fp ta tp irs F := by
        have := u32_or_low F (ckV k0 k1 fa fp ta tp irs F) 24 f0 hc.1 (by omega) (by omega)
        simpa using this
      go_wp2_with fail
      go_ret2
      exact ⟨rfl, below_c hBB hB3⟩
/-- does the slot fit? -/
def slotB (c now : Int) : Bool := decide (c / 16777216 / 8 = now / 64 % 32) || (decide (64 ≤ now) && decide (c / 16777216 / 8 = (now - 64) / 64 % 32))
set_option maxRecDepth 100000 in
set_option maxHeartbeats 2000000 in
theorem CkCheck_late (g : Nat) (k0 k1 fa fp ta tp irs c now : Int) (w : World) (hi : 0 ≤ irs) (hi' : irs ≤ 4294967295)
    (hc : 0 ≤ c) (hc' : c ≤ 4294967295) (hn : 0 ≤ now) (hn' : now ≤ 1099511627776) (hs : slotB c now = false) :
    Calls Try.prog 33 #[.pointer (some ⟨g, 0, none⟩), .agg #[.int .u32 fa, .int .i64 fp], .agg #[.int .u32 ta, .int .i64 tp], .int .u32 irs, .int .u32 c, .int .i64 now] w fun e w' =>
      e = .returned (.tuple #[.int .i64 0, .int .i64 13]) ∧ Below w.heap.size w w' := by
  have e1 := i64_and_31 (now / 64) (by omega) (by omega)
  have h1 : ¬ (c / 16777216 / 8 = now / 64 % 32) := by intro h; unfold slotB at hs; simp [h] at hs
  by_cases hn6 : now < 64
  · clear hs
    have d1 : ((c / 16777216 / 8 : Int) != now / 64 % 32) = true := by simpa using h1
    clear h1
    go_enter Try.func33, Try.ntmps33
    go_upto_region 1 with (fail)
    refine wp_gen (fun W => Below w.heap.size w W) (by repeat' (first | with_reducible exact Below.refl _ _ | with_reducible assumption | with_reducible refine Below.drew ?_ | with_reducible refine below_dn ?_ _ | with_reducible refine below_ca ?_ _ | with_reducible refine Below.setCell ?_ ?_ _ | (refine below_c ?_ (by with_reducible assumption)) | (simp <;> omega) | omega)) ?_
    intro W1 hB1
    go_wp2_with (first | (go_at_call 46; go_must (refine (isTime_any _ _ (by omega) (by omega)).mono ?_; rintro e w1 ⟨rfl, rfl⟩)))
    go_ret2
    exact ⟨rfl, hB1⟩
  · have h2 : ¬ (c / 16777216 / 8 = (now - 64) / 64 % 32) := by
      intro h; unfold slotB at hs; simp [h] at hs
      omega
    have e2 := i64_and_31 ((now - 64) / 64) (by omega) (by omega)
    clear hs
    have d1 : ((c / 16777216 / 8 : Int) != now / 64 % 32) = true := by simpa using h1
    have d2 : ((c / 16777216 / 8 : Int) != (now - 64) / 64 % 32) = true := by simpa using h2
    clear h1 h2
    go_enter Try.func33, Try.ntmps33
    go_upto_region 1 with (fail)
    refine wp_gen (fun W => Below w.heap.size w W) (by repeat' (first | with_reducible exact Below.refl _ _ | with_reducible assumption | with_reducible refine Below.drew ?_ | with_reducible refine below_dn ?_ _ | with_reducible refine below_ca ?_ _ | with_reducible refine Below.setCell ?_ ?_ _ | (refine below_c ?_ (by with_reducible assumption)) | (simp <;> omega) | omega)) ?_
    intro W1 hB1
    go_wp2_with (first | (go_at_call 46; go_must (refine (isTime_any _ _ (by omega) (by omega)).mono ?_; rintro e w1 ⟨rfl, rfl⟩)))
    go_ret2
    exact ⟨rfl, hB1⟩
theorem steps_at32 (k : Nat) (h : k < 8) (W : World) : (Instr.index 105 stepsV (.int .u32 (k : Int))).run Try.prog W = .ok (.int .i64 (st k)) W := by
  rcases cases8 k h with rfl | rfl | rfl | rfl | rfl | rfl | rfl | rfl <;> kernel_rfl
set_option maxRecDepth 100000 in
set_option maxHeartbeats 2000000 in
theorem CkCheck_ok (g : Nat) (k0 k1 fa fp ta tp irs c now : Int) (w : World) (hK : KeyAt w g k0 k1) (h0 : W64 k0) (h1 : W64 k1) (hfa : 0 ≤ fa) (hfa' : fa ≤ 4294967295) (hta : 0 ≤ ta) (hta' : ta ≤ 4294967295)
    (hfp : -9223372036854775808 ≤ fp) (hfp' : fp ≤ 9223372036854775807) (htp : -9223372036854775808 ≤ tp) (htp' : tp ≤ 9223372036854775807) (hi : 0 ≤ irs) (hi' : irs ≤ 4294967295)
    (hc : 0 ≤ c) (hc' : c ≤ 4294967295) (hn : 0 ≤ now) (hn' : now ≤ 1099511627776) (hs : slotB c now = true) (hv : ckV k0 k1 fa fp ta tp irs (c / 16777216) = c % 16777216) (k : Nat) (hk : c / 16777216 % 8 = (k : Int)) :
    Calls Try.prog 33 #[.pointer (some ⟨g, 0, none⟩), .agg #[.int .u32 fa, .int .i64 fp], .agg #[.int .u32 ta, .int .i64 tp], .int .u32 irs, .int .u32 c, .int .i64 now] w fun e w' =>
      e = .returned (.tuple #[.int .i64 (st k), .int .i64 0]) ∧ Below w.heap.size w w' := by
  have hx := steps_at32 k (by omega)
  have e1 := i64_and_31 (now / 64) (by omega) (by omega)
  have e4 := u32_and_24 c (by omega) (by omega)
  have e5 := u32_and_7 (c / 16777216) (by omega) (by omega)
  rw [hk] at e5
  have E4 := Lib.hid e4
  have E5 := Lib.hid e5
  have HV := Lib.hid hv
  have HX := Lib.hid hx
  clear e4 e5 hv hx hk
  have HS := Lib.hid hs
  clear hs
  go_enter Try.func33, Try.ntmps33
  go_upto_region 1 with (fail)
  refine wp_gen (fun W => Below w.heap.size w W ∧ At W w.heap.size 42 [.int .u32 fa, .int .i64 fp] ∧ At W (w.heap.size + 1) 42 [.int .u32 ta, .int .i64 tp]) ⟨by repeat' (first | with_reducible exact Below.refl _ _ | with_reducible assumption | with_reducible refine Below.drew ?_ | with_reducible refine below_dn ?_ _ | with_reducible refine below_ca ?_ _ | with_reducible refine Below.setCell ?_ ?_ _ | (refine below_c ?_ (by with_reducible assumption)) | (simp <;> omega) | omega), At.alloc (At.new_ _ _ _) _, ?_⟩ ?_
  · have h := At.new_ (w.alloc (.cells #[.int .u32 fa, .int .i64 fp] 42)) 42 [.int .u32 ta, .int .i64 tp]
    rw [show (w.alloc (.cells #[.int .u32 fa, .int .i64 fp] 42)).heap.size = w.heap.size + 1 by simp] at h
    exact h
  rintro W1 ⟨hB1, hF1, hT1⟩
  have hK1 := hK.kept hB1
  go_upto_region 5 with (first | (go_at_call 46; go_must (refine (isTime_any _ _ (by omega) (by omega)).mono ?_; rintro e w1 ⟨rfl, rfl⟩)))
  go_cut [40] (fun s wc => s = .bool false ∧ wc = W1)
  case first =>
    have hs := HS.out
    by_cases h1' : c / 16777216 / 8 = now / 64 % 32
    · have d1 : ((c / 16777216 / 8 : Int) != now / 64 % 32) = false := by simpa using h1'
      clear h1' hs
      go_wp2_with fail
      go_meet
      case rel => exact ⟨rfl, rfl⟩
    · have d1 : ((c / 16777216 / 8 : Int) != now / 64 % 32) = true := by simpa using h1'
      have h2 : 64 ≤ now ∧ c / 16777216 / 8 = (now - 64) / 64 % 32 := by
        unfold slotB at hs
        simp [h1'] at hs
        exact hs
      obtain ⟨h64, h2⟩ := h2
      have e2 := i64_and_31 ((now - 64) / 64) (by omega) (by omega)
      have d2 : ((c / 16777216 / 8 : Int) != (now - 64) / 64 % 32) = false := by simpa using h2
      have d0 : decide (now < 64) = false := by simp; omega
      clear h1' hs h2
      go_wp2_with fail
      go_meet
      case rel => exact ⟨rfl, rfl⟩
  case rest =>
    obtain ⟨rfl, rfl⟩ := hcut
    clear e1
    have x0 := hF1.cell 0
    have x1 := hF1.cell 1
    have x2 := hT1.cell 0
    have x3 := hT1.cell 1
    simp at x0 x1 x2 x3
    go_wp2_with fail
    refine (cksum_any g k0 k1 fa fp ta tp irs (c / 16777216) _ hK1 h0 h1 hfa hfa' hta hta' hfp hfp' htp htp' hi hi' (by omega) (by omega)).mono ?_
    rintro e w3 ⟨rfl, hB3⟩
    have e4 := E4.out
    have d4 : ((ckV k0 k1 fa fp ta tp irs (c / 16777216) : Int) != c % 16777216) = false := by rw [HV.out]; simp
    go_wp2_with fail
    clear d4 e4
    refine (steps_any _).mono ?_
    rintro e w4 ⟨rfl, hB4⟩
    have e5 := E5.out
    have hx := HX.out
    go_wp2_with fail
    go_ret2
    exact ⟨rfl, below_c (below_c hB1 hB3) hB4⟩
end Go.Proofs.Ytmcdmgnpbhkdhaa
