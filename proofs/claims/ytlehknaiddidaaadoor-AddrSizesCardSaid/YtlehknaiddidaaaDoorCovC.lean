/- The contract of addr.Cover. -/
import Derived.Test.YtlehknaiddidaaaDoorCovW
namespace Go.Proofs.YtlehknaiddidaaaDoor
open Go.RowKit
set_option linter.unusedVariables false

def cvC (p : Nat × Nat) : List Value := [.int .u32 (p.1 : Int), .int .i64 (32 - (p.2 : Int))]
theorem cvC_len (p : Nat × Nat) : (cvC p).length = 2 := rfl
theorem elem_pre : (Tryd.prog.info? 28).map (fun i => (i.size, i.bytes, i.zero.map (·.cells.size))) = some (2, 16, some 2) := by kernel_rfl
theorem or_32 (a : Nat) (h : a < 4294967296) : bits .or .u64 (a : Int) 4294967296 = ((4294967296 + a : Nat) : Int) := by
  have h1 : (BitVec.ofInt 64 (a : Int)).toNat = a := by rw [BitVec.ofInt_natCast, BitVec.toNat_ofNat]; exact Nat.mod_eq_of_lt (by omega)
  show IntKind.u64.wrap ((BitVec.ofInt 64 (a : Int) ||| BitVec.ofInt 64 4294967296).toNat : Int) = _
  rw [BitVec.toNat_or, h1, show (BitVec.ofInt 64 4294967296).toNat = 1 * 2 ^ 32 by rfl, Nat.or_comm, nat_or_parts 1 a 32 (by omega), IntKind.wrap_u64]
  omega
theorem wrap_add (a x : Nat) (h : a + x ≤ 4294967296) : IntKind.u64.wrap ((a : Int) + IntKind.u64.wrap (x : Int)) = ((a + x : Nat) : Int) := by
  rw [IntKind.wrap_u64, IntKind.wrap_u64]; omega
set_option maxRecDepth 100000 in
set_option maxHeartbeats 2000000 in
theorem cover_no (f t : Int) (w : World) (h1 : 0 ≤ f ∧ f ≤ 4294967295) (h2 : 0 ≤ t ∧ t ≤ 4294967295) (h : t < f) :
    Calls Tryd.prog 6 #[.int .u32 f, .int .u32 t] w fun e w' => e = .returned (.tuple #[.slice none 0 0, .int .i64 1]) ∧ Below w.heap.size w w' := by
  have hM := Mem.nil w
  go_enter Tryd.func6, Tryd.ntmps6
  go_wp2_with fail
  refine bodyPost_ret (v := .tuple #[.slice none 0 0, .int .i64 1]) (by simp [results, Tryd.results6, go_sem]) rfl ?_
  exact ⟨rfl, hM.b⟩
set_option maxRecDepth 100000 in
set_option maxHeartbeats 2000000 in
theorem cover_any (f t e : Nat) (he : t + 1 = e) (w : World) (h1 : f ≤ 4294967295) (h2 : t ≤ 4294967295) (h : f ≤ t) (hT : Tab w) :
    Calls Tryd.prog 6 #[.int .u32 f, .int .u32 t] w fun r w' => ∃ v l, r = .returned (.tuple #[v, .int .i64 0]) ∧ Mem w w' [rowR 2 cvC v l] ∧ Cv e f e l := by
  have hM := (Mem.nil w).rowNil 2 cvC
  simp only [List.nil_append] at hM
  have q0 : decide (t < f) = false := by simpa using h
  have HT := Lib.hid hT
  clear hT
  go_enter Tryd.func6, Tryd.ntmps6
  go_wp2_with fail
  have he' : (t : Int) + 1 = (e : Int) := by omega
  simp only [he']
  clear he'
  go_loopw [6, 7] (fun vo va wr => ∃ (a : Nat) (l : List (Nat × Nat)), va = .int .u64 (a : Int) ∧ a ≤ e ∧ Cv e f a l ∧ MemX noE w wr [rowR 2 cvC vo l]) (fun vo va _ => e - (intOf va).toNat)
  case atStart => exact ⟨f, [], rfl, by omega, .nil, hM⟩
  case round =>
    obtain ⟨a, l, rfl, ha, hC, hM⟩ := hrel
    obtain ⟨A, cp, rfl⟩ := (hM.row 0 rfl).form
    by_cases hlt : a < e
    · have q1 : decide ((a : Int) < (e : Int)) = true := by simpa using hlt
      have q2 : decide (a < e) = true := by simpa using hlt
      have hor := or_32 a (by omega)
      have htn : ((e : Int) - (a : Int)).toNat = e - a := by omega
      obtain ⟨hok, h32⟩ := cv_ok e a hlt (by omega)
      have hn : min (Lib.ctz 64 (4294967296 + a)) (Lib.bitLen (e - a) - 1) = cvN e a := rfl
      obtain ⟨c1, _⟩ := ctz_at a (by omega)
      obtain ⟨b1, b2⟩ := bl_spec 64 (e - a) (by omega) (by omega)
      obtain ⟨b2, b3⟩ := b2 (by omega)
      have b4 : Lib.bitLen (e - a) ≤ 64 := by
        have := pow_le_of_lt (k := 64) b2 (by omega); omega
      generalize hcz : Lib.ctz 64 (4294967296 + a) = cz at *
      generalize hbl : Lib.bitLen (e - a) = bl at *
      have TZ := Lib.hid (fun W => fun (h : Tab W) => tz_any (4294967296 + a) (by omega) (by omega) W h)
      have LN := Lib.hid (fun W => len64_any ((e : Int) - (a : Int)) W (by omega) (by omega))
      rw [hcz] at TZ
      rw [htn, hbl] at LN
      clear hcz hbl b1 b2 hor
      have hor := or_32 a (by omega)
      go_upto_region 7 with (first | (go_at_call 9; refine (TZ.out _ (HT.out.kept hM.b)).mono ?_; rintro ee W ⟨rfl, rfl⟩) | (go_at_call 10; refine (LN.out _).mono ?_; rintro ee W ⟨rfl, rfl⟩))
      have hmin : min (cz : Int) ((bl : Int) - 1) = ((cvN e a : Nat) : Int) := by omega
      simp only [hmin]
      have hfew := (hC.few (by omega)).1
      generalize cvN e a = n at *
      have h2n : 2 ^ n ≤ 4294967296 := Nat.le_trans (Nat.pow_le_pow_right (by omega) h32) (by decide)
      have hfit := hok.fit
      have HOK := Lib.hid hok
      clear hmin hn hok TZ LN c1 b2 b3 b4
      go_upto_region 8 with         (first
          | (refine at_bslice_ ?_; refine wpList_bslice_mem rfl _ 28 _ rfl Tryd.underlying23 _ zv_Prefix _ rfl rfl sz_Prefix (Nat.le_of_ble_eq_true rfl) (Nat.le_of_ble_eq_true rfl) hM ?_; clear hM; intro gb W hM; simp only [List.cons_append, List.nil_append] at hM)
          | (refine at_append_ ?_; refine wpList_append_row (f := cvC) rfl _ _ _ 28 rfl Tryd.underlying23 16 elem_pre (by decide) 0 1 _ _ _ (a, n) hM rfl rfl rfl _ rfl rfl (by simp [cvC, Value.oneCell']) (by omega) (by simp only [maxLen]; omega) ?_; clear hM; intro vN W hM; simp only [List.set_cons_zero] at hM)
          | (refine at_box_ ?_; refine wpList_box_mem rfl _ _ rfl _ rfl hM ?_; clear hM; intro gb W hM; first | (simp only [List.nil_append] at hM) | (simp only [List.cons_append, List.nil_append] at hM))
          | (refine at_load_ ?_; refine at_wanted_ (by go_simp) ?_; first | (refine wpList_loadf_mem (by go_simp) _ _ rfl (by kernel_rfl) 0 _ _ _ _ _ hM rfl rfl rfl ?_) | (refine wpList_loadf_mem (by go_simp) _ _ rfl (by kernel_rfl) 1 _ _ _ _ _ hM rfl rfl rfl ?_))
          | (refine at_store_ ?_; first | (refine wpList_store1_mem rfl _ _ _ rfl 0 _ _ _ _ _ hM rfl rfl (by first | ((conv => lhs; whnf); done) | ((conv => lhs; whnf); rfl)) (by rfl) (by rfl) (by kernel_rfl) rfl ?_; clear hM; intro W hM; simp only [List.set_cons_succ, List.set_cons_zero] at hM) | (refine wpList_store1_mem rfl _ _ _ rfl 1 _ _ _ _ _ hM rfl rfl (by first | ((conv => lhs; whnf); done) | ((conv => lhs; whnf); rfl)) (by rfl) (by rfl) (by kernel_rfl) rfl ?_; clear hM; intro W hM; simp only [List.set_cons_succ, List.set_cons_zero] at hM)))
      have hw : IntKind.u64.wrap ((a : Int) + IntKind.u64.wrap (2 ^ n)) = ((a + 2 ^ n : Nat) : Int) := by
        have hz : ((2 : Int) ^ n) = ((2 ^ n : Nat) : Int) := by simp
        rw [hz]; exact wrap_add a (2 ^ n) (by omega)
      have h2p : 0 < 2 ^ n := Nat.two_pow_pos n
      go_wp2_with fail
      go_roundw
      case rel =>
        exact ⟨a + 2 ^ n, l ++ [(a, n)], congrArg (Value.int .u64) (by simp), hfit, .snoc hC HOK.out, hM.take_ 1⟩
      case measure =>
        show e - (intOf (Value.int .u64 _)).toNat < e - (intOf (Value.int .u64 _)).toNat
        have hz : ((2 : Int) ^ n) = ((2 ^ n : Nat) : Int) := by simp
        rw [hz]; simp only [intOf]; generalize 2 ^ n = z at *; clear hw hz hM; omega
    · have q1 : decide ((a : Int) < (e : Int)) = false := by simpa using hlt
      have q2 : decide (a < e) = false := by simpa using hlt
      obtain rfl : a = e := by omega
      go_wp2_with fail
      refine bodyPost_ret (v := .tuple #[.slice A l.length cp, .int .i64 0]) (by simp [results, Tryd.results6, go_sem]) rfl ?_
      exact ⟨_, l, rfl, hM, hC⟩
end Go.Proofs.YtlehknaiddidaaaDoor
