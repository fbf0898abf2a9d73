/- The contract of Sip: a number that k0, k1 and the text make. -/
import Derived.Test.YtgdfjkdcdfmifaaHashS
namespace Go.Proofs.Ytgdfjkdcdfmifaa
open Go.RowKit
set_option linter.unusedVariables false

/-- the state behind m blocks of eight bytes -/
def blkV (s0 : S4) (S : ByteArray) : Nat → S4
  | 0 => s0
  | m + 1 => takeV (blkV s0 S m) (litV (S.extract (8 * m) S.size) 0 8)
def rndV (s : S4) : Nat → S4
  | 0 => s
  | n + 1 => roundV (rndV s n)
def sipS (k0 k1 : Int) : S4 := ⟨xorV k0 8317987319222330741, xorV k1 7237128888997146477, xorV k0 7816392313619706465, xorV k1 8387220255154660723⟩
def sipR (S : ByteArray) : ByteArray := S.extract (8 * (S.size / 8)) S.size
def sipL (S : ByteArray) : Int := litV (sipR S) (IntKind.u64.wrap ((S.size : Int) * 72057594037927936)) (S.size % 8)
def sipT (k0 k1 : Int) (S : ByteArray) : S4 := takeV (blkV (sipS k0 k1) S (S.size / 8)) (sipL S)
def sipE (k0 k1 : Int) (S : ByteArray) : S4 := rndV { sipT k0 k1 S with c := xorV (sipT k0 k1 S).c 255 } 4
def sipV (k0 k1 : Int) (S : ByteArray) : Int := xorV (xorV (xorV (sipE k0 k1 S).a (sipE k0 k1 S).b) (sipE k0 k1 S).c) (sipE k0 k1 S).d
theorem cut_size (S : ByteArray) (k : Nat) (h : k ≤ S.size) : (S.extract k S.size).size = S.size - k := by rw [ByteArray.size_extract]; omega
theorem cut_cut (S : ByteArray) (k j : Nat) (h : k + j ≤ S.size) : (S.extract k S.size).extract j (S.size - k) = S.extract (k + j) S.size := by
  rw [ByteArray.extract_extract]; congr 1; omega
theorem cut_zero (S : ByteArray) : S.extract 0 S.size = S := by simp

theorem sipS_ok (k0 k1 : Int) : (sipS k0 k1).ok := ⟨bits64 .xor _ _, bits64 .xor _ _, bits64 .xor _ _, bits64 .xor _ _⟩
set_option maxRecDepth 100000 in
set_option maxHeartbeats 4000000 in
theorem Sip_any (k0 k1 : Int) (S : ByteArray) (w : World) (h0 : W64 k0) (h1 : W64 k1) (hS : S.size ≤ 140737488355328) :
    Calls Try.prog 45 #[.int .u64 k0, .int .u64 k1, .string S] w fun e w' => e = .returned (.int .u64 (sipV k0 k1 S)) ∧ Below w.heap.size w w' := by
  go_enter Try.func45, Try.ntmps45
  go_wp2_with fail
  go_loopw [2] (fun u wr => ∃ m : Nat, 8 * m ≤ S.size ∧ u = .string (S.extract (8 * m) S.size) ∧ S4At wr w.heap.size (blkV (sipS k0 k1) S m) ∧ (blkV (sipS k0 k1) S m).ok ∧ Below w.heap.size w wr) (fun u _ => match u with | .string s => s.size | _ => 0)
  case atStart =>
    refine ⟨0, by omega, by rw [Nat.mul_zero, cut_zero], ?_, sipS_ok _ _, below_ca (Below.refl _ _) _⟩
    exact At.new_ _ _ _
  case round =>
    obtain ⟨m, hm, rfl, hSt, hok, hB⟩ := hrel
    have hsz := cut_size S (8 * m) hm
    by_cases hlt : 8 ≤ S.size - 8 * m
    · have hge : (8 : Int) ≤ ((S.extract (8 * m) S.size).size : Int) := by omega
      go_wp2_with fail
      refine (Little_any _ _ (by omega) (by omega)).mono ?_
      rintro e w1 ⟨rfl, rfl⟩
      go_wp2_with fail
      refine (Take_any _ _ _ _ hSt hok (lit64 _ _ (by constructor <;> omega) _)).mono ?_
      rintro e w2 ⟨rfl, hSt2, hok2, hO2⟩
      go_wp2_with fail
      have hsz2 := cut_size S (8 * m + 8) (by omega)
      go_roundw
      case rel => exact ⟨m + 1, by omega, by rw [cut_cut S (8 * m) 8 (by omega)]; rfl, hSt2, hok2, below_only hB hO2 (Nat.le_refl _)⟩
      case measure => simp only; rw [cut_cut S (8 * m) 8 (by omega)]; omega
    · obtain rfl : m = S.size / 8 := by omega
      have hge : ¬ (8 : Int) ≤ ((S.extract (8 * (S.size / 8)) S.size).size : Int) := by omega
      have hst : sipT k0 k1 S = takeV (blkV (sipS k0 k1) S (S.size / 8)) (sipL S) := rfl
      have HST := Lib.hid hst
      clear hst
      have hr8 : (sipR S).size = S.size % 8 := by unfold sipR; omega
      have HR : S.extract (8 * (S.size / 8)) S.size = sipR S := rfl
      rw [HR] at *
      generalize hR : sipR S = R at *
      have HRR := Lib.hid hR
      clear hR HR
      go_wp2_with fail
      go_loop [35, 8] (fun i l => ∃ k : Nat, k ≤ R.size ∧ i = .int .i64 k ∧ l = .int .u64 (litV R (IntKind.u64.wrap ((S.size : Int) * 72057594037927936)) k)) (fun i l => R.size - (intOf i).toNat)
      case atStart => exact ⟨0, by omega, rfl, rfl⟩
      case round =>
        obtain ⟨k, hk, rfl, rfl⟩ := hrel
        by_cases hlt2 : k < R.size
        · go_wp2_with fail
          go_round
          case rel => exact ⟨k + 1, by omega, by go_num, by rw [byte_at R k hlt2]; rfl⟩
          case measure => simp [intOf]; omega
        · obtain rfl : k = R.size := by omega
          have hL : litV R (IntKind.u64.wrap ((S.size : Int) * 72057594037927936)) R.size = sipL S := by
            unfold sipL; rw [HRR.out, hr8]
          have hLw : W64 (sipL S) := by rw [← hL]; exact lit64 _ _ (wrap64 _) _
          rw [hL]
          go_wp2_with fail
          refine (Take_any _ _ _ _ hSt hok hLw).mono ?_
          rintro e w2 ⟨rfl, hSt2, hok2, hO2⟩
          rw [← HST.out] at hSt2 hok2
          have hB2 := below_only hB hO2 (Nat.le_refl _)
          have hlt3 := hSt2.lt
          have c2 : w2.cell? ⟨w.heap.size, 2, none⟩ = some (.int .u64 (sipT k0 k1 S).c) := hSt2.cell 2
          have z2 := hSt2.free 2
          go_wp2_with fail
          go_region
          refine ex_gen (fun W => S4At W w.heap.size { sipT k0 k1 S with c := xorV (sipT k0 k1 S).c 255 } ∧ Below w.heap.size w W) ⟨(At.set_ hSt2 2 _).drew, (hB2.setCell (Nat.le_refl _) _).drew⟩ ?_
          rintro W3 ⟨hS3, hB3⟩
          clear c2 z2 hlt3
          go_wp2_with fail
          have hE : sipE k0 k1 S = rndV { sipT k0 k1 S with c := xorV (sipT k0 k1 S).c 255 } 4 := rfl
          have hV : sipV k0 k1 S = xorV (xorV (xorV (sipE k0 k1 S).a (sipE k0 k1 S).b) (sipE k0 k1 S).c) (sipE k0 k1 S).d := rfl
          have HE := Lib.hid hE
          have HV := Lib.hid hV
          have hokT : S4.ok { sipT k0 k1 S with c := xorV (sipT k0 k1 S).c 255 } := ⟨hok2.1, hok2.2.1, bits64 .xor _ _, hok2.2.2.2⟩
          clear hE hV hok2 hSt2 HST
          generalize ({ sipT k0 k1 S with c := xorV (sipT k0 k1 S).c 255 } : S4) = T at *
          go_loopw [58] (fun i wr => ∃ n : Nat, n ≤ 4 ∧ i = .int .i64 n ∧ S4At wr w.heap.size (rndV T n) ∧ (rndV T n).ok ∧ Below w.heap.size w wr) (fun i _ => 4 - (intOf i).toNat)
          case atStart => exact ⟨0, by omega, rfl, hS3, hokT, hB3⟩
          case round =>
            obtain ⟨n, hn, rfl, hSn, hokn, hBn⟩ := hrel
            by_cases hlt4 : n < 4
            · go_wp2_with fail
              refine (Round_any _ _ _ hSn hokn).mono ?_
              rintro e w5 ⟨rfl, hS5, hok5, hO5⟩
              go_wp2_with fail
              go_roundw
              case rel => exact ⟨n + 1, by omega, by go_num, hS5, hok5, below_only hBn hO5 (Nat.le_refl _)⟩
              case measure => simp [intOf]; omega
            · obtain rfl : n = 4 := by omega
              rw [← HE.out] at hSn
              generalize sipE k0 k1 S = E at *
              have hltE := hSn.lt
              rename_i wz _ _ _
              have c0 := At.cell hSn 0
              have c1 := At.cell hSn 1
              have c2 := At.cell hSn 2
              have c3 := At.cell hSn 3
              simp at c0 c1 c2 c3
              go_wp2_with fail
              refine wp_region_later (by kernel_rfl) (by kernel_rfl) (fun hlc => ?_)
              repeat (go_big_quiet_step (fail))
              refine wpQuiet_nil ?_
              intro wq hbq
              clear hlc
              go_wp2_with fail
              go_ret
              exact ⟨ret_int HV.out.symm, below_c hBn hbq⟩
end Go.Proofs.Ytgdfjkdcdfmifaa
