/- The contract of ip's Read. -/
import Derived.Test.YtpjcbjacdkobmaaIpR
import Derived.Test.YtpjcbjacdkobmaaQAlloc
import Derived.Deep.CutBlock
namespace Go.Proofs.Ytpjcbjacdkobmaa
open Go.RowKit
set_option linter.unusedVariables false

/-- byte k of a text -/
def bs (s : ByteArray) (k : Nat) : Int := ((s.data[k]?.getD 0).toNat : Int)
theorem bs_ok (s : ByteArray) : BOk (bs s) := fun k => by
  unfold bs; have := (s.data[k]?.getD 0).toNat_lt; omega
def zeroPk : Pk := ⟨0, 0, 0, 0, 0, false, false, 0, ⟨#[]⟩⟩
def rdOff (s : ByteArray) : Int := w16 (bs s) 6
def rdPk (s : ByteArray) : Pk := { s := w32 (bs s) 12, d := w32 (bs s) 16, pr := bs s 9, tl := bs s 8, id := w16 (bs s) 4, df := decide (0 < rdOff s / 16384 % 2 * 16384), mf := decide (0 < rdOff s / 8192 % 2 * 8192), off := rdOff s % 8192, b := s.extract 20 s.size }
def rdErr (s : ByteArray) : Int :=
  if s.size < 20 then 3 else if bs s 0 ≠ 69 then 6 else if bs s 1 ≠ 0 ∨ 32768 ≤ rdOff s then 4 else if (s.size : Int) < w16 (bs s) 2 then 3 else if w16 (bs s) 2 < (s.size : Int) then 4 else if fitsB (bs s) = false then 5 else ipChk (rdPk s)
theorem i64_bit (x : Int) (k : Nat) (hk : k ≤ 16) (h : 0 ≤ x) (h' : x ≤ 65535) : bits .and .i64 x (2 ^ k) = x / 2 ^ k % 2 * 2 ^ k := by
  obtain ⟨n, rfl⟩ := Int.eq_ofNat_of_zero_le h
  have hp : ((2 : Int) ^ k) = ((2 ^ k : Nat) : Int) := by push_cast; rfl
  have hlt : 2 ^ k ≤ 2 ^ 16 := Nat.pow_le_pow_right (by omega) hk
  rw [hp]
  have h1 : (BitVec.ofInt 64 ((n : Nat) : Int)).toNat = n := by rw [BitVec.ofInt_natCast, BitVec.toNat_ofNat]; exact Nat.mod_eq_of_lt (by omega)
  have h2 : (BitVec.ofInt 64 ((2 ^ k : Nat) : Int)).toNat = 2 ^ k := by rw [BitVec.ofInt_natCast, BitVec.toNat_ofNat]; exact Nat.mod_eq_of_lt (by omega)
  show IntKind.i64.wrap ((BitVec.ofInt 64 ((n : Nat) : Int) &&& BitVec.ofInt 64 ((2 ^ k : Nat) : Int)).toNat : Int) = _
  have h3 : (n &&& 2 ^ k) / 2 ^ k = n / 2 ^ k % 2 := by rw [Nat.and_div_two_pow, Nat.div_self (Nat.two_pow_pos k), Nat.and_one_is_mod]
  have h4 : (n &&& 2 ^ k) % 2 ^ k = 0 := by rw [Nat.and_mod_two_pow, Nat.mod_self, Nat.and_zero]
  have h5 := Nat.div_add_mod (n &&& 2 ^ k) (2 ^ k)
  rw [h3, h4, Nat.add_zero] at h5
  rw [BitVec.toNat_and, h1, h2, ← h5]
  have hm : ((n : Int) / ((2 ^ k : Nat) : Int) % 2) = ((n / 2 ^ k % 2 : Nat) : Int) := by push_cast; rfl
  rw [hm]
  have h01 : n / 2 ^ k % 2 = 0 ∨ n / 2 ^ k % 2 = 1 := by omega
  generalize 2 ^ k = K at *
  rcases h01 with e | e
  · rw [e]; simp [IntKind.wrap_i64]
  · rw [e]; simp; rw [IntKind.wrap_i64]; omega
theorem i64_low13 (x : Int) (h : 0 ≤ x) (h' : x ≤ 65535) : bits .and .i64 x 8191 = x % 8192 := by
  obtain ⟨n, rfl⟩ := Int.eq_ofNat_of_zero_le h
  have h1 : (BitVec.ofInt 64 ((n : Nat) : Int)).toNat = n := by rw [BitVec.ofInt_natCast, BitVec.toNat_ofNat]; exact Nat.mod_eq_of_lt (by omega)
  show IntKind.i64.wrap ((BitVec.ofInt 64 ((n : Nat) : Int) &&& BitVec.ofInt 64 8191).toNat : Int) = _
  rw [BitVec.toNat_and, h1, show (BitVec.ofInt 64 8191).toNat = 2 ^ 13 - 1 by rfl, Nat.and_two_pow_sub_one_eq_mod, IntKind.wrap_i64]
  omega
theorem rdPk_ok (s : ByteArray) (hs : s.size ≤ 9223372036854775807) : PkOk (rdPk s) := by
  have h1 := bs_ok s 9
  have h2 := bs_ok s 8
  have h3 := w16_bd _ (bs_ok s) 4
  have h4 := w16_bd _ (bs_ok s) 6
  refine ⟨w32_bd _ (bs_ok s) 12, w32_bd _ (bs_ok s) 16, ⟨by show _ ≤ bs s 9; omega, by show bs s 9 ≤ _; omega⟩, ⟨by show _ ≤ bs s 8; omega, by show bs s 8 ≤ _; omega⟩, ⟨by show _ ≤ w16 (bs s) 4; omega, by show w16 (bs s) 4 ≤ _; omega⟩, ⟨by show _ ≤ w16 (bs s) 6 % 8192; omega, by show w16 (bs s) 6 % 8192 ≤ _; omega⟩, ?_⟩
  show (s.extract 20 s.size).size ≤ _
  rw [ByteArray.size_extract]; omega
set_option maxRecDepth 100000 in
set_option maxHeartbeats 4000000 in
theorem ipRead_short (s : ByteArray) (w : World) (h : s.size < 20) :
    Calls Try.prog 18 #[.string s] w fun e w' => e = .returned (.tuple #[.agg (pkC zeroPk).toArray, .int .i64 3]) ∧ Below w.heap.size w w' := by
  go_enter Try.func18, Try.ntmps18
  go_wp2_with fail
  refine bodyPost_ret (v := .tuple #[.agg (pkC zeroPk).toArray, .int .i64 3]) (by simp [results, Try.results18, go_sem, pkC, zeroPk]) rfl ⟨rfl, ?_⟩
  repeat' (first | with_reducible exact Below.refl _ _ | with_reducible assumption | with_reducible refine Below.drew ?_ | with_reducible refine below_dn ?_ _ | with_reducible refine below_ca ?_ _ | with_reducible refine Below.setCell ?_ ?_ _ | (refine below_c ?_ (by with_reducible assumption)) | (simp <;> omega) | omega)
/-- what ip's Read has in memory behind its composite -/
structure IpSt (w W : World) (g x : Nat) (s : ByteArray) : Prop where
  z : At W w.heap.size 38 (pkC zeroPk)
  p : At W x 38 (pkC (rdPk s))
  b : Bts W g 20 (bs s)
  bel : Below w.heap.size w W
theorem IpSt.kept {w W W' : World} {g x : Nat} {s : ByteArray} (h : IpSt w W g x s) (hb : Below W.heap.size W W') : IpSt w W' g x s := ⟨h.z.kept hb, h.p.kept hb, h.b.kept hb, below_c h.bel hb⟩
theorem ipSt_of {w W W' : World} {g x : Nat} {s : ByteArray} (hz : At W w.heap.size 38 (pkC zeroPk)) (hb : Bts W g 20 (bs s)) (hB : Below w.heap.size w W) (hzx : w.heap.size ≠ x) (hgx : g ≠ x) (hxx : w.heap.size ≤ x)
    (hO : W.grownBy W' (some x)) (hp : At W' x 38 (pkC (rdPk s))) : IpSt w W' g x s :=
  ⟨hz.grown hO (by intro e; injection e with e; exact hzx e), hp, fun j hj => hO.cell (hb j hj) (by intro e; injection e with e; exact hgx e), hB.grown hO hB.size (fun j hj => by injection hj with hj; omega)⟩
set_option maxRecDepth 100000 in
set_option maxHeartbeats 4000000 in
theorem ipRead_any (s : ByteArray) (w : World) (h : 20 ≤ s.size) (hs : s.size ≤ 9223372036854775807) :
    Calls Try.prog 18 #[.string s] w fun e w' => e = .returned (.tuple #[.agg (pkC (if rdErr s = 0 then rdPk s else zeroPk)).toArray, .int .i64 (rdErr s)]) ∧ Below w.heap.size w w' := by
  have hcv := fun (W : World) => run_bytes_of_string (P := Try.prog) W 9 79 5 (s.extract 0 20) Try.underlying9 Try.underlying79 Try.underlying5
  have hsz : (s.extract 0 20).size = 20 := by rw [ByteArray.size_extract]; omega
  rw [hsz] at hcv
  have hge : ¬ (s.size : Int) < 20 := by omega
  have HCV := Lib.hid hcv
  clear hcv
  go_enter Try.func18, Try.ntmps18
  go_upto_region 3 with (fail)
  refine wp_gen (fun W => At W w.heap.size 38 (pkC zeroPk) ∧ Below w.heap.size w W) ⟨At.new_ w _ (pkC zeroPk), by repeat' (first | with_reducible exact Below.refl _ _ | with_reducible assumption | with_reducible refine Below.drew ?_ | with_reducible refine below_dn ?_ _ | with_reducible refine below_ca ?_ _ | with_reducible refine Below.setCell ?_ ?_ _ | (refine below_c ?_ (by with_reducible assumption)) | (simp <;> omega) | omega)⟩ ?_
  rintro W0 ⟨hZ0, hB0⟩
  have hcv := HCV.out W0
  go_upto_region 4 with (fail)
  have hc20 := grownCap_ge W0 20 0 5
  generalize grownCap W0 20 0 5 = c at *
  clear hcv HCV
  refine wp_gen (fun W => Bts W W0.heap.size 20 (bs s) ∧ Below W0.heap.size W0 W) ⟨?_, (below_ca (Below.refl _ _) _).drew⟩ ?_
  · intro k hk
    rw [World.cell?_drew, World.cell?_alloc_mark, bytesRow_at (s.extract 0 20) c k (by show k < (s.extract 0 20).size; omega)]
    congr 2
    unfold bs
    have hk2 : k < s.data.size := by show k < s.size; omega
    rw [Array.getElem?_eq_getElem hk2]
    simp only [Option.getD_some]
    congr 2
    simp [ByteArray.data_extract]
  rintro W1 ⟨hb1, hB1⟩
  have hZ1 := hZ0.kept hB1
  have hB01 := below_c hB0 hB1
  have hgl := hB1.size
  have hg1 : W0.heap.size < W1.heap.size := by have := block_of_cell (hb1 0 (by omega)); exact this
  clear hZ0 hsz hB0
  generalize W0.heap.size = g at *
  have hB := bs_ok s
  have a2 := fun (u : Later W1) => Get16_at g 2 20 (c - 2) (bs s) 18 u.now hB (hb1.kept u.still) (by omega) (by omega) (by omega)
  have a6 := fun (u : Later W1) => Get16_at g 6 20 (c - 6) (bs s) 14 u.now hB (hb1.kept u.still) (by omega) (by omega) (by omega)
  have r2 : bs s 2 * 256 + bs s (2 + 1) = w16 (bs s) 2 := rfl
  have r6 : bs s 6 * 256 + bs s (6 + 1) = rdOff s := rfl
  rw [r2] at a2
  rw [r6] at a6
  have A2 := Lib.hid a2
  have A6 := Lib.hid a6
  clear a2 a6 r2 r6
  have m2 := w16_bd _ hB 2
  have m6 : 0 ≤ rdOff s ∧ rdOff s ≤ 65535 := w16_bd _ hB 6
  obtain ⟨m20, m21⟩ := m2
  obtain ⟨m60, m61⟩ := m6
  have k1 : (2 : Int) < (c : Int) := by omega
  have k2 : (6 : Int) < (c : Int) := by omega
  have k3 : ¬ c = 2 := by omega
  have k4 : ¬ c = 6 := by omega
  have k5 : ¬ c = 12 := by omega
  have k6 : ¬ c = 16 := by omega
  have k7 : ¬ c = 4 := by omega
  have k8 : (20 : Int) ≤ (c : Int) := by omega
  refine wp_region_later (by kernel_rfl) (by kernel_rfl) (fun hlc => ?_)
  repeat (go_big_quiet_step ((go_at_call 38; first | (with_reducible exact later_call (A2.out _)) | (with_reducible exact later_call (A6.out _)))))
  refine wpQuiet_nil ?_
  intro W2 hB2
  clear hlc A2 A6
  have hb2 := hb1.kept hB2
  have hZ2 := hZ1.kept hB2
  have hB02 := below_c hB01 hB2
  have hg2 : g < W2.heap.size := Nat.lt_of_lt_of_le hg1 hB2.size
  clear hb1 hZ1 hB1 hB01 hg1 hgl hB2
  have b12 := fun (W : World) (h : Bts W g 20 (bs s)) => Get32_at g 12 20 (c - 12) (bs s) 8 W hB h (by omega) (by omega) (by omega) (by omega)
  have b16 := fun (W : World) (h : Bts W g 20 (bs s)) => Get32_at g 16 20 (c - 16) (bs s) 4 W hB h (by omega) (by omega) (by omega) (by omega)
  have b4 := fun (W : World) (h : Bts W g 20 (bs s)) => Get16_at g 4 20 (c - 4) (bs s) 16 W hB h (by omega) (by omega) (by omega)
  have r4 : bs s 4 * 256 + bs s (4 + 1) = w16 (bs s) 4 := rfl
  rw [r4] at b4
  have B12 := Lib.hid b12
  have B16 := Lib.hid b16
  have B4 := Lib.hid b4
  clear b12 b16 b4 r4
  have n9 := hB 9
  have n8 := hB 8
  have n4 := w16_bd _ hB 4
  have n12 := w32_bd _ hB 12
  have n16 := w32_bd _ hB 16
  have e14 := i64_bit (rdOff s) 14 (by omega) m60 m61
  have e13 := i64_bit (rdOff s) 13 (by omega) m60 m61
  have e8 := i64_low13 (rdOff s) m60 m61
  simp only [show ((2 : Int) ^ 14) = 16384 by rfl] at e14
  simp only [show ((2 : Int) ^ 13) = 8192 by rfl] at e13
  have hpk : pkC (rdPk s) = [.int .u32 (w32 (bs s) 12), .int .u32 (w32 (bs s) 16), .int .i64 (bs s 9), .int .i64 (bs s 8), .int .i64 (w16 (bs s) 4), .bool (decide (0 < rdOff s / 16384 % 2 * 16384)), .bool (decide (0 < rdOff s / 8192 % 2 * 8192)), .int .i64 (rdOff s % 8192), .string (s.extract 20 s.size)] := rfl
  have HPK := Lib.hid hpk
  have HB2 := Lib.hid hb2
  have HB := Lib.hid hB
  obtain ⟨n90, n91⟩ := n9
  obtain ⟨n80, n81⟩ := n8
  obtain ⟨n40, n41⟩ := n4
  obtain ⟨n120, n121⟩ := n12
  obtain ⟨n160, n161⟩ := n16
  clear hpk hb2 hB
  go_upto_region 5 with (fail)
  have hzv : ∀ W : World, (zeroValue 38).run Try.prog W = .ok (.agg (pkC zeroPk).toArray) W := fun _ => by kernel_rfl
  have HZV := Lib.hid hzv
  clear hzv
  refine wp_region_alloc_later 29 7 _ (.cells (pkC zeroPk).toArray 38 (0, 0)) (by kernel_rfl) (by kernel_rfl) rfl rfl rfl (by kernel_rfl) ?hal ?hh
  case hal =>
    intro a' w'
    have hz := HZV.out w'
    go_simp
  apply Exists.intro
  refine ⟨?hq, ?ht⟩
  case hq =>
    intro w1 hw1 hlc
    have hbw : Bts w1 g 20 (bs s) := HB2.out.kept hw1
    have hgw := Nat.lt_of_lt_of_le hg2 hw1.size
    have c9 := hbw 9 (by omega)
    have c8 := hbw 8 (by omega)
    have HBW := Lib.hid hbw
    clear hbw
    simp only [List.take_succ_cons, List.take_zero]
    repeat (go_big_quiet_step (first | (go_at_call 38; (with_reducible exact later_call (B4.out _ (HBW.out.kept (Later.still _))))) | (go_at_call 42; first | (with_reducible exact later_call (B12.out _ (HBW.out.kept (Later.still _)))) | (with_reducible exact later_call (B16.out _ (HBW.out.kept (Later.still _)))))))
    exact wpQuiet_nil rfl
  case ht =>
    intro w1 w' hw1 hw'
    simp only [List.drop_succ_cons, List.drop_zero]
    have hA0 : At (w1.alloc (.cells (pkC zeroPk).toArray 38 (0, 0))) w1.heap.size 38 (pkC zeroPk) := At.new_ w1 _ (pkC zeroPk)
    have hA := hA0.kept hw'
    have hB3 : Below W2.heap.size W2 w' := below_c (below_ca hw1 _) hw'
    have hZ3 := hZ2.kept hB3
    have hb3 := HB2.out.kept hB3
    have hB03 := below_c hB02 hB3
    have hzl := hZ2.lt
    have hgx : g ≠ w1.heap.size := by have := hw1.size; omega
    have hzx : w.heap.size ≠ w1.heap.size := by have := hw1.size; omega
    have hxx : w.heap.size ≤ w1.heap.size := by have := hw1.size; omega
    clear hA0 hw1 hw' hB3 hZ2 hB02 B12 B16 B4 HB2
    generalize w1.heap.size = x at *
    have hlx := hA.lt
    have d0 := hA.cell 0
    have z0 := hA.free 0
    have d1 := hA.cell 1
    have z1 := hA.free 1
    have d2 := hA.cell 2
    have z2 := hA.free 2
    have d3 := hA.cell 3
    have z3 := hA.free 3
    have d4 := hA.cell 4
    have z4 := hA.free 4
    have d5 := hA.cell 5
    have z5 := hA.free 5
    have d6 := hA.cell 6
    have z6 := hA.free 6
    have d7 := hA.cell 7
    have z7 := hA.free 7
    have d8 := hA.cell 8
    have z8 := hA.free 8
    simp [pkC, zeroPk] at d0 d1 d2 d3 d4 d5 d6 d7 d8
    have HA := Lib.hid hA
    have HZ3 := Lib.hid hZ3
    clear hA hZ3
    go_upto_region 6 with (fail)
    refine wp_gen (fun W => IpSt w W g x s) (ipSt_of HZ3.out hb3 hB03 hzx hgx hxx ?hO ?hP) ?_
    case hO => repeat' (first | with_reducible exact only_refl _ _ | with_reducible refine only_set ?_ (.inl rfl) _)
    case hP =>
      rw [HPK.out]
      apply At.conv
      case h => repeat' (first | with_reducible exact HA.out | with_reducible apply At.set_ | with_reducible apply At.drew)
      case e => rfl
    clear d0 d1 d2 d3 d4 d5 d6 d7 d8 z0 z1 z2 z3 z4 z5 z6 z7 z8 hb3 hB03 hlx
    intro W4 hS4
    go_upto_block 0 with (fail)
    go_cut [8] (fun r W => r = .int .i64 (rdErr s) ∧ IpSt w W g x s)
    case first =>
      have c0 := hS4.b 0 (by omega)
      have c1 := hS4.b 1 (by omega)
      have hl0 := block_of_cell c0
      simp only at hl0
      have HS4 := Lib.hid hS4
      have hs20 : ¬ s.size < 20 := by omega
      by_cases e0 : bs s 0 = 69
      · have t0 : ((bs s 0 : Int) != 69) = false := by simpa using e0
        by_cases e1 : bs s 1 = 0
        · have t1 : ((bs s 1 : Int) != 0) = false := by simpa using e1
          by_cases e2 : 32768 ≤ rdOff s
          · have hr : rdErr s = 4 := by unfold rdErr; rw [if_neg hs20, if_neg (by simpa using e0), if_pos (.inr e2)]
            have HR := Lib.hid hr
            clear hr hs20 e0 e1 hS4
            go_wp2_with fail
            go_meet
            case rel => exact ⟨by rw [HR.out], HS4.out⟩
          · have t2 : decide (32768 ≤ rdOff s) = false := by simpa using e2
            by_cases e3 : (s.size : Int) < w16 (bs s) 2
            · have hr : rdErr s = 3 := by unfold rdErr; rw [if_neg hs20, if_neg (by simpa using e0), if_neg (by simp [e1]; omega), if_pos e3]
              have HR := Lib.hid hr
              clear hr hs20 e0 e1 e2 hS4
              go_wp2_with fail
              go_meet
              case rel => exact ⟨by rw [HR.out], HS4.out⟩
            · by_cases e4 : w16 (bs s) 2 < (s.size : Int)
              · have hr : rdErr s = 4 := by unfold rdErr; rw [if_neg hs20, if_neg (by simpa using e0), if_neg (by simp [e1]; omega), if_neg e3, if_pos e4]
                have HR := Lib.hid hr
                clear hr hs20 e0 e1 e2 hS4
                go_wp2_with fail
                go_meet
                case rel => exact ⟨by rw [HR.out], HS4.out⟩
              · have hfit := fun (W : World) (h : Bts W g 20 (bs s)) => fits_any g c (bs s) W HB.out h (by omega)
                cases hf : fitsB (bs s)
                · have hr : rdErr s = 5 := by unfold rdErr; rw [if_neg hs20, if_neg (by simpa using e0), if_neg (by simp [e1]; omega), if_neg e3, if_neg e4, if_pos hf]
                  rw [hf] at hfit
                  have HF := Lib.hid hfit
                  have HR := Lib.hid hr
                  clear hr hs20 e0 e1 e2 hS4 hf hfit
                  go_wp2_with fail
                  refine (HF.out _ HS4.out.b).mono ?_
                  rintro e w5 ⟨rfl, hB5⟩
                  have hS5 := HS4.out.kept hB5
                  have HS5 := Lib.hid hS5
                  clear hS5
                  go_wp2_with fail
                  go_meet
                  case rel => exact ⟨by rw [HR.out], HS5.out⟩
                · have hr : rdErr s = ipChk (rdPk s) := by unfold rdErr; rw [if_neg hs20, if_neg (by simpa using e0), if_neg (by simp [e1]; omega), if_neg e3, if_neg e4, if_neg (by rw [hf]; simp)]
                  rw [hf] at hfit
                  have HF := Lib.hid hfit
                  have HR := Lib.hid hr
                  clear hr hs20 e0 e1 e2 hS4 hf hfit
                  go_wp2_with fail
                  refine (HF.out _ HS4.out.b).mono ?_
                  rintro e w5 ⟨rfl, hB5⟩
                  have hS5 := HS4.out.kept hB5
                  have hpr : w5.rangeAt x 0 (pkC (rdPk s)) := fun j u hj => by rw [Nat.zero_add, hS5.p.cell, hj]
                  have hpi : (Try.prog.info? 38).map (·.size) = some (pkC (rdPk s)).length := by kernel_rfl
                  have HS5 := Lib.hid hS5
                  clear hS5
                  go_wp2_with (refine wpList_load_mid rfl 38 (.tmp 7) rfl x 0 rfl (pkC (rdPk s)) _ hpr Try.underlying38 rfl hpi ?_)
                  refine (ipCheck_any (rdPk s) _ (rdPk_ok s hs)).mono ?_
                  rintro e w6 ⟨rfl, hB6⟩
                  have hS6 := HS5.out.kept hB6
                  have HS6 := Lib.hid hS6
                  clear hS6 hpr hpi
                  go_wp2_with fail
                  go_meet
                  case rel => exact ⟨by rw [HR.out], HS6.out⟩
        · have t1 : ((bs s 1 : Int) != 0) = true := by simpa using e1
          have hr : rdErr s = 4 := by unfold rdErr; rw [if_neg hs20, if_neg (by simpa using e0), if_pos (.inl e1)]
          have HR := Lib.hid hr
          clear hr hs20 e0 e1 hS4
          go_wp2_with fail
          go_meet
          case rel => exact ⟨by rw [HR.out], HS4.out⟩
      · have t0 : ((bs s 0 : Int) != 69) = true := by simpa using e0
        have hr : rdErr s = 6 := by unfold rdErr; rw [if_neg hs20, if_pos e0]
        have HR := Lib.hid hr
        clear hr hs20 e0 hS4
        go_wp2_with fail
        go_meet
        case rel => exact ⟨by rw [HR.out], HS4.out⟩
    case rest =>
      obtain ⟨rfl, hS9⟩ := hcut
      clear hS4
      have d0 := hS9.z.cell 0
      have z0 := hS9.z.free 0
      have d1 := hS9.z.cell 1
      have z1 := hS9.z.free 1
      have d2 := hS9.z.cell 2
      have z2 := hS9.z.free 2
      have d3 := hS9.z.cell 3
      have z3 := hS9.z.free 3
      have d4 := hS9.z.cell 4
      have z4 := hS9.z.free 4
      have d5 := hS9.z.cell 5
      have z5 := hS9.z.free 5
      have d6 := hS9.z.cell 6
      have z6 := hS9.z.free 6
      have d7 := hS9.z.cell 7
      have z7 := hS9.z.free 7
      have d8 := hS9.z.cell 8
      have z8 := hS9.z.free 8
      simp [pkC, zeroPk] at d0 d1 d2 d3 d4 d5 d6 d7 d8
      have hlz := hS9.z.lt
      have hbel := hS9.bel
      have hpr : wc.rangeAt x 0 (pkC (rdPk s)) := fun j u hj => by rw [Nat.zero_add, hS9.p.cell, hj]
      have hpi : (Try.prog.info? 38).map (·.size) = some (pkC (rdPk s)).length := by kernel_rfl
      rw [HPK.out] at hpr hpi
      have HS9 := Lib.hid hS9
      clear hS9 e8 e13 e14
      by_cases hr : rdErr s = 0
      · have t8 : ((rdErr s : Int) != 0) = false := by simpa using hr
        have HR := Lib.hid hr
        clear hr
        go_wp2_with (refine wpList_load_mid rfl 38 (.tmp 7) rfl x 0 rfl _ _ hpr Try.underlying38 rfl hpi ?_)
        refine bodyPost_ret (v := .tuple #[.agg (pkC (rdPk s)).toArray, .int .i64 0]) (by rw [HPK.out]; simp [results, Try.results18, go_sem, d0, d1, d2, d3, d4, d5, d6, d7, d8]) rfl ⟨rfl, ?_⟩
        repeat' (first | with_reducible exact Below.refl _ _ | with_reducible assumption | with_reducible refine Below.drew ?_ | with_reducible refine below_dn ?_ _ | with_reducible refine below_ca ?_ _ | with_reducible refine Below.setCell ?_ ?_ _ | (refine below_c ?_ (by with_reducible assumption)) | (simp <;> omega) | omega)
      · have t8 : ((rdErr s : Int) != 0) = true := by simpa using hr
        have HR := Lib.hid hr
        have hz := HZV.out
        simp only [pkC, zeroPk] at hz
        clear hr hpr hpi
        go_wp2_with fail
        refine bodyPost_ret (v := .tuple #[.agg (pkC zeroPk).toArray, .int .i64 (rdErr s)]) (by simp [results, Try.results18, go_sem, d0, d1, d2, d3, d4, d5, d6, d7, d8, pkC, zeroPk]) rfl ⟨rfl, ?_⟩
        repeat' (first | with_reducible exact Below.refl _ _ | with_reducible assumption | with_reducible refine Below.drew ?_ | with_reducible refine below_dn ?_ _ | with_reducible refine below_ca ?_ _ | with_reducible refine Below.setCell ?_ ?_ _ | (refine below_c ?_ (by with_reducible assumption)) | (simp <;> omega) | omega)
end Go.Proofs.Ytpjcbjacdkobmaa
