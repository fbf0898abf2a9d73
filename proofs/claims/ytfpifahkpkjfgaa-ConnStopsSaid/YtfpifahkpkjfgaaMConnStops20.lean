/- What ConnStops needs, a part: InqE, InqS, InqF, CnI. -/
import Derived.Deep.CutBlock
import Derived.Test.YtfpifahkpkjfgaaMConnStops19
namespace Go.Proofs.Ytfpifahkpkjfgaa
open Go.RowKit
set_option linter.unusedVariables false
theorem iqbyte_at (s : ByteArray) (k : Nat) (h : k < s.size) : s[k] = s.data[k]?.getD 0 := by
 have : s.data[k]? = some s.data[k] := Array.getElem?_eq_getElem h
 rw [this]; rfl
set_option maxRecDepth 100000 in
set_option maxHeartbeats 1000000 in
theorem Put_none (g : Nat) (q : IQ) (at_ : Int) (S : ByteArray) (fin : Bool) (w : World) (hQ : InqAt w g q) (ha : -9223372036854775808 ≤ at_) (ha' : at_ ≤ 9223372036854775807)
  (h : at_ < -1152921504606846976 ∨ 1152921504606846976 < at_ ∨ q.over = true) :
  Calls Try.prog 92 #[.pointer (some ⟨g, 0, none⟩), .int .i64 at_, .string S, .bool fin] w fun e w' => e = .returned (.bool false) ∧ w = w' := by
 have c1 := InqAt.over_ hQ
 rcases h with h | h | h
 ·go_enter Try.func92, Try.ntmps92
  go_wp2_with fail
  go_ret
  exact ⟨rfl, rfl⟩
 ·by_cases h' : at_ < -1152921504606846976
  ·omega
  go_enter Try.func92, Try.ntmps92
  go_wp2_with fail
  go_ret
  exact ⟨rfl, rfl⟩
 ·rw [h] at c1
  by_cases h1 : at_ < -1152921504606846976
  ·clear h
   go_enter Try.func92, Try.ntmps92
   go_wp2_with fail
   go_ret
   exact ⟨rfl, rfl⟩
  ·by_cases h2 : 1152921504606846976 < at_
   ·clear h
    go_enter Try.func92, Try.ntmps92
    go_wp2_with fail
    go_ret
    exact ⟨rfl, rfl⟩
   ·clear h
    go_enter Try.func92, Try.ntmps92
    go_wp2_with fail
    go_ret
    exact ⟨rfl, rfl⟩
def midQ (q : IQ) (at_ : Int) (S : ByteArray) (c : Int) : IQ := { q with r := rTo q at_ S c, h := hTo q at_ S.size c }
theorem midQ_start (q : IQ) (at_ : Int) (S : ByteArray) (c : Int) (hc : c ≤ at_ ∨ c ≤ q.nx) : inqC (midQ q at_ S c) = inqC q :=
 inqC_congr _ _ (fun k _ => rTo_start q at_ S c hc k) (fun k _ => hTo_start q at_ S.size c hc k) rfl rfl rfl rfl
theorem midQ_keep (q : IQ) (at_ : Int) (S : ByteArray) (c : Int) (K : Nat) (hK : c % 2048 = (K : Int)) (h1 : q.nx ≤ c) (h2 : at_ ≤ c) (h3 : c < at_ + S.size) (h4 : c < q.rd + 2048) (h5 : q.fin < 0 ∨ c < q.fin) (h6 : q.rd ≤ q.nx) (hh : q.h K = true) :
  inqC (midQ q at_ S (c + 1)) = inqC (midQ q at_ S c) := by
 refine inqC_congr _ _ (fun k hk => ?_) (fun k hk => ?_) rfl rfl rfl rfl
 ·show rTo q at_ S (c + 1) k = rTo q at_ S c k
  rw [rTo_step q at_ S c K hK h1 h2 h3 h4 h5 h6 k hk, if_neg (by rw [hh]; simp)]
 ·show hTo q at_ S.size (c + 1) k = hTo q at_ S.size c k
  rw [hTo_step q at_ S.size c K hK h1 h2 h3 h4 h5 h6 k hk]
  split
  ·rename_i e; subst e; rw [hTo_at q at_ S.size c k hK h1 h4 h6, hh]
  ·rfl
theorem midQ_take (q : IQ) (at_ : Int) (S : ByteArray) (c : Int) (K : Nat) (hK2 : K < 2048) (hK : c % 2048 = (K : Int)) (h1 : q.nx ≤ c) (h2 : at_ ≤ c) (h3 : c < at_ + S.size) (h4 : c < q.rd + 2048) (h5 : q.fin < 0 ∨ c < q.fin) (h6 : q.rd ≤ q.nx) (hh : q.h K = false) :
  ((inqC (midQ q at_ S c)).set (2048 + K) (.bool true)).set K (.int .u8 (byteZ S (c - at_))) = inqC (midQ q at_ S (c + 1)) := by
 rw [inqC_seth _ _ _ hK2, inqC_setr _ _ _ hK2]
 refine inqC_congr _ _ (fun k hk => ?_) (fun k hk => ?_) rfl rfl rfl rfl
 ·show (if k = K then _ else rTo q at_ S c k) = rTo q at_ S (c + 1) k
  rw [rTo_step q at_ S c K hK h1 h2 h3 h4 h5 h6 k hk]
  by_cases e : k = K
  ·rw [if_pos e, if_pos ⟨e, hh⟩]
  ·rw [if_neg e, if_neg (fun x => e x.1)]
 ·show (if k = K then true else hTo q at_ S.size c k) = hTo q at_ S.size (c + 1) k
  rw [hTo_step q at_ S.size c K hK h1 h2 h3 h4 h5 h6 k hk]
def midEnd (q : IQ) (at_ : Int) (S : ByteArray) : IQ := { q with r := rPut q at_ S, h := hPut q at_ S.size }
theorem midQ_end (q : IQ) (at_ : Int) (S : ByteArray) (c : Int) (hc : at_ + S.size ≤ c ∨ q.rd + 2048 ≤ c ∨ (0 ≤ q.fin ∧ q.fin ≤ c)) : inqC (midQ q at_ S c) = inqC (midEnd q at_ S) :=
 inqC_congr _ _ (fun k _ => rTo_end q at_ S c hc k) (fun k _ => hTo_end q at_ S.size c hc k) rfl rfl rfl rfl
def finC (q : IQ) (at_ len : Int) (fin : Bool) : Bool := decide ((fin = true ∧ q.fin < 0 ∧ q.nx ≤ at_ + len ∧ at_ + len ≤ q.rd + 2048) ∧ behindB (hPut q at_ len) (at_ + len) (q.rd + 2048) = false)
theorem finPut_if (q : IQ) (at_ len : Int) (fin : Bool) : finPut q at_ len fin = if finC q at_ len fin = true then at_ + len else q.fin := by
 unfold finPut finC
 by_cases h : (fin = true ∧ q.fin < 0 ∧ q.nx ≤ at_ + len ∧ at_ + len ≤ q.rd + 2048) ∧ behindB (hPut q at_ len) (at_ + len) (q.rd + 2048) = false
 ·rw [if_pos h, if_pos (by simpa using h)]
 ·rw [if_neg h, if_neg (by simpa using h)]
def finQ (q : IQ) (at_ : Int) (S : ByteArray) (fin : Bool) : IQ := { midEnd q at_ S with fin := finPut q at_ S.size fin }
def advQ (q : IQ) (at_ : Int) (S : ByteArray) (fin : Bool) (x : Int) : IQ := { r := rPut q at_ S, h := hAfter q at_ S.size x, rd := q.rd, nx := x, fin := finPut q at_ S.size fin, over := q.over }
theorem advQ_step (q : IQ) (at_ : Int) (S : ByteArray) (fin : Bool) (x : Int) (K : Nat) (hK2 : K < 2048) (hK : x % 2048 = (K : Int)) (h1 : q.nx ≤ x) (h2 : x < q.rd + 2048) (h3 : q.rd ≤ q.nx) :
  ((inqC (advQ q at_ S fin x)).set (2048 + K) (.bool false)).set 4097 (.int .i64 (x + 1)) = inqC (advQ q at_ S fin (x + 1)) := by
 rw [inqC_seth _ _ _ hK2, inqC_setnx]
 refine inqC_congr _ _ (fun k _ => rfl) (fun k hk => ?_) rfl rfl rfl rfl
 show (if k = K then false else hAfter q at_ S.size x k) = hAfter q at_ S.size (x + 1) k
 have hp := plc_of q.nx x K h1 (by omega) hK
 unfold hAfter
 by_cases e : k = K
 ·subst e; rw [if_pos rfl, hp]; simp; intro _; omega
 ·rw [if_neg e]
  have hne : plc q.nx k ≠ x := by intro y; have := plc_mod q.nx k hk; rw [y, hK] at this; omega
  congr 1
  exact decide_eq_decide.2 (by omega)
theorem putQ_yes (q : IQ) (at_ : Int) (S : ByteArray) (fin : Bool) (x : Int) (ha : -1152921504606846976 ≤ at_) (ha' : at_ ≤ 1152921504606846976) (hov : q.over = false) (h : nxPut q at_ S.size = x) (hf : x = finPut q at_ S.size fin) :
  putQ q at_ S fin = { advQ q at_ S fin x with nx := x + 1, over := true } := by
 unfold putQ
 rw [if_neg (by rw [hov]; simp; omega), if_pos (by rw [h]; exact hf), h]
 rfl
theorem putQ_no (q : IQ) (at_ : Int) (S : ByteArray) (fin : Bool) (x : Int) (ha : -1152921504606846976 ≤ at_) (ha' : at_ ≤ 1152921504606846976) (hov : q.over = false) (h : nxPut q at_ S.size = x) (hf : x ≠ finPut q at_ S.size fin) :
  putQ q at_ S fin = advQ q at_ S fin x := by
 unfold putQ
 rw [if_neg (by rw [hov]; simp; omega), if_neg (by rw [h]; exact hf), h]
 unfold advQ
 rw [hov]
set_option maxRecDepth 100000 in
set_option maxHeartbeats 12000000 in
theorem Put_any (g : Nat) (q : IQ) (at_ : Int) (S : ByteArray) (fin : Bool) (w : World) (hQ : InqAt w g q) (ok : IqOk q) (hov : q.over = false) (ha : -1152921504606846976 ≤ at_) (ha' : at_ ≤ 1152921504606846976) (hs : S.size ≤ 1152921504606846976) :
  Calls Try.prog 92 #[.pointer (some ⟨g, 0, none⟩), .int .i64 at_, .string S, .bool fin] w fun e w' => e = .returned (.bool (decide (q.nx < (putQ q at_ S fin).nx))) ∧ InqAt w' g (putQ q at_ S fin) ∧ w.grownBy w' (some g) := by
 have c1 := InqAt.over_ hQ
 rw [hov] at c1
 have c2 := InqAt.nx_ hQ
 have hlt := hQ.lt
 have hr1 := ok.rd1
 have hr2 := ok.rdn
 have hr3 := ok.nxm
 have hr4 := ok.nxr
 rw [hov] at hr2 hr4
 simp at hr2 hr4
 have hez : endZ q = q.nx := by unfold endZ; rw [hov]; rfl
 have hw := fun (u : Later w) => Window_any g q u.now (hQ.kept u.still) ok
 rw [hez] at hw
 have HW := Lib.hid hw
 have HOV := Lib.hid hov
 clear hw hez hov
 go_enter Try.func92, Try.ntmps92
 go_upto_region 3 with (fail)
 refine wp_region_later (by kernel_rfl) (by kernel_rfl) (fun hlc => ?_)
 repeat (go_big_quiet_step ((go_at_call 66; exact later_call (HW.out _))))
 refine wpQuiet_nil ?_
 intro W1 hB1
 clear hlc c1 c2 HW
 have hQ1 : InqAt W1 g q := hQ.kept hB1
 have c1 := InqAt.nx_ hQ1
 have e9 : q.nx + (2048 - (q.nx - q.rd)) = q.rd + 2048 := by omega
 go_upto_region 4 with (fail)
 rw [e9]
 clear e9
 obtain ⟨n0, hn0⟩ : ∃ n0 : Nat, (q.nx - at_ ≤ 0 ∧ (n0 : Int) = 0) ∨ (0 ≤ q.nx - at_ ∧ (n0 : Int) = q.nx - at_) := by
  by_cases h : q.nx - at_ ≤ 0
  ·exact ⟨0, .inl ⟨h, rfl⟩⟩
  ·exact ⟨(q.nx - at_).toNat, .inr ⟨by omega, by omega⟩⟩
 have i02 : q.nx ≤ at_ + n0 := by omega
 have i04 : (n0 : Int) ≤ 2305843009213693952 := by omega
 have HI := Lib.hid hn0
 have hO1 : w.grownBy W1 (some g) := only_below (only_refl _ _) hB1
 clear hn0
 go_cut [10] (fun s wc => s = .int .i64 (n0 : Int) ∧ InqAt wc g q ∧ w.grownBy wc (some g))
 case first =>
  rcases Int.lt_trichotomy (q.nx - at_) 0 with h | h | h
  ·go_wp2_with fail
   all_goals
    go_meet
    case rel => exact ⟨congrArg _ (by have := HI.out; omega), hQ1, hO1⟩
  ·obtain rfl : at_ = q.nx := by omega
   have h0 : q.nx - q.nx = 0 := by omega
   clear h
   go_wp2_with fail
   all_goals
    go_meet
    case rel => exact ⟨congrArg _ (by have := HI.out; omega), hQ1, hO1⟩
  ·go_wp2_with fail
   all_goals
    go_meet
    case rel => exact ⟨congrArg _ (by have := HI.out; omega), hQ1, hO1⟩
 case rest =>
  obtain ⟨rfl, hQ2, hO2⟩ := hcut
  go_upto_block 0 with (fail)
  go_cut [10] (fun s W2 => InqAt W2 g (midEnd q at_ S) ∧ w.grownBy W2 (some g))
  case first =>
   go_wp2_with fail
   go_loopw [10] (fun i wr => ∃ x : Nat, n0 ≤ x ∧ (x : Int) ≤ 2305843009213693952 ∧ i = .int .i64 x ∧ InqAt wr g (midQ q at_ S (at_ + x)) ∧ w.grownBy wr (some g)) (fun i _ => S.size - (intOf i).toNat)
   case atStart =>
    refine ⟨n0, Nat.le_refl _, i04, rfl, ?_, hO2⟩
    exact At.conv hQ2 (midQ_start q at_ S _ (by have := HI.out; omega)).symm
   case round =>
    obtain ⟨x, hx, hxm, rfl, hQr, hOr⟩ := hrel
    have c4 : wr.cell? ⟨g, 4098, none⟩ = some (.int .i64 q.fin) := InqAt.fin_ (q := midQ q at_ S (at_ + (x : Int))) hQr
    have f1 := ok.fin1
    have f2 := ok.finm
    have hgr := hQr.lt
    by_cases h1 : x < S.size
    ·by_cases h2 : at_ + (x : Int) < q.rd + 2048
     ·by_cases h3 : 0 ≤ q.fin ∧ q.fin ≤ at_ + (x : Int)
      ·obtain ⟨h3, h4⟩ := h3
       go_wp2_with fail
       go_meet
       case rel => exact ⟨At.conv hQr (midQ_end q at_ S _ (by omega)), hOr⟩
      ·have hst := hTo_step q at_ S.size (at_ + (x : Int))
       obtain ⟨K, hK⟩ : ∃ K : Nat, (at_ + (x : Int)) % 2048 = (K : Int) := ⟨((at_ + (x : Int)) % 2048).toNat, by omega⟩
       have hK2 : K < 2048 := by omega
       have hnx : q.nx ≤ at_ + (x : Int) := by omega
       have hf5 : q.fin < 0 ∨ at_ + (x : Int) < q.fin := by omega
       have c5 : wr.cell? ⟨g, 2048 + K, none⟩ = some (.bool (q.h K)) := by
        have h := InqAt.h_ (q := midQ q at_ S (at_ + (x : Int))) hQr K hK2
        rw [show (midQ q at_ S (at_ + (x : Int))).h K = hTo q at_ S.size (at_ + (x : Int)) K from rfl, hTo_at q at_ S.size _ K hK hnx h2 hr2] at h
        exact h
       have c6 := InqAt.r_ (q := midQ q at_ S (at_ + (x : Int))) hQr K hK2
       generalize (midQ q at_ S (at_ + (x : Int))).r K = R0 at c6
       have z5 := At.free hQr (2048 + K)
       have z6 := At.free hQr K
       have k0 : (0 : Int) ≤ (K : Int) := by omega
       have k1 : (K : Int) < 2048 := by omega
       have x1 : (x : Int) < (S.size : Int) := by omega
       have x0 : (0 : Int) ≤ (x : Int) := by omega
       have ha0 : (0 : Int) ≤ at_ + (x : Int) := by omega
       have hbt := iqbyte_at S x h1
       have HK := Lib.hid hK
       have HB := Lib.hid hbt
       clear hst hbt
       cases hh : q.h K
       ·rw [hh] at c5
        have HH := Lib.hid hh
        clear hh
        by_cases hf : 0 ≤ q.fin
        all_goals
         go_wp2_with fail
         go_region
         refine exb_gen (fun W => InqAt W g (midQ q at_ S (at_ + (x : Int) + 1)) ∧ w.grownBy W (some g)) ⟨?_, ?_⟩ ?_
         ·refine At.drew (At.conv (At.set_ (At.set_ hQr (2048 + K) _) K _) ?_)
          have hmt := midQ_take q at_ S (at_ + (x : Int)) K hK2 HK.out hnx (by omega) (by omega) h2 hf5 hr2 HH.out
          rw [← hmt]
          congr 2
          unfold byteZ
          rw [show at_ + (x : Int) - at_ = (x : Int) by omega]
          exact congrArg (fun c : UInt8 => ((c.toNat : Nat) : Int)) HB.out
         ·exact only_drew (only_set (only_set hOr (.inl rfl) _) (.inl rfl) _)
         rintro W4 ⟨hQ4, hO4⟩
         clear c4 c5 c6 z5 z6
         go_wp2_with fail
         go_roundw
         case rel => exact ⟨x + 1, by omega, by omega, by go_num, by rw [show at_ + ((x + 1 : Nat) : Int) = at_ + (x : Int) + 1 by omega]; exact hQ4, hO4⟩
         case measure => simp [intOf]; omega
       ·rw [hh] at c5
        have HH := Lib.hid hh
        clear hh
        by_cases hf : 0 ≤ q.fin
        all_goals
         go_wp2_with fail
         go_roundw
         case rel => exact ⟨x + 1, by omega, by omega, by go_num, by rw [show at_ + ((x + 1 : Nat) : Int) = at_ + (x : Int) + 1 by omega]; exact At.conv hQr (midQ_keep q at_ S _ K HK.out hnx (by omega) (by omega) h2 hf5 hr2 HH.out).symm, hOr⟩
         case measure => simp [intOf]; omega
     ·go_wp2_with fail
      go_meet
      case rel => exact ⟨At.conv hQr (midQ_end q at_ S _ (by omega)), hOr⟩
    ·go_wp2_with fail
     go_meet
     case rel => exact ⟨At.conv hQr (midQ_end q at_ S _ (by omega)), hOr⟩
  case rest =>
   obtain ⟨hQ3, hO3⟩ := hcut
   clear hQ2 hO2
   have d1 : wc.cell? ⟨g, 4097, none⟩ = some (.int .i64 q.nx) := InqAt.nx_ (q := midEnd q at_ S) hQ3
   have d4 : wc.cell? ⟨g, 4098, none⟩ = some (.int .i64 q.fin) := InqAt.fin_ (q := midEnd q at_ S) hQ3
   have hgr := hQ3.lt
   go_upto_region 13 with (fail)
   go_cut [123] (fun s W2 => s = .bool (finC q at_ S.size fin) ∧ InqAt W2 g (midEnd q at_ S) ∧ w.grownBy W2 (some g))
   case first =>
    cases fin
    ·have hc : finC q at_ S.size false = false := by unfold finC; simp
     have HC := Lib.hid hc
     clear hc
     go_wp2_with fail
     go_meet
     case rel => exact ⟨congrArg _ HC.out.symm, hQ3, hO3⟩
    ·by_cases e1 : q.fin < 0
     ·by_cases e2 : q.nx ≤ at_ + (S.size : Int)
      ·by_cases e3 : at_ + (S.size : Int) ≤ q.rd + 2048
       ·have hc : finC q at_ S.size true = !behindB (hPut q at_ S.size) (at_ + S.size) (q.rd + 2048) := by
         unfold finC; simp [e1, e2, e3]
        have HC := Lib.hid hc
        clear hc
        go_wp2_with (go_at_call 93; refine (behind_any g (midEnd q at_ S) _ _ _ hQ3 (by omega) (by omega) (by omega)).mono ?_; rintro e w' ⟨rfl, rfl⟩)
        all_goals
         go_meet
         case rel => exact ⟨congrArg _ HC.out.symm, hQ3, hO3⟩
       ·have hc : finC q at_ S.size true = false := by unfold finC; simp [e3]
        have HC := Lib.hid hc
        clear hc
        have dd : decide (at_ + (S.size : Int) ≤ q.rd + 2048) = false := by simpa using e3
        go_wp2_with fail
        go_meet
        case rel => exact ⟨congrArg _ HC.out.symm, hQ3, hO3⟩
      ·have hc : finC q at_ S.size true = false := by unfold finC; simp [e2]
       have HC := Lib.hid hc
       clear hc
       have dd : decide (q.nx ≤ at_ + (S.size : Int)) = false := by simpa using e2
       go_wp2_with fail
       go_meet
       case rel => exact ⟨congrArg _ HC.out.symm, hQ3, hO3⟩
     ·have hc : finC q at_ S.size true = false := by unfold finC; simp [e1]
      have HC := Lib.hid hc
      clear hc
      have dd : decide (q.fin < 0) = false := by simpa using e1
      go_wp2_with fail
      go_meet
      case rel => exact ⟨congrArg _ HC.out.symm, hQ3, hO3⟩
   case rest =>
    obtain ⟨rfl, hQ4, hO4⟩ := hcut
    clear hQ3 hO3 d1 d4
    have hgr := hQ4.lt
    have z4 := At.free hQ4 4098
    have d4 : wc.cell? ⟨g, 4098, none⟩ = some (.int .i64 q.fin) := InqAt.fin_ (q := midEnd q at_ S) hQ4
    have HF := Lib.hid (finPut_if q at_ S.size fin)
    go_upto_if 123 with (fail)
    go_cut [123] (fun s W2 => InqAt W2 g (finQ q at_ S fin) ∧ w.grownBy W2 (some g))
    case first =>
     cases hfc : finC q at_ S.size fin
     ·have hf := HF.out
      rw [hfc] at hf
      clear hfc
      simp at hf
      have HF2 := Lib.hid hf
      clear hf
      go_wp2_with fail
      go_meet
      case rel =>
       refine ⟨At.conv hQ4 ?_, hO4⟩
       unfold finQ
       rw [HF2.out]
       rfl
     ·have hf := HF.out
      rw [hfc] at hf
      clear hfc
      simp at hf
      have HF2 := Lib.hid hf
      clear hf
      go_wp2_with fail
      go_meet
      case rel =>
       refine ⟨At.conv (At.set_ hQ4 4098 _) ?_, only_set hO4 (.inl rfl) _⟩
       unfold finQ
       rw [HF2.out, inqC_setfin]
    case rest =>
     have d1 : wc.cell? ⟨g, 4097, none⟩ = some (.int .i64 q.nx) := InqAt.nx_ (q := finQ q at_ S fin) hcut.1
     have hgr := hcut.1.lt
     obtain ⟨hQ5, hO5⟩ := hcut
     have hadv := advZ_is (hPut q at_ S.size) (q.rd + 2048) 2048 q.nx (by omega) (by omega)
     have HA := Lib.hid hadv
     clear hadv hQ4 hO4 d4 z4 HF
     go_wp2_with fail
     clear d1
     go_loopg [] (q.rd + 2048 - q.nx).toNat (fun k wr => ∃ x : Int, k = (q.rd + 2048 - x).toNat ∧ q.nx ≤ x ∧ x ≤ q.rd + 2048 ∧ (∀ y, q.nx ≤ y → y < x → hPut q at_ S.size (y % 2048).toNat = true) ∧ InqAt wr g (advQ q at_ S fin x) ∧ w.grownBy wr (some g))
     case atStart =>
      refine ⟨q.nx, rfl, Int.le_refl _, by omega, fun y a b => by omega, At.conv hQ5 ?_, hO5⟩
      refine inqC_congr _ _ (fun k _ => rfl) (fun k hk => ?_) rfl rfl rfl rfl
      show hPut q at_ S.size k = hAfter q at_ S.size q.nx k
      have := plc_lo q.nx k
      unfold hAfter
      simp [this]
     case round =>
      obtain ⟨x, hgk, hx1, hx2, hall, hQx, hOx⟩ := hrel
      have HALL := Lib.hid hall
      have HGK := Lib.hid hgk
      clear hall hgk
      obtain ⟨K, hK⟩ : ∃ K : Nat, x % 2048 = (K : Int) := ⟨(x % 2048).toNat, by omega⟩
      have hK2 : K < 2048 := by omega
      have c5 : wr.cell? ⟨g, 2048 + K, none⟩ = some (.bool (hAfter q at_ S.size x K)) := InqAt.h_ (q := advQ q at_ S fin x) hQx K hK2
      have c1 : wr.cell? ⟨g, 4097, none⟩ = some (.int .i64 x) := InqAt.nx_ (q := advQ q at_ S fin x) hQx
      have z5 := At.free hQx (2048 + K)
      have z1 := At.free hQx 4097
      have hgr := hQx.lt
      have k0 : (0 : Int) ≤ (K : Int) := by omega
      have k1 : (K : Int) < 2048 := by omega
      have hpl : x < q.rd + 2048 → plc q.nx K = x := fun h => plc_of q.nx x K hx1 (by omega) hK
      have HPL := Lib.hid hpl
      clear hpl
      have hx0 : 0 ≤ x := by omega
      have HK := Lib.hid hK
      by_cases hlx : x < q.rd + 2048
      ·cases hh : hPut q at_ S.size K
       ·have hA : hAfter q at_ S.size x K = false := by unfold hAfter; rw [hh]; rfl
        rw [hA] at c5
        have HH := Lib.hid hh
        clear hh hA
        go_wp2_with fail
        refine wp_region_later (by kernel_rfl) (by kernel_rfl) (fun hlc => ?_)
        repeat (go_big_quiet_step (fail))
        refine wpQuiet_nil ?_
        intro wq hbq
        clear hlc
        have hX : nxPut q at_ S.size = x := adv_one HA.out ⟨hx1, hx2, HALL.out, .inr (by rw [HK.out]; exact HH.out)⟩
        have HX := Lib.hid hX
        clear hX
        have hQq : InqAt wq g (advQ q at_ S fin x) := hQx.kept hbq
        have hOq := only_below hOx hbq
        clear c1 c5 z5 z1
        have c1 : wq.cell? ⟨g, 4097, none⟩ = some (.int .i64 x) := InqAt.nx_ (q := advQ q at_ S fin x) hQq
        have c4 : wq.cell? ⟨g, 4098, none⟩ = some (.int .i64 (finPut q at_ S.size fin)) := InqAt.fin_ (q := advQ q at_ S fin x) hQq
        have hgq := hQq.lt
        have z1 := At.free hQq 4097
        have z9 := At.free hQq 4099
        have c9 : wq.cell? ⟨g, 4099, none⟩ = some (.bool q.over) := InqAt.over_ (q := advQ q at_ S fin x) hQq
        by_cases hff : x = finPut q at_ S.size fin
        ·have hpq := putQ_yes q at_ S fin x ha ha' HOV.out HX.out hff
         have db : ((x : Int) == finPut q at_ S.size fin) = true := by simpa using hff
         have HPQ := Lib.hid hpq
         clear hff hpq
         (generalize finPut q at_ S.size fin = F at c4 db)
         go_wp2_with fail
         refine wp_region_later (by kernel_rfl) (by kernel_rfl) (fun hlc => ?_)
         repeat (go_big_quiet_step (fail))
         refine wpQuiet_nil ?_
         intro wq hbq
         clear hlc
         have hQ9 : InqAt wq g (advQ q at_ S fin x) := hQq.kept hbq
         have hO9 := only_below hOq hbq
         clear c1 c4 c9 z1 z9 hgq
         have c1 : wq.cell? ⟨g, 4097, none⟩ = some (.int .i64 x) := InqAt.nx_ (q := advQ q at_ S fin x) hQ9
         have hgq := hQ9.lt
         have z1 := At.free hQ9 4097
         have z9 := At.free hQ9 4099
         have c9 : wq.cell? ⟨g, 4099, none⟩ = some (.bool q.over) := InqAt.over_ (q := advQ q at_ S fin x) hQ9
         go_wp2_with fail
         go_ret
         refine ⟨ret_bool (by rw [HPQ.out]), ?_, ?_⟩
         ·rw [HPQ.out]
          refine At.conv ?_ (show ((inqC (advQ q at_ S fin x)).set 4097 (.int .i64 (x + 1))).set 4099 (.bool true) = _ by rw [inqC_setnx, inqC_setover])
          repeat' (first | with_reducible exact hQ9 | with_reducible apply At.set_ | with_reducible apply At.drew)
         ·repeat' (first | with_reducible exact hO9 | with_reducible refine only_drew ?_ | with_reducible refine only_set ?_ (.inl rfl) _)
        ·have hpq := putQ_no q at_ S fin x ha ha' HOV.out HX.out hff
         have db : ((x : Int) == finPut q at_ S.size fin) = false := by simpa using hff
         have HPQ := Lib.hid hpq
         clear hff hpq
         (generalize finPut q at_ S.size fin = F at c4 db)
         go_wp2_with fail
         refine wp_region_later (by kernel_rfl) (by kernel_rfl) (fun hlc => ?_)
         repeat (go_big_quiet_step (fail))
         refine wpQuiet_nil ?_
         intro wq hbq
         clear hlc
         have hQ9 : InqAt wq g (advQ q at_ S fin x) := hQq.kept hbq
         have hO9 := only_below hOq hbq
         clear c1 c4 c9 z1 z9 hgq
         have c1 : wq.cell? ⟨g, 4097, none⟩ = some (.int .i64 x) := InqAt.nx_ (q := advQ q at_ S fin x) hQ9
         have hgq := hQ9.lt
         have z1 := At.free hQ9 4097
         have z9 := At.free hQ9 4099
         have c9 : wq.cell? ⟨g, 4099, none⟩ = some (.bool q.over) := InqAt.over_ (q := advQ q at_ S fin x) hQ9
         go_wp2_with fail
         go_ret
         refine ⟨ret_bool (by rw [HPQ.out]; rfl), ?_, hO9⟩
         rw [HPQ.out]
         exact hQ9
       ·have hA : hAfter q at_ S.size x K = true := by unfold hAfter; rw [hh, HPL.out hlx]; simp
        rw [hA] at c5
        have HH := Lib.hid hh
        clear hh hA
        go_wp2_with fail
        refine wp_region_later (by kernel_rfl) (by kernel_rfl) (fun hlc => ?_)
        repeat (go_big_quiet_step (fail))
        refine wpQuiet_nil ?_
        intro wq hbq
        clear hlc
        have hQq : InqAt wq g (advQ q at_ S fin x) := hQx.kept hbq
        have hOq := only_below hOx hbq
        clear c1 c5 z5 z1
        have c5 : wq.cell? ⟨g, 2048 + K, none⟩ = some (.bool (hAfter q at_ S.size x K)) := InqAt.h_ (q := advQ q at_ S fin x) hQq K hK2
        generalize hAfter q at_ S.size x K = B5 at c5
        have c1 : wq.cell? ⟨g, 4097, none⟩ = some (.int .i64 x) := InqAt.nx_ (q := advQ q at_ S fin x) hQq
        have z5 := At.free hQq (2048 + K)
        have z1 := At.free hQq 4097
        have hgq := hQq.lt
        have e5 := HK.out
        have ht5 : x.tmod 2048 = (K : Int) := by rw [Int.tmod_eq_emod_of_nonneg hx0]; exact e5
        clear e5
        go_wp2_with fail
        go_region
        clear ht5
        go_wp2_with fail
        go_roundg (q.rd + 2048 - (x + 1)).toNat
        case measure => have := HGK.out; omega
        case rel =>
         refine ⟨x + 1, rfl, by omega, by omega, fun y a b => ?_, ?_, ?_⟩
         ·by_cases e : y = x
          ·rw [e, HK.out]; exact HH.out
          ·exact HALL.out y a (by omega)
         ·refine At.conv ?_ (advQ_step q at_ S fin x K hK2 HK.out hx1 hlx hr2)
          repeat' (first | with_reducible exact hQq | with_reducible apply At.set_ | with_reducible apply At.drew)
         ·repeat' (first | with_reducible exact hOq | with_reducible refine only_drew ?_ | with_reducible refine only_set ?_ (.inl rfl) _)
      ·have dd : decide (x < q.rd + 2048) = false := by simpa using hlx
       go_wp2_with fail
       refine wp_region_later (by kernel_rfl) (by kernel_rfl) (fun hlc => ?_)
       repeat (go_big_quiet_step (fail))
       refine wpQuiet_nil ?_
       intro wq hbq
       clear hlc
       have hX : nxPut q at_ S.size = x := adv_one HA.out ⟨hx1, hx2, HALL.out, .inl (by omega)⟩
       have HX := Lib.hid hX
       clear hX
       have hQq : InqAt wq g (advQ q at_ S fin x) := hQx.kept hbq
       have hOq := only_below hOx hbq
       clear c1 c5 z5 z1
       have c1 : wq.cell? ⟨g, 4097, none⟩ = some (.int .i64 x) := InqAt.nx_ (q := advQ q at_ S fin x) hQq
       have c4 : wq.cell? ⟨g, 4098, none⟩ = some (.int .i64 (finPut q at_ S.size fin)) := InqAt.fin_ (q := advQ q at_ S fin x) hQq
       have hgq := hQq.lt
       have z1 := At.free hQq 4097
       have z9 := At.free hQq 4099
       have c9 : wq.cell? ⟨g, 4099, none⟩ = some (.bool q.over) := InqAt.over_ (q := advQ q at_ S fin x) hQq
       by_cases hff : x = finPut q at_ S.size fin
       ·have hpq := putQ_yes q at_ S fin x ha ha' HOV.out HX.out hff
        have db : ((x : Int) == finPut q at_ S.size fin) = true := by simpa using hff
        have HPQ := Lib.hid hpq
        clear hff hpq
        (generalize finPut q at_ S.size fin = F at c4 db)
        go_wp2_with fail
        refine wp_region_later (by kernel_rfl) (by kernel_rfl) (fun hlc => ?_)
        repeat (go_big_quiet_step (fail))
        refine wpQuiet_nil ?_
        intro wq hbq
        clear hlc
        have hQ9 : InqAt wq g (advQ q at_ S fin x) := hQq.kept hbq
        have hO9 := only_below hOq hbq
        clear c1 c4 c9 z1 z9 hgq
        have c1 : wq.cell? ⟨g, 4097, none⟩ = some (.int .i64 x) := InqAt.nx_ (q := advQ q at_ S fin x) hQ9
        have hgq := hQ9.lt
        have z1 := At.free hQ9 4097
        have z9 := At.free hQ9 4099
        have c9 : wq.cell? ⟨g, 4099, none⟩ = some (.bool q.over) := InqAt.over_ (q := advQ q at_ S fin x) hQ9
        go_wp2_with fail
        go_ret
        refine ⟨ret_bool (by rw [HPQ.out]), ?_, ?_⟩
        ·rw [HPQ.out]
         refine At.conv ?_ (show ((inqC (advQ q at_ S fin x)).set 4097 (.int .i64 (x + 1))).set 4099 (.bool true) = _ by rw [inqC_setnx, inqC_setover])
         repeat' (first | with_reducible exact hQ9 | with_reducible apply At.set_ | with_reducible apply At.drew)
        ·repeat' (first | with_reducible exact hO9 | with_reducible refine only_drew ?_ | with_reducible refine only_set ?_ (.inl rfl) _)
       ·have hpq := putQ_no q at_ S fin x ha ha' HOV.out HX.out hff
        have db : ((x : Int) == finPut q at_ S.size fin) = false := by simpa using hff
        have HPQ := Lib.hid hpq
        clear hff hpq
        (generalize finPut q at_ S.size fin = F at c4 db)
        go_wp2_with fail
        refine wp_region_later (by kernel_rfl) (by kernel_rfl) (fun hlc => ?_)
        repeat (go_big_quiet_step (fail))
        refine wpQuiet_nil ?_
        intro wq hbq
        clear hlc
        have hQ9 : InqAt wq g (advQ q at_ S fin x) := hQq.kept hbq
        have hO9 := only_below hOq hbq
        clear c1 c4 c9 z1 z9 hgq
        have c1 : wq.cell? ⟨g, 4097, none⟩ = some (.int .i64 x) := InqAt.nx_ (q := advQ q at_ S fin x) hQ9
        have hgq := hQ9.lt
        have z1 := At.free hQ9 4097
        have z9 := At.free hQ9 4099
        have c9 : wq.cell? ⟨g, 4099, none⟩ = some (.bool q.over) := InqAt.over_ (q := advQ q at_ S fin x) hQ9
        go_wp2_with fail
        go_ret
        refine ⟨ret_bool (by rw [HPQ.out]; rfl), ?_, hO9⟩
        rw [HPQ.out]
        exact hQ9
structure Seen (q : IQ) : Prop where
 ok : IqOk q
 stop : Stop q
 rd : q.rd = 1
 fin : q.fin = -1
 ov : q.over = false
theorem seen_new : Seen newIQ := ⟨⟨by decide, by decide, by decide, by decide, by decide, by decide, fun k => by simp [newIQ]⟩, .inr ⟨.inr rfl, by decide⟩, rfl, rfl, rfl⟩
theorem Seen.put {q : IQ} (h : Seen q) (at_ : Int) (S : ByteArray) : Seen (putQ q at_ S false) := by
 have hfp : finPut q at_ S.size false = -1 := by unfold finPut; rw [if_neg (by simp)]; exact h.fin
 refine ⟨put_ok h.ok (by rw [h.rd]; omega) at_ S false, put_stop h.ok h.stop at_ S false, by rw [put_rd, h.rd], ?_, ?_⟩
 ·by_cases hi : idle q at_
  ·rw [putQ_idle S false hi]; exact h.fin
  ·by_cases hf : nxPut q at_ S.size = finPut q at_ S.size false
   ·rw [putQ_over S false hi hf]; exact hfp
   ·rw [putQ_open S false hi hf]; exact hfp
 ·by_cases hi : idle q at_
  ·rw [putQ_idle S false hi]; exact h.ov
  ·have hn := nxPut_is h.ok h.ov at_ S.size
   have hr := h.ok.rd1
   have ho := ok_open h.ok h.ov
   have hf : nxPut q at_ S.size ≠ finPut q at_ S.size false := by rw [hfp]; have := hn.1; omega
   rw [putQ_open S false hi hf]
theorem Put_all (g : Nat) (q : IQ) (at_ : Int) (S : ByteArray) (fin : Bool) (w : World) (hQ : InqAt w g q) (ok : IqOk q) (ha : -9223372036854775808 ≤ at_) (ha' : at_ ≤ 9223372036854775807) (hs : S.size ≤ 140737488351232) :
  Calls Try.prog 92 #[.pointer (some ⟨g, 0, none⟩), .int .i64 at_, .string S, .bool fin] w fun e w' => e = .returned (.bool (decide (q.nx < (putQ q at_ S fin).nx))) ∧ InqAt w' g (putQ q at_ S fin) ∧ w.grownBy w' (some g) := by
 by_cases hid : idle q at_
 ·refine (Put_none g q at_ S fin w hQ ha ha' hid).mono ?_
  rintro e w' ⟨rfl, rfl⟩
  rw [putQ_idle S fin hid]
  exact ⟨ret_bool (by simp), hQ, only_refl _ _⟩
 ·have hov := idle_open hid
  unfold idle at hid
  exact Put_any g q at_ S fin w hQ ok hov (by omega) (by omega) (by omega)
end Go.Proofs.Ytfpifahkpkjfgaa
namespace Go.Proofs.Ytfpifahkpkjfgaa
open Go.RowKit Go.Lib
set_option linter.unusedVariables false
set_option linter.unusedSimpArgs false
def sgLen (g : KSeg) : Int := g.b.size + (if g.syn then 1 else 0) + (if g.fin then 1 else 0)
def cSampled (t : KTm) (r : Int) : KTm :=
 if r < 0 ∨ 1099511627776 < r then t else if t.k then ⟨true, t.m + (r - t.m / 8), t.s + (absZ (r - t.m / 8) - t.s / 4), 0⟩ else ⟨true, r * 8, r * 2, 0⟩
def cAckW (d : KWd) (n : Int) : KWd := if n < 1 then d else ⟨d.m, ackZ d.m d.s d.l n, d.l⟩
def cMany (q : OQ) (a : Int) : Int := if oHit q a then a - q.una else 0
def cAckd (c : KCn) (a : Int) : KCn :=
 { c with
  o := oAck c.o a
  tm := if 0 < c.meas ∧ c.meas ≤ a then cSampled c.tm (c.now - c.wh) else c.tm
  meas := if 0 < c.meas ∧ c.meas ≤ a then 0 else c.meas
  h := c.h.map fun x => (x.1, cAckW x.2 (cMany c.o a))
  gone := 0
  same := 0
  clock := -1 }
def cMss (own m : Int) : Int := maxZ (minZ own (if m = 0 then 536 else m)) 8
def cSyn (c : KCn) (g : KSeg) : KCn :=
 { c with irs := g.seq, wnd := g.win, mss := cMss c.own g.mss, h := some (newIQ, ⟨cMss c.own g.mss, 2 * cMss c.own g.mss, 65535⟩) }
def cFirst (c : KCn) (g : KSeg) : KCn :=
 if g.has = true ∧ (g.ack ≠ u32 (c.iss + 1) ∨ c.o.sent = 0) then (if g.rst then c else { c with rs := c.rs ++ [g.ack] })
 else if g.rst then (if g.has then cClosed c 11 else c)
 else if g.syn then (if g.has then { cAckd (cSyn c g) 1 with st := 3, owed := true } else { cSyn c g with st := 2, o := { c.o with cur := c.o.una } })
 else c
def cQ (c : KCn) : IQ := match c.h with
 | some x => x.1
 | none => newIQ
def cW (c : KCn) : KWd := match c.h with
 | some x => x.2
 | none => ⟨8, 16, 65535⟩
def cWant (c : KCn) : Int := u32 (c.irs + u32 (cQ c).nx)
def cRoomI (c : KCn) : Int := 2048 - (endZ (cQ c) - (cQ c).rd)
def cAt (c : KCn) (g : KSeg) : Int := nearZ (u32 (g.seq - c.irs)) (cQ c).nx
def cAckAt (c : KCn) (g : KSeg) : Int := nearZ (u32 (g.ack - c.iss)) c.o.una
def cSame (c : KCn) (g : KSeg) : KCn :=
 if c.same + 1 = 3 then { c with same := 3, again := true, meas := 0, h := c.h.map fun x => (x.1, ⟨x.2.m, halfZ x.2.m (c.o.cur - c.o.una), halfZ x.2.m (c.o.cur - c.o.una)⟩) } else { c with same := c.same + 1 }
def cAcks2 (c : KCn) (g : KSeg) (at_ ack : Int) : KCn × Bool :=
 if c.o.sent < ack then ({ c with owed := true }, false) else
  let c1 := if c.o.una < ack then cAckd c ack else if ack = c.o.una ∧ sgLen g = 0 ∧ c.o.una < c.o.cur ∧ g.win = c.wnd then cSame c g else c
  let c2 := if c.o.una < ack ∨ (ack = c.o.una ∧ (c.wat < at_ ∨ (at_ = c.wat ∧ c.wak ≤ ack))) then { c1 with wnd := g.win, wat := at_, wak := ack } else c1
  if c2.shut = true ∧ c2.o.una = qEnd c2.o then
   (if c2.st = 4 then ({ c2 with st := 5 }, true) else if c2.st = 7 then (cWait c2, true) else if c2.st = 8 then (cClosed c2 0, false) else (c2, true))
  else (c2, true)
def cAcks (c : KCn) (g : KSeg) (at_ : Int) : KCn × Bool :=
  if c.st = 2 then
    (if cAckAt c g < 1 ∨ c.o.sent < cAckAt c g then ({ c with rs := c.rs ++ [g.ack] }, false)
     else cAcks2 { c with st := if c.shut then 4 else 3 } g at_ (cAckAt c g))
  else cAcks2 c g at_ (cAckAt c g)
def cTakes1 (c : KCn) (g : KSeg) (at_ : Int) : KCn :=
 if c.st = 3 ∨ c.st = 4 ∨ c.st = 5 then
  let c1 := { c with h := c.h.map fun x => (putQ x.1 at_ g.b g.fin, x.2) }
  if (cQ c1).over = true then (if c.st = 3 then { c1 with st := 6 } else if c.st = 4 then { c1 with st := 7 } else cWait c1) else c1
 else if c.st = 9 ∧ g.fin = true then cWait c else c
def cTakes (c : KCn) (g : KSeg) (at_ : Int) : KCn :=
 { cTakes1 c g at_ with owed := c.owed || decide (0 < sgLen g) }
def cNext (c : KCn) (g : KSeg) : KCn :=
 if accB g.seq (sgLen g) (cWant c) (cRoomI c) = false then
  (if c.st = 9 ∧ g.fin = true then cWait { c with owed := c.owed || !g.rst } else { c with owed := c.owed || !g.rst })
 else if g.rst = true ∧ g.seq = cWant c then cClosed c (if c.st = 9 then 0 else 12)
 else if g.rst = true ∨ g.syn = true then { c with owed := true }
 else if g.has = true then (if (cAcks c g (cAt c g)).2 then cTakes (cAcks c g (cAt c g)).1 g (cAt c g) else (cAcks c g (cAt c g)).1)
 else c
def cInE (c : KCn) (g : KSeg) : Int :=
 if tcChk g ≠ 0 then tcChk g else if ¬(g.fa = c.ra ∧ g.fp = c.rp ∧ g.ta = c.la ∧ g.tp = c.lp) then 6 else if c.st = 0 then 10 else 0
def cIn (c : KCn) (g : KSeg) : KCn :=
 if cInE c g ≠ 0 then c else cSettle (if c.st = 1 then cFirst c g else cNext c g)
end Go.Proofs.Ytfpifahkpkjfgaa
