/- What CnPc needs, a part: InqC, InqD, RtoC, CongC, SeqC. -/
import Derived.Outline
import Derived.OwnWalk
import Derived.Test.YtfpifahkpkjfgaaMZ
import Derived.Test.YtfpifahkpkjfgaaMCnPc1
import Derived.Test.YtfpifahkpkjfgaaMCnPc5
/- Contracts of the package inq: the queue in memory, and its small methods. -/
namespace Go.Proofs.Ytfpifahkpkjfgaa
open Go.RowKit
set_option linter.unusedVariables false
def inqC (q : IQ) : List Value := fnL 2048 (fun k => Value.int .u8 (q.r k)) ++ (fnL 2048 (fun k => Value.bool (q.h k)) ++ [.int .i64 q.rd, .int .i64 q.nx, .int .i64 q.fin, .bool q.over])
abbrev InqAt (w : World) (g : Nat) (q : IQ) : Prop := At w g 121 (inqC q)
theorem inqC_r (q : IQ) (k : Nat) (h : k < 2048) : (inqC q)[k]? = some (.int .u8 (q.r k)) := by
 unfold inqC
 rw [List.getElem?_append_left (by rw [fnL_len]; exact h), fnL_get _ _ _ h]
theorem inqC_h (q : IQ) (k : Nat) (h : k < 2048) : (inqC q)[2048 + k]? = some (.bool (q.h k)) := by
 unfold inqC
 rw [List.getElem?_append_right (by rw [fnL_len]; omega), fnL_len, List.getElem?_append_left (by rw [fnL_len]; omega), show 2048 + k - 2048 = k by omega, fnL_get _ _ _ h]
theorem inqC_t (q : IQ) (k : Nat) : (inqC q)[4096 + k]? = ([.int .i64 q.rd, .int .i64 q.nx, .int .i64 q.fin, .bool q.over] : List Value)[k]? := by
 unfold inqC
 rw [List.getElem?_append_right (by rw [fnL_len]; omega), fnL_len, List.getElem?_append_right (by rw [fnL_len]; omega), fnL_len, show 4096 + k - 2048 - 2048 = k by omega]
theorem inqC_congr (q q' : IQ) (h1 : ∀ k, k < 2048 → q.r k = q'.r k) (h2 : ∀ k, k < 2048 → q.h k = q'.h k) (h3 : q.rd = q'.rd) (h4 : q.nx = q'.nx) (h5 : q.fin = q'.fin) (h6 : q.over = q'.over) : inqC q = inqC q' := by
 unfold inqC
 rw [fnL_congr 2048 (fun k => Value.int .u8 (q.r k)) (fun k => Value.int .u8 (q'.r k)) (fun k hk => by rw [h1 k hk]), fnL_congr 2048 (fun k => Value.bool (q.h k)) (fun k => Value.bool (q'.h k)) (fun k hk => by rw [h2 k hk]), h3, h4, h5, h6]
theorem inqC_setr (q : IQ) (K : Nat) (x : Int) (h : K < 2048) : (inqC q).set K (.int .u8 x) = inqC { q with r := fun k => if k = K then x else q.r k } := by
 unfold inqC
 rw [List.set_append_left _ _ (by rw [fnL_len]; exact h), fnL_set]
 simp only
 congr 1
 exact fnL_congr _ _ _ (fun k _ => by split <;> rfl)
theorem inqC_seth (q : IQ) (K : Nat) (x : Bool) (h : K < 2048) : (inqC q).set (2048 + K) (.bool x) = inqC { q with h := fun k => if k = K then x else q.h k } := by
 unfold inqC
 rw [List.set_append_right _ _ (by rw [fnL_len]; omega), fnL_len, show 2048 + K - 2048 = K by omega, List.set_append_left _ _ (by rw [fnL_len]; exact h), fnL_set]
 simp only
 congr 2
 exact fnL_congr _ _ _ (fun k _ => by split <;> rfl)
theorem inqC_sett (q : IQ) (i : Nat) (v : Value) : (inqC q).set (4096 + i) v = fnL 2048 (fun k => Value.int .u8 (q.r k)) ++ (fnL 2048 (fun k => Value.bool (q.h k)) ++ ([.int .i64 q.rd, .int .i64 q.nx, .int .i64 q.fin, .bool q.over] : List Value).set i v) := by
 unfold inqC
 rw [List.set_append_right _ _ (by rw [fnL_len]; omega), fnL_len, List.set_append_right _ _ (by rw [fnL_len]; omega), fnL_len, show 4096 + i - 2048 - 2048 = i by omega]
theorem inqC_setrd (q : IQ) (x : Int) : (inqC q).set 4096 (.int .i64 x) = inqC { q with rd := x } := inqC_sett q 0 _
theorem inqC_setnx (q : IQ) (x : Int) : (inqC q).set 4097 (.int .i64 x) = inqC { q with nx := x } := inqC_sett q 1 _
theorem inqC_setfin (q : IQ) (x : Int) : (inqC q).set 4098 (.int .i64 x) = inqC { q with fin := x } := inqC_sett q 2 _
theorem inqC_setover (q : IQ) (x : Bool) : (inqC q).set 4099 (.bool x) = inqC { q with over := x } := inqC_sett q 3 _
attribute [irreducible] inqC
section
variable {w : World} {g : Nat} {q : IQ} (hQ : InqAt w g q)
include hQ
theorem InqAt.r_ (k : Nat) (h : k < 2048) : w.cell? ⟨g, k, none⟩ = some (.int .u8 (q.r k)) := by rw [At.cell hQ]; exact inqC_r q k h
theorem InqAt.h_ (k : Nat) (h : k < 2048) : w.cell? ⟨g, 2048 + k, none⟩ = some (.bool (q.h k)) := by rw [At.cell hQ]; exact inqC_h q k h
theorem InqAt.rd_ : w.cell? ⟨g, 4096, none⟩ = some (.int .i64 q.rd) := by rw [At.cell hQ]; exact inqC_t q 0
theorem InqAt.nx_ : w.cell? ⟨g, 4097, none⟩ = some (.int .i64 q.nx) := by rw [At.cell hQ]; exact inqC_t q 1
theorem InqAt.fin_ : w.cell? ⟨g, 4098, none⟩ = some (.int .i64 q.fin) := by rw [At.cell hQ]; exact inqC_t q 2
theorem InqAt.over_ : w.cell? ⟨g, 4099, none⟩ = some (.bool q.over) := by rw [At.cell hQ]; exact inqC_t q 3
end
/-- a queue's numbers are in their bounds -/
structure IqOk (q : IQ) : Prop where
 rd1 : 1 ≤ q.rd
 rdn : q.rd ≤ (if q.over then q.nx - 1 else q.nx)
 nxr : (if q.over then q.nx - 1 else q.nx) ≤ q.rd + 2048
 nxm : q.nx ≤ 1152921504606846976
 fin1 : -1 ≤ q.fin
 finm : q.fin ≤ 2305843009213693952
 rok : ∀ k, 0 ≤ q.r k ∧ q.r k ≤ 255
def endZ (q : IQ) : Int := if q.over then q.nx - 1 else q.nx
def newIQ : IQ := ⟨fun _ => 0, fun _ => false, 1, 1, -1, false⟩
set_option maxRecDepth 100000 in
theorem Next_any (g : Nat) (q : IQ) (w : World) (hQ : InqAt w g q) :
  Calls Try.prog 67 #[.pointer (some ⟨g, 0, none⟩)] w fun e w' => e = .returned (.int .i64 q.nx) ∧ w = w' := by
 have c := InqAt.nx_ hQ
 go_enter Try.func67, Try.ntmps67
 go_wp2
 go_ret
 exact ⟨rfl, rfl⟩
theorem Over_any (g : Nat) (q : IQ) (w : World) (hQ : InqAt w g q) :
  Calls Try.prog 55 #[.pointer (some ⟨g, 0, none⟩)] w fun e w' => e = .returned (.bool q.over) ∧ w = w' := by
 have c := InqAt.over_ hQ
 go_enter Try.func55, Try.ntmps55
 go_wp2
 go_ret
 exact ⟨rfl, rfl⟩
theorem end_any (g : Nat) (q : IQ) (w : World) (hQ : InqAt w g q) (ok : IqOk q) :
  Calls Try.prog 82 #[.pointer (some ⟨g, 0, none⟩)] w fun e w' => e = .returned (.int .i64 (endZ q)) ∧ w = w' := by
 have c := InqAt.over_ hQ
 have c1 := InqAt.nx_ hQ
 have h1 := ok.rd1
 have h2 := ok.rdn
 have h3 := ok.nxm
 unfold endZ
 cases ho : q.over
 ·rw [ho] at c h2
  simp at h2 ⊢
  clear ho
  go_enter Try.func82, Try.ntmps82
  go_wp2
  go_ret
  exact ⟨rfl, rfl⟩
 ·rw [ho] at c h2
  simp at h2 ⊢
  clear ho
  go_enter Try.func82, Try.ntmps82
  go_wp2
  go_ret
  exact ⟨rfl, rfl⟩
theorem end_bd (q : IQ) (ok : IqOk q) : q.rd ≤ endZ q ∧ endZ q ≤ q.rd + 2048 ∧ 1 ≤ endZ q ∧ endZ q ≤ 1152921504606846976 := by
 have h1 := ok.rd1
 have h2 := ok.rdn
 have h3 := ok.nxr
 have h4 := ok.nxm
 unfold endZ
 cases ho : q.over <;> rw [ho] at h2 h3 <;> simp at h2 h3 ⊢ <;> omega
theorem Ready_any (g : Nat) (q : IQ) (w : World) (hQ : InqAt w g q) (ok : IqOk q) :
  Calls Try.prog 53 #[.pointer (some ⟨g, 0, none⟩)] w fun e w' => e = .returned (.int .i64 (endZ q - q.rd)) ∧ Below w.heap.size w w' := by
 have c := InqAt.rd_ hQ
 obtain ⟨b1, b2, b3, b4⟩ := end_bd q ok
 have hlt := hQ.lt
 have he := fun (u : Later w) => end_any g q u.now (hQ.kept u.still) ok
 have h1 := ok.rd1
 have HE := Lib.hid he
 clear he
 go_enter Try.func53, Try.ntmps53
 go_wp2_with fail
 refine wp_region_later (by kernel_rfl) (by kernel_rfl) (fun hlc => ?_)
 repeat (go_big_quiet_step ((go_at_call 82; exact later_same (HE.out _))))
 refine wpQuiet_nil ?_
 intro wq hbq
 clear hlc
 go_wp2_with fail
 go_ret
 exact ⟨rfl, hbq⟩
theorem Window_any (g : Nat) (q : IQ) (w : World) (hQ : InqAt w g q) (ok : IqOk q) :
  Calls Try.prog 66 #[.pointer (some ⟨g, 0, none⟩)] w fun e w' => e = .returned (.int .i64 (2048 - (endZ q - q.rd))) ∧ Below w.heap.size w w' := by
 obtain ⟨b1, b2, b3, b4⟩ := end_bd q ok
 go_enter Try.func66, Try.ntmps66
 go_wp2_with fail
 refine (Ready_any g q _ hQ ok).mono ?_
 rintro e w1 ⟨rfl, hB1⟩
 go_wp2_with fail
 go_ret
 exact ⟨rfl, hB1⟩
def zeroIQ : IQ := ⟨fun _ => 0, fun _ => false, 0, 0, 0, false⟩
set_option maxRecDepth 1000000 in
theorem inq_zero (W : World) : (zeroValue 121).run Try.prog W = .ok (.agg (inqC zeroIQ).toArray) W := by kernel_rfl
theorem inqC_len (q : IQ) : (inqC q).length = 4100 := by
 unfold inqC
 simp [fnL_len]
set_option maxRecDepth 100000 in
theorem inqNew_any (w : World) : Calls Try.prog 85 #[] w fun e w' => e = .returned (.pointer (some ⟨w.heap.size, 0, none⟩)) ∧ InqAt w' w.heap.size newIQ ∧ Below w.heap.size w w' := by
 have hz := inq_zero
 have hl := inqC_len zeroIQ
 have hn : ((inqC zeroIQ).set 4096 (.int .i64 1)).set 4097 (.int .i64 1) = ((inqC zeroIQ).set 4096 (.int .i64 1)).set 4097 (.int .i64 1) := rfl
 have h3 : (((inqC zeroIQ).set 4096 (.int .i64 1)).set 4097 (.int .i64 1)).set 4098 (.int .i64 (-1)) = inqC newIQ := by rw [inqC_setrd, inqC_setnx, inqC_setfin]; rfl
 clear hn
 generalize inqC zeroIQ = Z at *
 have hs : Z.toArray.size = 4100 := by rw [List.size_toArray]; exact hl
 have h4 : ((Z.toArray.setIfInBounds 4096 (.int .i64 1)).setIfInBounds 4097 (.int .i64 1)).setIfInBounds 4098 (.int .i64 (-1)) = (inqC newIQ).toArray := by
  rw [List.setIfInBounds_toArray, List.setIfInBounds_toArray, List.setIfInBounds_toArray, h3]
 generalize Z.toArray = Y at *
 clear h3 hl
 have H4 := Lib.hid h4
 clear h4
 go_enter Try.func85, Try.ntmps85
 go_wp2_with fail
 go_ret
 refine ⟨rfl, ?_, below_ca (Below.refl _ _) _⟩
 rw [H4.out]
 exact At.new_ _ _ _
end Go.Proofs.Ytfpifahkpkjfgaa
/- Contracts of the package inq: behind, Read. -/
namespace Go.Proofs.Ytfpifahkpkjfgaa
open Go.RowKit
set_option linter.unusedVariables false
set_option maxRecDepth 100000 in
set_option maxHeartbeats 1000000 in
theorem behind_any (g : Nat) (q : IQ) (p edge : Int) (w : World) (hQ : InqAt w g q) (hp : 0 ≤ p) (he : edge ≤ 4611686018427387904) (hp' : p ≤ 4611686018427387904) :
  Calls Try.prog 93 #[.pointer (some ⟨g, 0, none⟩), .int .i64 p, .int .i64 edge] w fun e w' => e = .returned (.bool (behindB q.h p edge)) ∧ w = w' := by
 have hlt := hQ.lt
 have HI := Lib.hid (behind_iff q.h p edge)
 go_enter Try.func93, Try.ntmps93
 go_wp2_with fail
 go_loop [1] (fun c => ∃ x : Int, p ≤ x ∧ x ≤ 4611686018427387904 ∧ c = .int .i64 x ∧ ∀ y, p ≤ y → y < x → q.h (y % 2048).toNat = false) (fun c => (edge - intOf c).toNat)
 case atStart => exact ⟨p, by omega, hp', rfl, fun y a b => by omega⟩
 case round =>
  obtain ⟨x, hx, hx', rfl, hno⟩ := hrel
  have HN := Lib.hid hno
  clear hno
  by_cases hlt : x < edge
  ·obtain ⟨K, hK⟩ : ∃ K : Nat, x % 2048 = (K : Int) := ⟨(x % 2048).toNat, by omega⟩
   have hK2 : K < 2048 := by omega
   have c := InqAt.h_ hQ K hK2
   have k1 : (K : Int) < 2048 := by omega
   cases hh : q.h K
   ·rw [hh] at c
    have HH := Lib.hid hh
    have HK := Lib.hid hK
    clear hh
    go_wp2_with fail
    go_round
    case rel =>
     refine ⟨x + 1, by omega, by omega, rfl, fun y a b => ?_⟩
     by_cases e : y = x
     ·rw [e, HK.out]; exact HH.out
     ·exact HN.out y a (by omega)
    case measure => simp [intOf]; omega
   ·rw [hh] at c
    have HH := Lib.hid hh
    have HK := Lib.hid hK
    clear hh
    go_wp2_with fail
    go_ret
    refine ⟨ret_bool ?_, rfl⟩
    symm
    rw [HI.out]
    exact ⟨x, hx, hlt, by rw [HK.out]; exact HH.out⟩
  ·go_wp2_with fail
   go_ret
   refine ⟨ret_bool ?_, rfl⟩
   cases hb : behindB q.h p edge
   ·rfl
   ·obtain ⟨y, a, b, c⟩ := HI.out.1 hb
    rw [HN.out y a (by omega)] at c
    cases c
theorem exb_gen {R : Exit → Act → World → Prop} {i : Nat} {a : Act} {w : World} (Pr : World → Prop) (h : Pr w) (k : ∀ W, Pr W → Exit.inBlock i R .normal a W) : Exit.inBlock i R .normal a w := k w h
end Go.Proofs.Ytfpifahkpkjfgaa
/- Contracts of the package rto. -/
namespace Go.Proofs.Ytfpifahkpkjfgaa
open Go.RowKit
set_option linter.unusedVariables false
/-- a Timer in memory -/
def timer (k : Bool) (m s d : Int) : List Value := [.bool k, .int .i64 m, .int .i64 s, .int .i64 d]
abbrev TimerAt (w : World) (g : Nat) (k : Bool) (m s d : Int) : Prop := At w g 109 (timer k m s d)
/-- what a Timer's numbers are bound by -/
def TimerOk (m s d : Int) : Prop := 0 ≤ m ∧ m ≤ 8796093022208 ∧ 0 ≤ s ∧ s ≤ 4398046511104 ∧ 0 ≤ d ∧ d ≤ 6
theorem rtoNew_any (w : World) : Calls Try.prog 61 #[] w fun e w' => e = .returned (.pointer (some ⟨w.heap.size, 0, none⟩)) ∧ TimerAt w' w.heap.size false 0 0 0 ∧ Below w.heap.size w w' := by
 go_enter Try.func61, Try.ntmps61
 go_wp2
 go_ret
 exact ⟨rfl, At.new_ _ _ _, below_ca (Below.refl _ _) _⟩
theorem Sample_no (g : Nat) (r : Int) (w : World) (hr : r < 0 ∨ 1099511627776 < r) :
  Calls Try.prog 88 #[.pointer (some ⟨g, 0, none⟩), .int .i64 r] w fun e w' => e = .returned (.int .i64 1) ∧ w = w' := by
 by_cases h : r < 0
 ·go_enter Try.func88, Try.ntmps88
  go_wp2
  go_ret
  exact ⟨rfl, rfl⟩
 ·have h2 : 1099511627776 < r := by omega
  clear hr
  go_enter Try.func88, Try.ntmps88
  go_wp2
  go_ret
  exact ⟨rfl, rfl⟩
set_option maxHeartbeats 400000 in
theorem Sample_first (g : Nat) (m s d r : Int) (w : World) (hT : TimerAt w g false m s d) (hr : 0 ≤ r) (hr' : r ≤ 1099511627776) :
  Calls Try.prog 88 #[.pointer (some ⟨g, 0, none⟩), .int .i64 r] w fun e w' => e = .returned (.int .i64 0) ∧ TimerAt w' g true (r * 8) (r * 2) 0 ∧ w.grownBy w' (some g) := by
 have c0 : w.cell? ⟨g, 0, none⟩ = some (.bool false) := hT.cell 0
 have c1 : w.cell? ⟨g, 1, none⟩ = some (.int .i64 m) := hT.cell 1
 have c2 : w.cell? ⟨g, 2, none⟩ = some (.int .i64 s) := hT.cell 2
 have c3 : w.cell? ⟨g, 3, none⟩ = some (.int .i64 d) := hT.cell 3
 have f0 : w.frozen? ⟨g, 0, none⟩ = false := hT.free 0
 have f1 : w.frozen? ⟨g, 1, none⟩ = false := hT.free 1
 have f2 : w.frozen? ⟨g, 2, none⟩ = false := hT.free 2
 have f3 : w.frozen? ⟨g, 3, none⟩ = false := hT.free 3
 go_enter Try.func88, Try.ntmps88
 go_wp2
 go_ret
 refine ⟨rfl, ?_, ?_⟩
 apply At.conv
 case h => repeat' (first | with_reducible exact hT | with_reducible apply At.set_ | with_reducible apply At.drew | with_reducible apply At.drewN | with_reducible apply At.alloc)
 case e => rfl
 repeat' (first | with_reducible exact only_refl _ _ | with_reducible assumption | with_reducible refine only_drew ?_ | with_reducible refine only_dn ?_ _ | with_reducible refine only_alloc ?_ _ | with_reducible refine only_set ?_ (.inl rfl) _ | with_reducible refine only_set ?_ (.inr (by simp)) _ | (refine only_below ?_ (by with_reducible assumption)) | (refine only_trans ?_ (by with_reducible assumption)))
def absZ (d : Int) : Int := if d < 0 then -d else d
set_option maxHeartbeats 400000 in
theorem Sample_next (g : Nat) (m s d r : Int) (w : World) (hT : TimerAt w g true m s d) (ho : TimerOk m s d) (hr : 0 ≤ r) (hr' : r ≤ 1099511627776) :
  Calls Try.prog 88 #[.pointer (some ⟨g, 0, none⟩), .int .i64 r] w fun e w' => e = .returned (.int .i64 0) ∧ TimerAt w' g true (m + (r - m / 8)) (s + (absZ (r - m / 8) - s / 4)) 0 ∧ w.grownBy w' (some g) := by
 have c0 : w.cell? ⟨g, 0, none⟩ = some (.bool true) := hT.cell 0
 have c1 : w.cell? ⟨g, 1, none⟩ = some (.int .i64 m) := hT.cell 1
 have c2 : w.cell? ⟨g, 2, none⟩ = some (.int .i64 s) := hT.cell 2
 have c3 : w.cell? ⟨g, 3, none⟩ = some (.int .i64 d) := hT.cell 3
 have f1 : w.frozen? ⟨g, 1, none⟩ = false := hT.free 1
 have f2 : w.frozen? ⟨g, 2, none⟩ = false := hT.free 2
 have f3 : w.frozen? ⟨g, 3, none⟩ = false := hT.free 3
 obtain ⟨h1, h2, h3, h4, h5, h6⟩ := ho
 by_cases hn : r - m / 8 < 0
 ·rw [show absZ (r - m / 8) = -(r - m / 8) from if_pos hn]
  go_enter Try.func88, Try.ntmps88
  go_wp2
  go_region
  all_goals
   go_wp2
   go_ret
   refine ⟨rfl, ?_, ?_⟩
   apply At.conv
   case h => repeat' (first | with_reducible exact hT | with_reducible apply At.set_ | with_reducible apply At.drew | with_reducible apply At.drewN | with_reducible apply At.alloc)
   case e => rfl
   repeat' (first | with_reducible exact only_refl _ _ | with_reducible assumption | with_reducible refine only_drew ?_ | with_reducible refine only_dn ?_ _ | with_reducible refine only_alloc ?_ _ | with_reducible refine only_set ?_ (.inl rfl) _ | with_reducible refine only_set ?_ (.inr (by simp)) _ | (refine only_below ?_ (by with_reducible assumption)) | (refine only_trans ?_ (by with_reducible assumption)))
 ·rw [show absZ (r - m / 8) = r - m / 8 from if_neg hn]
  go_enter Try.func88, Try.ntmps88
  go_wp2
  go_region
  all_goals
   go_wp2
   go_ret
   refine ⟨rfl, ?_, ?_⟩
   apply At.conv
   case h => repeat' (first | with_reducible exact hT | with_reducible apply At.set_ | with_reducible apply At.drew | with_reducible apply At.drewN | with_reducible apply At.alloc)
   case e => rfl
   repeat' (first | with_reducible exact only_refl _ _ | with_reducible assumption | with_reducible refine only_drew ?_ | with_reducible refine only_dn ?_ _ | with_reducible refine only_alloc ?_ _ | with_reducible refine only_set ?_ (.inl rfl) _ | with_reducible refine only_set ?_ (.inr (by simp)) _ | (refine only_below ?_ (by with_reducible assumption)) | (refine only_trans ?_ (by with_reducible assumption)))
theorem sample_ok (m s d r : Int) (ho : TimerOk m s d) (hr : 0 ≤ r) (hr' : r ≤ 1099511627776) : TimerOk (m + (r - m / 8)) (s + (absZ (r - m / 8) - s / 4)) 0 := by
 obtain ⟨h1, h2, h3, h4, h5, h6⟩ := ho
 unfold TimerOk absZ
 split <;> omega
theorem first_ok (r : Int) (hr : 0 ≤ r) (hr' : r ≤ 1099511627776) : TimerOk (r * 8) (r * 2) 0 := by unfold TimerOk; omega
theorem late_ok (m s d : Int) (ho : TimerOk m s d) : TimerOk m s (if d < 6 then d + 1 else 6) := by
 obtain ⟨h1, h2, h3, h4, h5, h6⟩ := ho
 unfold TimerOk
 split <;> omega
theorem zero_ok : TimerOk 0 0 0 := by unfold TimerOk; omega
end Go.Proofs.Ytfpifahkpkjfgaa
/- Contracts of the package cong. -/
namespace Go.Proofs.Ytfpifahkpkjfgaa
open Go.RowKit
set_option linter.unusedVariables false
/-- a Window in memory -/
def window (m s l : Int) : List Value := [.int .i64 m, .int .i64 s, .int .i64 l]
abbrev WindowAt (w : World) (g : Nat) (m s l : Int) : Prop := At w g 123 (window m s l)
def WindowOk (m s l : Int) : Prop := 8 ≤ m ∧ m ≤ 1000 ∧ m ≤ s ∧ s ≤ 65535 ∧ 2 * m ≤ l ∧ l ≤ 65535
theorem congNew_yes (m : Int) (w : World) (h1 : 8 ≤ m) (h2 : m ≤ 1000) :
  Calls Try.prog 86 #[.int .i64 m] w fun e w' => e = .returned (.tuple #[.pointer (some ⟨w.heap.size, 0, none⟩), .int .i64 0]) ∧ WindowAt w' w.heap.size m (2 * m) 65535 ∧ Below w.heap.size w w' := by
 go_enter Try.func86, Try.ntmps86
 go_wp2
 go_ret2
 exact ⟨rfl, At.new_ _ _ _, below_ca (Below.refl _ _) _⟩
theorem Size_any (g : Nat) (m s l : Int) (w : World) (hT : WindowAt w g m s l) :
  Calls Try.prog 64 #[.pointer (some ⟨g, 0, none⟩)] w fun e w' => e = .returned (.int .i64 s) ∧ w = w' := by
 have c1 : w.cell? ⟨g, 1, none⟩ = some (.int .i64 s) := hT.cell 1
 go_enter Try.func64, Try.ntmps64
 go_wp2
 go_ret
 exact ⟨rfl, rfl⟩
def halfZ (m f : Int) : Int := if 65535 < (if (if 0 < f then f else 0) / 2 < 2 * m then 2 * m else (if 0 < f then f else 0) / 2) then 65535 else (if (if 0 < f then f else 0) / 2 < 2 * m then 2 * m else (if 0 < f then f else 0) / 2)
set_option maxHeartbeats 400000 in
theorem halve_any (g : Nat) (m s l f : Int) (w : World) (hT : WindowAt w g m s l) (ho : WindowOk m s l) (hf : -9223372036854775808 ≤ f) (hf' : f ≤ 9223372036854775807) :
  Calls Try.prog 84 #[.pointer (some ⟨g, 0, none⟩), .int .i64 f] w fun e w' => e = .returned (.tuple #[]) ∧ WindowAt w' g m s (halfZ m f) ∧ w.grownBy w' (some g) := by
 have c0 : w.cell? ⟨g, 0, none⟩ = some (.int .i64 m) := hT.cell 0
 have c2 : w.cell? ⟨g, 2, none⟩ = some (.int .i64 l) := hT.cell 2
 have f2 : w.frozen? ⟨g, 2, none⟩ = false := hT.free 2
 obtain ⟨h1, h2, h3, h4, h5, h6⟩ := ho
 by_cases hpos : 0 < f
 ·by_cases hq : f / 2 < 2 * m
  ·have hv : halfZ m f = 2 * m := by unfold halfZ; simp only [if_pos hpos, if_pos hq]; exact if_neg (by omega)
   rw [hv]
   clear hv
   go_enter Try.func84, Try.ntmps84
   go_wp2
   go_end0
   exact ⟨rfl, hT.set_ 2 _, only_set (only_refl _ _) (.inl rfl) _⟩
  ·by_cases hb : 65535 < f / 2
   ·have hv : halfZ m f = 65535 := by unfold halfZ; simp only [if_pos hpos, if_neg hq]; exact if_pos hb
    rw [hv]
    clear hv
    go_enter Try.func84, Try.ntmps84
    go_wp2
    go_end0
    exact ⟨rfl, hT.set_ 2 _, only_set (only_refl _ _) (.inl rfl) _⟩
   ·have hv : halfZ m f = f / 2 := by unfold halfZ; simp only [if_pos hpos, if_neg hq]; exact if_neg hb
    rw [hv]
    clear hv
    go_enter Try.func84, Try.ntmps84
    go_wp2
    go_end0
    exact ⟨rfl, hT.set_ 2 _, only_set (only_refl _ _) (.inl rfl) _⟩
 ·have hv : halfZ m f = 2 * m := by
   have : (0 : Int) / 2 < 2 * m := by omega
   unfold halfZ; simp only [if_neg hpos, if_pos this]; exact if_neg (by omega)
  rw [hv]
  clear hv
  go_enter Try.func84, Try.ntmps84
  go_wp2
  all_goals go_end0
  all_goals exact ⟨rfl, hT.set_ 2 _, only_set (only_refl _ _) (.inl rfl) _⟩
def minZ (a b : Int) : Int := if a < b then a else b
def maxZ (a b : Int) : Int := if a < b then b else a
def ackZ (m s l n : Int) : Int := minZ (s + (if s < l then minZ n m else maxZ 1 (m * m / s))) 65535
theorem quo_bd (m s : Int) (h1 : 8 ≤ m) (h2 : m ≤ 1000) (h3 : m ≤ s) : 0 ≤ m * m ∧ m * m ≤ 1000000 ∧ 0 ≤ m * m / s ∧ m * m / s ≤ m := by
 have e1 : 0 ≤ m * m := Int.mul_nonneg (by omega) (by omega)
 have e2 : m * m ≤ 1000 * 1000 := Int.mul_le_mul h2 h2 (by omega) (by omega)
 have e3 : m * m ≤ m * s := Int.mul_le_mul_of_nonneg_left h3 (by omega)
 exact ⟨e1, by omega, Int.ediv_nonneg e1 (by omega), Int.ediv_le_of_le_mul (by omega) e3⟩
set_option maxRecDepth 100000 in
set_option maxHeartbeats 400000 in
theorem Acked_fast (g : Nat) (m s l n : Int) (w : World) (hT : WindowAt w g m s l) (ho : WindowOk m s l) (hn : 1 ≤ n) (hn' : n ≤ 9223372036854775807) (hsl : s < l) :
  Calls Try.prog 89 #[.pointer (some ⟨g, 0, none⟩), .int .i64 n] w fun e w' => e = .returned (.tuple #[]) ∧ WindowAt w' g m (ackZ m s l n) l ∧ w.grownBy w' (some g) := by
 have c0 : w.cell? ⟨g, 0, none⟩ = some (.int .i64 m) := hT.cell 0
 have c1 : w.cell? ⟨g, 1, none⟩ = some (.int .i64 s) := hT.cell 1
 have c2 : w.cell? ⟨g, 2, none⟩ = some (.int .i64 l) := hT.cell 2
 have f1 : w.frozen? ⟨g, 1, none⟩ = false := hT.free 1
 obtain ⟨h1, h2, h3, h4, h5, h6⟩ := ho
 by_cases hm : n < m
 all_goals
  go_enter Try.func89, Try.ntmps89
  go_wp2_with fail
  go_quiet (fail)
  go_wp2_with fail
  go_region
  all_goals go_wp2
  all_goals
   go_end0
   refine ⟨rfl, ?_, ?_⟩
   ·apply At.conv
    case h => repeat' (first | exact hT | apply At.set_ | apply At.drew | apply At.drewN)
    case e =>
     refine congrArg (fun x => window m x l) ?_
     unfold ackZ minZ
     rw [if_pos hsl]
     (repeat' split) <;> omega
   ·repeat' (first | with_reducible exact only_refl _ _ | with_reducible assumption | with_reducible refine only_drew ?_ | with_reducible refine only_dn ?_ _ | with_reducible refine only_alloc ?_ _ | with_reducible refine only_set ?_ (.inl rfl) _ | with_reducible refine only_set ?_ (.inr (by simp)) _ | (refine only_below ?_ (by with_reducible assumption)) | (refine only_trans ?_ (by with_reducible assumption)))
set_option maxRecDepth 100000 in
set_option maxHeartbeats 400000 in
theorem Acked_slow (g : Nat) (m s l n : Int) (w : World) (hT : WindowAt w g m s l) (ho : WindowOk m s l) (hn : 1 ≤ n) (hn' : n ≤ 9223372036854775807) (hsl : l ≤ s) :
  Calls Try.prog 89 #[.pointer (some ⟨g, 0, none⟩), .int .i64 n] w fun e w' => e = .returned (.tuple #[]) ∧ WindowAt w' g m (ackZ m s l n) l ∧ w.grownBy w' (some g) := by
 have c0 : w.cell? ⟨g, 0, none⟩ = some (.int .i64 m) := hT.cell 0
 have c1 : w.cell? ⟨g, 1, none⟩ = some (.int .i64 s) := hT.cell 1
 have c2 : w.cell? ⟨g, 2, none⟩ = some (.int .i64 l) := hT.cell 2
 have f1 : w.frozen? ⟨g, 1, none⟩ = false := hT.free 1
 obtain ⟨h1, h2, h3, h4, h5, h6⟩ := ho
 obtain ⟨q1, q2, q3, q4⟩ := quo_bd m s h1 h2 h3
 by_cases hm : 1 < m * m / s
 all_goals
  go_enter Try.func89, Try.ntmps89
  go_wp2_with fail
  go_quiet (fail)
  go_wp2_with fail
  go_region
  all_goals go_wp2
  all_goals
   go_end0
   refine ⟨rfl, ?_, ?_⟩
   ·apply At.conv
    case h => repeat' (first | exact hT | apply At.set_ | apply At.drew | apply At.drewN)
    case e =>
     refine congrArg (fun x => window m x l) ?_
     unfold ackZ minZ maxZ
     rw [if_neg (by omega : ¬ s < l)]
     (repeat' split) <;> omega
   ·repeat' (first | with_reducible exact only_refl _ _ | with_reducible assumption | with_reducible refine only_drew ?_ | with_reducible refine only_dn ?_ _ | with_reducible refine only_alloc ?_ _ | with_reducible refine only_set ?_ (.inl rfl) _ | with_reducible refine only_set ?_ (.inr (by simp)) _ | (refine only_below ?_ (by with_reducible assumption)) | (refine only_trans ?_ (by with_reducible assumption)))
theorem Acked_none (g : Nat) (n : Int) (w : World) (hn : n < 1) (hn' : -9223372036854775808 ≤ n) :
  Calls Try.prog 89 #[.pointer (some ⟨g, 0, none⟩), .int .i64 n] w fun e w' => e = .returned (.tuple #[]) ∧ w = w' := by
 go_enter Try.func89, Try.ntmps89
 go_wp2
 refine bodyPost_ret (results_none rfl _ _ _) rfl ?_
 exact ⟨rfl, rfl⟩
end Go.Proofs.Ytfpifahkpkjfgaa
/- Contracts of the package seq: what Diff, Less, In, Accept and Near return, and of Rest; each for all arguments that fit their types. -/
namespace Go.Proofs.Ytfpifahkpkjfgaa
open Go.RowKit
set_option linter.unusedVariables false
/-- int(int32(a - b)) -/
def dZ (a b : Int) : Int := (a - b + 2147483648) % 4294967296 - 2147483648
theorem dZ_lo (a b : Int) : -2147483648 ≤ dZ a b := by unfold dZ; omega
theorem dZ_hi (a b : Int) : dZ a b ≤ 2147483647 := by unfold dZ; omega
def inB (n from_ many : Int) : Bool := decide (0 < many ∧ (n - from_) % 4294967296 < many)
theorem inB_pos {n f m : Int} (h : 0 < m) : inB n f m = decide ((n - f) % 4294967296 < m) := by unfold inB; simp [h]
theorem inB_neg {n f m : Int} (h : m ≤ 0) : inB n f m = false := by unfold inB; simp; omega
set_option maxHeartbeats 400000 in
theorem Diff_any (a b : Int) (w : World) (_ha : 0 ≤ a) (_ha' : a ≤ 4294967295) (_hb : 0 ≤ b) (_hb' : b ≤ 4294967295) :
  Calls Try.prog 81 #[.int .u32 a, .int .u32 b] w fun e w' => e = .returned (.int .i64 (dZ a b)) ∧ w = w' := by
 go_enter Try.func81, Try.ntmps81
 go_wp2
 go_ret
 exact ⟨ret_int (by unfold dZ wrap64 wrap32; omega), rfl⟩
set_option maxHeartbeats 400000 in
theorem Less_any (a b : Int) (w : World) (_ha : 0 ≤ a) (_ha' : a ≤ 4294967295) (_hb : 0 ≤ b) (_hb' : b ≤ 4294967295) :
  Calls Try.prog 51 #[.int .u32 a, .int .u32 b] w fun e w' => e = .returned (.bool (decide (dZ a b < 0))) ∧ w = w' := by
 go_enter Try.func51, Try.ntmps51
 go_wp2_with (go_at_call 81; refine (Diff_any _ _ _ (by omega) (by omega) (by omega) (by omega)).mono ?_; rintro e w' ⟨rfl, rfl⟩)
 go_ret
 exact ⟨rfl, rfl⟩
set_option maxHeartbeats 400000 in
theorem In_any (n from_ many : Int) (w : World) (_ha : 0 ≤ n) (_ha' : n ≤ 4294967295) (_hb : 0 ≤ from_) (_hb' : from_ ≤ 4294967295) (_hm : -9223372036854775808 ≤ many) (_hm' : many ≤ 9223372036854775807) :
  Calls Try.prog 90 #[.int .u32 n, .int .u32 from_, .int .i64 many] w fun e w' => e = .returned (.bool (inB n from_ many)) ∧ w = w' := by
 by_cases h : 0 < many
 ·go_enter Try.func90, Try.ntmps90
  go_wp2
  go_ret
  exact ⟨ret_bool (inB_pos h).symm, rfl⟩
 ·go_enter Try.func90, Try.ntmps90
  go_wp2
  go_ret
  exact ⟨ret_bool (inB_neg (by omega)).symm, rfl⟩
def accB (n l next win : Int) : Bool :=
 if l < 1 then (if win < 1 then n == next else inB n next win) else if win < 1 then false else (inB n next win || inB ((n + l - 1) % 4294967296) next win)
theorem accB_a {n l x win : Int} (h1 : l < 1) (h2 : win < 1) : accB n l x win = (n == x) := by simp [accB, h1, h2]
theorem accB_b {n l x win : Int} (h1 : l < 1) (h2 : 1 ≤ win) : accB n l x win = inB n x win := by simp only [accB]; rw [if_pos h1, if_neg (by omega)]
theorem accB_c {n l x win : Int} (h1 : 1 ≤ l) (h2 : win < 1) : accB n l x win = false := by simp only [accB]; rw [if_neg (by omega), if_pos h2]
theorem accB_d {n l x win : Int} (h1 : 1 ≤ l) (h2 : 1 ≤ win) : accB n l x win = (inB n x win || inB ((n + l - 1) % 4294967296) x win) := by simp only [accB]; rw [if_neg (by omega), if_neg (by omega)]
set_option maxHeartbeats 400000 in
theorem Accept_any (n l next win : Int) (w : World) (_ha : 0 ≤ n) (_ha' : n ≤ 4294967295) (_hb : 0 ≤ next) (_hb' : next ≤ 4294967295) (_hl : -9223372036854775808 ≤ l) (_hl' : l ≤ 9223372036854775807) (_hm : -9223372036854775808 ≤ win) (_hm' : win ≤ 9223372036854775807) :
  Calls Try.prog 76 #[.int .u32 n, .int .i64 l, .int .u32 next, .int .i64 win] w fun e w' => e = .returned (.bool (accB n l next win)) ∧ w = w' := by
 by_cases h1 : l < 1
 ·by_cases h2 : win < 1
  ·go_enter Try.func76, Try.ntmps76
   go_wp2
   go_ret
   exact ⟨ret_bool (accB_a h1 h2).symm, rfl⟩
  ·go_enter Try.func76, Try.ntmps76
   go_wp2_with (go_at_call 90; refine (In_any _ _ _ _ (by omega) (by omega) (by omega) (by omega) (by omega) (by omega)).mono ?_; rintro e w' ⟨rfl, rfl⟩)
   go_ret
   exact ⟨ret_bool (accB_b h1 (by omega)).symm, rfl⟩
 ·by_cases h2 : win < 1
  ·go_enter Try.func76, Try.ntmps76
   go_wp2
   go_ret
   exact ⟨ret_bool (accB_c (by omega) h2).symm, rfl⟩
  ·have hx : (n + l % 4294967296) % 4294967296 = (n + l) % 4294967296 := by omega
   have hy : ((n + l) % 4294967296 - 1) % 4294967296 = (n + l - 1) % 4294967296 := by omega
   have Hx := Lib.hid hx
   have Hy := Lib.hid hy
   clear hx hy
   by_cases h3 : inB n next win = true
   ·go_enter Try.func76, Try.ntmps76
    go_wp2_with (go_at_call 90; refine (In_any _ _ _ _ (by omega) (by omega) (by omega) (by omega) (by omega) (by omega)).mono ?_; rintro e w' ⟨rfl, rfl⟩)
    go_ret
    exact ⟨ret_bool (by rw [accB_d (by omega) (by omega), h3]; rfl), rfl⟩
   ·have h3' : inB n next win = false := by simpa using h3
    go_enter Try.func76, Try.ntmps76
    go_wp2_with (go_at_call 90; refine (In_any _ _ _ _ (by omega) (by omega) (by omega) (by omega) (by omega) (by omega)).mono ?_; rintro e w' ⟨rfl, rfl⟩)
    go_ret
    exact ⟨ret_bool (by rw [accB_d (by omega) (by omega), h3', ← Hy.out, ← Hx.out]; rfl), rfl⟩
def nearZ (n at_ : Int) : Int := at_ + dZ n (at_ % 4294967296)
set_option maxHeartbeats 400000 in
theorem Near_any (n at_ : Int) (w : World) (_ha : 0 ≤ n) (_ha' : n ≤ 4294967295) (_hl : 0 ≤ at_) (_hl' : at_ ≤ 1152921504606846976) :
  Calls Try.prog 75 #[.int .u32 n, .int .i64 at_] w fun e w' => e = .returned (.int .i64 (nearZ n at_)) ∧ w = w' := by
 have h1 := dZ_lo n (at_ % 4294967296)
 have h2 := dZ_hi n (at_ % 4294967296)
 go_enter Try.func75, Try.ntmps75
 go_wp2_with (go_at_call 81; refine (Diff_any _ _ _ (by omega) (by omega) (by omega) (by omega)).mono ?_; rintro e w' ⟨rfl, rfl⟩)
 go_ret
 exact ⟨rfl, rfl⟩
end Go.Proofs.Ytfpifahkpkjfgaa
