/- What UConnStream needs, a part: InqC, InqD, RtoC, CongC. -/
import Derived.Outline
import Derived.OwnWalk
import Derived.Test.YtfpifahkpkjfgaaMZ
import Derived.Test.YtfpifahkpkjfgaaMUConnStream2
import Derived.Test.YtfpifahkpkjfgaaMUConnStream8
/- Contracts of the package inq: the queue in memory, and its small methods. -/
namespace Go.Proofs.Ytfpifahkpkjfgaa
open Go.RowKit
set_option linter.unusedVariables false
def inqC (q : IQ) : List Value := fnL 2048 (fun k => Value.int .u8 (q.r k)) ++ (fnL 2048 (fun k => Value.bool (q.h k)) ++ [.int .i64 q.rd, .int .i64 q.nx, .int .i64 q.fin, .bool q.over])
abbrev InqAt (w : World) (g : Nat) (q : IQ) : Prop := At w g 121 (inqC q)
theorem inqC_r (q : IQ) (k : Nat) (h : k < 2048) : (inqC q)[k]? = some (.int .u8 (q.r k)) := by
 unfold inqC
 rw [List.getElem?_append_left (by rw [fnL_len]; exact h), fnL_get _ _ _ h]
theorem inqC_h (q : IQ) (k : Nat) (h : k < 2048) : (inqC q)[2048 + k]? = some (.bool (q.h k)) := by
 unfold inqC
 rw [List.getElem?_append_right (by rw [fnL_len]; omega), fnL_len, List.getElem?_append_left (by rw [fnL_len]; omega), show 2048 + k - 2048 = k by omega, fnL_get _ _ _ h]
theorem inqC_t (q : IQ) (k : Nat) : (inqC q)[4096 + k]? = ([.int .i64 q.rd, .int .i64 q.nx, .int .i64 q.fin, .bool q.over] : List Value)[k]? := by
 unfold inqC
 rw [List.getElem?_append_right (by rw [fnL_len]; omega), fnL_len, List.getElem?_append_right (by rw [fnL_len]; omega), fnL_len, show 4096 + k - 2048 - 2048 = k by omega]
theorem inqC_congr (q q' : IQ) (h1 : ∀ k, k < 2048 → q.r k = q'.r k) (h2 : ∀ k, k < 2048 → q.h k = q'.h k) (h3 : q.rd = q'.rd) (h4 : q.nx = q'.nx) (h5 : q.fin = q'.fin) (h6 : q.over = q'.over) : inqC q = inqC q' := by
 unfold inqC
 rw [fnL_congr 2048 (fun k => Value.int .u8 (q.r k)) (fun k => Value.int .u8 (q'.r k)) (fun k hk => by rw [h1 k hk]), fnL_congr 2048 (fun k => Value.bool (q.h k)) (fun k => Value.bool (q'.h k)) (fun k hk => by rw [h2 k hk]), h3, h4, h5, h6]
theorem inqC_setr (q : IQ) (K : Nat) (x : Int) (h : K < 2048) : (inqC q).set K (.int .u8 x) = inqC { q with r := fun k => if k = K then x else q.r k } := by
 unfold inqC
 rw [List.set_append_left _ _ (by rw [fnL_len]; exact h), fnL_set]
 simp only
 congr 1
 exact fnL_congr _ _ _ (fun k _ => by split <;> rfl)
theorem inqC_seth (q : IQ) (K : Nat) (x : Bool) (h : K < 2048) : (inqC q).set (2048 + K) (.bool x) = inqC { q with h := fun k => if k = K then x else q.h k } := by
 unfold inqC
 rw [List.set_append_right _ _ (by rw [fnL_len]; omega), fnL_len, show 2048 + K - 2048 = K by omega, List.set_append_left _ _ (by rw [fnL_len]; exact h), fnL_set]
 simp only
 congr 2
 exact fnL_congr _ _ _ (fun k _ => by split <;> rfl)
theorem inqC_sett (q : IQ) (i : Nat) (v : Value) : (inqC q).set (4096 + i) v = fnL 2048 (fun k => Value.int .u8 (q.r k)) ++ (fnL 2048 (fun k => Value.bool (q.h k)) ++ ([.int .i64 q.rd, .int .i64 q.nx, .int .i64 q.fin, .bool q.over] : List Value).set i v) := by
 unfold inqC
 rw [List.set_append_right _ _ (by rw [fnL_len]; omega), fnL_len, List.set_append_right _ _ (by rw [fnL_len]; omega), fnL_len, show 4096 + i - 2048 - 2048 = i by omega]
theorem inqC_setrd (q : IQ) (x : Int) : (inqC q).set 4096 (.int .i64 x) = inqC { q with rd := x } := inqC_sett q 0 _
theorem inqC_setnx (q : IQ) (x : Int) : (inqC q).set 4097 (.int .i64 x) = inqC { q with nx := x } := inqC_sett q 1 _
theorem inqC_setfin (q : IQ) (x : Int) : (inqC q).set 4098 (.int .i64 x) = inqC { q with fin := x } := inqC_sett q 2 _
theorem inqC_setover (q : IQ) (x : Bool) : (inqC q).set 4099 (.bool x) = inqC { q with over := x } := inqC_sett q 3 _
attribute [irreducible] inqC
section
variable {w : World} {g : Nat} {q : IQ} (hQ : InqAt w g q)
include hQ
theorem InqAt.r_ (k : Nat) (h : k < 2048) : w.cell? ⟨g, k, none⟩ = some (.int .u8 (q.r k)) := by rw [At.cell hQ]; exact inqC_r q k h
theorem InqAt.h_ (k : Nat) (h : k < 2048) : w.cell? ⟨g, 2048 + k, none⟩ = some (.bool (q.h k)) := by rw [At.cell hQ]; exact inqC_h q k h
theorem InqAt.rd_ : w.cell? ⟨g, 4096, none⟩ = some (.int .i64 q.rd) := by rw [At.cell hQ]; exact inqC_t q 0
theorem InqAt.nx_ : w.cell? ⟨g, 4097, none⟩ = some (.int .i64 q.nx) := by rw [At.cell hQ]; exact inqC_t q 1
theorem InqAt.fin_ : w.cell? ⟨g, 4098, none⟩ = some (.int .i64 q.fin) := by rw [At.cell hQ]; exact inqC_t q 2
theorem InqAt.over_ : w.cell? ⟨g, 4099, none⟩ = some (.bool q.over) := by rw [At.cell hQ]; exact inqC_t q 3
end
/-- a queue's numbers are in their bounds -/
structure IqOk (q : IQ) : Prop where
 rd1 : 1 ≤ q.rd
 rdn : q.rd ≤ (if q.over then q.nx - 1 else q.nx)
 nxr : (if q.over then q.nx - 1 else q.nx) ≤ q.rd + 2048
 nxm : q.nx ≤ 1152921504606846976
 fin1 : -1 ≤ q.fin
 finm : q.fin ≤ 2305843009213693952
 rok : ∀ k, 0 ≤ q.r k ∧ q.r k ≤ 255
def endZ (q : IQ) : Int := if q.over then q.nx - 1 else q.nx
def newIQ : IQ := ⟨fun _ => 0, fun _ => false, 1, 1, -1, false⟩
set_option maxRecDepth 100000 in
theorem Next_any (g : Nat) (q : IQ) (w : World) (hQ : InqAt w g q) :
  Calls Try.prog 67 #[.pointer (some ⟨g, 0, none⟩)] w fun e w' => e = .returned (.int .i64 q.nx) ∧ w = w' := by
 have c := InqAt.nx_ hQ
 go_enter Try.func67, Try.ntmps67
 go_wp2
 go_ret
 exact ⟨rfl, rfl⟩
theorem Over_any (g : Nat) (q : IQ) (w : World) (hQ : InqAt w g q) :
  Calls Try.prog 55 #[.pointer (some ⟨g, 0, none⟩)] w fun e w' => e = .returned (.bool q.over) ∧ w = w' := by
 have c := InqAt.over_ hQ
 go_enter Try.func55, Try.ntmps55
 go_wp2
 go_ret
 exact ⟨rfl, rfl⟩
theorem end_any (g : Nat) (q : IQ) (w : World) (hQ : InqAt w g q) (ok : IqOk q) :
  Calls Try.prog 82 #[.pointer (some ⟨g, 0, none⟩)] w fun e w' => e = .returned (.int .i64 (endZ q)) ∧ w = w' := by
 have c := InqAt.over_ hQ
 have c1 := InqAt.nx_ hQ
 have h1 := ok.rd1
 have h2 := ok.rdn
 have h3 := ok.nxm
 unfold endZ
 cases ho : q.over
 ·rw [ho] at c h2
  simp at h2 ⊢
  clear ho
  go_enter Try.func82, Try.ntmps82
  go_wp2
  go_ret
  exact ⟨rfl, rfl⟩
 ·rw [ho] at c h2
  simp at h2 ⊢
  clear ho
  go_enter Try.func82, Try.ntmps82
  go_wp2
  go_ret
  exact ⟨rfl, rfl⟩
theorem end_bd (q : IQ) (ok : IqOk q) : q.rd ≤ endZ q ∧ endZ q ≤ q.rd + 2048 ∧ 1 ≤ endZ q ∧ endZ q ≤ 1152921504606846976 := by
 have h1 := ok.rd1
 have h2 := ok.rdn
 have h3 := ok.nxr
 have h4 := ok.nxm
 unfold endZ
 cases ho : q.over <;> rw [ho] at h2 h3 <;> simp at h2 h3 ⊢ <;> omega
theorem Ready_any (g : Nat) (q : IQ) (w : World) (hQ : InqAt w g q) (ok : IqOk q) :
  Calls Try.prog 53 #[.pointer (some ⟨g, 0, none⟩)] w fun e w' => e = .returned (.int .i64 (endZ q - q.rd)) ∧ Below w.heap.size w w' := by
 have c := InqAt.rd_ hQ
 obtain ⟨b1, b2, b3, b4⟩ := end_bd q ok
 have hlt := hQ.lt
 have he := fun (u : Later w) => end_any g q u.now (hQ.kept u.still) ok
 have h1 := ok.rd1
 have HE := Lib.hid he
 clear he
 go_enter Try.func53, Try.ntmps53
 go_wp2_with fail
 refine wp_region_later (by kernel_rfl) (by kernel_rfl) (fun hlc => ?_)
 repeat (go_big_quiet_step ((go_at_call 82; exact later_same (HE.out _))))
 refine wpQuiet_nil ?_
 intro wq hbq
 clear hlc
 go_wp2_with fail
 go_ret
 exact ⟨rfl, hbq⟩
theorem Window_any (g : Nat) (q : IQ) (w : World) (hQ : InqAt w g q) (ok : IqOk q) :
  Calls Try.prog 66 #[.pointer (some ⟨g, 0, none⟩)] w fun e w' => e = .returned (.int .i64 (2048 - (endZ q - q.rd))) ∧ Below w.heap.size w w' := by
 obtain ⟨b1, b2, b3, b4⟩ := end_bd q ok
 go_enter Try.func66, Try.ntmps66
 go_wp2_with fail
 refine (Ready_any g q _ hQ ok).mono ?_
 rintro e w1 ⟨rfl, hB1⟩
 go_wp2_with fail
 go_ret
 exact ⟨rfl, hB1⟩
def zeroIQ : IQ := ⟨fun _ => 0, fun _ => false, 0, 0, 0, false⟩
set_option maxRecDepth 1000000 in
theorem inq_zero (W : World) : (zeroValue 121).run Try.prog W = .ok (.agg (inqC zeroIQ).toArray) W := by kernel_rfl
theorem inqC_len (q : IQ) : (inqC q).length = 4100 := by
 unfold inqC
 simp [fnL_len]
set_option maxRecDepth 100000 in
theorem inqNew_any (w : World) : Calls Try.prog 85 #[] w fun e w' => e = .returned (.pointer (some ⟨w.heap.size, 0, none⟩)) ∧ InqAt w' w.heap.size newIQ ∧ Below w.heap.size w w' := by
 have hz := inq_zero
 have hl := inqC_len zeroIQ
 have hn : ((inqC zeroIQ).set 4096 (.int .i64 1)).set 4097 (.int .i64 1) = ((inqC zeroIQ).set 4096 (.int .i64 1)).set 4097 (.int .i64 1) := rfl
 have h3 : (((inqC zeroIQ).set 4096 (.int .i64 1)).set 4097 (.int .i64 1)).set 4098 (.int .i64 (-1)) = inqC newIQ := by rw [inqC_setrd, inqC_setnx, inqC_setfin]; rfl
 clear hn
 generalize inqC zeroIQ = Z at *
 have hs : Z.toArray.size = 4100 := by rw [List.size_toArray]; exact hl
 have h4 : ((Z.toArray.setIfInBounds 4096 (.int .i64 1)).setIfInBounds 4097 (.int .i64 1)).setIfInBounds 4098 (.int .i64 (-1)) = (inqC newIQ).toArray := by
  rw [List.setIfInBounds_toArray, List.setIfInBounds_toArray, List.setIfInBounds_toArray, h3]
 generalize Z.toArray = Y at *
 clear h3 hl
 have H4 := Lib.hid h4
 clear h4
 go_enter Try.func85, Try.ntmps85
 go_wp2_with fail
 go_ret
 refine ⟨rfl, ?_, below_ca (Below.refl _ _) _⟩
 rw [H4.out]
 exact At.new_ _ _ _
end Go.Proofs.Ytfpifahkpkjfgaa
/- Contracts of the package inq: behind, Read. -/
namespace Go.Proofs.Ytfpifahkpkjfgaa
open Go.RowKit
set_option linter.unusedVariables false
set_option maxRecDepth 100000 in
set_option maxHeartbeats 1000000 in
theorem behind_any (g : Nat) (q : IQ) (p edge : Int) (w : World) (hQ : InqAt w g q) (hp : 0 ≤ p) (he : edge ≤ 4611686018427387904) (hp' : p ≤ 4611686018427387904) :
  Calls Try.prog 93 #[.pointer (some ⟨g, 0, none⟩), .int .i64 p, .int .i64 edge] w fun e w' => e = .returned (.bool (behindB q.h p edge)) ∧ w = w' := by
 have hlt := hQ.lt
 have HI := Lib.hid (behind_iff q.h p edge)
 go_enter Try.func93, Try.ntmps93
 go_wp2_with fail
 go_loop [1] (fun c => ∃ x : Int, p ≤ x ∧ x ≤ 4611686018427387904 ∧ c = .int .i64 x ∧ ∀ y, p ≤ y → y < x → q.h (y % 2048).toNat = false) (fun c => (edge - intOf c).toNat)
 case atStart => exact ⟨p, by omega, hp', rfl, fun y a b => by omega⟩
 case round =>
  obtain ⟨x, hx, hx', rfl, hno⟩ := hrel
  have HN := Lib.hid hno
  clear hno
  by_cases hlt : x < edge
  ·obtain ⟨K, hK⟩ : ∃ K : Nat, x % 2048 = (K : Int) := ⟨(x % 2048).toNat, by omega⟩
   have hK2 : K < 2048 := by omega
   have c := InqAt.h_ hQ K hK2
   have k1 : (K : Int) < 2048 := by omega
   cases hh : q.h K
   ·rw [hh] at c
    have HH := Lib.hid hh
    have HK := Lib.hid hK
    clear hh
    go_wp2_with fail
    go_round
    case rel =>
     refine ⟨x + 1, by omega, by omega, rfl, fun y a b => ?_⟩
     by_cases e : y = x
     ·rw [e, HK.out]; exact HH.out
     ·exact HN.out y a (by omega)
    case measure => simp [intOf]; omega
   ·rw [hh] at c
    have HH := Lib.hid hh
    have HK := Lib.hid hK
    clear hh
    go_wp2_with fail
    go_ret
    refine ⟨ret_bool ?_, rfl⟩
    symm
    rw [HI.out]
    exact ⟨x, hx, hlt, by rw [HK.out]; exact HH.out⟩
  ·go_wp2_with fail
   go_ret
   refine ⟨ret_bool ?_, rfl⟩
   cases hb : behindB q.h p edge
   ·rfl
   ·obtain ⟨y, a, b, c⟩ := HI.out.1 hb
    rw [HN.out y a (by omega)] at c
    cases c
/-- what Read tells -/
def readL (q : IQ) (n : Nat) : List Int := fnL n fun j => q.r ((q.rd + j) % 2048).toNat
def readTo (q : IQ) (n k : Nat) : List Int := fnL n fun j => if j < k then q.r ((q.rd + j) % 2048).toNat else 0
def readN (q : IQ) (most : Int) : Nat := (if (if most < 0 then 0 else most) < endZ q - q.rd then (if most < 0 then 0 else most) else endZ q - q.rd).toNat
theorem readTo_end (q : IQ) (n : Nat) : readTo q n n = readL q n := fnL_congr _ _ _ (fun k hk => by rw [if_pos hk])
theorem readTo_step (q : IQ) (n k : Nat) (hk : k < n) : ((readTo q n k).map b8).set k (b8 (q.r ((q.rd + k) % 2048).toNat)) = (readTo q n (k + 1)).map b8 := by
 unfold readTo
 rw [← List.map_set]
 congr 1
 rw [fnL_set]
 refine fnL_congr _ _ _ (fun j hj => ?_)
 by_cases e : j = k
 ·subst e; simp
 ·rw [if_neg e]
  by_cases h2 : j < k
  ·rw [if_pos h2, if_pos (by omega)]
  ·rw [if_neg h2, if_neg (by omega)]
theorem readTo_len (q : IQ) (n k : Nat) : (readTo q n k).length = n := by unfold readTo; rw [fnL_len]
theorem exb_gen {R : Exit → Act → World → Prop} {i : Nat} {a : Act} {w : World} (Pr : World → Prop) (h : Pr w) (k : ∀ W, Pr W → Exit.inBlock i R .normal a W) : Exit.inBlock i R .normal a w := k w h
theorem madeOne (q : IQ) (N : Nat) : (madeCells #[Value.int .u8 0] N).toList = (readTo q N 0).map b8 := by
 apply List.ext_getElem?
 intro k
 by_cases hk : k < N
 ·unfold readTo
  rw [List.getElem?_map, fnL_get _ _ _ hk]
  simp [madeCells, hk, b8]
  rw [Nat.mod_one]; rfl
 ·rw [List.getElem?_eq_none (by simp [madeCells]; omega), List.getElem?_eq_none (by rw [List.length_map, readTo_len]; omega)]
set_option maxRecDepth 100000 in
set_option maxHeartbeats 1000000 in
theorem Read_any (g : Nat) (q : IQ) (most : Int) (w : World) (hQ : InqAt w g q) (ok : IqOk q) (hm : -9223372036854775808 ≤ most) (hm' : most ≤ 9223372036854775807) :
  Calls Try.prog 54 #[.pointer (some ⟨g, 0, none⟩), .int .i64 most] w fun e w' => e = .returned (.string (byteS (readL q (readN q most)))) ∧ InqAt w' g { q with rd := q.rd + readN q most } ∧ w.grownBy w' (some g) := by
 obtain ⟨b1, b2, b3, b4⟩ := end_bd q ok
 have hlt := hQ.lt
 obtain ⟨N, hN⟩ : ∃ N, readN q most = N := ⟨_, rfl⟩
 have hN2 : N ≤ 2048 := by rw [← hN]; unfold readN; split <;> split <;> omega
 rw [hN]
 have HN := Lib.hid hN
 clear hN
 go_enter Try.func54, Try.ntmps54
 go_upto_region 1 with (fail)
 go_cut [5] (fun s wc => s = .int .i64 (N : Int) ∧ Below w.heap.size w wc)
 case first =>
  go_wp2_with (go_at_call 53; refine (Ready_any g q _ hQ ok).mono ?_; rintro e w1 ⟨rfl, hB1⟩)
  all_goals
   go_meet
   case rel =>
    refine ⟨?_, hB1⟩
    have := HN.out
    unfold readN at this
    congr 1
    rw [← this]
    split <;> split <;> omega
 case rest =>
  obtain ⟨rfl, hBc⟩ := hcut
  have hQc := hQ.kept hBc
  have hi : (Try.prog.info? 5).map (fun i => (i.zero, i.size, i.bytes)) = some (some (.int .u8 0), 1, 1) := by kernel_rfl
  obtain ⟨i0, hi0, hi1, hi2, hi3⟩ := info_parts hi
  clear hi
  have hgc := hQc.lt
  go_wp2_with (refine wpList_make_full _ rfl (.tmp 13) (.tmp 13) 104 rfl w.heap.size 5 i0 _ 1 Try.underlying104 hi0 hi1 hi2 .i64 .i64 _ _ N rfl rfl rfl rfl ?b2 ?b3 ?b4 ?_)
  case b2 => rw [hi3]; omega
  case b3 => unfold maxLen; omega
  case b4 => exact hBc.size
  intro w3 hown hO3
  have hWA := WinAt.ofOwns hown
  rw [madeOne q N] at hWA
  clear hown hi0 hi1 hi2 hi3
  have hQ3 : InqAt w3 g q := hQc.grown hO3 (by simp)
  have hz3 : wc.heap.size < w3.heap.size := hWA.lt
  have hB3 : Below w.heap.size w w3 := hBc.grown hO3 hBc.size (fun j hj => by cases hj)
  have hcs := hBc.size
  go_wp2_with fail
  go_loopw [17] (fun i wr => ∃ k : Nat, k ≤ N ∧ i = .int .i64 k ∧ WinAt wr w.heap.size 1 wc.heap.size 0 N N ((readTo q N k).map b8) ∧ Below w.heap.size w wr ∧ w3.grownBy wr (some wc.heap.size)) (fun i _ => N - (intOf i).toNat)
  case atStart =>
   exact ⟨0, by omega, rfl, hWA, hB3, only_refl _ _⟩
  case round =>
   obtain ⟨k, hk, rfl, hWk, hBk, hOk⟩ := hrel
   have hQk : InqAt wr g q := hQ3.grown hOk (by intro e; cases e; omega)
   have r1 := InqAt.rd_ hQk
   have hgk := hQk.lt
   have hwk := hWk.lt
   have hok1 := ok.rd1
   by_cases hlt2 : k < N
   ·obtain ⟨K, hK⟩ : ∃ K : Nat, (q.rd + (k : Int)) % 2048 = (K : Int) := ⟨((q.rd + (k : Int)) % 2048).toNat, by omega⟩
    have hK2 : K < 2048 := by omega
    have r2 := InqAt.r_ hQk K hK2
    have k1 : (K : Int) < 2048 := by omega
    have k0 : (0 : Int) ≤ (K : Int) := by omega
    have hrok := ok.rok K
    have r3 := hWk.here k (b8 ((readTo q N k)[k]'(by rw [readTo_len]; exact hlt2))) (by simp [readTo_len, hlt2])
    have r4 := hWk.soft k (by omega)
    rw [Nat.zero_add] at r3 r4
    have k3 : (k : Int) < (N : Int) := by omega
    have k4 : (0 : Int) ≤ (k : Int) := by omega
    have hwr : IntKind.i64.wrap (q.rd + (k : Int)) = q.rd + (k : Int) := IntWalk.i64_in _ (by omega)
    have hst := readTo_step q N k hlt2
    rw [hK, Int.toNat_natCast] at hst
    have HST := Lib.hid hst
    have HK := Lib.hid hK
    clear hst
    go_wp2_with fail
    go_region
    refine exb_gen (fun W => WinAt W w.heap.size 1 wc.heap.size 0 N N ((readTo q N (k + 1)).map b8) ∧ Below w.heap.size w W ∧ w3.grownBy W (some wc.heap.size)) ⟨?_, (hBk.setCell (by show w.heap.size ≤ wc.heap.size; omega) _).drew, only_drew (only_set hOk (.inl rfl) _)⟩ ?_
    ·have h := WinAt.store hWk (by simp [readTo_len]) k hlt2 (b8 (q.r K))
     rw [HST.out, Nat.zero_add] at h
     have e : b8 (q.r K) = .int .u8 (q.r K) := by unfold b8; rw [Int.emod_eq_of_lt (by omega) (by omega)]
     rw [e] at h
     exact h.move h.lt rfl
    rintro W4 ⟨hW4, hB4, hO4⟩
    clear r1 r2 r3 r4
    go_wp2_with fail
    go_roundw
    case rel => exact ⟨k + 1, by omega, by go_num, hW4, hB4, hO4⟩
    case measure => simp [intOf]; omega
   ·obtain rfl : k = N := by omega
    have r5 := hQk.free 4096
    rw [readTo_end] at hWk
    go_upto_region 9 with (fail)
    refine wp_gen (fun W => WinAt W w.heap.size 1 wc.heap.size 0 k k ((readL q k).map b8) ∧ InqAt W g { q with rd := q.rd + k } ∧ w.grownBy W (some g)) ⟨?_, ?_, ?_⟩ ?_
    ·exact hWk.move (by simpa [World.setCell] using hWk.lt) (Below.heap_setCell _ _ _ _ (by show wc.heap.size ≠ g; omega))
    ·have h := At.set_ hQk 4096 (.int .i64 (q.rd + k))
     rw [inqC_setrd] at h
     exact h
    ·refine only_set ?_ (.inl rfl) _
     exact ⟨hBk.os, hBk.tape, hBk.output, hBk.size, fun i hi _ => hBk.block i hi⟩
    rintro W4 ⟨hW4, hQ4, hO4⟩
    have hrl : (readL q k).length = k := by unfold readL; rw [fnL_len]
    have hback := run_convert_bytes_back (P := Try.prog) W4 104 9 5 ⟨wc.heap.size, 0, none⟩ k (byteL (readL q k)) Try.underlying104 Try.underlying5 Try.underlying9 (own_back (by rw [hrl]; exact hW4))
    rw [byteL_len, hrl, show (⟨(byteL (readL q k)).toArray⟩ : ByteArray) = byteS (readL q k) from rfl] at hback
    clear hrl r1 r5
    generalize hT : byteS (readL q k) = T at *
    have HT := Lib.hid hT
    clear hT
    go_wp2_with fail
    go_ret
    exact ⟨ret_val (by rw [HT.out]; rfl), hQ4, hO4⟩
end Go.Proofs.Ytfpifahkpkjfgaa
/- Contracts of the package rto. -/
namespace Go.Proofs.Ytfpifahkpkjfgaa
open Go.RowKit
set_option linter.unusedVariables false
/-- a Timer in memory -/
def timer (k : Bool) (m s d : Int) : List Value := [.bool k, .int .i64 m, .int .i64 s, .int .i64 d]
abbrev TimerAt (w : World) (g : Nat) (k : Bool) (m s d : Int) : Prop := At w g 109 (timer k m s d)
/-- what a Timer's numbers are bound by -/
def TimerOk (m s d : Int) : Prop := 0 ≤ m ∧ m ≤ 8796093022208 ∧ 0 ≤ s ∧ s ≤ 4398046511104 ∧ 0 ≤ d ∧ d ≤ 6
theorem rtoNew_any (w : World) : Calls Try.prog 61 #[] w fun e w' => e = .returned (.pointer (some ⟨w.heap.size, 0, none⟩)) ∧ TimerAt w' w.heap.size false 0 0 0 ∧ Below w.heap.size w w' := by
 go_enter Try.func61, Try.ntmps61
 go_wp2
 go_ret
 exact ⟨rfl, At.new_ _ _ _, below_ca (Below.refl _ _) _⟩
/-- how many ticks, before they are doubled -/
def baseZ (k : Bool) (m s : Int) : Int := if k then m / 8 + (if 1 < s then s else 1) else 3
def clipZ (n : Int) : Int := if n < 2 then 2 else if 64 < n then 64 else n
def valZ (k : Bool) (m s d : Int) : Int := clipZ (baseZ k m s * 2 ^ d.toNat)
theorem pow_bd (d : Int) (h : 0 ≤ d) (h' : d ≤ 6) : (1 : Int) ≤ 2 ^ d.toNat ∧ (2 : Int) ^ d.toNat ≤ 64 := by
 have : d = 0 ∨ d = 1 ∨ d = 2 ∨ d = 3 ∨ d = 4 ∨ d = 5 ∨ d = 6 := by omega
 rcases this with rfl | rfl | rfl | rfl | rfl | rfl | rfl <;> decide
theorem prod_bd (a b : Int) (h1 : 1 ≤ a) (h2 : a ≤ 5497558138881) (h3 : 1 ≤ b) (h4 : b ≤ 64) : 1 ≤ a * b ∧ a * b ≤ 351843768888384 := by
 have e1 : 1 * 1 ≤ a * b := Int.mul_le_mul h1 h3 (by omega) (by omega)
 have e2 : a * b ≤ 5497558138881 * 64 := Int.mul_le_mul h2 h4 (by omega) (by omega)
 omega
set_option maxHeartbeats 400000 in
theorem Value_any (g : Nat) (k : Bool) (m s d : Int) (w : World) (hT : TimerAt w g k m s d) (ho : TimerOk m s d) :
  Calls Try.prog 45 #[.pointer (some ⟨g, 0, none⟩)] w fun e w' => e = .returned (.int .i64 (valZ k m s d)) ∧ Below w.heap.size w w' := by
 have c0 : w.cell? ⟨g, 0, none⟩ = some (.bool k) := hT.cell 0
 have c1 : w.cell? ⟨g, 1, none⟩ = some (.int .i64 m) := hT.cell 1
 have c2 : w.cell? ⟨g, 2, none⟩ = some (.int .i64 s) := hT.cell 2
 have c3 : w.cell? ⟨g, 3, none⟩ = some (.int .i64 d) := hT.cell 3
 obtain ⟨h1, h2, h3, h4, h5, h6⟩ := ho
 obtain ⟨p1, p2⟩ := pow_bd d h5 h6
 cases k
 ·go_enter Try.func45, Try.ntmps45
  go_wp2
  all_goals
   go_ret
   exact ⟨ret_int (by simp only [valZ, clipZ, baseZ, Bool.false_eq_true, if_false]; split <;> (try split) <;> omega), Below.refl _ _⟩
 ·by_cases hs : 1 < s
  ·obtain ⟨q1, q2⟩ := prod_bd (m / 8 + s) _ (by omega) (by omega) p1 p2
   go_enter Try.func45, Try.ntmps45
   go_wp2_with fail
   go_quiet (fail)
   go_wp2
   all_goals
    go_ret
    exact ⟨ret_int (by simp only [valZ, clipZ, baseZ, if_true]; rw [show (if 1 < s then s else 1) = s from if_pos hs]; split <;> (try split) <;> omega), below_dn (Below.refl _ _) _⟩
  ·obtain ⟨q1, q2⟩ := prod_bd (m / 8 + 1) _ (by omega) (by omega) p1 p2
   go_enter Try.func45, Try.ntmps45
   go_wp2_with fail
   go_quiet (fail)
   go_wp2
   all_goals
    go_ret
    exact ⟨ret_int (by simp only [valZ, clipZ, baseZ, if_true]; rw [show (if 1 < s then s else 1) = 1 from if_neg (by omega)]; split <;> (try split) <;> omega), below_dn (Below.refl _ _) _⟩
theorem Late_any (g : Nat) (k : Bool) (m s d : Int) (w : World) (hT : TimerAt w g k m s d) (ho : TimerOk m s d) :
  Calls Try.prog 69 #[.pointer (some ⟨g, 0, none⟩)] w fun e w' => e = .returned (.tuple #[]) ∧ TimerAt w' g k m s (if d < 6 then d + 1 else 6) ∧ w.grownBy w' (some g) := by
 have c3 : w.cell? ⟨g, 3, none⟩ = some (.int .i64 d) := hT.cell 3
 have f3 : w.frozen? ⟨g, 3, none⟩ = false := hT.free 3
 obtain ⟨h1, h2, h3, h4, h5, h6⟩ := ho
 by_cases hd : d < 6
 ·rw [if_pos hd]
  go_enter Try.func69, Try.ntmps69
  go_wp2
  go_end0
  exact ⟨rfl, hT.set_ 3 _, only_set (only_refl _ _) (.inl rfl) _⟩
 ·rw [if_neg hd]
  have hd6 : d = 6 := by omega
  subst hd6
  go_enter Try.func69, Try.ntmps69
  go_wp2
  go_end0
  exact ⟨rfl, hT.set_ 3 _, only_set (only_refl _ _) (.inl rfl) _⟩
theorem Sample_no (g : Nat) (r : Int) (w : World) (hr : r < 0 ∨ 1099511627776 < r) :
  Calls Try.prog 88 #[.pointer (some ⟨g, 0, none⟩), .int .i64 r] w fun e w' => e = .returned (.int .i64 1) ∧ w = w' := by
 by_cases h : r < 0
 ·go_enter Try.func88, Try.ntmps88
  go_wp2
  go_ret
  exact ⟨rfl, rfl⟩
 ·have h2 : 1099511627776 < r := by omega
  clear hr
  go_enter Try.func88, Try.ntmps88
  go_wp2
  go_ret
  exact ⟨rfl, rfl⟩
set_option maxHeartbeats 400000 in
theorem Sample_first (g : Nat) (m s d r : Int) (w : World) (hT : TimerAt w g false m s d) (hr : 0 ≤ r) (hr' : r ≤ 1099511627776) :
  Calls Try.prog 88 #[.pointer (some ⟨g, 0, none⟩), .int .i64 r] w fun e w' => e = .returned (.int .i64 0) ∧ TimerAt w' g true (r * 8) (r * 2) 0 ∧ w.grownBy w' (some g) := by
 have c0 : w.cell? ⟨g, 0, none⟩ = some (.bool false) := hT.cell 0
 have c1 : w.cell? ⟨g, 1, none⟩ = some (.int .i64 m) := hT.cell 1
 have c2 : w.cell? ⟨g, 2, none⟩ = some (.int .i64 s) := hT.cell 2
 have c3 : w.cell? ⟨g, 3, none⟩ = some (.int .i64 d) := hT.cell 3
 have f0 : w.frozen? ⟨g, 0, none⟩ = false := hT.free 0
 have f1 : w.frozen? ⟨g, 1, none⟩ = false := hT.free 1
 have f2 : w.frozen? ⟨g, 2, none⟩ = false := hT.free 2
 have f3 : w.frozen? ⟨g, 3, none⟩ = false := hT.free 3
 go_enter Try.func88, Try.ntmps88
 go_wp2
 go_ret
 refine ⟨rfl, ?_, ?_⟩
 apply At.conv
 case h => repeat' (first | with_reducible exact hT | with_reducible apply At.set_ | with_reducible apply At.drew | with_reducible apply At.drewN | with_reducible apply At.alloc)
 case e => rfl
 repeat' (first | with_reducible exact only_refl _ _ | with_reducible assumption | with_reducible refine only_drew ?_ | with_reducible refine only_dn ?_ _ | with_reducible refine only_alloc ?_ _ | with_reducible refine only_set ?_ (.inl rfl) _ | with_reducible refine only_set ?_ (.inr (by simp)) _ | (refine only_below ?_ (by with_reducible assumption)) | (refine only_trans ?_ (by with_reducible assumption)))
def absZ (d : Int) : Int := if d < 0 then -d else d
set_option maxHeartbeats 400000 in
theorem Sample_next (g : Nat) (m s d r : Int) (w : World) (hT : TimerAt w g true m s d) (ho : TimerOk m s d) (hr : 0 ≤ r) (hr' : r ≤ 1099511627776) :
  Calls Try.prog 88 #[.pointer (some ⟨g, 0, none⟩), .int .i64 r] w fun e w' => e = .returned (.int .i64 0) ∧ TimerAt w' g true (m + (r - m / 8)) (s + (absZ (r - m / 8) - s / 4)) 0 ∧ w.grownBy w' (some g) := by
 have c0 : w.cell? ⟨g, 0, none⟩ = some (.bool true) := hT.cell 0
 have c1 : w.cell? ⟨g, 1, none⟩ = some (.int .i64 m) := hT.cell 1
 have c2 : w.cell? ⟨g, 2, none⟩ = some (.int .i64 s) := hT.cell 2
 have c3 : w.cell? ⟨g, 3, none⟩ = some (.int .i64 d) := hT.cell 3
 have f1 : w.frozen? ⟨g, 1, none⟩ = false := hT.free 1
 have f2 : w.frozen? ⟨g, 2, none⟩ = false := hT.free 2
 have f3 : w.frozen? ⟨g, 3, none⟩ = false := hT.free 3
 obtain ⟨h1, h2, h3, h4, h5, h6⟩ := ho
 by_cases hn : r - m / 8 < 0
 ·rw [show absZ (r - m / 8) = -(r - m / 8) from if_pos hn]
  go_enter Try.func88, Try.ntmps88
  go_wp2
  go_region
  all_goals
   go_wp2
   go_ret
   refine ⟨rfl, ?_, ?_⟩
   apply At.conv
   case h => repeat' (first | with_reducible exact hT | with_reducible apply At.set_ | with_reducible apply At.drew | with_reducible apply At.drewN | with_reducible apply At.alloc)
   case e => rfl
   repeat' (first | with_reducible exact only_refl _ _ | with_reducible assumption | with_reducible refine only_drew ?_ | with_reducible refine only_dn ?_ _ | with_reducible refine only_alloc ?_ _ | with_reducible refine only_set ?_ (.inl rfl) _ | with_reducible refine only_set ?_ (.inr (by simp)) _ | (refine only_below ?_ (by with_reducible assumption)) | (refine only_trans ?_ (by with_reducible assumption)))
 ·rw [show absZ (r - m / 8) = r - m / 8 from if_neg hn]
  go_enter Try.func88, Try.ntmps88
  go_wp2
  go_region
  all_goals
   go_wp2
   go_ret
   refine ⟨rfl, ?_, ?_⟩
   apply At.conv
   case h => repeat' (first | with_reducible exact hT | with_reducible apply At.set_ | with_reducible apply At.drew | with_reducible apply At.drewN | with_reducible apply At.alloc)
   case e => rfl
   repeat' (first | with_reducible exact only_refl _ _ | with_reducible assumption | with_reducible refine only_drew ?_ | with_reducible refine only_dn ?_ _ | with_reducible refine only_alloc ?_ _ | with_reducible refine only_set ?_ (.inl rfl) _ | with_reducible refine only_set ?_ (.inr (by simp)) _ | (refine only_below ?_ (by with_reducible assumption)) | (refine only_trans ?_ (by with_reducible assumption)))
theorem sample_ok (m s d r : Int) (ho : TimerOk m s d) (hr : 0 ≤ r) (hr' : r ≤ 1099511627776) : TimerOk (m + (r - m / 8)) (s + (absZ (r - m / 8) - s / 4)) 0 := by
 obtain ⟨h1, h2, h3, h4, h5, h6⟩ := ho
 unfold TimerOk absZ
 split <;> omega
theorem first_ok (r : Int) (hr : 0 ≤ r) (hr' : r ≤ 1099511627776) : TimerOk (r * 8) (r * 2) 0 := by unfold TimerOk; omega
theorem late_ok (m s d : Int) (ho : TimerOk m s d) : TimerOk m s (if d < 6 then d + 1 else 6) := by
 obtain ⟨h1, h2, h3, h4, h5, h6⟩ := ho
 unfold TimerOk
 split <;> omega
theorem zero_ok : TimerOk 0 0 0 := by unfold TimerOk; omega
end Go.Proofs.Ytfpifahkpkjfgaa
/- Contracts of the package cong. -/
namespace Go.Proofs.Ytfpifahkpkjfgaa
open Go.RowKit
set_option linter.unusedVariables false
/-- a Window in memory -/
def window (m s l : Int) : List Value := [.int .i64 m, .int .i64 s, .int .i64 l]
abbrev WindowAt (w : World) (g : Nat) (m s l : Int) : Prop := At w g 123 (window m s l)
def WindowOk (m s l : Int) : Prop := 8 ≤ m ∧ m ≤ 1000 ∧ m ≤ s ∧ s ≤ 65535 ∧ 2 * m ≤ l ∧ l ≤ 65535
theorem congNew_yes (m : Int) (w : World) (h1 : 8 ≤ m) (h2 : m ≤ 1000) :
  Calls Try.prog 86 #[.int .i64 m] w fun e w' => e = .returned (.tuple #[.pointer (some ⟨w.heap.size, 0, none⟩), .int .i64 0]) ∧ WindowAt w' w.heap.size m (2 * m) 65535 ∧ Below w.heap.size w w' := by
 go_enter Try.func86, Try.ntmps86
 go_wp2
 go_ret2
 exact ⟨rfl, At.new_ _ _ _, below_ca (Below.refl _ _) _⟩
theorem Size_any (g : Nat) (m s l : Int) (w : World) (hT : WindowAt w g m s l) :
  Calls Try.prog 64 #[.pointer (some ⟨g, 0, none⟩)] w fun e w' => e = .returned (.int .i64 s) ∧ w = w' := by
 have c1 : w.cell? ⟨g, 1, none⟩ = some (.int .i64 s) := hT.cell 1
 go_enter Try.func64, Try.ntmps64
 go_wp2
 go_ret
 exact ⟨rfl, rfl⟩
def halfZ (m f : Int) : Int := if 65535 < (if (if 0 < f then f else 0) / 2 < 2 * m then 2 * m else (if 0 < f then f else 0) / 2) then 65535 else (if (if 0 < f then f else 0) / 2 < 2 * m then 2 * m else (if 0 < f then f else 0) / 2)
set_option maxHeartbeats 400000 in
theorem halve_any (g : Nat) (m s l f : Int) (w : World) (hT : WindowAt w g m s l) (ho : WindowOk m s l) (hf : -9223372036854775808 ≤ f) (hf' : f ≤ 9223372036854775807) :
  Calls Try.prog 84 #[.pointer (some ⟨g, 0, none⟩), .int .i64 f] w fun e w' => e = .returned (.tuple #[]) ∧ WindowAt w' g m s (halfZ m f) ∧ w.grownBy w' (some g) := by
 have c0 : w.cell? ⟨g, 0, none⟩ = some (.int .i64 m) := hT.cell 0
 have c2 : w.cell? ⟨g, 2, none⟩ = some (.int .i64 l) := hT.cell 2
 have f2 : w.frozen? ⟨g, 2, none⟩ = false := hT.free 2
 obtain ⟨h1, h2, h3, h4, h5, h6⟩ := ho
 by_cases hpos : 0 < f
 ·by_cases hq : f / 2 < 2 * m
  ·have hv : halfZ m f = 2 * m := by unfold halfZ; simp only [if_pos hpos, if_pos hq]; exact if_neg (by omega)
   rw [hv]
   clear hv
   go_enter Try.func84, Try.ntmps84
   go_wp2
   go_end0
   exact ⟨rfl, hT.set_ 2 _, only_set (only_refl _ _) (.inl rfl) _⟩
  ·by_cases hb : 65535 < f / 2
   ·have hv : halfZ m f = 65535 := by unfold halfZ; simp only [if_pos hpos, if_neg hq]; exact if_pos hb
    rw [hv]
    clear hv
    go_enter Try.func84, Try.ntmps84
    go_wp2
    go_end0
    exact ⟨rfl, hT.set_ 2 _, only_set (only_refl _ _) (.inl rfl) _⟩
   ·have hv : halfZ m f = f / 2 := by unfold halfZ; simp only [if_pos hpos, if_neg hq]; exact if_neg hb
    rw [hv]
    clear hv
    go_enter Try.func84, Try.ntmps84
    go_wp2
    go_end0
    exact ⟨rfl, hT.set_ 2 _, only_set (only_refl _ _) (.inl rfl) _⟩
 ·have hv : halfZ m f = 2 * m := by
   have : (0 : Int) / 2 < 2 * m := by omega
   unfold halfZ; simp only [if_neg hpos, if_pos this]; exact if_neg (by omega)
  rw [hv]
  clear hv
  go_enter Try.func84, Try.ntmps84
  go_wp2
  all_goals go_end0
  all_goals exact ⟨rfl, hT.set_ 2 _, only_set (only_refl _ _) (.inl rfl) _⟩
def minZ (a b : Int) : Int := if a < b then a else b
def maxZ (a b : Int) : Int := if a < b then b else a
def ackZ (m s l n : Int) : Int := minZ (s + (if s < l then minZ n m else maxZ 1 (m * m / s))) 65535
theorem quo_bd (m s : Int) (h1 : 8 ≤ m) (h2 : m ≤ 1000) (h3 : m ≤ s) : 0 ≤ m * m ∧ m * m ≤ 1000000 ∧ 0 ≤ m * m / s ∧ m * m / s ≤ m := by
 have e1 : 0 ≤ m * m := Int.mul_nonneg (by omega) (by omega)
 have e2 : m * m ≤ 1000 * 1000 := Int.mul_le_mul h2 h2 (by omega) (by omega)
 have e3 : m * m ≤ m * s := Int.mul_le_mul_of_nonneg_left h3 (by omega)
 exact ⟨e1, by omega, Int.ediv_nonneg e1 (by omega), Int.ediv_le_of_le_mul (by omega) e3⟩
set_option maxRecDepth 100000 in
set_option maxHeartbeats 400000 in
theorem Acked_fast (g : Nat) (m s l n : Int) (w : World) (hT : WindowAt w g m s l) (ho : WindowOk m s l) (hn : 1 ≤ n) (hn' : n ≤ 9223372036854775807) (hsl : s < l) :
  Calls Try.prog 89 #[.pointer (some ⟨g, 0, none⟩), .int .i64 n] w fun e w' => e = .returned (.tuple #[]) ∧ WindowAt w' g m (ackZ m s l n) l ∧ w.grownBy w' (some g) := by
 have c0 : w.cell? ⟨g, 0, none⟩ = some (.int .i64 m) := hT.cell 0
 have c1 : w.cell? ⟨g, 1, none⟩ = some (.int .i64 s) := hT.cell 1
 have c2 : w.cell? ⟨g, 2, none⟩ = some (.int .i64 l) := hT.cell 2
 have f1 : w.frozen? ⟨g, 1, none⟩ = false := hT.free 1
 obtain ⟨h1, h2, h3, h4, h5, h6⟩ := ho
 by_cases hm : n < m
 all_goals
  go_enter Try.func89, Try.ntmps89
  go_wp2_with fail
  go_quiet (fail)
  go_wp2_with fail
  go_region
  all_goals go_wp2
  all_goals
   go_end0
   refine ⟨rfl, ?_, ?_⟩
   ·apply At.conv
    case h => repeat' (first | exact hT | apply At.set_ | apply At.drew | apply At.drewN)
    case e =>
     refine congrArg (fun x => window m x l) ?_
     unfold ackZ minZ
     rw [if_pos hsl]
     (repeat' split) <;> omega
   ·repeat' (first | with_reducible exact only_refl _ _ | with_reducible assumption | with_reducible refine only_drew ?_ | with_reducible refine only_dn ?_ _ | with_reducible refine only_alloc ?_ _ | with_reducible refine only_set ?_ (.inl rfl) _ | with_reducible refine only_set ?_ (.inr (by simp)) _ | (refine only_below ?_ (by with_reducible assumption)) | (refine only_trans ?_ (by with_reducible assumption)))
set_option maxRecDepth 100000 in
set_option maxHeartbeats 400000 in
theorem Acked_slow (g : Nat) (m s l n : Int) (w : World) (hT : WindowAt w g m s l) (ho : WindowOk m s l) (hn : 1 ≤ n) (hn' : n ≤ 9223372036854775807) (hsl : l ≤ s) :
  Calls Try.prog 89 #[.pointer (some ⟨g, 0, none⟩), .int .i64 n] w fun e w' => e = .returned (.tuple #[]) ∧ WindowAt w' g m (ackZ m s l n) l ∧ w.grownBy w' (some g) := by
 have c0 : w.cell? ⟨g, 0, none⟩ = some (.int .i64 m) := hT.cell 0
 have c1 : w.cell? ⟨g, 1, none⟩ = some (.int .i64 s) := hT.cell 1
 have c2 : w.cell? ⟨g, 2, none⟩ = some (.int .i64 l) := hT.cell 2
 have f1 : w.frozen? ⟨g, 1, none⟩ = false := hT.free 1
 obtain ⟨h1, h2, h3, h4, h5, h6⟩ := ho
 obtain ⟨q1, q2, q3, q4⟩ := quo_bd m s h1 h2 h3
 by_cases hm : 1 < m * m / s
 all_goals
  go_enter Try.func89, Try.ntmps89
  go_wp2_with fail
  go_quiet (fail)
  go_wp2_with fail
  go_region
  all_goals go_wp2
  all_goals
   go_end0
   refine ⟨rfl, ?_, ?_⟩
   ·apply At.conv
    case h => repeat' (first | exact hT | apply At.set_ | apply At.drew | apply At.drewN)
    case e =>
     refine congrArg (fun x => window m x l) ?_
     unfold ackZ minZ maxZ
     rw [if_neg (by omega : ¬ s < l)]
     (repeat' split) <;> omega
   ·repeat' (first | with_reducible exact only_refl _ _ | with_reducible assumption | with_reducible refine only_drew ?_ | with_reducible refine only_dn ?_ _ | with_reducible refine only_alloc ?_ _ | with_reducible refine only_set ?_ (.inl rfl) _ | with_reducible refine only_set ?_ (.inr (by simp)) _ | (refine only_below ?_ (by with_reducible assumption)) | (refine only_trans ?_ (by with_reducible assumption)))
theorem Acked_none (g : Nat) (n : Int) (w : World) (hn : n < 1) (hn' : -9223372036854775808 ≤ n) :
  Calls Try.prog 89 #[.pointer (some ⟨g, 0, none⟩), .int .i64 n] w fun e w' => e = .returned (.tuple #[]) ∧ w = w' := by
 go_enter Try.func89, Try.ntmps89
 go_wp2
 refine bodyPost_ret (results_none rfl _ _ _) rfl ?_
 exact ⟨rfl, rfl⟩
end Go.Proofs.Ytfpifahkpkjfgaa
