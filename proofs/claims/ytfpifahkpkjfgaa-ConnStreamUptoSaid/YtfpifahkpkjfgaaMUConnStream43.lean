/- What UConnStream needs, a part: CnDa. -/
import Derived.Deep.CutBlock
import Derived.Test.YtfpifahkpkjfgaaMZ
import Derived.Test.YtfpifahkpkjfgaaMUConnStream2
import Derived.Test.YtfpifahkpkjfgaaMUConnStream33
import Derived.Test.YtfpifahkpkjfgaaMUConnStream38
import Derived.Test.YtfpifahkpkjfgaaMUConnStream42
/- conn: does: what its ways leave. Written by my gencn.py. -/
namespace Go.Proofs.Ytfpifahkpkjfgaa
open Go.RowKit Go.Lib
set_option linter.unusedVariables false
set_option linter.unusedSimpArgs false
section
variable {E : Nat → Prop} {w W : World} {gc gi gw : Nat} {c : KCn} {k : KPt}
theorem writeF (F m : List Res) {t : Int} (h : MemX E w W (F ++ (cnH gc gi gw c k ++ m))) (hk : KOk k gi gw c.h) (hc : CI c t) (ht : t ≤ 1000000000000) (s : ByteArray) (hs : s.size ≤ 140737488351232) :
  Calls Try.prog 23 #[.pointer (some ⟨gc, 0, none⟩), .string s] W fun e W' => ∃ k', e = .returned (.tuple #[.int .i64 (cWrite c s).2.1, .int .i64 (cWrite c s).2.2]) ∧ MemX E w W' (F ++ (cnH gc gi gw (cWrite c s).1 k' ++ m)) ∧ KOk k' gi gw (cWrite c s).1.h := by
 have h9 := hc.cok (by omega)
 have h8 := h9.hb
 refine (cWrite_any gc gi gw c k (F ++ m) W (cn_at h) hk s hc.o (by omega) hs).mono ?_
 rintro e W' ⟨k', rfl, h2, hk'⟩
 exact ⟨k', rfl, cn_un h2, hk'⟩
theorem closeF (F m : List Res) {t : Int} (h : MemX E w W (F ++ (cnH gc gi gw c k ++ m))) (hk : KOk k gi gw c.h) (hc : CI c t) (ht : t ≤ 1000000000000) :
  Calls Try.prog 29 #[.pointer (some ⟨gc, 0, none⟩)] W fun e W' => ∃ k', e = .returned (.int .i64 (cClose c).2) ∧ MemX E w W' (F ++ (cnH gc gi gw (cClose c).1 k' ++ m)) ∧ KOk k' gi gw (cClose c).1.h := by
 have h9 := hc.cok (by omega)
 have h8 := h9.hb
 refine (cClose_any gc gi gw c k (F ++ m) W (cn_at h) hk hc.o (by omega)).mono ?_
 rintro e W' ⟨k', rfl, h2, hk'⟩
 exact ⟨k', rfl, cn_un h2, hk'⟩
end
/-- the switch of does -/
noncomputable def doSwitch : Code := ((Try.f32.body.bind (blkIn 0)).getD .skip)
def doM (gx gk gs gp ga gb : Nat) (kk : Int) (va : Value) (gia gwa : Nat) (ka : KPt) (gib gwb : Nat) (kb : KPt) (cs : List Value) (x : KPr) (m : List Res) : List Res :=
 atR gx 40 [.pointer (some ⟨gp, 0, none⟩)] :: atR gk 3 [.int .i64 kk] :: prR gp ga gb va x.p :: arR va x.p.air :: atR gs 70 cs :: (cnH ga gia gwa x.a ka ++ (cnH gb gib gwb x.b kb ++ m))
/-- what a way of does leaves -/
def doRel (E : Nat → Prop) (w0 : World) (gx gk gs gp ga gb : Nat) (cs : List Value) (m : List Res) (iss irs : Int) (N : Nat) (t : Int) (W : World) : Prop :=
 ∃ (kk : Int) (va : Value) (gia gwa : Nat) (ka : KPt) (gib gwb : Nat) (kb : KPt) (y : KPr) (N' : Nat), MemX E w0 W (doM gx gk gs gp ga gb kk va gia gwa ka gib gwb kb cs y m) ∧ KPl.ok ⟨gp, ga, gia, gwa, ka, gb, gib, gwb, kb, va⟩ y ∧ PI iss irs N' t y ∧ N' ≤ N
section
variable {E : Nat → Prop} {w W : World}
theorem do_to {X K P R S : Res} {A B m : List Res} (h : MemX E w W (X :: K :: P :: R :: S :: (A ++ (B ++ m)))) : MemX E w W (P :: R :: (A ++ (B ++ (X :: K :: S :: m)))) := by
 refine h.perm ?_
 have h1 : ([X, K, P, R, S] ++ (A ++ (B ++ m))).Perm (A ++ ([X, K, P, R, S] ++ (B ++ m))) := List.perm_append_comm_assoc _ _ _
 have h2 : ([X, K, P, R, S] ++ (B ++ m)).Perm (B ++ ([X, K, P, R, S] ++ m)) := List.perm_append_comm_assoc _ _ _
 have h3 : ([P, R] ++ (A ++ (B ++ ([X, K, S] ++ m)))).Perm (A ++ ([P, R] ++ (B ++ ([X, K, S] ++ m)))) := List.perm_append_comm_assoc _ _ _
 have h4 : ([P, R] ++ (B ++ ([X, K, S] ++ m))).Perm (B ++ ([P, R] ++ ([X, K, S] ++ m))) := List.perm_append_comm_assoc _ _ _
 have h5 : ([X, K, P, R, S] ++ m).Perm ([P, R] ++ ([X, K, S] ++ m)) := by
  have h6 : ([X, K] ++ ([P, R] ++ (S :: m))).Perm ([P, R] ++ ([X, K] ++ (S :: m))) := List.perm_append_comm_assoc _ _ _
  exact h6
 exact (h1.trans ((h2.append_left A).trans ((h5.append_left B).append_left A))).trans (h3.trans (h4.append_left A)).symm
theorem do_fro {X K P R S : Res} {A B m : List Res} (h : MemX E w W (P :: R :: (A ++ (B ++ (X :: K :: S :: m))))) : MemX E w W (X :: K :: P :: R :: S :: (A ++ (B ++ m))) := by
 refine h.perm ?_
 have h1 : ([X, K, P, R, S] ++ (A ++ (B ++ m))).Perm (A ++ ([X, K, P, R, S] ++ (B ++ m))) := List.perm_append_comm_assoc _ _ _
 have h2 : ([X, K, P, R, S] ++ (B ++ m)).Perm (B ++ ([X, K, P, R, S] ++ m)) := List.perm_append_comm_assoc _ _ _
 have h3 : ([P, R] ++ (A ++ (B ++ ([X, K, S] ++ m)))).Perm (A ++ ([P, R] ++ (B ++ ([X, K, S] ++ m)))) := List.perm_append_comm_assoc _ _ _
 have h4 : ([P, R] ++ (B ++ ([X, K, S] ++ m))).Perm (B ++ ([P, R] ++ ([X, K, S] ++ m))) := List.perm_append_comm_assoc _ _ _
 have h5 : ([X, K, P, R, S] ++ m).Perm ([P, R] ++ ([X, K, S] ++ m)) := by
  have h6 : ([X, K] ++ ([P, R] ++ (S :: m))).Perm ([P, R] ++ ([X, K] ++ (S :: m))) := List.perm_append_comm_assoc _ _ _
  exact h6
 exact ((h1.trans ((h2.append_left A).trans ((h5.append_left B).append_left A))).trans (h3.trans (h4.append_left A)).symm).symm
end
section
variable {iss irs t : Int} {N : Nat} {x : KPr}
theorem PI.ca (h : PI iss irs N t x) : CI x.a t := by obtain ⟨_, _, hx⟩ := h.h; exact PH.ca hx
theorem PI.cb (h : PI iss irs N t x) : CI x.b t := by obtain ⟨_, _, hx⟩ := h.h; exact PH.cb hx
theorem PI.w0z (h : PI iss irs N t x) : x.p.w0.size ≤ 1048576 := by
 obtain ⟨_, _, hx⟩ := h.h; have h1 := PH.sz hx; have h2 := PH.big hx; omega
theorem PI.w1z (h : PI iss irs N t x) : x.p.w1.size ≤ 1048576 := by
 obtain ⟨_, _, hx⟩ := h.h; have h1 := PH.sz hx; have h2 := PH.big hx; omega
end
end Go.Proofs.Ytfpifahkpkjfgaa
