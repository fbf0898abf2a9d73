/- Plain words of the package inq: a ring of 2048 places. -/
import Derived.Test.YtfpifahkpkjfgaaFnL
namespace Go.Proofs.Ytfpifahkpkjfgaa
open Go.RowKit
set_option linter.unusedVariables false

structure IQ where
  r : Nat → Int
  h : Nat → Bool
  rd : Int
  nx : Int
  fin : Int
  over : Bool
/-- the place that slot k stands for, from nx on -/
def plc (nx : Int) (k : Nat) : Int := nx + ((k : Int) - nx) % 2048
theorem plc_lo (nx : Int) (k : Nat) : nx ≤ plc nx k := by unfold plc; omega
theorem plc_hi (nx : Int) (k : Nat) : plc nx k < nx + 2048 := by unfold plc; omega
theorem plc_mod (nx : Int) (k : Nat) (hk : k < 2048) : plc nx k % 2048 = (k : Int) := by unfold plc; omega
theorem plc_of (nx p : Int) (k : Nat) (h : nx ≤ p) (h' : p < nx + 2048) (hk : p % 2048 = (k : Int)) : plc nx k = p := by unfold plc; omega
/-- does slot k take a byte of what comes? -/
def hitB (q : IQ) (at_ len : Int) (k : Nat) : Bool := decide (at_ ≤ plc q.nx k ∧ plc q.nx k < at_ + len ∧ plc q.nx k < q.rd + 2048 ∧ (q.fin < 0 ∨ plc q.nx k < q.fin))
def byteZ (S : ByteArray) (i : Int) : Int := ((S.data[i.toNat]?.getD 0).toNat : Int)
theorem byteZ_bd (S : ByteArray) (i : Int) : 0 ≤ byteZ S i ∧ byteZ S i ≤ 255 := by
  unfold byteZ; have := (S.data[i.toNat]?.getD 0).toNat_lt; omega
/-- up to place c -/
def hTo (q : IQ) (at_ len c : Int) (k : Nat) : Bool := q.h k || (hitB q at_ len k && decide (plc q.nx k < c))
def rTo (q : IQ) (at_ : Int) (S : ByteArray) (c : Int) (k : Nat) : Int := if !q.h k && (hitB q at_ S.size k && decide (plc q.nx k < c)) then byteZ S (plc q.nx k - at_) else q.r k
def hPut (q : IQ) (at_ len : Int) (k : Nat) : Bool := q.h k || hitB q at_ len k
def rPut (q : IQ) (at_ : Int) (S : ByteArray) (k : Nat) : Int := if !q.h k && hitB q at_ S.size k then byteZ S (plc q.nx k - at_) else q.r k
theorem hTo_start (q : IQ) (at_ len c : Int) (hc : c ≤ at_ ∨ c ≤ q.nx) (k : Nat) : hTo q at_ len c k = q.h k := by
  unfold hTo hitB
  have := plc_lo q.nx k
  rcases hc with hc | hc
  · cases q.h k <;> simp <;> omega
  · cases q.h k <;> simp <;> omega
theorem rTo_start (q : IQ) (at_ : Int) (S : ByteArray) (c : Int) (hc : c ≤ at_ ∨ c ≤ q.nx) (k : Nat) : rTo q at_ S c k = q.r k := by
  unfold rTo hitB
  have := plc_lo q.nx k
  rw [if_neg]
  rcases hc with hc | hc <;> simp <;> omega
theorem hTo_end (q : IQ) (at_ len c : Int) (hc : at_ + len ≤ c ∨ q.rd + 2048 ≤ c ∨ (0 ≤ q.fin ∧ q.fin ≤ c)) (k : Nat) : hTo q at_ len c k = hPut q at_ len k := by
  unfold hTo hPut hitB
  cases q.h k
  · rw [Bool.eq_iff_iff]
    simp only [Bool.false_or, Bool.and_eq_true, decide_eq_true_eq]
    constructor
    · exact fun h => h.1
    · intro h; exact ⟨h, by omega⟩
  · simp
theorem rTo_end (q : IQ) (at_ : Int) (S : ByteArray) (c : Int) (hc : at_ + S.size ≤ c ∨ q.rd + 2048 ≤ c ∨ (0 ≤ q.fin ∧ q.fin ≤ c)) (k : Nat) : rTo q at_ S c k = rPut q at_ S k := by
  have h := hTo_end q at_ S.size c hc k
  unfold hTo hPut at h
  unfold rTo rPut
  cases hq : q.h k
  · rw [hq] at h; simp only [Bool.false_or] at h; rw [h]
  · simp
/-- one more place -/
theorem hTo_step (q : IQ) (at_ len c : Int) (K : Nat) (hK : c % 2048 = (K : Int)) (h1 : q.nx ≤ c) (h2 : at_ ≤ c) (h3 : c < at_ + len) (h4 : c < q.rd + 2048) (h5 : q.fin < 0 ∨ c < q.fin) (h6 : q.rd ≤ q.nx) (k : Nat) (hk : k < 2048) :
    hTo q at_ len (c + 1) k = if k = K then true else hTo q at_ len c k := by
  have hp := plc_of q.nx c K h1 (by omega) hK
  by_cases e : k = K
  · subst e
    rw [if_pos rfl]
    unfold hTo hitB
    rw [hp]
    simp; right; omega
  · rw [if_neg e]
    unfold hTo
    have hne : plc q.nx k ≠ c := by intro x; have := plc_mod q.nx k hk; rw [x, hK] at this; omega
    congr 2
    apply decide_eq_decide.2
    omega
theorem rTo_step (q : IQ) (at_ : Int) (S : ByteArray) (c : Int) (K : Nat) (hK : c % 2048 = (K : Int)) (h1 : q.nx ≤ c) (h2 : at_ ≤ c) (h3 : c < at_ + S.size) (h4 : c < q.rd + 2048) (h5 : q.fin < 0 ∨ c < q.fin) (h6 : q.rd ≤ q.nx) (k : Nat) (hk : k < 2048) :
    rTo q at_ S (c + 1) k = if k = K ∧ q.h K = false then byteZ S (c - at_) else rTo q at_ S c k := by
  have hp := plc_of q.nx c K h1 (by omega) hK
  by_cases e : k = K
  · subst e
    unfold rTo hitB
    rw [hp]
    cases hq : q.h k
    · rw [if_pos (by simp; omega), if_pos ⟨rfl, rfl⟩]
    · simp
  · rw [if_neg (fun x => e x.1)]
    unfold rTo
    have hne : plc q.nx k ≠ c := by intro x; have := plc_mod q.nx k hk; rw [x, hK] at this; omega
    have : decide (plc q.nx k < c + 1) = decide (plc q.nx k < c) := decide_eq_decide.2 (by omega)
    rw [this]
/-- at place c nothing has been put yet but what was there -/
theorem hTo_at (q : IQ) (at_ len c : Int) (K : Nat) (hK : c % 2048 = (K : Int)) (h1 : q.nx ≤ c) (h4 : c < q.rd + 2048) (h6 : q.rd ≤ q.nx) : hTo q at_ len c K = q.h K := by
  have hp := plc_of q.nx c K h1 (by omega) hK
  unfold hTo
  rw [hp]; simp
/-- up to where all is there -/
def advZ (h : Nat → Bool) (edge : Int) : Nat → Int → Int
  | 0, p => p
  | f + 1, p => if p < edge ∧ h (p % 2048).toNat = true then advZ h edge f (p + 1) else p
def AdvIs (h : Nat → Bool) (edge p n : Int) : Prop := p ≤ n ∧ n ≤ edge ∧ (∀ x, p ≤ x → x < n → h (x % 2048).toNat = true) ∧ (n = edge ∨ h (n % 2048).toNat = false)
theorem advZ_is (h : Nat → Bool) (edge : Int) : ∀ (f : Nat) (p : Int), p ≤ edge → edge - p ≤ (f : Int) → AdvIs h edge p (advZ h edge f p)
  | 0, p, h1, h2 => by
    unfold advZ
    exact ⟨by omega, h1, fun x a b => by omega, .inl (by omega)⟩
  | f + 1, p, h1, h2 => by
    unfold advZ
    by_cases hc : p < edge ∧ h (p % 2048).toNat = true
    · rw [if_pos hc]
      obtain ⟨a, b, c, d⟩ := advZ_is h edge f (p + 1) (by omega) (by omega)
      refine ⟨by omega, b, fun x hx hx' => ?_, d⟩
      by_cases e : x = p
      · rw [e]; exact hc.2
      · exact c x (by omega) hx'
    · rw [if_neg hc]
      refine ⟨by omega, h1, fun x a b => by omega, ?_⟩
      by_cases e : p = edge
      · exact .inl e
      · right
        cases hh : h (p % 2048).toNat
        · rfl
        · exact absurd ⟨by omega, hh⟩ hc
theorem adv_one {h : Nat → Bool} {edge p n m : Int} (hn : AdvIs h edge p n) (hm : AdvIs h edge p m) : n = m := by
  obtain ⟨a1, a2, a3, a4⟩ := hn
  obtain ⟨b1, b2, b3, b4⟩ := hm
  rcases Int.lt_trichotomy n m with hlt | he | hgt
  · rcases a4 with e | e
    · omega
    · have := b3 n a1 hlt; rw [e] at this; cases this
  · exact he
  · rcases b4 with e | e
    · omega
    · have := a3 m b1 hgt; rw [e] at this; cases this
/-- does a byte lie at p, or behind it? -/
def behindB (h : Nat → Bool) (p edge : Int) : Bool := (List.range (edge - p).toNat).any fun j => h ((p + j) % 2048).toNat
theorem behind_no (h : Nat → Bool) (p edge : Int) (hp : edge ≤ p) : behindB h p edge = false := by
  unfold behindB; rw [show (edge - p).toNat = 0 by omega]; rfl
theorem behind_iff (h : Nat → Bool) (p edge : Int) : behindB h p edge = true ↔ ∃ x, p ≤ x ∧ x < edge ∧ h (x % 2048).toNat = true := by
  unfold behindB
  rw [List.any_eq_true]
  constructor
  · rintro ⟨j, hj, hh⟩
    rw [List.mem_range] at hj
    exact ⟨p + j, by omega, by omega, hh⟩
  · rintro ⟨x, h1, h2, h3⟩
    refine ⟨(x - p).toNat, List.mem_range.2 (by omega), ?_⟩
    rw [show p + ((x - p).toNat : Int) = x by omega]; exact h3
/-- what Put does, where it does something -/
def finPut (q : IQ) (at_ len : Int) (fin : Bool) : Int :=
  if (fin = true ∧ q.fin < 0 ∧ q.nx ≤ at_ + len ∧ at_ + len ≤ q.rd + 2048) ∧ behindB (hPut q at_ len) (at_ + len) (q.rd + 2048) = false then at_ + len else q.fin
def nxPut (q : IQ) (at_ len : Int) : Int := advZ (hPut q at_ len) (q.rd + 2048) 2048 q.nx
def hAfter (q : IQ) (at_ len n : Int) (k : Nat) : Bool := hPut q at_ len k && decide (n ≤ plc q.nx k)
def putQ (q : IQ) (at_ : Int) (S : ByteArray) (fin : Bool) : IQ :=
  if at_ < -1152921504606846976 ∨ 1152921504606846976 < at_ ∨ q.over = true then q
  else if nxPut q at_ S.size = finPut q at_ S.size fin then
    { r := rPut q at_ S, h := hAfter q at_ S.size (nxPut q at_ S.size), rd := q.rd, nx := nxPut q at_ S.size + 1, fin := finPut q at_ S.size fin, over := true }
  else { r := rPut q at_ S, h := hAfter q at_ S.size (nxPut q at_ S.size), rd := q.rd, nx := nxPut q at_ S.size, fin := finPut q at_ S.size fin, over := false }
end Go.Proofs.Ytfpifahkpkjfgaa
