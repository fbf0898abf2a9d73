/- What ConnStops needs, a part: Kit, Base, FnL, InqP, InqC, InqL, Rest. -/
import Derived.Test.YtfpifahkpkjfgaaRows
import Derived.WalkKit
import Derived.ProofKit
import Derived.OpenShut
import Derived.ChangeOld
import Derived.Below
import Derived.SizedLaws
import Derived.ChangeMaps5
import Derived.WalkSpells
import Derived.WalkLawsBesides
import Derived.Lib.Hide
import Derived.BigQuiet
import Derived.Deep.QuietTactic
import Derived.Deep.RegionHeld3
import Derived.Deep.DrawnRows
import Derived.Deep.Cut
import Derived.Deep.DeepCutAuto
import Derived.Deep.LoopGhost
import Derived.Deep.Draws
import Derived.Outline
import Derived.Test.YtfpifahkpkjfgaaMZ
namespace Go.Proofs.Ytfpifahkpkjfgaa
open Go.ChangeShapes Go.WideShapes Go.ChangeAt Go.RowKit
theorem Kit.own : ownKnob Try.prog.godebug = none := by kernel_rfl
theorem Kit.laidOut : laidOutB Try.prog = true := by kernel_rfl
section
variable {P : Program} {w : World} {r : Reach} {b : Nat} {t : TypeId} {v : Value}
theorem cell_int {k : IntKind} (h : P.underlying t = some (.int k)) (hv : Cell.okWide P w r b t v) : ∃ n, v = .int k n ∧ k.min ≤ n ∧ n ≤ k.max := by
 simp only [Cell.okWide, Cell.ok, h] at hv
 cases v <;> simp_all [IntKind.has]
theorem val_cell_int {k : IntKind} (h : P.underlying t = some (.int k)) (hv : Value.okWide P w r b t v) : Cell.okWide P w r b t v := by
 simpa only [Value.okWide, h] using hv
end
end Go.Proofs.Ytfpifahkpkjfgaa
namespace Go.Proofs.Ytfpifahkpkjfgaa
open Go.RowKit
set_option linter.unusedVariables false
theorem ret_int {k : IntKind} {a b : Int} (h : a = b) : Ending.returned (.int k a) = .returned (.int k b) := by rw [h]
theorem ret_bool {a b : Bool} (h : a = b) : Ending.returned (.bool a) = .returned (.bool b) := by rw [h]
theorem ret_val {a b : Value} (h : a = b) : Ending.returned a = .returned b := by rw [h]
theorem below_dn {B : Nat} {a w : World} (h : Below B a w) (n : Nat) : Below B a (w.drewN n) := ⟨h.os, h.tape, h.output, h.size, h.block⟩
theorem below_c {W Y Z : World} (h : Below W.heap.size W Y) (k : Below Y.heap.size Y Z) : Below W.heap.size W Z := h.trans (k.mono h.size)
theorem below_ca {W Y : World} (h : Below W.heap.size W Y) (o : Obj) : Below W.heap.size W (Y.alloc o) := h.alloc h.size o
theorem block_of_cell {W : World} {p : Addr} {v : Value} (h : W.cell? p = some v) : p.block < W.heap.size := by
 rcases Nat.lt_or_ge p.block W.heap.size with hlt | hge
 ·exact hlt
 ·unfold World.cell? at h
  rw [Array.getElem?_eq_none hge] at h
  cases h
theorem keep_cell {W w1 : World} (hb : Below W.heap.size W w1) {p : Addr} {v : Value} (h : W.cell? p = some v) : w1.cell? p = some v := (hb.cell (block_of_cell h)).trans h
def At (w : World) (g : Nat) (t : TypeId) (cs : List Value) : Prop := w.heap[g]? = some (.cells cs.toArray t (0, 0))
section
variable {w w' : World} {g : Nat} {t : TypeId} {cs : List Value}
theorem At.lt (h : At w g t cs) : g < w.heap.size := by
 rcases Nat.lt_or_ge g w.heap.size with hlt | hge
 ·exact hlt
 ·unfold At at h; rw [Array.getElem?_eq_none hge] at h; cases h
theorem At.cell (h : At w g t cs) (i : Nat) : w.cell? ⟨g, i, none⟩ = cs[i]? := by
 rw [cell_of_row w g i cs.toArray t (0, 0) h]; simp
theorem At.free (h : At w g t cs) (i : Nat) : w.frozen? ⟨g, i, none⟩ = false := by
 unfold At at h; simp [World.frozen?, h]
theorem At.new_ (w : World) (t : TypeId) (cs : List Value) : At (w.alloc (.cells cs.toArray t)) w.heap.size t cs := heap_alloc_new w _
theorem At.drew (h : At w g t cs) : At w.drew g t cs := h
theorem At.drewN (h : At w g t cs) (n : Nat) : At (w.drewN n) g t cs := h
theorem At.alloc (h : At w g t cs) (o : Obj) : At (w.alloc o) g t cs := (Below.heap_alloc w o g h.lt).trans h
theorem At.conv {cs' : List Value} (h : At w g t cs') (e : cs' = cs) : At w g t cs := e ▸ h
theorem At.far (h : At w g t cs) {p : Addr} (hp : g ≠ p.block) (u : Value) : At (w.setCell p u) g t cs := (Below.heap_setCell w p u g hp).trans h
theorem At.set_ (h : At w g t cs) (i : Nat) (u : Value) : At (w.setCell ⟨g, i, none⟩ u) g t (cs.set i u) := by
 unfold At at h ⊢
 simp [World.setCell, Array.getElem?_modify, h]
theorem At.keep {B : Nat} (h : At w g t cs) (hb : Below B w w') (hg : g < B) : At w' g t cs := (hb.block g hg).trans h
theorem At.kept (h : At w g t cs) (hb : Below w.heap.size w w') : At w' g t cs := (hb.block g h.lt).trans h
theorem At.grown {row : Option Nat} (h : At w g t cs) (hb : w.grownBy w' row) (hg : some g ≠ row) : At w' g t cs := (hb.block g h.lt hg).trans h
theorem only_refl (w : World) (row : Option Nat) : w.grownBy w row := World.grownBy.refl w row
theorem only_drew {a : World} {row : Option Nat} (h : a.grownBy w row) : a.grownBy w.drew row := ⟨h.os, h.tape, h.output, h.size, h.block⟩
theorem only_dn {a : World} {row : Option Nat} (h : a.grownBy w row) (n : Nat) : a.grownBy (w.drewN n) row := ⟨h.os, h.tape, h.output, h.size, h.block⟩
theorem only_alloc {a : World} {row : Option Nat} (h : a.grownBy w row) (o : Obj) : a.grownBy (w.alloc o) row :=
 ⟨h.os, h.tape, h.output, Nat.le_trans h.size (by simp), fun i hi hne => (Below.heap_alloc w o i (Nat.lt_of_lt_of_le hi h.size)).trans (h.block i hi hne)⟩
theorem only_set {a : World} (h : a.grownBy w (some g)) {p : Addr} (hp : p.block = g ∨ a.heap.size ≤ p.block) (u : Value) : a.grownBy (w.setCell p u) (some g) :=
 ⟨h.os, h.tape, h.output, by simpa [World.setCell] using h.size, fun i hi hne => (Below.heap_setCell w p u i (by
  rintro rfl
  rcases hp with hp | hp
  ·exact hne (by rw [hp])
  ·omega)).trans (h.block i hi hne)⟩
theorem only_below {a : World} {row : Option Nat} (h : a.grownBy w row) (k : Below w.heap.size w w') : a.grownBy w' row :=
 ⟨k.os.trans h.os, k.tape.trans h.tape, k.output.trans h.output, Nat.le_trans h.size k.size, fun i hi hne => (k.block i (Nat.lt_of_lt_of_le hi h.size)).trans (h.block i hi hne)⟩
theorem only_trans {a : World} {row : Option Nat} (h : a.grownBy w row) (k : w.grownBy w' row) : a.grownBy w' row :=
 ⟨k.os.trans h.os, k.tape.trans h.tape, k.output.trans h.output, Nat.le_trans h.size k.size, fun i hi hne => (k.block i (Nat.lt_of_lt_of_le hi h.size) hne).trans (h.block i hi hne)⟩
end
theorem wp_gen {P : Program} {c : Code} {Q : Exit → Act → World → Prop} {a : Act} {w : World} (Pr : World → Prop) (h : Pr w) (k : ∀ W, Pr W → Code.wp P c Q a W) : Code.wp P c Q a w := k w h
structure Later (w0 : World) where
 now : World
 still : Below w0.heap.size w0 now
instance later_some (w : World) : Nonempty (Later w) := ⟨⟨w, Below.refl _ _⟩⟩
theorem wp_region_later {P : Program} {id : Nat} {Q : Exit → Act → World → Prop} {a : Act} {w : World} {l : List Oper} (hm : P.follows .mixedOrders = true) (hB : Region.lexB .any l.toArray = true)
  (h : (∀ (u : Later w) (b o : Nat), b < w.heap.size → u.now.cell? ⟨b, o, none⟩ = w.cell? ⟨b, o, none⟩) →
   wpQuiet P l.toArray (fun w' => ∃ u : Later w, w' = u.now) (fun a' => ∀ w', Below w.heap.size w w' → Q .normal a' w') l a) : (Code.region id l.toArray true).wp P Q a w := by
 refine wp_region_quiet (C := fun w' => ∃ u : Later w, w' = u.now) hm hB ⟨⟨_, (Below.refl w.heap.size w).drew⟩, rfl⟩ ?_
 have := h (fun u b o hb => u.still.cell (p := ⟨b, o, none⟩) hb)
 have e : (fun a' => ∀ w', (∃ u : Later w, w' = u.now) → Q .normal a' w') = (fun a' => ∀ w', Below w.heap.size w w' → Q .normal a' w') := by
  funext a'
  apply propext
  constructor
  ·intro g w' hw'; exact g w' ⟨⟨w', hw'⟩, rfl⟩
  ·rintro g w' ⟨u, rfl⟩; exact g _ u.still
 rw [e]
 exact this
theorem later_call {P : Program} {f : FuncId} {args : Array Value} {w : World} {u : Later w} {v : Value} (h : Calls P f args u.now fun e w' => e = .returned v ∧ Below u.now.heap.size u.now w') :
  Calls P f args u.now fun e w'' => e = .returned v ∧ ∃ u' : Later w, w'' = u'.now :=
 h.mono fun _ w' hh => ⟨hh.1, ⟨w', u.still.trans (hh.2.mono u.still.size)⟩, rfl⟩
theorem later_same {P : Program} {f : FuncId} {args : Array Value} {w : World} {u : Later w} {v : Value} (h : Calls P f args u.now fun e w' => e = .returned v ∧ u.now = w') :
  Calls P f args u.now fun e w'' => e = .returned v ∧ ∃ u' : Later w, w'' = u'.now :=
 h.mono fun _ w' hh => ⟨hh.1, u, hh.2.symm⟩
def fnL {β : Type} (n : Nat) (f : Nat → β) : List β := (List.range n).map f
theorem fnL_len {β : Type} (n : Nat) (f : Nat → β) : (fnL n f).length = n := by simp [fnL]
theorem fnL_get {β : Type} (n : Nat) (f : Nat → β) (k : Nat) (h : k < n) : (fnL n f)[k]? = some (f k) := by simp [fnL, h]
theorem fnL_congr {β : Type} (n : Nat) (f g : Nat → β) (h : ∀ k, k < n → f k = g k) : fnL n f = fnL n g := by
 unfold fnL
 exact List.map_congr_left fun k hk => h k (List.mem_range.1 hk)
theorem fnL_set {β : Type} (n : Nat) (f : Nat → β) (i : Nat) (v : β) : (fnL n f).set i v = fnL n fun k => if k = i then v else f k := by
 apply List.ext_getElem?
 intro k
 by_cases hk : k < n
 ·rw [fnL_get _ _ _ hk, List.getElem?_set]
  by_cases e : i = k
  ·subst e; simp [fnL_len, hk]
  ·rw [if_neg e, fnL_get _ _ _ hk, if_neg (fun x => e x.symm)]
 ·rw [List.getElem?_eq_none (by simp [fnL_len]; omega), List.getElem?_eq_none (by simp [fnL_len]; omega)]
attribute [irreducible] fnL
structure IQ where
 r : Nat → Int
 h : Nat → Bool
 rd : Int
 nx : Int
 fin : Int
 over : Bool
def plc (nx : Int) (k : Nat) : Int := nx + ((k : Int) - nx) % 2048
theorem plc_lo (nx : Int) (k : Nat) : nx ≤ plc nx k := by unfold plc; omega
theorem plc_mod (nx : Int) (k : Nat) (hk : k < 2048) : plc nx k % 2048 = (k : Int) := by unfold plc; omega
theorem plc_of (nx p : Int) (k : Nat) (h : nx ≤ p) (h' : p < nx + 2048) (hk : p % 2048 = (k : Int)) : plc nx k = p := by unfold plc; omega
def hitB (q : IQ) (at_ len : Int) (k : Nat) : Bool := decide (at_ ≤ plc q.nx k ∧ plc q.nx k < at_ + len ∧ plc q.nx k < q.rd + 2048 ∧ (q.fin < 0 ∨ plc q.nx k < q.fin))
def byteZ (S : ByteArray) (i : Int) : Int := ((S.data[i.toNat]?.getD 0).toNat : Int)
theorem byteZ_bd (S : ByteArray) (i : Int) : 0 ≤ byteZ S i ∧ byteZ S i ≤ 255 := by
 unfold byteZ; have := (S.data[i.toNat]?.getD 0).toNat_lt; omega
def hTo (q : IQ) (at_ len c : Int) (k : Nat) : Bool := q.h k || (hitB q at_ len k && decide (plc q.nx k < c))
def rTo (q : IQ) (at_ : Int) (S : ByteArray) (c : Int) (k : Nat) : Int := if !q.h k && (hitB q at_ S.size k && decide (plc q.nx k < c)) then byteZ S (plc q.nx k - at_) else q.r k
def hPut (q : IQ) (at_ len : Int) (k : Nat) : Bool := q.h k || hitB q at_ len k
def rPut (q : IQ) (at_ : Int) (S : ByteArray) (k : Nat) : Int := if !q.h k && hitB q at_ S.size k then byteZ S (plc q.nx k - at_) else q.r k
theorem hTo_start (q : IQ) (at_ len c : Int) (hc : c ≤ at_ ∨ c ≤ q.nx) (k : Nat) : hTo q at_ len c k = q.h k := by
 unfold hTo hitB
 have := plc_lo q.nx k
 rcases hc with hc | hc
 ·cases q.h k <;> simp <;> omega
 ·cases q.h k <;> simp <;> omega
theorem rTo_start (q : IQ) (at_ : Int) (S : ByteArray) (c : Int) (hc : c ≤ at_ ∨ c ≤ q.nx) (k : Nat) : rTo q at_ S c k = q.r k := by
 unfold rTo hitB
 have := plc_lo q.nx k
 rw [if_neg]
 rcases hc with hc | hc <;> simp <;> omega
theorem hTo_end (q : IQ) (at_ len c : Int) (hc : at_ + len ≤ c ∨ q.rd + 2048 ≤ c ∨ (0 ≤ q.fin ∧ q.fin ≤ c)) (k : Nat) : hTo q at_ len c k = hPut q at_ len k := by
 unfold hTo hPut hitB
 cases q.h k
 ·rw [Bool.eq_iff_iff]
  simp only [Bool.false_or, Bool.and_eq_true, decide_eq_true_eq]
  constructor
  ·exact fun h => h.1
  ·intro h; exact ⟨h, by omega⟩
 ·simp
theorem rTo_end (q : IQ) (at_ : Int) (S : ByteArray) (c : Int) (hc : at_ + S.size ≤ c ∨ q.rd + 2048 ≤ c ∨ (0 ≤ q.fin ∧ q.fin ≤ c)) (k : Nat) : rTo q at_ S c k = rPut q at_ S k := by
 have h := hTo_end q at_ S.size c hc k
 unfold hTo hPut at h
 unfold rTo rPut
 cases hq : q.h k
 ·rw [hq] at h; simp only [Bool.false_or] at h; rw [h]
 ·simp
theorem hTo_step (q : IQ) (at_ len c : Int) (K : Nat) (hK : c % 2048 = (K : Int)) (h1 : q.nx ≤ c) (h2 : at_ ≤ c) (h3 : c < at_ + len) (h4 : c < q.rd + 2048) (h5 : q.fin < 0 ∨ c < q.fin) (h6 : q.rd ≤ q.nx) (k : Nat) (hk : k < 2048) :
  hTo q at_ len (c + 1) k = if k = K then true else hTo q at_ len c k := by
 have hp := plc_of q.nx c K h1 (by omega) hK
 by_cases e : k = K
 ·subst e
  rw [if_pos rfl]
  unfold hTo hitB
  rw [hp]
  simp; right; omega
 ·rw [if_neg e]
  unfold hTo
  have hne : plc q.nx k ≠ c := by intro x; have := plc_mod q.nx k hk; rw [x, hK] at this; omega
  congr 2
  apply decide_eq_decide.2
  omega
theorem rTo_step (q : IQ) (at_ : Int) (S : ByteArray) (c : Int) (K : Nat) (hK : c % 2048 = (K : Int)) (h1 : q.nx ≤ c) (h2 : at_ ≤ c) (h3 : c < at_ + S.size) (h4 : c < q.rd + 2048) (h5 : q.fin < 0 ∨ c < q.fin) (h6 : q.rd ≤ q.nx) (k : Nat) (hk : k < 2048) :
  rTo q at_ S (c + 1) k = if k = K ∧ q.h K = false then byteZ S (c - at_) else rTo q at_ S c k := by
 have hp := plc_of q.nx c K h1 (by omega) hK
 by_cases e : k = K
 ·subst e
  unfold rTo hitB
  rw [hp]
  cases hq : q.h k
  ·rw [if_pos (by simp; omega), if_pos ⟨rfl, rfl⟩]
  ·simp
 ·rw [if_neg (fun x => e x.1)]
  unfold rTo
  have hne : plc q.nx k ≠ c := by intro x; have := plc_mod q.nx k hk; rw [x, hK] at this; omega
  have : decide (plc q.nx k < c + 1) = decide (plc q.nx k < c) := decide_eq_decide.2 (by omega)
  rw [this]
theorem hTo_at (q : IQ) (at_ len c : Int) (K : Nat) (hK : c % 2048 = (K : Int)) (h1 : q.nx ≤ c) (h4 : c < q.rd + 2048) (h6 : q.rd ≤ q.nx) : hTo q at_ len c K = q.h K := by
 have hp := plc_of q.nx c K h1 (by omega) hK
 unfold hTo
 rw [hp]; simp
def advZ (h : Nat → Bool) (edge : Int) : Nat → Int → Int
 | 0, p => p
 | f + 1, p => if p < edge ∧ h (p % 2048).toNat = true then advZ h edge f (p + 1) else p
def AdvIs (h : Nat → Bool) (edge p n : Int) : Prop := p ≤ n ∧ n ≤ edge ∧ (∀ x, p ≤ x → x < n → h (x % 2048).toNat = true) ∧ (n = edge ∨ h (n % 2048).toNat = false)
theorem advZ_is (h : Nat → Bool) (edge : Int) : ∀ (f : Nat) (p : Int), p ≤ edge → edge - p ≤ (f : Int) → AdvIs h edge p (advZ h edge f p)
  | 0, p, h1, h2 => by
    unfold advZ
    exact ⟨by omega, h1, fun x a b => by omega, .inl (by omega)⟩
  | f + 1, p, h1, h2 => by
    unfold advZ
    by_cases hc : p < edge ∧ h (p % 2048).toNat = true
    · rw [if_pos hc]
      obtain ⟨a, b, c, d⟩ := advZ_is h edge f (p + 1) (by omega) (by omega)
      refine ⟨by omega, b, fun x hx hx' => ?_, d⟩
      by_cases e : x = p
      · rw [e]; exact hc.2
      · exact c x (by omega) hx'
    · rw [if_neg hc]
      refine ⟨by omega, h1, fun x a b => by omega, ?_⟩
      by_cases e : p = edge
      · exact .inl e
      · right
        cases hh : h (p % 2048).toNat
        · rfl
        · exact absurd ⟨by omega, hh⟩ hc
theorem adv_one {h : Nat → Bool} {edge p n m : Int} (hn : AdvIs h edge p n) (hm : AdvIs h edge p m) : n = m := by
 obtain ⟨a1, a2, a3, a4⟩ := hn
 obtain ⟨b1, b2, b3, b4⟩ := hm
 rcases Int.lt_trichotomy n m with hlt | he | hgt
 ·rcases a4 with e | e
  ·omega
  ·have := b3 n a1 hlt; rw [e] at this; cases this
 ·exact he
 ·rcases b4 with e | e
  ·omega
  ·have := a3 m b1 hgt; rw [e] at this; cases this
def behindB (h : Nat → Bool) (p edge : Int) : Bool := (List.range (edge - p).toNat).any fun j => h ((p + j) % 2048).toNat
theorem behind_iff (h : Nat → Bool) (p edge : Int) : behindB h p edge = true ↔ ∃ x, p ≤ x ∧ x < edge ∧ h (x % 2048).toNat = true := by
 unfold behindB
 rw [List.any_eq_true]
 constructor
 ·rintro ⟨j, hj, hh⟩
  rw [List.mem_range] at hj
  exact ⟨p + j, by omega, by omega, hh⟩
 ·rintro ⟨x, h1, h2, h3⟩
  refine ⟨(x - p).toNat, List.mem_range.2 (by omega), ?_⟩
  rw [show p + ((x - p).toNat : Int) = x by omega]; exact h3
def finPut (q : IQ) (at_ len : Int) (fin : Bool) : Int :=
 if (fin = true ∧ q.fin < 0 ∧ q.nx ≤ at_ + len ∧ at_ + len ≤ q.rd + 2048) ∧ behindB (hPut q at_ len) (at_ + len) (q.rd + 2048) = false then at_ + len else q.fin
def nxPut (q : IQ) (at_ len : Int) : Int := advZ (hPut q at_ len) (q.rd + 2048) 2048 q.nx
def hAfter (q : IQ) (at_ len n : Int) (k : Nat) : Bool := hPut q at_ len k && decide (n ≤ plc q.nx k)
def putQ (q : IQ) (at_ : Int) (S : ByteArray) (fin : Bool) : IQ :=
 if at_ < -1152921504606846976 ∨ 1152921504606846976 < at_ ∨ q.over = true then q
 else if nxPut q at_ S.size = finPut q at_ S.size fin then
  { r := rPut q at_ S, h := hAfter q at_ S.size (nxPut q at_ S.size), rd := q.rd, nx := nxPut q at_ S.size + 1, fin := finPut q at_ S.size fin, over := true }
 else { r := rPut q at_ S, h := hAfter q at_ S.size (nxPut q at_ S.size), rd := q.rd, nx := nxPut q at_ S.size, fin := finPut q at_ S.size fin, over := false }
def inqC (q : IQ) : List Value := fnL 2048 (fun k => Value.int .u8 (q.r k)) ++ (fnL 2048 (fun k => Value.bool (q.h k)) ++ [.int .i64 q.rd, .int .i64 q.nx, .int .i64 q.fin, .bool q.over])
abbrev InqAt (w : World) (g : Nat) (q : IQ) : Prop := At w g 121 (inqC q)
theorem inqC_r (q : IQ) (k : Nat) (h : k < 2048) : (inqC q)[k]? = some (.int .u8 (q.r k)) := by
 unfold inqC
 rw [List.getElem?_append_left (by rw [fnL_len]; exact h), fnL_get _ _ _ h]
theorem inqC_h (q : IQ) (k : Nat) (h : k < 2048) : (inqC q)[2048 + k]? = some (.bool (q.h k)) := by
 unfold inqC
 rw [List.getElem?_append_right (by rw [fnL_len]; omega), fnL_len, List.getElem?_append_left (by rw [fnL_len]; omega), show 2048 + k - 2048 = k by omega, fnL_get _ _ _ h]
theorem inqC_t (q : IQ) (k : Nat) : (inqC q)[4096 + k]? = ([.int .i64 q.rd, .int .i64 q.nx, .int .i64 q.fin, .bool q.over] : List Value)[k]? := by
 unfold inqC
 rw [List.getElem?_append_right (by rw [fnL_len]; omega), fnL_len, List.getElem?_append_right (by rw [fnL_len]; omega), fnL_len, show 4096 + k - 2048 - 2048 = k by omega]
theorem inqC_congr (q q' : IQ) (h1 : ∀ k, k < 2048 → q.r k = q'.r k) (h2 : ∀ k, k < 2048 → q.h k = q'.h k) (h3 : q.rd = q'.rd) (h4 : q.nx = q'.nx) (h5 : q.fin = q'.fin) (h6 : q.over = q'.over) : inqC q = inqC q' := by
 unfold inqC
 rw [fnL_congr 2048 (fun k => Value.int .u8 (q.r k)) (fun k => Value.int .u8 (q'.r k)) (fun k hk => by rw [h1 k hk]), fnL_congr 2048 (fun k => Value.bool (q.h k)) (fun k => Value.bool (q'.h k)) (fun k hk => by rw [h2 k hk]), h3, h4, h5, h6]
theorem inqC_setr (q : IQ) (K : Nat) (x : Int) (h : K < 2048) : (inqC q).set K (.int .u8 x) = inqC { q with r := fun k => if k = K then x else q.r k } := by
 unfold inqC
 rw [List.set_append_left _ _ (by rw [fnL_len]; exact h), fnL_set]
 simp only
 congr 1
 exact fnL_congr _ _ _ (fun k _ => by split <;> rfl)
theorem inqC_seth (q : IQ) (K : Nat) (x : Bool) (h : K < 2048) : (inqC q).set (2048 + K) (.bool x) = inqC { q with h := fun k => if k = K then x else q.h k } := by
 unfold inqC
 rw [List.set_append_right _ _ (by rw [fnL_len]; omega), fnL_len, show 2048 + K - 2048 = K by omega, List.set_append_left _ _ (by rw [fnL_len]; exact h), fnL_set]
 simp only
 congr 2
 exact fnL_congr _ _ _ (fun k _ => by split <;> rfl)
theorem inqC_sett (q : IQ) (i : Nat) (v : Value) : (inqC q).set (4096 + i) v = fnL 2048 (fun k => Value.int .u8 (q.r k)) ++ (fnL 2048 (fun k => Value.bool (q.h k)) ++ ([.int .i64 q.rd, .int .i64 q.nx, .int .i64 q.fin, .bool q.over] : List Value).set i v) := by
 unfold inqC
 rw [List.set_append_right _ _ (by rw [fnL_len]; omega), fnL_len, List.set_append_right _ _ (by rw [fnL_len]; omega), fnL_len, show 4096 + i - 2048 - 2048 = i by omega]
theorem inqC_setrd (q : IQ) (x : Int) : (inqC q).set 4096 (.int .i64 x) = inqC { q with rd := x } := inqC_sett q 0 _
theorem inqC_setnx (q : IQ) (x : Int) : (inqC q).set 4097 (.int .i64 x) = inqC { q with nx := x } := inqC_sett q 1 _
theorem inqC_setfin (q : IQ) (x : Int) : (inqC q).set 4098 (.int .i64 x) = inqC { q with fin := x } := inqC_sett q 2 _
theorem inqC_setover (q : IQ) (x : Bool) : (inqC q).set 4099 (.bool x) = inqC { q with over := x } := inqC_sett q 3 _
attribute [irreducible] inqC
section
variable {w : World} {g : Nat} {q : IQ} (hQ : InqAt w g q)
include hQ
theorem InqAt.r_ (k : Nat) (h : k < 2048) : w.cell? ⟨g, k, none⟩ = some (.int .u8 (q.r k)) := by rw [At.cell hQ]; exact inqC_r q k h
theorem InqAt.h_ (k : Nat) (h : k < 2048) : w.cell? ⟨g, 2048 + k, none⟩ = some (.bool (q.h k)) := by rw [At.cell hQ]; exact inqC_h q k h
theorem InqAt.rd_ : w.cell? ⟨g, 4096, none⟩ = some (.int .i64 q.rd) := by rw [At.cell hQ]; exact inqC_t q 0
theorem InqAt.nx_ : w.cell? ⟨g, 4097, none⟩ = some (.int .i64 q.nx) := by rw [At.cell hQ]; exact inqC_t q 1
theorem InqAt.fin_ : w.cell? ⟨g, 4098, none⟩ = some (.int .i64 q.fin) := by rw [At.cell hQ]; exact inqC_t q 2
theorem InqAt.over_ : w.cell? ⟨g, 4099, none⟩ = some (.bool q.over) := by rw [At.cell hQ]; exact inqC_t q 3
end
structure IqOk (q : IQ) : Prop where
 rd1 : 1 ≤ q.rd
 rdn : q.rd ≤ (if q.over then q.nx - 1 else q.nx)
 nxr : (if q.over then q.nx - 1 else q.nx) ≤ q.rd + 2048
 nxm : q.nx ≤ 1152921504606846976
 fin1 : -1 ≤ q.fin
 finm : q.fin ≤ 2305843009213693952
 rok : ∀ k, 0 ≤ q.r k ∧ q.r k ≤ 255
def endZ (q : IQ) : Int := if q.over then q.nx - 1 else q.nx
def newIQ : IQ := ⟨fun _ => 0, fun _ => false, 1, 1, -1, false⟩
set_option maxRecDepth 100000 in
theorem Next_any (g : Nat) (q : IQ) (w : World) (hQ : InqAt w g q) :
  Calls Try.prog 67 #[.pointer (some ⟨g, 0, none⟩)] w fun e w' => e = .returned (.int .i64 q.nx) ∧ w = w' := by
 have c := InqAt.nx_ hQ
 go_enter Try.func67, Try.ntmps67
 go_wp2
 go_ret
 exact ⟨rfl, rfl⟩
theorem Over_any (g : Nat) (q : IQ) (w : World) (hQ : InqAt w g q) :
  Calls Try.prog 55 #[.pointer (some ⟨g, 0, none⟩)] w fun e w' => e = .returned (.bool q.over) ∧ w = w' := by
 have c := InqAt.over_ hQ
 go_enter Try.func55, Try.ntmps55
 go_wp2
 go_ret
 exact ⟨rfl, rfl⟩
theorem end_any (g : Nat) (q : IQ) (w : World) (hQ : InqAt w g q) (ok : IqOk q) :
  Calls Try.prog 82 #[.pointer (some ⟨g, 0, none⟩)] w fun e w' => e = .returned (.int .i64 (endZ q)) ∧ w = w' := by
 have c := InqAt.over_ hQ
 have c1 := InqAt.nx_ hQ
 have h1 := ok.rd1
 have h2 := ok.rdn
 have h3 := ok.nxm
 unfold endZ
 cases ho : q.over
 ·rw [ho] at c h2
  simp at h2 ⊢
  clear ho
  go_enter Try.func82, Try.ntmps82
  go_wp2
  go_ret
  exact ⟨rfl, rfl⟩
 ·rw [ho] at c h2
  simp at h2 ⊢
  clear ho
  go_enter Try.func82, Try.ntmps82
  go_wp2
  go_ret
  exact ⟨rfl, rfl⟩
theorem end_bd (q : IQ) (ok : IqOk q) : q.rd ≤ endZ q ∧ endZ q ≤ q.rd + 2048 ∧ 1 ≤ endZ q ∧ endZ q ≤ 1152921504606846976 := by
 have h1 := ok.rd1
 have h2 := ok.rdn
 have h3 := ok.nxr
 have h4 := ok.nxm
 unfold endZ
 cases ho : q.over <;> rw [ho] at h2 h3 <;> simp at h2 h3 ⊢ <;> omega
theorem Ready_any (g : Nat) (q : IQ) (w : World) (hQ : InqAt w g q) (ok : IqOk q) :
  Calls Try.prog 53 #[.pointer (some ⟨g, 0, none⟩)] w fun e w' => e = .returned (.int .i64 (endZ q - q.rd)) ∧ Below w.heap.size w w' := by
 have c := InqAt.rd_ hQ
 obtain ⟨b1, b2, b3, b4⟩ := end_bd q ok
 have hlt := hQ.lt
 have he := fun (u : Later w) => end_any g q u.now (hQ.kept u.still) ok
 have h1 := ok.rd1
 have HE := Lib.hid he
 clear he
 go_enter Try.func53, Try.ntmps53
 go_wp2_with fail
 refine wp_region_later (by kernel_rfl) (by kernel_rfl) (fun hlc => ?_)
 repeat (go_big_quiet_step ((go_at_call 82; exact later_same (HE.out _))))
 refine wpQuiet_nil ?_
 intro wq hbq
 clear hlc
 go_wp2_with fail
 go_ret
 exact ⟨rfl, hbq⟩
theorem Window_any (g : Nat) (q : IQ) (w : World) (hQ : InqAt w g q) (ok : IqOk q) :
  Calls Try.prog 66 #[.pointer (some ⟨g, 0, none⟩)] w fun e w' => e = .returned (.int .i64 (2048 - (endZ q - q.rd))) ∧ Below w.heap.size w w' := by
 obtain ⟨b1, b2, b3, b4⟩ := end_bd q ok
 go_enter Try.func66, Try.ntmps66
 go_wp2_with fail
 refine (Ready_any g q _ hQ ok).mono ?_
 rintro e w1 ⟨rfl, hB1⟩
 go_wp2_with fail
 go_ret
 exact ⟨rfl, hB1⟩
def zeroIQ : IQ := ⟨fun _ => 0, fun _ => false, 0, 0, 0, false⟩
set_option maxRecDepth 1000000 in
theorem inq_zero (W : World) : (zeroValue 121).run Try.prog W = .ok (.agg (inqC zeroIQ).toArray) W := by kernel_rfl
theorem inqC_len (q : IQ) : (inqC q).length = 4100 := by
 unfold inqC
 simp [fnL_len]
set_option maxRecDepth 100000 in
theorem inqNew_any (w : World) : Calls Try.prog 85 #[] w fun e w' => e = .returned (.pointer (some ⟨w.heap.size, 0, none⟩)) ∧ InqAt w' w.heap.size newIQ ∧ Below w.heap.size w w' := by
 have hz := inq_zero
 have hl := inqC_len zeroIQ
 have hn : ((inqC zeroIQ).set 4096 (.int .i64 1)).set 4097 (.int .i64 1) = ((inqC zeroIQ).set 4096 (.int .i64 1)).set 4097 (.int .i64 1) := rfl
 have h3 : (((inqC zeroIQ).set 4096 (.int .i64 1)).set 4097 (.int .i64 1)).set 4098 (.int .i64 (-1)) = inqC newIQ := by rw [inqC_setrd, inqC_setnx, inqC_setfin]; rfl
 clear hn
 generalize inqC zeroIQ = Z at *
 have hs : Z.toArray.size = 4100 := by rw [List.size_toArray]; exact hl
 have h4 : ((Z.toArray.setIfInBounds 4096 (.int .i64 1)).setIfInBounds 4097 (.int .i64 1)).setIfInBounds 4098 (.int .i64 (-1)) = (inqC newIQ).toArray := by
  rw [List.setIfInBounds_toArray, List.setIfInBounds_toArray, List.setIfInBounds_toArray, h3]
 generalize Z.toArray = Y at *
 clear h3 hl
 have H4 := Lib.hid h4
 clear h4
 go_enter Try.func85, Try.ntmps85
 go_wp2_with fail
 go_ret
 refine ⟨rfl, ?_, below_ca (Below.refl _ _) _⟩
 rw [H4.out]
 exact At.new_ _ _ _
def Stop (q : IQ) : Prop := q.over = true ∨ ((q.nx = q.rd + 2048 ∨ q.h (q.nx % 2048).toNat = false) ∧ q.nx ≠ q.fin)
def idle (q : IQ) (at_ : Int) : Prop := at_ < -1152921504606846976 ∨ 1152921504606846976 < at_ ∨ q.over = true
theorem putQ_idle {q : IQ} {at_ : Int} (S : ByteArray) (fin : Bool) (h : idle q at_) : putQ q at_ S fin = q := by unfold putQ; exact if_pos h
theorem putQ_over {q : IQ} {at_ : Int} (S : ByteArray) (fin : Bool) (h : ¬ idle q at_) (hf : nxPut q at_ S.size = finPut q at_ S.size fin) :
  putQ q at_ S fin = { r := rPut q at_ S, h := hAfter q at_ S.size (nxPut q at_ S.size), rd := q.rd, nx := nxPut q at_ S.size + 1, fin := finPut q at_ S.size fin, over := true } := by
 unfold putQ; rw [if_neg (by exact h), if_pos hf]
theorem putQ_open {q : IQ} {at_ : Int} (S : ByteArray) (fin : Bool) (h : ¬ idle q at_) (hf : nxPut q at_ S.size ≠ finPut q at_ S.size fin) :
  putQ q at_ S fin = { r := rPut q at_ S, h := hAfter q at_ S.size (nxPut q at_ S.size), rd := q.rd, nx := nxPut q at_ S.size, fin := finPut q at_ S.size fin, over := false } := by
 unfold putQ; rw [if_neg (by exact h), if_neg hf]
theorem ok_open {q : IQ} (ok : IqOk q) (ho : q.over = false) : q.rd ≤ q.nx ∧ q.nx ≤ q.rd + 2048 := by
 have h1 := ok.rdn
 have h2 := ok.nxr
 rw [ho] at h1 h2
 simp at h1 h2
 exact ⟨h1, h2⟩
theorem nxPut_is {q : IQ} (ok : IqOk q) (ho : q.over = false) (at_ len : Int) : AdvIs (hPut q at_ len) (q.rd + 2048) q.nx (nxPut q at_ len) := by
 obtain ⟨h1, h2⟩ := ok_open ok ho
 exact advZ_is _ _ 2048 q.nx h2 (by omega)
theorem idle_open {q : IQ} {at_ : Int} (h : ¬ idle q at_) : q.over = false := by
 cases ho : q.over
 ·rfl
 ·exact absurd (.inr (.inr ho)) h
theorem rPut_bd {q : IQ} (ok : IqOk q) (at_ : Int) (S : ByteArray) (k : Nat) : 0 ≤ rPut q at_ S k ∧ rPut q at_ S k ≤ 255 := by
 unfold rPut
 split
 ·exact byteZ_bd _ _
 ·exact ok.rok k
theorem finPut_bd {q : IQ} (ok : IqOk q) (at_ len : Int) (fin : Bool) (hrd : q.rd ≤ 576460752303423488) : -1 ≤ finPut q at_ len fin ∧ finPut q at_ len fin ≤ 2305843009213693952 := by
 have h1 := ok.fin1
 have h2 := ok.finm
 have h3 := ok.rd1
 have h5 := ok.rdn
 unfold finPut
 split
 ·rename_i h
  obtain ⟨⟨_, _, h4, h6⟩, _⟩ := h
  cases ho : q.over <;> rw [ho] at h5 <;> simp at h5 <;> omega
 ·omega
theorem put_rd (q : IQ) (at_ : Int) (S : ByteArray) (fin : Bool) : (putQ q at_ S fin).rd = q.rd := by
 by_cases h : idle q at_
 ·rw [putQ_idle S fin h]
 ·by_cases hf : nxPut q at_ S.size = finPut q at_ S.size fin
  ·rw [putQ_over S fin h hf]
  ·rw [putQ_open S fin h hf]
theorem put_ok {q : IQ} (ok : IqOk q) (hrd : q.rd ≤ 576460752303423488) (at_ : Int) (S : ByteArray) (fin : Bool) : IqOk (putQ q at_ S fin) := by
 by_cases h : idle q at_
 ·rw [putQ_idle S fin h]; exact ok
 ·have ho := idle_open h
  obtain ⟨o1, o2⟩ := ok_open ok ho
  obtain ⟨a1, a2, _, _⟩ := nxPut_is ok ho at_ S.size
  obtain ⟨f1, f2⟩ := finPut_bd ok at_ S.size fin hrd
  have h3 := ok.rd1
  by_cases hf : nxPut q at_ S.size = finPut q at_ S.size fin
  ·rw [putQ_over S fin h hf]
   exact ⟨h3, by simp; omega, by simp; omega, by simp; omega, f1, f2, rPut_bd ok at_ S⟩
  ·rw [putQ_open S fin h hf]
   exact ⟨h3, by simp; omega, by simp; omega, by simp; omega, f1, f2, rPut_bd ok at_ S⟩
theorem put_stop {q : IQ} (ok : IqOk q) (hs : Stop q) (at_ : Int) (S : ByteArray) (fin : Bool) : Stop (putQ q at_ S fin) := by
 by_cases h : idle q at_
 ·rw [putQ_idle S fin h]; exact hs
 ·have ho := idle_open h
  obtain ⟨_, _, _, a4⟩ := nxPut_is ok ho at_ S.size
  by_cases hf : nxPut q at_ S.size = finPut q at_ S.size fin
  ·rw [putQ_over S fin h hf]; exact .inl rfl
  ·rw [putQ_open S fin h hf]
   refine .inr ⟨?_, hf⟩
   rcases a4 with e | e
   ·exact .inl e
   ·right; show hAfter q at_ S.size _ _ = false; unfold hAfter; rw [e]; rfl
theorem put_still {q : IQ} (ok : IqOk q) (ho : q.over = false) (hs : Stop q) (at_ : Int) (S : ByteArray) (fin : Bool) (h : q.rd + 2048 ≤ at_ ∨ at_ + S.size ≤ q.nx) (hf : fin = false ∨ q.rd + 2048 < at_ + S.size) :
  (putQ q at_ S fin).nx = q.nx ∧ (putQ q at_ S fin).over = false ∧ (putQ q at_ S fin).fin = q.fin := by
 by_cases hi : idle q at_
 ·rw [putQ_idle S fin hi]; exact ⟨rfl, ho, rfl⟩
 ·obtain ⟨o1, o2⟩ := ok_open ok ho
  rcases hs with e | ⟨s1, s2⟩
  ·rw [ho] at e; cases e
  have hno : ∀ k, hPut q at_ S.size k = q.h k := by
   intro k
   unfold hPut hitB
   have := plc_lo q.nx k
   rw [show decide (at_ ≤ plc q.nx k ∧ plc q.nx k < at_ + S.size ∧ plc q.nx k < q.rd + 2048 ∧ (q.fin < 0 ∨ plc q.nx k < q.fin)) = false by simp; omega]
   simp
  have hn : nxPut q at_ S.size = q.nx := adv_one (nxPut_is ok ho at_ S.size) ⟨Int.le_refl _, o2, fun x a b => by omega, by
   rcases s1 with e | e
   ·exact .inl e
   ·right; rw [hno]; exact e⟩
  have hfp : finPut q at_ S.size fin = q.fin := by
   unfold finPut
   rw [if_neg]
   rintro ⟨⟨f1, _, _, f4⟩, _⟩
   rcases hf with e | e
   ·rw [e] at f1; cases f1
   ·omega
  rw [putQ_open S fin hi (by rw [hn, hfp]; exact s2)]
  exact ⟨hn, rfl, hfp⟩
theorem finPut_or (q : IQ) (at_ len : Int) (fin : Bool) : finPut q at_ len fin = q.fin ∨ (q.fin < 0 ∧ finPut q at_ len fin = at_ + len) := by
 unfold finPut
 split
 ·rename_i h; exact .inr ⟨h.1.2.1, rfl⟩
 ·exact .inl rfl
theorem mod_of_tmod (n m : Int) (hm : 0 < m) : (if n.tmod m < 0 then n.tmod m + m else n.tmod m) = n % m := by
 by_cases hn : 0 ≤ n
 ·rw [Int.tmod_eq_emod_of_nonneg hn]
  have := Int.emod_nonneg n (show m ≠ 0 by omega)
  rw [if_neg (by omega)]
 ·have h1 : n.tmod m = -((-n) % m) := by
   rw [show n = -(-n) by omega, Int.neg_tmod, Int.tmod_eq_emod_of_nonneg (by omega)]; simp
  have h2 := Int.emod_nonneg (-n) (show m ≠ 0 by omega)
  have h3 := Int.emod_lt_of_pos (-n) hm
  have h4 := Int.mul_ediv_add_emod (-n) m
  by_cases hz : (-n) % m = 0
  ·rw [h1, hz]; simp
   exact (Int.emod_eq_zero_of_dvd (by have := Int.dvd_of_emod_eq_zero hz; exact (Int.dvd_neg).1 this)).symm
  ·rw [h1, if_pos (by omega)]
   have e : n = (m + -(-n % m)) + m * (-(-n / m) - 1) := by rw [Int.mul_sub, Int.mul_neg]; omega
   have e2 : n % m = m + -(-n % m) := by
    conv => lhs; rw [e]
    rw [Int.add_mul_emod_self_left, Int.emod_eq_of_lt (by omega) (by omega)]
   omega
theorem tmod_bd (n m : Int) (hm : 0 < m) : -m < n.tmod m ∧ n.tmod m < m := by
 have h1 := Int.tmod_lt_of_pos n hm
 have h2 := Int.tmod_lt_of_pos (-n) hm
 rw [Int.neg_tmod] at h2
 omega
set_option maxHeartbeats 400000 in
theorem Rest_any (n m : Int) (w : World) (_hn : -9223372036854775808 ≤ n) (_hn' : n ≤ 9223372036854775807) (_hm : 0 < m) (_hm' : m ≤ 9223372036854775807) :
  Calls Try.prog 13 #[.int .i64 n, .int .i64 m] w fun e w' => e = .returned (.int .i64 (n % m)) ∧ w = w' := by
 have hb := tmod_bd n m _hm
 obtain ⟨hb1, hb2⟩ := hb
 have hm := mod_of_tmod n m _hm
 have HM := Lib.hid hm
 clear hm
 by_cases hz : n.tmod m < 0
 ·by_cases h0 : 0 ≤ n
  ·exfalso; rw [Int.tmod_eq_emod_of_nonneg h0] at hz; have := Int.emod_nonneg n (show m ≠ 0 by omega); omega
  go_enter Try.func13, Try.ntmps13
  go_wp2
  go_ret
  exact ⟨ret_int (by rw [← HM.out, if_pos hz]), rfl⟩
 ·by_cases h0 : 0 ≤ n
  ·have h1 : n.tmod m = n % m := Int.tmod_eq_emod_of_nonneg h0
   have h2 := Int.emod_nonneg n (show m ≠ 0 by omega)
   clear hb1 hb2 hz h1
   go_enter Try.func13, Try.ntmps13
   go_wp2
   go_ret
   exact ⟨rfl, rfl⟩
  ·go_enter Try.func13, Try.ntmps13
   go_wp2
   go_ret
   exact ⟨ret_int (by rw [← HM.out, if_neg (by omega)]), rfl⟩
end Go.Proofs.Ytfpifahkpkjfgaa
