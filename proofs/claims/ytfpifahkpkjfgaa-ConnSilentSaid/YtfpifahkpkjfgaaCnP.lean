/- conn: a connection, as a plain model and in memory. -/
import Derived.Test.YtfpifahkpkjfgaaOutqN
import Derived.Test.YtfpifahkpkjfgaaOutqA
import Derived.Test.YtfpifahkpkjfgaaOutqW
import Derived.Test.YtfpifahkpkjfgaaInqD
import Derived.Test.YtfpifahkpkjfgaaRtoC
import Derived.Test.YtfpifahkpkjfgaaCongC
import Derived.Test.YtfpifahkpkjfgaaSeqC
import Derived.Test.YtfpifahkpkjfgaaTcpC
import Derived.Test.YtfpifahkpkjfgaaRowS
import Derived.Test.YtfpifahkpkjfgaaOrdF
namespace Go.Proofs.Ytfpifahkpkjfgaa
open Go.RowKit Go.Lib
set_option linter.unusedVariables false
set_option linter.unusedSimpArgs false

structure KTm where
  k : Bool
  m : Int
  s : Int
  d : Int
structure KWd where
  m : Int
  s : Int
  l : Int
/-- a connection -/
structure KCn where
  la : Int
  lp : Int
  ra : Int
  rp : Int
  st : Int
  why : Int
  o : OQ
  iss : Int
  irs : Int
  own : Int
  mss : Int
  wnd : Int
  wat : Int
  wak : Int
  tm : KTm
  now : Int
  clock : Int
  gone : Int
  same : Int
  ends : Int
  owed : Bool
  again : Bool
  probe : Bool
  shut : Bool
  meas : Int
  wh : Int
  rs : List Int
  h : Option (IQ × KWd)
/-- where its parts lie -/
structure KPt where
  go : Nat
  gt : Nat
  vo : Value
  vr : Value
  vi : Value
  vw : Value
def cnC (c : KCn) (k : KPt) : List Value :=
  [.int .u32 c.la, .int .i64 c.lp, .int .u32 c.ra, .int .i64 c.rp, .int .i64 c.st, .int .i64 c.why, .pointer (some ⟨k.go, 0, none⟩), k.vi, .int .u32 c.iss, .int .u32 c.irs, .int .i64 c.own, .int .i64 c.mss, .int .i64 c.wnd, .int .i64 c.wat, .int .i64 c.wak, .pointer (some ⟨k.gt, 0, none⟩), k.vw, .int .i64 c.now, .int .i64 c.clock, .int .i64 c.gone, .int .i64 c.same, .int .i64 c.ends, .bool c.owed, .bool c.again, .bool c.probe, .bool c.shut, .int .i64 c.meas, .int .i64 c.wh, k.vr]
def fU32 (x : Int) : List Value := [.int .u32 x]
def cnA (gc : Nat) (c : KCn) (k : KPt) : Res := atR gc 85 (cnC c k)
def tmR (g : Nat) (t : KTm) : Res := atR g 109 (timer t.k t.m t.s t.d)
def wdR (g : Nat) (d : KWd) : Res := atR g 123 (window d.m d.s d.l)
def iqR (g : Nat) (q : IQ) : Res := atR g 121 (inqC q)
def rsR (v : Value) (rs : List Int) : Res := rowR 1 fU32 v rs

section
variable (c : KCn) (k : KPt) (x : Int) (b : Bool) (v : Value)
theorem cn4 : (cnC c k).set 4 (.int .i64 x) = cnC { c with st := x } k := rfl
theorem cn5 : (cnC c k).set 5 (.int .i64 x) = cnC { c with why := x } k := rfl
theorem cn7 : (cnC c k).set 7 v = cnC c { k with vi := v } := rfl
theorem cn9 : (cnC c k).set 9 (.int .u32 x) = cnC { c with irs := x } k := rfl
theorem cn11 : (cnC c k).set 11 (.int .i64 x) = cnC { c with mss := x } k := rfl
theorem cn12 : (cnC c k).set 12 (.int .i64 x) = cnC { c with wnd := x } k := rfl
theorem cn13 : (cnC c k).set 13 (.int .i64 x) = cnC { c with wat := x } k := rfl
theorem cn14 : (cnC c k).set 14 (.int .i64 x) = cnC { c with wak := x } k := rfl
theorem cn16 : (cnC c k).set 16 v = cnC c { k with vw := v } := rfl
theorem cn17 : (cnC c k).set 17 (.int .i64 x) = cnC { c with now := x } k := rfl
theorem cn18 : (cnC c k).set 18 (.int .i64 x) = cnC { c with clock := x } k := rfl
theorem cn19 : (cnC c k).set 19 (.int .i64 x) = cnC { c with gone := x } k := rfl
theorem cn20 : (cnC c k).set 20 (.int .i64 x) = cnC { c with same := x } k := rfl
theorem cn21 : (cnC c k).set 21 (.int .i64 x) = cnC { c with ends := x } k := rfl
theorem cn22 : (cnC c k).set 22 (.bool b) = cnC { c with owed := b } k := rfl
theorem cn23 : (cnC c k).set 23 (.bool b) = cnC { c with again := b } k := rfl
theorem cn24 : (cnC c k).set 24 (.bool b) = cnC { c with probe := b } k := rfl
theorem cn25 : (cnC c k).set 25 (.bool b) = cnC { c with shut := b } k := rfl
theorem cn26 : (cnC c k).set 26 (.int .i64 x) = cnC { c with meas := x } k := rfl
theorem cn27 : (cnC c k).set 27 (.int .i64 x) = cnC { c with wh := x } k := rfl
theorem cn28 : (cnC c k).set 28 v = cnC c { k with vr := v } := rfl
end
/-- the clock runs, or doesn't -/
def cWaits (c : KCn) : Prop := c.o.una < c.o.cur ∨ (c.wnd = 0 ∧ 0 < c.o.una ∧ c.o.cur < qEnd c.o)
instance (c : KCn) : Decidable (cWaits c) := by unfold cWaits; infer_instance
def cSettle (c : KCn) : KCn :=
  if c.st = 0 ∨ c.st = 9 ∨ ¬ cWaits c then { c with clock := -1 } else if c.clock < 0 then { c with clock := c.now } else c
def cClosed (c : KCn) (y : Int) : KCn := { c with st := 0, why := y }
def cWait (c : KCn) : KCn := { c with st := 9, ends := c.now + 20 }
def u32 (x : Int) : Int := x % 4294967296
def cBare (c : KCn) (at_ : Int) : KSeg :=
  match c.h with
  | none => ⟨c.la, c.lp, c.ra, c.rp, u32 (c.iss + u32 at_), 0, false, false, false, false, 2048, 0, ⟨#[]⟩⟩
  | some (q, _) => ⟨c.la, c.lp, c.ra, c.rp, u32 (c.iss + u32 at_), u32 (c.irs + u32 q.nx), false, true, false, false, 2048 - (endZ q - q.rd), 0, ⟨#[]⟩⟩
def cSegm (c : KCn) (p : KPiece) : KSeg := { cBare c p.at_ with syn := p.syn, fin := p.fin, b := p.b, mss := if p.syn then c.own else 0 }
def cLimit (c : KCn) : Int :=
  if c.o.una = 0 then 1 else
    let n := match c.h with
      | none => 0
      | some (_, d) => if d.s < c.wnd then d.s else c.wnd
    c.o.una + (if c.probe then (if n < 1 then 1 else n) else n)
end Go.Proofs.Ytfpifahkpkjfgaa
