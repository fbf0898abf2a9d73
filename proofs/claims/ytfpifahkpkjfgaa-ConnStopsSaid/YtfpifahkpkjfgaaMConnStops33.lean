/- What ConnStops needs, a part: CnPa, CnPp, CnAb, CnMt, RowF. -/
import Derived.Deep.CutBlock
import Derived.Test.YtfpifahkpkjfgaaMConnStops32
namespace Go.Proofs.Ytfpifahkpkjfgaa
open Go.RowKit Go.Lib
set_option linter.unusedVariables false
set_option linter.unusedSimpArgs false
set_option maxRecDepth 100000
def cTake (la lp : Int) (g : KSeg) (iss mss : Int) : KCn := { cSyn (cNew la lp g.fa g.fp iss mss) g with st := 2 }
set_option maxRecDepth 100000 in
set_option maxHeartbeats 8000000 in
theorem Take_ok (la lp : Int) (g : KSeg) (iss mss : Int) (w : World) (hl : 1 ≤ lp ∧ lp ≤ 65535) (hm : 8 ≤ mss ∧ mss ≤ 1000) (hc : tcChk g = 0) (ht : g.ta = la ∧ g.tp = lp) (hsy : g.syn = true) (hha : g.has = false) (hg : SegOk g) :
  Calls Try.prog 50 #[.agg #[.int .u32 la, .int .i64 lp], .agg (cSeg g).toArray, .int .u32 iss, .int .i64 mss] w fun e w' => ∃ gc gi gw k, e = .returned (.tuple #[.pointer (some ⟨gc, 0, none⟩), .int .i64 0]) ∧ Mem w w' (cnL gc gi gw (cTake la lp g iss mss) k []) ∧ KOk k gi gw (cTake la lp g iss mss).h := by
 have hM := Mem.nil w
 have HA := Lib.hid (fun W => cnisPort_ok lp W hl.1 hl.2)
 have HB := Lib.hid (fun W => cnisMss_ok mss W hm.1 hm.2)
 have HC := Lib.hid (fun W => (by have h := tcCheck_any g W hg; rw [hc] at h; exact h : Calls Try.prog 47 #[.agg (cSeg g).toArray] W fun e w' => e = .returned (.int .i64 0) ∧ Below W.heap.size W w'))
 have HE := Lib.hid (fun W => (by have h := eqB_End g.ta g.tp la lp W; rw [decide_eq_true ht] at h; exact h : (Op.equalIn 10000 29 (.agg #[.int .u32 g.ta, .int .i64 g.tp]) (.agg #[.int .u32 la, .int .i64 lp])).run Try.prog W = .ok true W))
 have HFR := Lib.hid (fun W => fresh_any la lp g.fa g.fp iss mss W)
 have HSY := Lib.hid (fun (W : World) (gc : Nat) (k : KPt) (M : List Res) h => syn_any (E := noE) (w0 := w) gc (cNew la lp g.fa g.fp iss mss) k M W h g hm)
 have HF6 := Lib.hid (show (cSeg g)[6]? = some (.bool true) from by rw [← hsy]; rfl)
 have HF7 := Lib.hid (show (cSeg g)[7]? = some (.bool false) from by rw [← hha]; rfl)
 clear hl hm hc ht hsy hha hg
 go_enter Try.func50, Try.ntmps50
 go_upto_region 10 with (first | go_skip | ((with_reducible refine at_box_ ?_); first | (refine wpList_box_mem rfl _ _ rfl [.int .u32 la, .int .i64 lp] rfl hM ?_; clear hM; intro gb W hM; simp only [List.nil_append] at hM) | (refine wpList_box_mem rfl _ _ rfl (cSeg g) rfl hM ?_; clear hM; intro gs W hM; simp only [List.cons_append, List.nil_append] at hM)) | ((with_reducible refine at_load_ (T := 29) ?_); first | (refine wpList_loadg_mem (by go_simp) 29 _ rfl 0 _ _ [.int .u32 la, .int .i64 lp] hM rfl rfl _ Try.underlying29 rfl sz_End ?_) | (refine wpList_loads_mem (by go_simp) _ _ rfl 1 _ 2 _ _ [.int .u32 g.ta, .int .i64 g.tp] hM rfl rfl rfl _ Try.underlying29 rfl sz_End ?_) | (refine wpList_loads_mem (by go_simp) _ _ rfl 1 _ 0 _ _ [.int .u32 g.fa, .int .i64 g.fp] hM rfl rfl rfl _ Try.underlying29 rfl sz_End ?_)) | ((with_reducible refine at_load_ (T := 33) ?_); refine wpList_loadg_mem (by go_simp) 33 _ rfl 1 _ _ _ hM rfl rfl _ Try.underlying33 rfl sz_Seg ?_) | ((with_reducible refine at_load_ ?_); refine at_wanted_ (by rfl) ?_; refine lM 1 hM rfl rfl rfl (by first | exact HF6.out | exact HF7.out | rfl) ?_) | ((with_reducible refine at_load_ ?_); refine at_wanted_ (by rfl) ?_; refine lM 0 hM rfl rfl rfl (by first  | rfl) ?_) | (go_at_call 47; refine (HC.out _).mono ?_; rintro e W ⟨rfl, hb⟩; replace hM := hM.kept hb; clear hb; dsimp only) | (go_at_call 33; refine (HA.out _).mono ?_; rintro e W ⟨rfl, rfl⟩; dsimp only) | (go_at_call 34; refine (HB.out _).mono ?_; rintro e W ⟨rfl, rfl⟩; dsimp only) | ((with_reducible refine at_ne_ (T := 29) ?_); refine wpList_ne_mem (by go_simp) 29 _ _ _ rfl _ _ rfl rfl eg_End true HE.out ?_))
 go_upto_region 11 with (first | go_skip | ((with_reducible refine at_load_ (T := 29) ?_); first | (refine wpList_loadg_mem (by go_simp) 29 _ rfl 0 _ _ [.int .u32 la, .int .i64 lp] hM rfl rfl _ Try.underlying29 rfl sz_End ?_) | (refine wpList_loads_mem (by go_simp) _ _ rfl 1 _ 2 _ _ [.int .u32 g.ta, .int .i64 g.tp] hM rfl rfl rfl _ Try.underlying29 rfl sz_End ?_) | (refine wpList_loads_mem (by go_simp) _ _ rfl 1 _ 0 _ _ [.int .u32 g.fa, .int .i64 g.fp] hM rfl rfl rfl _ Try.underlying29 rfl sz_End ?_)) | (go_at_call 35; refine (HFR.out _).mono ?_; rintro e W ⟨gc, go, gt, rfl, hN⟩; replace hM := hM.new_ hN; clear hN; dsimp only))
 have hM2 : Mem w W (oqA (kNew go gt).go (cNew la lp g.fa g.fp iss mss).o (kNew go gt).vo :: oqB (cNew la lp g.fa g.fp iss mss).o (kNew go gt).vo :: cnA gc (cNew la lp g.fa g.fp iss mss) (kNew go gt) :: tmR (kNew go gt).gt (cNew la lp g.fa g.fp iss mss).tm :: rsR (kNew go gt).vr (cNew la lp g.fa g.fp iss mss).rs :: [atR gb 29 [.int .u32 la, .int .i64 lp], atR gs 33 (cSeg g)]) := hM
 clear hM
 have hM := hM2
 clear hM2
 obtain ⟨k0, hk0⟩ : ∃ z, z = kNew go gt := ⟨_, rfl⟩
 rw [← hk0] at hM
 clear hk0
 go_upto_region 12 with (first | go_skip | ((with_reducible refine at_load_ (T := 33) ?_); refine wpList_loadg_mem (by go_simp) 33 _ rfl 6 _ _ _ hM rfl rfl _ Try.underlying33 rfl sz_Seg ?_) | (go_at_call 73; refine (HSY.out _ gc k0 _ hM).mono ?_; clear hM; rintro e W ⟨gi, gw, rfl, hM⟩; dsimp only))
 obtain ⟨ca, hca⟩ : ∃ z, z = cSyn (cNew la lp g.fa g.fp iss mss) g := ⟨_, rfl⟩
 have HCA := Lib.hid (show cTake la lp g iss mss = { ca with st := 2 } from by rw [hca]; rfl)
 have HCH := Lib.hid (show ca.h = some (newIQ, ⟨cMss (cNew la lp g.fa g.fp iss mss).own g.mss, 2 * cMss (cNew la lp g.fa g.fp iss mss).own g.mss, 65535⟩) from by rw [hca]; rfl)
 have hM2 : Mem w W ([atR gb 29 [.int .u32 la, .int .i64 lp], atR gs 33 (cSeg g)] ++ (oqA k0.go ca.o k0.vo :: oqB ca.o k0.vo :: cnA gc ca { k0 with vi := .pointer (some ⟨gi, 0, none⟩), vw := .pointer (some ⟨gw, 0, none⟩) } :: tmR k0.gt ca.tm :: rsR k0.vr ca.rs :: iqR gi newIQ :: [wdR gw ⟨cMss (cNew la lp g.fa g.fp iss mss).own g.mss, 2 * cMss (cNew la lp g.fa g.fp iss mss).own g.mss, 65535⟩])) := by
  rw [hca]
  exact MemX.perm hM (List.perm_append_comm (l₁ := [_, _, _, _, _, _, _]) (l₂ := [_, _]))
 have hM3 := hM2.drop_
 clear hM hM2 hca HSY HFR HE
 have hM := hM3
 clear hM3
 go_wp2_with (first | go_skip | ((with_reducible refine at_store_ ?_); first | (refine sM 2 hM rfl rfl rfl ?_; clear hM; intro W hM; simp only [zF, zE, cnA, cn4, cn5, cn7, cn9, cn11, cn12, cn13, cn14, cn16, cn17, cn18, cn19, cn20, cn21, cn22, cn23, cn24, cn25, cn26, cn27, cn28] at hM)))
 go_ret2
 refine ⟨gc, gi, gw, { k0 with vo := k0.vo, vi := .pointer (some ⟨gi, 0, none⟩), vw := .pointer (some ⟨gw, 0, none⟩) }, rfl, ?_⟩
 rw [HCA.out]
 exact fi_some (c' := { ca with st := 2 }) HCH.out hM
structure KPa where
 air : List KSeg
 w0 : ByteArray
 w1 : ByteArray
 g0 : ByteArray
 g1 : ByteArray
 s0 : Bool
 s1 : Bool
 o0 : Bool
 o1 : Bool
 e0 : Int
 e1 : Int
 t0 : Bool
 t1 : Bool
 br : Bool
def prC (ga gb : Nat) (va : Value) (p : KPa) : List Value :=
 [.pointer (some ⟨ga, 0, none⟩), .pointer (some ⟨gb, 0, none⟩), .int .u32 1, .int .i64 40000, .int .u32 2, .int .i64 80, va, .string p.w0, .string p.w1, .string p.g0, .string p.g1, .bool p.s0, .bool p.s1, .bool p.o0, .bool p.o1, .int .u32 p.e0, .int .u32 p.e1, .bool p.t0, .bool p.t1, .bool p.br]
def prR (gp ga gb : Nat) (va : Value) (p : KPa) : Res := atR gp 51 (prC ga gb va p)
def arR (va : Value) (l : List KSeg) : Res := rowR 13 cSeg va l
section
variable (ga gb : Nat) (va : Value) (p : KPa) (x : Int) (b : Bool) (s : ByteArray) (v : Value)
theorem pr6 : (prC ga gb va p).set 6 v = prC ga gb v p := rfl
theorem pr7 : (prC ga gb va p).set 7 (.string s) = prC ga gb va { p with w0 := s } := rfl
theorem pr8 : (prC ga gb va p).set 8 (.string s) = prC ga gb va { p with w1 := s } := rfl
theorem pr9 : (prC ga gb va p).set 9 (.string s) = prC ga gb va { p with g0 := s } := rfl
theorem pr10 : (prC ga gb va p).set 10 (.string s) = prC ga gb va { p with g1 := s } := rfl
theorem pr11 : (prC ga gb va p).set 11 (.bool b) = prC ga gb va { p with s0 := b } := rfl
theorem pr12 : (prC ga gb va p).set 12 (.bool b) = prC ga gb va { p with s1 := b } := rfl
theorem pr13 : (prC ga gb va p).set 13 (.bool b) = prC ga gb va { p with o0 := b } := rfl
theorem pr14 : (prC ga gb va p).set 14 (.bool b) = prC ga gb va { p with o1 := b } := rfl
theorem pr15 : (prC ga gb va p).set 15 (.int .u32 x) = prC ga gb va { p with e0 := x } := rfl
theorem pr16 : (prC ga gb va p).set 16 (.int .u32 x) = prC ga gb va { p with e1 := x } := rfl
theorem pr17 : (prC ga gb va p).set 17 (.bool b) = prC ga gb va { p with t0 := b } := rfl
theorem pr18 : (prC ga gb va p).set 18 (.bool b) = prC ga gb va { p with t1 := b } := rfl
theorem pr19 : (prC ga gb va p).set 19 (.bool b) = prC ga gb va { p with br := b } := rfl
end
def lessB (a b : Int) : Bool := decide (dZ a b < 0)
def sdOk (i : Bool) (p : KPa) (g : KSeg) : Bool :=
 decide (g.fa = (if i then 1 else 2) ∧ g.fp = (if i then 40000 else 80)) && (decide (g.ta = (if i then 2 else 1) ∧ g.tp = (if i then 80 else 40000)) && decide (tcChk g = 0)) &&
  !((if i then p.t0 else p.t1) && (decide (0 < (g.b.size : Int)) && lessB (u32 ((if i then p.e0 else p.e1) + 1)) (u32 (g.seq + u32 g.b.size))))
def sdEdge (g : KSeg) : Int := u32 (g.ack + u32 g.win)
def sdTell (i : Bool) (p : KPa) (g : KSeg) : KPa :=
 if g.has = true ∧ g.rst = false ∧ ((if i then p.t1 else p.t0) = false ∨ lessB (if i then p.e1 else p.e0) (sdEdge g) = true) then
  (if i then { p with e1 := sdEdge g, t1 := true } else { p with e0 := sdEdge g, t0 := true })
 else p
def sdAir (p : KPa) (g : KSeg) : KPa := if p.air.length < 200 then { p with air := p.air ++ [g] } else p
def sdStep (i : Bool) (p : KPa) (g : KSeg) : KPa := sdAir (sdTell i p g) g
def sdList (i : Bool) : KPa → List KSeg → Option KPa
 | p, [] => some p
 | p, g :: l => if sdOk i p g = true then sdList i (sdStep i p g) l else none
structure KPr where
 a : KCn
 b : KCn
 p : KPa
def sends (x : KPr) : Option KPr :=
  match sdList true x.p (cOut x.a).2 with
  | none => none
  | some p1 => match sdList false p1 (cOut x.b).2 with
    | none => none
    | some p2 => some ⟨(cOut x.a).1, (cOut x.b).1, p2⟩
def come (x : KPr) (g : KSeg) : KPr :=
 if g.ta = 2 ∧ g.tp = 80 then { x with b := cIn x.b g } else { x with a := cIn x.a g }
def quiet : Nat → KPr → Nat → Option KPr
  | 0, _, _ => none
  | f + 1, x, k => match x.p.air with
    | [] => some x
    | g :: l => match sends (come { x with p := { x.p with air := l } } g) with
      | none => none
      | some y => if 9000 < k then none else quiet f y (k + 1)
def cnH (gc gi gw : Nat) (c : KCn) (k : KPt) : List Res := oqA k.go c.o k.vo :: oqB c.o k.vo :: cnA gc c k :: tmR k.gt c.tm :: rsR k.vr c.rs :: hL gi gw c.h
theorem cnL_eq (gc gi gw : Nat) (c : KCn) (k : KPt) (m : List Res) : cnL gc gi gw c k m = cnH gc gi gw c k ++ m := rfl
structure KPl where
 gp : Nat
 ga : Nat
 gia : Nat
 gwa : Nat
 ka : KPt
 gb : Nat
 gib : Nat
 gwb : Nat
 kb : KPt
 va : Value
def prM (l : KPl) (x : KPr) (m : List Res) : List Res :=
 prR l.gp l.ga l.gb l.va x.p :: arR l.va x.p.air :: (cnH l.ga l.gia l.gwa x.a l.ka ++ (cnH l.gb l.gib l.gwb x.b l.kb ++ m))
section
variable {E : Nat → Prop} {w W : World}
end
theorem u32_bd (x : Int) : 0 ≤ u32 x ∧ u32 x ≤ 4294967295 := by unfold u32; omega
theorem u32_id {x : Int} (h : 0 ≤ x) (h' : x ≤ 4294967295) : u32 x = x := by unfold u32; omega
theorem u32_add (a b : Int) : u32 (a + u32 b) = u32 (a + b) := by unfold u32; omega
theorem u32_add' (a b : Int) : u32 (u32 a + b) = u32 (a + b) := by unfold u32; omega
theorem u32_sub (a b : Int) : u32 (u32 (a + b) - a) = u32 b := by unfold u32; omega
theorem near_is {p x : Int} (h1 : -1073741824 ≤ p - x) (h2 : p - x ≤ 1073741824) : nearZ (u32 p) x = p := by
 unfold nearZ dZ u32; omega
theorem inB_is {b p f m : Int} (h1 : -1073741824 ≤ p - f) (h2 : p - f ≤ 1073741824) (hm : m ≤ 1073741824) : inB (u32 (b + p)) (u32 (b + f)) m = decide (f ≤ p ∧ p < f + m) := by
 unfold inB u32
 exact decide_eq_decide.2 (by constructor <;> (intro h; omega))
def accP (p len f win : Int) : Prop :=
 if len < 1 then (if win < 1 then p = f else f ≤ p ∧ p < f + win) else 1 ≤ win ∧ ((f ≤ p ∧ p < f + win) ∨ (f ≤ p + len - 1 ∧ p + len - 1 < f + win))
instance (p len f win : Int) : Decidable (accP p len f win) := by unfold accP; infer_instance
theorem acc_is {b p len f win : Int} (h1 : -1073741824 ≤ p - f) (h2 : p + len - f ≤ 1073741824) (hl : 0 ≤ len) (hm : win ≤ 1073741824) :
  accB (u32 (b + p)) len (u32 (b + f)) win = decide (accP p len f win) := by
 unfold accP
 by_cases hz : len < 1
 ·by_cases hw : win < 1
  ·rw [accB_a hz hw]
   simp only [if_pos hz, if_pos hw]
   by_cases e : p = f
   ·rw [decide_eq_true e, e]; simp
   ·rw [decide_eq_false e]
    have : u32 (b + p) ≠ u32 (b + f) := by unfold u32; omega
    simpa using this
  ·rw [accB_b hz (by omega), inB_is h1 (by omega) hm]
   simp only [if_pos hz, if_neg hw]
 ·by_cases hw : win < 1
  ·rw [accB_c (by omega) hw]
   simp only [if_neg hz]
   exact (decide_eq_false (fun h => absurd h.1 (by omega))).symm
  ·rw [accB_d (by omega) (by omega), inB_is h1 (by omega) hm]
   have e : (u32 (b + p) + len - 1) % 4294967296 = u32 (b + (p + len - 1)) := by unfold u32; omega
   rw [e, inB_is (by omega) (by omega) hm]
   simp only [if_neg hz]
   rw [← Bool.decide_or]
   exact decide_eq_decide.2 ⟨fun h => ⟨by omega, h⟩, fun h => h.2⟩
theorem less_is {b p f : Int} (h1 : -1073741824 ≤ p - f) (h2 : p - f ≤ 1073741824) : decide (dZ (u32 (b + p)) (u32 (b + f)) < 0) = decide (p < f) := by
 unfold dZ u32
 exact decide_eq_decide.2 (by constructor <;> (intro h; omega))
section
variable {c : KCn} {g : KSeg} {p a : Int}
theorem at_is (hs : g.seq = u32 (c.irs + p)) (h1 : -1073741824 ≤ p - (cQ c).nx) (h2 : p - (cQ c).nx ≤ 1073741824) : cAt c g = p := by
 unfold cAt
 rw [hs, u32_sub, near_is h1 h2]
theorem ackAt_is (hs : g.ack = u32 (c.iss + a)) (h1 : -1073741824 ≤ a - c.o.una) (h2 : a - c.o.una ≤ 1073741824) : cAckAt c g = a := by
 unfold cAckAt
 rw [hs, u32_sub, near_is h1 h2]
theorem want_is (c : KCn) : cWant c = u32 (c.irs + (cQ c).nx) := u32_add _ _
end
theorem acks2_of {c c1 c2 : KCn} {g : KSeg} {at_ ack : Int} (h : ¬ c.o.sent < ack)
  (h1 : c1 = if c.o.una < ack then cAckd c ack else if ack = c.o.una ∧ sgLen g = 0 ∧ c.o.una < c.o.cur ∧ g.win = c.wnd then cSame c g else c)
  (h2 : c2 = if c.o.una < ack ∨ (ack = c.o.una ∧ (c.wat < at_ ∨ (at_ = c.wat ∧ c.wak ≤ ack))) then { c1 with wnd := g.win, wat := at_, wak := ack } else c1) :
  cAcks2 c g at_ ack = if c2.shut = true ∧ c2.o.una = qEnd c2.o then
   (if c2.st = 4 then ({ c2 with st := 5 }, true) else if c2.st = 7 then (cWait c2, true) else if c2.st = 8 then (cClosed c2 0, false) else (c2, true))
  else (c2, true) := by
 subst h1 h2; unfold cAcks2; rw [if_neg h]
theorem out_none {c : KCn} (h0 : c.st ≠ 0) (hr : c.rs = []) (ha : c.again = false) (hi : cIsP c (cLimit c) = false) :
  cOut c = (cSettle { c with owed := false, again := false, probe := false }, if c.owed = true then [cBare c c.o.sent] else []) := by
 have e0 : ({ c with rs := [] } : KCn) = c := by
  obtain ⟨⟩ := c
  simp only at hr
  subst hr
  rfl
 have e1 : cFirstL c ([].map (cRst c)) = [] := by
  unfold cFirstL
  rw [if_neg (by rw [ha]; exact fun h => by cases h.1)]
  rfl
 have e2 : cOut c = cTail (c, []) 0 := by
  unfold cOut
  conv => lhs; dsimp only
  rw [if_neg h0, e0, hr, e1, cLoop_stop _ hi]
  rfl
 rw [e2]
 unfold cTail
 dsimp only
 cases ho : c.owed with
 | true => rfl
 | false => rfl
theorem out_one {c : KCn} (h0 : c.st ≠ 0) (hr : c.rs = []) (ha : c.again = false) (hi : cIsP c (cLimit c) = true) (hj : cIsP (cStep c (cLimit c)) (cLimit c) = false) :
  cOut c = (cSettle { cStep c (cLimit c) with owed := false, again := false, probe := false }, [cSegm c (cPc c (cLimit c))]) := by
 have e0 : ({ c with rs := [] } : KCn) = c := by
  obtain ⟨⟩ := c
  simp only at hr
  subst hr
  rfl
 have e1 : cFirstL c ([].map (cRst c)) = [] := by
  unfold cFirstL
  rw [if_neg (by rw [ha]; exact fun h => by cases h.1)]
  rfl
 have e2 : cOut c = cTail (cStep c (cLimit c), [cSegm c (cPc c (cLimit c))]) 0 := by
  unfold cOut
  conv => lhs; dsimp only
  rw [if_neg h0, e0, hr, e1, cLoop_go 2099 hi, cLoop_stop _ hj]
  rfl
 rw [e2]
 unfold cTail
 dsimp only
 have e3 : ¬ ((cStep c (cLimit c)).owed = true ∧ [cSegm c (cPc c (cLimit c))].length = 0) := fun h => by cases h.2
 rw [if_neg e3]
 refine Prod.ext ?_ rfl
 show cSettle { cStep c (cLimit c) with owed := (cStep c (cLimit c)).owed && false, again := false, probe := false } = _
 rw [Bool.and_false]
theorem put_none {q : IQ} (ok : IqOk q) (hs : Stop q) (at_ : Int) (ha : at_ ≤ q.nx) : putQ q at_ ⟨#[]⟩ false = q := by
 by_cases hi : idle q at_
 ·exact putQ_idle _ _ hi
 ·obtain ⟨h1, h2, h3⟩ := put_still ok (idle_open hi) hs at_ ⟨#[]⟩ false (.inr (by show at_ + ((0 : Nat) : Int) ≤ q.nx; omega)) (.inl rfl)
  have ho := idle_open hi
  have hit : ∀ k, hitB q at_ 0 k = false := fun k => by
   unfold hitB
   exact decide_eq_false (fun h => by omega)
  have hp : hPut q at_ 0 = q.h := funext fun k => by unfold hPut; rw [hit]; exact Bool.or_false _
  have hr : rPut q at_ ⟨#[]⟩ = q.r := funext fun k => by
   unfold rPut
   rw [show hitB q at_ ((⟨#[]⟩ : ByteArray).size : Int) k = false from hit k, Bool.and_false]
   rfl
  by_cases hf : nxPut q at_ ((⟨#[]⟩ : ByteArray).size : Int) = finPut q at_ ((⟨#[]⟩ : ByteArray).size : Int) false
  ·have := putQ_over ⟨#[]⟩ false hi hf
   rw [this] at h2
   cases h2
  ·have e := putQ_open ⟨#[]⟩ false hi hf
   rw [e] at h1 h3 ⊢
   have h1' : nxPut q at_ ((⟨#[]⟩ : ByteArray).size : Int) = q.nx := h1
   have h3' : finPut q at_ ((⟨#[]⟩ : ByteArray).size : Int) false = q.fin := h3
   rw [h1', h3', hr]
   have ha2 : hAfter q at_ ((⟨#[]⟩ : ByteArray).size : Int) q.nx = q.h := funext fun k => by
    unfold hAfter
    rw [show hPut q at_ ((⟨#[]⟩ : ByteArray).size : Int) k = q.h k from congrFun hp k, decide_eq_true (plc_lo q.nx k), Bool.and_true]
   rw [ha2, ← ho]
def gSyn (la lp ra rp iss mss : Int) : KSeg := ⟨la, lp, ra, rp, iss, 0, true, false, false, false, 2048, mss, ⟨#[]⟩⟩
def cA1 (la lp ra rp iss mss : Int) : KCn := ⟨la, lp, ra, rp, 1, 0, ⟨[], 1, 0, 1, 1, false⟩, iss, 0, mss, mss, 0, 0, 0, ⟨false, 0, 0, 0⟩, 0, 0, 0, 0, 0, false, false, false, false, 1, 0, [], none⟩
theorem out_dial {la lp ra rp iss mss : Int} (hi : 0 ≤ iss ∧ iss ≤ 4294967295) (hm : 8 ≤ mss) :
  cOut { cNew la lp ra rp iss mss with st := 1 } = (cA1 la lp ra rp iss mss, [gSyn la lp ra rp iss mss]) := by
 have hd : decide ((1 : Int) ≤ mss) = true := decide_eq_true (by omega)
 have h1 : cIsP { cNew la lp ra rp iss mss with st := 1 } 1 = true := by
  show (decide ((0 : Int) < 1) && decide (1 ≤ mss)) = true
  rw [hd]; rfl
 have hp : cPc { cNew la lp ra rp iss mss with st := 1 } 1 = ⟨0, true, false, ⟨#[]⟩⟩ := by
  unfold cIsP at h1
  unfold cPc qPiece
  rw [if_pos h1]; rfl
 have hs : cStep { cNew la lp ra rp iss mss with st := 1 } 1 = { cNew la lp ra rp iss mss with st := 1, o := ⟨[], 1, 0, 1, 1, false⟩, meas := 1 } := by
  have hn : oNext newOQ 1 mss = ⟨[], 1, 0, 1, 1, false⟩ := by
   unfold cPc at hp
   unfold oNext
   rw [show qPiece newOQ newOQ.cur 1 mss = ⟨0, true, false, ⟨#[]⟩⟩ from hp]; rfl
  unfold cStep
  rw [hp]
  exact (if_pos ⟨rfl, rfl⟩).trans (by rw [show oNext ({ cNew la lp ra rp iss mss with st := 1 } : KCn).o 1 ({ cNew la lp ra rp iss mss with st := 1 } : KCn).mss = ⟨[], 1, 0, 1, 1, false⟩ from hn]; rfl)
 have hl : cLimit { cNew la lp ra rp iss mss with st := 1 } = 1 := rfl
 rw [out_one (show (1 : Int) ≠ 0 by decide) rfl rfl (by rw [hl]; exact h1) (by rw [hl, hs]; show (decide ((1 : Int) < 1) && decide (1 ≤ mss)) = false; rfl)]
 rw [hl, hs, hp]
 have e : u32 (iss + u32 0) = iss := by unfold u32; omega
 have e2 : cSettle { ({ cNew la lp ra rp iss mss with st := 1, o := ⟨[], 1, 0, 1, 1, false⟩, meas := 1 } : KCn) with owed := false, again := false, probe := false } = cA1 la lp ra rp iss mss := by
  unfold cSettle
  rw [if_neg (by
   rintro (h | h | h)
   ·exact absurd (show (1 : Int) = 0 from h) (by decide)
   ·exact absurd (show (1 : Int) = 9 from h) (by decide)
   ·exact h (.inl (show (0 : Int) < 1 by decide)))]
  exact if_pos (show (-1 : Int) < 0 by decide)
 refine Prod.ext e2 ?_
 show [({ (⟨la, lp, ra, rp, u32 (iss + u32 0), 0, false, false, false, false, 2048, 0, ⟨#[]⟩⟩ : KSeg) with syn := true, fin := false, b := ⟨#[]⟩, mss := mss } : KSeg)] = _
 rw [e]; rfl
def cB1 (la lp ra rp iss irs own m : Int) : KCn := ⟨la, lp, ra, rp, 2, 0, ⟨[], 1, 0, 1, 1, false⟩, iss, irs, own, m, 2048, 0, 0, ⟨false, 0, 0, 0⟩, 0, 0, 0, 0, 0, false, false, false, false, 1, 0, [], some (newIQ, ⟨m, 2 * m, 65535⟩)⟩
def cE (la lp ra rp iss irs own m wat wak now : Int) (owed : Bool) : KCn := ⟨la, lp, ra, rp, 3, 0, ⟨[], 1, 1, 1, 1, false⟩, iss, irs, own, m, 2048, wat, wak, ⟨true, 0, 0, 0⟩, now, -1, 0, 0, 0, owed, false, false, false, 0, 0, [], some (newIQ, ⟨m, 2 * m + 1, 65535⟩)⟩
def gSA (la lp ra rp iss irs mss : Int) : KSeg := ⟨la, lp, ra, rp, iss, u32 (irs + 1), true, true, false, false, 2048, mss, ⟨#[]⟩⟩
def gAk (la lp ra rp iss irs : Int) : KSeg := ⟨la, lp, ra, rp, u32 (iss + 1), u32 (irs + 1), false, true, false, false, 2048, 0, ⟨#[]⟩⟩
def okP (n : Int) : Prop := 0 < n ∧ n ≤ 65535
theorem port_ok {n : Int} (h : okP n) : portT n = true := decide_eq_true h
theorem chk_of {g : KSeg} (hf : okP g.fp) (ht : okP g.tp) (hw : 0 ≤ g.win ∧ g.win ≤ 65535) (hm : 0 ≤ g.mss ∧ g.mss ≤ 65535) (h1 : g.mss = 0 ∨ g.syn = true) (h2 : g.syn = true → g.fin = false ∧ g.rst = false) (h3 : g.fin = true → g.rst = false) (h4 : g.ack = 0 ∨ g.has = true) (hb : g.b.size ≤ 1000) : tcChk g = 0 := by
 have ea : tcArg g = false := by
  unfold tcArg
  rw [port_ok hf, port_ok ht, decide_eq_false (show ¬ g.win < 0 by omega), decide_eq_false (show ¬ 65535 < g.win by omega), decide_eq_false (show ¬ g.mss < 0 by omega), decide_eq_false (show ¬ 65535 < g.mss by omega)]
  rfl
 have ef : tcForm g = false := by
  unfold tcForm
  have e1 : (decide (g.mss ≠ 0) && !g.syn) = false := by
   rcases h1 with h | h
   ·rw [decide_eq_false (fun h' => h' h)]; rfl
   ·rw [h, Bool.not_true, Bool.and_false]
  have e2 : (g.syn && (g.fin || g.rst)) = false := by
   cases hs : g.syn with
   | false => rfl
   | true => rw [(h2 hs).1, (h2 hs).2]; rfl
  have e3 : (g.fin && g.rst) = false := by
   cases hs : g.fin with
   | false => rfl
   | true => rw [h3 hs]; rfl
  have e4 : (decide (g.ack ≠ 0) && !g.has) = false := by
   rcases h4 with h | h
   ·rw [decide_eq_false (fun h' => h' h)]; rfl
   ·rw [h, Bool.not_true, Bool.and_false]
  rw [e1, e2, e3, e4]
  rfl
 unfold tcChk
 rw [ea, ef, if_neg (by decide), if_neg (by decide), if_neg (by omega)]
theorem chk_syn {la lp ra rp iss mss : Int} (hl : okP lp) (hr : okP rp) (hm : 8 ≤ mss ∧ mss ≤ 1000) : tcChk (gSyn la lp ra rp iss mss) = 0 :=
 chk_of hl hr (by decide : (0 : Int) ≤ 2048 ∧ (2048 : Int) ≤ 65535) (show 0 ≤ mss ∧ mss ≤ 65535 by omega) (.inr rfl) (fun _ => ⟨rfl, rfl⟩) (fun h => rfl) (.inl rfl) (Nat.zero_le _)
theorem chk_sa {la lp ra rp iss irs mss : Int} (hl : okP lp) (hr : okP rp) (hm : 8 ≤ mss ∧ mss ≤ 1000) : tcChk (gSA la lp ra rp iss irs mss) = 0 :=
 chk_of hl hr (by decide : (0 : Int) ≤ 2048 ∧ (2048 : Int) ≤ 65535) (show 0 ≤ mss ∧ mss ≤ 65535 by omega) (.inr rfl) (fun _ => ⟨rfl, rfl⟩) (fun h => rfl) (.inr rfl) (Nat.zero_le _)
theorem chk_ak {la lp ra rp iss irs : Int} (hl : okP lp) (hr : okP rp) : tcChk (gAk la lp ra rp iss irs) = 0 :=
 chk_of hl hr (by decide : (0 : Int) ≤ 2048 ∧ (2048 : Int) ≤ 65535) (by decide : (0 : Int) ≤ 0 ∧ (0 : Int) ≤ 65535) (.inl rfl) (fun h => by cases h) (fun h => rfl) (.inr rfl) (Nat.zero_le _)
theorem cMss_in {own m : Int} (h : 8 ≤ own ∧ own ≤ 1000) : 8 ≤ cMss own m ∧ cMss own m ≤ 1000 := by
 unfold cMss maxZ minZ; (repeat' split) <;> omega
theorem nowait {c : KCn} (h : c.o.cur ≤ c.o.una) (h2 : c.wnd ≠ 0) : ¬ cWaits c := by
 rintro (h' | h')
 ·omega
 ·exact h2 h'.1
theorem settle_off {c : KCn} (h : c.st = 0 ∨ c.st = 9 ∨ ¬ cWaits c) : cSettle c = { c with clock := -1 } := if_pos h
theorem settle_on {c : KCn} (h0 : c.st ≠ 0) (h9 : c.st ≠ 9) (hw : cWaits c) (hc : c.clock < 0) : cSettle c = { c with clock := c.now } := by
 unfold cSettle
 rw [if_neg (by
  rintro (h | h | h)
  ·exact h0 h
  ·exact h9 h
  ·exact h hw), if_pos hc]
section
variable {la lp ra rp iss irs own m : Int}
theorem out_b (hi : 0 ≤ iss ∧ iss ≤ 4294967295) (hm : 8 ≤ m) :
  cOut { cB1 la lp ra rp iss irs own m with o := newOQ, clock := -1, meas := 0 } = (cB1 la lp ra rp iss irs own m, [gSA la lp ra rp iss irs own]) := by
 have hd : decide ((1 : Int) ≤ m) = true := decide_eq_true (by omega)
 obtain ⟨c, hc⟩ : ∃ z : KCn, z = { cB1 la lp ra rp iss irs own m with o := newOQ, clock := -1, meas := 0 } := ⟨_, rfl⟩
 have co : c.o = newOQ := by rw [hc]
 have cm : c.mss = m := by rw [hc]; rfl
 have h1 : cIsP c 1 = true := by
  unfold cIsP
  rw [co, cm]
  show (decide ((0 : Int) < 1) && decide (1 ≤ m)) = true
  rw [hd]; rfl
 have hq : qPiece newOQ newOQ.cur 1 m = ⟨0, true, false, ⟨#[]⟩⟩ := by
  unfold cIsP at h1
  rw [co, cm] at h1
  unfold qPiece
  rw [if_pos h1]; rfl
 have hp : cPc c 1 = ⟨0, true, false, ⟨#[]⟩⟩ := by
  unfold cPc
  rw [co, cm]; exact hq
 have hn : oNext newOQ 1 m = ⟨[], 1, 0, 1, 1, false⟩ := by
  unfold oNext
  rw [hq]; rfl
 have hs : cStep c 1 = { cB1 la lp ra rp iss irs own m with clock := -1 } := by
  unfold cStep
  rw [hp, co, cm, hn, hc]
  rfl
 have hl : cLimit c = 1 := by unfold cLimit; rw [co]; rfl
 rw [← hc, out_one (by rw [hc]; exact (show (2 : Int) ≠ 0 by decide)) (by rw [hc]; rfl) (by rw [hc]; rfl) (by rw [hl]; exact h1) (by rw [hl, hs]; show (decide ((1 : Int) < 1) && decide (1 ≤ m)) = false; rfl)]
 rw [hl, hs, hp]
 refine Prod.ext ?_ ?_
 ·exact settle_on (c := { cB1 la lp ra rp iss irs own m with clock := -1, owed := false, again := false, probe := false }) (show (2 : Int) ≠ 0 by decide) (show (2 : Int) ≠ 9 by decide) (.inl (show (0 : Int) < 1 by decide)) (show (-1 : Int) < 0 by decide)
 ·have e : u32 (iss + u32 0) = iss := by unfold u32; omega
  have e2 : u32 (irs + u32 1) = u32 (irs + 1) := u32_add _ _
  rw [hc]
  show [({ (⟨la, lp, ra, rp, u32 (iss + u32 0), u32 (irs + u32 1), false, true, false, false, 2048 - (1 - 1), 0, ⟨#[]⟩⟩ : KSeg) with syn := true, fin := false, b := ⟨#[]⟩, mss := own } : KSeg)] = _
  rw [e, e2]; rfl
theorem in_sa {mo : Int} (hl : okP lp) (hr : okP rp) (ho : 8 ≤ own ∧ own ≤ 1000) (hm : 8 ≤ mo ∧ mo ≤ 1000) :
  cIn (cA1 la lp ra rp iss own) (gSA ra rp la lp irs iss mo) = cE la lp ra rp iss irs own (cMss own mo) 0 0 0 true := by
 have hmb := cMss_in (m := mo) ho
 have he : cInE (cA1 la lp ra rp iss own) (gSA ra rp la lp irs iss mo) = 0 := by
  unfold cInE
  rw [if_neg (by rw [chk_sa hr hl hm]; exact fun h => h rfl), if_neg (fun h => h ⟨rfl, rfl, rfl, rfl⟩), if_neg (show ¬ (cA1 la lp ra rp iss own).st = 0 from (show ¬ (1 : Int) = 0 by decide))]
 unfold cIn
 rw [if_neg (by rw [he]; exact fun h => h rfl), if_pos (show (cA1 la lp ra rp iss own).st = 1 from rfl)]
 unfold cFirst
 rw [if_neg (by
  rintro ⟨_, h | h⟩
  ·exact h rfl
  ·exact absurd (show (1 : Int) = 0 from h) (by decide)),
  if_neg (show ¬ (gSA ra rp la lp irs iss mo).rst = true from fun h => by cases h), if_pos (show (gSA ra rp la lp irs iss mo).syn = true from rfl), if_pos (show (gSA ra rp la lp irs iss mo).has = true from rfl)]
 have hA : cAckd (cSyn (cA1 la lp ra rp iss own) (gSA ra rp la lp irs iss mo)) 1 = { cE la lp ra rp iss irs own (cMss own mo) 0 0 0 true with st := 1, owed := false } := by
  have hw : cAckW ⟨cMss own mo, 2 * cMss own mo, 65535⟩ 1 = ⟨cMss own mo, 2 * cMss own mo + 1, 65535⟩ := by
   unfold cAckW ackZ minZ
   dsimp only
   rw [if_neg (by decide), if_pos (show 2 * cMss own mo < 65535 by omega), if_pos (show 1 < cMss own mo by omega), if_pos (by omega)]
  show ({ cSyn (cA1 la lp ra rp iss own) (gSA ra rp la lp irs iss mo) with o := _, tm := _, meas := _, h := some (newIQ, cAckW ⟨cMss own mo, 2 * cMss own mo, 65535⟩ 1), gone := 0, same := 0, clock := -1 } : KCn) = _
  rw [hw]
  rfl
 rw [hA]
 exact settle_off (c := { ({ cE la lp ra rp iss irs own (cMss own mo) 0 0 0 true with st := 1, owed := false } : KCn) with st := 3, owed := true }) (.inr (.inr (nowait (show (1 : Int) ≤ 1 by decide) (show (2048 : Int) ≠ 0 by decide))))
theorem lim_e {wat wak now : Int} {owed : Bool} (hm : 8 ≤ m ∧ m ≤ 1000) : cIsP (cE la lp ra rp iss irs own m wat wak now owed) (cLimit (cE la lp ra rp iss irs own m wat wak now owed)) = false := by
 have hl : cLimit (cE la lp ra rp iss irs own m wat wak now owed) = 1 + (if 2 * m + 1 < 2048 then 2 * m + 1 else 2048) := rfl
 rw [hl]
 have h2 : ¬ (1 + (if 2 * m + 1 < 2048 then 2 * m + 1 else 2048) < 1) := by split <;> omega
 unfold cIsP oIs oLim
 have h3 : qEnd (cE la lp ra rp iss irs own m wat wak now owed).o = 1 := rfl
 rw [h3, if_neg h2]
 rfl
theorem out_e {wat wak now : Int} {owed : Bool} (hm : 8 ≤ m ∧ m ≤ 1000) :
  cOut (cE la lp ra rp iss irs own m wat wak now owed) = (cE la lp ra rp iss irs own m wat wak now false, if owed = true then [gAk la lp ra rp iss irs] else []) := by
 rw [out_none (show (3 : Int) ≠ 0 by decide) rfl rfl (lim_e hm)]
 refine Prod.ext ?_ ?_
 ·exact settle_off (c := { cE la lp ra rp iss irs own m wat wak now owed with owed := false, again := false, probe := false }) (.inr (.inr (nowait (show (1 : Int) ≤ 1 by decide) (show (2048 : Int) ≠ 0 by decide))))
 ·show (if owed = true then [(⟨la, lp, ra, rp, u32 (iss + u32 1), u32 (irs + u32 1), false, true, false, false, 2048 - (1 - 1), 0, ⟨#[]⟩⟩ : KSeg)] else []) = _
  rw [u32_add, u32_add]
  rfl
theorem stop_new : Stop newIQ := .inr ⟨.inr rfl, by decide⟩
theorem in_ak (hl : okP lp) (hr : okP rp) (hm : 8 ≤ m ∧ m ≤ 1000) :
  cIn (cB1 la lp ra rp iss irs own m) (gAk ra rp la lp irs iss) = cE la lp ra rp iss irs own m 1 1 0 false := by
 obtain ⟨g, hg⟩ : ∃ z, z = gAk ra rp la lp irs iss := ⟨_, rfl⟩
 obtain ⟨c, hc⟩ : ∃ z, z = cB1 la lp ra rp iss irs own m := ⟨_, rfl⟩
 have he : cInE c g = 0 := by
  rw [hc, hg]
  unfold cInE
  rw [if_neg (by rw [chk_ak hr hl]; exact fun h => h rfl), if_neg (fun h => h ⟨rfl, rfl, rfl, rfl⟩), if_neg (show ¬ (cB1 la lp ra rp iss irs own m).st = 0 from (show ¬ (2 : Int) = 0 by decide))]
 have hq : (cQ c).nx = 1 := by rw [hc]; rfl
 have hs : g.seq = u32 (c.irs + 1) := by rw [hc, hg]; rfl
 have hk : g.ack = u32 (c.iss + 1) := by rw [hc, hg]; rfl
 have hu : c.o.una = 0 := by rw [hc]; rfl
 have hat : cAt c g = 1 := at_is hs (by omega) (by omega)
 have hak : cAckAt c g = 1 := ackAt_is hk (by omega) (by omega)
 have hac : accB g.seq (sgLen g) (cWant c) (cRoomI c) = true := by
  rw [hs, want_is, hq, show sgLen g = 0 by rw [hg]; rfl, show cRoomI c = 2048 by rw [hc]; rfl, acc_is (by decide) (by decide) (by decide) (by decide)]
  rfl
 rw [← hc, ← hg]
 unfold cIn
 rw [if_neg (by rw [he]; exact fun h => h rfl), if_neg (show ¬ c.st = 1 by rw [hc]; exact (show ¬ (2 : Int) = 1 by decide))]
 have hn : cNext c g = { cE la lp ra rp iss irs own m 1 1 0 false with clock := -1 } := by
  unfold cNext
  rw [if_neg (by rw [hac]; exact fun h => by cases h), if_neg (by rw [hg]; exact fun h => by cases h.1), if_neg (by rw [hg]; rintro (h | h) <;> cases h), if_pos (by rw [hg]; rfl), hat]
  have hA : cAckd { c with st := 3 } 1 = { cE la lp ra rp iss irs own m 0 0 0 false with clock := -1 } := by
   have hw : cAckW ⟨m, 2 * m, 65535⟩ 1 = ⟨m, 2 * m + 1, 65535⟩ := by
    unfold cAckW ackZ minZ
    dsimp only
    rw [if_neg (by decide), if_pos (show 2 * m < 65535 by omega), if_pos (show 1 < m by omega), if_pos (by omega)]
   rw [hc]
   show ({ cB1 la lp ra rp iss irs own m with st := 3, o := _, tm := _, meas := _, h := some (newIQ, cAckW ⟨m, 2 * m, 65535⟩ 1), gone := 0, same := 0, clock := -1 } : KCn) = _
   rw [hw]
   rfl
  have hB : cAcks c g 1 = ({ cE la lp ra rp iss irs own m 1 1 0 false with clock := -1 }, true) := by
   unfold cAcks
   rw [hak, if_pos (show c.st = 2 by rw [hc]; rfl), if_neg (by rw [hc]; exact (show ¬ ((1 : Int) < 1 ∨ (1 : Int) < 1) by decide))]
   rw [show ({ c with st := if c.shut = true then 4 else 3 } : KCn) = { c with st := 3 } by rw [hc]; rfl]
   have hB2 := acks2_of (c := { c with st := 3 }) (g := g) (at_ := 1) (ack := 1) (c1 := { cE la lp ra rp iss irs own m 0 0 0 false with clock := -1 }) (c2 := { cE la lp ra rp iss irs own m 1 1 0 false with clock := -1 })
    (by rw [hc]; exact (show ¬ ((1 : Int) < 1) by decide))
    (by rw [hA]; exact (if_pos (show ({ c with st := 3 } : KCn).o.una < 1 by show c.o.una < 1; omega)).symm)
    (by rw [show g.win = 2048 by rw [hg]; rfl]; exact (if_pos (.inl (show c.o.una < 1 by omega))).symm)
   rw [hB2, if_neg (fun h => by cases h.1)]
  rw [hB]
  rw [if_pos rfl]
  have hP : putQ newIQ 1 ⟨#[]⟩ false = newIQ := put_none seen_new.ok stop_new 1 (by decide)
  have hT : cTakes1 { cE la lp ra rp iss irs own m 1 1 0 false with clock := -1 } g 1 = { cE la lp ra rp iss irs own m 1 1 0 false with clock := -1 } := by
   unfold cTakes1
   rw [if_pos (.inl rfl)]
   have e : ({ cE la lp ra rp iss irs own m 1 1 0 false with clock := -1 } : KCn).h.map (fun x => (putQ x.1 1 g.b g.fin, x.2)) = some (newIQ, ⟨m, 2 * m + 1, 65535⟩) := by
    rw [hg]
    show some (putQ newIQ 1 ⟨#[]⟩ false, _) = _
    rw [hP]
   rw [e]
   rfl
  unfold cTakes
  rw [hT, hg]
  rfl
 rw [hn]
 exact settle_off (.inr (.inr (nowait (show (1 : Int) ≤ 1 by decide) (show (2048 : Int) ≠ 0 by decide))))
end
end Go.Proofs.Ytfpifahkpkjfgaa
namespace Go.Proofs.Ytfpifahkpkjfgaa
open Go.RowKit
set_option linter.unusedVariables false
set_option linter.unusedSectionVars false
theorem flat_get {α : Type} {f : α → List Value} {size : Nat} : ∀ (rs : List α) (i j : Nat) (r : α) (v : Value), (∀ r ∈ rs, (f r).length = size) → rs[i]? = some r → (f r)[j]? = some v → (rs.flatMap f)[i * size + j]? = some v
  | [], i, j, r, v, _, h, _ => by cases h
  | q :: rs, 0, j, r, v, hf, h, hv => by
    have e : q = r := by simpa using h
    subst e
    rw [List.flatMap_cons, Nat.zero_mul, Nat.zero_add, List.getElem?_append_left (by have := (List.getElem?_eq_some_iff.1 hv).1; exact this)]
    exact hv
  | q :: rs, i + 1, j, r, v, hf, h, hv => by
    have hq := hf q List.mem_cons_self
    rw [List.flatMap_cons, List.getElem?_append_right (by rw [hq, Nat.succ_mul]; omega), hq, show (i + 1) * size + j - size = i * size + j by rw [Nat.succ_mul]; omega]
    exact flat_get rs i j r v (fun r hr => hf r (List.mem_cons_of_mem _ hr)) (by simpa using h) hv
section
variable {E : Nat → Prop} {P : Program} {ops : Array Oper} {rest : List Oper} {op : Oper} {a : Act} {w0 w : World} {Q : Exit → Act → World → Prop} {l : List Res}
theorem row_cell {α : Type} {f : α → List Value} {size g off n cap : Nat} {rs : List α} (k i j : Nat) (r : α) (v : Value) (hM : MemX E w0 w l) (hk : l[k]? = some (rowR size f (.slice (some ⟨g, off, none⟩) n cap) rs))
  (hf : ∀ r ∈ rs, (f r).length = size) (hr : rs[i]? = some r) (hv : (f r)[j]? = some v) : w.cell? ⟨g, off + i * size + j, none⟩ = some v := by
 have hW : Win w 0 size (.slice (some ⟨g, off, none⟩) n cap) rs.length (rs.flatMap f) := hM.row k hk
 have hi := (List.getElem?_eq_some_iff.1 hr).1
 obtain ⟨g', off', cap', e, hA⟩ := hW.pos (by omega)
 injection e with e1 _ e3
 injection e1 with e1
 injection e1 with e4 e5 _
 subst e4; subst e5; subst e3
 have h := hA.here (i * size + j) v (flat_get rs i j r v hf hr hv)
 rw [← Nat.add_assoc] at h
 exact h
theorem wpList_loadrf {α : Type} {f : α → List Value} {size g off n cap : Nat} {rs : List α} (hgd : Region.wanted op (yielded ops a.tmps) = true) (T : TypeId) (x : Operand) (ho : op.op = .load T x) (hrow : (P.underlying T).map (·.isRow) = some false) (k i j : Nat) (r : α) (v : Value) (hM : MemX E w0 w l) (hk : l[k]? = some (rowR size f (.slice (some ⟨g, off, none⟩) n cap) rs))
    (hf : ∀ r ∈ rs, (f r).length = size) (hr : rs[i]? = some r) (hx : a.eval x = .pointer (some ⟨g, off + i * size + j, none⟩)) (hv : (f r)[j]? = some v) (h : wpList P ops Q rest (a.put op.dst v) w) : wpList P ops Q (op :: rest) a w := by
  cases hu : P.underlying T with
  | none => rw [hu] at hrow; cases hrow
  | some d =>
    rw [hu] at hrow
    refine wpList_step fun K hK => ?_
    rw [if_pos hgd]
    unfold Oper.wp execOp
    simp only [ho, hx, Instr.loadAt, Instr.sureAddr, Sem.run_bind, Sem.run_pure, Result.andThen_ok, run_loadVar_one g (off + i * size + j) T v (row_cell k i j r v hM hk hf hr hv) hu (Option.some.inj hrow)]
    exact hK _ _ h
theorem wpList_store2_mem (hgd : op.guard = none) (T : TypeId) (x y : Operand) (ho : op.op = .store T x y) (k : Nat) (g : Nat) (t : TypeId) (cs : List Value) (i : Nat) (v1 v2 : Value) (hM : MemX E w0 w l) (hk : l[k]? = some (atR g t cs)) (hx : a.eval x = .pointer (some ⟨g, i, none⟩)) (hy : a.eval y = .agg #[v1, v2])
  (h1 : v1.oneCell' = true) (h2 : v2.oneCell' = true) (hi : (P.info? T).map (·.size) = some 2) (hlt : i + 1 < cs.length)
  (h : ∀ W, MemX E w0 W (l.set k (atR g t ((cs.set i v1).set (i + 1) v2))) → wpList P ops Q rest (a.put op.dst undef) W) : wpList P ops Q (op :: rest) a w := by
 have hA := hM.at_ k hk
 have ht : w.there g i (#[v1, v2] : Array Value).size := fun j hj => by
  have hj' : i + j < cs.length := by
   have : j < 2 := hj
   omega
  exact ⟨by rw [hA.cell, List.getElem?_eq_getElem hj']; rfl, hA.free _⟩
 refine wpList_store_mid hgd T x y ho g i #[v1, v2] hx hy ht (by exact hi) (all_oneCell_toArray (cs := [v1, v2]) (fun v hv => by
  rcases List.mem_cons.1 hv with rfl | hv
  ·exact h1
  ·rw [List.mem_singleton.1 hv]; exact h2)) (h _ ?_)
 have e : w.setCells g i [v1, v2] = (w.setCell ⟨g, i, none⟩ v1).setCell ⟨g, i + 1, none⟩ v2 := rfl
 rw [show (#[v1, v2] : Array Value).toList = [v1, v2] from rfl, e]
 exact hM.atPut k hk (only_set (p := ⟨g, i + 1, none⟩) (only_set (p := ⟨g, i, none⟩) (only_refl w (some g)) (.inl rfl) v1) (.inl rfl) v2) ((hA.set_ i v1).set_ (i + 1) v2)
end
end Go.Proofs.Ytfpifahkpkjfgaa
