/- What ConnStops needs, a part: CnFa, CnFb. -/
import Derived.Test.YtfpifahkpkjfgaaMConnStops37
namespace Go.Proofs.Ytfpifahkpkjfgaa
open Go.RowKit Go.Lib
set_option linter.unusedVariables false
set_option linter.unusedSimpArgs false
structure Cl (q : IQ) : Prop where
 h : ∀ k, q.h k = false
 ov : q.over = false
 fin : q.fin = -1
theorem put_ord {q : IQ} (ok : IqOk q) (c : Cl q) (S : ByteArray) (f : Bool) (hr : q.nx + S.size ≤ q.rd + 2048) :
    (putQ q q.nx S f).rd = q.rd ∧ (putQ q q.nx S f).nx = q.nx + S.size + (if f then 1 else 0) ∧ (putQ q q.nx S f).over = f ∧ (f = false → Cl (putQ q q.nx S f)) := by
  obtain ⟨o1, o2⟩ := ok_open ok c.ov
  have hm := ok.nxm
  have h1 := ok.rd1
  have hi : ¬ idle q q.nx := by
    unfold idle
    rw [c.ov]
    intro h
    rcases h with h | h | h
    · omega
    · omega
    · cases h
  have hin : ∀ x : Int, q.nx ≤ x → x < q.rd + 2048 → hPut q q.nx S.size (x % 2048).toNat = decide (x < q.nx + S.size) := by
    intro x hx hx'
    have hp := plc_of q.nx x (x % 2048).toNat hx (by omega) (by omega)
    unfold hPut hitB
    rw [c.h, hp, Bool.false_or]
    have hfin := c.fin
    exact decide_eq_decide.2 ⟨fun h => h.2.1, fun h => ⟨hx, h, hx', .inl (by omega)⟩⟩
  have hn : nxPut q q.nx S.size = q.nx + S.size := by
    refine adv_one (advZ_is (hPut q q.nx S.size) (q.rd + 2048) 2048 q.nx o2 (by omega)) ⟨by omega, hr, fun x hx hx' => ?_, ?_⟩
    · rw [hin x hx (by omega)]; exact decide_eq_true hx'
    · by_cases he : q.nx + S.size = q.rd + 2048
      · exact .inl he
      · right
        rw [hin _ (by omega) (by omega)]
        exact decide_eq_false (by omega)
  have hb : behindB (hPut q q.nx S.size) (q.nx + S.size) (q.rd + 2048) = false := by
    cases hh : behindB (hPut q q.nx S.size) (q.nx + S.size) (q.rd + 2048) with
    | false => rfl
    | true =>
      obtain ⟨x, h2, h3, h4⟩ := (behind_iff _ _ _).1 hh
      rw [hin x (by omega) h3, decide_eq_false (by omega)] at h4
      cases h4
  cases f with
  | false =>
    have hf : finPut q q.nx S.size false = -1 := by
      unfold finPut
      rw [if_neg (fun h => by cases h.1.1)]
      exact c.fin
    have e := putQ_open S false hi (by rw [hn, hf]; omega)
    rw [hn, hf] at e
    rw [e]
    refine ⟨rfl, by simp, rfl, fun _ => ⟨fun k => ?_, rfl, rfl⟩⟩
    show hAfter q q.nx S.size (q.nx + S.size) k = false
    unfold hAfter hPut hitB
    rw [c.h, Bool.false_or]
    by_cases hk : plc q.nx k < q.nx + S.size
    · rw [decide_eq_false (show ¬ q.nx + (S.size : Int) ≤ plc q.nx k by omega), Bool.and_false]
    · rw [decide_eq_false (fun h => hk h.2.1), Bool.false_and]
  | true =>
    have hf : finPut q q.nx S.size true = q.nx + S.size := by
      unfold finPut
      rw [if_pos ⟨⟨rfl, by rw [c.fin]; decide, by omega, hr⟩, hb⟩]
    have e := putQ_over S true hi (by rw [hn, hf])
    rw [hn, hf] at e
    rw [e]
    exact ⟨rfl, by simp, rfl, fun h => by cases h⟩
structure Dat (A B : KAd) (V : Int) (R : Option Int) (g : KSeg) (at_ : Int) : Prop where
 seq : g.seq = u32 (A.iss + at_)
 ack : g.ack = u32 (B.iss + V)
 has : g.has = true
 syn : g.syn = false
 rst : g.rst = false
 chk : tcChk g = 0
 ad : g.fa = A.la ∧ g.fp = A.lp ∧ g.ta = A.ra ∧ g.tp = A.rp
 len : 1 ≤ sgLen g
 win : ∀ x, R = some x → g.win = x
structure Ack (A B : KAd) (V : Int) (g : KSeg) (a win : Int) : Prop where
 seq : g.seq = u32 (B.iss + V)
 ack : g.ack = u32 (A.iss + a)
 has : g.has = true
 syn : g.syn = false
 rst : g.rst = false
 fin : g.fin = false
 b : g.b = ⟨#[]⟩
 chk : tcChk g = 0
 ad : g.fa = B.la ∧ g.fp = B.lp ∧ g.ta = B.ra ∧ g.tp = B.rp
 win : g.win = win
structure FR (A B : KAd) (r : KCn) (N V D : Int) (R : Option Int) (W : KWd) (mr : Int) (sr : Bool) (O : OQ) (fl ow : Bool) : Prop where
 ad : AdOk B r
 irs : r.irs = A.iss
 st : r.st = (if fl then (if sr then 9 else 6) else (if sr then 5 else 3))
 sh : r.shut = sr
 en : fl = true → sr = true → r.ends = r.now + 20
 pr : r.probe = false
 oc : r.o = O
 rs : r.rs = []
 ag : r.again = false
 ow : r.owed = ow
 una : r.o.una = V
 cur : r.o.cur = V
 sent : r.o.sent = V
 end_ : qEnd r.o = V
 v1 : 1 ≤ V ∧ V ≤ 2097152
 n1 : 1 ≤ N ∧ N ≤ 2097152
 wn : ∀ x, R = some x → r.wnd = x
 ms : r.mss = mr
 h : ∃ q, r.h = some (q, W) ∧ IqOk q ∧ q.nx = N ∧ (fl = false → Cl q) ∧ q.over = fl ∧ q.rd = D
section
variable {A B : KAd} {s r : KCn} {N V D a win : Int} {fl ow : Bool} {g : KSeg} {R : Option Int} {W : KWd} {mr : Int} {sr : Bool} {O : OQ}
theorem FR.cq (h : FR A B r N V D R W mr sr O fl ow) : (cQ r).nx = N ∧ cRoomI r = 2048 - (N - (if fl then 1 else 0) - D) ∧ r.h ≠ none := by
 obtain ⟨q, hh, ok, hn, hc, ho, hr⟩ := h.h
 have e : cQ r = q := by unfold cQ; rw [hh]
 refine ⟨by rw [e]; exact hn, ?_, by rw [hh]; exact fun h => by cases h⟩
 unfold cRoomI
 rw [e, hr]
 unfold endZ
 rw [ho, hn]
 cases fl <;> simp
theorem FR.of {r' : KCn} (h : FR A B r N V D R W mr sr O fl ow) {ow' : Bool} (x : Int) (e : r' = { r with clock := x, owed := ow', again := false, probe := false }) : FR A B r' N V D R W mr sr O fl ow' := by
 subst e
 exact ⟨⟨h.ad.la, h.ad.lp, h.ad.ra, h.ad.rp, h.ad.iss⟩, h.irs, h.st, h.sh, h.en, rfl, h.oc, h.rs, rfl, rfl, h.una, h.cur, h.sent, h.end_, h.v1, h.n1, h.wn, h.ms, h.h⟩
theorem FR.idle (h : FR A B r N V D R W mr sr O fl ow) : cIsP r (cLimit r) = false := by
 unfold cIsP oIs
 have hl := oLim_le (q := r.o) (cLimit r)
 rw [decide_eq_false (by rw [h.cur]; rw [h.end_] at hl; omega), Bool.false_and]
theorem FR.st0 (h : FR A B r N V D R W mr sr O fl ow) : r.st ≠ 0 ∧ r.st ≠ 1 ∧ r.st ≠ 2 := by
 have h1 := h.st
 cases fl <;> cases sr <;> simp at h1 <;> omega
theorem FR.out (h : FR A B r N V D R W mr sr O fl ow) (hw : 0 ≤ 2048 - (N - (if fl then 1 else 0) - D) ∧ 2048 - (N - (if fl then 1 else 0) - D) ≤ 65535) (hp : okP B.lp ∧ okP B.rp) :
    FR A B (cOut r).1 N V D R W mr sr O fl false ∧ ((ow = false ∧ (cOut r).2 = []) ∨ (ow = true ∧ ∃ g, (cOut r).2 = [g] ∧ Ack A B V g N (2048 - (N - (if fl then 1 else 0) - D)))) := by
  have e := out_none h.st0.1 h.rs h.ag h.idle
  rw [e]
  obtain ⟨x, hx, -⟩ := cSettle_is { r with owed := false, again := false, probe := false }
  refine ⟨h.of (ow' := false) x (by rw [hx]), ?_⟩
  dsimp only
  rw [h.ow]
  cases hoo : ow with
  | false => exact .inl ⟨rfl, rfl⟩
  | true =>
    right
    refine ⟨rfl, _, rfl, ?_⟩
    obtain ⟨q, hh, ok, hn, hc, ho, hr⟩ := h.h
    have hz : endZ q - q.rd = N - (if fl then 1 else 0) - D := by
      unfold endZ
      rw [ho, hn, hr]
      cases fl <;> simp
    have eb : cBare r r.o.sent = ⟨r.la, r.lp, r.ra, r.rp, u32 (r.iss + u32 r.o.sent), u32 (r.irs + u32 q.nx), false, true, false, false, 2048 - (endZ q - q.rd), 0, ⟨#[]⟩⟩ := by
      unfold cBare; rw [hh]
    rw [eb]
    refine ⟨?_, ?_, rfl, rfl, rfl, rfl, rfl, ?_, ⟨h.ad.la, h.ad.lp, h.ad.ra, h.ad.rp⟩, by rw [hz]⟩
    · show u32 (r.iss + u32 r.o.sent) = _
      rw [u32_add, h.ad.iss, h.sent]
    · show u32 (r.irs + u32 q.nx) = _
      rw [u32_add, h.irs, hn]
    · refine chk_of ?_ ?_ ?_ ⟨Int.le_refl 0, (by decide : (0 : Int) ≤ 65535)⟩ (.inl rfl) (fun e => by cases e) (fun e => by cases e) (.inr rfl) (Nat.zero_le 1000)
      · show okP r.lp; rw [h.ad.lp]; exact hp.1
      · show okP r.rp; rw [h.ad.rp]; exact hp.2
      · show 0 ≤ 2048 - (endZ q - q.rd) ∧ 2048 - (endZ q - q.rd) ≤ 65535
        rw [hz]; exact hw
theorem ba_size_len (g : KSeg) (hs : g.syn = false) : sgLen g = g.b.size + (if g.fin then 1 else 0) := by
 unfold sgLen; rw [hs]; simp
theorem FR.data (h : FR A B r N V D R W mr sr O false ow) (hp : AdTo A B) (hg : Dat A B V R g N) (hr : N + g.b.size ≤ D + 2048) (hr2 : N + sgLen g ≤ D + 2048) (hN : N + sgLen g ≤ 2097152) :
    FR A B (cIn r g) (N + sgLen g) V D R W mr sr O g.fin true := by
  obtain ⟨e1, e2, e3⟩ := h.cq
  have hl := ba_size_len g hg.syn
  have hlen := hg.len
  have hd1 : 1 ≤ D := by obtain ⟨q, hh, ok, hn, hc, ho, hrd⟩ := h.h; have := ok.rd1; omega
  have hdn : D ≤ N := by
    obtain ⟨q, hh, ok, hn, hc, ho, hrd⟩ := h.h
    have := (ok_open ok ho).1
    omega
  have hn1 := h.n1
  have hv1 := h.v1
  have hcs : g.seq = u32 (r.irs + N) := by rw [hg.seq, h.irs]
  have hck : g.ack = u32 (r.iss + V) := by rw [hg.ack, h.ad.iss]
  have hin : cInE r g = 0 := by
    unfold cInE
    obtain ⟨a1, a2, a3, a4⟩ := hg.ad
    rw [if_neg (fun e => e hg.chk), if_neg (fun e => e ⟨by rw [a1, h.ad.ra, hp.ra], by rw [a2, h.ad.rp, hp.rp], by rw [a3, h.ad.la, hp.la], by rw [a4, h.ad.lp, hp.lp]⟩), if_neg h.st0.1]
  have hat : cAt r g = N := at_is hcs (by rw [e1]; omega) (by rw [e1]; omega)
  have hak : cAckAt r g = V := ackAt_is hck (by rw [h.una]; omega) (by rw [h.una]; omega)
  have hac : accB g.seq (sgLen g) (cWant r) (cRoomI r) = true := by
    rw [hcs, want_is, e1, e2, acc_is (by omega) (by omega) (by omega) (by simp; omega)]
    refine decide_eq_true ?_
    unfold accP
    rw [if_neg (by omega)]
    simp only [if_false, Bool.false_eq_true]
    exact ⟨by omega, .inl ⟨by omega, by omega⟩⟩
  obtain ⟨c2, hc2, w', x', y', hcc, hwz⟩ : ∃ c2, cAcks r g N = (c2, true) ∧ ∃ w' x' y', c2 = { r with wnd := w', wat := x', wak := y' } ∧ ∀ z, R = some z → w' = z := by
    have ha : cAcks r g N = cAcks2 r g N V := by unfold cAcks; rw [if_neg h.st0.2.2, hak]
    have hns : ¬ r.o.sent < V := by rw [h.sent]; omega
    have k1 : r = if r.o.una < V then cAckd r V else if V = r.o.una ∧ sgLen g = 0 ∧ r.o.una < r.o.cur ∧ g.win = r.wnd then cSame r g else r := by
      rw [if_neg (by rw [h.una]; omega), if_neg (fun e => by have := e.2.1; omega)]
    rw [ha, acks2_of hns k1 rfl]
    have hst : ∀ c2 : KCn, c2.st = r.st → c2.shut = r.shut → (if c2.shut = true ∧ c2.o.una = qEnd c2.o then
      (if c2.st = 4 then (({ c2 with st := 5 } : KCn), true) else if c2.st = 7 then (cWait c2, true) else if c2.st = 8 then (cClosed c2 0, false) else (c2, true)) else (c2, true)) = (c2, true) := by
      intro c2 hs hsh
      have hh := h.st
      have h4 : r.st ≠ 4 ∧ r.st ≠ 7 ∧ r.st ≠ 8 := by cases sr <;> simp at hh <;> omega
      rw [← hs] at h4
      split
      · rw [if_neg h4.1, if_neg h4.2.1, if_neg h4.2.2]
      · rfl
    by_cases hc : r.o.una < V ∨ (V = r.o.una ∧ (r.wat < N ∨ (N = r.wat ∧ r.wak ≤ V)))
    · rw [if_pos hc]
      exact ⟨{ r with wnd := g.win, wat := N, wak := V }, hst _ rfl rfl, _, _, _, rfl, hg.win⟩
    · rw [if_neg hc]
      exact ⟨r, hst _ rfl rfl, r.wnd, r.wat, r.wak, rfl, h.wn⟩
  have hnx : cIn r g = cSettle (cTakes c2 g N) := by
    unfold cIn
    rw [if_neg (fun e => e hin), if_neg h.st0.2.1]
    unfold cNext
    rw [if_neg (by rw [hac]; exact fun e => by cases e), if_neg (by rw [hg.rst]; exact fun e => by cases e.1), if_neg (by rw [hg.rst, hg.syn]; exact fun e => by rcases e with e | e <;> cases e), if_pos hg.has, hat, hc2]
    rfl
  rw [hnx]
  obtain ⟨q, hh, ok, hn, hc, ho, hrd⟩ := h.h
  have hcl := hc rfl
  obtain ⟨p1, p2, p3, p4⟩ := put_ord ok hcl g.b g.fin (by rw [hn, hrd]; exact hr)
  have pok : IqOk (putQ q q.nx g.b g.fin) := put_ok ok (by omega) q.nx g.b g.fin
  rw [hn] at p1 p2 p3 p4 pok
  have hst3 : c2.st = 3 ∨ c2.st = 4 ∨ c2.st = 5 := by
    rw [hcc]
    show r.st = 3 ∨ r.st = 4 ∨ r.st = 5
    have hh := h.st
    cases sr <;> simp at hh <;> omega
  have hst34 : r.st = 3 ∨ r.st = 5 := by
    have hh := h.st
    cases sr <;> simp at hh <;> omega
  obtain ⟨z, hz⟩ : ∃ z, z = putQ q N g.b g.fin := ⟨_, rfl⟩
  rw [← hz] at p1 p2 p3 p4 pok
  have ht1 : ∃ (S E : Int), cTakes1 c2 g N = { r with wnd := w', wat := x', wak := y', h := some (z, W), st := S, ends := E } ∧ ((g.fin = false ∧ S = r.st) ∨ (g.fin = true ∧ ((r.st = 3 ∧ S = 6) ∨ (r.st = 5 ∧ S = 9 ∧ E = r.now + 20)))) := by
    unfold cTakes1
    rw [if_pos hst3]
    have hm : ({ c2 with h := c2.h.map fun x => (putQ x.1 N g.b g.fin, x.2) } : KCn) = { r with wnd := w', wat := x', wak := y', h := some (z, W) } := by
      rw [hcc]
      simp only [hh, Option.map_some, hz]
    rw [hm]
    dsimp only
    have hq : (cQ { r with wnd := w', wat := x', wak := y', h := some (z, W) }).over = g.fin := p3
    rw [hq]
    have hs2 : c2.st = r.st := by rw [hcc]
    rw [hs2]
    cases hf : g.fin with
    | false => exact ⟨r.st, r.ends, by rw [if_neg (by decide)], .inl ⟨rfl, rfl⟩⟩
    | true =>
      rw [if_pos rfl]
      rcases hst34 with h3 | h5
      · rw [if_pos h3]
        exact ⟨6, r.ends, rfl, .inr ⟨rfl, .inl ⟨h3, rfl⟩⟩⟩
      · rw [if_neg (by omega), if_neg (by omega)]
        exact ⟨9, r.now + 20, rfl, .inr ⟨rfl, .inr ⟨h5, rfl, rfl⟩⟩⟩
  obtain ⟨S, E, ht, hS⟩ := ht1
  have htk : cTakes c2 g N = { r with wnd := w', wat := x', wak := y', h := some (z, W), st := S, ends := E, owed := true } := by
    unfold cTakes
    rw [ht]
    have : (c2.owed || decide (0 < sgLen g)) = true := by rw [decide_eq_true (show 0 < sgLen g by omega), Bool.or_true]
    rw [this]
  rw [htk]
  obtain ⟨x, hx, -⟩ := cSettle_is { r with wnd := w', wat := x', wak := y', h := some (z, W), st := S, ends := E, owed := true }
  rw [hx]
  refine ⟨⟨h.ad.la, h.ad.lp, h.ad.ra, h.ad.rp, h.ad.iss⟩, h.irs, ?_, h.sh, ?_, h.pr, h.oc, h.rs, h.ag, rfl, h.una, h.cur, h.sent, h.end_, h.v1, ⟨by omega, by omega⟩, hwz, h.ms, z, rfl, pok, ?_, p4, p3, by rw [p1]; exact hrd⟩
  · show S = (if g.fin then (if sr then 9 else 6) else (if sr then 5 else 3))
    have hh := h.st
    rcases hS with ⟨h1, h2⟩ | ⟨h1, h2⟩
    · rw [h1]; simp at hh ⊢; omega
    · rw [h1]; cases sr <;> simp at hh ⊢ <;> omega
  · intro h1 h2
    show E = r.now + 20
    have hh := h.st
    rcases hS with ⟨h3, _⟩ | ⟨_, h3⟩
    · rw [h3] at h1; cases h1
    · rw [h2] at hh; simp at hh; omega
  · rw [p2, hl]; omega
end
structure FSl (A B : KAd) (s : KCn) (q : IQ) (V U C w E ℓ : Int) : Prop where
 ad : AdOk A s
 irs : s.irs = B.iss
 st : (s.shut = false ∧ (s.st = 3 ∨ s.st = 6)) ∨ (s.shut = true ∧ (s.st = 4 ∨ s.st = 8))
 cl : s.o.cl = s.shut
 rs : s.rs = []
 ag : s.again = false
 pr : s.probe = false
 ow : s.owed = false
 ok : OqOk s.o
 una : s.o.una = U
 cur : s.o.cur = C
 sent : s.o.sent = C
 u1 : 1 ≤ U
 end_ : qEnd s.o ≤ 2097152
 m : 8 ≤ s.mss ∧ s.mss ≤ 1000
 wnd : s.wnd = E - U
 wd : s.h = some (q, ⟨s.mss, w, ℓ⟩)
 w1 : s.mss ≤ w ∧ w ≤ 65535
 qok : IqOk q
 qst : Stop q
 qnx : q.nx = V
 qov : s.st = 3 ∨ s.st = 4 → q.over = false
 qrd : 0 ≤ endZ q - q.rd ∧ endZ q - q.rd ≤ 2047
 v1 : 1 ≤ V ∧ V ≤ 2097152
abbrev FS (A B : KAd) (s : KCn) (q : IQ) (V U C w E : Int) : Prop := FSl A B s q V U C w E 65535
def Dats (A B : KAd) (V : Int) (R : Option Int) (m Q : Int) (cl : Bool) : List KSeg → Int → Int → Nat → Prop
 | [], C, C', o => C = C' ∧ o = 0
 | g :: l, C, C', o => ∃ o', Dat A B V R g C ∧ g.fin = (cl && decide (C + sgLen g = Q)) ∧ (sgLen g ≤ m ∨ C + sgLen g = Q) ∧ Dats A B V R m Q cl l (C + sgLen g) C' o' ∧ o = o' + (if sgLen g = m then 0 else 1)
section
variable {A B : KAd} {s r : KCn} {q : IQ} {N V D a win U C w E ℓ : Int} {fl ow : Bool} {g : KSeg} {R : Option Int}
theorem FSl.st0 (h : FSl A B s q V U C w E ℓ) : s.st ≠ 0 ∧ s.st ≠ 1 ∧ s.st ≠ 2 ∧ s.st ≠ 7 := by
 rcases h.st with ⟨_, h | h⟩ | ⟨_, h | h⟩ <;> omega
theorem FSl.of {s' : KCn} (h : FSl A B s q V U C w E ℓ) (x y z : Int) (e : s' = { s with clock := x, meas := y, wh := z, owed := false, again := false, probe := false }) : FSl A B s' q V U C w E ℓ := by
 subst e
 exact ⟨⟨h.ad.la, h.ad.lp, h.ad.ra, h.ad.rp, h.ad.iss⟩, h.irs, h.st, h.cl, h.rs, rfl, rfl, rfl, h.ok, h.una, h.cur, h.sent, h.u1, h.end_, h.m, h.wnd, h.wd, h.w1, h.qok, h.qst, h.qnx, h.qov, h.qrd, h.v1⟩
theorem FSl.piece (h : FSl A B s q V U C w E ℓ) (hR : ∀ x, R = some x → 2048 - (endZ q - q.rd) = x) (hp : AdTo A B) {lim : Int} (hi : cIsP s lim = true) :
    FSl A B (cStep s lim) q V U (C + sgLen (cSegm s (cPc s lim))) w E ℓ ∧ Dat A B V R (cSegm s (cPc s lim)) C ∧ (cSegm s (cPc s lim)).fin = (s.shut && decide (C + sgLen (cSegm s (cPc s lim)) = qEnd s.o)) ∧
      (sgLen (cSegm s (cPc s lim)) = if s.mss < (if oLim s.o lim < oFin s.o then oLim s.o lim else oFin s.o) - C then s.mss else oLim s.o lim - C) := by
  have hi' : oIs s.o s.o.cur lim s.mss = true := hi
  obtain ⟨p1, p2, p3, p4, p5, p6, p7, p8, p9, p10⟩ := piece_is h.ok lim s.mss hi'
  have hu := h.u1
  have hcs := h.ok.cs
  have hC := h.cur
  have hU := h.una
  have hne : s.o.cur ≠ 0 := by omega
  obtain ⟨b1, b2, b3, b4, b5, b6, b7⟩ := piece_bd h.ok lim s.mss hne hi'
  have hlt : s.o.cur < oLim s.o lim := by
    unfold oIs at hi'
    simp only [Bool.and_eq_true, decide_eq_true_eq] at hi'
    exact hi'.1
  have hl := oLim_le (q := s.o) lim
  have hq := qEnd_bd (q := s.o)
  have hsyn : (cPc s lim).syn = false := by
    show (qPiece s.o s.o.cur lim s.mss).syn = false
    rw [p3]; exact decide_eq_false hne
  have hpc : cPc s lim = ⟨s.o.cur, false, oFinB s.o s.o.cur lim s.mss, byteS (oBody s.o s.o.cur lim s.mss)⟩ := by
    unfold cPc qPiece
    rw [if_pos hi', if_neg hne]
  have hbs : (byteS (oBody s.o s.o.cur lim s.mss)).size = (oBody s.o s.o.cur lim s.mss).length := byteS_sz _
  have hL : oLen (cPc s lim) = if s.mss < (if oLim s.o lim < oFin s.o then oLim s.o lim else oFin s.o) - s.o.cur then s.mss else oLim s.o lim - s.o.cur := by
    rw [hpc]
    unfold oLen
    dsimp only
    rw [hbs, b6]
    have hm := h.m
    unfold oFinB oTo
    dsimp only
    obtain ⟨t, ht⟩ : ∃ t, t = (if oLim s.o lim < oFin s.o then oLim s.o lim else oFin s.o) := ⟨_, rfl⟩
    rw [← ht]
    have ht2 : t ≤ oFin s.o ∧ t ≤ oLim s.o lim ∧ (t = oFin s.o ∨ t = oLim s.o lim) := by
      rw [ht]; split <;> omega
    by_cases hc : s.mss < t - s.o.cur
    · rw [if_pos hc, if_pos hc]
      have hh : s.o.cur < s.o.cur + s.mss := by omega
      simp only [if_pos hh]
      rw [decide_eq_false (show ¬ s.o.cur + s.mss = oFin s.o by omega)]
      simp
      omega
    · rw [if_neg hc, if_neg hc]
      by_cases hF : oFin s.o < oLim s.o lim
      · have htf : t = oFin s.o := by rw [ht, if_neg (by omega)]
        have hcl : s.o.cl = true := by
          cases hcl : s.o.cl with
          | true => rfl
          | false =>
            have : qEnd s.o = oFin s.o := by unfold qEnd; rw [hcl]; rfl
            omega
        have hQ : qEnd s.o = oFin s.o + 1 := by unfold qEnd; rw [hcl]; rfl
        rw [hcl, decide_eq_true hF]
        have e2 : (if s.o.cur < t then t else s.o.cur) = oFin s.o := by split <;> omega
        rw [e2]
        simp
        split <;> omega
      · have htl : t = oLim s.o lim := by
          rcases ht2.2.2 with e | e
          · omega
          · exact e
        rw [decide_eq_false hF]
        simp
        rw [if_pos (by omega)]
        omega
  have hsg : sgLen (cSegm s (cPc s lim)) = oLen (cPc s lim) := by
    unfold sgLen oLen
    rfl
  have hst : cStep s lim = { s with o := oNext s.o lim s.mss, meas := (cStep s lim).meas, wh := (cStep s lim).wh } := by
    unfold cStep; split <;> rfl
  have hcur : (oNext s.o lim s.mss).cur = C + oLen (cPc s lim) := by
    have h2 : oLen (qPiece s.o s.o.cur lim s.mss) = oLen (cPc s lim) := rfl
    show s.o.cur + oLen (qPiece s.o s.o.cur lim s.mss) = _
    omega
  have hsent : (oNext s.o lim s.mss).sent = C + oLen (cPc s lim) := by
    show (if s.o.sent < s.o.cur + oLen (qPiece s.o s.o.cur lim s.mss) then s.o.cur + oLen (qPiece s.o s.o.cur lim s.mss) else s.o.sent) = _
    have h1 := h.sent
    have h2 : oLen (qPiece s.o s.o.cur lim s.mss) = oLen (cPc s lim) := rfl
    have h3 : 0 < oLen (qPiece s.o s.o.cur lim s.mss) := p4
    rw [if_pos (by omega)]
    omega
  refine ⟨?_, ?_, ?_, by rw [hsg, hL, hC]⟩
  · rw [hst, hsg]
    exact ⟨⟨h.ad.la, h.ad.lp, h.ad.ra, h.ad.rp, h.ad.iss⟩, h.irs, h.st, h.cl, h.rs, h.ag, h.pr, h.ow, next_ok h.ok lim s.mss, h.una, hcur, hsent, h.u1, h.end_, h.m, h.wnd, h.wd, h.w1, h.qok, h.qst, h.qnx, h.qov, h.qrd, h.v1⟩
  · have hbar : cBare s (cPc s lim).at_ = ⟨s.la, s.lp, s.ra, s.rp, u32 (s.iss + u32 (cPc s lim).at_), u32 (s.irs + u32 q.nx), false, true, false, false, 2048 - (endZ q - q.rd), 0, ⟨#[]⟩⟩ := by
      unfold cBare; rw [h.wd]
    have hg : cSegm s (cPc s lim) = ⟨s.la, s.lp, s.ra, s.rp, u32 (s.iss + u32 (cPc s lim).at_), u32 (s.irs + u32 q.nx), false, true, (cPc s lim).fin, false, 2048 - (endZ q - q.rd), 0, (cPc s lim).b⟩ := by
      unfold cSegm
      rw [hbar, hsyn]
      rfl
    have hat : (cPc s lim).at_ = C := by rw [hpc]; exact hC
    have hbz : ((cPc s lim).b.size : Int) ≤ s.mss := p2
    have hlen : 1 ≤ sgLen (cSegm s (cPc s lim)) := by rw [hsg]; exact p4
    rw [hg] at hlen ⊢
    have hm := h.m
    have hqr := h.qrd
    refine ⟨?_, ?_, rfl, rfl, rfl, ?_, ⟨h.ad.la, h.ad.lp, h.ad.ra, h.ad.rp⟩, hlen, hR⟩
    · show u32 (s.iss + u32 (cPc s lim).at_) = _
      rw [u32_add, h.ad.iss, hat]
    · show u32 (s.irs + u32 q.nx) = _
      rw [u32_add, h.irs, h.qnx]
    · refine chk_of ?_ ?_ ?_ ⟨Int.le_refl 0, (by decide : (0 : Int) ≤ 65535)⟩ (.inl rfl) (fun e => by cases e) (fun e => rfl) (.inr rfl) ?_
      · show okP s.lp; rw [h.ad.lp]; exact hp.p0
      · show okP s.rp; rw [h.ad.rp]; exact hp.p1
      · show 0 ≤ 2048 - (endZ q - q.rd) ∧ 2048 - (endZ q - q.rd) ≤ 65535
        omega
      · show (cPc s lim).b.size ≤ 1000
        omega
  · show (cPc s lim).fin = _
    rw [hsg, hL]
    rw [hpc]
    show oFinB s.o s.o.cur lim s.mss = _
    have hm := h.m
    rw [← h.cl]
    cases hcl : s.o.cl with
    | false => unfold oFinB; rw [hcl]; rfl
    | true =>
      have hQ : qEnd s.o = oFin s.o + 1 := by unfold qEnd; rw [hcl]; rfl
      unfold oFinB oTo
      rw [hcl, Bool.true_and, Bool.true_and]
      dsimp only
      obtain ⟨t, ht⟩ : ∃ t, t = (if oLim s.o lim < oFin s.o then oLim s.o lim else oFin s.o) := ⟨_, rfl⟩
      rw [← ht]
      have ht2 : t ≤ oFin s.o ∧ t ≤ oLim s.o lim ∧ (t = oFin s.o ∨ t = oLim s.o lim) := by
        rw [ht]; split <;> omega
      by_cases hc : s.mss < t - s.o.cur
      · rw [if_pos hc, if_pos hc, if_pos (show s.o.cur < s.o.cur + s.mss by omega), decide_eq_false (show ¬ s.o.cur + s.mss = oFin s.o by omega), Bool.false_and]
        exact (decide_eq_false (by omega)).symm
      · rw [if_neg hc, if_neg hc]
        by_cases hF : oFin s.o < oLim s.o lim
        · have e2 : (if s.o.cur < t then t else s.o.cur) = oFin s.o := by
            have htf : t = oFin s.o := by rw [ht, if_neg (by omega)]
            split <;> omega
          rw [e2, decide_eq_true rfl, decide_eq_true hF]
          exact (decide_eq_true (by omega)).symm
        · rw [decide_eq_false hF, Bool.and_false]
          exact (decide_eq_false (by omega)).symm
theorem loop_flow (hR : ∀ x, R = some x → 2048 - (endZ q - q.rd) = x) (hp : AdTo A B) {lim : Int} : ∀ (f : Nat) (s : KCn) (C : Int) (l : List KSeg), FSl A B s q V U C w E ℓ → cLeft s < f →
    ∃ s' ds C' o, cLoop f s lim l = (s', l ++ ds) ∧ FSl A B s' q V U C' w E ℓ ∧ Dats A B V R s.mss (qEnd s.o) s.shut ds C C' o ∧ C' = (if C < oLim s.o lim then oLim s.o lim else C) ∧ qEnd s'.o = qEnd s.o ∧ s'.shut = s.shut ∧ s'.mss = s.mss ∧ s'.st = s.st ∧
      o ≤ 1 ∧ (oLim s.o lim ≤ oFin s.o → (oLim s.o lim - C) % s.mss = 0 → o = 0) ∧ s'.o.l = s.o.l ∧ s'.o.base = s.o.base ∧ s'.o.una = s.o.una
  | 0, s, C, l, h, hf => by omega
  | f + 1, s, C, l, h, hf => by
    by_cases hi : cIsP s lim = true
    · obtain ⟨k1, k2, k3, k4⟩ := h.piece hR hp hi
      have hC := h.cur
      have hlt : C < oLim s.o lim := by
        have hi' : oIs s.o s.o.cur lim s.mss = true := hi
        unfold oIs at hi'
        simp only [Bool.and_eq_true, decide_eq_true_eq] at hi'
        rw [← hC]; exact hi'.1
      have hst : cStep s lim = { s with o := oNext s.o lim s.mss, meas := (cStep s lim).meas, wh := (cStep s lim).wh } := by
        unfold cStep; split <;> rfl
      have e1 : qEnd (cStep s lim).o = qEnd s.o := by rw [hst]; rfl
      have e2 : (cStep s lim).shut = s.shut := by rw [hst]
      have e3 : (cStep s lim).mss = s.mss := by rw [hst]
      have e4 : oLim (cStep s lim).o lim = oLim s.o lim := by unfold oLim; rw [e1]
      have e5 : oFin (cStep s lim).o = oFin s.o := by rw [hst]; rfl
      have e6 : (cStep s lim).st = s.st := by rw [hst]
      have e7 : (cStep s lim).o.l = s.o.l ∧ (cStep s lim).o.base = s.o.base ∧ (cStep s lim).o.una = s.o.una := by rw [hst]; exact ⟨rfl, rfl, rfl⟩
      have hm := h.m
      have hl : cLeft (cStep s lim) < cLeft s := by
        unfold cLeft
        rw [e1, k1.cur, hC]
        have := k2.len
        have := (oLim_le (q := s.o) lim).2
        omega
      obtain ⟨L, hL⟩ : ∃ z, z = sgLen (cSegm s (cPc s lim)) := ⟨_, rfl⟩
      obtain ⟨s', ds, C', o, n1, n2, n3, n4, n5, n6, n7, n8, n9, n10, n11, n12, n13⟩ := loop_flow hR hp f (cStep s lim) _ (l ++ [cSegm s (cPc s lim)]) k1 (by omega)
      rw [e1, e2, e3] at n3
      rw [e4] at n4 n10
      rw [e5, e3] at n10
      rw [← hL] at k3 k4 n3 n4 n10
      have ht2 : (if oLim s.o lim < oFin s.o then oLim s.o lim else oFin s.o) ≤ oLim s.o lim ∧ ((if oLim s.o lim < oFin s.o then oLim s.o lim else oFin s.o) = oFin s.o ∨ (if oLim s.o lim < oFin s.o then oLim s.o lim else oFin s.o) = oLim s.o lim) ∧ (oLim s.o lim ≤ oFin s.o → (if oLim s.o lim < oFin s.o then oLim s.o lim else oFin s.o) = oLim s.o lim) := by
        split <;> omega
      obtain ⟨t, ht⟩ : ∃ t, t = (if oLim s.o lim < oFin s.o then oLim s.o lim else oFin s.o) := ⟨_, rfl⟩
      rw [← ht] at k4 ht2
      have hq := oLim_le (q := s.o) lim
      have hqe := qEnd_bd (q := s.o)
      have hL1 : 1 ≤ L := by rw [hL]; exact k2.len
      have hLm : L ≤ s.mss ∨ C + L = qEnd s.o := by
        by_cases hc : s.mss < t - C
        · rw [if_pos hc] at k4; left; omega
        · rw [if_neg hc] at k4; omega
      refine ⟨s', cSegm s (cPc s lim) :: ds, C', o + (if L = s.mss then 0 else 1), ?_, n2, ⟨o, k2, by rw [← hL]; exact k3, by rw [← hL]; exact hLm, by rw [← hL]; exact n3, by rw [← hL]⟩, ?_, by rw [n5, e1], by rw [n6, e2], by rw [n7, e3], by rw [n8, e6], ?_, ?_, by rw [n11, e7.1], by rw [n12, e7.2.1], by rw [n13, e7.2.2]⟩
      · rw [cLoop_go f hi, n1, List.append_assoc]; rfl
      · rw [n4]
        by_cases hc : s.mss < t - C
        · rw [if_pos hc] at k4
          rw [if_pos (by omega), if_pos hlt]
        · rw [if_neg hc] at k4
          rw [if_neg (by omega), if_pos hlt]; omega
      · by_cases hc : s.mss < t - C
        · rw [if_pos hc] at k4
          rw [if_pos k4]; exact n9
        · rw [if_neg hc] at k4
          have ho : o = 0 := by
            have : C' = C + L := by rw [n4, if_neg (by omega)]
            cases ds with
            | nil => exact n3.2
            | cons g ds =>
              obtain ⟨o', d1, _, _, d4, _⟩ := n3
              have h1 := dats_le d4
              have h2 := d1.len
              omega
          split <;> omega
      · intro hF hmod
        by_cases hc : s.mss < t - C
        · rw [if_pos hc] at k4
          rw [if_pos k4]
          refine n10 hF ?_
          rw [k4, show oLim s.o lim - (C + s.mss) = (oLim s.o lim - C) - s.mss by omega, Int.sub_emod_right]
          exact hmod
        · rw [if_neg hc] at k4
          have ho : o = 0 := by
            have : C' = C + L := by rw [n4, if_neg (by omega)]
            cases ds with
            | nil => exact n3.2
            | cons g ds =>
              obtain ⟨o', d1, _, _, d4, _⟩ := n3
              have h1 := dats_le d4
              have h2 := d1.len
              omega
          have h1 := ht2.2.2 hF
          have h2 : oLim s.o lim - C = s.mss := by
            have h3 : 0 < oLim s.o lim - C := by omega
            have h4 : oLim s.o lim - C ≤ s.mss := by omega
            rcases Int.lt_or_eq_of_le h4 with h5 | h5
            · rw [Int.emod_eq_of_lt (by omega) h5] at hmod; omega
            · exact h5
          rw [if_pos (by omega), ho]
    · have hi2 : cIsP s lim = false := by simpa using hi
      have hge : ¬ C < oLim s.o lim := by
        intro hlt
        refine hi ?_
        show oIs s.o s.o.cur lim s.mss = true
        unfold oIs
        have hm := h.m
        rw [h.cur, decide_eq_true hlt, decide_eq_true (show 1 ≤ s.mss by omega)]; rfl
      refine ⟨s, [], C, 0, ?_, h, ⟨rfl, rfl⟩, by rw [if_neg hge], rfl, rfl, rfl, rfl, Nat.zero_le _, fun _ _ => rfl, rfl, rfl, rfl⟩
      rw [cLoop_stop (f + 1) hi2, List.append_nil]
where
 dats_le {A B : KAd} {V : Int} {R : Option Int} {m Q : Int} {cl : Bool} : ∀ {l : List KSeg} {C C' : Int} {o : Nat}, Dats A B V R m Q cl l C C' o → C ≤ C'
 | [], _, _, _, h => by have := h.1; omega
 | g :: l, _, _, _, ⟨o', d1, _, _, d4, _⟩ => by have := dats_le d4; have := d1.len; omega
end
end Go.Proofs.Ytfpifahkpkjfgaa
