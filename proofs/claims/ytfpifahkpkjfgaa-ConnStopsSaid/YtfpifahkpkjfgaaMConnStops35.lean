/- What ConnStops needs, a part: CnSa, CnSb, CnSc, CnSd. -/
import Derived.Test.YtfpifahkpkjfgaaMConnStops34
namespace Go.Proofs.Ytfpifahkpkjfgaa
open Go.RowKit Go.Lib
set_option linter.unusedVariables false
set_option linter.unusedSimpArgs false
section
variable {T S : ByteArray} {fin : Bool} {q : IQ} {n a t : Nat}
theorem good_put2 {f : Bool} (hff : f = true → fin = true ∧ t = T.size) (g : Good T fin q n) (hn : n ≤ 140737488351232) (hp : PieceOf T S a t) : Good T fin (putQ q (a + 1) S f) n := by
 have hrd := g.rd
 by_cases hi : idle q (a + 1)
 ·rw [putQ_idle S _ hi]; exact g
 ·have ho := idle_open hi
  have ok' := put_ok g.ok (by omega) ((a : Int) + 1) S f
  have st' := put_stop g.ok g.stop ((a : Int) + 1) S f
  obtain ⟨o1, o2⟩ := ok_open g.ok ho
  have hr := g.ok.rd1
  obtain ⟨a1, a2, a3, a4⟩ := nxPut_is g.ok ho ((a : Int) + 1) S.size
  have hfo := finPut_or q ((a : Int) + 1) S.size f
  have hft : finPut q ((a : Int) + 1) S.size f = q.fin ∨ (fin = true ∧ finPut q ((a : Int) + 1) S.size f = T.size + 1) := by
   unfold finPut
   split
   ·rename_i h
    right
    have h1 := hff h.1.1
    have := hp.sz
    have := hp.le
    exact ⟨h1.1, by omega⟩
   ·exact .inl rfl
  have hfn : finPut q ((a : Int) + 1) S.size f = -1 ∨ (finPut q ((a : Int) + 1) S.size f = T.size + 1 ∧ fin = true) := by
   rcases hft with e | ⟨e1, e2⟩
   ·rw [e]; exact g.fn
   ·exact .inr ⟨e2, e1⟩
  have hrp : ∀ p, q.nx ≤ p → p < q.rd + 2048 → hPut q ((a : Int) + 1) S.size (p % 2048).toNat = true → p ≤ T.size ∧ rPut q ((a : Int) + 1) S (p % 2048).toNat = byteZ T (p - 1) := fun p => good_rPut g ho hp p
  have hlow := fun p => good_low g ho ((a : Int) + 1) S.size p
  have hee := end_open ho
  have hge := g.end_
  generalize hn1 : nxPut q ((a : Int) + 1) S.size = n1 at *
  have hend : n1 ≤ T.size + 1 := by
   by_cases e : n1 = q.nx
   ·omega
   ·have := (hrp (n1 - 1) (by omega) (by omega) (a3 _ (by omega) (by omega))).1
    omega
  have hgot : ∀ p, q.rd ≤ p → p < n1 → rPut q ((a : Int) + 1) S (p % 2048).toNat = byteZ T (p - 1) := by
   intro p h1 h2
   by_cases h3 : p < q.nx
   ·unfold rPut
    rw [hlow p h1 h3]
    simp only [Bool.and_false, Bool.false_eq_true, if_false]
    exact g.got p h1 (by omega)
   ·exact (hrp p (by omega) (by omega) (a3 p (by omega) h2)).2
  have hplc : ∀ p : Int, q.nx ≤ p → p < q.rd + 2048 → plc q.nx (p % 2048).toNat = p := fun p h1 h2 => plc_of _ _ _ h1 (by omega) (by omega)
  by_cases hf : n1 = finPut q ((a : Int) + 1) S.size f
  ·have hq := putQ_over (at_ := (a : Int) + 1) S f hi (by rw [hn1]; exact hf)
   rw [hn1] at hq
   rw [hq] at ok' st' ⊢
   refine ⟨ok', st', hrd, ?_, ?_, (fun h => by cases h), (fun h => by cases h), hfn, fun _ => ?_⟩
   ·rw [end_over rfl]; simp; omega
   ·intro p h1 h2
    rw [end_over rfl] at h2
    exact hgot p h1 (by simp at h2; omega)
   ·rcases hfn with e | ⟨e1, e2⟩
    ·omega
    ·exact ⟨by simp; omega, e2⟩
  ·have hq := putQ_open (at_ := (a : Int) + 1) S f hi (by rw [hn1]; exact hf)
   rw [hn1] at hq
   rw [hq] at ok' st' ⊢
   refine ⟨ok', st', hrd, ?_, ?_, ?_, ?_, hfn, (fun h => by cases h)⟩
   ·rw [end_open rfl]; exact hend
   ·intro p h1 h2
    rw [end_open rfl] at h2
    exact hgot p h1 h2
   ·intro _ p h1 h2 h3
    have h1' : n1 ≤ p := h1
    have h2' : p < q.rd + 2048 := h2
    have h3' : hAfter q ((a : Int) + 1) S.size n1 (p % 2048).toNat = true := h3
    unfold hAfter at h3'
    simp only [Bool.and_eq_true] at h3'
    exact hrp p (by omega) h2' h3'.1
   ·intro _ p h1 h2
    have h1' : q.rd ≤ p := h1
    have h2' : p < n1 := h2
    show hAfter q ((a : Int) + 1) S.size n1 (p % 2048).toNat = false
    unfold hAfter
    by_cases h3 : p < q.nx
    ·have e1 := hlow p h1' h3
     have e2 := g.low ho p h1' h3
     unfold hPut
     rw [e1, e2]; rfl
    ·rw [hplc p (by omega) (by omega)]
     simp; intro _; omega
end
theorem put_empty {q : IQ} (ok : IqOk q) (hs : Stop q) (at_ : Int) : putQ q at_ ⟨#[]⟩ false = q := by
 by_cases hi : idle q at_
 ·exact putQ_idle _ _ hi
 ·have ho := idle_open hi
  have hit : ∀ k, hitB q at_ 0 k = false := fun k => by
   unfold hitB
   exact decide_eq_false (fun h => by omega)
  have hp : hPut q at_ 0 = q.h := funext fun k => by unfold hPut; rw [hit]; exact Bool.or_false _
  have hr : rPut q at_ ⟨#[]⟩ = q.r := funext fun k => by
   unfold rPut
   rw [show hitB q at_ ((⟨#[]⟩ : ByteArray).size : Int) k = false from hit k, Bool.and_false]
   rfl
  have hs' : (q.nx = q.rd + 2048 ∨ q.h (q.nx % 2048).toNat = false) ∧ q.nx ≠ q.fin := by
   rcases hs with h | h
   ·rw [ho] at h; cases h
   ·exact h
  have hn : nxPut q at_ ((⟨#[]⟩ : ByteArray).size : Int) = q.nx := by
   obtain ⟨a1, a2, a3, a4⟩ := nxPut_is ok ho at_ 0
   show nxPut q at_ 0 = q.nx
   by_cases e : nxPut q at_ 0 = q.nx
   ·exact e
   ·have h1 := a3 q.nx (Int.le_refl _) (by omega)
    rw [hp] at h1
    rcases hs'.1 with h | h
    ·omega
    ·rw [h] at h1; cases h1
  have hf : finPut q at_ ((⟨#[]⟩ : ByteArray).size : Int) false = q.fin := by
   unfold finPut
   rw [if_neg (fun h => by cases h.1.1)]
  have e := putQ_open (at_ := at_) ⟨#[]⟩ false hi (by rw [hn, hf]; exact hs'.2)
  rw [e, hn, hf, hr]
  have ha2 : hAfter q at_ ((⟨#[]⟩ : ByteArray).size : Int) q.nx = q.h := funext fun k => by
   unfold hAfter
   rw [show hPut q at_ ((⟨#[]⟩ : ByteArray).size : Int) k = q.h k from congrFun hp k, decide_eq_true (plc_lo q.nx k), Bool.and_true]
  rw [ha2, ← ho]
theorem byteZ_app {T U : ByteArray} {i : Int} (h0' : 0 ≤ i) (h : i < T.size) : byteZ (T ++ U) i = byteZ T i := by
 unfold byteZ
 by_cases h0 : 0 ≤ i
 ·have hk : i.toNat < T.data.size := by
   have : T.data.size = T.size := rfl
   omega
  rw [ByteArray.data_append, Array.getElem?_append_left hk]
 ·exact absurd h0' h0
theorem PieceOf.grow {T S U : ByteArray} {a t : Nat} (h : PieceOf T S a t) : PieceOf (T ++ U) S a t := by
 have hl := h.lt
 have hz := h.sz
 refine ⟨h.le, by rw [ByteArray.size_append]; omega, h.sz, fun i h1 h2 => ?_⟩
 rw [h.at_ i h1 h2, byteZ_app (by omega) (by omega)]
theorem Good.grow {T U : ByteArray} {q : IQ} {n : Nat} (g : Good T false q n) : Good (T ++ U) false q n := by
 have hz : (T ++ U).size = T.size + U.size := ByteArray.size_append
 have hr := g.rd
 have he := g.end_
 have h1 := g.ok.rd1
 refine ⟨g.ok, g.stop, g.rd, by rw [hz]; omega, fun p h2 h3 => ?_, fun ho p h2 h3 h4 => ?_, g.low, ?_, fun ho => by cases (g.ov ho).2⟩
 ·rw [g.got p h2 h3, byteZ_app (by omega) (by omega)]
 ·obtain ⟨h5, h6⟩ := g.have_ ho p h2 h3 h4
  have hnx := (ok_open g.ok ho).1
  exact ⟨by rw [hz]; omega, by rw [h6, byteZ_app (by omega) (by omega)]⟩
 ·rcases g.fn with h | h
  ·exact .inl h
  ·cases h.2
theorem Good.told {T : ByteArray} {q : IQ} {n : Nat} {fin : Bool} (g : Good T fin q n) : Good T true q n := by
 refine ⟨g.ok, g.stop, g.rd, g.end_, g.got, g.have_, g.low, ?_, fun ho => ⟨(g.ov ho).1, rfl⟩⟩
 rcases g.fn with h | h
 ·exact .inl h
 ·exact .inr ⟨h.1, rfl⟩
theorem sI_app' (a b : ByteArray) : sI (a ++ b) = sI a ++ sI b := by unfold sI; rw [ByteArray.data_append, Array.toList_append, List.map_append]
theorem piece_body {q : OQ} {t : ByteArray} (ok : OqOk q) (h : Held q (sI t)) (lim mss : Int) (hi : oIs q q.cur lim mss = true) (h0 : 0 < (qPiece q q.cur lim mss).b.size) :
  1 ≤ q.cur ∧ q.cur - 1 + ((qPiece q q.cur lim mss).b.size : Int) ≤ (t.size : Int) ∧ (qPiece q q.cur lim mss).b = t.extract (q.cur - 1).toNat ((q.cur - 1).toNat + (qPiece q q.cur lim mss).b.size) := by
 have hp := piece_is ok lim mss hi
 simp only at hp
 obtain ⟨_, _, _, _, _, _, _, _, _, hb⟩ := hp
 obtain ⟨b1, b2, b3⟩ := hb h0
 have hf : oFin q = (t.size : Int) + 1 := by rw [h.fin, sI_len]
 have hba := ok.ba
 have hl := h.here
 generalize qPiece q q.cur lim mss = p at *
 refine ⟨by omega, by omega, ?_⟩
 generalize hn : p.b.size = n at *
 rw [b3]
 apply str_ext
 rw [byteS_toList, hl, List.drop_drop, ByteArray.data_extract, Array.toList_extract, List.extract_eq_take_drop]
 have e1 : (q.base - 1).toNat + (q.cur - q.base).toNat = (q.cur - 1).toNat := by omega
 have e2 : (q.cur - 1).toNat + n - (q.cur - 1).toNat = n := by omega
 rw [e1, e2]
 unfold byteL sI
 rw [← List.map_drop, ← List.map_take, List.map_map]
 conv => rhs; rw [← List.map_id (List.take n (List.drop (q.cur - 1).toNat t.data.toList))]
 refine List.map_congr_left fun b _ => ?_
 show UInt8.ofNat ((b.toNat : Int) % 256).toNat = b
 have := b.toNat_lt
 rw [show ((b.toNat : Int) % 256).toNat = b.toNat by omega]
 exact UInt8.ofNat_toNat
structure Hd (c : KCn) (T : ByteArray) (s : Bool) : Prop where
 held : Held c.o (sI T)
 cl : c.o.cl = true → s = true
 sh : s = true → c.o.cl = true ∨ c.st = 0
theorem Hd.size {c : KCn} {T : ByteArray} {s : Bool} (h : Hd c T s) : oFin c.o = (T.size : Int) + 1 := by rw [h.held.fin, sI_len]
theorem Hd.of {c c' : KCn} {T : ByteArray} {s : Bool} (h : Hd c T s) (hl : c'.o.l = c.o.l) (hb : c'.o.base = c.o.base) (hc : c'.o.cl = c.o.cl) (hs : c.st = 0 → c'.st = 0) : Hd c' T s := by
 refine ⟨⟨?_, ?_⟩, by rw [hc]; exact h.cl, fun e => ?_⟩
 ·unfold oFin
  rw [hl, hb]
  exact h.held.fin
 ·rw [hl, hb]
  exact h.held.here
 ·rcases h.sh e with h1 | h1
  ·exact .inl (hc.trans h1)
  ·exact .inr (hs h1)
structure SegAt (T : ByteArray) (s : Bool) (iss lim : Int) (g : KSeg) (at_ : Int) : Prop where
 seq : g.seq = u32 (iss + at_)
 lo : 0 ≤ at_
 hi : at_ ≤ T.size + 2
 sz : g.b.size ≤ 1000
 body : 0 < g.b.size → 1 ≤ at_ ∧ at_ - 1 + g.b.size ≤ T.size ∧ at_ + g.b.size ≤ lim ∧ PieceOf T g.b (at_ - 1).toNat ((at_ - 1).toNat + g.b.size)
 fin : g.fin = true → s = true ∧ 1 ≤ at_ ∧ at_ - 1 + g.b.size = T.size
 syn : g.syn = true → at_ = 0 ∧ g.fin = false ∧ g.b.size = 0
theorem SegAt.grow {T U : ByteArray} {iss lim : Int} {g : KSeg} {at_ : Int} (h : SegAt T false iss lim g at_) : SegAt (T ++ U) false iss lim g at_ := by
 have hz : (T ++ U).size = T.size + U.size := ByteArray.size_append
 have h3 := h.hi
 refine ⟨h.seq, h.lo, by rw [hz]; omega, h.sz, fun h0 => ?_, fun hf => (by cases (h.fin hf).1), h.syn⟩
 obtain ⟨h1, h2, h4, h5⟩ := h.body h0
 exact ⟨h1, by rw [hz]; omega, h4, h5.grow⟩
theorem SegAt.told {T : ByteArray} {s : Bool} {iss lim : Int} {g : KSeg} {at_ : Int} (h : SegAt T s iss lim g at_) : SegAt T true iss lim g at_ :=
 ⟨h.seq, h.lo, h.hi, h.sz, h.body, fun hf => ⟨rfl, (h.fin hf).2⟩, h.syn⟩
theorem SegAt.lim {T : ByteArray} {s : Bool} {iss lim lim' : Int} {g : KSeg} {at_ : Int} (h : SegAt T s iss lim g at_) (hl : lim ≤ lim') : SegAt T s iss lim' g at_ :=
 ⟨h.seq, h.lo, h.hi, h.sz, fun h0 => (by have := h.body h0; exact ⟨this.1, this.2.1, by omega, this.2.2.2⟩), h.fin, h.syn⟩
structure SegFl (c : KCn) (g : KSeg) : Prop where
 no : c.h = none → g.has = false ∧ g.ack = 0 ∧ g.win = 2048
 yes : ∀ q d, c.h = some (q, d) → g.has = true ∧ g.ack = u32 (c.irs + q.nx) ∧ g.win = 2048 - (endZ q - q.rd)
 mss : g.mss = if g.syn = true then c.own else 0
 syn : g.syn = true → g.fin = false ∧ g.b.size = 0
 rst : g.rst = false
structure SegRs (g : KSeg) : Prop where
 rst : g.rst = true
 b : g.b.size = 0
 fin : g.fin = false
 syn : g.syn = false
 has : g.has = false
 ack : g.ack = 0
 win : g.win = 0
 mss : g.mss = 0
 seq : 0 ≤ g.seq ∧ g.seq ≤ 4294967295
def SegOut (T : ByteArray) (s : Bool) (c : KCn) (lim : Int) (g : KSeg) : Prop :=
 (g.fa = c.la ∧ g.fp = c.lp ∧ g.ta = c.ra ∧ g.tp = c.rp) ∧ (SegRs g ∨ (SegFl c g ∧ ∃ at_, SegAt T s c.iss lim g at_))
structure Sm (c c' : KCn) : Prop where
 la : c'.la = c.la
 lp : c'.lp = c.lp
 ra : c'.ra = c.ra
 rp : c'.rp = c.rp
 st : c'.st = c.st
 iss : c'.iss = c.iss
 irs : c'.irs = c.irs
 own : c'.own = c.own
 mss : c'.mss = c.mss
 wnd : c'.wnd = c.wnd
 h : c'.h = c.h
 l : c'.o.l = c.o.l
 base : c'.o.base = c.o.base
 una : c'.o.una = c.o.una
 cl : c'.o.cl = c.o.cl
theorem Sm.refl (c : KCn) : Sm c c := ⟨rfl, rfl, rfl, rfl, rfl, rfl, rfl, rfl, rfl, rfl, rfl, rfl, rfl, rfl, rfl⟩
theorem Sm.trans {a b c : KCn} (h : Sm a b) (k : Sm b c) : Sm a c :=
 ⟨k.la.trans h.la, k.lp.trans h.lp, k.ra.trans h.ra, k.rp.trans h.rp, k.st.trans h.st, k.iss.trans h.iss, k.irs.trans h.irs, k.own.trans h.own, k.mss.trans h.mss, k.wnd.trans h.wnd, k.h.trans h.h, k.l.trans h.l, k.base.trans h.base, k.una.trans h.una, k.cl.trans h.cl⟩
theorem Hd.sm {c c' : KCn} {T : ByteArray} {s : Bool} (h : Hd c T s) (k : Sm c c') : Hd c' T s := h.of k.l k.base k.cl (fun e => k.st.trans e)
theorem cStep_sm (c : KCn) (lim : Int) : Sm c (cStep c lim) := by
 unfold cStep
 split <;> exact ⟨rfl, rfl, rfl, rfl, rfl, rfl, rfl, rfl, rfl, rfl, rfl, rfl, rfl, rfl, rfl⟩
theorem bare_fl (c : KCn) (at_ : Int) : SegFl c (cBare c at_) ∧ ((cBare c at_).fa = c.la ∧ (cBare c at_).fp = c.lp ∧ (cBare c at_).ta = c.ra ∧ (cBare c at_).tp = c.rp) ∧ (cBare c at_).seq = u32 (c.iss + at_) ∧ (cBare c at_).b.size = 0 ∧ (cBare c at_).fin = false := by
  unfold cBare
  cases hh : c.h with
  | none => exact ⟨⟨fun _ => ⟨rfl, rfl, rfl⟩, fun q d e => (by rw [hh] at e; cases e), rfl, fun e => (by cases e), rfl⟩, ⟨rfl, rfl, rfl, rfl⟩, u32_add _ _, rfl, rfl⟩
  | some x =>
    obtain ⟨q, d⟩ := x
    refine ⟨⟨fun e => (by rw [hh] at e; cases e), fun q' d' e => ?_, rfl, fun e => (by cases e), rfl⟩, ⟨rfl, rfl, rfl, rfl⟩, u32_add _ _, rfl, rfl⟩
    rw [hh] at e
    injection e with e
    injection e with e1 e2
    subst e1 e2
    exact ⟨rfl, u32_add _ _, rfl⟩
theorem piece_seg {c : KCn} {T : ByteArray} {s : Bool} (hd : Hd c T s) (ok : OqOk c.o) (hm : c.mss ≤ 1000) (lim : Int) (hi : oIs c.o c.o.cur lim c.mss = true) :
  SegOut T s c lim (cSegm c (qPiece c.o c.o.cur lim c.mss)) := by
 obtain ⟨p1, p2, p3, p4, p5, p6, p7, p8, p9, p10⟩ := piece_is ok lim c.mss hi
 have hb := piece_body ok hd.held lim c.mss hi
 have hsz := hd.size
 have hcur : 0 ≤ c.o.cur := by have h1 := ok.uc; have h2 := ok.cs; omega
 have hcl := hd.cl
 generalize qPiece c.o c.o.cur lim c.mss = p at *
 obtain ⟨f1, f2, f3, f4, f5⟩ := bare_fl c p.at_
 refine ⟨f2, .inr ⟨⟨f1.no, f1.yes, rfl, fun e => ?_, f1.rst⟩, p.at_, f3, by omega, by omega, ?_, fun h0 => ?_, fun hf => ?_, fun e => ?_⟩⟩
 ·obtain ⟨e1, e2⟩ := p8 e
  exact ⟨e1, by show p.b.size = 0; rw [e2]; rfl⟩
 ·show p.b.size ≤ 1000
  omega
 ·have h0' : 0 < p.b.size := h0
  obtain ⟨h1, h2, h3⟩ := hb h0'
  have hlen : (p.b.size : Int) ≤ oLen p := by unfold oLen; split <;> split <;> omega
  show 1 ≤ p.at_ ∧ p.at_ - 1 + (p.b.size : Int) ≤ T.size ∧ p.at_ + p.b.size ≤ lim ∧ PieceOf T p.b (p.at_ - 1).toNat ((p.at_ - 1).toNat + p.b.size)
  rw [p1]
  refine ⟨h1, h2, by omega, ?_⟩
  conv => arg 2; rw [h3]
  exact piece_extract T _ _ (by omega) (by omega)
 ·have hf' : p.fin = true := hf
  obtain ⟨e1, e2⟩ := p9 hf'
  show s = true ∧ 1 ≤ p.at_ ∧ p.at_ - 1 + (p.b.size : Int) = T.size
  have h1 : c.o.cur ≠ 0 := fun e => by
   have h2 := (p8 (by rw [p3, e]; rfl)).1
   rw [hf'] at h2; cases h2
  exact ⟨hcl e1, by omega, by omega⟩
 ·obtain ⟨e1, e2⟩ := p8 e
  have e3 : p.syn = true := e
  rw [p3] at e3
  have e4 := of_decide_eq_true e3
  exact ⟨by rw [p1]; exact e4, e1, by show p.b.size = 0; rw [e2]; rfl⟩
theorem SegOut.sm {T : ByteArray} {s : Bool} {c c' : KCn} {lim : Int} {g : KSeg} (k : Sm c c') (h : SegOut T s c' lim g) : SegOut T s c lim g := by
 obtain ⟨⟨a1, a2, a3, a4⟩, b⟩ := h
 refine ⟨⟨a1.trans k.la, a2.trans k.lp, a3.trans k.ra, a4.trans k.rp⟩, ?_⟩
 rcases b with b | ⟨f, at_, b⟩
 ·exact .inl b
 ·refine .inr ⟨⟨fun e => f.no (k.h.trans e), fun q d e => ?_, by rw [f.mss, k.own], f.syn, f.rst⟩, at_, by rw [← k.iss]; exact b⟩
  have := f.yes q d (k.h.trans e)
  rw [k.irs] at this
  exact this
theorem SegOut.lim {T : ByteArray} {s : Bool} {c : KCn} {lim lim' : Int} {g : KSeg} (h : SegOut T s c lim g) (hl : lim ≤ lim') : SegOut T s c lim' g := by
 obtain ⟨a, b⟩ := h
 refine ⟨a, ?_⟩
 rcases b with b | ⟨f, at_, b⟩
 ·exact .inl b
 ·exact .inr ⟨f, at_, b.lim hl⟩
theorem loop_segs {T : ByteArray} {s : Bool} {lim L : Int} (hL : lim ≤ L) : ∀ (f : Nat) (c0 c : KCn) (l : List KSeg), Hd c0 T s → Sm c0 c → OqOk c.o → c.mss ≤ 1000 → c.o.sent ≤ L → (∀ g ∈ l, SegOut T s c0 L g) →
    Sm c0 (cLoop f c lim l).1 ∧ OqOk (cLoop f c lim l).1.o ∧ (cLoop f c lim l).1.o.sent ≤ L ∧ ∀ g ∈ (cLoop f c lim l).2, SegOut T s c0 L g
  | 0, c0, c, l, hd, k, ok, hm, hs, hl => ⟨k, ok, hs, hl⟩
  | f + 1, c0, c, l, hd, k, ok, hm, hs, hl => by
    unfold cLoop
    split
    · rename_i hi
      have hk2 := cStep_sm c lim
      have ho := (cStep_h c lim).2.1
      have hp := piece_is ok lim c.mss hi
      simp only at hp
      obtain ⟨_, _, _, _, p5, _⟩ := hp
      have ok2 : OqOk (cStep c lim).o := by rw [ho]; exact next_ok ok lim c.mss
      have hs2 : (cStep c lim).o.sent ≤ L := by
        rw [ho]
        show (if c.o.sent < c.o.cur + oLen (qPiece c.o c.o.cur lim c.mss) then c.o.cur + oLen (qPiece c.o c.o.cur lim c.mss) else c.o.sent) ≤ L
        split <;> omega
      refine loop_segs hL f c0 (cStep c lim) _ hd (k.trans hk2) ok2 (by rw [hk2.mss]; exact hm) hs2 fun g hg => ?_
      rcases List.mem_append.1 hg with hg | hg
      · exact hl g hg
      · rw [List.mem_singleton.1 hg]
        exact ((piece_seg (hd.sm k) ok hm lim hi).sm k).lim hL
    · exact ⟨k, ok, hs, hl⟩
def oL (c : KCn) : Int := if cLimit c < c.o.sent then c.o.sent else cLimit c
theorem out_segs {c : KCn} {t : Int} {T : ByteArray} {s : Bool} (h : CI c t) (hd : Hd c T s) :
  (∀ g ∈ (cOut c).2, SegOut T s c (oL c) g) ∧ Sm c (cOut c).1 ∧ OqOk (cOut c).1.o ∧ (cOut c).1.o.sent ≤ oL c := by
 have k0 : Sm c { c with rs := [] } := ⟨rfl, rfl, rfl, rfl, rfl, rfl, rfl, rfl, rfl, rfl, rfl, rfl, rfl, rfl, rfl⟩
 have hL1 : cLimit c ≤ oL c := by unfold oL; split <;> omega
 have hL2 : c.o.sent ≤ oL c := by unfold oL; split <;> omega
 have hrs : ∀ g ∈ c.rs.map (cRst c), SegOut T s c (oL c) g := by
  intro g hg
  obtain ⟨n, hn, rfl⟩ := List.mem_map.1 hg
  exact ⟨⟨rfl, rfl, rfl, rfl⟩, .inl ⟨rfl, rfl, rfl, rfl, rfl, rfl, rfl, rfl, h.rsu n hn⟩⟩
 unfold cOut
 dsimp only
 split
 ·exact ⟨hrs, k0, h.o, hL2⟩
 ·have hf : ∀ g ∈ cFirstL { c with rs := [] } (c.rs.map (cRst c)), SegOut T s c (oL c) g := by
   unfold cFirstL
   split
   ·rename_i hi
    intro g hg
    rcases List.mem_append.1 hg with hg | hg
    ·exact hrs g hg
    ·rw [List.mem_singleton.1 hg]
     have k1 : Sm c { c with rs := [], o := { c.o with cur := c.o.una } } := ⟨rfl, rfl, rfl, rfl, rfl, rfl, rfl, rfl, rfl, rfl, rfl, rfl, rfl, rfl, rfl⟩
     have h1 := piece_seg (hd.sm k1) (back_ok h.o) h.m.2 c.o.sent hi.2
     exact (h1.sm k1).lim hL2
   ·exact hrs
  have hl := loop_segs (T := T) (s := s) (lim := cLimit { c with rs := [] }) (L := oL c) hL1 2100 c { c with rs := [] } _ hd k0 h.o h.m.2 hL2 hf
  obtain ⟨x, hx⟩ : ∃ z, z = cLoop 2100 { c with rs := [] } (cLimit { c with rs := [] }) (cFirstL { c with rs := [] } (c.rs.map (cRst c))) := ⟨_, rfl⟩
  rw [← hx] at hl ⊢
  obtain ⟨k2, ok2, hs2, hg2⟩ := hl
  have hb : SegOut T s c (oL c) (cBare x.1 x.1.o.sent) := by
   obtain ⟨f1, f2, f3, f4, f5⟩ := bare_fl x.1 x.1.o.sent
   have f6 : (cBare x.1 x.1.o.sent).syn = false := by unfold cBare; split <;> rfl
   have hsz := (hd.sm k2).size
   have he := ok2.ee
   have hq := qEnd_bd (q := x.1.o)
   have h1 := ok2.uc
   have h2 := ok2.cs
   have h3 := ok2.se
   have h4 : SegOut T s x.1 (oL c) (cBare x.1 x.1.o.sent) :=
    ⟨f2, .inr ⟨f1, x.1.o.sent, f3, by omega, by omega, by omega, fun h0 => (by omega), fun h0 => (by rw [f5] at h0; cases h0), fun h0 => (by rw [f6] at h0; cases h0)⟩⟩
   exact h4.sm k2
  have hl3 : ∀ g ∈ (cTail x (c.rs.map (cRst c)).length).2, SegOut T s c (oL c) g := by
   unfold cTail
   dsimp only
   split
   ·intro g hg
    rcases List.mem_append.1 hg with hg | hg
    ·exact hg2 g hg
    ·rw [List.mem_singleton.1 hg]; exact hb
   ·exact hg2
  refine ⟨hl3, ?_⟩
  have e : ∃ ow, (cTail x (c.rs.map (cRst c)).length).1 = cSettle { x.1 with owed := ow, again := false, probe := false } := ⟨_, rfl⟩
  obtain ⟨ow, e⟩ := e
  rw [e]
  obtain ⟨y, e2, _⟩ := cSettle_is { x.1 with owed := ow, again := false, probe := false }
  have k3 : Sm x.1 (cSettle { x.1 with owed := ow, again := false, probe := false }) := by
   rw [e2]
   exact ⟨rfl, rfl, rfl, rfl, rfl, rfl, rfl, rfl, rfl, rfl, rfl, rfl, rfl, rfl, rfl⟩
  refine ⟨k2.trans k3, ?_, ?_⟩
  ·rw [e2]; exact ok2
  ·rw [e2]; exact hs2
structure Wn (c : KCn) (td : Bool) (E : Int) : Prop where
 wn : 1 ≤ c.o.una → td = true ∧ c.o.una + c.wnd ≤ E
 se : c.o.sent ≤ 1 ∨ (td = true ∧ c.o.sent ≤ E + 1)
theorem Wn.limit {c : KCn} {td : Bool} {E t : Int} (h : Wn c td E) (hc : CI c t) : cLimit c ≤ 1 ∨ (td = true ∧ cLimit c ≤ E + 1) := by
  by_cases h0 : c.o.una = 0
  · exact .inl (by unfold cLimit; rw [if_pos h0]; exact Int.le_refl 1)
  · have hu := hc.o.uc
    obtain ⟨h1, h2⟩ := h.wn (by omega)
    have hw := hc.w
    refine .inr ⟨h1, ?_⟩
    unfold cLimit
    rw [if_neg h0]
    dsimp only
    cases hh : c.h with
    | none => exact absurd (hc.hn hh) h0
    | some x =>
      obtain ⟨q, d⟩ := x
      simp only
      by_cases a : d.s < c.wnd
      · rw [if_pos a]; split
        · split <;> omega
        · omega
      · rw [if_neg a]; split
        · split <;> omega
        · omega
theorem Wn.oL {c : KCn} {td : Bool} {E t : Int} (h : Wn c td E) (hc : CI c t) : oL c ≤ 1 ∨ (td = true ∧ oL c ≤ E + 1) := by
 have h1 := h.limit hc
 have h2 := h.se
 unfold Go.Proofs.Ytfpifahkpkjfgaa.oL
 split
 ·exact h2
 ·exact h1
theorem Wn.out {c : KCn} {td : Bool} {E t : Int} {T : ByteArray} {s : Bool} (h : Wn c td E) (hc : CI c t) (hd : Hd c T s) : Wn (cOut c).1 td E := by
 obtain ⟨_, k, _, hs⟩ := out_segs hc hd
 have h1 := h.oL hc
 refine ⟨fun hu => ?_, ?_⟩
 ·rw [k.una] at hu ⊢
  rw [k.wnd]
  exact h.wn hu
 ·rcases h1 with h1 | ⟨h1, h2⟩
  ·exact .inl (by omega)
  ·exact .inr ⟨h1, by omega⟩
theorem Wn.mono {c : KCn} {td : Bool} {E E' : Int} (h : Wn c td E) (hE : E ≤ E') : Wn c td E' := by
 refine ⟨fun hu => ?_, ?_⟩
 ·have := h.wn hu; exact ⟨this.1, by omega⟩
 ·rcases h.se with h1 | h1
  ·exact .inl h1
  ·exact .inr ⟨h1.1, by omega⟩
theorem Wn.told {c : KCn} {td : Bool} {E : Int} (h : Wn c td E) : Wn c true E :=
 ⟨fun hu => ⟨rfl, (h.wn hu).2⟩, h.se.imp id fun h1 => ⟨rfl, h1.2⟩⟩
theorem Wn.seg {c : KCn} {td : Bool} {E t : Int} {T : ByteArray} {s : Bool} {g : KSeg} {at_ : Int} (h : Wn c td E) (hc : CI c t) (hg : SegAt T s c.iss (Go.Proofs.Ytfpifahkpkjfgaa.oL c) g at_) (h0 : 0 < g.b.size) : td = true ∧ at_ + g.b.size ≤ E + 1 := by
 obtain ⟨h1, h2, h3, _⟩ := hg.body h0
 rcases h.oL hc with h4 | ⟨h4, h5⟩
 ·omega
 ·exact ⟨h4, by omega⟩
theorem ba_emp {b : ByteArray} (h : ¬ 0 < b.size) : b = ⟨#[]⟩ := ByteArray.size_eq_zero_iff.1 (by omega)
structure KAd where
 la : Int
 lp : Int
 ra : Int
 rp : Int
 iss : Int
structure AdOk (A : KAd) (c : KCn) : Prop where
 la : c.la = A.la
 lp : c.lp = A.lp
 ra : c.ra = A.ra
 rp : c.rp = A.rp
 iss : c.iss = A.iss
structure Cx (A : KAd) (c : KCn) (T : ByteArray) (s td : Bool) (E : Int) (TS : ByteArray) (fS : Bool) (n : Nat) (siss : Int) : Prop where
 ad : AdOk A c
 hd : Hd c T s
 wn : Wn c td E
 good : ∀ q d, c.h = some (q, d) → Good TS fS q n ∧ c.irs = siss
 emp : c.h = none → n = 0
structure Sx (c c' : KCn) : Prop where
 la : c'.la = c.la
 lp : c'.lp = c.lp
 ra : c'.ra = c.ra
 rp : c'.rp = c.rp
 iss : c'.iss = c.iss
 irs : c'.irs = c.irs
 l : c'.o.l = c.o.l
 base : c'.o.base = c.o.base
 cl : c'.o.cl = c.o.cl
 una : c'.o.una = c.o.una
 sent : c'.o.sent = c.o.sent
 wnd : c'.wnd = c.wnd
 hq : ∀ q d', c'.h = some (q, d') → ∃ d, c.h = some (q, d)
 hn : c'.h = none → c.h = none
 st : c.st = 0 → c'.st = 0
section
variable {A : KAd} {c c' : KCn} {T TS : ByteArray} {s td fS : Bool} {E siss : Int} {n : Nat}
theorem Sx.refl (c : KCn) : Sx c c := ⟨rfl, rfl, rfl, rfl, rfl, rfl, rfl, rfl, rfl, rfl, rfl, rfl, fun q d e => ⟨d, e⟩, id, id⟩
theorem AdOk.sx (h : AdOk A c) (k : Sx c c') : AdOk A c' := ⟨k.la.trans h.la, k.lp.trans h.lp, k.ra.trans h.ra, k.rp.trans h.rp, k.iss.trans h.iss⟩
theorem Cx.sx (h : Cx A c T s td E TS fS n siss) (k : Sx c c') : Cx A c' T s td E TS fS n siss := by
 refine ⟨h.ad.sx k, h.hd.of k.l k.base k.cl k.st, ⟨fun hu => ?_, ?_⟩, fun q d e => ?_, fun e => h.emp (k.hn e)⟩
 ·rw [k.una] at hu ⊢
  rw [k.wnd]
  exact h.wn.wn hu
 ·rw [k.sent]
  exact h.wn.se
 ·obtain ⟨d', e'⟩ := k.hq q d e
  rw [k.irs]
  exact h.good q d' e'
theorem Cx.settle (h : Cx A c T s td E TS fS n siss) : Cx A (cSettle c) T s td E TS fS n siss := by
 obtain ⟨x, e, _⟩ := cSettle_is c
 rw [e]
 exact h.sx ⟨rfl, rfl, rfl, rfl, rfl, rfl, rfl, rfl, rfl, rfl, rfl, rfl, fun q d e => ⟨d, e⟩, id, id⟩
theorem Cx.closed (h : Cx A c T s td E TS fS n siss) (y : Int) : Cx A (cClosed c y) T s td E TS fS n siss :=
 h.sx ⟨rfl, rfl, rfl, rfl, rfl, rfl, rfl, rfl, rfl, rfl, rfl, rfl, fun q d e => ⟨d, e⟩, id, fun _ => rfl⟩
theorem Cx.wait (h : Cx A c T s td E TS fS n siss) (h0 : c.st ≠ 0) : Cx A (cWait c) T s td E TS fS n siss :=
 h.sx ⟨rfl, rfl, rfl, rfl, rfl, rfl, rfl, rfl, rfl, rfl, rfl, rfl, fun q d e => ⟨d, e⟩, id, fun e => absurd e h0⟩
theorem Cx.state (h : Cx A c T s td E TS fS n siss) (h0 : c.st ≠ 0) (x : Int) : Cx A { c with st := x } T s td E TS fS n siss :=
 h.sx ⟨rfl, rfl, rfl, rfl, rfl, rfl, rfl, rfl, rfl, rfl, rfl, rfl, fun q d e => ⟨d, e⟩, id, fun e => absurd e h0⟩
theorem Cx.owed (h : Cx A c T s td E TS fS n siss) (b : Bool) : Cx A { c with owed := b } T s td E TS fS n siss :=
 h.sx ⟨rfl, rfl, rfl, rfl, rfl, rfl, rfl, rfl, rfl, rfl, rfl, rfl, fun q d e => ⟨d, e⟩, id, id⟩
theorem Cx.rst (h : Cx A c T s td E TS fS n siss) (l : List Int) : Cx A { c with rs := l } T s td E TS fS n siss :=
 h.sx ⟨rfl, rfl, rfl, rfl, rfl, rfl, rfl, rfl, rfl, rfl, rfl, rfl, fun q d e => ⟨d, e⟩, id, id⟩
theorem Cx.same (h : Cx A c T s td E TS fS n siss) (g : KSeg) : Cx A (cSame c g) T s td E TS fS n siss := by
  unfold cSame
  split
  · refine h.sx ⟨rfl, rfl, rfl, rfl, rfl, rfl, rfl, rfl, rfl, rfl, rfl, rfl, fun q d' e => ?_, fun e => ?_, id⟩
    · have e4 : c.h.map _ = some (q, d') := e
      cases hx : c.h with
      | none => rw [hx] at e4; cases e4
      | some x =>
        rw [hx] at e4
        injection e4 with e5
        injection e5 with e6 e7
        exact ⟨x.2, by rw [← e6]⟩
    · have e4 : c.h.map _ = none := e
      cases hx : c.h with
      | none => rfl
      | some x => rw [hx] at e4; cases e4
  · exact h.sx ⟨rfl, rfl, rfl, rfl, rfl, rfl, rfl, rfl, rfl, rfl, rfl, rfl, fun q d e => ⟨d, e⟩, id, id⟩
theorem Cx.ackd (h : Cx A c T s td E TS fS n siss) (h0 : c.st ≠ 0) (ok : OqOk c.o) {a win at_ : Int} (ha : c.o.una < a) (hs : a ≤ c.o.sent) (hE : td = true ∧ a + win ≤ E) (x y : Int) :
    Cx A { cAckd c a with wnd := win, wat := x, wak := y } T s td E TS fS n siss := by
  have hh : oHit c.o a = true := by unfold oHit; rw [decide_eq_true ha, decide_eq_true hs]; rfl
  have e1 : (oAck c.o a).una = a ∧ (oAck c.o a).sent = c.o.sent ∧ (oAck c.o a).cl = c.o.cl := by unfold oAck; rw [if_pos hh]; exact ⟨rfl, rfl, rfl⟩
  refine ⟨⟨h.ad.la, h.ad.lp, h.ad.ra, h.ad.rp, h.ad.iss⟩, ⟨ack_held ok h.hd.held a, fun e => h.hd.cl (e1.2.2.symm.trans e), fun e => ?_⟩, ⟨fun _ => ⟨hE.1, ?_⟩, ?_⟩, fun q d e => ?_, fun e => h.emp ?_⟩
  · rcases h.hd.sh e with h1 | h1
    · exact .inl (e1.2.2.trans h1)
    · exact absurd h1 h0
  · show (oAck c.o a).una + win ≤ E
    rw [e1.1]; exact hE.2
  · show (oAck c.o a).sent ≤ 1 ∨ (td = true ∧ (oAck c.o a).sent ≤ E + 1)
    rw [e1.2.1]; exact h.wn.se
  · have e4 : c.h.map (fun x => (x.1, cAckW x.2 (cMany c.o a))) = some (q, d) := e
    cases hx : c.h with
    | none => rw [hx] at e4; cases e4
    | some x =>
      rw [hx] at e4
      injection e4 with e5
      injection e5 with e6 e7
      have := h.good x.1 x.2 hx
      rw [e6] at this
      exact this
  · have e4 : c.h.map (fun x => (x.1, cAckW x.2 (cMany c.o a))) = none := e
    cases hx : c.h with
    | none => rfl
    | some x => rw [hx] at e4; cases e4
theorem Cx.wnd (h : Cx A c T s td E TS fS n siss) {win : Int} (hE : 1 ≤ c.o.una → td = true ∧ c.o.una + win ≤ E) (x y : Int) : Cx A { c with wnd := win, wat := x, wak := y } T s td E TS fS n siss :=
 ⟨⟨h.ad.la, h.ad.lp, h.ad.ra, h.ad.rp, h.ad.iss⟩, ⟨h.hd.held, h.hd.cl, h.hd.sh⟩, ⟨hE, h.wn.se⟩, h.good, h.emp⟩
theorem Cx.acks2 (h : Cx A c T s td E TS fS n siss) (h0 : c.st ≠ 0) (ok : OqOk c.o) (g : KSeg) (at_ a : Int) (hE : td = true ∧ a + g.win ≤ E) :
  Cx A (cAcks2 c g at_ a).1 T s td E TS fS n siss ∧ ((cAcks2 c g at_ a).2 = true → (cAcks2 c g at_ a).1.st ≠ 0) := by
 by_cases hs : c.o.sent < a
 ·unfold cAcks2
  rw [if_pos hs]
  exact ⟨h.owed true, fun e => by cases e⟩
 ·obtain ⟨c1, h1⟩ : ∃ z : KCn, z = if c.o.una < a then cAckd c a else if a = c.o.una ∧ sgLen g = 0 ∧ c.o.una < c.o.cur ∧ g.win = c.wnd then cSame c g else c := ⟨_, rfl⟩
  obtain ⟨c2, h2⟩ : ∃ z : KCn, z = if c.o.una < a ∨ (a = c.o.una ∧ (c.wat < at_ ∨ (at_ = c.wat ∧ c.wak ≤ a))) then { c1 with wnd := g.win, wat := at_, wak := a } else c1 := ⟨_, rfl⟩
  rw [acks2_of hs h1 h2]
  have k : Cx A c2 T s td E TS fS n siss ∧ c2.st = c.st := by
   by_cases hu : c.o.una < a
   ·rw [if_pos hu] at h1
    rw [if_pos (.inl hu), h1] at h2
    rw [h2]
    exact ⟨h.ackd (at_ := at_) h0 ok hu (by omega) hE at_ a, rfl⟩
   ·rw [if_neg hu] at h1
    have k1 : Cx A c1 T s td E TS fS n siss ∧ c1.o = c.o ∧ c1.st = c.st := by
     rw [h1]
     split
     ·exact ⟨h.same g, by unfold cSame; split <;> rfl, by unfold cSame; split <;> rfl⟩
     ·exact ⟨h, rfl, rfl⟩
    rw [h2]
    split
    ·rename_i hc
     rcases hc with hc | hc
     ·exact absurd hc hu
     ·exact ⟨k1.1.wnd (fun _ => by rw [k1.2.1, ← hc.1]; exact hE) at_ a, k1.2.2⟩
    ·exact ⟨k1.1, k1.2.2⟩
  have k0 : c2.st ≠ 0 := by rw [k.2]; exact h0
  split
  ·split
   ·exact ⟨k.1.state k0 5, fun _ => (by decide : (5 : Int) ≠ 0)⟩
   ·split
    ·exact ⟨k.1.wait k0, fun _ => (by decide : (9 : Int) ≠ 0)⟩
    ·split
     ·exact ⟨k.1.closed 0, fun e => by cases e⟩
     ·exact ⟨k.1, fun _ => k0⟩
  ·exact ⟨k.1, fun _ => k0⟩
theorem Cx.takes (h : Cx A c T s td E TS fS n siss) (h0 : c.st ≠ 0) (hts : TS.size ≤ 1048576) {g : KSeg} {p lim : Int} (hg : SegAt TS fS siss lim g p) : Cx A (cTakes c g p) T s td E TS fS n siss := by
  have key : Cx A { c with h := c.h.map fun x => (putQ x.1 p g.b g.fin, x.2) } T s td E TS fS n siss := by
    refine ⟨⟨h.ad.la, h.ad.lp, h.ad.ra, h.ad.rp, h.ad.iss⟩, ⟨h.hd.held, h.hd.cl, h.hd.sh⟩, ⟨h.wn.wn, h.wn.se⟩, fun q d e => ?_, fun e => h.emp ?_⟩
    · have e4 : c.h.map (fun x => (putQ x.1 p g.b g.fin, x.2)) = some (q, d) := e
      cases hx : c.h with
      | none => rw [hx] at e4; cases e4
      | some x =>
        rw [hx] at e4
        injection e4 with e5
        injection e5 with e6 e7
        obtain ⟨gd, hi⟩ := h.good x.1 x.2 hx
        refine ⟨?_, hi⟩
        rw [← e6]
        have hn : n ≤ 140737488351232 := by
          have h1 := gd.rd
          have h2 := gd.end_
          have h3 := (end_bd x.1 gd.ok).1
          omega
        by_cases hz : 0 < g.b.size
        · obtain ⟨b1, b2, b3, b4⟩ := hg.body hz
          have := good_put2 (f := g.fin) (fun hf => by
            obtain ⟨f1, f2, f3⟩ := hg.fin hf
            exact ⟨f1, by omega⟩) gd hn b4
          rw [show (((p - 1).toNat : Nat) : Int) + 1 = p by omega] at this
          exact this
        · have hb : g.b = ⟨#[]⟩ := ba_emp hz
          cases hf : g.fin with
          | true =>
            obtain ⟨f1, f2, f3⟩ := hg.fin hf
            have hp : PieceOf TS g.b (p - 1).toNat (p - 1).toNat := ⟨Nat.le_refl _, by omega, by omega, fun i h1 h2 => by omega⟩
            have := good_put2 (f := true) (fun _ => ⟨f1, by omega⟩) gd hn hp
            rw [show (((p - 1).toNat : Nat) : Int) + 1 = p by omega] at this
            exact this
          | false =>
            rw [hb, put_empty gd.ok gd.stop]
            exact gd
    · have e4 : c.h.map (fun x => (putQ x.1 p g.b g.fin, x.2)) = none := e
      cases hx : c.h with
      | none => rfl
      | some x => rw [hx] at e4; cases e4
  unfold cTakes
  refine Cx.owed (c := cTakes1 c g p) ?_ _
  unfold cTakes1
  split
  · dsimp only
    split
    · split
      · exact key.state h0 6
      · split
        · exact key.state h0 7
        · exact key.wait h0
    · exact key
  · split
    · exact h.wait h0
    · exact h
end
end Go.Proofs.Ytfpifahkpkjfgaa
