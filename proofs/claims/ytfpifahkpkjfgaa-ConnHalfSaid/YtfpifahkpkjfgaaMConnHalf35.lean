/- What ConnHalf needs, a part: CnQp, CnSa, CnSb, CnSc. -/
import Derived.Test.YtfpifahkpkjfgaaMZ
import Derived.Test.YtfpifahkpkjfgaaMConnHalf2
import Derived.Test.YtfpifahkpkjfgaaMConnHalf34
/- conn: what always holds of a pair's own words (plain). -/
namespace Go.Proofs.Ytfpifahkpkjfgaa
open Go.RowKit Go.Lib
set_option linter.unusedVariables false
set_option linter.unusedSimpArgs false
/-- what always holds of a pair's own words -/
structure POk (p : KPa) : Prop where
 e0 : 0 ≤ p.e0 ∧ p.e0 ≤ 4294967295
 e1 : 0 ≤ p.e1 ∧ p.e1 ≤ 4294967295
theorem sdTell_t (p : KPa) (g : KSeg) : sdTell true p g = if g.has = true ∧ g.rst = false ∧ (p.t1 = false ∨ lessB p.e1 (sdEdge g) = true) then { p with e1 := sdEdge g, t1 := true } else p := rfl
theorem sdTell_f (p : KPa) (g : KSeg) : sdTell false p g = if g.has = true ∧ g.rst = false ∧ (p.t0 = false ∨ lessB p.e0 (sdEdge g) = true) then { p with e0 := sdEdge g, t0 := true } else p := rfl
theorem sdOk_t {p : KPa} {g : KSeg} (hok : sdOk true p g = true) : (p.t0 && (decide (0 < (g.b.size : Int)) && decide (dZ ((p.e0 + 1) % 4294967296) ((g.seq + u32 g.b.size) % 4294967296) < 0))) = false := by
 unfold sdOk at hok
 simp only [Bool.and_eq_true, Bool.not_eq_true'] at hok
 exact hok.2
theorem sdOk_f {p : KPa} {g : KSeg} (hok : sdOk false p g = true) : (p.t1 && (decide (0 < (g.b.size : Int)) && decide (dZ ((p.e1 + 1) % 4294967296) ((g.seq + u32 g.b.size) % 4294967296) < 0))) = false := by
 unfold sdOk at hok
 simp only [Bool.and_eq_true, Bool.not_eq_true'] at hok
 exact hok.2
theorem POk.step {p : KPa} (h : POk p) (i : Bool) (g : KSeg) : POk (sdStep i p g) := by
  have hu := u32_bd (g.ack + u32 g.win)
  have h1 : POk (sdTell i p g) := by
    cases i with
    | true =>
      rw [sdTell_t]
      split
      · exact ⟨h.e0, hu⟩
      · exact h
    | false =>
      rw [sdTell_f]
      split
      · exact ⟨hu, h.e1⟩
      · exact h
  unfold sdStep sdAir
  split
  · exact ⟨h1.e0, h1.e1⟩
  · exact h1
theorem sdTell_air (i : Bool) (p : KPa) (g : KSeg) : (sdTell i p g).air = p.air := by
 cases i with
 | true => rw [sdTell_t]; split <;> rfl
 | false => rw [sdTell_f]; split <;> rfl
theorem sdStep_air (i : Bool) (p : KPa) (g : KSeg) (n : Nat) (h : p.air.length ≤ n) (hn : 200 ≤ n) : (sdStep i p g).air.length ≤ n := by
 unfold sdStep sdAir
 rw [sdTell_air]
 split
 ·simp only [List.length_append, List.length_singleton, sdTell_air]; omega
 ·rw [sdTell_air]; exact h
theorem sdList_bd (i : Bool) (n : Nat) (hn : 200 ≤ n) : ∀ (l : List KSeg) (p q : KPa), sdList i p l = some q → POk p → p.air.length ≤ n → POk q ∧ q.air.length ≤ n
  | [], p, q, h, h1, h2 => by
    have : p = q := by simpa [sdList] using h
    subst this
    exact ⟨h1, h2⟩
  | g :: l, p, q, h, h1, h2 => by
    unfold sdList at h
    split at h
    · exact sdList_bd i n hn l _ q h (h1.step i g) (sdStep_air i p g n h2 hn)
    · cases h
theorem prM_app {l : KPl} {x : KPr} {m : List Res} : prM l x [] ++ m = prM l x m := by
 unfold prM
 simp only [List.cons_append, List.append_assoc, List.nil_append]
/-- the first struct of a row goes -/
theorem MemX.cut {E : Nat → Prop} {w W : World} {l : List Res} {α : Type} {f : α → List Value} {size g off n cap : Nat} {r : α} {rs : List α} (h : MemX E w W l) (k : Nat) (hk : l[k]? = some (rowR size f (.slice (some ⟨g, off, none⟩) (n + 1) cap) (r :: rs))) (hn : rs.length = n) (hf : ∀ r, (f r).length = size) :
  MemX E w W (l.set k (rowR size f (.slice (if cap = 1 then some ⟨g, off, none⟩ else some ⟨g, off + size, none⟩) n (cap - 1)) rs)) := by
 have hW : Win W 0 size (.slice (some ⟨g, off, none⟩) (n + 1) cap) (r :: rs).length ((r :: rs).flatMap f) := h.row k hk
 obtain ⟨g', off', cap', e, hA⟩ := hW.pos (by simp)
 injection e with e1 _ e3
 injection e1 with e1
 injection e1 with e4 e5 _
 subst e4; subst e5; subst e3
 rw [List.length_cons, hn, List.flatMap_cons] at hA
 have hl : (rs.flatMap f).length = n * size := by rw [rows_len rs fun q _ => hf q, hn]
 have hC := hA.cut (hf r) hl
 have hlt := hA.lt
 refine h.upd k hk (World.grownBy.refl _ _) (winR_stab _ _ _ _ _) (by show Win _ _ _ _ _ _; rw [hn]; exact hC) (fun j hj => ?_)
 have hj' : (if cap = 1 then some (⟨g, off, none⟩ : Addr) else some ⟨g, off + size, none⟩).map (·.block) = some j := by
  have h2 : (Value.slice (if cap = 1 then some (⟨g, off, none⟩ : Addr) else some ⟨g, off + size, none⟩) n (cap - 1)).ownBlock = some j := hj
  split at h2 <;> (rename_i hc; first | rw [if_pos hc] | rw [if_neg hc]) <;> exact h2
 have e : j = g := by
  split at hj' <;> (injection hj' with hj'; exact hj'.symm)
 subst e
 exact ⟨.inl rfl, hlt⟩
end Go.Proofs.Ytfpifahkpkjfgaa
/- conn: what a queue holds as its text grows (plain). -/
namespace Go.Proofs.Ytfpifahkpkjfgaa
open Go.RowKit Go.Lib
set_option linter.unusedVariables false
set_option linter.unusedSimpArgs false
section
variable {T S : ByteArray} {fin : Bool} {q : IQ} {n a t : Nat}
theorem good_put2 {f : Bool} (hff : f = true → fin = true ∧ t = T.size) (g : Good T fin q n) (hn : n ≤ 140737488351232) (hp : PieceOf T S a t) : Good T fin (putQ q (a + 1) S f) n := by
 have hrd := g.rd
 by_cases hi : idle q (a + 1)
 ·rw [putQ_idle S _ hi]; exact g
 ·have ho := idle_open hi
  have ok' := put_ok g.ok (by omega) ((a : Int) + 1) S f
  have st' := put_stop g.ok g.stop ((a : Int) + 1) S f
  obtain ⟨o1, o2⟩ := ok_open g.ok ho
  have hr := g.ok.rd1
  obtain ⟨a1, a2, a3, a4⟩ := nxPut_is g.ok ho ((a : Int) + 1) S.size
  have hfo := finPut_or q ((a : Int) + 1) S.size f
  have hft : finPut q ((a : Int) + 1) S.size f = q.fin ∨ (fin = true ∧ finPut q ((a : Int) + 1) S.size f = T.size + 1) := by
   unfold finPut
   split
   ·rename_i h
    right
    have h1 := hff h.1.1
    have := hp.sz
    have := hp.le
    exact ⟨h1.1, by omega⟩
   ·exact .inl rfl
  have hfn : finPut q ((a : Int) + 1) S.size f = -1 ∨ (finPut q ((a : Int) + 1) S.size f = T.size + 1 ∧ fin = true) := by
   rcases hft with e | ⟨e1, e2⟩
   ·rw [e]; exact g.fn
   ·exact .inr ⟨e2, e1⟩
  have hrp : ∀ p, q.nx ≤ p → p < q.rd + 2048 → hPut q ((a : Int) + 1) S.size (p % 2048).toNat = true → p ≤ T.size ∧ rPut q ((a : Int) + 1) S (p % 2048).toNat = byteZ T (p - 1) := fun p => good_rPut g ho hp p
  have hlow := fun p => good_low g ho ((a : Int) + 1) S.size p
  have hee := end_open ho
  have hge := g.end_
  generalize hn1 : nxPut q ((a : Int) + 1) S.size = n1 at *
  have hend : n1 ≤ T.size + 1 := by
   by_cases e : n1 = q.nx
   ·omega
   ·have := (hrp (n1 - 1) (by omega) (by omega) (a3 _ (by omega) (by omega))).1
    omega
  have hgot : ∀ p, q.rd ≤ p → p < n1 → rPut q ((a : Int) + 1) S (p % 2048).toNat = byteZ T (p - 1) := by
   intro p h1 h2
   by_cases h3 : p < q.nx
   ·unfold rPut
    rw [hlow p h1 h3]
    simp only [Bool.and_false, Bool.false_eq_true, if_false]
    exact g.got p h1 (by omega)
   ·exact (hrp p (by omega) (by omega) (a3 p (by omega) h2)).2
  have hplc : ∀ p : Int, q.nx ≤ p → p < q.rd + 2048 → plc q.nx (p % 2048).toNat = p := fun p h1 h2 => plc_of _ _ _ h1 (by omega) (by omega)
  by_cases hf : n1 = finPut q ((a : Int) + 1) S.size f
  ·have hq := putQ_over (at_ := (a : Int) + 1) S f hi (by rw [hn1]; exact hf)
   rw [hn1] at hq
   rw [hq] at ok' st' ⊢
   refine ⟨ok', st', hrd, ?_, ?_, (fun h => by cases h), (fun h => by cases h), hfn, fun _ => ?_⟩
   ·rw [end_over rfl]; simp; omega
   ·intro p h1 h2
    rw [end_over rfl] at h2
    exact hgot p h1 (by simp at h2; omega)
   ·rcases hfn with e | ⟨e1, e2⟩
    ·omega
    ·exact ⟨by simp; omega, e2⟩
  ·have hq := putQ_open (at_ := (a : Int) + 1) S f hi (by rw [hn1]; exact hf)
   rw [hn1] at hq
   rw [hq] at ok' st' ⊢
   refine ⟨ok', st', hrd, ?_, ?_, ?_, ?_, hfn, (fun h => by cases h)⟩
   ·rw [end_open rfl]; exact hend
   ·intro p h1 h2
    rw [end_open rfl] at h2
    exact hgot p h1 h2
   ·intro _ p h1 h2 h3
    have h1' : n1 ≤ p := h1
    have h2' : p < q.rd + 2048 := h2
    have h3' : hAfter q ((a : Int) + 1) S.size n1 (p % 2048).toNat = true := h3
    unfold hAfter at h3'
    simp only [Bool.and_eq_true] at h3'
    exact hrp p (by omega) h2' h3'.1
   ·intro _ p h1 h2
    have h1' : q.rd ≤ p := h1
    have h2' : p < n1 := h2
    show hAfter q ((a : Int) + 1) S.size n1 (p % 2048).toNat = false
    unfold hAfter
    by_cases h3 : p < q.nx
    ·have e1 := hlow p h1' h3
     have e2 := g.low ho p h1' h3
     unfold hPut
     rw [e1, e2]; rfl
    ·rw [hplc p (by omega) (by omega)]
     simp; intro _; omega
end
/-- nothing that comes changes nothing -/
theorem put_empty {q : IQ} (ok : IqOk q) (hs : Stop q) (at_ : Int) : putQ q at_ ⟨#[]⟩ false = q := by
 by_cases hi : idle q at_
 ·exact putQ_idle _ _ hi
 ·have ho := idle_open hi
  have hit : ∀ k, hitB q at_ 0 k = false := fun k => by
   unfold hitB
   exact decide_eq_false (fun h => by omega)
  have hp : hPut q at_ 0 = q.h := funext fun k => by unfold hPut; rw [hit]; exact Bool.or_false _
  have hr : rPut q at_ ⟨#[]⟩ = q.r := funext fun k => by
   unfold rPut
   rw [show hitB q at_ ((⟨#[]⟩ : ByteArray).size : Int) k = false from hit k, Bool.and_false]
   rfl
  have hs' : (q.nx = q.rd + 2048 ∨ q.h (q.nx % 2048).toNat = false) ∧ q.nx ≠ q.fin := by
   rcases hs with h | h
   ·rw [ho] at h; cases h
   ·exact h
  have hn : nxPut q at_ ((⟨#[]⟩ : ByteArray).size : Int) = q.nx := by
   obtain ⟨a1, a2, a3, a4⟩ := nxPut_is ok ho at_ 0
   show nxPut q at_ 0 = q.nx
   by_cases e : nxPut q at_ 0 = q.nx
   ·exact e
   ·have h1 := a3 q.nx (Int.le_refl _) (by omega)
    rw [hp] at h1
    rcases hs'.1 with h | h
    ·omega
    ·rw [h] at h1; cases h1
  have hf : finPut q at_ ((⟨#[]⟩ : ByteArray).size : Int) false = q.fin := by
   unfold finPut
   rw [if_neg (fun h => by cases h.1.1)]
  have e := putQ_open (at_ := at_) ⟨#[]⟩ false hi (by rw [hn, hf]; exact hs'.2)
  rw [e, hn, hf, hr]
  have ha2 : hAfter q at_ ((⟨#[]⟩ : ByteArray).size : Int) q.nx = q.h := funext fun k => by
   unfold hAfter
   rw [show hPut q at_ ((⟨#[]⟩ : ByteArray).size : Int) k = q.h k from congrFun hp k, decide_eq_true (plc_lo q.nx k), Bool.and_true]
  rw [ha2, ← ho]
theorem byteZ_app {T U : ByteArray} {i : Int} (h0' : 0 ≤ i) (h : i < T.size) : byteZ (T ++ U) i = byteZ T i := by
 unfold byteZ
 by_cases h0 : 0 ≤ i
 ·have hk : i.toNat < T.data.size := by
   have : T.data.size = T.size := rfl
   omega
  rw [ByteArray.data_append, Array.getElem?_append_left hk]
 ·exact absurd h0' h0
theorem PieceOf.grow {T S U : ByteArray} {a t : Nat} (h : PieceOf T S a t) : PieceOf (T ++ U) S a t := by
 have hl := h.lt
 have hz := h.sz
 refine ⟨h.le, by rw [ByteArray.size_append]; omega, h.sz, fun i h1 h2 => ?_⟩
 rw [h.at_ i h1 h2, byteZ_app (by omega) (by omega)]
/-- the text grows, as long as its end has not been told -/
theorem Good.grow {T U : ByteArray} {q : IQ} {n : Nat} (g : Good T false q n) : Good (T ++ U) false q n := by
 have hz : (T ++ U).size = T.size + U.size := ByteArray.size_append
 have hr := g.rd
 have he := g.end_
 have h1 := g.ok.rd1
 refine ⟨g.ok, g.stop, g.rd, by rw [hz]; omega, fun p h2 h3 => ?_, fun ho p h2 h3 h4 => ?_, g.low, ?_, fun ho => by cases (g.ov ho).2⟩
 ·rw [g.got p h2 h3, byteZ_app (by omega) (by omega)]
 ·obtain ⟨h5, h6⟩ := g.have_ ho p h2 h3 h4
  have hnx := (ok_open g.ok ho).1
  exact ⟨by rw [hz]; omega, by rw [h6, byteZ_app (by omega) (by omega)]⟩
 ·rcases g.fn with h | h
  ·exact .inl h
  ·cases h.2
/-- its end is told -/
theorem Good.told {T : ByteArray} {q : IQ} {n : Nat} {fin : Bool} (g : Good T fin q n) : Good T true q n := by
 refine ⟨g.ok, g.stop, g.rd, g.end_, g.got, g.have_, g.low, ?_, fun ho => ⟨(g.ov ho).1, rfl⟩⟩
 rcases g.fn with h | h
 ·exact .inl h
 ·exact .inr ⟨h.1, rfl⟩
end Go.Proofs.Ytfpifahkpkjfgaa
/- conn: what goes out is what was written (plain). -/
namespace Go.Proofs.Ytfpifahkpkjfgaa
open Go.RowKit Go.Lib
set_option linter.unusedVariables false
set_option linter.unusedSimpArgs false
theorem sI_app' (a b : ByteArray) : sI (a ++ b) = sI a ++ sI b := by unfold sI; rw [ByteArray.data_append, Array.toList_append, List.map_append]
/-- the bytes that come are those that were written there -/
theorem piece_body {q : OQ} {t : ByteArray} (ok : OqOk q) (h : Held q (sI t)) (lim mss : Int) (hi : oIs q q.cur lim mss = true) (h0 : 0 < (qPiece q q.cur lim mss).b.size) :
  1 ≤ q.cur ∧ q.cur - 1 + ((qPiece q q.cur lim mss).b.size : Int) ≤ (t.size : Int) ∧ (qPiece q q.cur lim mss).b = t.extract (q.cur - 1).toNat ((q.cur - 1).toNat + (qPiece q q.cur lim mss).b.size) := by
 have hp := piece_is ok lim mss hi
 simp only at hp
 obtain ⟨_, _, _, _, _, _, _, _, _, hb⟩ := hp
 obtain ⟨b1, b2, b3⟩ := hb h0
 have hf : oFin q = (t.size : Int) + 1 := by rw [h.fin, sI_len]
 have hba := ok.ba
 have hl := h.here
 generalize qPiece q q.cur lim mss = p at *
 refine ⟨by omega, by omega, ?_⟩
 generalize hn : p.b.size = n at *
 rw [b3]
 apply str_ext
 rw [byteS_toList, hl, List.drop_drop, ByteArray.data_extract, Array.toList_extract, List.extract_eq_take_drop]
 have e1 : (q.base - 1).toNat + (q.cur - q.base).toNat = (q.cur - 1).toNat := by omega
 have e2 : (q.cur - 1).toNat + n - (q.cur - 1).toNat = n := by omega
 rw [e1, e2]
 unfold byteL sI
 rw [← List.map_drop, ← List.map_take, List.map_map]
 conv => rhs; rw [← List.map_id (List.take n (List.drop (q.cur - 1).toNat t.data.toList))]
 refine List.map_congr_left fun b _ => ?_
 show UInt8.ofNat ((b.toNat : Int) % 256).toNat = b
 have := b.toNat_lt
 rw [show ((b.toNat : Int) % 256).toNat = b.toNat by omega]
 exact UInt8.ofNat_toNat
/-- one that writes: its queue has what was written; once it has shut nothing more is -/
structure Hd (c : KCn) (T : ByteArray) (s : Bool) : Prop where
 held : Held c.o (sI T)
 cl : c.o.cl = true → s = true
 sh : s = true → c.o.cl = true ∨ c.st = 0
theorem Hd.size {c : KCn} {T : ByteArray} {s : Bool} (h : Hd c T s) : oFin c.o = (T.size : Int) + 1 := by rw [h.held.fin, sI_len]
theorem Hd.of {c c' : KCn} {T : ByteArray} {s : Bool} (h : Hd c T s) (hl : c'.o.l = c.o.l) (hb : c'.o.base = c.o.base) (hc : c'.o.cl = c.o.cl) (hs : c.st = 0 → c'.st = 0) : Hd c' T s := by
 refine ⟨⟨?_, ?_⟩, by rw [hc]; exact h.cl, fun e => ?_⟩
 ·unfold oFin
  rw [hl, hb]
  exact h.held.fin
 ·rw [hl, hb]
  exact h.held.here
 ·rcases h.sh e with h1 | h1
  ·exact .inl (hc.trans h1)
  ·exact .inr (hs h1)
/-- where a segment lies, and what it has -/
structure SegAt (T : ByteArray) (s : Bool) (iss lim : Int) (g : KSeg) (at_ : Int) : Prop where
 seq : g.seq = u32 (iss + at_)
 lo : 0 ≤ at_
 hi : at_ ≤ T.size + 2
 sz : g.b.size ≤ 1000
 body : 0 < g.b.size → 1 ≤ at_ ∧ at_ - 1 + g.b.size ≤ T.size ∧ at_ + g.b.size ≤ lim ∧ PieceOf T g.b (at_ - 1).toNat ((at_ - 1).toNat + g.b.size)
 fin : g.fin = true → s = true ∧ 1 ≤ at_ ∧ at_ - 1 + g.b.size = T.size
 syn : g.syn = true → at_ = 0 ∧ g.fin = false ∧ g.b.size = 0
theorem SegAt.grow {T U : ByteArray} {iss lim : Int} {g : KSeg} {at_ : Int} (h : SegAt T false iss lim g at_) : SegAt (T ++ U) false iss lim g at_ := by
 have hz : (T ++ U).size = T.size + U.size := ByteArray.size_append
 have h3 := h.hi
 refine ⟨h.seq, h.lo, by rw [hz]; omega, h.sz, fun h0 => ?_, fun hf => (by cases (h.fin hf).1), h.syn⟩
 obtain ⟨h1, h2, h4, h5⟩ := h.body h0
 exact ⟨h1, by rw [hz]; omega, h4, h5.grow⟩
theorem SegAt.told {T : ByteArray} {s : Bool} {iss lim : Int} {g : KSeg} {at_ : Int} (h : SegAt T s iss lim g at_) : SegAt T true iss lim g at_ :=
 ⟨h.seq, h.lo, h.hi, h.sz, h.body, fun hf => ⟨rfl, (h.fin hf).2⟩, h.syn⟩
theorem SegAt.lim {T : ByteArray} {s : Bool} {iss lim lim' : Int} {g : KSeg} {at_ : Int} (h : SegAt T s iss lim g at_) (hl : lim ≤ lim') : SegAt T s iss lim' g at_ :=
 ⟨h.seq, h.lo, h.hi, h.sz, fun h0 => (by have := h.body h0; exact ⟨this.1, this.2.1, by omega, this.2.2.2⟩), h.fin, h.syn⟩
/-- what a segment says beside that -/
structure SegFl (c : KCn) (g : KSeg) : Prop where
 no : c.h = none → g.has = false ∧ g.ack = 0 ∧ g.win = 2048
 yes : ∀ q d, c.h = some (q, d) → g.has = true ∧ g.ack = u32 (c.irs + q.nx) ∧ g.win = 2048 - (endZ q - q.rd)
 mss : g.mss = if g.syn = true then c.own else 0
 syn : g.syn = true → g.fin = false ∧ g.b.size = 0
 rst : g.rst = false
structure SegRs (g : KSeg) : Prop where
 rst : g.rst = true
 b : g.b.size = 0
 fin : g.fin = false
 syn : g.syn = false
 has : g.has = false
 ack : g.ack = 0
 win : g.win = 0
 mss : g.mss = 0
 seq : 0 ≤ g.seq ∧ g.seq ≤ 4294967295
def SegOut (T : ByteArray) (s : Bool) (c : KCn) (lim : Int) (g : KSeg) : Prop :=
 (g.fa = c.la ∧ g.fp = c.lp ∧ g.ta = c.ra ∧ g.tp = c.rp) ∧ (SegRs g ∨ (SegFl c g ∧ ∃ at_, SegAt T s c.iss lim g at_))
/-- the same but for what goes out next -/
structure Sm (c c' : KCn) : Prop where
 la : c'.la = c.la
 lp : c'.lp = c.lp
 ra : c'.ra = c.ra
 rp : c'.rp = c.rp
 st : c'.st = c.st
 iss : c'.iss = c.iss
 irs : c'.irs = c.irs
 own : c'.own = c.own
 mss : c'.mss = c.mss
 wnd : c'.wnd = c.wnd
 h : c'.h = c.h
 l : c'.o.l = c.o.l
 base : c'.o.base = c.o.base
 una : c'.o.una = c.o.una
 cl : c'.o.cl = c.o.cl
theorem Sm.refl (c : KCn) : Sm c c := ⟨rfl, rfl, rfl, rfl, rfl, rfl, rfl, rfl, rfl, rfl, rfl, rfl, rfl, rfl, rfl⟩
theorem Sm.trans {a b c : KCn} (h : Sm a b) (k : Sm b c) : Sm a c :=
 ⟨k.la.trans h.la, k.lp.trans h.lp, k.ra.trans h.ra, k.rp.trans h.rp, k.st.trans h.st, k.iss.trans h.iss, k.irs.trans h.irs, k.own.trans h.own, k.mss.trans h.mss, k.wnd.trans h.wnd, k.h.trans h.h, k.l.trans h.l, k.base.trans h.base, k.una.trans h.una, k.cl.trans h.cl⟩
theorem Hd.sm {c c' : KCn} {T : ByteArray} {s : Bool} (h : Hd c T s) (k : Sm c c') : Hd c' T s := h.of k.l k.base k.cl (fun e => k.st.trans e)
theorem cStep_sm (c : KCn) (lim : Int) : Sm c (cStep c lim) := by
 unfold cStep
 split <;> exact ⟨rfl, rfl, rfl, rfl, rfl, rfl, rfl, rfl, rfl, rfl, rfl, rfl, rfl, rfl, rfl⟩
theorem bare_fl (c : KCn) (at_ : Int) : SegFl c (cBare c at_) ∧ ((cBare c at_).fa = c.la ∧ (cBare c at_).fp = c.lp ∧ (cBare c at_).ta = c.ra ∧ (cBare c at_).tp = c.rp) ∧ (cBare c at_).seq = u32 (c.iss + at_) ∧ (cBare c at_).b.size = 0 ∧ (cBare c at_).fin = false := by
  unfold cBare
  cases hh : c.h with
  | none => exact ⟨⟨fun _ => ⟨rfl, rfl, rfl⟩, fun q d e => (by rw [hh] at e; cases e), rfl, fun e => (by cases e), rfl⟩, ⟨rfl, rfl, rfl, rfl⟩, u32_add _ _, rfl, rfl⟩
  | some x =>
    obtain ⟨q, d⟩ := x
    refine ⟨⟨fun e => (by rw [hh] at e; cases e), fun q' d' e => ?_, rfl, fun e => (by cases e), rfl⟩, ⟨rfl, rfl, rfl, rfl⟩, u32_add _ _, rfl, rfl⟩
    rw [hh] at e
    injection e with e
    injection e with e1 e2
    subst e1 e2
    exact ⟨rfl, u32_add _ _, rfl⟩
/-- a piece as a segment -/
theorem piece_seg {c : KCn} {T : ByteArray} {s : Bool} (hd : Hd c T s) (ok : OqOk c.o) (hm : c.mss ≤ 1000) (lim : Int) (hi : oIs c.o c.o.cur lim c.mss = true) :
  SegOut T s c lim (cSegm c (qPiece c.o c.o.cur lim c.mss)) := by
 obtain ⟨p1, p2, p3, p4, p5, p6, p7, p8, p9, p10⟩ := piece_is ok lim c.mss hi
 have hb := piece_body ok hd.held lim c.mss hi
 have hsz := hd.size
 have hcur : 0 ≤ c.o.cur := by have h1 := ok.uc; have h2 := ok.cs; omega
 have hcl := hd.cl
 generalize qPiece c.o c.o.cur lim c.mss = p at *
 obtain ⟨f1, f2, f3, f4, f5⟩ := bare_fl c p.at_
 refine ⟨f2, .inr ⟨⟨f1.no, f1.yes, rfl, fun e => ?_, f1.rst⟩, p.at_, f3, by omega, by omega, ?_, fun h0 => ?_, fun hf => ?_, fun e => ?_⟩⟩
 ·obtain ⟨e1, e2⟩ := p8 e
  exact ⟨e1, by show p.b.size = 0; rw [e2]; rfl⟩
 ·show p.b.size ≤ 1000
  omega
 ·have h0' : 0 < p.b.size := h0
  obtain ⟨h1, h2, h3⟩ := hb h0'
  have hlen : (p.b.size : Int) ≤ oLen p := by unfold oLen; split <;> split <;> omega
  show 1 ≤ p.at_ ∧ p.at_ - 1 + (p.b.size : Int) ≤ T.size ∧ p.at_ + p.b.size ≤ lim ∧ PieceOf T p.b (p.at_ - 1).toNat ((p.at_ - 1).toNat + p.b.size)
  rw [p1]
  refine ⟨h1, h2, by omega, ?_⟩
  conv => arg 2; rw [h3]
  exact piece_extract T _ _ (by omega) (by omega)
 ·have hf' : p.fin = true := hf
  obtain ⟨e1, e2⟩ := p9 hf'
  show s = true ∧ 1 ≤ p.at_ ∧ p.at_ - 1 + (p.b.size : Int) = T.size
  have h1 : c.o.cur ≠ 0 := fun e => by
   have h2 := (p8 (by rw [p3, e]; rfl)).1
   rw [hf'] at h2; cases h2
  exact ⟨hcl e1, by omega, by omega⟩
 ·obtain ⟨e1, e2⟩ := p8 e
  have e3 : p.syn = true := e
  rw [p3] at e3
  have e4 := of_decide_eq_true e3
  exact ⟨by rw [p1]; exact e4, e1, by show p.b.size = 0; rw [e2]; rfl⟩
end Go.Proofs.Ytfpifahkpkjfgaa
/- conn: all that goes out at once; how far one may send (plain). -/
namespace Go.Proofs.Ytfpifahkpkjfgaa
open Go.RowKit Go.Lib
set_option linter.unusedVariables false
set_option linter.unusedSimpArgs false
theorem SegOut.sm {T : ByteArray} {s : Bool} {c c' : KCn} {lim : Int} {g : KSeg} (k : Sm c c') (h : SegOut T s c' lim g) : SegOut T s c lim g := by
 obtain ⟨⟨a1, a2, a3, a4⟩, b⟩ := h
 refine ⟨⟨a1.trans k.la, a2.trans k.lp, a3.trans k.ra, a4.trans k.rp⟩, ?_⟩
 rcases b with b | ⟨f, at_, b⟩
 ·exact .inl b
 ·refine .inr ⟨⟨fun e => f.no (k.h.trans e), fun q d e => ?_, by rw [f.mss, k.own], f.syn, f.rst⟩, at_, by rw [← k.iss]; exact b⟩
  have := f.yes q d (k.h.trans e)
  rw [k.irs] at this
  exact this
theorem SegOut.lim {T : ByteArray} {s : Bool} {c : KCn} {lim lim' : Int} {g : KSeg} (h : SegOut T s c lim g) (hl : lim ≤ lim') : SegOut T s c lim' g := by
 obtain ⟨a, b⟩ := h
 refine ⟨a, ?_⟩
 rcases b with b | ⟨f, at_, b⟩
 ·exact .inl b
 ·exact .inr ⟨f, at_, b.lim hl⟩
theorem loop_segs {T : ByteArray} {s : Bool} {lim L : Int} (hL : lim ≤ L) : ∀ (f : Nat) (c0 c : KCn) (l : List KSeg), Hd c0 T s → Sm c0 c → OqOk c.o → c.mss ≤ 1000 → c.o.sent ≤ L → (∀ g ∈ l, SegOut T s c0 L g) →
    Sm c0 (cLoop f c lim l).1 ∧ OqOk (cLoop f c lim l).1.o ∧ (cLoop f c lim l).1.o.sent ≤ L ∧ ∀ g ∈ (cLoop f c lim l).2, SegOut T s c0 L g
  | 0, c0, c, l, hd, k, ok, hm, hs, hl => ⟨k, ok, hs, hl⟩
  | f + 1, c0, c, l, hd, k, ok, hm, hs, hl => by
    unfold cLoop
    split
    · rename_i hi
      have hk2 := cStep_sm c lim
      have ho := (cStep_h c lim).2.1
      have hp := piece_is ok lim c.mss hi
      simp only at hp
      obtain ⟨_, _, _, _, p5, _⟩ := hp
      have ok2 : OqOk (cStep c lim).o := by rw [ho]; exact next_ok ok lim c.mss
      have hs2 : (cStep c lim).o.sent ≤ L := by
        rw [ho]
        show (if c.o.sent < c.o.cur + oLen (qPiece c.o c.o.cur lim c.mss) then c.o.cur + oLen (qPiece c.o c.o.cur lim c.mss) else c.o.sent) ≤ L
        split <;> omega
      refine loop_segs hL f c0 (cStep c lim) _ hd (k.trans hk2) ok2 (by rw [hk2.mss]; exact hm) hs2 fun g hg => ?_
      rcases List.mem_append.1 hg with hg | hg
      · exact hl g hg
      · rw [List.mem_singleton.1 hg]
        exact ((piece_seg (hd.sm k) ok hm lim hi).sm k).lim hL
    · exact ⟨k, ok, hs, hl⟩
/-- how far something goes out at most -/
def oL (c : KCn) : Int := if cLimit c < c.o.sent then c.o.sent else cLimit c
theorem out_segs {c : KCn} {t : Int} {T : ByteArray} {s : Bool} (h : CI c t) (hd : Hd c T s) :
  (∀ g ∈ (cOut c).2, SegOut T s c (oL c) g) ∧ Sm c (cOut c).1 ∧ OqOk (cOut c).1.o ∧ (cOut c).1.o.sent ≤ oL c := by
 have k0 : Sm c { c with rs := [] } := ⟨rfl, rfl, rfl, rfl, rfl, rfl, rfl, rfl, rfl, rfl, rfl, rfl, rfl, rfl, rfl⟩
 have hL1 : cLimit c ≤ oL c := by unfold oL; split <;> omega
 have hL2 : c.o.sent ≤ oL c := by unfold oL; split <;> omega
 have hrs : ∀ g ∈ c.rs.map (cRst c), SegOut T s c (oL c) g := by
  intro g hg
  obtain ⟨n, hn, rfl⟩ := List.mem_map.1 hg
  exact ⟨⟨rfl, rfl, rfl, rfl⟩, .inl ⟨rfl, rfl, rfl, rfl, rfl, rfl, rfl, rfl, h.rsu n hn⟩⟩
 unfold cOut
 dsimp only
 split
 ·exact ⟨hrs, k0, h.o, hL2⟩
 ·have hf : ∀ g ∈ cFirstL { c with rs := [] } (c.rs.map (cRst c)), SegOut T s c (oL c) g := by
   unfold cFirstL
   split
   ·rename_i hi
    intro g hg
    rcases List.mem_append.1 hg with hg | hg
    ·exact hrs g hg
    ·rw [List.mem_singleton.1 hg]
     have k1 : Sm c { c with rs := [], o := { c.o with cur := c.o.una } } := ⟨rfl, rfl, rfl, rfl, rfl, rfl, rfl, rfl, rfl, rfl, rfl, rfl, rfl, rfl, rfl⟩
     have h1 := piece_seg (hd.sm k1) (back_ok h.o) h.m.2 c.o.sent hi.2
     exact (h1.sm k1).lim hL2
   ·exact hrs
  have hl := loop_segs (T := T) (s := s) (lim := cLimit { c with rs := [] }) (L := oL c) hL1 2100 c { c with rs := [] } _ hd k0 h.o h.m.2 hL2 hf
  obtain ⟨x, hx⟩ : ∃ z, z = cLoop 2100 { c with rs := [] } (cLimit { c with rs := [] }) (cFirstL { c with rs := [] } (c.rs.map (cRst c))) := ⟨_, rfl⟩
  rw [← hx] at hl ⊢
  obtain ⟨k2, ok2, hs2, hg2⟩ := hl
  have hb : SegOut T s c (oL c) (cBare x.1 x.1.o.sent) := by
   obtain ⟨f1, f2, f3, f4, f5⟩ := bare_fl x.1 x.1.o.sent
   have f6 : (cBare x.1 x.1.o.sent).syn = false := by unfold cBare; split <;> rfl
   have hsz := (hd.sm k2).size
   have he := ok2.ee
   have hq := qEnd_bd (q := x.1.o)
   have h1 := ok2.uc
   have h2 := ok2.cs
   have h3 := ok2.se
   have h4 : SegOut T s x.1 (oL c) (cBare x.1 x.1.o.sent) :=
    ⟨f2, .inr ⟨f1, x.1.o.sent, f3, by omega, by omega, by omega, fun h0 => (by omega), fun h0 => (by rw [f5] at h0; cases h0), fun h0 => (by rw [f6] at h0; cases h0)⟩⟩
   exact h4.sm k2
  have hl3 : ∀ g ∈ (cTail x (c.rs.map (cRst c)).length).2, SegOut T s c (oL c) g := by
   unfold cTail
   dsimp only
   split
   ·intro g hg
    rcases List.mem_append.1 hg with hg | hg
    ·exact hg2 g hg
    ·rw [List.mem_singleton.1 hg]; exact hb
   ·exact hg2
  refine ⟨hl3, ?_⟩
  have e : ∃ ow, (cTail x (c.rs.map (cRst c)).length).1 = cSettle { x.1 with owed := ow, again := false, probe := false } := ⟨_, rfl⟩
  obtain ⟨ow, e⟩ := e
  rw [e]
  obtain ⟨y, e2, _⟩ := cSettle_is { x.1 with owed := ow, again := false, probe := false }
  have k3 : Sm x.1 (cSettle { x.1 with owed := ow, again := false, probe := false }) := by
   rw [e2]
   exact ⟨rfl, rfl, rfl, rfl, rfl, rfl, rfl, rfl, rfl, rfl, rfl, rfl, rfl, rfl, rfl⟩
  refine ⟨k2.trans k3, ?_, ?_⟩
  ·rw [e2]; exact ok2
  ·rw [e2]; exact hs2
/-- how far one may send: E, as the other side has told -/
structure Wn (c : KCn) (td : Bool) (E : Int) : Prop where
 wn : 1 ≤ c.o.una → td = true ∧ c.o.una + c.wnd ≤ E
 se : c.o.sent ≤ 1 ∨ (td = true ∧ c.o.sent ≤ E + 1)
theorem Wn.limit {c : KCn} {td : Bool} {E t : Int} (h : Wn c td E) (hc : CI c t) : cLimit c ≤ 1 ∨ (td = true ∧ cLimit c ≤ E + 1) := by
  by_cases h0 : c.o.una = 0
  · exact .inl (by unfold cLimit; rw [if_pos h0]; exact Int.le_refl 1)
  · have hu := hc.o.uc
    obtain ⟨h1, h2⟩ := h.wn (by omega)
    have hw := hc.w
    refine .inr ⟨h1, ?_⟩
    unfold cLimit
    rw [if_neg h0]
    dsimp only
    cases hh : c.h with
    | none => exact absurd (hc.hn hh) h0
    | some x =>
      obtain ⟨q, d⟩ := x
      simp only
      by_cases a : d.s < c.wnd
      · rw [if_pos a]; split
        · split <;> omega
        · omega
      · rw [if_neg a]; split
        · split <;> omega
        · omega
theorem Wn.oL {c : KCn} {td : Bool} {E t : Int} (h : Wn c td E) (hc : CI c t) : oL c ≤ 1 ∨ (td = true ∧ oL c ≤ E + 1) := by
 have h1 := h.limit hc
 have h2 := h.se
 unfold Go.Proofs.Ytfpifahkpkjfgaa.oL
 split
 ·exact h2
 ·exact h1
theorem Wn.out {c : KCn} {td : Bool} {E t : Int} {T : ByteArray} {s : Bool} (h : Wn c td E) (hc : CI c t) (hd : Hd c T s) : Wn (cOut c).1 td E := by
 obtain ⟨_, k, _, hs⟩ := out_segs hc hd
 have h1 := h.oL hc
 refine ⟨fun hu => ?_, ?_⟩
 ·rw [k.una] at hu ⊢
  rw [k.wnd]
  exact h.wn hu
 ·rcases h1 with h1 | ⟨h1, h2⟩
  ·exact .inl (by omega)
  ·exact .inr ⟨h1, by omega⟩
theorem Wn.mono {c : KCn} {td : Bool} {E E' : Int} (h : Wn c td E) (hE : E ≤ E') : Wn c td E' := by
 refine ⟨fun hu => ?_, ?_⟩
 ·have := h.wn hu; exact ⟨this.1, by omega⟩
 ·rcases h.se with h1 | h1
  ·exact .inl h1
  ·exact .inr ⟨h1.1, by omega⟩
theorem Wn.told {c : KCn} {td : Bool} {E : Int} (h : Wn c td E) : Wn c true E :=
 ⟨fun hu => ⟨rfl, (h.wn hu).2⟩, h.se.imp id fun h1 => ⟨rfl, h1.2⟩⟩
/-- nobody sends behind what is let in -/
theorem Wn.seg {c : KCn} {td : Bool} {E t : Int} {T : ByteArray} {s : Bool} {g : KSeg} {at_ : Int} (h : Wn c td E) (hc : CI c t) (hg : SegAt T s c.iss (Go.Proofs.Ytfpifahkpkjfgaa.oL c) g at_) (h0 : 0 < g.b.size) : td = true ∧ at_ + g.b.size ≤ E + 1 := by
 obtain ⟨h1, h2, h3, _⟩ := hg.body h0
 rcases h.oL hc with h4 | ⟨h4, h5⟩
 ·omega
 ·exact ⟨h4, by omega⟩
end Go.Proofs.Ytfpifahkpkjfgaa
