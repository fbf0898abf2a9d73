/- What ConnStops needs, a part: CnSe, CnSf, CnSg, CnSh. -/
import Derived.Test.YtfpifahkpkjfgaaMConnStops35
namespace Go.Proofs.Ytfpifahkpkjfgaa
open Go.RowKit Go.Lib
set_option linter.unusedVariables false
set_option linter.unusedSimpArgs false
def AirS (A : KAd) (TS : ByteArray) (fS : Bool) (siss : Int) (td : Bool) (E : Int) (g : KSeg) : Prop :=
 (g.fa = A.ra ∧ g.fp = A.rp ∧ g.ta = A.la ∧ g.tp = A.lp) ∧ (SegRs g ∨ (g.rst = false ∧ (∃ at_ lim, SegAt TS fS siss lim g at_) ∧ (g.has = true → ∃ a, g.ack = u32 (A.iss + a) ∧ 0 ≤ a ∧ a ≤ 2097152 ∧ td = true ∧ a + g.win ≤ E)))
section
variable {A : KAd} {c c' : KCn} {T TS : ByteArray} {s td fS : Bool} {E siss t : Int} {n : Nat}
theorem Cx.una (h : Cx A c T s td E TS fS n siss) (hc : CI c t) : 0 ≤ c.o.una ∧ c.o.una ≤ T.size + 2 := by
 have h1 := hc.o.uc
 have h2 := hc.o.cs
 have h3 := hc.o.se
 have h4 := hc.o.ee
 have h5 := qEnd_bd (q := c.o)
 have h6 := h.hd.size
 omega
theorem Cx.nx (h : Cx A c T s td E TS fS n siss) {q : IQ} {d : KWd} (hq : c.h = some (q, d)) : 1 ≤ q.nx ∧ q.nx ≤ TS.size + 2 := by
 have g := (h.good q d hq).1
 have h1 := g.end_
 have h2 := (end_bd q g.ok).2.2.1
 cases ho : q.over with
 | true => have := (g.ov ho).1; omega
 | false => rw [end_open ho] at h1 h2; omega
theorem Cx.syn (h : Cx A c T s td E TS fS n siss) (h1 : c.st = 1) (hc : CI c t) (g : KSeg) (hs : g.seq = siss) : Cx A (cSyn c g) T s td E TS fS n siss := by
 have hh := hc.s1 h1
 have hu := hc.hn hh
 have hn := h.emp hh
 refine ⟨⟨h.ad.la, h.ad.lp, h.ad.ra, h.ad.rp, h.ad.iss⟩, ⟨h.hd.held, h.hd.cl, h.hd.sh⟩, ⟨fun e => ?_, h.wn.se⟩, fun q d e => ?_, fun e => by cases e⟩
 ·have e' : 1 ≤ c.o.una := e
  omega
 ·injection e with e5
  injection e5 with e6 e7
  rw [← e6, hn]
  exact ⟨good_new TS fS, hs⟩
theorem Cx.first (h : Cx A c T s td E TS fS n siss) (h1 : c.st = 1) (hc : CI c t) (hsi : 0 ≤ siss ∧ siss ≤ 4294967295) {g : KSeg} (hg : AirS A TS fS siss td E g) : Cx A (cFirst c g) T s td E TS fS n siss := by
 have h0 : c.st ≠ 0 := by rw [h1]; decide
 have hh := hc.s1 h1
 have hu := hc.hn hh
 unfold cFirst
 split
 ·split
  ·exact h
  ·exact h.rst _
 ·rename_i ha
  split
  ·split
   ·exact h.closed 11
   ·exact h
  ·rename_i hr
   split
   ·rename_i hsy
    have hseq : g.seq = siss ∧ (g.has = true → ∃ a, g.ack = u32 (A.iss + a) ∧ 0 ≤ a ∧ a ≤ 2097152 ∧ td = true ∧ a + g.win ≤ E) := by
     rcases hg.2 with hb | ⟨_, ⟨p, lim, hb⟩, hk⟩
     ·rw [hb.syn] at hsy; cases hsy
     ·have := hb.seq
      rw [(hb.syn hsy).1, Int.add_zero, u32_id hsi.1 hsi.2] at this
      exact ⟨this, hk⟩
    have k := h.syn h1 hc g hseq.1
    split
    ·rename_i hha
     obtain ⟨a, e1, e2, e3, e4, e5⟩ := hseq.2 hha
     have e6 : g.ack = u32 (c.iss + 1) ∧ c.o.sent ≠ 0 := by
      refine ⟨Decidable.byContradiction fun hx => ha ⟨hha, .inl hx⟩, fun hx => ha ⟨hha, .inr hx⟩⟩
     have ea : a = 1 := by
      rw [e1, h.ad.iss] at e6
      have := e6.1
      unfold u32 at this
      omega
     subst ea
     have hs1 : 1 ≤ c.o.sent := by
      have h2 := hc.o.cs
      have h3 := hc.o.se
      have := e6.2
      omega
     have k2 := k.ackd (at_ := 0) (a := 1) (win := g.win) (by show c.st ≠ 0; exact h0) (by show OqOk c.o; exact hc.o) (by show c.o.una < 1; omega) hs1 ⟨e4, e5⟩ (cSyn c g).wat (cSyn c g).wak
     exact k2.sx ⟨rfl, rfl, rfl, rfl, rfl, rfl, rfl, rfl, rfl, rfl, rfl, rfl, fun q d e => ⟨d, e⟩, id, fun e => absurd e (by show c.st ≠ 0; exact h0)⟩
    ·exact k.sx ⟨rfl, rfl, rfl, rfl, rfl, rfl, rfl, rfl, rfl, rfl, rfl, rfl, fun q d e => ⟨d, e⟩, id, fun e => absurd e (by show c.st ≠ 0; exact h0)⟩
   ·exact h
theorem Cx.next (h : Cx A c T s td E TS fS n siss) (h0 : c.st ≠ 0) (h1 : c.st ≠ 1) (hc : CI c t) (hT : T.size ≤ 1048576) (hTS : TS.size ≤ 1048576) {g : KSeg} (hg : AirS A TS fS siss td E g) : Cx A (cNext c g) T s td E TS fS n siss := by
 unfold cNext
 split
 ·split
  ·exact (h.owed _).wait h0
  ·exact h.owed _
 ·split
  ·exact h.closed _
  ·split
   ·exact h.owed true
   ·rename_i hr
    split
    ·rename_i hha
     rcases hg.2 with hb | ⟨_, ⟨p, lim, hb⟩, hk⟩
     ·rw [hb.has] at hha; cases hha
     ·obtain ⟨a, e1, e2, e3, e4, e5⟩ := hk hha
      obtain ⟨x, hx⟩ := Option.ne_none_iff_exists'.1 (hc.s2 h0 h1)
      obtain ⟨q, d⟩ := x
      have hq : cQ c = q := by unfold cQ; rw [hx]
      have hnx := h.nx hx
      have hgd := h.good q d hx
      have hp1 := hb.lo
      have hp2 := hb.hi
      have hat : cAt c g = p := at_is (by rw [hgd.2]; exact hb.seq) (by rw [hq]; omega) (by rw [hq]; omega)
      have hu := h.una hc
      have hak : cAckAt c g = a := ackAt_is (by rw [h.ad.iss]; exact e1) (by omega) (by omega)
      rw [hat]
      have k : Cx A (cAcks c g p).1 T s td E TS fS n siss ∧ ((cAcks c g p).2 = true → (cAcks c g p).1.st ≠ 0) := by
       unfold cAcks
       rw [hak]
       split
       ·split
        ·exact ⟨h.rst _, fun e => by cases e⟩
        ·have k1 := h.state h0 (if c.shut then 4 else 3)
         exact k1.acks2 (by show (if c.shut = true then (4 : Int) else 3) ≠ 0; split <;> decide) hc.o g p a ⟨e4, e5⟩
       ·exact h.acks2 h0 hc.o g p a ⟨e4, e5⟩
      split
      ·rename_i h2
       exact k.1.takes (k.2 h2) hTS hb
      ·exact k.1
    ·exact h
theorem Cx.in_ (h : Cx A c T s td E TS fS n siss) (hc : CI c t) (hT : T.size ≤ 1048576) (hTS : TS.size ≤ 1048576) (hsi : 0 ≤ siss ∧ siss ≤ 4294967295) {g : KSeg} (hg : AirS A TS fS siss td E g) : Cx A (cIn c g) T s td E TS fS n siss := by
 by_cases he : cInE c g = 0
 ·have hs0 : c.st ≠ 0 := by
   intro e0
   unfold cInE at he
   split at he
   ·rename_i h2; exact h2 he
   ·split at he
    ·cases he
    ·exact absurd he (by decide)
  have e1 : cIn c g = cSettle (if c.st = 1 then cFirst c g else cNext c g) := by unfold cIn; rw [if_neg (fun h2 => h2 he)]
  rw [e1]
  refine Cx.settle ?_
  split
  ·rename_i h1; exact h.first h1 hc hsi hg
  ·rename_i h1; exact h.next hs0 h1 hc hT hTS hg
 ·rw [fol_in he]
  exact h
theorem Cx.tick (h : Cx A c T s td E TS fS n siss) (hc : CI c t) (k : Int) : Cx A (cTick c k) T s td E TS fS n siss := by
  have h1 : Cx A { c with now := c.now + k } T s td E TS fS n siss := h.sx ⟨rfl, rfl, rfl, rfl, rfl, rfl, rfl, rfl, rfl, rfl, rfl, rfl, fun q d e => ⟨d, e⟩, id, id⟩
  unfold cTick
  dsimp only
  refine Cx.settle ?_
  split
  · exact h1.closed 0
  · split
    · rename_i hl
      have h0 : c.st ≠ 0 := fun e => by have := hc.ck e; have := hl.1; omega
      unfold cLate
      split
      · exact h1.closed 13
      · split
        · exact h1.sx ⟨rfl, rfl, rfl, rfl, rfl, rfl, rfl, rfl, rfl, rfl, rfl, rfl, fun q d e => ⟨d, e⟩, id, id⟩
        · refine h1.sx ⟨rfl, rfl, rfl, rfl, rfl, rfl, rfl, rfl, rfl, rfl, rfl, rfl, fun q d' e => ?_, fun e => ?_, id⟩
          · have e4 : c.h.map (fun x => (x.1, (⟨x.2.m, x.2.m, halfZ x.2.m (c.o.cur - c.o.una)⟩ : KWd))) = some (q, d') := e
            cases hx : c.h with
            | none => rw [hx] at e4; cases e4
            | some x =>
              rw [hx] at e4
              injection e4 with e5
              injection e5 with e6 e7
              exact ⟨x.2, by rw [← e6]⟩
          · have e4 : c.h.map (fun x => (x.1, (⟨x.2.m, x.2.m, halfZ x.2.m (c.o.cur - c.o.una)⟩ : KWd))) = Option.none := e
            show c.h = Option.none
            cases hx : c.h with
            | none => rfl
            | some x => rw [hx] at e4; cases e4
    · exact h1
end
section
variable {A : KAd} {c c' : KCn} {T TS U : ByteArray} {s td fS : Bool} {E E' siss t : Int} {n : Nat} {g : KSeg}
theorem Cx.peer (h : Cx A c T s td E TS false n siss) : Cx A c T s td E (TS ++ U) false n siss :=
 ⟨h.ad, h.hd, h.wn, fun q d e => ⟨(h.good q d e).1.grow, (h.good q d e).2⟩, h.emp⟩
theorem Cx.mono (h : Cx A c T s td E TS fS n siss) (hE : E ≤ E') : Cx A c T s td E' TS fS n siss := ⟨h.ad, h.hd, h.wn.mono hE, h.good, h.emp⟩
theorem Wn.fresh (h : Wn c false E) : Wn c true E' := by
 refine ⟨fun hu => ?_, ?_⟩
 ·have := (h.wn hu).1; cases this
 ·rcases h.se with h1 | h1
  ·exact .inl h1
  ·cases h1.1
theorem Cx.fresh (h : Cx A c T s false E TS fS n siss) : Cx A c T s true E' TS fS n siss := ⟨h.ad, h.hd, h.wn.fresh, h.good, h.emp⟩
theorem AirS.grow (h : AirS A TS false siss td E g) : AirS A (TS ++ U) false siss td E g := by
 refine ⟨h.1, ?_⟩
 rcases h.2 with h2 | ⟨h2, ⟨p, l, h3⟩, h4⟩
 ·exact .inl h2
 ·exact .inr ⟨h2, ⟨p, l, h3.grow⟩, h4⟩
theorem AirS.told (h : AirS A TS fS siss td E g) : AirS A TS true siss td E g := by
 refine ⟨h.1, ?_⟩
 rcases h.2 with h2 | ⟨h2, ⟨p, l, h3⟩, h4⟩
 ·exact .inl h2
 ·exact .inr ⟨h2, ⟨p, l, h3.told⟩, h4⟩
theorem AirS.mono (h : AirS A TS fS siss td E g) (hE : E ≤ E') : AirS A TS fS siss td E' g := by
 refine ⟨h.1, ?_⟩
 rcases h.2 with h2 | ⟨h2, h3, h4⟩
 ·exact .inl h2
 ·refine .inr ⟨h2, h3, fun hh => ?_⟩
  obtain ⟨a, e1, e2, e3, e4, e5⟩ := h4 hh
  exact ⟨a, e1, e2, e3, e4, by omega⟩
theorem AirS.fresh (h : AirS A TS fS siss false E g) : AirS A TS fS siss true E' g := by
 refine ⟨h.1, ?_⟩
 rcases h.2 with h2 | ⟨h2, h3, h4⟩
 ·exact .inl h2
 ·refine .inr ⟨h2, h3, fun hh => ?_⟩
  obtain ⟨a, e1, e2, e3, e4, e5⟩ := h4 hh
  cases e4
theorem ba_app0 (T S : ByteArray) : T ++ S.extract 0 0 = T := by
 have : S.extract 0 0 = ⟨#[]⟩ := ByteArray.size_eq_zero_iff.1 (by rw [ByteArray.size_extract]; omega)
 rw [this]
 exact ByteArray.append_empty
theorem Cx.write (h : Cx A c T s td E TS fS n siss) (hc : CI c t) (S : ByteArray) :
  Cx A (cWrite c S).1 (T ++ S.extract 0 (cWrite c S).2.1.toNat) s td E TS fS n siss ∧ 0 ≤ (cWrite c S).2.1 ∧ (cWrite c S).2.1 ≤ S.size ∧ ((cWrite c S).2.2 ≠ 0 → (cWrite c S).2.1 = 0) ∧ (s = true → (cWrite c S).2.1 = 0) := by
 unfold cWrite
 split
 ·refine ⟨?_, Int.le_refl 0, by show (0 : Int) ≤ (S.size : Int); omega, fun _ => rfl, fun _ => rfl⟩
  show Cx A c (T ++ S.extract 0 0) s td E TS fS n siss
  rw [ba_app0]; exact h
 ·split
  ·refine ⟨?_, Int.le_refl 0, by show (0 : Int) ≤ (S.size : Int); omega, fun _ => rfl, fun _ => rfl⟩
   show Cx A c (T ++ S.extract 0 0) s td E TS fS n siss
   rw [ba_app0]; exact h
  ·rename_i h1 h2
   have hst : c.st ≠ 0 := fun e => h2 (.inl e)
   have hn := oN_le hc.o S.size
   have hz : s = true → oN c.o S.size = 0 := fun e => by
    rcases h.hd.sh e with hcl | h0
    ·unfold oN oRoom
     rw [if_pos hcl]
     simp
    ·exact absurd h0 hst
   have hW : Cx A { c with o := oWrite c.o S } (T ++ S.extract 0 (oN c.o S.size)) s td E TS fS n siss := by
    have hh := write_held hc.o h.hd.held S
    rw [← sI_app'] at hh
    exact ⟨⟨h.ad.la, h.ad.lp, h.ad.ra, h.ad.rp, h.ad.iss⟩, ⟨hh, h.hd.cl, h.hd.sh⟩, ⟨h.wn.wn, h.wn.se⟩, h.good, h.emp⟩
   split
   ·rename_i h3
    refine ⟨?_, Int.le_refl 0, by show (0 : Int) ≤ (S.size : Int); omega, fun _ => rfl, fun _ => rfl⟩
    show Cx A (cSettle { c with o := oWrite c.o S }) (T ++ S.extract 0 0) s td E TS fS n siss
    rw [h3.1] at hW
    exact hW.settle
   ·refine ⟨?_, ?_, ?_, fun e => absurd rfl e, fun e => ?_⟩
    ·show Cx A (cSettle { c with o := oWrite c.o S }) (T ++ S.extract 0 ((oN c.o S.size : Nat) : Int).toNat) s td E TS fS n siss
     rw [Int.toNat_natCast]
     exact hW.settle
    ·show (0 : Int) ≤ ((oN c.o S.size : Nat) : Int); omega
    ·show ((oN c.o S.size : Nat) : Int) ≤ S.size; omega
    ·show ((oN c.o S.size : Nat) : Int) = 0
     rw [hz e]; rfl
theorem Cx.read (h : Cx A c T s td E TS fS n siss) (most : Int) (hn : n ≤ TS.size) :
  ∃ m : Nat, Cx A (cRead c most).1 T s td E TS fS (n + m) siss ∧ n + m ≤ TS.size ∧ (cRead c most).2.1 = TS.extract n (n + m) ∧ ((cRead c most).2.2.2 ≠ 0 → m = 0) ∧
   ((cRead c most).2.2.1 = true → m = 0 ∧ ((cRead c most).1.st = 0 ∨ (fS = true ∧ n = TS.size))) ∧ (cRead c most).1.st = c.st := by
 have hx0 : TS.extract n (n + 0) = ⟨#[]⟩ := ByteArray.size_eq_zero_iff.1 (by rw [ByteArray.size_extract]; omega)
 have hT : ∃ m : Nat, Cx A (cReadT c).1 T s td E TS fS (n + m) siss ∧ n + m ≤ TS.size ∧ (cReadT c).2.1 = TS.extract n (n + m) ∧ ((cReadT c).2.2.2 ≠ 0 → m = 0) ∧
   ((cReadT c).2.2.1 = true → m = 0 ∧ ((cReadT c).1.st = 0 ∨ (fS = true ∧ n = TS.size))) ∧ (cReadT c).1.st = c.st := by
  refine ⟨0, ?_⟩
  unfold cReadT
  split
  ·exact ⟨h, by omega, hx0.symm, fun _ => rfl, fun e => (by cases e), rfl⟩
  ·rename_i h0
   split
   ·exact ⟨h, by omega, hx0.symm, fun _ => rfl, fun e => (by cases e), rfl⟩
   ·exact ⟨h, by omega, hx0.symm, fun _ => rfl, fun _ => ⟨rfl, .inl (Decidable.byContradiction h0)⟩, rfl⟩
 unfold cRead
 split
 ·rename_i hh
  obtain ⟨x, hx⟩ := Option.ne_none_iff_exists'.1 hh.1
  obtain ⟨q, d⟩ := x
  have hq : cQ c = q := by unfold cQ; rw [hx]
  have gd := (h.good q d hx).1
  have hb := readN_bd gd.ok most
  have hrd := gd.rd
  have hend := gd.end_
  have hgr := good_read gd (readN q most) hb
  have hby := good_bytes gd (readN q most) hb
  refine ⟨readN q most, ?_, by omega, ?_, fun e => absurd rfl e, fun e => (by cases e), rfl⟩
  ·refine ⟨⟨h.ad.la, h.ad.lp, h.ad.ra, h.ad.rp, h.ad.iss⟩, ⟨h.hd.held, h.hd.cl, h.hd.sh⟩, ⟨h.wn.wn, h.wn.se⟩, fun q' d' e => ?_, fun e => ?_⟩
   ·have e4 : c.h.map (fun x => (({ x.1 with rd := x.1.rd + readN x.1 most } : IQ), x.2)) = some (q', d') := e
    rw [hx] at e4
    injection e4 with e5
    injection e5 with e6 e7
    rw [← e6]
    exact ⟨hgr, (h.good q d hx).2⟩
   ·have e4 : c.h.map (fun x => (({ x.1 with rd := x.1.rd + readN x.1 most } : IQ), x.2)) = Option.none := e
    rw [hx] at e4; cases e4
  ·show byteS (readL (cQ c) (readN (cQ c) most)) = _
   rw [hq]
   apply str_ext
   rw [byteS_toList, hby, ByteArray.data_extract, Array.toList_extract, List.extract_eq_take_drop, show n + readN q most - n = readN q most by omega]
 ·split
  ·rename_i hh
   obtain ⟨x, hx⟩ := Option.ne_none_iff_exists'.1 hh.1
   obtain ⟨q, d⟩ := x
   have hq : cQ c = q := by unfold cQ; rw [hx]
   have gd := (h.good q d hx).1
   have ho : q.over = true := by rw [← hq]; exact hh.2
   have hov := gd.ov ho
   have hrd := gd.rd
   rename_i h1
   have h1' : ¬ 0 < endZ q - q.rd := fun e => h1 ⟨hh.1, by rw [hq]; exact e⟩
   have he := end_over ho
   have hb := (end_bd q gd.ok).1
   refine ⟨0, h, by omega, hx0.symm, fun _ => rfl, fun _ => ⟨rfl, .inr ⟨hov.2, by omega⟩⟩, rfl⟩
  ·exact hT
theorem Cx.out (h : Cx A c T s td E TS fS n siss) (hc : CI c t) : Cx A (cOut c).1 T s td E TS fS n siss := by
 obtain ⟨_, k, _, _⟩ := out_segs hc h.hd
 have hw := h.wn.out hc h.hd
 refine ⟨⟨k.la.trans h.ad.la, k.lp.trans h.ad.lp, k.ra.trans h.ad.ra, k.rp.trans h.ad.rp, k.iss.trans h.ad.iss⟩, h.hd.sm k, hw, fun q d e => ?_, fun e => h.emp (k.h.symm.trans e)⟩
 rw [k.irs]
 exact h.good q d (k.h.symm.trans e)
end
section
variable {A B : KAd} {a b c : KCn} {T TS T0 T1 G0 G1 S : ByteArray} {s td fS s0 s1 t0 t1 : Bool} {E E0 E1 e0 e1 siss t : Int} {n N : Nat} {g : KSeg} {air : List KSeg}
structure AdTo (A B : KAd) : Prop where
 la : B.la = A.ra
 lp : B.lp = A.rp
 ra : B.ra = A.la
 rp : B.rp = A.lp
 p0 : okP A.lp
 p1 : okP A.rp
 q0 : 0 ≤ A.la ∧ A.la ≤ 4294967295
 q1 : 0 ≤ A.ra ∧ A.ra ≤ 4294967295
theorem AdTo.symm (h : AdTo A B) : AdTo B A := ⟨h.ra.symm, h.rp.symm, h.la.symm, h.lp.symm, by rw [h.lp]; exact h.p1, by rw [h.rp]; exact h.p0, by rw [h.la]; exact h.q1, by rw [h.ra]; exact h.q0⟩
theorem seg_win (h : Cx A c T s td E TS fS n siss) (hc : CI c t) {q : IQ} {d : KWd} (hq : c.h = some (q, d)) : 0 ≤ 2048 - (endZ q - q.rd) ∧ 2048 - (endZ q - q.rd) ≤ 2048 := by
 have h1 := (hc.hs q d hq).1
 have h2 := end_bd q h1
 omega
theorem seg_chk (h : Cx A c T s td E TS fS n siss) (hc : CI c t) (hp : AdTo A B) {L : Int} (hg : SegOut T s c L g) : tcChk g = 0 := by
  obtain ⟨⟨a1, a2, a3, a4⟩, hg⟩ := hg
  have f1 : okP g.fp := by rw [a2, h.ad.lp]; exact hp.p0
  have f2 : okP g.tp := by rw [a4, h.ad.rp]; exact hp.p1
  rcases hg with hr | ⟨hf, at_, hs⟩
  · refine chk_of f1 f2 (by rw [hr.win]; decide) (by rw [hr.mss]; decide) (.inl hr.mss) (fun e => (by rw [hr.syn] at e; cases e)) (fun e => (by rw [hr.fin] at e; cases e)) (.inl hr.ack) (by rw [hr.b]; decide)
  · have hm := hf.mss
    have hw : (0 ≤ g.win ∧ g.win ≤ 65535) ∧ (g.ack = 0 ∨ g.has = true) := by
      cases hh : c.h with
      | none => obtain ⟨w1, w2, w3⟩ := hf.no hh; exact ⟨by rw [w3]; decide, .inl w2⟩
      | some x =>
        obtain ⟨q, d⟩ := x
        obtain ⟨w1, w2, w3⟩ := hf.yes q d hh
        have := seg_win h hc hh
        exact ⟨by omega, .inr w1⟩
    have ho := hc.own
    refine chk_of f1 f2 hw.1 (by rw [hm]; split <;> omega) ?_ (fun e => ⟨(hf.syn e).1, hf.rst⟩) (fun _ => hf.rst) hw.2 hs.sz
    rw [hm]
    cases hsy : g.syn with
    | true => exact .inr rfl
    | false => exact .inl (by rw [if_neg (by decide)])
theorem seg_ok (h : Cx A c T s td E TS fS n siss) (hc : CI c t) (hp : AdTo A B) {L : Int} (hg : SegOut T s c L g) : SegOk g := by
  obtain ⟨⟨a1, a2, a3, a4⟩, hg⟩ := hg
  have p0 := hp.p0
  have p1 := hp.p1
  have q0 := hp.q0
  have q1 := hp.q1
  unfold okP at p0 p1
  have l1 := h.ad.la
  have l2 := h.ad.lp
  have l3 := h.ad.ra
  have l4 := h.ad.rp
  rcases hg with hr | ⟨hf, at_, hs⟩
  · have r1 := hr.ack
    have r2 := hr.win
    have r3 := hr.mss
    have r4 := hr.b
    exact ⟨by omega, by omega, by omega, by omega, hr.seq, by omega, by omega, by omega, by omega⟩
  · have r0 := u32_bd (c.iss + at_)
    rw [← hs.seq] at r0
    have r4 := hs.sz
    have ho := hc.own
    have hm : 0 ≤ g.mss ∧ g.mss ≤ 1000 := by rw [hf.mss]; split <;> omega
    have hw : (0 ≤ g.win ∧ g.win ≤ 65535) ∧ (0 ≤ g.ack ∧ g.ack ≤ 4294967295) := by
      cases hh : c.h with
      | none => obtain ⟨w1, w2, w3⟩ := hf.no hh; exact ⟨by rw [w3]; decide, by rw [w2]; decide⟩
      | some x =>
        obtain ⟨q, d⟩ := x
        obtain ⟨w1, w2, w3⟩ := hf.yes q d hh
        have := seg_win h hc hh
        have r1 := u32_bd (c.irs + q.nx)
        rw [← w2] at r1
        exact ⟨by omega, r1⟩
    exact ⟨by omega, by omega, by omega, by omega, r0, hw.2, by omega, by omega, by omega⟩
theorem seg_tell (h : Cx A c T s td E TS fS n siss) (hc : CI c t) (hp : AdTo A B) (hi : B.iss = siss) (hT : TS.size ≤ 1048576) (hg : SegOut T s c (oL c) g) :
    (¬ (g.has = true ∧ g.rst = false) → ∀ td1 E1, AirS B T s A.iss td1 E1 g) ∧
    (g.has = true → ∃ E', sdEdge g = u32 (siss + E') ∧ 0 ≤ E' ∧ E' ≤ 4194304 ∧ ∀ E1, E' ≤ E1 → AirS B T s A.iss true E1 g) := by
  obtain ⟨⟨a1, a2, a3, a4⟩, hg⟩ := hg
  have ha : g.fa = B.ra ∧ g.fp = B.rp ∧ g.ta = B.la ∧ g.tp = B.lp := ⟨by rw [a1, h.ad.la, hp.ra], by rw [a2, h.ad.lp, hp.rp], by rw [a3, h.ad.ra, hp.la], by rw [a4, h.ad.rp, hp.lp]⟩
  rcases hg with hr | ⟨hf, at_, hs⟩
  · exact ⟨fun _ td1 E1 => ⟨ha, .inl hr⟩, fun e => (by rw [hr.has] at e; cases e)⟩
  · rw [h.ad.iss] at hs
    cases hh : c.h with
    | none =>
      obtain ⟨w1, w2, w3⟩ := hf.no hh
      exact ⟨fun _ td1 E1 => ⟨ha, .inr ⟨hf.rst, ⟨at_, _, hs⟩, fun e => (by rw [w1] at e; cases e)⟩⟩, fun e => (by rw [w1] at e; cases e)⟩
    | some x =>
      obtain ⟨q, d⟩ := x
      obtain ⟨w1, w2, w3⟩ := hf.yes q d hh
      have hw := seg_win h hc hh
      have hn := h.nx hh
      have hr := (h.good q d hh).2
      rw [hr] at w2
      refine ⟨fun e => absurd ⟨w1, hf.rst⟩ e, fun _ => ⟨q.nx + g.win, ?_, by omega, by omega, fun E1 hE => ⟨ha, .inr ⟨hf.rst, ⟨at_, _, hs⟩, fun _ => ⟨q.nx, by rw [w2, hi], by omega, by omega, rfl, hE⟩⟩⟩⟩⟩
      unfold sdEdge
      rw [w2, u32_add, u32_add', Int.add_assoc]
theorem less_edge {i x y : Int} (hx : 0 ≤ x ∧ x ≤ 4194304) (hy : 0 ≤ y ∧ y ≤ 4194304) : lessB (u32 (i + x)) (u32 (i + y)) = decide (x < y) := less_is (by omega) (by omega)
theorem seg_in (h : Cx A c T s td E TS fS n siss) (hc : CI c t) (hE : td = true → e0 = u32 (A.iss + E) ∧ 0 ≤ E ∧ E ≤ 4194304) (hg : SegOut T s c (oL c) g) :
    (td && (decide (0 < (g.b.size : Int)) && lessB (u32 (e0 + 1)) (u32 (g.seq + u32 g.b.size)))) = false := by
  cases htd : td with
  | false => rfl
  | true =>
    by_cases h0 : 0 < (g.b.size : Int)
    · obtain ⟨_, hg⟩ := hg
      rcases hg with hr | ⟨hf, at_, hs⟩
      · have := hr.b; omega
      · have h1 := (h.wn.seg hc hs (by omega)).2
        have h2 := (hs.body (by omega)).1
        obtain ⟨e1, e2, e3⟩ := hE htd
        have h3 := hs.seq
        rw [h.ad.iss] at h3
        have : lessB (u32 (e0 + 1)) (u32 (g.seq + u32 g.b.size)) = decide (E + 1 < at_ + g.b.size) := by
          rw [e1, h3, u32_add', u32_add', u32_add, Int.add_assoc, Int.add_assoc]
          exact less_is (by omega) (by omega)
        rw [this, decide_eq_false (show ¬ E + 1 < at_ + (g.b.size : Int) by omega), Bool.and_false, Bool.and_false]
    · rw [decide_eq_false h0, Bool.false_and, Bool.and_false]
structure PH (A B : KAd) (a b : KCn) (T0 T1 G0 G1 : ByteArray) (s0 s1 t0 t1 : Bool) (e0 e1 : Int) (air : List KSeg) (E0 E1 : Int) (N : Nat) (t : Int) : Prop where
 tt : AdTo A B
 ca : CI a t
 cb : CI b t
 xa : Cx A a T0 s0 t0 E0 T1 s1 G0.size B.iss
 xb : Cx B b T1 s1 t1 E1 T0 s0 G1.size A.iss
 ia : 0 ≤ A.iss ∧ A.iss ≤ 4294967295
 ib : 0 ≤ B.iss ∧ B.iss ≤ 4294967295
 g0 : G0 = T1.extract 0 G0.size
 g1 : G1 = T0.extract 0 G1.size
 n0 : G0.size ≤ T1.size
 n1 : G1.size ≤ T0.size
 aok : ∀ g ∈ air, SegOk g
 air : ∀ g ∈ air, AirS A T1 s1 B.iss t0 E0 g ∨ AirS B T0 s0 A.iss t1 E1 g
 e0 : t0 = true → e0 = u32 (A.iss + E0) ∧ 0 ≤ E0 ∧ E0 ≤ 4194304
 e1 : t1 = true → e1 = u32 (B.iss + E1) ∧ 0 ≤ E1 ∧ E1 ≤ 4194304
 sz : T0.size + T1.size ≤ N
 big : N ≤ 1048576
theorem PH.symm (h : PH A B a b T0 T1 G0 G1 s0 s1 t0 t1 e0 e1 air E0 E1 N t) : PH B A b a T1 T0 G1 G0 s1 s0 t1 t0 e1 e0 air E1 E0 N t :=
 ⟨h.tt.symm, h.cb, h.ca, h.xb, h.xa, h.ib, h.ia, h.g1, h.g0, h.n1, h.n0, h.aok, fun g hg => (h.air g hg).symm, h.e1, h.e0, by have := h.sz; omega, h.big⟩
def airP (l : List KSeg) (g : KSeg) : List KSeg := if l.length < 200 then l ++ [g] else l
theorem airP_all {P : KSeg → Prop} (h : ∀ x ∈ air, P x) (hg : P g) : ∀ x ∈ airP air g, P x := by
 unfold airP
 split
 ·intro x hx
  rcases List.mem_append.1 hx with hx | hx
  ·exact h x hx
  ·rw [List.mem_singleton.1 hx]; exact hg
 ·exact h
theorem PH.emit (h : PH A B a b T0 T1 G0 G1 s0 s1 t0 t1 e0 e1 air E0 E1 N t) (hg : SegOut T0 s0 a (oL a) g) :
    ∃ E', PH A B a b T0 T1 G0 G1 s0 s1 t0 (if g.has = true ∧ g.rst = false ∧ (t1 = false ∨ lessB e1 (sdEdge g) = true) then true else t1) e0 (if g.has = true ∧ g.rst = false ∧ (t1 = false ∨ lessB e1 (sdEdge g) = true) then sdEdge g else e1) (airP air g) E0 E' N t := by
  have hs := h.sz
  have hb := h.big
  obtain ⟨k1, k2⟩ := seg_tell h.xa h.ca h.tt rfl (by omega) hg
  have hok := airP_all h.aok (seg_ok h.xa h.ca h.tt hg)
  by_cases hc : g.has = true ∧ g.rst = false
  · obtain ⟨E', d1, d2, d3, d4⟩ := k2 hc.1
    cases ht : t1 with
    | false =>
      rw [if_pos ⟨hc.1, hc.2, .inl rfl⟩, if_pos ⟨hc.1, hc.2, .inl rfl⟩]
      have hx := h.xb
      rw [ht] at hx
      refine ⟨E', { h with xb := hx.fresh, air := ?_, aok := hok, e1 := fun _ => ⟨d1, d2, d3⟩ }⟩
      refine airP_all (fun x hx => ?_) (.inr (d4 E' (Int.le_refl _)))
      rcases h.air x hx with h1 | h1
      · exact .inl h1
      · rw [ht] at h1; exact .inr h1.fresh
    | true =>
      obtain ⟨f1, f2, f3⟩ := h.e1 ht
      have hl : lessB e1 (sdEdge g) = decide (E1 < E') := by rw [f1, d1]; exact less_edge ⟨f2, f3⟩ ⟨d2, d3⟩
      by_cases hlt : E1 < E'
      · have hl' : lessB e1 (sdEdge g) = true := by rw [hl]; exact decide_eq_true hlt
        rw [if_pos ⟨hc.1, hc.2, .inr hl'⟩, if_pos ⟨hc.1, hc.2, .inr hl'⟩]
        have hx := h.xb
        rw [ht] at hx
        refine ⟨E', { h with xb := hx.mono (by omega), air := ?_, aok := hok, e1 := fun _ => ⟨d1, d2, d3⟩ }⟩
        refine airP_all (fun x hx => ?_) (.inr (d4 E' (Int.le_refl _)))
        rcases h.air x hx with h1 | h1
        · exact .inl h1
        · rw [ht] at h1; exact .inr (h1.mono (by omega))
      · have hl' : ¬ lessB e1 (sdEdge g) = true := by rw [hl, decide_eq_false hlt]; decide
        rw [if_neg (fun e => e.2.2.elim (fun e => by cases e) hl'), if_neg (fun e => e.2.2.elim (fun e => by cases e) hl')]
        have hx := h.xb
        rw [ht] at hx
        refine ⟨E1, { h with xb := hx, air := ?_, aok := hok, e1 := fun _ => ⟨f1, f2, f3⟩ }⟩
        refine airP_all (fun x hx => ?_) (.inr (d4 E1 (by omega)))
        rcases h.air x hx with h1 | h1
        · exact .inl h1
        · rw [ht] at h1; exact .inr h1
  · rw [if_neg (fun e => hc ⟨e.1, e.2.1⟩), if_neg (fun e => hc ⟨e.1, e.2.1⟩)]
    exact ⟨E1, { h with air := airP_all h.air (.inr (k1 hc t1 E1)), aok := hok }⟩
theorem PH.outA (h : PH A B a b T0 T1 G0 G1 s0 s1 t0 t1 e0 e1 air E0 E1 N t) : PH A B (cOut a).1 b T0 T1 G0 G1 s0 s1 t0 t1 e0 e1 air E0 E1 N t :=
 { h with ca := h.ca.out.1, xa := h.xa.out h.ca }
end
section
variable {A B : KAd} {a b c : KCn} {T TS U T0 T1 G0 G1 S : ByteArray} {s td fS s0 s1 t0 t1 : Bool} {E E0 E1 e0 e1 siss t t' : Int} {n N : Nat} {g : KSeg} {air air' : List KSeg}
theorem now_settle (c : KCn) : (cSettle c).now = c.now := by unfold cSettle; split <;> (try split) <;> rfl
theorem now_same (c : KCn) (g : KSeg) : (cSame c g).now = c.now := by unfold cSame; split <;> rfl
theorem now_takes (c : KCn) (g : KSeg) (p : Int) : (cTakes c g p).now = c.now := by
 unfold cTakes cTakes1
 show (if _ then _ else _ : KCn).now = _
 split
 ·dsimp only
  split
  ·split
   ·rfl
   ·split <;> rfl
  ·rfl
 ·split <;> rfl
theorem now_acks2 (c : KCn) (g : KSeg) (p k : Int) : (cAcks2 c g p k).1.now = c.now := by
 by_cases hs : c.o.sent < k
 ·unfold cAcks2
  rw [if_pos hs]
 ·obtain ⟨c1, h1⟩ : ∃ z : KCn, z = if c.o.una < k then cAckd c k else if k = c.o.una ∧ sgLen g = 0 ∧ c.o.una < c.o.cur ∧ g.win = c.wnd then cSame c g else c := ⟨_, rfl⟩
  obtain ⟨c2, h2⟩ : ∃ z : KCn, z = if c.o.una < k ∨ (k = c.o.una ∧ (c.wat < p ∨ (p = c.wat ∧ c.wak ≤ k))) then { c1 with wnd := g.win, wat := p, wak := k } else c1 := ⟨_, rfl⟩
  rw [acks2_of hs h1 h2]
  have e1 : c1.now = c.now := by
   rw [h1]
   split
   ·rfl
   ·split
    ·exact now_same c g
    ·rfl
  have e2 : c2.now = c.now := by
   rw [h2]
   split <;> exact e1
  rw [← e2]
  split
  ·split
   ·rfl
   ·split
    ·rfl
    ·split <;> rfl
  ·rfl
theorem now_acks (c : KCn) (g : KSeg) (p : Int) : (cAcks c g p).1.now = c.now := by
 unfold cAcks
 split
 ·split
  ·rfl
  ·exact now_acks2 _ g p _
 ·exact now_acks2 c g p _
theorem now_next (c : KCn) (g : KSeg) : (cNext c g).now = c.now := by
 unfold cNext
 split
 ·split <;> rfl
 ·split
  ·rfl
  ·split
   ·rfl
   ·split
    ·split
     ·rw [now_takes, now_acks]
     ·exact now_acks c g _
    ·rfl
theorem now_in (c : KCn) (g : KSeg) : (cIn c g).now = c.now := by
 unfold cIn
 split
 ·rfl
 ·rw [now_settle]
  split
  ·unfold cFirst
   split
   ·split <;> rfl
   ·split
    ·split <;> rfl
    ·split
     ·split <;> rfl
     ·rfl
  ·exact now_next c g
theorem now_write (c : KCn) (S : ByteArray) : (cWrite c S).1.now = c.now := by
 unfold cWrite
 split
 ·rfl
 ·split
  ·rfl
  ·exact now_settle _
theorem now_tick (c : KCn) (k : Int) : (cTick c k).now = c.now + k := by
 unfold cTick
 dsimp only
 rw [now_settle]
 split
 ·rfl
 ·split
  ·unfold cLate
   split
   ·rfl
   ·split <;> rfl
  ·rfl
theorem now_read (c : KCn) (most : Int) : (cRead c most).1.now = c.now := by
 unfold cRead
 split
 ·rfl
 ·split
  ·rfl
  ·unfold cReadT
   split
   ·rfl
   ·split <;> rfl
theorem now_loop (lim : Int) : ∀ (f : Nat) (c : KCn) (l : List KSeg), (cLoop f c lim l).1.now = c.now
  | 0, c, l => rfl
  | f + 1, c, l => by
    unfold cLoop
    split
    · rw [now_loop lim f]
      unfold cStep
      split <;> rfl
    · rfl
theorem now_out (c : KCn) : (cOut c).1.now = c.now := by
 unfold cOut
 dsimp only
 split
 ·rfl
 ·unfold cTail
  show (cSettle _).now = _
  rw [now_settle]
  exact now_loop _ _ _ _
theorem read_ok {q : IQ} (ok : IqOk q) (most : Int) : IqOk { q with rd := q.rd + readN q most } := by
 have hr := ok.rd1
 have hb := end_bd q ok
 have hm := readN_bd ok most
 refine ⟨by show 1 ≤ q.rd + (readN q most : Int); omega, hm, ?_, ok.nxm, ok.fin1, ok.finm, ok.rok⟩
 show endZ q ≤ q.rd + readN q most + 2048
 omega
theorem CI.read (h : CI c t) (most : Int) : CI (cRead c most).1 (t + 1) := by
 have hm := h.mono (show t ≤ t + 1 by omega)
 unfold cRead
 split
 ·rename_i hh
  obtain ⟨x, hx⟩ := Option.ne_none_iff_exists'.1 hh.1
  obtain ⟨q, d⟩ := x
  have hq : cQ c = q := by unfold cQ; rw [hx]
  obtain ⟨k1, k2, k3⟩ := h.hs q d hx
  have hb := readN_bd k1 most
  have he := end_bd q k1
  have hn : ∀ f : IQ × KWd → IQ × KWd, c.h.map f = none → c.h = none := fun f e => by rw [hx] at e; cases e
  exact { hm with
   s1 := fun e => by
    have := h.s1 e
    rw [hx] at this; cases this
   s2 := fun _ _ e => by rw [hn _ e] at hx; cases hx
   hn := fun e => h.hn (hn _ e)
   hs := fun q' d' e => by
    have e4 : c.h.map (fun x => (({ x.1 with rd := x.1.rd + readN x.1 most } : IQ), x.2)) = some (q', d') := e
    rw [hx] at e4
    injection e4 with e5
    injection e5 with e6 e7
    rw [← e6, ← e7]
    exact ⟨read_ok k1 most, k2, by show q.rd + (readN q most : Int) ≤ _; omega⟩ }
 ·split
  ·exact hm
  ·unfold cReadT
   split
   ·exact hm
   ·split <;> exact hm
theorem ba_grow {k : Nat} (h : k ≤ T.size) : (T ++ U).extract 0 k = T.extract 0 k := by
 apply str_ext
 rw [ByteArray.data_extract, ByteArray.data_extract, ByteArray.data_append, Array.toList_extract, Array.toList_extract, Array.toList_append, List.extract_eq_take_drop, List.extract_eq_take_drop, List.drop_zero, List.drop_zero, Nat.sub_zero]
 have : k ≤ T.data.toList.length := by simpa using h
 rw [List.take_append_of_le_length this]
theorem ba_more {n m : Nat} (h : G0 = T.extract 0 n) : G0 ++ T.extract n (n + m) = T.extract 0 (n + m) := by
 rw [h, ByteArray.extract_append_extract]
 simp
theorem PH.time (h : PH A B a b T0 T1 G0 G1 s0 s1 t0 t1 e0 e1 air E0 E1 N t) (ht : t ≤ t') : PH A B a b T0 T1 G0 G1 s0 s1 t0 t1 e0 e1 air E0 E1 N t' :=
 { h with ca := h.ca.mono ht, cb := h.cb.mono ht }
theorem PH.few (h : PH A B a b T0 T1 G0 G1 s0 s1 t0 t1 e0 e1 air E0 E1 N t) (ha : ∀ g ∈ air', g ∈ air) : PH A B a b T0 T1 G0 G1 s0 s1 t0 t1 e0 e1 air' E0 E1 N t :=
 { h with aok := fun g hg => h.aok g (ha g hg), air := fun g hg => h.air g (ha g hg) }
theorem PH.write (h : PH A B a b T0 T1 G0 G1 s0 s1 t0 t1 e0 e1 air E0 E1 N t) (S : ByteArray) (hN : N + S.size ≤ 1048576) :
    PH A B (cWrite a S).1 b (T0 ++ S.extract 0 (cWrite a S).2.1.toNat) T1 G0 G1 s0 s1 t0 t1 e0 e1 air E0 E1 (N + S.size) (t + 1) := by
  obtain ⟨k1, k2, k3, k4, k5⟩ := h.xa.write h.ca S
  have hz : (T0 ++ S.extract 0 (cWrite a S).2.1.toNat).size ≤ T0.size + S.size := by
    rw [ByteArray.size_append, ByteArray.size_extract]; omega
  have hz2 : T0.size ≤ (T0 ++ S.extract 0 (cWrite a S).2.1.toNat).size := by rw [ByteArray.size_append]; omega
  have hs := h.sz
  have hn1 := h.n1
  have h' := h.time (show t ≤ t + 1 by omega)
  have hU : s0 = true → T0 ++ S.extract 0 (cWrite a S).2.1.toNat = T0 := fun e => by
    rw [k5 e]; exact ba_app0 _ _
  generalize hU' : T0 ++ S.extract 0 (cWrite a S).2.1.toNat = T0' at *
  have hg1 : G1 = T0'.extract 0 G1.size := by
    rw [← hU', ba_grow hn1]; exact h.g1
  have hx : Cx B b T1 s1 t1 E1 T0' s0 G1.size A.iss ∧ ∀ g, AirS B T0 s0 A.iss t1 E1 g → AirS B T0' s0 A.iss t1 E1 g := by
    cases hs0 : s0 with
    | true =>
      have := h.xb
      rw [hs0] at this
      rw [hU hs0]
      exact ⟨this, fun g hg => hg⟩
    | false =>
      have := h.xb
      rw [hs0] at this
      rw [← hU']
      exact ⟨this.peer, fun g hg => hg.grow⟩
  exact { h' with ca := (h.ca.write S).1, xa := k1, xb := hx.1, g1 := hg1, n1 := by omega, air := fun g hg => (h.air g hg).imp id (hx.2 g), sz := by omega, big := hN }
theorem PH.tick (h : PH A B a b T0 T1 G0 G1 s0 s1 t0 t1 e0 e1 air E0 E1 N t) (k : Int) (hk : 0 ≤ k) (hk2 : k ≤ 1099511627776 - a.now) :
  PH A B (cTick a k) b T0 T1 G0 G1 s0 s1 t0 t1 e0 e1 air E0 E1 N t :=
 { h with ca := (h.ca.tick k hk hk2).1, xa := h.xa.tick h.ca k }
theorem PH.read (h : PH A B a b T0 T1 G0 G1 s0 s1 t0 t1 e0 e1 air E0 E1 N t) (most : Int) :
  PH A B (cRead a most).1 b T0 T1 (G0 ++ (cRead a most).2.1) G1 s0 s1 t0 t1 e0 e1 air E0 E1 N (t + 1) ∧ ((cRead a most).2.2.2 ≠ 0 → (cRead a most).2.1 = ⟨#[]⟩) ∧
   ((cRead a most).2.2.1 = true → (cRead a most).1.st = 0 ∨ (s1 = true ∧ G0 ++ (cRead a most).2.1 = T1)) := by
 obtain ⟨m, k1, k2, k3, k4, k5, k6⟩ := h.xa.read most h.n0
 have h' := h.time (show t ≤ t + 1 by omega)
 have hg : G0 ++ (cRead a most).2.1 = T1.extract 0 (G0.size + m) := by rw [k3]; exact ba_more h.g0
 have hz : (G0 ++ (cRead a most).2.1).size = G0.size + m := by rw [hg, ByteArray.size_extract]; omega
 have hx0 : m = 0 → (cRead a most).2.1 = ⟨#[]⟩ := fun e => ByteArray.size_eq_zero_iff.1 (by rw [k3, ByteArray.size_extract]; omega)
 refine ⟨{ h' with ca := h.ca.read most, xa := by rw [hz]; exact k1, g0 := by rw [hz]; exact hg, n0 := by rw [hz]; exact k2 }, fun e => hx0 (k4 e), fun e => ?_⟩
 obtain ⟨e1, e2⟩ := k5 e
 rcases e2 with e2 | ⟨e2, e3⟩
 ·exact .inl e2
 ·refine .inr ⟨e2, ?_⟩
  rw [hg, e1, Nat.add_zero, e3]
  exact ByteArray.extract_zero_size
theorem PH.come (h : PH A B a b T0 T1 G0 G1 s0 s1 t0 t1 e0 e1 air E0 E1 N t) (ht : t ≤ 140737488355320) (hg : g ∈ air) (hto : g.ta = A.la ∧ g.tp = A.lp) (hne : ¬ (B.la = A.la ∧ B.lp = A.lp)) :
  PH A B (cIn a g) b T0 T1 G0 G1 s0 s1 t0 t1 e0 e1 air E0 E1 N (t + 1) := by
 have h' := h.time (show t ≤ t + 1 by omega)
 have hs := h.sz
 have hb := h.big
 have hA : AirS A T1 s1 B.iss t0 E0 g := by
  rcases h.air g hg with h1 | h1
  ·exact h1
  ·obtain ⟨⟨_, _, a3, a4⟩, _⟩ := h1
   exact absurd ⟨a3.symm.trans hto.1, a4.symm.trans hto.2⟩ hne
 exact { h' with ca := (h.ca.in_ ht g (h.aok g hg)).1, xa := h.xa.in_ h.ca (by omega) (by omega) h.ib hA }
end
end Go.Proofs.Ytfpifahkpkjfgaa
