/- What ConnStates needs, part 7: OutqP, OutqC, OutqW. -/
import Derived.StillTailTactics
import Derived.Test.YtfpifahkpkjfgaaMConnStates6
/- The queue of what goes out, as a plain model. -/
namespace Go.Proofs.Ytfpifahkpkjfgaa
set_option linter.unusedVariables false

structure OQ where
  l : List Int
  base : Int
  una : Int
  cur : Int
  sent : Int
  cl : Bool
def newOQ : OQ := ⟨[], 1, 0, 0, 0, false⟩
def oFin (q : OQ) : Int := q.base + q.l.length
def qEnd (q : OQ) : Int := if q.cl then oFin q + 1 else oFin q
def oRoom (q : OQ) : Int := if q.cl then 0 else 2048 - q.l.length
/-- how many of so many may be written -/
def oN (q : OQ) (s : Nat) : Nat := min s (oRoom q).toNat
def oWrite (q : OQ) (s : ByteArray) : OQ := { q with l := q.l ++ sI (s.extract 0 (oN q s.size)) }
def oLim (q : OQ) (lim : Int) : Int := if lim < qEnd q then lim else qEnd q
def oIs (q : OQ) (fr lim mss : Int) : Bool := decide (fr < oLim q lim) && decide (1 ≤ mss)
/-- where a piece's bytes end -/
def oTo (q : OQ) (fr lim mss : Int) : Int :=
  let t := if oLim q lim < oFin q then oLim q lim else oFin q
  if mss < t - fr then fr + mss else t
def oBody (q : OQ) (fr lim mss : Int) : List Int := if fr < oTo q fr lim mss then (q.l.drop (fr - q.base).toNat).take (oTo q fr lim mss - fr).toNat else []
def oFinB (q : OQ) (fr lim mss : Int) : Bool := q.cl && (decide ((if fr < oTo q fr lim mss then oTo q fr lim mss else fr) = oFin q) && decide (oFin q < oLim q lim))
def qPiece (q : OQ) (fr lim mss : Int) : KPiece :=
  if oIs q fr lim mss then (if fr = 0 then ⟨0, true, false, ⟨#[]⟩⟩ else ⟨fr, false, oFinB q fr lim mss, byteS (oBody q fr lim mss)⟩) else ⟨0, false, false, ⟨#[]⟩⟩
def oLen (p : KPiece) : Int := p.b.size + (if p.syn then 1 else 0) + (if p.fin then 1 else 0)
def oNext (q : OQ) (lim mss : Int) : OQ :=
  let c := q.cur + oLen (qPiece q q.cur lim mss)
  { q with cur := c, sent := if q.sent < c then c else q.sent }
/-- how much an acknowledgement takes away -/
def oAckN (q : OQ) (a : Int) : Int := (if a < oFin q then a else oFin q) - q.base
def oHit (q : OQ) (a : Int) : Bool := decide (q.una < a) && decide (a ≤ q.sent)
def oAck (q : OQ) (a : Int) : OQ :=
  if oHit q a then ⟨if 0 < oAckN q a then q.l.drop (oAckN q a).toNat else q.l, if 0 < oAckN q a then q.base + oAckN q a else q.base, a, if q.cur < a then a else q.cur, q.sent, q.cl⟩ else q
structure OqOk (q : OQ) : Prop where
  len : q.l.length ≤ 2048
  ba : 1 ≤ q.base
  uc : 0 ≤ q.una
  cs : q.una ≤ q.cur
  se : q.cur ≤ q.sent
  ee : q.sent ≤ qEnd q
  rel : (q.una = 0 ∧ q.base = 1) ∨ (1 ≤ q.una ∧ q.base = if q.una < oFin q then q.una else oFin q)
theorem new_ok : OqOk newOQ := ⟨by simp [newOQ], by simp [newOQ], by simp [newOQ], by simp [newOQ], by simp [newOQ], by simp [newOQ, qEnd, oFin], .inl ⟨rfl, rfl⟩⟩
section
variable {q : OQ}
theorem oRoom_bd (ok : OqOk q) : 0 ≤ oRoom q ∧ oRoom q ≤ 2048 := by
  have := ok.len; unfold oRoom; split <;> omega
theorem oN_le (ok : OqOk q) (s : Nat) : oN q s ≤ s ∧ (oN q s : Int) ≤ oRoom q := by
  have := oRoom_bd ok; unfold oN; omega
theorem oWrite_len (ok : OqOk q) (s : ByteArray) : (oWrite q s).l.length = q.l.length + oN q s.size := by
  have := (oN_le ok s.size).1
  simp only [oWrite, List.length_append, sI_len, ByteArray.size_extract]
  omega
theorem write_ok (ok : OqOk q) (s : ByteArray) : OqOk (oWrite q s) := by
  have hl := oWrite_len ok s
  have hn := oN_le ok s.size
  have hr := oRoom_bd ok
  obtain ⟨h1, h2, h3, h4, h5, h6, h7⟩ := ok
  have hf : oFin (oWrite q s) = oFin q + oN q s.size := by unfold oFin; rw [hl]; show q.base + _ = _; omega
  have hcl : (oWrite q s).cl = q.cl := rfl
  have hz : q.cl = true → oN q s.size = 0 := fun h => by have := hn.2; unfold oRoom at this; rw [if_pos h] at this; omega
  refine ⟨?_, h2, h3, h4, h5, ?_, ?_⟩
  · rw [hl]; unfold oRoom at hn; split at hn <;> omega
  · show q.sent ≤ _
    unfold qEnd at h6 ⊢
    rw [hf, hcl]; split at h6 <;> split <;> first | omega | contradiction
  · rcases h7 with h7 | h7
    · exact .inl h7
    · refine .inr ⟨h7.1, ?_⟩
      show q.base = if q.una < _ then q.una else _
      rw [hf]
      have h8 := h7.2
      by_cases hc : q.cl = true
      · rw [hz hc]; simpa using h8
      · have : qEnd q = oFin q := by unfold qEnd; rw [if_neg hc]
        split at h8 <;> split <;> omega
theorem close_ok (ok : OqOk q) : OqOk { q with cl := true } := by
  obtain ⟨h1, h2, h3, h4, h5, h6, h7⟩ := ok
  refine ⟨h1, h2, h3, h4, h5, ?_, h7⟩
  show q.sent ≤ qEnd { q with cl := true }
  have : qEnd { q with cl := true } = oFin q + 1 := rfl
  unfold qEnd at h6; split at h6 <;> omega
theorem back_ok (ok : OqOk q) : OqOk { q with cur := q.una } := by
  obtain ⟨h1, h2, h3, h4, h5, h6, h7⟩ := ok
  exact ⟨h1, h2, h3, Int.le_refl _, by show q.una ≤ q.sent; omega, h6, h7⟩
theorem qEnd_bd : oFin q ≤ qEnd q ∧ qEnd q ≤ oFin q + 1 := by unfold qEnd; split <;> omega
theorem oLim_le (lim : Int) : oLim q lim ≤ lim ∧ oLim q lim ≤ qEnd q := by unfold oLim; split <;> omega
/-- what a piece of bytes is, at a place that is not SYN's -/
theorem piece_bd (ok : OqOk q) (lim mss : Int) (h0 : q.cur ≠ 0) (hi : oIs q q.cur lim mss = true) :
    q.base ≤ q.cur ∧ oTo q q.cur lim mss ≤ oFin q ∧ oTo q q.cur lim mss ≤ oLim q lim ∧ oTo q q.cur lim mss - q.cur ≤ mss ∧ q.cur ≤ oFin q ∧
    (oBody q q.cur lim mss).length = (if q.cur < oTo q q.cur lim mss then oTo q q.cur lim mss - q.cur else 0).toNat ∧
    (q.cur < oTo q q.cur lim mss ∨ (q.cur = oFin q ∧ oFinB q q.cur lim mss = true)) := by
  obtain ⟨h1, h2, h3, h4, h5, h6, h7⟩ := ok
  unfold oIs at hi
  simp only [Bool.and_eq_true, decide_eq_true_eq] at hi
  have hl := oLim_le (q := q) lim
  have he := qEnd_bd (q := q)
  have hb : q.base ≤ q.cur := by
    rcases h7 with h7 | h7
    · omega
    · have := h7.2; split at this <;> omega
  have ht : oTo q q.cur lim mss ≤ oFin q ∧ oTo q q.cur lim mss ≤ oLim q lim ∧ oTo q q.cur lim mss - q.cur ≤ mss ∧ (q.cur < oTo q q.cur lim mss ∨ oFin q ≤ q.cur) := by
    unfold oTo
    simp only
    split <;> split <;> omega
  obtain ⟨t1, t2, t3, t4⟩ := ht
  have hc : q.cur ≤ oFin q := by omega
  refine ⟨hb, t1, t2, t3, hc, ?_, ?_⟩
  · unfold oBody
    split
    · rename_i hlt
      rw [List.length_take, List.length_drop]
      unfold oFin at t1
      omega
    · simp
  · by_cases hlt : q.cur < oTo q q.cur lim mss
    · exact .inl hlt
    · have hcf : q.cur = oFin q := by omega
      refine .inr ⟨hcf, ?_⟩
      unfold oFinB
      rw [if_neg hlt]
      have hcl : q.cl = true := by
        by_cases hcl : q.cl = true
        · exact hcl
        · have : qEnd q = oFin q := by unfold qEnd; rw [if_neg hcl]
          omega
      simp only [hcl, Bool.true_and, Bool.and_eq_true, decide_eq_true_eq]
      omega
theorem oLen_lo (p : KPiece) : 0 ≤ oLen p := by unfold oLen; split <;> split <;> omega
/-- all that a piece says -/
theorem piece_is (ok : OqOk q) (lim mss : Int) (hi : oIs q q.cur lim mss = true) :
    let p := qPiece q q.cur lim mss
    p.at_ = q.cur ∧ (p.b.size : Int) ≤ mss ∧ p.syn = decide (q.cur = 0) ∧ 0 < oLen p ∧ q.cur + oLen p ≤ lim ∧ q.cur + oLen p ≤ qEnd q ∧ q.cur ≤ oFin q ∧
    (p.syn = true → p.fin = false ∧ p.b = ⟨#[]⟩) ∧ (p.fin = true → q.cl = true ∧ q.cur + p.b.size = oFin q) ∧
    (0 < p.b.size → q.base ≤ q.cur ∧ q.cur + p.b.size ≤ oFin q ∧ p.b = byteS ((q.l.drop (q.cur - q.base).toNat).take p.b.size)) := by
  intro p
  by_cases h0 : q.cur = 0
  · have hp : p = ⟨0, true, false, ⟨#[]⟩⟩ := by show qPiece q q.cur lim mss = _; unfold qPiece; rw [if_pos hi, if_pos h0]
    have hz : ((⟨#[]⟩ : ByteArray).size : Int) = 0 := rfl
    have hl := oLim_le (q := q) lim
    have hf : 1 ≤ oFin q := by have := ok.ba; unfold oFin; omega
    unfold oIs at hi
    simp only [Bool.and_eq_true, decide_eq_true_eq] at hi
    rw [hp]
    refine ⟨h0.symm, by rw [hz]; omega, by simp [h0], by simp [oLen, hz], by simp only [oLen, hz, if_true]; simp; omega, by simp only [oLen, hz, if_true]; simp; omega, by omega, fun _ => ⟨rfl, rfl⟩, fun h => by simp at h, fun h => by simp [ByteArray.size] at h⟩
  · have hp : p = ⟨q.cur, false, oFinB q q.cur lim mss, byteS (oBody q q.cur lim mss)⟩ := by show qPiece q q.cur lim mss = _; unfold qPiece; rw [if_pos hi, if_neg h0]
    obtain ⟨k1, k2, k3, k4, k5, k6, k7⟩ := piece_bd ok lim mss h0 hi
    have hz : (byteS (oBody q q.cur lim mss)).size = (oBody q q.cur lim mss).length := byteS_sz _
    have hl := oLim_le (q := q) lim
    have he := qEnd_bd (q := q)
    have hi' := hi
    unfold oIs at hi'
    simp only [Bool.and_eq_true, decide_eq_true_eq] at hi'
    have hsz : ((byteS (oBody q q.cur lim mss)).size : Int) = if q.cur < oTo q q.cur lim mss then oTo q q.cur lim mss - q.cur else 0 := by
      rw [hz, k6]; split <;> omega
    have hfb : oFinB q q.cur lim mss = true → q.cl = true ∧ (if q.cur < oTo q q.cur lim mss then oTo q q.cur lim mss else q.cur) = oFin q ∧ oFin q < oLim q lim := by
      intro h; unfold oFinB at h; simpa only [Bool.and_eq_true, decide_eq_true_eq] using h
    rw [hp]
    simp only
    refine ⟨trivial, ?_, by simp [h0], ?_, ?_, ?_, k5, fun h => by simp at h, fun h => ?_, fun h => ?_⟩
    · rw [hsz]; split <;> omega
    · unfold oLen; simp only; rw [hsz]
      rcases k7 with k7 | ⟨_, k7⟩
      · rw [if_pos k7]; split <;> first | omega | (simp; omega)
      · rw [k7]; simp; split <;> omega
    · unfold oLen; simp only; rw [hsz]
      by_cases hb : oFinB q q.cur lim mss = true
      · obtain ⟨_, e2, e3⟩ := hfb hb
        rw [hb]; simp; split at e2 <;> simp_all <;> omega
      · rw [if_neg hb]; simp; split <;> omega
    · unfold oLen; simp only; rw [hsz]
      by_cases hb : oFinB q q.cur lim mss = true
      · obtain ⟨_, e2, e3⟩ := hfb hb
        rw [hb]; simp; split at e2 <;> simp_all <;> omega
      · rw [if_neg hb]; simp; split <;> omega
    · obtain ⟨e1, e2, e3⟩ := hfb h
      refine ⟨e1, ?_⟩
      rw [hsz]; split at e2 <;> simp_all <;> omega
    · have hlt : q.cur < oTo q q.cur lim mss := by
        by_cases hlt : q.cur < oTo q q.cur lim mss
        · exact hlt
        · rw [if_neg hlt] at hsz; omega
      rw [if_pos hlt] at hsz
      refine ⟨k1, by rw [hsz]; omega, ?_⟩
      have e : (byteS (oBody q q.cur lim mss)).size = (oTo q q.cur lim mss - q.cur).toNat := by omega
      rw [e]
      congr 1
      unfold oBody
      rw [if_pos hlt]
theorem next_ok (ok : OqOk q) (lim mss : Int) : OqOk (oNext q lim mss) := by
  by_cases hi : oIs q q.cur lim mss = true
  · obtain ⟨_, _, _, p4, _, p6, _⟩ := piece_is ok lim mss hi
    obtain ⟨h1, h2, h3, h4, h5, h6, h7⟩ := ok
    refine ⟨h1, h2, h3, ?_, ?_, ?_, h7⟩
    · show q.una ≤ q.cur + _; omega
    · show q.cur + oLen (qPiece q q.cur lim mss) ≤ (if q.sent < q.cur + oLen (qPiece q q.cur lim mss) then q.cur + oLen (qPiece q q.cur lim mss) else q.sent); split <;> omega
    · show (if q.sent < q.cur + oLen (qPiece q q.cur lim mss) then q.cur + oLen (qPiece q q.cur lim mss) else q.sent) ≤ qEnd q; split <;> omega
  · have hp : qPiece q q.cur lim mss = ⟨0, false, false, ⟨#[]⟩⟩ := by unfold qPiece; rw [if_neg hi]
    have hz : oLen (qPiece q q.cur lim mss) = 0 := by rw [hp]; rfl
    have e : oNext q lim mss = q := by
      unfold oNext
      simp only [hz, Int.add_zero]
      rw [if_neg (by have := ok.se; omega)]
    rw [e]; exact ok
theorem next_not (ok : OqOk q) (lim mss : Int) (hi : oIs q q.cur lim mss = false) : oNext q lim mss = q := by
  have hp : qPiece q q.cur lim mss = ⟨0, false, false, ⟨#[]⟩⟩ := by unfold qPiece; rw [if_neg (by rw [hi]; decide)]
  have hz : oLen (qPiece q q.cur lim mss) = 0 := by rw [hp]; rfl
  unfold oNext
  simp only [hz, Int.add_zero]
  rw [if_neg (by have := ok.se; omega)]
theorem ack_n (ok : OqOk q) (a : Int) (h : oHit q a = true) : 0 ≤ oAckN q a ∧ oAckN q a ≤ q.l.length := by
  obtain ⟨h1, h2, h3, h4, h5, h6, h7⟩ := ok
  unfold oHit at h
  simp only [Bool.and_eq_true, decide_eq_true_eq] at h
  unfold oAckN
  have hf : oFin q = q.base + q.l.length := rfl
  rcases h7 with h7 | h7
  · split <;> omega
  · have := h7.2
    split at this <;> split <;> omega
theorem ack_fin (ok : OqOk q) (a : Int) : oFin (oAck q a) = oFin q ∧ qEnd (oAck q a) = qEnd q := by
  by_cases h : oHit q a = true
  · have hn := ack_n ok a h
    have hf : oFin (oAck q a) = oFin q := by
      unfold oAck; rw [if_pos h]; unfold oFin; simp only
      split
      · rw [List.length_drop]; omega
      · rfl
    refine ⟨hf, ?_⟩
    unfold qEnd; rw [hf]
    have : (oAck q a).cl = q.cl := by unfold oAck; rw [if_pos h]
    rw [this]
  · have : oAck q a = q := by unfold oAck; rw [if_neg h]
    rw [this]; exact ⟨rfl, rfl⟩
theorem ack_ok (ok : OqOk q) (a : Int) : OqOk (oAck q a) := by
  have hfe := ack_fin ok a
  by_cases h : oHit q a = true
  · have hn := ack_n ok a h
    obtain ⟨hf, he⟩ := hfe
    have e : oAck q a = ⟨if 0 < oAckN q a then q.l.drop (oAckN q a).toNat else q.l, if 0 < oAckN q a then q.base + oAckN q a else q.base, a, if q.cur < a then a else q.cur, q.sent, q.cl⟩ := by unfold oAck; rw [if_pos h]
    obtain ⟨h1, h2, h3, h4, h5, h6, h7⟩ := ok
    unfold oHit at h
    simp only [Bool.and_eq_true, decide_eq_true_eq] at h
    refine ⟨?_, ?_, ?_, ?_, ?_, ?_, .inr ⟨?_, ?_⟩⟩
    · rw [e]; simp only; split
      · rw [List.length_drop]; omega
      · exact h1
    · rw [e]; simp only; split <;> omega
    · rw [e]; simp only; omega
    · rw [e]; simp only; split <;> omega
    · rw [e]; simp only; split <;> omega
    · rw [he, e]; exact h6
    · rw [e]; simp only; omega
    · rw [hf, e]; simp only
      unfold oAckN at hn ⊢
      have hfq : oFin q = q.base + q.l.length := rfl
      rcases h7 with h7 | h7
      · split at hn <;> split <;> split <;> omega
      · have := h7.2
        split at hn <;> split <;> split <;> split at this <;> omega
  · have : oAck q a = q := by unfold oAck; rw [if_neg h]
    rw [this]; exact ok
end
/-- the texts that were written, and the queue -/
structure Held (q : OQ) (all : List Int) : Prop where
  fin : oFin q = all.length + 1
  here : q.l = all.drop (q.base - 1).toNat
theorem new_held : Held newOQ [] := ⟨rfl, rfl⟩
section
variable {q : OQ} {all : List Int}
theorem write_held (ok : OqOk q) (h : Held q all) (s : ByteArray) : Held (oWrite q s) (all ++ sI (s.extract 0 (oN q s.size))) := by
  have hl := oWrite_len ok s
  have hf := h.fin
  have hb := ok.ba
  unfold oFin at hf
  refine ⟨?_, ?_⟩
  · show q.base + ((q.l ++ sI (s.extract 0 (oN q s.size))).length : Int) = _
    rw [List.length_append, List.length_append]; omega
  · show q.l ++ _ = (all ++ _).drop (q.base - 1).toNat
    rw [List.drop_append_of_le_length (by omega), ← h.here]
theorem ack_held (ok : OqOk q) (h : Held q all) (a : Int) : Held (oAck q a) all := by
  refine ⟨by rw [(ack_fin ok a).1]; exact h.fin, ?_⟩
  by_cases hh : oHit q a = true
  · have hn := ack_n ok a hh
    have hb := ok.ba
    have e : oAck q a = ⟨if 0 < oAckN q a then q.l.drop (oAckN q a).toNat else q.l, if 0 < oAckN q a then q.base + oAckN q a else q.base, a, if q.cur < a then a else q.cur, q.sent, q.cl⟩ := by unfold oAck; rw [if_pos hh]
    rw [e]
    simp only
    split
    · rw [h.here, List.drop_drop]
      congr 1; omega
    · exact h.here
  · have : oAck q a = q := by unfold oAck; rw [if_neg hh]
    rw [this]; exact h.here
end
end Go.Proofs.Ytfpifahkpkjfgaa
/- The contracts of the queue of what goes out: what only reads. -/
namespace Go.Proofs.Ytfpifahkpkjfgaa
open Go.RowKit Go.Lib
set_option linter.unusedVariables false

def oqC (q : OQ) (v : Value) : List Value := [v, .int .i64 q.base, .int .i64 q.una, .int .i64 q.cur, .int .i64 q.sent, .bool q.cl]
abbrev OAt (w : World) (g : Nat) (q : OQ) (v : Value) : Prop := At w g 106 (oqC q v)
def oqA (g : Nat) (q : OQ) (v : Value) : Res := atR g 106 (oqC q v)
def oqB (q : OQ) (v : Value) : Res := ownR 0 v q.l
def oqE (g : Nat) (v : Value) : Nat → Prop := fun k => k = g ∨ v.ownBlock = some k
section
variable (g : Nat) (q : OQ) (v : Value) (w : World) (hA : OAt w g q v)
include hA
set_option maxRecDepth 100000 in
theorem Una_any : Calls Try.prog 63 #[.pointer (some ⟨g, 0, none⟩)] w fun e w' => e = .returned (.int .i64 q.una) ∧ w = w' := by
  have hc := hA.cell
  simp only [oqC] at hc
  go_enter Try.func63, Try.ntmps63
  go_wp2_with fail
  go_ret
  exact ⟨rfl, rfl⟩
set_option maxRecDepth 100000 in
theorem Cur_any : Calls Try.prog 41 #[.pointer (some ⟨g, 0, none⟩)] w fun e w' => e = .returned (.int .i64 q.cur) ∧ w = w' := by
  have hc := hA.cell
  simp only [oqC] at hc
  go_enter Try.func41, Try.ntmps41
  go_wp2_with fail
  go_ret
  exact ⟨rfl, rfl⟩
set_option maxRecDepth 100000 in
theorem Sent_any : Calls Try.prog 39 #[.pointer (some ⟨g, 0, none⟩)] w fun e w' => e = .returned (.int .i64 q.sent) ∧ w = w' := by
  have hc := hA.cell
  simp only [oqC] at hc
  go_enter Try.func39, Try.ntmps39
  go_wp2_with fail
  go_ret
  exact ⟨rfl, rfl⟩
variable (hV : OwnB w 0 v q.l) (hl : q.l.length ≤ 2048) (hb : 1 ≤ q.base) (hb2 : q.base ≤ 4611686018427387904)
include hV hl
set_option maxRecDepth 100000 in
theorem Room_any : Calls Try.prog 56 #[.pointer (some ⟨g, 0, none⟩)] w fun e w' => e = .returned (.int .i64 (oRoom q)) ∧ w = w' := by
  obtain ⟨A, c, rfl⟩ := hV.form
  have hc := hA.cell
  simp only [oqC] at hc
  have hr : oRoom q = if q.cl then 0 else 2048 - (q.l.length : Int) := rfl
  clear hA hV
  cases hcl : q.cl
  all_goals
    rw [hcl] at hr hc
    have HR := Lib.hid hr
    clear hr
    go_enter Try.func56, Try.ntmps56
    go_wp2_with fail
    go_ret
    exact ⟨by rw [HR.out]; rfl, rfl⟩
include hb hb2
set_option maxRecDepth 100000 in
theorem fin_any : Calls Try.prog 83 #[.pointer (some ⟨g, 0, none⟩)] w fun e w' => e = .returned (.int .i64 (oFin q)) ∧ Below w.heap.size w w' := by
  obtain ⟨A, c, rfl⟩ := hV.form
  have hc := hA.cell
  have hlt := hA.lt
  simp only [oqC] at hc
  clear hA hV
  go_enter Try.func83, Try.ntmps83
  go_wp2_with fail
  (try go_quiet (fail))
  (try go_wp2_with fail)
  go_ret
  exact ⟨rfl, by repeat' (first | with_reducible exact Below.refl _ _ | with_reducible assumption | with_reducible refine Below.drew ?_ | with_reducible refine below_dn ?_ _ | with_reducible refine below_ca ?_ _ | with_reducible refine Below.setCell ?_ ?_ _ | (refine below_c ?_ (by with_reducible assumption)) | (simp <;> omega) | omega)⟩
set_option maxRecDepth 100000 in
theorem End_any : Calls Try.prog 68 #[.pointer (some ⟨g, 0, none⟩)] w fun e w' => e = .returned (.int .i64 (qEnd q)) ∧ Below w.heap.size w w' := by
  have hc := hA.cell
  simp only [oqC] at hc
  have hr : qEnd q = if q.cl then oFin q + 1 else oFin q := rfl
  have HF := Lib.hid (fin_any g q v w hA hV hl hb hb2)
  have hf : oFin q = q.base + q.l.length := rfl
  have hf1 : oFin q ≤ 4611686018427390000 := by omega
  have hf2 : 1 ≤ oFin q := by omega
  clear hA hV hf
  cases hcl : q.cl
  all_goals
    rw [hcl] at hr hc
    have HR := Lib.hid hr
    clear hr
    go_enter Try.func68, Try.ntmps68
    go_wp2_with (go_at_call 83; go_must (refine HF.out.mono ?_; rintro e W ⟨rfl, hB⟩))
    go_ret
    exact ⟨by rw [HR.out]; rfl, hB⟩
end
theorem newq_any (w : World) : Calls Try.prog 60 #[] w fun e w' => ∃ g, e = .returned (.pointer (some ⟨g, 0, none⟩)) ∧ Mem w w' [oqA g newOQ (.slice none 0 0), oqB newOQ (.slice none 0 0)] := by
  have hM := Mem.nil w
  go_enter Try.func60, Try.ntmps60
  go_wp2_with (first
    | go_skip
    | ((with_reducible refine at_box_ ?_); refine wpList_box_mem rfl _ _ rfl _ rfl hM ?_; clear hM; intro gb W hM; first | (simp only [List.nil_append] at hM) | (simp only [List.cons_append, List.nil_append] at hM))
    | ((with_reducible refine at_load_ ?_); refine at_wanted_ (by rfl) ?_; refine wpList_loadf_mem (by go_simp) _ _ rfl (by kernel_rfl) 0 _ _ _ _ _ hM rfl rfl (by first | rfl | assumption) ?_)
    | ((with_reducible refine at_store_ ?_); refine wpList_store1_mem rfl _ _ _ rfl 0 _ _ _ _ _ hM rfl rfl (by first | ((conv => lhs; whnf); done) | ((conv => lhs; whnf); rfl)) (by rfl) (by rfl) (by kernel_rfl) rfl ?_; clear hM; intro W hM; simp only [List.set_cons_succ, List.set_cons_zero] at hM))
  go_ret
  exact ⟨_, rfl, hM.ownNil 0⟩
def oLn (p : KPiece) : Int := oLen p
set_option maxRecDepth 100000 in
theorem length_any (p : KPiece) (w : World) (hs : p.b.size ≤ 1000000) : Calls Try.prog 65 #[.agg (cPiece p).toArray] w fun e w' => e = .returned (.int .i64 (oLen p)) ∧ Below w.heap.size w w' := by
  have hr : oLen p = p.b.size + (if p.syn then 1 else 0) + (if p.fin then 1 else 0) := rfl
  obtain ⟨pa, ps, pf, pb⟩ := p
  simp only at hr hs
  cases ps
  all_goals
    cases pf
    all_goals
      have HR := Lib.hid hr
      clear hr
      have hM := Mem.nil w
      go_enter Try.func65, Try.ntmps65
      go_wp2_with (first
        | go_skip
        | ((with_reducible refine at_box_ ?_); refine wpList_box_mem rfl _ _ rfl _ rfl hM ?_; clear hM; intro gb W hM; first | (simp only [List.nil_append] at hM) | (simp only [List.cons_append, List.nil_append] at hM))
        | ((with_reducible refine at_load_ ?_); refine at_wanted_ (by rfl) ?_; refine wpList_loadf_mem (by go_simp) _ _ rfl (by kernel_rfl) 0 _ _ _ _ _ hM rfl rfl (by first | rfl | assumption) ?_)
        | ((with_reducible refine at_store_ ?_); refine wpList_store1_mem rfl _ _ _ rfl 0 _ _ _ _ _ hM rfl rfl (by first | ((conv => lhs; whnf); done) | ((conv => lhs; whnf); rfl)) (by rfl) (by rfl) (by kernel_rfl) rfl ?_; clear hM; intro W hM; simp only [List.set_cons_succ, List.set_cons_zero] at hM))
      go_ret
      exact ⟨by rw [HR.out]; simp <;> (try rfl), hM.b⟩
end Go.Proofs.Ytfpifahkpkjfgaa
/- The contracts of the queue of what goes out: what writes. -/
namespace Go.Proofs.Ytfpifahkpkjfgaa
open Go.RowKit Go.Lib
set_option linter.unusedVariables false

section
variable {P : Program} {ops : Array Oper} {a : Act} {w : World} {Q : Exit → Act → World → Prop} {K : Act → World → Prop}
/-- an append that comes up -/
theorem wpOp_append {i : Nat} {o : Oper} (hi : ops[i]? = some o) (hw : Region.wanted o (yielded ops a.tmps) = true) (s x : Operand) (t u : TypeId) (ho : o.op = .call { callee := .builtin .append, args := #[s, x], argTypes := #[t, u] })
    (v vx : Value) (hs : a.eval s = v) (hx : a.eval x = vx) (v' : Value) (w' : World) (hr : (Builtin.append_ #[t, u] o.type #[v, vx]).run P w = .ok v' w') (h : K (a.put o.dst v') w') : wpOp P ops Q i K a w := by
  unfold wpOp
  rw [hi]
  simp only [hw, if_true]
  left
  unfold Oper.wp execOp
  simp only [ho, resolve, invoke, builtin, Sem.run_bind, Sem.run_pure, Result.andThen_ok, List.map_toArray, List.map_cons, List.map_nil, hs, hx, hr]
  exact h
/-- what comes up and yields a value -/
theorem wpOp_val {i : Nat} {o : Oper} (hi : ops[i]? = some o) (hw : Region.wanted o (yielded ops a.tmps) = true) (v : Value) (hr : (execOp a.eval o).run P w = .ok (.value v) w) (h : K (a.put o.dst v) w) : wpOp P ops Q i K a w := by
  unfold wpOp
  rw [hi]
  simp only [hw, if_true]
  left
  unfold Oper.wp
  rw [hr]
  exact h
/-- a store of one cell that comes up -/
theorem wpOp_store1 {i : Nat} {o : Oper} (hi : ops[i]? = some o) (hw : Region.wanted o (yielded ops a.tmps) = true) (T : TypeId) (x y : Operand) (ho : o.op = .store T x y) (g j : Nat) (v : Value) (hx : a.eval x = .pointer (some ⟨g, j, none⟩)) (hy : a.eval y = v) (hv : v.cells = [v].toArray) (h1 : v.oneCell' = true)
    (hsz : (P.info? T).map (·.size) = some 1) (hc : (w.cell? ⟨g, j, none⟩).isSome = true) (hf : w.frozen? ⟨g, j, none⟩ = false) (h : K (a.put o.dst undef) (w.setCell ⟨g, j, none⟩ v)) : wpOp P ops Q i K a w := by
  have ht : w.there g j [v].length := fun k hk => by
    have : k = 0 := by simpa using hk
    subst this
    exact ⟨hc, hf⟩
  unfold wpOp
  rw [hi]
  simp only [hw, if_true]
  left
  unfold Oper.wp execOp
  simp only [ho, hx, hy, Instr.storeAt, Instr.sureAddr, Sem.run_bind, Sem.run_pure, Result.andThen_ok, run_storeVar_off w g j T v [v] hv ht hsz (by simp [h1])]
  exact h
end
abbrev OPre (w w' : World) (g : Nat) (v : Value) (q' : OQ) (v' : Value) : Prop := MemX (oqE g v) w w' [oqA g q' v', oqB q' v']
set_option maxRecDepth 100000 in
theorem Close_any (g : Nat) (q : OQ) (v : Value) (w : World) (hM : OPre w w g v q v) :
    Calls Try.prog 57 #[.pointer (some ⟨g, 0, none⟩)] w fun e w' => e = .returned (.tuple #[]) ∧ OPre w w' g v { q with cl := true } v := by
  go_enter Try.func57, Try.ntmps57
  go_wp2_with (first
    | go_skip
    | ((with_reducible refine at_box_ ?_); refine wpList_box_mem rfl _ _ rfl _ rfl hM ?_; clear hM; intro gb W hM; first | (simp only [List.nil_append] at hM) | (simp only [List.cons_append, List.nil_append] at hM))
    | ((with_reducible refine at_load_ ?_); refine at_wanted_ (by rfl) ?_; refine wpList_loadf_mem (by go_simp) _ _ rfl (by kernel_rfl) 0 _ _ _ _ _ hM rfl rfl (by first | rfl | assumption) ?_)
    | ((with_reducible refine at_store_ ?_); refine wpList_store1_mem rfl _ _ _ rfl 0 _ _ _ _ _ hM rfl rfl (by first | ((conv => lhs; whnf); done) | ((conv => lhs; whnf); rfl)) (by rfl) (by rfl) (by kernel_rfl) rfl ?_; clear hM; intro W hM; simp only [oqA, oqB, oqC, List.set_cons_succ, List.set_cons_zero] at hM))
  go_end0
  exact ⟨rfl, hM⟩
set_option maxRecDepth 100000 in
theorem Back_any (g : Nat) (q : OQ) (v : Value) (w : World) (hM : OPre w w g v q v) :
    Calls Try.prog 71 #[.pointer (some ⟨g, 0, none⟩)] w fun e w' => e = .returned (.tuple #[]) ∧ OPre w w' g v { q with cur := q.una } v := by
  go_enter Try.func71, Try.ntmps71
  go_wp2_with (first
    | go_skip
    | ((with_reducible refine at_box_ ?_); refine wpList_box_mem rfl _ _ rfl _ rfl hM ?_; clear hM; intro gb W hM; first | (simp only [List.nil_append] at hM) | (simp only [List.cons_append, List.nil_append] at hM))
    | ((with_reducible refine at_load_ ?_); refine at_wanted_ (by rfl) ?_; refine wpList_loadf_mem (by go_simp) _ _ rfl (by kernel_rfl) 0 _ _ _ _ _ hM rfl rfl (by first | rfl | assumption) ?_)
    | ((with_reducible refine at_store_ ?_); refine wpList_store1_mem rfl _ _ _ rfl 0 _ _ _ _ _ hM rfl rfl (by first | ((conv => lhs; whnf); done) | ((conv => lhs; whnf); rfl)) (by rfl) (by rfl) (by kernel_rfl) rfl ?_; clear hM; intro W hM; simp only [oqA, oqB, oqC, List.set_cons_succ, List.set_cons_zero] at hM))
  go_end0
  exact ⟨rfl, hM⟩
set_option maxRecDepth 100000 in
set_option maxHeartbeats 1000000 in
theorem Write_any (g : Nat) (q : OQ) (v : Value) (s : ByteArray) (w : World) (hM : OPre w w g v q v) (ok : OqOk q) (hs : s.size ≤ 140737488351232) :
    Calls Try.prog 52 #[.pointer (some ⟨g, 0, none⟩), .string s] w fun e w' => ∃ v', e = .returned (.int .i64 (oN q s.size)) ∧ OPre w w' g v (oWrite q s) v' := by
  have hA := hM.at_ 0 rfl
  have hV := hM.own 1 rfl
  have hl := ok.len
  have HR := Lib.hid (Room_any g q v w hA hV hl)
  have hn := oN_le ok s.size
  have hrb := oRoom_bd ok
  have hmin : (if oRoom q < (s.size : Int) then oRoom q else (s.size : Int)) = (oN q s.size : Int) := by unfold oN; split <;> omega
  have HQ : oWrite q s = { q with l := q.l ++ sI (s.extract 0 (oN q s.size)) } := rfl
  generalize oRoom q = rm at *
  generalize oN q s.size = n at *
  have b1 : (0 : Int) ≤ (n : Int) := by omega
  have b2 : (n : Int) ≤ (s.size : Int) := by omega
  have b3 : n ≤ s.size := by omega
  have hsz : (s.extract 0 n).size = n := by rw [ByteArray.size_extract]; omega
  have hsb : q.l.length + (s.extract 0 n).size ≤ 140737488350000 := by omega
  have c0 := hA.cell
  simp only [oqC] at c0
  have HSB := Lib.hid hsb
  clear hV hA hn hsz ok hl hsb
  go_enter Try.func52, Try.ntmps52
  go_upto_region 2 with (go_at_call 56; go_must (refine HR.out.mono ?_; rintro e W ⟨rfl, rfl⟩))
  refine wp_region_any (by kernel_rfl) ?_
  change wpAny _ _ _ _ _ _ _ w.drew
  have hMd : OPre w w.drew g v q v := hM.kept (Below.refl _ _).drew
  generalize w.drew = w5 at hMd ⊢
  clear hM
  have hM := hMd
  clear hMd c0
  have c0 := hM.cells 0 rfl 0
  simp only [oqC, List.getElem?_cons_zero] at c0
  refine wpAny_take (i := 0) (v := ?_) rfl (by kernel_rfl) (by kernel_rfl) (by kernel_rfl) (fun _ _ _ h => h) (Or.inl ⟨by rfl, ?hy⟩) ?_
  case hy => (intro w; go_simp; (try with_reducible rfl))
  simp only [Act.put, List.getElem_toArray, List.getElem_cons_zero, List.setIfInBounds_toArray, List.set_cons_zero, List.set_cons_succ]
  refine wpAny_take (i := 1) (v := ?_) rfl (by kernel_rfl) (by kernel_rfl) (by kernel_rfl) (fun _ _ _ h => h) (Or.inl ⟨by rfl, ?hy⟩) ?_
  case hy => (intro w; go_simp; (try with_reducible rfl))
  simp only [Act.put, List.getElem_toArray, List.getElem_cons_succ, List.getElem_cons_zero, List.setIfInBounds_toArray, List.set_cons_zero, List.set_cons_succ]
  refine wpAny_take (i := 5) (v := ?_) rfl (by kernel_rfl) (by kernel_rfl) (by kernel_rfl) (fun _ _ _ h => h) (Or.inl ⟨by rfl, ?hy⟩) ?_
  case hy => (intro w; go_simp; (try with_reducible rfl))
  simp only [Act.put, List.getElem_toArray, List.getElem_cons_succ, List.getElem_cons_zero, List.setIfInBounds_toArray, List.set_cons_zero, List.set_cons_succ]
  refine wpAny_take (i := 6) (v := ?_) rfl (by kernel_rfl) (by kernel_rfl) (by kernel_rfl) (fun _ _ _ h => h) (Or.inl ⟨by rfl, ?hy⟩) ?_
  case hy => (intro w; go_simp; (try with_reducible rfl))
  simp only [Act.put, List.getElem_toArray, List.getElem_cons_succ, List.getElem_cons_zero, List.setIfInBounds_toArray, List.set_cons_zero, List.set_cons_succ]
  refine wpAny_take (i := 2) (v := ?_) rfl (by kernel_rfl) (by kernel_rfl) (by kernel_rfl) (fun _ _ _ h => h) (Or.inl ⟨by rfl, ?hy⟩) ?_
  case hy => (intro w; go_simp; (try with_reducible rfl))
  simp only [Act.put, List.getElem_toArray, List.getElem_cons_succ, List.getElem_cons_zero, List.setIfInBounds_toArray, List.set_cons_zero, List.set_cons_succ]
  refine wpAny_take (i := 3) (v := ?_) rfl (by kernel_rfl) (by kernel_rfl) (by kernel_rfl) (fun _ _ _ h => h) (Or.inl ⟨by rfl, ?hy⟩) ?_
  case hy => (intro w; go_simp; (try with_reducible rfl))
  simp only [Act.put, List.getElem_toArray, List.getElem_cons_succ, List.getElem_cons_zero, List.setIfInBounds_toArray, List.set_cons_zero, List.set_cons_succ]
  refine wpAny_take (i := 7) (v := ?_) rfl (by kernel_rfl) (by kernel_rfl) (by kernel_rfl) (fun _ _ _ h => h) (Or.inl ⟨by rfl, ?hy⟩) ?_
  case hy => (intro w; go_simp; (try with_reducible rfl))
  simp only [Act.put, List.getElem_toArray, List.getElem_cons_succ, List.getElem_cons_zero, List.setIfInBounds_toArray, List.set_cons_zero, List.set_cons_succ]
  refine wpAny_all (rs := [4]) (by kernel_rfl) (by decide) (fun i hi => ?_)
  obtain rfl := List.mem_singleton.1 hi
  clear hi
  refine wpOp_val (i := 4) rfl (by rfl) v (by go_simp) ?_
  simp only [Act.put, List.getElem_toArray, List.getElem_cons_succ, List.getElem_cons_zero, List.setIfInBounds_toArray, List.set_cons_zero, List.set_cons_succ]
  refine wpAny_all (rs := [8]) (by kernel_rfl) (by decide) (fun i hi => ?_)
  obtain rfl := List.mem_singleton.1 hi
  clear hi
  obtain ⟨iE, i1, i2, i3, i4⟩ := elem_u8s
  obtain ⟨v1, w6, hr, hV1, hO1, hat1⟩ := run_append_win_str (P := Try.prog) w5 0 104 9 104 5 iE Try.underlying104 Try.underlying9 i1 i2 i3 i4 v q.l.length (q.l.map b8) (hM.own 1 rfl) (s.extract 0 n) (by have := HSB.out; simp only [maxLen]; omega) (by have := HSB.out; omega) (Nat.zero_le _)
  have hV2 : OwnB w6 0 v1 (q.l ++ sI (s.extract 0 n)) := by
    unfold OwnB
    rw [List.length_append, List.map_append, sI_len, sI_cells]
    exact hV1
  replace hM := hM.ownPut 1 rfl hV2 hO1 hat1
  obtain ⟨A1, cc, rfl⟩ := hV2.form
  clear hV1 hV2 hO1 hat1
  simp only [List.set_cons_succ, List.set_cons_zero] at hM
  refine wpOp_append (i := 8) rfl (by rfl) _ _ _ _ rfl v (.string (s.extract 0 n)) rfl rfl _ _ hr ?_
  simp only [Act.put, List.getElem_toArray, List.getElem_cons_succ, List.getElem_cons_zero, List.setIfInBounds_toArray, List.set_cons_zero, List.set_cons_succ]
  refine wpAny_take (i := 9) (v := ?_) rfl (by kernel_rfl) (by kernel_rfl) (by kernel_rfl) (fun _ _ _ h => h) (Or.inl ⟨by rfl, ?hy⟩) ?_
  case hy => (intro w; go_simp; (try with_reducible rfl))
  simp only [Act.put, List.getElem_toArray, List.getElem_cons_succ, List.getElem_cons_zero, List.setIfInBounds_toArray, List.set_cons_zero, List.set_cons_succ]
  refine wpAny_take (i := 10) (v := ?_) rfl (by kernel_rfl) (by kernel_rfl) (by kernel_rfl) (fun _ _ _ h => h) (Or.inl ⟨by rfl, ?hy⟩) ?_
  case hy => (intro w; go_simp; (try with_reducible rfl))
  simp only [Act.put, List.getElem_toArray, List.getElem_cons_succ, List.getElem_cons_zero, List.setIfInBounds_toArray, List.set_cons_zero, List.set_cons_succ]
  refine wpAny_all (rs := [11]) (by kernel_rfl) (by decide) (fun i hi => ?_)
  obtain rfl := List.mem_singleton.1 hi
  clear hi
  refine wpOp_store1 (i := 11) rfl (by rfl) _ _ _ rfl g 0 (.slice A1 (q.l ++ sI (s.extract 0 n)).length cc) rfl rfl rfl rfl (by kernel_rfl) (by rw [hM.cells 0 rfl]; rfl) (hM.free 0 rfl 0) ?_
  replace hM := hM.atPut 0 rfl (only_set (only_refl _ _) (.inl rfl) _) ((hM.at_ 0 rfl).set_ 0 (.slice A1 (q.l ++ sI (s.extract 0 n)).length cc))
  generalize w6.setCell _ _ = w7 at hM ⊢
  refine wpAny_done (by kernel_rfl) ?_ _
  simp only [Act.put, List.getElem_toArray, List.getElem_cons_succ, List.getElem_cons_zero]
  go_wp2_with fail
  go_ret
  refine ⟨.slice A1 (q.l ++ sI (s.extract 0 n)).length cc, rfl, ?_⟩
  rw [HQ]
  exact hM
end Go.Proofs.Ytfpifahkpkjfgaa
