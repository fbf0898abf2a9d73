/- OutqStream: the rounds' calls, each in one form. -/
import Derived.Test.YtmcdmgnpbhkdhaaOutqS
import Derived.Test.YtmcdmgnpbhkdhaaStepM
namespace Go.Proofs.Ytmcdmgnpbhkdhaa
open Go.RowKit Go.Lib
set_option linter.unusedVariables false

theorem ack_both (g : Nat) (q : OQ) (v : Value) (t : ByteArray) (k : Nat) (a : Int) (h : SS q t k) (hb2 : q.base ≤ 4611686018427387904) :
    ∃ (n : Int) (q3 : OQ), (∀ W : World, OPre W W g v q v → Calls Try.prog 18 #[.pointer (some ⟨g, 0, none⟩), .int .i64 a] W fun e w' => ∃ v', e = .returned (.int .i64 n) ∧ OPre W w' g v q3 v') ∧
      q3.una = q.una + n ∧ 0 ≤ n ∧ q3.una ≤ q.sent ∧ q3.sent = q.sent ∧ q3.cl = q.cl ∧ SS q3 t (k + 1) := by
  obtain ⟨h1, h2, h3, h4⟩ := h.acked a
  have h5 := h.ack a
  have h6 : (oAck q a).cl = q.cl := by unfold oAck; split <;> rfl
  refine ⟨_, oAck q a, fun W hW => ?_, h1, h2, h3, h4, h6, h5⟩
  cases hh : oHit q a
  · have := ack_no g q v a W hW hh
    refine this.mono fun e W' h => ⟨v, by rw [h.1, if_neg (by decide)], ?_⟩
    have e : oAck q a = q := by unfold oAck; rw [hh]; rfl
    rw [e]; exact h.2
  · have := ack_yes g q v a W hW h.ok hb2 hh
    refine this.mono fun e W' ⟨v', h1, h2⟩ => ⟨v', by rw [h1, if_pos rfl], h2⟩
/-- what comes, in its parts -/
theorem next_yes (q : OQ) (t : ByteArray) (k : Nat) (lim mss : Int) (h : SS q t k) (hi : oIs q q.cur lim mss = true) :
    ∃ (sy fi : Bool) (b : ByteArray) (z : Int), qPiece q q.cur lim mss = ⟨q.cur, sy, fi, b⟩ ∧ (b.size : Int) ≤ mss ∧ sy = decide (q.cur = 0) ∧ q.cur ≤ (t.size : Int) + 1 ∧
      z = q.cur + (b.size : Int) + (if sy || fi then 1 else 0) ∧ z ≤ lim ∧ q.cur < z ∧ (oNext q lim mss).cur = z ∧ (oNext q lim mss).sent = (if q.sent < z then z else q.sent) ∧
      (fi = true → q.cl = true ∧ q.cur + (b.size : Int) = (t.size : Int) + 1) ∧
      (0 < b.size → ∃ c : Nat, q.cur - 1 = (c : Int) ∧ c + b.size ≤ t.size ∧ b = t.extract c (c + b.size)) := by
  have hp := piece_is h.ok lim mss hi
  have hb := h.body lim mss hi
  have hf := h.fin
  simp only at hp
  obtain ⟨p1, p2, p3, p4, p5, p6, p7, p8, p9, p10⟩ := hp
  have e1 : (oNext q lim mss).cur = q.cur + oLen (qPiece q q.cur lim mss) := rfl
  have e2 : (oNext q lim mss).sent = if q.sent < q.cur + oLen (qPiece q q.cur lim mss) then q.cur + oLen (qPiece q q.cur lim mss) else q.sent := rfl
  generalize oNext q lim mss = q3 at *
  generalize qPiece q q.cur lim mss = p at *
  obtain ⟨pa, sy, fi, b⟩ := p
  simp only at p1 p2 p3 p8 p9 p10 hb
  have hL : oLen ⟨pa, sy, fi, b⟩ = (b.size : Int) + (if sy || fi then 1 else 0) := by
    unfold oLen
    cases sy
    · cases fi <;> simp
    · have := (p8 rfl).1
      subst this
      simp
  rw [hL] at p4 p5 p6 e1 e2
  refine ⟨sy, fi, b, _, by rw [p1], p2, p3, by omega, rfl, by omega, by omega, by rw [e1]; omega, by rw [e2, Int.add_assoc], fun hfi => ⟨(p9 hfi).1, by have := (p9 hfi).2; omega⟩, fun h0 => ?_⟩
  obtain ⟨b1, b2, b3⟩ := hb h0
  refine ⟨(q.cur - 1).toNat, by omega, by omega, b3⟩
end Go.Proofs.Ytmcdmgnpbhkdhaa
