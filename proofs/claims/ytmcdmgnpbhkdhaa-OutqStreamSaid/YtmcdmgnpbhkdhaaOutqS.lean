/- The plain law of OutqStream: what every round keeps, and what each of its ways asks for. -/
import Derived.Test.YtmcdmgnpbhkdhaaOutqL
namespace Go.Proofs.Ytmcdmgnpbhkdhaa
open Go.RowKit Go.Lib
set_option linter.unusedVariables false

/-- the queue and the texts that were written, behind so many rounds -/
structure SS (q : OQ) (t : ByteArray) (k : Nat) : Prop where
  ok : OqOk q
  held : Held q (sI t)
  sz : t.size ≤ 2048 * k
theorem ss_new : SS newOQ ⟨#[]⟩ 0 := ⟨new_ok, new_held, Nat.zero_le _⟩
section
variable {q : OQ} {t : ByteArray} {k : Nat}
theorem SS.fin (h : SS q t k) : oFin q = (t.size : Int) + 1 := by rw [h.held.fin, sI_len]
theorem SS.base (h : SS q t k) : q.base ≤ (t.size : Int) + 1 := by have := h.fin; unfold oFin at this; omega
theorem SS.write (h : SS q t k) (s : ByteArray) : SS (oWrite q s) (t ++ s.extract 0 (oN q s.size)) (k + 1) := by
  refine ⟨write_ok h.ok s, ?_, ?_⟩
  · rw [sI_app]; exact write_held h.ok h.held s
  · have h1 := oN_le h.ok s.size
    have h2 := oRoom_bd h.ok
    have h3 := h.sz
    rw [ByteArray.size_append, ByteArray.size_extract]; omega
/-- nothing is written behind Close -/
theorem shut_none (hc : q.cl = true) (n : Nat) : oN q n = 0 := by
  unfold oN oRoom; rw [if_pos hc]; simp
theorem SS.close (h : SS q t k) : SS { q with cl := true } t (k + 1) := ⟨close_ok h.ok, ⟨h.held.fin, h.held.here⟩, by have := h.sz; omega⟩
theorem SS.back (h : SS q t k) : SS { q with cur := q.una } t (k + 1) := ⟨back_ok h.ok, ⟨h.held.fin, h.held.here⟩, by have := h.sz; omega⟩
theorem SS.ack (h : SS q t k) (a : Int) : SS (oAck q a) t (k + 1) := ⟨ack_ok h.ok a, ack_held h.ok h.held a, by have := h.sz; omega⟩
theorem SS.next (h : SS q t k) (lim mss : Int) : SS (oNext q lim mss) t (k + 1) := ⟨next_ok h.ok lim mss, ⟨h.held.fin, h.held.here⟩, by have := h.sz; omega⟩
/-- what an acknowledgement answers -/
theorem SS.acked (h : SS q t k) (a : Int) : (oAck q a).una = q.una + (if oHit q a = true then a - q.una else 0) ∧ 0 ≤ (if oHit q a = true then a - q.una else 0) ∧ (oAck q a).una ≤ q.sent ∧ (oAck q a).sent = q.sent := by
  have h1 := h.ok.cs
  have h2 := h.ok.se
  by_cases hh : oHit q a = true
  · have hb := hh
    unfold oHit at hb
    simp only [Bool.and_eq_true, decide_eq_true_eq] at hb
    have e : (oAck q a).una = a ∧ (oAck q a).sent = q.sent := by unfold oAck; rw [if_pos hh]; exact ⟨rfl, rfl⟩
    rw [if_pos hh, e.1, e.2]
    exact ⟨by omega, by omega, by omega, rfl⟩
  · have e : oAck q a = q := by unfold oAck; rw [if_neg hh]
    rw [if_neg hh, e]
    exact ⟨by omega, by omega, by omega, rfl⟩
/-- where nothing comes -/
theorem ss_not (lim mss : Int) (hi : oIs q q.cur lim mss = false) : ¬ ((q.cur < (if lim < qEnd q then lim else qEnd q)) ∧ 0 < mss) := by
  unfold oIs oLim at hi
  rintro ⟨h1, h2⟩
  rw [decide_eq_true h1, decide_eq_true (show 1 ≤ mss by omega)] at hi
  cases hi
/-- the bytes that come are those that were written there -/
theorem SS.body (h : SS q t k) (lim mss : Int) (hi : oIs q q.cur lim mss = true) (h0 : 0 < (qPiece q q.cur lim mss).b.size) :
    1 ≤ q.cur ∧ q.cur - 1 + ((qPiece q q.cur lim mss).b.size : Int) ≤ (t.size : Int) ∧ (qPiece q q.cur lim mss).b = t.extract (q.cur - 1).toNat ((q.cur - 1).toNat + (qPiece q q.cur lim mss).b.size) := by
  have hp := piece_is h.ok lim mss hi
  simp only at hp
  obtain ⟨_, _, _, _, _, _, _, _, _, hb⟩ := hp
  obtain ⟨b1, b2, b3⟩ := hb h0
  have hf := h.fin
  have hba := h.ok.ba
  have hl := h.held.here
  generalize qPiece q q.cur lim mss = p at *
  refine ⟨by omega, by omega, ?_⟩
  generalize hn : p.b.size = n at *
  rw [b3]
  apply str_ext
  rw [byteS_toList, hl, List.drop_drop, ByteArray.data_extract, Array.toList_extract, List.extract_eq_take_drop]
  have e1 : (q.base - 1).toNat + (q.cur - q.base).toNat = (q.cur - 1).toNat := by omega
  have e2 : (q.cur - 1).toNat + n - (q.cur - 1).toNat = n := by omega
  rw [e1, e2]
  unfold byteL sI
  rw [← List.map_drop, ← List.map_take, List.map_map]
  conv => rhs; rw [← List.map_id (List.take n (List.drop (q.cur - 1).toNat t.data.toList))]
  refine List.map_congr_left fun b _ => ?_
  show UInt8.ofNat ((b.toNat : Int) % 256).toNat = b
  have := b.toNat_lt
  rw [show ((b.toNat : Int) % 256).toNat = b.toNat by omega]
  exact UInt8.ofNat_toNat
/-- the check behind each round -/
theorem SS.check (h : SS q t k) : q.una ≤ q.cur ∧ q.cur ≤ q.sent ∧ q.sent ≤ qEnd q ∧ 0 ≤ oRoom q ∧ oRoom q ≤ 2048 ∧ 1 ≤ qEnd q := by
  have h1 := h.ok.cs
  have h2 := h.ok.se
  have h3 := h.ok.ee
  have h4 := oRoom_bd h.ok
  have h5 := qEnd_bd (q := q)
  have h6 := h.fin
  omega
end
end Go.Proofs.Ytmcdmgnpbhkdhaa
