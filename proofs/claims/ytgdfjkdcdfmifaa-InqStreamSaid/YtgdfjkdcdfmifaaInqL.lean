/- Plain laws of the queue: what Put leaves true. -/
import Derived.Test.YtgdfjkdcdfmifaaInqC
namespace Go.Proofs.Ytgdfjkdcdfmifaa
open Go.RowKit
set_option linter.unusedVariables false

def Stop (q : IQ) : Prop := q.over = true ∨ ((q.nx = q.rd + 2048 ∨ q.h (q.nx % 2048).toNat = false) ∧ q.nx ≠ q.fin)
def idle (q : IQ) (at_ : Int) : Prop := at_ < -1152921504606846976 ∨ 1152921504606846976 < at_ ∨ q.over = true
theorem putQ_idle {q : IQ} {at_ : Int} (S : ByteArray) (fin : Bool) (h : idle q at_) : putQ q at_ S fin = q := by unfold putQ; exact if_pos h
theorem putQ_over {q : IQ} {at_ : Int} (S : ByteArray) (fin : Bool) (h : ¬ idle q at_) (hf : nxPut q at_ S.size = finPut q at_ S.size fin) :
    putQ q at_ S fin = { r := rPut q at_ S, h := hAfter q at_ S.size (nxPut q at_ S.size), rd := q.rd, nx := nxPut q at_ S.size + 1, fin := finPut q at_ S.size fin, over := true } := by
  unfold putQ; rw [if_neg (by exact h), if_pos hf]
theorem putQ_open {q : IQ} {at_ : Int} (S : ByteArray) (fin : Bool) (h : ¬ idle q at_) (hf : nxPut q at_ S.size ≠ finPut q at_ S.size fin) :
    putQ q at_ S fin = { r := rPut q at_ S, h := hAfter q at_ S.size (nxPut q at_ S.size), rd := q.rd, nx := nxPut q at_ S.size, fin := finPut q at_ S.size fin, over := false } := by
  unfold putQ; rw [if_neg (by exact h), if_neg hf]
theorem ok_open {q : IQ} (ok : IqOk q) (ho : q.over = false) : q.rd ≤ q.nx ∧ q.nx ≤ q.rd + 2048 := by
  have h1 := ok.rdn
  have h2 := ok.nxr
  rw [ho] at h1 h2
  simp at h1 h2
  exact ⟨h1, h2⟩
theorem nxPut_is {q : IQ} (ok : IqOk q) (ho : q.over = false) (at_ len : Int) : AdvIs (hPut q at_ len) (q.rd + 2048) q.nx (nxPut q at_ len) := by
  obtain ⟨h1, h2⟩ := ok_open ok ho
  exact advZ_is _ _ 2048 q.nx h2 (by omega)
theorem idle_open {q : IQ} {at_ : Int} (h : ¬ idle q at_) : q.over = false := by
  cases ho : q.over
  · rfl
  · exact absurd (.inr (.inr ho)) h
theorem rPut_bd {q : IQ} (ok : IqOk q) (at_ : Int) (S : ByteArray) (k : Nat) : 0 ≤ rPut q at_ S k ∧ rPut q at_ S k ≤ 255 := by
  unfold rPut
  split
  · exact byteZ_bd _ _
  · exact ok.rok k
theorem finPut_bd {q : IQ} (ok : IqOk q) (at_ len : Int) (fin : Bool) (hrd : q.rd ≤ 576460752303423488) : -1 ≤ finPut q at_ len fin ∧ finPut q at_ len fin ≤ 2305843009213693952 := by
  have h1 := ok.fin1
  have h2 := ok.finm
  have h3 := ok.rd1
  have h5 := ok.rdn
  unfold finPut
  split
  · rename_i h
    obtain ⟨⟨_, _, h4, h6⟩, _⟩ := h
    cases ho : q.over <;> rw [ho] at h5 <;> simp at h5 <;> omega
  · omega
theorem put_rd (q : IQ) (at_ : Int) (S : ByteArray) (fin : Bool) : (putQ q at_ S fin).rd = q.rd := by
  by_cases h : idle q at_
  · rw [putQ_idle S fin h]
  · by_cases hf : nxPut q at_ S.size = finPut q at_ S.size fin
    · rw [putQ_over S fin h hf]
    · rw [putQ_open S fin h hf]
theorem put_ok {q : IQ} (ok : IqOk q) (hrd : q.rd ≤ 576460752303423488) (at_ : Int) (S : ByteArray) (fin : Bool) : IqOk (putQ q at_ S fin) := by
  by_cases h : idle q at_
  · rw [putQ_idle S fin h]; exact ok
  · have ho := idle_open h
    obtain ⟨o1, o2⟩ := ok_open ok ho
    obtain ⟨a1, a2, _, _⟩ := nxPut_is ok ho at_ S.size
    obtain ⟨f1, f2⟩ := finPut_bd ok at_ S.size fin hrd
    have h3 := ok.rd1
    by_cases hf : nxPut q at_ S.size = finPut q at_ S.size fin
    · rw [putQ_over S fin h hf]
      exact ⟨h3, by simp; omega, by simp; omega, by simp; omega, f1, f2, rPut_bd ok at_ S⟩
    · rw [putQ_open S fin h hf]
      exact ⟨h3, by simp; omega, by simp; omega, by simp; omega, f1, f2, rPut_bd ok at_ S⟩
theorem put_stop {q : IQ} (ok : IqOk q) (hs : Stop q) (at_ : Int) (S : ByteArray) (fin : Bool) : Stop (putQ q at_ S fin) := by
  by_cases h : idle q at_
  · rw [putQ_idle S fin h]; exact hs
  · have ho := idle_open h
    obtain ⟨_, _, _, a4⟩ := nxPut_is ok ho at_ S.size
    by_cases hf : nxPut q at_ S.size = finPut q at_ S.size fin
    · rw [putQ_over S fin h hf]; exact .inl rfl
    · rw [putQ_open S fin h hf]
      refine .inr ⟨?_, hf⟩
      rcases a4 with e | e
      · exact .inl e
      · right; show hAfter q at_ S.size _ _ = false; unfold hAfter; rw [e]; rfl
/-- bytes that nothing is taken of -/
theorem put_still {q : IQ} (ok : IqOk q) (ho : q.over = false) (hs : Stop q) (at_ : Int) (S : ByteArray) (fin : Bool) (h : q.rd + 2048 ≤ at_ ∨ at_ + S.size ≤ q.nx) (hf : fin = false ∨ q.rd + 2048 < at_ + S.size) :
    (putQ q at_ S fin).nx = q.nx ∧ (putQ q at_ S fin).over = false ∧ (putQ q at_ S fin).fin = q.fin := by
  by_cases hi : idle q at_
  · rw [putQ_idle S fin hi]; exact ⟨rfl, ho, rfl⟩
  · obtain ⟨o1, o2⟩ := ok_open ok ho
    rcases hs with e | ⟨s1, s2⟩
    · rw [ho] at e; cases e
    have hno : ∀ k, hPut q at_ S.size k = q.h k := by
      intro k
      unfold hPut hitB
      have := plc_lo q.nx k
      rw [show decide (at_ ≤ plc q.nx k ∧ plc q.nx k < at_ + S.size ∧ plc q.nx k < q.rd + 2048 ∧ (q.fin < 0 ∨ plc q.nx k < q.fin)) = false by simp; omega]
      simp
    have hn : nxPut q at_ S.size = q.nx := adv_one (nxPut_is ok ho at_ S.size) ⟨Int.le_refl _, o2, fun x a b => by omega, by
      rcases s1 with e | e
      · exact .inl e
      · right; rw [hno]; exact e⟩
    have hfp : finPut q at_ S.size fin = q.fin := by
      unfold finPut
      rw [if_neg]
      rintro ⟨⟨f1, _, _, f4⟩, _⟩
      rcases hf with e | e
      · rw [e] at f1; cases f1
      · omega
    rw [putQ_open S fin hi (by rw [hn, hfp]; exact s2)]
    exact ⟨hn, rfl, hfp⟩
theorem finPut_or (q : IQ) (at_ len : Int) (fin : Bool) : finPut q at_ len fin = q.fin ∨ (q.fin < 0 ∧ finPut q at_ len fin = at_ + len) := by
  unfold finPut
  split
  · rename_i h; exact .inr ⟨h.1.2.1, rfl⟩
  · exact .inl rfl
/-- what comes once more changes nothing -/
theorem put_twice {q : IQ} (ok : IqOk q) (hrd : q.rd ≤ 576460752303423488) (hs : Stop q) (at_ : Int) (S : ByteArray) (fin : Bool) :
    (putQ (putQ q at_ S fin) at_ S fin).nx = (putQ q at_ S fin).nx ∧ (putQ (putQ q at_ S fin) at_ S fin).over = (putQ q at_ S fin).over := by
  by_cases hi : idle q at_
  · rw [putQ_idle S fin hi, putQ_idle S fin hi]; exact ⟨rfl, rfl⟩
  · have ho := idle_open hi
    have ok1 := put_ok ok hrd at_ S fin
    have hs1 := put_stop ok hs at_ S fin
    by_cases hf : nxPut q at_ S.size = finPut q at_ S.size fin
    · have : idle (putQ q at_ S fin) at_ := by rw [putQ_over S fin hi hf]; exact .inr (.inr rfl)
      rw [putQ_idle S fin this]; exact ⟨rfl, rfl⟩
    · obtain ⟨o1, o2⟩ := ok_open ok ho
      have hn := nxPut_is ok ho at_ S.size
      have hq1 := putQ_open S fin hi hf
      have hfo := finPut_or q at_ S.size fin
      generalize hq : putQ q at_ S fin = p at *
      generalize hn1 : nxPut q at_ S.size = n1 at *
      generalize hf1 : finPut q at_ S.size fin = f1 at *
      obtain ⟨a1, a2, a3, a4⟩ := hn
      have pnx : p.nx = n1 := by rw [hq1]
      have prd : p.rd = q.rd := by rw [hq1]
      have pfin : p.fin = f1 := by rw [hq1]
      have pov : p.over = false := by rw [hq1]
      have ph : ∀ k, p.h k = hAfter q at_ S.size n1 k := by rw [hq1]; exact fun _ => rfl
      have hi1 : ¬ idle p at_ := by
        rintro (h | h | h)
        · exact hi (.inl h)
        · exact hi (.inr (.inl h))
        · rw [pov] at h; cases h
      have hplc : ∀ x : Int, n1 ≤ x → x < q.rd + 2048 → plc q.nx (x % 2048).toNat = x ∧ plc p.nx (x % 2048).toNat = x := fun x h1 h2 =>
        ⟨plc_of _ _ _ (by omega) (by omega) (by omega), plc_of _ _ _ (by omega) (by omega) (by omega)⟩
      have hnp : nxPut p at_ S.size = p.nx := by
        refine adv_one (nxPut_is ok1 pov at_ S.size) ⟨Int.le_refl _, by rw [pnx, prd]; exact a2, fun x a b => by omega, ?_⟩
        rw [pnx, prd]
        rcases a4 with e | e
        · exact .inl e
        · by_cases he : n1 = q.rd + 2048
          · exact .inl he
          · right
            have hp := hplc n1 (Int.le_refl _) (by omega)
            unfold hPut at e ⊢
            simp only [Bool.or_eq_false_iff] at e ⊢
            obtain ⟨e1, e2⟩ := e
            refine ⟨?_, ?_⟩
            · rw [ph]; unfold hAfter hPut; rw [e1, e2]; rfl
            · unfold hitB at e2 ⊢
              rw [hp.1] at e2
              rw [hp.2, prd, pfin]
              simp only [decide_eq_false_iff_not] at e2 ⊢
              omega
      have hfp : nxPut p at_ S.size ≠ finPut p at_ S.size fin := by
        rw [hnp, pnx]
        unfold finPut
        split
        · rename_i h
          obtain ⟨⟨g1, g2, g3, g4⟩, g5⟩ := h
          rw [pfin] at g2
          rw [pnx] at g3
          rw [prd] at g4 g5
          intro e
          have hq0 : q.fin < 0 := by omega
          have hc : behindB (hPut q at_ S.size) (at_ + S.size) (q.rd + 2048) = true := by
            cases hb : behindB (hPut q at_ S.size) (at_ + S.size) (q.rd + 2048)
            · exfalso
              have : f1 = at_ + S.size := by
                rw [← hf1]; unfold finPut
                rw [if_pos ⟨⟨g1, hq0, by omega, g4⟩, hb⟩]
              omega
            · rfl
          obtain ⟨x, x1, x2, x3⟩ := (behind_iff _ _ _).1 hc
          have : behindB (hPut p at_ S.size) (at_ + S.size) (q.rd + 2048) = true := by
            refine (behind_iff _ _ _).2 ⟨x, x1, x2, ?_⟩
            unfold hPut
            rw [ph]
            unfold hAfter
            rw [x3, (hplc x (by omega) x2).1]
            simp; left; omega
          rw [this] at g5
          cases g5
        · rw [pfin]; exact hf
      rw [putQ_open S fin hi1 hfp]
      exact ⟨hnp, pov.symm⟩
end Go.Proofs.Ytgdfjkdcdfmifaa
