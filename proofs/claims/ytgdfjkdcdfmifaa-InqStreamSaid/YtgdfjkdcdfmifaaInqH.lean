/- The queue takes a text: reading, and the last pieces. -/
import Derived.Test.YtgdfjkdcdfmifaaInqG
namespace Go.Proofs.Ytgdfjkdcdfmifaa
open Go.RowKit
set_option linter.unusedVariables false

section
variable {T S : ByteArray} {fin : Bool} {q : IQ} {n a t : Nat}
theorem readN_bd (ok : IqOk q) (most : Int) : q.rd + readN q most ≤ endZ q := by
  have := (end_bd q ok).1
  unfold readN
  split <;> split <;> omega
theorem readN_all (ok : IqOk q) : q.rd + readN q 5000 = endZ q := by
  have := end_bd q ok
  unfold readN
  simp only [show ¬ ((5000 : Int) < 0) by omega, if_false]
  rw [if_neg (by omega)]
  omega
theorem good_read (g : Good T fin q n) (m : Nat) (hm : q.rd + m ≤ endZ q) : Good T fin { q with rd := q.rd + m } (n + m) := by
  have e1 : endZ { q with rd := q.rd + m } = endZ q := rfl
  have hr := g.ok.rd1
  have hb := end_bd q g.ok
  refine ⟨⟨by show 1 ≤ q.rd + (m : Int); omega, hm, ?_, g.ok.nxm, g.ok.fin1, g.ok.finm, g.ok.rok⟩, ?_, ?_, g.end_, ?_, ?_, ?_, g.fn, g.ov⟩
  · show endZ q ≤ q.rd + m + 2048
    omega
  · rcases g.stop with h | ⟨h1, h2⟩
    · exact .inl h
    · cases ho : q.over
      · by_cases h0 : m = 0
        · subst h0
          refine .inr ⟨?_, h2⟩
          rcases h1 with h | h
          · left; show q.nx = q.rd + (0 : Nat) + 2048; omega
          · exact .inr h
        · refine .inr ⟨?_, h2⟩
          right
          show q.h (q.nx % 2048).toNat = false
          rcases h1 with h | h
          · rw [end_open ho] at hm
            have := g.low ho q.rd (Int.le_refl _) (by omega)
            rw [show q.nx % 2048 = q.rd % 2048 by omega]
            exact this
          · exact h
      · exact .inl rfl
  · show q.rd + (m : Int) = ((n + m : Nat) : Int) + 1
    have := g.rd
    omega
  · intro p h1 h2
    have h1' : q.rd + m ≤ p := h1
    exact g.got p (by omega) h2
  · intro ho p h1 h2 h3
    have ho' : q.over = false := ho
    have h2' : p < q.rd + m + 2048 := h2
    have h3' : q.h (p % 2048).toNat = true := h3
    rw [end_open ho'] at hm
    by_cases hp : p < q.rd + 2048
    · exact g.have_ ho' p h1 hp h3'
    · have := g.low ho' (p - 2048) (by omega) (by omega)
      rw [show (p - 2048) % 2048 = p % 2048 by omega, h3'] at this
      cases this
  · intro ho p h1 h2
    have h1' : q.rd + m ≤ p := h1
    exact g.low ho p (by omega) h2
/-- what was read is the text's next bytes -/
theorem good_bytes (g : Good T fin q n) (m : Nat) (hm : q.rd + m ≤ endZ q) : byteL (readL q m) = (T.data.toList.drop n).take m := by
  have hrd := g.rd
  have hend := g.end_
  apply List.ext_getElem?
  intro k
  have hrl : (readL q m).length = m := by unfold readL; rw [fnL_len]
  by_cases hk : k < m
  · unfold byteL
    rw [List.getElem?_map]
    have hk2 : (readL q m)[k]? = some (q.r ((q.rd + k) % 2048).toNat) := by unfold readL; rw [fnL_get _ _ _ hk]
    rw [hk2, List.getElem?_take, if_pos hk, List.getElem?_drop]
    have hgt := g.got (q.rd + k) (by omega) (by omega)
    rw [hgt]
    have hlt : n + k < T.data.toList.length := by rw [Array.length_toList]; show n + k < T.size; omega
    unfold byteZ
    rw [show (q.rd + (k : Int) - 1).toNat = n + k by omega, List.getElem?_eq_getElem hlt]
    have e : T.data[n + k]? = some (T.data.toList[n + k]) := by
      rw [Array.getElem_toList]; exact Array.getElem?_eq_getElem _
    rw [e]
    simp only [Option.map_some, Option.getD_some]
    congr 1
    have hlt2 := (T.data.toList[n + k]).toNat_lt
    apply UInt8.toNat.inj
    rw [UInt8.toNat_ofNat']
    omega
  · rw [List.getElem?_eq_none (by rw [byteL_len, hrl]; omega), List.getElem?_eq_none (by rw [List.length_take]; omega)]
/-- a piece that begins where all before it has been read comes whole -/
theorem good_last (g : Good T fin q n) (hn : n ≤ 140737488351232) (ht : T.size ≤ 140737488351232) (hp : PieceOf T S a t) (h9 : t ≤ a + 900) (ha : (a : Int) + 1 ≤ q.rd) :
    (t : Int) + 1 ≤ endZ (putQ q (a + 1) S (fin && (t == T.size))) ∧ (t = T.size → (putQ q (a + 1) S (fin && (t == T.size))).over = fin) := by
  have g' := good_put g hn hp
  have hlt := hp.lt
  by_cases hi : idle q (a + 1)
  · rcases hi with h | h | h
    · omega
    · have := hp.le; omega
    · rw [putQ_idle S _ (.inr (.inr h))]
      obtain ⟨h1, h2⟩ := g.ov h
      rw [end_over h]
      exact ⟨by omega, fun _ => by rw [h, h2]⟩
  · have ho := idle_open hi
    obtain ⟨o1, o2⟩ := ok_open g.ok ho
    have hr := g.ok.rd1
    obtain ⟨a1, a2, a3, a4⟩ := nxPut_is g.ok ho ((a : Int) + 1) S.size
    have hall : ∀ p, q.nx ≤ p → p < (t : Int) + 1 → hPut q ((a : Int) + 1) S.size (p % 2048).toNat = true := by
      intro p h1 h2
      have := (good_hit g ho hp p h1 (by omega)).2.2 ⟨by omega, h2, by rcases g.fn with e | ⟨e, _⟩ <;> omega⟩
      unfold hPut
      rw [this]; simp
    have hgt : (t : Int) + 1 ≤ nxPut q ((a : Int) + 1) S.size := by
      by_cases hlt2 : nxPut q ((a : Int) + 1) S.size < (t : Int) + 1
      · rcases a4 with e | e
        · omega
        · rw [hall _ a1 hlt2] at e; cases e
      · omega
    have hE : (t : Int) + 1 ≤ endZ (putQ q (a + 1) S (fin && (t == T.size))) := by
      by_cases hf : nxPut q ((a : Int) + 1) S.size = finPut q ((a : Int) + 1) S.size (fin && (t == T.size))
      · rw [putQ_over S _ hi hf, end_over rfl]; simp; omega
      · rw [putQ_open S _ hi hf, end_open rfl]; exact hgt
    refine ⟨hE, fun e => ?_⟩
    subst e
    cases hfin : fin
    · cases hov : (putQ q (a + 1) S (false && (T.size == T.size))).over
      · rfl
      · rw [hfin] at g'
        have := (g'.ov hov).2
        cases this
    · rw [hfin] at g g' hE
      cases hov : (putQ q (a + 1) S (true && (T.size == T.size))).over
      · exfalso
        rw [end_open hov] at hE
        have hE2 := g'.end_
        rw [end_open hov] at hE2
        by_cases hf : nxPut q ((a : Int) + 1) S.size = finPut q ((a : Int) + 1) S.size (true && (T.size == T.size))
        · rw [putQ_over S _ hi hf] at hov; cases hov
        · rw [putQ_open S _ hi hf] at hE hE2
          have hE' : (T.size : Int) + 1 ≤ nxPut q ((a : Int) + 1) S.size := hE
          have hE2' : nxPut q ((a : Int) + 1) S.size ≤ (T.size : Int) + 1 := hE2
          apply hf
          have hsz := hp.sz
          have hle := hp.le
          unfold finPut
          rcases g.fn with e | ⟨e, _⟩
          · rw [if_pos]
            · omega
            · refine ⟨⟨by simp, by omega, by omega, by omega⟩, ?_⟩
              cases hb : behindB (hPut q ((a : Int) + 1) S.size) ((a : Int) + 1 + S.size) (q.rd + 2048)
              · rfl
              · obtain ⟨x, x1, x2, x3⟩ := (behind_iff _ _ _).1 hb
                have := (good_rPut g ho hp x (by omega) x2 x3).1
                omega
          · rw [if_neg (by rintro ⟨⟨_, h, _, _⟩, _⟩; omega)]
            omega
      · rfl
end
end Go.Proofs.Ytgdfjkdcdfmifaa
