/- The queue takes a text: what stays true. -/
import Derived.Test.YtgdfjkdcdfmifaaInqL
import Derived.Test.YtgdfjkdcdfmifaaInqD
namespace Go.Proofs.Ytgdfjkdcdfmifaa
open Go.RowKit
set_option linter.unusedVariables false

structure Good (T : ByteArray) (fin : Bool) (q : IQ) (n : Nat) : Prop where
  ok : IqOk q
  stop : Stop q
  rd : q.rd = n + 1
  end_ : endZ q ≤ T.size + 1
  got : ∀ p, q.rd ≤ p → p < endZ q → q.r (p % 2048).toNat = byteZ T (p - 1)
  have_ : q.over = false → ∀ p, q.nx ≤ p → p < q.rd + 2048 → q.h (p % 2048).toNat = true → p ≤ T.size ∧ q.r (p % 2048).toNat = byteZ T (p - 1)
  low : q.over = false → ∀ p, q.rd ≤ p → p < q.nx → q.h (p % 2048).toNat = false
  fn : q.fin = -1 ∨ (q.fin = T.size + 1 ∧ fin = true)
  ov : q.over = true → q.nx = T.size + 2 ∧ fin = true
theorem end_open {q : IQ} (h : q.over = false) : endZ q = q.nx := by unfold endZ; rw [h]; rfl
theorem end_over {q : IQ} (h : q.over = true) : endZ q = q.nx - 1 := by unfold endZ; rw [h]; rfl
theorem good_new (T : ByteArray) (fin : Bool) : Good T fin newIQ 0 := by
  refine ⟨⟨by decide, by decide, by decide, by decide, by decide, by decide, fun k => by simp [newIQ]⟩, .inr ⟨.inr rfl, by decide⟩, rfl, ?_, ?_, ?_, ?_, .inl rfl, fun h => by cases h⟩
  · show (1 : Int) ≤ T.size + 1; omega
  · intro p h1 h2
    have e1 : newIQ.rd = 1 := rfl
    have e2 : endZ newIQ = 1 := rfl
    omega
  · intro _ p h1 h2 h3; cases h3
  · intro _ p h1 h2; rfl
/-- the first piece of a text from a on, up to t -/
structure PieceOf (T S : ByteArray) (a t : Nat) : Prop where
  le : a ≤ t
  lt : t ≤ T.size
  sz : S.size = t - a
  at_ : ∀ i : Int, 0 ≤ i → i < S.size → byteZ S i = byteZ T (a + i)
theorem piece_extract (T : ByteArray) (a t : Nat) (h : a ≤ t) (h' : t ≤ T.size) : PieceOf T (T.extract a t) a t := by
  have hs : (T.extract a t).size = t - a := by rw [ByteArray.size_extract]; omega
  refine ⟨h, h', hs, fun i h1 h2 => ?_⟩
  unfold byteZ
  obtain ⟨k, rfl⟩ := Int.eq_ofNat_of_zero_le h1
  have hk : k < t - a := by omega
  rw [show ((a : Int) + (k : Int)).toNat = a + k by omega, Int.toNat_natCast, ByteArray.data_extract]
  congr 2
  rw [Array.getElem?_extract]
  have hsz : T.data.size = T.size := rfl
  rw [if_pos (by rw [hsz]; omega)]
section
variable {T S : ByteArray} {fin : Bool} {q : IQ} {n a t : Nat}
theorem good_hit (g : Good T fin q n) (ho : q.over = false) (hp : PieceOf T S a t) (p : Int) (h1 : q.nx ≤ p) (h2 : p < q.rd + 2048) :
    plc q.nx (p % 2048).toNat = p ∧ (hitB q (a + 1) S.size (p % 2048).toNat = true ↔ ((a : Int) + 1 ≤ p ∧ p < (t : Int) + 1 ∧ (q.fin < 0 ∨ p < q.fin))) := by
  obtain ⟨o1, o2⟩ := ok_open g.ok ho
  have hr := g.ok.rd1
  have hpl : plc q.nx (p % 2048).toNat = p := plc_of _ _ _ h1 (by omega) (by omega)
  refine ⟨hpl, ?_⟩
  unfold hitB
  rw [hpl, decide_eq_true_eq]
  have := hp.sz
  have := hp.le
  constructor
  · intro h; omega
  · intro h; omega
/-- a slot that holds a byte to be read takes none -/
theorem good_low (g : Good T fin q n) (ho : q.over = false) (at_ len : Int) (p : Int) (h1 : q.rd ≤ p) (h2 : p < q.nx) : hitB q at_ len (p % 2048).toNat = false := by
  obtain ⟨o1, o2⟩ := ok_open g.ok ho
  have hr := g.ok.rd1
  have hpl : plc q.nx (p % 2048).toNat = p + 2048 := plc_of _ _ _ (by omega) (by omega) (by omega)
  unfold hitB
  rw [hpl, decide_eq_false_iff_not]
  omega
theorem good_rPut (g : Good T fin q n) (ho : q.over = false) (hp : PieceOf T S a t) (p : Int) (h1 : q.nx ≤ p) (h2 : p < q.rd + 2048) (h : hPut q (a + 1) S.size (p % 2048).toNat = true) :
    p ≤ T.size ∧ rPut q (a + 1) S (p % 2048).toNat = byteZ T (p - 1) := by
  obtain ⟨hpl, hit⟩ := good_hit g ho hp p h1 h2
  have hlt := hp.lt
  unfold hPut at h
  unfold rPut
  cases hh : q.h (p % 2048).toNat
  · rw [hh] at h
    simp only [Bool.false_or] at h
    obtain ⟨k1, k2, k3⟩ := hit.1 h
    rw [h, hpl]
    refine ⟨by omega, ?_⟩
    simp only [Bool.not_false, Bool.and_self, if_true]
    have hsz := hp.sz
    rw [hp.at_ (p - (a + 1)) (by omega) (by omega), show (a : Int) + (p - (a + 1)) = p - 1 by omega]
  · obtain ⟨k1, k2⟩ := g.have_ ho p h1 h2 hh
    exact ⟨k1, by simpa using k2⟩
theorem good_put (g : Good T fin q n) (hn : n ≤ 140737488351232) (hp : PieceOf T S a t) : Good T fin (putQ q (a + 1) S (fin && (t == T.size))) n := by
  have hrd := g.rd
  by_cases hi : idle q (a + 1)
  · rw [putQ_idle S _ hi]; exact g
  · have ho := idle_open hi
    have ok' := put_ok g.ok (by omega) ((a : Int) + 1) S (fin && (t == T.size))
    have st' := put_stop g.ok g.stop ((a : Int) + 1) S (fin && (t == T.size))
    obtain ⟨o1, o2⟩ := ok_open g.ok ho
    have hr := g.ok.rd1
    obtain ⟨a1, a2, a3, a4⟩ := nxPut_is g.ok ho ((a : Int) + 1) S.size
    have hfo := finPut_or q ((a : Int) + 1) S.size (fin && (t == T.size))
    have hft : finPut q ((a : Int) + 1) S.size (fin && (t == T.size)) = q.fin ∨ (fin = true ∧ finPut q ((a : Int) + 1) S.size (fin && (t == T.size)) = T.size + 1) := by
      unfold finPut
      split
      · rename_i h
        right
        have h1 := h.1.1
        simp at h1
        have := hp.sz
        have := hp.le
        exact ⟨h1.1, by omega⟩
      · exact .inl rfl
    have hfn : finPut q ((a : Int) + 1) S.size (fin && (t == T.size)) = -1 ∨ (finPut q ((a : Int) + 1) S.size (fin && (t == T.size)) = T.size + 1 ∧ fin = true) := by
      rcases hft with e | ⟨e1, e2⟩
      · rw [e]; exact g.fn
      · exact .inr ⟨e2, e1⟩
    have hrp : ∀ p, q.nx ≤ p → p < q.rd + 2048 → hPut q ((a : Int) + 1) S.size (p % 2048).toNat = true → p ≤ T.size ∧ rPut q ((a : Int) + 1) S (p % 2048).toNat = byteZ T (p - 1) := fun p => good_rPut g ho hp p
    have hlow := fun p => good_low g ho ((a : Int) + 1) S.size p
    have hee := end_open ho
    have hge := g.end_
    generalize hn1 : nxPut q ((a : Int) + 1) S.size = n1 at *
    have hend : n1 ≤ T.size + 1 := by
      by_cases e : n1 = q.nx
      · omega
      · have := (hrp (n1 - 1) (by omega) (by omega) (a3 _ (by omega) (by omega))).1
        omega
    have hgot : ∀ p, q.rd ≤ p → p < n1 → rPut q ((a : Int) + 1) S (p % 2048).toNat = byteZ T (p - 1) := by
      intro p h1 h2
      by_cases h3 : p < q.nx
      · unfold rPut
        rw [hlow p h1 h3]
        simp only [Bool.and_false, Bool.false_eq_true, if_false]
        exact g.got p h1 (by omega)
      · exact (hrp p (by omega) (by omega) (a3 p (by omega) h2)).2
    have hplc : ∀ p : Int, q.nx ≤ p → p < q.rd + 2048 → plc q.nx (p % 2048).toNat = p := fun p h1 h2 => plc_of _ _ _ h1 (by omega) (by omega)
    by_cases hf : n1 = finPut q ((a : Int) + 1) S.size (fin && (t == T.size))
    · have hq := putQ_over (at_ := (a : Int) + 1) S (fin && (t == T.size)) hi (by rw [hn1]; exact hf)
      rw [hn1] at hq
      rw [hq] at ok' st' ⊢
      refine ⟨ok', st', hrd, ?_, ?_, (fun h => by cases h), (fun h => by cases h), hfn, fun _ => ?_⟩
      · rw [end_over rfl]; simp; omega
      · intro p h1 h2
        rw [end_over rfl] at h2
        exact hgot p h1 (by simp at h2; omega)
      · rcases hfn with e | ⟨e1, e2⟩
        · omega
        · exact ⟨by simp; omega, e2⟩
    · have hq := putQ_open (at_ := (a : Int) + 1) S (fin && (t == T.size)) hi (by rw [hn1]; exact hf)
      rw [hn1] at hq
      rw [hq] at ok' st' ⊢
      refine ⟨ok', st', hrd, ?_, ?_, ?_, ?_, hfn, (fun h => by cases h)⟩
      · rw [end_open rfl]; exact hend
      · intro p h1 h2
        rw [end_open rfl] at h2
        exact hgot p h1 h2
      · intro _ p h1 h2 h3
        have h1' : n1 ≤ p := h1
        have h2' : p < q.rd + 2048 := h2
        have h3' : hAfter q ((a : Int) + 1) S.size n1 (p % 2048).toNat = true := h3
        unfold hAfter at h3'
        simp only [Bool.and_eq_true] at h3'
        exact hrp p (by omega) h2' h3'.1
      · intro _ p h1 h2
        have h1' : q.rd ≤ p := h1
        have h2' : p < n1 := h2
        show hAfter q ((a : Int) + 1) S.size n1 (p % 2048).toNat = false
        unfold hAfter
        by_cases h3 : p < q.nx
        · have e1 := hlow p h1' h3
          have e2 := g.low ho p h1' h3
          unfold hPut
          rw [e1, e2]; rfl
        · rw [hplc p (by omega) (by omega)]
          simp; intro _; omega
end
end Go.Proofs.Ytgdfjkdcdfmifaa
