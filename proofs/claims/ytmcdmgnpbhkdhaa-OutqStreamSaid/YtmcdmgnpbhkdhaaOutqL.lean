/- The plain law of OutqWhole: the queue while it is written, and while it goes out. -/
import Derived.Test.YtmcdmgnpbhkdhaaOutqA
import Derived.Test.YtmcdmgnpbhkdhaaOutqN
import Derived.Test.YtmcdmgnpbhkdhaaDat
namespace Go.Proofs.Ytmcdmgnpbhkdhaa
open Go.RowKit Go.Lib
set_option linter.unusedVariables false

def wq (t : ByteArray) : OQ := ⟨sI t, 1, 0, 0, 0, false⟩
def cq (t : ByteArray) (c : Int) : OQ := ⟨sI t, 1, 0, c, c, true⟩
theorem sI_app (a b : ByteArray) : sI (a ++ b) = sI a ++ sI b := by unfold sI; rw [ByteArray.data_append, Array.toList_append, List.map_append]
theorem wq_ok (t : ByteArray) (h : t.size ≤ 2048) : OqOk (wq t) := ⟨by simp [wq, sI_len]; exact h, by simp [wq], by simp [wq], by simp [wq], by simp [wq], by simp [wq, qEnd, oFin]; omega, .inl ⟨rfl, rfl⟩⟩
theorem wq_room (t : ByteArray) : oRoom (wq t) = 2048 - (t.size : Int) := by simp [wq, oRoom, sI_len]
theorem wq_write (t s : ByteArray) : oWrite (wq t) s = wq (t ++ s.extract 0 (oN (wq t) s.size)) := by
  unfold oWrite wq
  simp only [sI_app]
theorem cq_fin (t : ByteArray) (c : Int) : oFin (cq t c) = (t.size : Int) + 1 := by simp [cq, oFin, sI_len]; omega
theorem cq_end (t : ByteArray) (c : Int) : qEnd (cq t c) = (t.size : Int) + 2 := by unfold qEnd; rw [cq_fin]; simp [cq]; omega
theorem cq_ok (t : ByteArray) (c : Int) (h : t.size ≤ 2048) (h0 : 0 ≤ c) (h1 : c ≤ (t.size : Int) + 2) : OqOk (cq t c) :=
  ⟨by simp [cq, sI_len]; exact h, by simp [cq], by simp [cq], by simp [cq]; exact h0, by simp [cq], by rw [cq_end]; exact h1, .inl ⟨rfl, rfl⟩⟩
theorem cq_next (t : ByteArray) (c lim mss : Int) : oNext (cq t c) lim mss = cq t (c + oLen (qPiece (cq t c) (cq t c).cur lim mss)) := by
  have := oLen_lo (qPiece (cq t c) (cq t c).cur lim mss)
  show OQ.mk (sI t) 1 0 (c + oLen (qPiece (cq t c) c lim mss)) (if c < c + oLen (qPiece (cq t c) c lim mss) then c + oLen (qPiece (cq t c) c lim mss) else c) true = _
  have e : (if c < c + oLen (qPiece (cq t c) c lim mss) then c + oLen (qPiece (cq t c) c lim mss) else c) = c + oLen (qPiece (cq t c) c lim mss) := by
    have : 0 ≤ oLen (qPiece (cq t c) c lim mss) := this
    split <;> omega
  rw [e]; rfl
theorem cq_is (t : ByteArray) (c mss : Int) (h : t.size ≤ 2048) (hm : 1 ≤ mss) : oIs (cq t c) c 1099511627776 mss = decide (c < (t.size : Int) + 2) := by
  have e : oLim (cq t c) 1099511627776 = (t.size : Int) + 2 := by unfold oLim; rw [cq_end, if_neg (by omega)]
  unfold oIs
  rw [e, decide_eq_true hm, Bool.and_true]
/-- the first piece -/
theorem cq_first (t : ByteArray) (mss : Int) (h : t.size ≤ 2048) (hm : 1 ≤ mss) : qPiece (cq t 0) 0 1099511627776 mss = ⟨0, true, false, ⟨#[]⟩⟩ := by
  have hi := cq_is t 0 mss h hm
  rw [decide_eq_true (show (0 : Int) < (t.size : Int) + 2 by omega)] at hi
  unfold qPiece
  rw [if_pos hi, if_pos rfl]
/-- a piece behind it: n more bytes, and FIN just if they are the last -/
theorem cq_piece (t : ByteArray) (c : Nat) (mss : Int) (h : t.size ≤ 2048) (hm : 1 ≤ mss) (h0 : 0 < c) (h1 : c < t.size + 2) :
    ∃ n : Nat, c - 1 + n ≤ t.size ∧ (qPiece (cq t c) c 1099511627776 mss = ⟨c, false, decide (c - 1 + n = t.size), t.extract (c - 1) (c - 1 + n)⟩) ∧ 0 < n + (if c - 1 + n = t.size then 1 else 0) := by
  have hi := cq_is t c mss h hm
  rw [decide_eq_true (show (c : Int) < (t.size : Int) + 2 by omega)] at hi
  have ok := cq_ok t c h (by omega) (by omega)
  have hF := cq_fin t c
  have hL : oLim (cq t c) 1099511627776 = (t.size : Int) + 2 := by unfold oLim; rw [cq_end, if_neg (by omega)]
  have hp : qPiece (cq t c) c 1099511627776 mss = ⟨c, false, oFinB (cq t c) c 1099511627776 mss, byteS (oBody (cq t c) c 1099511627776 mss)⟩ := by unfold qPiece; rw [if_pos hi, if_neg (by omega)]
  have hto : oTo (cq t c) c 1099511627776 mss = if mss < (t.size : Int) + 1 - c then (c : Int) + mss else (t.size : Int) + 1 := by
    unfold oTo
    simp only [hL, hF]
    rw [if_neg (show ¬ (t.size : Int) + 2 < (t.size : Int) + 1 by omega)]
  have hbo : oBody (cq t c) c 1099511627776 mss = if (c : Int) < oTo (cq t c) c 1099511627776 mss then ((sI t).drop ((c : Int) - 1).toNat).take (oTo (cq t c) c 1099511627776 mss - c).toNat else [] := rfl
  have hfb : oFinB (cq t c) c 1099511627776 mss = (true && (decide ((if (c : Int) < oTo (cq t c) c 1099511627776 mss then oTo (cq t c) c 1099511627776 mss else c) = oFin (cq t c)) && decide (oFin (cq t c) < oLim (cq t c) 1099511627776))) := rfl
  generalize oTo (cq t c) c 1099511627776 mss = TO at *
  rw [hF, hL, decide_eq_true (show (t.size : Int) + 1 < (t.size : Int) + 2 by omega), Bool.and_true, Bool.true_and] at hfb
  obtain ⟨n, hn⟩ : ∃ n : Nat, (if (c : Int) < TO then TO else c) = ((c + n : Nat) : Int) := ⟨((if (c : Int) < TO then TO else c) - c).toNat, by split <;> omega⟩
  have hle : c - 1 + n ≤ t.size := by split at hn <;> split at hto <;> omega
  have hb : byteS (oBody (cq t c) c 1099511627776 mss) = t.extract (c - 1) (c - 1 + n) := by
    apply str_ext
    rw [byteS_toList, hbo, ByteArray.data_extract, Array.toList_extract, List.extract_eq_take_drop]
    have e1 : ((c : Int) - 1).toNat = c - 1 := by omega
    have e2 : c - 1 + n - (c - 1) = n := by omega
    rw [e1, e2]
    split
    · rename_i hlt
      rw [if_pos hlt] at hn
      have e3 : (TO - c).toNat = n := by omega
      rw [e3]
      unfold byteL sI
      rw [← List.map_drop, ← List.map_take, List.map_map]
      conv => rhs; rw [← List.map_id (List.take n (List.drop (c - 1) t.data.toList))]
      refine List.map_congr_left fun b _ => ?_
      show UInt8.ofNat ((b.toNat : Int) % 256).toNat = b
      have := b.toNat_lt
      rw [show ((b.toNat : Int) % 256).toNat = b.toNat by omega]
      exact UInt8.ofNat_toNat
    · rename_i hlt
      rw [if_neg hlt] at hn
      have : n = 0 := by omega
      subst this
      simp [byteL]
  refine ⟨n, hle, ?_, ?_⟩
  · rw [hp, hb, hfb, hn]
    congr 1
    simp only [decide_eq_decide]
    omega
  · split
    · omega
    · rename_i hne
      split at hn
      · omega
      · split at hto <;> omega
theorem oq_put {E : Nat → Prop} {w W W' : World} {g : Nat} {q q' : OQ} {v v' : Value} {m : List Res} (hM : MemX E w W (oqA g q v :: oqB q v :: m)) (hN : OPre W W' g v q' v') : MemX E w W' (oqA g q' v' :: oqB q' v' :: m) :=
  hM.splice2 0 1 (by decide) rfl rfl (fun k hk => hk.elim (fun e => .inl (by rw [e]; rfl)) (fun e => .inr e)) hN
theorem oq_hand {E : Nat → Prop} {w W : World} {g : Nat} {q : OQ} {v : Value} {m : List Res} (hM : MemX E w W (oqA g q v :: oqB q v :: m)) : OPre W W g v q v := by
  have hA := hM.p (oqA g q v) (by simp)
  have hB := hM.p (oqB q v) (by simp)
  have hmem : ∀ r ∈ [oqA g q v, oqB q v], r ∈ oqA g q v :: oqB q v :: m := fun r hr => by
    rcases List.mem_cons.1 hr with rfl | hr
    · simp
    · have := List.mem_singleton.1 hr
      subst this; simp
  refine ⟨Fr.refl _ _, fun r hr => hM.p r (hmem r hr), fun r hr => hM.s r (hmem r hr), ?_, ?_⟩
  · intro r hr k hk
    rcases List.mem_cons.1 hr with rfl | hr
    · exact ⟨.inr (.inl (Option.some.inj (show some g = some k from hk)).symm), (hM.lo _ (by simp) k hk).2⟩
    · have := List.mem_singleton.1 hr
      subst this
      exact ⟨.inr (.inr hk), (hM.lo _ (by simp) k hk).2⟩
  · intro i j hij a b hi hj
    refine hM.ne i j hij a b ?_ ?_
    · match i, hi with
      | 0, hi => exact hi
      | 1, hi => exact hi
      | i + 2, hi => simp at hi
    · match j, hj with
      | 0, hj => exact hj
      | 1, hj => exact hj
      | j + 2, hj => simp at hj
theorem next_step (g : Nat) (t : ByteArray) (v : Value) (c : Nat) (mss : Int) (ht : t.size ≤ 2048) (hc : c ≤ t.size + 2) (hm1 : 1 ≤ mss) (hm2 : mss ≤ 1048576) (P : KPiece) (c' : Nat) (B : Bool) (hP : qPiece (cq t c) c 1099511627776 mss = P) (hB : oIs (cq t c) c 1099511627776 mss = B) (hc' : (c : Int) + oLen P = (c' : Int)) (W : World) (h : OPre W W g v (cq t c) v) :
    Calls Try.prog 17 #[.pointer (some ⟨g, 0, none⟩), .int .i64 1099511627776, .int .i64 mss] W fun e w' => e = .returned (.tuple #[.agg (cPiece P).toArray, .bool B]) ∧ OPre W w' g v (cq t c') v := by
  have := Next_any g (cq t c) v 1099511627776 mss W h (cq_ok t c ht (by omega) (by omega)) (by simp [cq]) (by omega) (by omega)
  rw [cq_next] at this
  have e : (cq t c).cur = (c : Int) := rfl
  rw [e, hP, hB, hc'] at this
  exact this
theorem ext_join (b : ByteArray) (x y : Nat) (h : x ≤ y) (hy : y ≤ b.size) : b.extract 0 x ++ b.extract x y = b.extract 0 y := by
  have e : ∀ (i j : Nat), (b.extract i j).data.toList = (b.data.toList.drop i).take (j - i) := fun i j => by
    rw [ByteArray.data_extract, Array.toList_extract, List.extract_eq_take_drop]
  have : (b.extract 0 x ++ b.extract x y).data.toList = (b.extract 0 y).data.toList := by
    rw [ByteArray.data_append, Array.toList_append, e, e, e]
    simp only [List.drop_zero, Nat.sub_zero]
    have h1 := List.take_add (l := b.data.toList) (i := x) (j := y - x)
    rw [show x + (y - x) = y by omega] at h1
    exact h1.symm
  exact str_ext this
theorem ext_none (b : ByteArray) : b.extract 0 0 = ⟨#[]⟩ := str_ext (by rw [ByteArray.data_extract, Array.toList_extract, List.extract_eq_take_drop]; simp)
theorem ext_full (b : ByteArray) : b.extract 0 b.size = b := by
  have : (b.extract 0 b.size).data = b.data := by rw [ByteArray.data_extract]; exact Array.extract_size
  exact congrArg ByteArray.mk this
/-- all that went out is acknowledged -/
theorem cq_acked (t : ByteArray) (c : Nat) (ht : t.size ≤ 2048) (hc : c = t.size + 2) : oHit (cq t c) ((t.size : Int) + 2) = true ∧ OqOk (oAck (cq t c) ((t.size : Int) + 2)) ∧ (oAck (cq t c) ((t.size : Int) + 2)).una = (t.size : Int) + 2 ∧ qEnd (oAck (cq t c) ((t.size : Int) + 2)) = (t.size : Int) + 2 ∧ (oAck (cq t c) ((t.size : Int) + 2)).base ≤ 5000 := by
  have ok := cq_ok t c ht (by omega) (by omega)
  have hh : oHit (cq t c) ((t.size : Int) + 2) = true := by
    show (decide ((0 : Int) < (t.size : Int) + 2) && decide ((t.size : Int) + 2 ≤ (c : Int))) = true
    rw [decide_eq_true (by omega), decide_eq_true (by omega)]; rfl
  have h1 := ack_ok ok ((t.size : Int) + 2)
  have h2 := ack_fin ok ((t.size : Int) + 2)
  refine ⟨hh, h1, by unfold oAck; rw [if_pos hh], by rw [h2.2, cq_end], ?_⟩
  have h3 := h2.1
  rw [cq_fin] at h3
  unfold oFin at h3
  omega
theorem one_cell {k : Kd} {cs : List Value} (h : okAll [k] cs) : ∃ y, cs = [y] ∧ okCell k y := by
  match cs, h with
  | [y], h => exact ⟨y, rfl, h.1⟩
theorem one_i64 {cs : List Value} (h : okAll [.int .i64] cs) : ∃ x : Int, cs = [.int .i64 x] ∧ -9223372036854775808 ≤ x ∧ x ≤ 9223372036854775807 := by
  obtain ⟨y, rfl, x, rfl, h1, h2⟩ := one_cell h
  have h1 : (-9223372036854775808 : Int) ≤ x := h1
  have h2 : x ≤ (9223372036854775807 : Int) := h2
  exact ⟨x, rfl, h1, h2⟩
end Go.Proofs.Ytmcdmgnpbhkdhaa
