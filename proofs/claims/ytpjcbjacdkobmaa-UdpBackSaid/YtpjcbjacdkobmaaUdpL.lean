/- The plain laws of datagrams and their bytes. -/
import Derived.Test.YtpjcbjacdkobmaaUdpR
import Derived.Test.YtpjcbjacdkobmaaTurnS
namespace Go.Proofs.Ytpjcbjacdkobmaa
set_option linter.unusedVariables false

theorem udBare_len (g : KGram) : (udBare g).length = 8 + g.b.size := by simp [udBare, udHead, sI_len]; omega
theorem udL_len (g : KGram) : (udL g).length = 8 + g.b.size := by simp [udL]; exact udBare_len g
theorem udS_list (g : KGram) : (udS g).data.toList = byteL (udL g) := rfl
theorem udS_size (g : KGram) : (udS g).size = 8 + g.b.size := by unfold udS; rw [byteS_sz, udL_len]
theorem udL_form (g : KGram) : udL g = [g.fp / 256, g.fp, g.tp / 256, g.tp, (8 + (g.b.size : Int)) / 256, 8 + (g.b.size : Int), udN g / 256, udN g] ++ sI g.b := rfl
theorem udZ_S (g : KGram) (M : List UInt8) (t : ByteArray) (h : t.data.toList = byteL (udL g) ++ M) : udZ t = byteL (udBare g) ++ M := by
  unfold udZ
  rw [h, udL_form, byteL_sI]
  unfold udBare
  rw [byteL_sI]
  simp [byteL, udHead]
/-- what a text that begins as a datagram does reads as -/
theorem ud_words (g : KGram) (hc : udChk g = 0) (M : List UInt8) (t : ByteArray) (h : t.data.toList = byteL (udL g) ++ M) :
    w16 (lb t.data.toList) 0 = g.fp ∧ w16 (lb t.data.toList) 2 = g.tp ∧ w16 (lb t.data.toList) 4 = 8 + (g.b.size : Int) ∧ w16 (lb t.data.toList) 6 = udN g := by
  obtain ⟨⟨f1, f2⟩, ⟨t1, t2⟩, b1⟩ := udChk_ok hc
  have hn := udSum_bd g.fa g.ta (byteS (udBare g))
  have hl := udL_len g
  have hn2 : udSum g.fa g.ta (byteS (udBare g)) = udN g := rfl
  rw [hn2] at hn
  rw [h]
  unfold w16
  rw [lb_byteL _ _ 0 (by omega), lb_byteL _ _ 1 (by omega), lb_byteL _ _ 2 (by omega), lb_byteL _ _ 3 (by omega), lb_byteL _ _ 4 (by omega), lb_byteL _ _ 5 (by omega), lb_byteL _ _ 6 (by omega), lb_byteL _ _ 7 (by omega), udL_form]
  refine ⟨?_, ?_, ?_, ?_⟩
  · show g.fp / 256 % 256 * 256 + g.fp % 256 = _; omega
  · show g.tp / 256 % 256 * 256 + g.tp % 256 = _; omega
  · show (8 + (g.b.size : Int)) / 256 % 256 * 256 + (8 + (g.b.size : Int)) % 256 = _; omega
  · show udN g / 256 % 256 * 256 + udN g % 256 = _; omega
theorem udN_ne (s d : Int) (t : ByteArray) : udSum s d t ≠ 0 := by unfold udSum; split <;> omega
theorem toArray_list (s : ByteArray) : (⟨s.data.toList.toArray⟩ : ByteArray) = s := str_ext (by simp)
theorem ud_back (g : KGram) (hc : udChk g = 0) : udErr g.fa g.ta (udS g) = 0 ∧ rdG g.fa g.ta (udS g) = g := by
  have h0 : (udS g).data.toList = byteL (udL g) ++ [] := by rw [List.append_nil]; rfl
  obtain ⟨w0, w2, w4, w6⟩ := ud_words g hc [] _ h0
  have hz := udS_size g
  have hZ := udZ_S g [] _ h0
  rw [List.append_nil] at hZ
  have hb : (udS g).extract 8 (udS g).size = g.b := by
    refine str_ext ?_
    rw [ByteArray.data_extract, Array.toList_extract, udS_list, hz, udL_form, byteL_sI]
    have : (g.b.data.toList).length = g.b.size := by simp
    simp [byteL]
    exact List.take_of_length_le (by omega)
  have hG : rdG g.fa g.ta (udS g) = g := by
    unfold rdG; rw [w0, w2, hb]
  refine ⟨?_, hG⟩
  unfold udErr
  have hs : udSum g.fa g.ta ⟨(udZ (udS g)).toArray⟩ = udN g := by rw [hZ]; rfl
  have hn : udN g ≠ 0 := udN_ne _ _ _
  rw [w4, w6, hs, hG, hc, if_neg (by omega), if_neg (by omega), if_neg (by omega), if_neg (by simp)]
theorem ud_less (g : KGram) (hc : udChk g = 0) (k : Nat) (hk : k < (udS g).size) (s d : Int) : udErr s d ((udS g).extract 0 k) = 3 := by
  have hz := udS_size g
  have hsz : ((udS g).extract 0 k).size = k := by rw [ByteArray.size_extract]; omega
  unfold udErr
  by_cases h8 : k < 8
  · rw [if_pos (by omega)]
  · have hl : ((udS g).extract 0 k).data.toList = (byteL (udL g)).take k := by
      rw [ByteArray.data_extract, Array.toList_extract, udS_list]; simp
    obtain ⟨w0, w2, w4, w6⟩ := ud_words g hc [] (udS g) (by rw [List.append_nil]; rfl)
    have e4 : w16 (lb ((udS g).extract 0 k).data.toList) 4 = w16 (lb (udS g).data.toList) 4 := by
      rw [hl, udS_list]
      unfold w16 lb
      rw [List.getElem?_take, List.getElem?_take, if_pos (by omega), if_pos (by omega)]
    rw [if_neg (by omega), e4, w4, if_pos (by omega)]
theorem ud_more (g : KGram) (hc : udChk g = 0) (r : ByteArray) (hr : r.size ≠ 0) (s d : Int) : udErr s d (udS g ++ r) = 4 := by
  have hz := udS_size g
  have hsz : (udS g ++ r).size = 8 + g.b.size + r.size := by rw [ByteArray.size_append]; omega
  obtain ⟨w0, w2, w4, w6⟩ := ud_words g hc r.data.toList (udS g ++ r) (by rw [ByteArray.data_append, Array.toList_append]; rfl)
  unfold udErr
  rw [w4, if_neg (by omega), if_neg (by omega), if_pos (.inl (by omega))]
/-- what is read is written as it was -/
theorem ud_again (s d : Int) (t : ByteArray) (h : udErr s d t = 0) : udChk (rdG s d t) = 0 ∧ udS (rdG s d t) = t := by
  unfold udErr at h
  split at h
  · cases h
  rename_i h8
  split at h
  · cases h
  rename_i h3
  split at h
  · cases h
  rename_i h4
  split at h
  · cases h
  rename_i h5
  refine ⟨h, str_ext ?_⟩
  have hs : udSum s d ⟨(udZ t).toArray⟩ = w16 (lb t.data.toList) 6 := by simpa using h5
  have ha : w16 (lb t.data.toList) 4 = (t.size : Int) := by omega
  have hlen : t.data.toList.length = t.size := by simp
  have hbz : ((rdG s d t).b.size : Int) = (t.size : Int) - 8 := by
    show ((t.extract 8 t.size).size : Int) = _
    rw [ByteArray.size_extract]; omega
  have hbl : (rdG s d t).b.data.toList = t.data.toList.drop 8 := by
    show (t.extract 8 t.size).data.toList = _
    rw [ByteArray.data_extract, Array.toList_extract]
    simp
    refine List.take_of_length_le ?_
    rw [List.length_drop]; simp
  have hB := lb_ok t.data.toList
  have hN : ∀ k, k < 8 → ∃ u, t.data.toList[k]? = some u ∧ lb t.data.toList k = (u.toNat : Int) := fun k hk =>
    ⟨_, List.getElem?_eq_getElem (by omega), by unfold lb; rw [List.getElem?_eq_getElem (by omega)]; rfl⟩
  obtain ⟨u0, a0, b0⟩ := hN 0 (by omega)
  obtain ⟨u1, a1, b1⟩ := hN 1 (by omega)
  obtain ⟨u2, a2, b2⟩ := hN 2 (by omega)
  obtain ⟨u3, a3, b3⟩ := hN 3 (by omega)
  obtain ⟨u4, a4, b4⟩ := hN 4 (by omega)
  obtain ⟨u5, a5, b5⟩ := hN 5 (by omega)
  obtain ⟨u6, a6, b6⟩ := hN 6 (by omega)
  obtain ⟨u7, a7, b7⟩ := hN 7 (by omega)
  have hL : t.data.toList = [u0, u1, u2, u3, u4, u5, u6, u7] ++ t.data.toList.drop 8 := by
    apply List.ext_getElem?
    intro k
    by_cases hk : k < 8
    · rw [List.getElem?_append_left (by simpa using hk)]
      have hcase : k = 0 ∨ k = 1 ∨ k = 2 ∨ k = 3 ∨ k = 4 ∨ k = 5 ∨ k = 6 ∨ k = 7 := by omega
      rcases hcase with rfl | rfl | rfl | rfl | rfl | rfl | rfl | rfl <;> simp [a0, a1, a2, a3, a4, a5, a6, a7]
    · rw [List.getElem?_append_right (by simp; omega), List.getElem?_drop]
      simp
      rw [show 8 + (k - 8) = k by omega]
  have q0 := u0.toNat_lt; have q1 := u1.toNat_lt; have q2 := u2.toNat_lt; have q3 := u3.toNat_lt; have q4 := u4.toNat_lt; have q5 := u5.toNat_lt; have q6 := u6.toNat_lt; have q7 := u7.toNat_lt
  have hfp : (rdG s d t).fp = (u0.toNat : Int) * 256 + (u1.toNat : Int) := by show w16 _ 0 = _; unfold w16; rw [b0, b1]
  have htp : (rdG s d t).tp = (u2.toNat : Int) * 256 + (u3.toNat : Int) := by show w16 _ 2 = _; unfold w16; rw [b2, b3]
  have hal : (t.size : Int) = (u4.toNat : Int) * 256 + (u5.toNat : Int) := by rw [← ha]; unfold w16; rw [b4, b5]
  have hsm : udSum s d ⟨(udZ t).toArray⟩ = (u6.toNat : Int) * 256 + (u7.toNat : Int) := by rw [hs]; unfold w16; rw [b6, b7]
  have key : ∀ (x : Int) (u : UInt8), x % 256 = (u.toNat : Int) → UInt8.ofNat (x % 256).toNat = u := fun x u h => by rw [h]; simp
  have hbare : byteL (udBare (rdG s d t)) = udZ t := by
    unfold udBare udZ
    rw [byteL_sI, hbl]
    conv => rhs; rw [hL]
    unfold udHead
    rw [hfp, htp, hbz]
    simp only [byteL, List.map_cons, List.map_nil, List.cons_append, List.nil_append, List.set_cons_succ, List.set_cons_zero]
    rw [key _ u0 (by omega), key _ u1 (by omega), key _ u2 (by omega), key _ u3 (by omega), key _ u4 (by omega), key _ u5 (by omega)]
    rfl
  have hn : udN (rdG s d t) = (u6.toNat : Int) * 256 + (u7.toNat : Int) := by
    rw [← hsm, ← hbare]; rfl
  rw [udS_list, udL_form, byteL_sI, hbl]
  conv => rhs; rw [hL]
  rw [hfp, htp, hbz, hn]
  simp only [byteL, List.map_cons, List.map_nil, List.cons_append, List.nil_append]
  rw [key _ u0 (by omega), key _ u1 (by omega), key _ u2 (by omega), key _ u3 (by omega), key _ u4 (by omega), key _ u5 (by omega), key _ u6 (by omega), key _ u7 (by omega)]
theorem udSum_mod (s d : Int) (t t' : ByteArray) (h : udX s d t % 65535 ≠ udX s d t' % 65535) : udSum s d t ≠ udSum s d t' := by
  have h1 := sumZ_lo (byteL (pseuL s d 17 (t.size : Int)) ++ t.data.toList)
  have h2 := sumZ_hi (byteL (pseuL s d 17 (t.size : Int)) ++ t.data.toList)
  have h3 := sumZ_lo (byteL (pseuL s d 17 (t'.size : Int)) ++ t'.data.toList)
  have h4 := sumZ_hi (byteL (pseuL s d 17 (t'.size : Int)) ++ t'.data.toList)
  unfold udX at h
  unfold udSum udX
  split <;> split <;> omega
/-- a turned datagram is not read -/
theorem ud_turned (g : KGram) (hc : udChk g = 0) (i j : Nat) (hi : i < (udS g).size) (hj : j < 8) (t : ByteArray) (h : t.data.toList = turnL (udS g).data.toList i j) : udErr g.fa g.ta t ≠ 0 := by
  have h0 : (udS g).data.toList = byteL (udL g) ++ [] := by rw [List.append_nil]; rfl
  obtain ⟨w0, w2, w4, w6⟩ := ud_words g hc [] _ h0
  have hz := udS_size g
  have hZ := udZ_S g [] _ h0
  rw [List.append_nil] at hZ
  have hlen : (udS g).data.toList.length = (udS g).size := by simp
  have hts : t.size = (udS g).size := by
    have := congrArg List.length h
    rw [turnL_len] at this
    simpa using this
  have hs : udSum g.fa g.ta ⟨(udZ (udS g)).toArray⟩ = udN g := by rw [hZ]; rfl
  unfold udErr
  rw [if_neg (by omega)]
  by_cases e4 : i = 4 ∨ i = 5
  · have := w16_turn (udS g).data.toList i j 4 (by omega) hj (by omega)
    rw [← h, w4] at this
    by_cases h3 : (t.size : Int) < w16 (lb t.data.toList) 4
    · rw [if_pos h3]; omega
    · rw [if_neg h3, if_pos (.inl (by omega))]; omega
  · have k4 := w16_still (udS g).data.toList i j 4 (by omega)
    rw [← h, w4] at k4
    rw [k4, if_neg (by omega)]
    by_cases e6 : i = 6 ∨ i = 7
    · have := w16_turn (udS g).data.toList i j 6 (by omega) hj (by omega)
      rw [← h, w6] at this
      have hz2 : udZ t = udZ (udS g) := by
        unfold udZ
        rw [h]
        rcases e6 with rfl | rfl
        · rw [set_turn_same]
        · rw [set_turn_other _ _ _ _ _ (by omega), set_turn_same]
      rw [hz2, hs]
      by_cases h6 : w16 (lb t.data.toList) 6 = 0
      · rw [if_pos (.inr h6)]; omega
      · rw [if_neg (by omega), if_pos (fun e => this e.symm)]; omega
    · have k6 := w16_still (udS g).data.toList i j 6 (by omega)
      rw [← h, w6] at k6
      have hn : udN g ≠ 0 := udN_ne _ _ _
      rw [k6, if_neg (by omega)]
      have hz2 : udZ t = turnL (udZ (udS g)) i j := by
        unfold udZ
        rw [h, set_turn_other _ _ _ _ _ (by omega), set_turn_other _ _ _ _ _ (by omega)]
      have hzl : (udZ (udS g)).length = (udS g).size := by unfold udZ; simp
      have hne : udSum g.fa g.ta ⟨(udZ t).toArray⟩ ≠ udSum g.fa g.ta ⟨(udZ (udS g)).toArray⟩ := by
        refine udSum_mod _ _ _ _ ?_
        unfold udX
        have s1 : ((⟨(udZ t).toArray⟩ : ByteArray).size : Int) = ((⟨(udZ (udS g)).toArray⟩ : ByteArray).size : Int) := by
          show ((udZ t).toArray.size : Int) = ((udZ (udS g)).toArray.size : Int)
          rw [List.size_toArray, List.size_toArray, hz2, turnL_len]
        rw [s1]
        show sumZ (_ ++ udZ t) % 65535 ≠ sumZ (_ ++ udZ (udS g)) % 65535
        rw [hz2, turnL_app]
        exact tsumZ_mod _ _ _ (by rw [List.length_append]; omega) hj
      rw [hs] at hne
      rw [if_pos hne]; omega
end Go.Proofs.Ytpjcbjacdkobmaa
