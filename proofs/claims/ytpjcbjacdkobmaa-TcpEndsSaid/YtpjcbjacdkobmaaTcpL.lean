/- The plain laws of segments and their bytes. -/
import Derived.Test.YtpjcbjacdkobmaaTcpR
namespace Go.Proofs.Ytpjcbjacdkobmaa
set_option linter.unusedVariables false

theorem tcS_list (g : KSeg) : (tcS g).data.toList = byteL (tcL g) := rfl
def tcTop (g : KSeg) : List Int := [g.fp / 256, g.fp, g.tp / 256, g.tp, g.seq / 16777216, g.seq / 65536, g.seq % 65536 / 256, g.seq % 65536, g.ack / 16777216, g.ack / 65536, g.ack % 65536 / 256, g.ack % 65536, tcOff g, tcFl g, g.win / 256, g.win, tcN g / 256, tcN g, 0, 0]
theorem tcL_form (g : KSeg) : tcL g = tcTop g ++ (tcOpt g ++ sI g.b) := by
  unfold tcL tcBare tcHead
  rw [List.append_assoc]
  rfl
theorem tcBare_form (g : KSeg) : tcBare g = tcFix g (tcOff g) ++ (tcOpt g ++ sI g.b) := by
  unfold tcBare tcHead
  rw [List.append_assoc]
theorem tcS_size (g : KSeg) : (tcS g).size = 20 + (tcOpt g).length + g.b.size := by
  unfold tcS
  rw [byteS_sz, tcL_form, List.length_append, List.length_append, sI_len]
  show 20 + _ = _
  omega
theorem tz_S (g : KSeg) (M : List UInt8) (t : ByteArray) (h : t.data.toList = byteL (tcL g) ++ M) : tz t = byteL (tcBare g) ++ M := by
  unfold tz
  rw [h, tcL_form, tcBare_form]
  simp only [byteL_app, List.append_assoc]
  rfl
/-- what a text that begins as a segment does reads as -/
structure SegOf (g : KSeg) (t : ByteArray) : Prop where
  fp : w16 (lb (tz t)) 0 = g.fp
  tp : w16 (lb (tz t)) 2 = g.tp
  seq : w32 (lb (tz t)) 4 = g.seq
  ack : w32 (lb (tz t)) 8 = g.ack
  off : lb (tz t) 12 = tcOff g
  fl : lb (tz t) 13 = tcFl g
  win : w16 (lb (tz t)) 14 = g.win
  n16 : w16 (lb t.data.toList) 16 = tcN g
  z18 : lb (tz t) 18 = 0
  z19 : lb (tz t) 19 = 0
theorem segOf (g : KSeg) (ok : SegOk g) (hc : tcChk g = 0) (M : List UInt8) (t : ByteArray) (h : t.data.toList = byteL (tcL g) ++ M) : SegOf g t := by
  obtain ⟨⟨f1, f2⟩, ⟨t1, t2⟩, ⟨w1, w2⟩, ⟨m1, m2⟩, _, b1⟩ := tcChk_ok hc
  have hs := ok.seq
  have ha := ok.ack
  have hfl := tcFl_bd g
  have hn : 0 ≤ tcN g ∧ tcN g ≤ 65535 := tcSum_bd _ _ _
  have hoff : tcOff g = 80 ∨ tcOff g = 96 := by unfold tcOff; split <;> simp
  have hz := tz_S g M t h
  have hb : ∀ k, k < 20 → lb (tz t) k = ((tcFix g (tcOff g))[k]?.getD 0) % 256 := fun k hk => by
    rw [hz, tcBare_form, byteL_app, List.append_assoc, lb_byteL _ _ k (by simpa [tcFix] using hk)]
  have ht : ∀ k, k < 20 → lb t.data.toList k = ((tcTop g)[k]?.getD 0) % 256 := fun k hk => by
    rw [h, tcL_form, byteL_app, List.append_assoc, lb_byteL _ _ k (by simpa [tcTop] using hk)]
  refine ⟨?_, ?_, ?_, ?_, ?_, ?_, ?_, ?_, ?_, ?_⟩
  · unfold w16; rw [hb 0 (by omega), hb 1 (by omega)]; show g.fp / 256 % 256 * 256 + g.fp % 256 = _; omega
  · unfold w16; rw [hb 2 (by omega), hb 3 (by omega)]; show g.tp / 256 % 256 * 256 + g.tp % 256 = _; omega
  · unfold w32 w16; rw [hb 4 (by omega), hb 5 (by omega), hb 6 (by omega), hb 7 (by omega)]
    show (g.seq / 16777216 % 256 * 256 + g.seq / 65536 % 256) * 65536 + (g.seq % 65536 / 256 % 256 * 256 + g.seq % 65536 % 256) = _
    omega
  · unfold w32 w16; rw [hb 8 (by omega), hb 9 (by omega), hb 10 (by omega), hb 11 (by omega)]
    show (g.ack / 16777216 % 256 * 256 + g.ack / 65536 % 256) * 65536 + (g.ack % 65536 / 256 % 256 * 256 + g.ack % 65536 % 256) = _
    omega
  · rw [hb 12 (by omega)]; show tcOff g % 256 = _; omega
  · rw [hb 13 (by omega)]; show tcFl g % 256 = _; omega
  · unfold w16; rw [hb 14 (by omega), hb 15 (by omega)]; show g.win / 256 % 256 * 256 + g.win % 256 = _; omega
  · unfold w16; rw [ht 16 (by omega), ht 17 (by omega)]; show tcN g / 256 % 256 * 256 + tcN g % 256 = _; omega
  · rw [hb 18 (by omega)]; rfl
  · rw [hb 19 (by omega)]; rfl
theorem fl_bits (a b c d : Bool) : decide (0 < (zb a 1 + zb b 2 + zb c 4 + zb d 16) % 2) = a ∧ decide (0 < (zb a 1 + zb b 2 + zb c 4 + zb d 16) / 2 % 2 * 2) = b ∧ decide (0 < (zb a 1 + zb b 2 + zb c 4 + zb d 16) / 4 % 2 * 4) = c ∧ decide (0 < (zb a 1 + zb b 2 + zb c 4 + zb d 16) / 16 % 2 * 16) = d := by
  cases a <;> cases b <;> cases c <;> cases d <;> decide
theorem opt_S (g : KSeg) (hm : 0 ≤ g.mss ∧ g.mss ≤ 65535) : optR (byteL (tcOpt g)).length (byteL (tcOpt g)) 0 = (0, g.mss) := by
  unfold tcOpt
  by_cases h : g.mss = 0
  · rw [if_pos h, h]; rfl
  · rw [if_neg h]
    have e : byteL [2, 4, g.mss / 256, g.mss] = [2, 4, UInt8.ofNat (g.mss / 256 % 256).toNat, UInt8.ofNat (g.mss % 256).toNat] := rfl
    rw [e]
    simp only [List.length_cons, List.length_nil, optR]
    have h1 : (UInt8.ofNat (g.mss / 256 % 256).toNat).toNat = (g.mss / 256 % 256).toNat := by rw [UInt8.toNat_ofNat']; omega
    have h2 : (UInt8.ofNat (g.mss % 256).toNat).toNat = (g.mss % 256).toNat := by rw [UInt8.toNat_ofNat']; omega
    simp [lb, w16, h1, h2, optR]
    omega
theorem tcOpt_len (g : KSeg) : ((tcOff g / 16 * 4 : Int)) = 20 + ((tcOpt g).length : Int) := by
  unfold tcOff tcOpt
  split <;> rfl
theorem tc_back (g : KSeg) (ok : SegOk g) (hc : tcChk g = 0) : tcErr g.fa g.ta (tcS g) = 0 ∧ tcR g.fa g.ta (tcS g) = g := by
  have h0 : (tcS g).data.toList = byteL (tcL g) ++ [] := by rw [List.append_nil]; rfl
  have h := segOf g ok hc [] _ h0
  have hz := tcS_size g
  have hZ := tz_S g [] _ h0
  rw [List.append_nil] at hZ
  obtain ⟨_, _, _, hm, _, b1⟩ := tcChk_ok hc
  have hol := tcOpt_len g
  have hto : tcTo (tcS g) = 20 + ((tcOpt g).length : Int) := by unfold tcTo; rw [h.off, hol]
  have htn : (tcTo (tcS g)).toNat = 20 + (tcOpt g).length := by rw [hto]; omega
  have hop : tcOpts (tcS g) = byteL (tcOpt g) := by
    unfold tcOpts
    rw [htn, hZ, tcBare_form]
    rw [byteL_app, byteL_app]
    rw [List.drop_left' (by rw [byteL_len]; rfl)]
    exact List.take_left' (by rw [byteL_len]; omega)
  have hor : tcOR (tcS g) = (0, g.mss) := by unfold tcOR; rw [hop]; exact opt_S g hm
  have hb : (tcS g).extract (tcTo (tcS g)).toNat (tcS g).size = g.b := by
    refine str_ext ?_
    rw [ByteArray.data_extract, Array.toList_extract, tcS_list, hz, htn, tcL_form]
    rw [byteL_app, byteL_app, sI_byteL]
    have e1 : (byteL (tcTop g) ++ (byteL (tcOpt g) ++ g.b.data.toList)).drop (20 + (tcOpt g).length) = g.b.data.toList := by
      rw [← List.append_assoc, List.drop_left' (by rw [List.length_append, byteL_len, byteL_len]; rfl)]
    rw [List.extract_eq_take_drop, e1]
    refine List.take_of_length_le ?_
    have : (g.b.data.toList).length = g.b.size := by simp
    omega
  have hfl : tcFl g = zb g.fin 1 + zb g.syn 2 + zb g.rst 4 + zb g.has 16 := rfl
  obtain ⟨q0, q1, q2, q4⟩ := fl_bits g.fin g.syn g.rst g.has
  rw [← hfl] at q0 q1 q2 q4
  have hR : tcR g.fa g.ta (tcS g) = g := by
    unfold tcR tcR0
    rw [h.fp, h.tp, h.seq, h.ack, h.fl, h.win, hb, hor, q0, q1, q2, q4]
  refine ⟨?_, hR⟩
  unfold tcErr
  have hs : tcSum g.fa g.ta ⟨(tz (tcS g)).toArray⟩ = tcN g := by rw [hZ]; rfl
  have hf := tcFl_bd g
  have ho : tcOff g % 16 = 0 := by unfold tcOff; split <;> rfl
  rw [h.off, h.fl, h.z18, h.z19, h.n16, hs, hor, hR, hc, hto]
  rw [if_neg (by omega), if_neg (by omega), if_neg (by omega), if_neg (by simp), if_neg (by omega), if_neg (by simp)]
/-- what is read is a segment -/
theorem tc_read (s d : Int) (t : ByteArray) (h : tcErr s d t = 0) : tcChk (tcR s d t) = 0 := by
  unfold tcErr at h
  split at h
  · cases h
  split at h
  · cases h
  split at h
  · cases h
  split at h
  · cases h
  split at h
  · cases h
  split at h
  · rename_i h1; exact absurd h h1
  · exact h
theorem tz_len (t : ByteArray) : (tz t).length = t.size := by unfold tz; simp
theorem tcSum_turn (s d : Int) (t : ByteArray) (i j : Nat) (hi : i < (tz t).length) (hj : j < 8) (t' : ByteArray) (h : tz t' = turnL (tz t) i j) : tcSum s d ⟨(tz t').toArray⟩ ≠ tcSum s d ⟨(tz t).toArray⟩ := by
  unfold tcSum tcX
  have s1 : ((⟨(tz t').toArray⟩ : ByteArray).size : Int) = ((⟨(tz t).toArray⟩ : ByteArray).size : Int) := by
    show ((tz t').toArray.size : Int) = ((tz t).toArray.size : Int)
    rw [List.size_toArray, List.size_toArray, h, turnL_len]
  rw [s1]
  have key : sumZ (byteL (pseuL s d 6 ((⟨(tz t).toArray⟩ : ByteArray).size : Int)) ++ tz t') % 65535 ≠ sumZ (byteL (pseuL s d 6 ((⟨(tz t).toArray⟩ : ByteArray).size : Int)) ++ tz t) % 65535 := by
    rw [h, turnL_app]
    exact tsumZ_mod _ _ _ (by rw [List.length_append]; omega) hj
  intro e
  apply key
  have e2 : sumZ (byteL (pseuL s d 6 ((⟨(tz t).toArray⟩ : ByteArray).size : Int)) ++ tz t') = sumZ (byteL (pseuL s d 6 ((⟨(tz t).toArray⟩ : ByteArray).size : Int)) ++ tz t) := by
    have e3 : 65535 - sumZ (byteL (pseuL s d 6 ((⟨(tz t).toArray⟩ : ByteArray).size : Int)) ++ tz t') = 65535 - sumZ (byteL (pseuL s d 6 ((⟨(tz t).toArray⟩ : ByteArray).size : Int)) ++ tz t) := e
    omega
  rw [e2]
/-- a turned segment is not read -/
theorem tc_turned (g : KSeg) (ok : SegOk g) (hc : tcChk g = 0) (i j : Nat) (hi : i < (tcS g).size) (hj : j < 8) (t : ByteArray) (h : t.data.toList = turnL (tcS g).data.toList i j) : tcErr g.fa g.ta t ≠ 0 := by
  have h0 : (tcS g).data.toList = byteL (tcL g) ++ [] := by rw [List.append_nil]; rfl
  have hS := segOf g ok hc [] _ h0
  have hz := tcS_size g
  have hZ := tz_S g [] _ h0
  rw [List.append_nil] at hZ
  have hs : tcSum g.fa g.ta ⟨(tz (tcS g)).toArray⟩ = tcN g := by rw [hZ]; rfl
  have hlen : (tcS g).data.toList.length = (tcS g).size := by simp
  have hts : t.size = (tcS g).size := by
    have := congrArg List.length h
    rw [turnL_len] at this
    simpa using this
  have hne : tcSum g.fa g.ta ⟨(tz t).toArray⟩ ≠ w16 (lb t.data.toList) 16 := by
    by_cases e6 : i = 16 ∨ i = 17
    · have hw := w16_turn (tcS g).data.toList i j 16 (by omega) hj (by omega)
      rw [← h, hS.n16] at hw
      have hz2 : tz t = tz (tcS g) := by
        unfold tz
        rw [h]
        rcases e6 with rfl | rfl
        · rw [set_turn_same]
        · rw [set_turn_other _ _ _ _ _ (by omega), set_turn_same]
      rw [hz2, hs]
      exact fun e => hw e.symm
    · have hw := w16_still (tcS g).data.toList i j 16 (by omega)
      rw [← h, hS.n16] at hw
      have hz2 : tz t = turnL (tz (tcS g)) i j := by
        unfold tz
        rw [h, set_turn_other _ _ _ _ _ (by omega), set_turn_other _ _ _ _ _ (by omega)]
      have := tcSum_turn g.fa g.ta (tcS g) i j (by rw [tz_len]; exact hi) hj t hz2
      rw [hs] at this
      rw [hw]
      exact this
  unfold tcErr
  rw [if_neg (by omega)]
  split
  · omega
  split
  · omega
  omega
/-- what a text that is a segment between other ends reads as -/
theorem tc_ends (g : KSeg) (ok : SegOk g) (hc : tcChk g = 0) (s d : Int) :
    tcErr s d (tcS g) = (if tcSum s d ⟨(tz (tcS g)).toArray⟩ ≠ tcN g then 5 else tcChk (tcR s d (tcS g))) ∧ (tcR s d (tcS g)).b = g.b ∧ (tcR s d (tcS g)).fa = s ∧ (tcR s d (tcS g)).ta = d := by
  have h0 : (tcS g).data.toList = byteL (tcL g) ++ [] := by rw [List.append_nil]; rfl
  have h := segOf g ok hc [] _ h0
  have hz := tcS_size g
  obtain ⟨h1, h2⟩ := tc_back g ok hc
  have hol := tcOpt_len g
  have hto : tcTo (tcS g) = 20 + ((tcOpt g).length : Int) := by unfold tcTo; rw [h.off, hol]
  have hf := tcFl_bd g
  have ho : tcOff g % 16 = 0 := by unfold tcOff; split <;> rfl
  have hb : (tcR g.fa g.ta (tcS g)).b = g.b := by rw [h2]
  have hor : (tcOR (tcS g)).1 = 0 := by
    by_cases e : (tcOR (tcS g)).1 = 0
    · exact e
    · exfalso
      have hs : tcSum g.fa g.ta ⟨(tz (tcS g)).toArray⟩ = tcN g := by
        have hZ := tz_S g [] _ h0
        rw [List.append_nil] at hZ
        rw [hZ]; rfl
      unfold tcErr at h1
      rw [h.off, h.fl, h.z18, h.z19, h.n16, hs, hto, if_neg (by omega), if_neg (by omega), if_neg (by omega), if_neg (by simp), if_neg (by omega), if_pos e] at h1
      exact e h1
  refine ⟨?_, hb, rfl, rfl⟩
  unfold tcErr
  rw [h.off, h.fl, h.z18, h.z19, h.n16, hto, if_neg (by omega), if_neg (by omega), if_neg (by omega)]
  by_cases e : tcSum s d ⟨(tz (tcS g)).toArray⟩ ≠ tcN g
  · rw [if_pos e, if_pos e]
  · rw [if_neg e, if_neg e, if_neg (by omega), if_neg (by rw [hor]; simp)]
end Go.Proofs.Ytpjcbjacdkobmaa
