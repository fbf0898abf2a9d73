/- The plain laws of packets and their bytes, one for one. -/
import Derived.Test.YtpjcbjacdkobmaaIpL
import Derived.Test.YtpjcbjacdkobmaaQMix
namespace Go.Proofs.Ytpjcbjacdkobmaa
open Go.RowKit
set_option linter.unusedVariables false

theorem calls_b {P : Program} {f : FuncId} {args : Array Value} {w : World} {v : Value} (h : Calls P f args w fun e w' => e = .returned v ∧ w = w') : Calls P f args w fun e w' => e = .returned v ∧ Below w.heap.size w w' :=
  h.mono fun _ _ ⟨h1, h2⟩ => ⟨h1, h2 ▸ Below.refl _ _⟩
theorem ls_byteL (l : List Int) (k : Nat) : ls (byteL l) k = (l[k]?.getD 0) % 256 := by
  unfold ls byteL
  rw [List.getElem?_map]
  cases h : l[k]? with
  | none => simp
  | some x =>
    simp only [Option.map_some, Option.getD_some]
    have := byte_of (x % 256) (by omega) (by omega)
    exact this
theorem ipS_size (p : Pk) : (ipS p).size = 20 + p.b.size := by
  show (ipS p).data.size = _
  rw [← Array.length_toList, ipS_list, List.length_append, ipHead_len, Array.length_toList]; rfl
/-- what a text that begins as a packet does reads as -/
structure HeadOf (p : Pk) (s : ByteArray) : Prop where
  b0 : bs s 0 = 69
  b1 : bs s 1 = 0
  all : w16 (bs s) 2 = 20 + p.b.size
  off : rdOff s = offZ p
  fit : fitsB (bs s) = true
  lim : offZ p < 32768
  pr : bs s 9 = p.pr
  tl : bs s 8 = p.tl
  id : w16 (bs s) 4 = p.id
  sA : w32 (bs s) 12 = p.s
  dA : w32 (bs s) 16 = p.d
theorem headOf (p : Pk) (s : ByteArray) (M : List UInt8) (ok : PkOk p) (hc : ipChk p = 0) (h : s.data.toList = byteL (ipHead p) ++ M) : HeadOf p s := by
  have hl := ipHead_len p
  have hb : ∀ k, k < 20 → bs s k = ((ipHead p)[k]?.getD 0) % 256 := fun k hk => by rw [bs_ls s _ M h k (by omega), ls_byteL]
  obtain ⟨⟨p1, p2⟩, ⟨t1, t2⟩, ⟨i1, i2⟩, ⟨o1, o2⟩, b1⟩ := ipChk_ok hc
  have hs := ok.s
  have hd := ok.d
  have hO : offZ p = p.off + bz p.df * 16384 + bz p.mf * 8192 := rfl
  have h0 : ∀ b, bz b = 0 ∨ bz b = 1 := fun b => by cases b <;> simp [bz]
  have hdf := h0 p.df
  have hmf := h0 p.mf
  refine ⟨?_, ?_, ?_, ?_, ?_, ?_, ?_, ?_, ?_, ?_, ?_⟩
  · rw [hb 0 (by omega)]; rfl
  · rw [hb 1 (by omega)]; rfl
  · unfold w16; rw [hb 2 (by omega), hb 3 (by omega)]
    show ((20 + (p.b.size : Int)) / 256) % 256 * 256 + (20 + (p.b.size : Int)) % 256 = _
    omega
  · unfold rdOff w16; rw [hb 6 (by omega), hb 7 (by omega)]
    show (offZ p / 256) % 256 * 256 + offZ p % 256 = _
    omega
  · rw [fitsB_is s _ M h hl]; simpa using ipFits p
  · omega
  · rw [hb 9 (by omega)]; show p.pr % 256 = _; omega
  · rw [hb 8 (by omega)]; show p.tl % 256 = _; omega
  · unfold w16; rw [hb 4 (by omega), hb 5 (by omega)]
    show (p.id / 256) % 256 * 256 + p.id % 256 = _
    omega
  · unfold w32 w16; rw [hb 12 (by omega), hb 13 (by omega), hb 14 (by omega), hb 15 (by omega)]
    show ((p.s / 16777216) % 256 * 256 + (p.s / 65536) % 256) * 65536 + ((p.s % 65536 / 256) % 256 * 256 + (p.s % 65536) % 256) = _
    omega
  · unfold w32 w16; rw [hb 16 (by omega), hb 17 (by omega), hb 18 (by omega), hb 19 (by omega)]
    show ((p.d / 16777216) % 256 * 256 + (p.d / 65536) % 256) * 65536 + ((p.d % 65536 / 256) % 256 * 256 + (p.d % 65536) % 256) = _
    omega
theorem bzd (x : Int) (h : x = 0 ∨ x = 1) (k : Int) (hk : 0 < k) (b : Bool) (hb : x = bz b) : decide (0 < x * k) = b := by
  subst hb
  cases b
  · simp [bz]
  · simp [bz, hk]
theorem rdPk_back (p : Pk) (s : ByteArray) (ok : PkOk p) (hc : ipChk p = 0) (h : HeadOf p s) (hb : s.extract 20 s.size = p.b) : rdPk s = p := by
  obtain ⟨_, _, _, ⟨o1, o2⟩, _⟩ := ipChk_ok hc
  have hO : offZ p = p.off + bz p.df * 16384 + bz p.mf * 8192 := rfl
  have h0 : ∀ b, bz b = 0 ∨ bz b = 1 := fun b => by cases b <;> simp [bz]
  have hdf := h0 p.df
  have hmf := h0 p.mf
  have e1 := bzd (rdOff s / 16384 % 2) (by omega) 16384 (by omega) p.df (by rw [h.off]; omega)
  have e2 := bzd (rdOff s / 8192 % 2) (by omega) 8192 (by omega) p.mf (by rw [h.off]; omega)
  have e3 : rdOff s % 8192 = p.off := by rw [h.off]; omega
  unfold rdPk
  rw [h.sA, h.dA, h.pr, h.tl, h.id, e1, e2, e3, hb]
theorem HeadOf.form {p : Pk} {s : ByteArray} (h : HeadOf p s) : ¬ (bs s 1 ≠ 0 ∨ 32768 ≤ rdOff s) := by
  have := h.b1; have := h.off; have := h.lim; omega
theorem rdErr_short (p : Pk) (s : ByteArray) (h : 20 ≤ s.size → HeadOf p s) (hs : s.size < 20 + p.b.size) : rdErr s = 3 := by
  unfold rdErr
  by_cases h20 : s.size < 20
  · rw [if_pos h20]
  · have h := h (by omega)
    rw [if_neg h20, if_neg (by rw [h.b0]; simp), if_neg h.form, if_pos (by rw [h.all]; omega)]
theorem rdErr_long (p : Pk) (s : ByteArray) (h : HeadOf p s) (hs : 20 + p.b.size < s.size) : rdErr s = 4 := by
  unfold rdErr
  rw [if_neg (by omega), if_neg (by rw [h.b0]; simp), if_neg h.form, if_neg (by rw [h.all]; omega), if_pos (by rw [h.all]; omega)]
theorem rdErr_whole (p : Pk) (s : ByteArray) (h : HeadOf p s) (hs : s.size = 20 + p.b.size) : rdErr s = ipChk (rdPk s) := by
  unfold rdErr
  rw [if_neg (by omega), if_neg (by rw [h.b0]; simp), if_neg h.form, if_neg (by rw [h.all]; omega), if_neg (by rw [h.all]; omega), if_neg (by rw [h.fit]; simp)]
theorem ipS_rest (p : Pk) : (ipS p).extract 20 (ipS p).size = p.b := by
  have h := ipHead_len p
  refine str_ext ?_
  rw [ByteArray.data_extract, Array.toList_extract, ipS_list, ipS_size]
  have : (p.b.data.toList).length = p.b.size := by simp
  simp [h]
  exact List.take_of_length_le (by omega)
theorem ip_back (p : Pk) (ok : PkOk p) (hc : ipChk p = 0) : rdErr (ipS p) = 0 ∧ rdPk (ipS p) = p := by
  have h := headOf p (ipS p) p.b.data.toList ok hc (ipS_list p)
  have h1 := rdPk_back p (ipS p) ok hc h (ipS_rest p)
  exact ⟨by rw [rdErr_whole p _ h (ipS_size p), h1, hc], h1⟩
theorem ip_less (p : Pk) (ok : PkOk p) (hc : ipChk p = 0) (k : Nat) (hk : k < (ipS p).size) : rdErr ((ipS p).extract 0 k) = 3 := by
  have hz := ipS_size p
  have hl := ipHead_len p
  have hsz : ((ipS p).extract 0 k).size = k := by rw [ByteArray.size_extract]; omega
  refine rdErr_short p _ (fun h20 => ?_) (by omega)
  refine headOf p _ ((p.b.data.toList).take (k - 20)) ok hc ?_
  rw [ByteArray.data_extract, Array.toList_extract, ipS_list]
  simp
  rw [List.take_append, hl, List.take_of_length_le (by omega)]
theorem ip_more (p : Pk) (ok : PkOk p) (hc : ipChk p = 0) (r : ByteArray) (hr : r.size ≠ 0) : rdErr (ipS p ++ r) = 4 := by
  have hz := ipS_size p
  refine rdErr_long p _ (headOf p _ (p.b.data.toList ++ r.data.toList) ok hc ?_) (by rw [ByteArray.size_append]; omega)
  rw [ByteArray.data_append, Array.toList_append, ipS_list, List.append_assoc]
/-- what is read is written as it was -/
theorem bare_back (s : ByteArray) (h0 : bs s 0 = 69) (h1 : bs s 1 = 0) (ho : rdOff s < 32768) (ha : w16 (bs s) 2 = (s.size : Int)) (hs : 20 ≤ s.size) : byteL (ipBare (rdPk s)) = byteL (bareB (bs s)) := by
  have hB := bs_ok s
  have hz : ((rdPk s).b.size : Int) = (s.size : Int) - 20 := by
    show ((s.extract 20 s.size).size : Int) = _
    rw [ByteArray.size_extract]; omega
  have hoz : offZ (rdPk s) = rdOff s := by
    have hr : 0 ≤ rdOff s ∧ rdOff s ≤ 65535 := w16_bd _ hB 6
    have hbz : ∀ (x k : Int), (x = 0 ∨ x = 1) → 0 < k → bz (decide (0 < x * k)) = x := by
      intro x k hx hk
      rcases hx with rfl | rfl
      · simp [bz]
      · simp [bz, hk]
    show rdOff s % 8192 + bz (decide (0 < rdOff s / 16384 % 2 * 16384)) * 16384 + bz (decide (0 < rdOff s / 8192 % 2 * 8192)) * 8192 = _
    rw [hbz _ _ (by omega) (by omega), hbz _ _ (by omega) (by omega)]
    omega
  have ho2 : rdOff s = bs s 6 * 256 + bs s 7 := rfl
  have ha2 : w16 (bs s) 2 = bs s 2 * 256 + bs s 3 := rfl
  have hid : (rdPk s).id = bs s 4 * 256 + bs s 5 := rfl
  have hss : (rdPk s).s = (bs s 12 * 256 + bs s 13) * 65536 + (bs s 14 * 256 + bs s 15) := rfl
  have hdd : (rdPk s).d = (bs s 16 * 256 + bs s 17) * 65536 + (bs s 18 * 256 + bs s 19) := rfl
  have hpr : (rdPk s).pr = bs s 9 := rfl
  have htl : (rdPk s).tl = bs s 8 := rfl
  have key : ∀ a b : Int, a % 256 = b % 256 → UInt8.ofNat (a % 256).toNat = UInt8.ofNat (b % 256).toNat := fun a b h => by rw [h]
  unfold byteL bareB
  apply List.ext_getElem?
  intro k
  by_cases hk : k < 20
  · rw [List.getElem?_map, List.getElem?_map, fnL_get _ _ _ hk]
    have b2 := hB 2; have b3 := hB 3; have b4 := hB 4; have b5 := hB 5; have b6 := hB 6; have b7 := hB 7; have b8' := hB 8; have b9 := hB 9
    have b12 := hB 12; have b13 := hB 13; have b14 := hB 14; have b15 := hB 15; have b16 := hB 16; have b17 := hB 17; have b18 := hB 18; have b19 := hB 19
    have hcase : k = 0 ∨ k = 1 ∨ k = 2 ∨ k = 3 ∨ k = 4 ∨ k = 5 ∨ k = 6 ∨ k = 7 ∨ k = 8 ∨ k = 9 ∨ k = 10 ∨ k = 11 ∨ k = 12 ∨ k = 13 ∨ k = 14 ∨ k = 15 ∨ k = 16 ∨ k = 17 ∨ k = 18 ∨ k = 19 := by omega
    unfold ipBare
    rw [hoz, hz, hid, hss, hdd, hpr, htl]
    clear hk
    rcases hcase with rfl | rfl | rfl | rfl | rfl | rfl | rfl | rfl | rfl | rfl | rfl | rfl | rfl | rfl | rfl | rfl | rfl | rfl | rfl | rfl <;>
      (simp only [List.getElem?_cons_zero, List.getElem?_cons_succ, Option.map_some]; congr 1; try (apply key; simp <;> omega))
  · rw [List.getElem?_eq_none (by simp [ipBare]; omega), List.getElem?_eq_none (by simp [fnL_len]; omega)]
theorem ip_again (s : ByteArray) (h : rdErr s = 0) : ipChk (rdPk s) = 0 ∧ ipS (rdPk s) = s := by
  have hB := bs_ok s
  unfold rdErr at h
  split at h
  · cases h
  rename_i h20
  split at h
  · cases h
  rename_i h0
  split at h
  · cases h
  rename_i h1
  split at h
  · cases h
  rename_i h2
  split at h
  · cases h
  rename_i h3
  split at h
  · cases h
  rename_i h4
  have h0 : bs s 0 = 69 := by omega
  have h1a : bs s 1 = 0 := by omega
  have hbare := bare_back s h0 h1a (by omega) (by omega) (by omega)
  refine ⟨h, str_ext ?_⟩
  have hfit : 65535 - sumZ (byteL (bareB (bs s))) = w16 (bs s) 10 := by
    have : fitsB (bs s) = true := by simpa using h4
    unfold fitsB at this
    simpa using this
  have hsum : ipSum (rdPk s) = w16 (bs s) 10 := by unfold ipSum; rw [hbare]; exact hfit
  rw [ipS_list]
  have hlen : s.data.toList.length = s.size := by simp
  have hsplit : s.data.toList = s.data.toList.take 20 ++ s.data.toList.drop 20 := (List.take_append_drop _ _).symm
  have hrest : (rdPk s).b.data.toList = s.data.toList.drop 20 := by
    show (s.extract 20 s.size).data.toList = _
    rw [ByteArray.data_extract, Array.toList_extract]
    simp
    refine List.take_of_length_le ?_
    rw [List.length_drop]; simp
  rw [hrest]
  refine Eq.trans (congrArg (· ++ s.data.toList.drop 20) ?_) hsplit.symm
  apply List.ext_getElem?
  intro k
  by_cases hk : k < 20
  · have hbk : s.data.toList[k]? = some (UInt8.ofNat (bs s k).toNat) := by
      rw [List.getElem?_eq_getElem (by omega)]
      unfold bs
      rw [← Array.getElem?_toList, List.getElem?_eq_getElem (by omega)]
      simp
    rw [List.getElem?_take, if_pos hk, hbk]
    unfold ipHead byteL
    rw [List.getElem?_map, List.getElem?_set, List.getElem?_set]
    have hbl : (ipBare (rdPk s)).length = 20 := rfl
    have b10 := hB 10
    have b11 := hB 11
    have bk := hB k
    have hw : w16 (bs s) 10 = bs s 10 * 256 + bs s 11 := rfl
    by_cases e1 : 11 = k
    · subst e1
      simp [hbl]
      rw [hsum, show w16 (bs s) 10 % 256 = bs s 11 by omega]
    · by_cases e0 : 10 = k
      · subst e0
        simp [hbl]
        rw [hsum, show w16 (bs s) 10 / 256 % 256 = bs s 10 by omega]
      · simp only [e1, e0, if_false]
        have h5 := congrArg (fun z => z[k]?) hbare
        simp only [byteL, List.getElem?_map, bareB] at h5
        rw [fnL_get _ _ _ hk, if_neg (by omega)] at h5
        rw [h5]
        simp
        rw [show bs s k % 256 = bs s k by omega]
  · rw [List.getElem?_eq_none (by rw [ipHead_len]; omega), List.getElem?_eq_none (by rw [List.length_take]; omega)]
end Go.Proofs.Ytpjcbjacdkobmaa
