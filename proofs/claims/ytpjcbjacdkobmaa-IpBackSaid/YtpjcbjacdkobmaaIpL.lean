/- The plain law of a turned bit in a packet's head. -/
import Derived.Test.YtpjcbjacdkobmaaIpD
import Derived.Test.YtpjcbjacdkobmaaTurned
import Derived.Test.YtpjcbjacdkobmaaSumP
namespace Go.Proofs.Ytpjcbjacdkobmaa
set_option linter.unusedVariables false

theorem isum_turn : ∀ (l : List UInt8) (i j : Nat), i < l.length → j < 8 → ∃ k : Nat, k < 16 ∧ (wsum (turnL l i j) = wsum l + ((2 ^ k : Nat) : Int) ∨ wsum (turnL l i j) + ((2 ^ k : Nat) : Int) = wsum l)
  | [], i, j, hi, _ => by simp at hi
  | [a], i, j, hi, hj => by
    have h0 : i = 0 := by simp at hi; exact hi
    subst h0
    refine ⟨j + 8, by omega, ?_⟩
    have e : (2 ^ (j + 8) : Nat) = 2 ^ j * 256 := by rw [Nat.pow_add]
    rw [e]
    simp only [turnL, List.modify_zero_cons, wsum]
    have := flipB_pm a j hj
    generalize 2 ^ j = p at *
    omega
  | a :: b :: r, 0, j, hi, hj => by
    refine ⟨j + 8, by omega, ?_⟩
    have e : (2 ^ (j + 8) : Nat) = 2 ^ j * 256 := by rw [Nat.pow_add]
    rw [e]
    simp only [turnL, List.modify_zero_cons, wsum]
    have := flipB_pm a j hj
    generalize 2 ^ j = p at *
    omega
  | a :: b :: r, 1, j, hi, hj => by
    refine ⟨j, by omega, ?_⟩
    simp only [turnL, List.modify_succ_cons, List.modify_zero_cons, wsum]
    have := flipB_pm b j hj
    generalize 2 ^ j = p at *
    omega
  | a :: b :: r, i + 2, j, hi, hj => by
    obtain ⟨k, hk, h⟩ := isum_turn r i j (by simp at hi; omega) hj
    refine ⟨k, hk, ?_⟩
    simp only [turnL, List.modify_succ_cons, wsum] at *
    omega
theorem ipow_16 : ∀ k : Fin 16, (2 ^ k.val : Nat) % 65535 ≠ 0 := by decide
theorem isumZ_turn (l : List UInt8) (i j : Nat) (hi : i < l.length) (hj : j < 8) : sumZ (turnL l i j) ≠ sumZ l := by
  obtain ⟨k, hk, h⟩ := isum_turn l i j hi hj
  have h1 := wsum_lo l
  have h2 := wsum_lo (turnL l i j)
  have h3 := foldZ_mod _ h1
  have h4 := foldZ_mod _ h2
  have h5 := ipow_16 ⟨k, hk⟩
  simp only at h5
  intro e
  unfold sumZ at e
  rw [e] at h4
  generalize 2 ^ k = p at *
  omega
/-- the head's bytes with the sum's two blanked -/
def blank (L : List UInt8) : List UInt8 := (L.set 10 0).set 11 0
theorem blank_len (L : List UInt8) : (blank L).length = L.length := by simp [blank]
/-- the head's bytes as integers -/
def ls (L : List UInt8) (k : Nat) : Int := ((L[k]?.getD 0).toNat : Int)
theorem ls_bd (L : List UInt8) (k : Nat) : 0 ≤ ls L k ∧ ls L k ≤ 255 := by unfold ls; have := (L[k]?.getD 0).toNat_lt; omega
theorem bs_ls (s : ByteArray) (L M : List UInt8) (h : s.data.toList = L ++ M) (k : Nat) (hk : k < L.length) : bs s k = ls L k := by
  unfold bs ls
  rw [← Array.getElem?_toList, h, List.getElem?_append_left hk]
theorem byteL_bare (s : ByteArray) (L M : List UInt8) (h : s.data.toList = L ++ M) (hl : L.length = 20) : byteL (bareB (bs s)) = blank L := by
  have h1 : (byteL (bareB (bs s))).length = 20 := by rw [byteL_len, bareB, fnL_len]
  refine List.ext_getElem (by rw [h1, blank_len, hl]) fun k hk hk' => ?_
  rw [h1] at hk
  have h2 : (bareB (bs s))[k]? = some (if k = 10 ∨ k = 11 then 0 else bs s k) := by rw [bareB]; exact fnL_get 20 _ k hk
  have h3 : (byteL (bareB (bs s)))[k]? = some (UInt8.ofNat ((if k = 10 ∨ k = 11 then 0 else bs s k) % 256).toNat) := by rw [byteL, List.getElem?_map, h2]; rfl
  apply Option.some.inj
  rw [← List.getElem?_eq_getElem, ← List.getElem?_eq_getElem, h3]
  unfold blank
  rw [List.getElem?_set, List.getElem?_set]
  by_cases e1 : 11 = k
  · subst e1; simp [hl]
  · by_cases e0 : 10 = k
    · subst e0; simp [hl]
    · have e : ¬ (k = 10 ∨ k = 11) := by omega
      rw [if_neg e, if_neg e1, if_neg e0, bs_ls s L M h k (by omega)]
      have h4 := ls_bd L k
      rw [show ls L k % 256 = ls L k by omega]
      unfold ls
      rw [List.getElem?_eq_getElem (by omega)]
      simp
theorem fitsB_is (s : ByteArray) (L M : List UInt8) (h : s.data.toList = L ++ M) (hl : L.length = 20) : fitsB (bs s) = (65535 - sumZ (blank L) == ls L 10 * 256 + ls L 11) := by
  unfold fitsB w16
  rw [byteL_bare s L M h hl, bs_ls s L M h 10 (by omega), bs_ls s L M h 11 (by omega)]
theorem ls_other (L : List UInt8) (i j k : Nat) (hne : k ≠ i) : ls (turnL L i j) k = ls L k := by
  unfold ls turnL; rw [List.getElem?_modify]; simp [Ne.symm hne]
theorem ls_same (L : List UInt8) (i j : Nat) (hi : i < L.length) (hj : j < 8) : ls (turnL L i j) i ≠ ls L i := by
  unfold ls turnL
  rw [List.getElem?_modify_eq, List.getElem?_eq_getElem hi]
  show ((flipB L[i] j).toNat : Int) ≠ (L[i].toNat : Int)
  have := flipB_pm L[i] j hj
  have hp := Nat.two_pow_pos j
  omega
theorem blank_turn (L : List UInt8) (i j : Nat) (h0 : i ≠ 10) (h1 : i ≠ 11) : blank (turnL L i j) = turnL (blank L) i j := by
  unfold blank turnL
  apply List.ext_getElem?
  intro k
  simp only [List.getElem?_set, List.getElem?_modify, List.length_modify, List.length_set]
  by_cases e1 : 11 = k
  · subst e1; simp [h1]
  · by_cases e0 : 10 = k
    · subst e0; simp [h0]
    · simp [e1, e0]
theorem blank_same (L : List UInt8) (i j : Nat) (h0 : i = 10 ∨ i = 11) : blank (turnL L i j) = blank L := by
  unfold blank turnL
  apply List.ext_getElem?
  intro k
  simp only [List.getElem?_set, List.getElem?_modify, List.length_modify, List.length_set]
  by_cases e1 : 11 = k
  · subst e1; simp
  · by_cases e0 : 10 = k
    · subst e0; simp
    · have : i ≠ k := by omega
      simp [e1, e0, this]
theorem fits_turn (L : List UInt8) (i j : Nat) (hl : L.length = 20) (hi : i < 20) (hj : j < 8) (h : 65535 - sumZ (blank L) = ls L 10 * 256 + ls L 11) :
    65535 - sumZ (blank (turnL L i j)) ≠ ls (turnL L i j) 10 * 256 + ls (turnL L i j) 11 := by
  by_cases e : i = 10 ∨ i = 11
  · rw [blank_same L i j e, h]
    have h1 := ls_same L i j (by omega) hj
    have b0 := ls_bd L 10
    have b1 := ls_bd L 11
    have c0 := ls_bd (turnL L i j) 10
    have c1 := ls_bd (turnL L i j) 11
    rcases e with e | e
    · subst e
      have h2 := ls_other L 10 j 11 (by omega)
      omega
    · subst e
      have h2 := ls_other L 11 j 10 (by omega)
      omega
  · have h1 := isumZ_turn (blank L) i j (by rw [blank_len]; omega) hj
    rw [blank_turn L i j (by omega) (by omega), ls_other L i j 10 (by omega), ls_other L i j 11 (by omega)]
    omega
theorem ipS_list (p : Pk) : (ipS p).data.toList = byteL (ipHead p) ++ p.b.data.toList := by
  rw [ipS, ByteArray.data_append, Array.toList_append, byteS_toList]
theorem ipHead_len (p : Pk) : (byteL (ipHead p)).length = 20 := by rw [byteL_len]; simp [ipHead, ipBare]
theorem blank_head (p : Pk) : blank (byteL (ipHead p)) = byteL (ipBare p) := by
  simp [blank, ipHead, ipBare, byteL]
theorem ipFits (p : Pk) : 65535 - sumZ (blank (byteL (ipHead p))) = ls (byteL (ipHead p)) 10 * 256 + ls (byteL (ipHead p)) 11 := by
  rw [blank_head]
  have h1 := sumZ_lo (byteL (ipBare p))
  have h2 := sumZ_hi (byteL (ipBare p))
  have h3 : ls (byteL (ipHead p)) 10 = ipSum p / 256 % 256 := by
    simp only [ls, byteL, ipHead, ipBare, List.set_cons_succ, List.set_cons_zero, List.map_cons, List.getElem?_cons_succ, List.getElem?_cons_zero, Option.getD_some]
    have := byte_of (ipSum p / 256 % 256) (by omega) (by omega)
    exact this
  have h4 : ls (byteL (ipHead p)) 11 = ipSum p % 256 := by
    simp only [ls, byteL, ipHead, ipBare, List.set_cons_succ, List.set_cons_zero, List.map_cons, List.getElem?_cons_succ, List.getElem?_cons_zero, Option.getD_some]
    have := byte_of (ipSum p % 256) (by omega) (by omega)
    exact this
  rw [h3, h4]
  unfold ipSum
  omega
/-- a turned packet is not read -/
theorem ip_turned (p : Pk) (s : ByteArray) (i j : Nat) (hi : i < 20) (hj : j < 8) (hs : s.data.toList = turnL (byteL (ipHead p)) i j ++ p.b.data.toList) : rdErr s ≠ 0 := by
  have hf := fitsB_is s _ _ hs (by rw [turnL_len]; exact ipHead_len p)
  have hn := fits_turn _ i j (ipHead_len p) hi hj (ipFits p)
  have hF : fitsB (bs s) = false := by rw [hf]; simpa using hn
  unfold rdErr
  rw [hF]
  simp
  repeat' split
  all_goals simp
end Go.Proofs.Ytpjcbjacdkobmaa
