/- addr: what a text of an address is, and what is read of one (plain). -/
import Derived.Lib.IndexMore
import Derived.Lib.ItoaNum
import Derived.Lib.AtoiAll
import Derived.Lib.ParseIntB
namespace Go.Proofs.YtamckbjckgpniaaDoor
open Go.Lib
set_option linter.unusedVariables false
set_option linter.unusedSimpArgs false

/-- the pieces between dots -/
def pcs : List UInt8 → List (List UInt8)
  | [] => [[]]
  | c :: r => if c = 46 then [] :: pcs r else match pcs r with
    | [] => [[c]]
    | p :: ps => (c :: p) :: ps
theorem pcs_ne (l : List UInt8) : pcs l ≠ [] := by
  cases l with
  | nil => simp [pcs]
  | cons c r =>
    unfold pcs
    split
    · simp
    · cases pcs r <;> simp
theorem index_one (c : UInt8) (r : List UInt8) (d : UInt8) : index (c :: r) [d] = if c = d then 0 else if index r [d] = -1 then -1 else index r [d] + 1 := by
  have e : index (c :: r) [d] = if [d].isPrefixOf (c :: r) then 0 else if index r [d] == -1 then -1 else index r [d] + 1 := rfl
  rw [e]
  have h1 : ([d].isPrefixOf (c :: r) = true) ↔ c = d := by
    simp [List.isPrefixOf]
    exact eq_comm
  by_cases hc : c = d
  · rw [if_pos (h1.2 hc), if_pos hc]
  · rw [if_neg (fun h => hc (h1.1 h)), if_neg hc]
    by_cases h2 : index r [d] = -1
    · rw [if_pos (beq_iff_eq.2 h2), if_pos h2]
    · rw [if_neg (fun h => h2 (beq_iff_eq.1 h)), if_neg h2]
theorem pcs_none : ∀ {l : List UInt8}, index l [46] = -1 → pcs l = [l]
  | [], _ => rfl
  | c :: r, h => by
    rw [index_one] at h
    by_cases hc : c = 46
    · rw [if_pos hc] at h; cases h
    · rw [if_neg hc] at h
      have h2 : index r [46] = -1 := by
        by_cases h2 : index r [46] = -1
        · exact h2
        · rw [if_neg h2] at h
          have := index_ge r [46]
          omega
      unfold pcs
      rw [if_neg hc, pcs_none h2]
theorem pcs_some : ∀ {l : List UInt8} {i : Nat}, index l [46] = i → pcs l = l.take i :: pcs (l.drop (i + 1)) ∧ i < l.length
  | [], i, h => by
    have e : index [] [46] = -1 := rfl
    rw [e] at h; omega
  | c :: r, i, h => by
    rw [index_one] at h
    by_cases hc : c = 46
    · rw [if_pos hc] at h
      obtain rfl : i = 0 := by omega
      refine ⟨?_, Nat.succ_pos _⟩
      conv => lhs; unfold pcs
      rw [if_pos hc]
      rfl
    · rw [if_neg hc] at h
      by_cases h2 : index r [46] = -1
      · rw [if_pos h2] at h; omega
      · rw [if_neg h2] at h
        cases i with
        | zero => have := index_ge r [46]; omega
        | succ i =>
          obtain ⟨e, hl⟩ := pcs_some (l := r) (i := i) (by omega)
          refine ⟨?_, Nat.succ_lt_succ hl⟩
          conv => lhs; unfold pcs
          rw [if_neg hc, e]
          rfl
/-- a piece's number -/
def oct (p : List UInt8) : Option Nat := match parseUintB 8 p with
  | .ok n => some n
  | _ => none
/-- what all pieces say together -/
def fold4 : List (List UInt8) → Int → Option Int
  | [], a => some a
  | p :: ps, a => match oct p with
    | none => none
    | some n => fold4 ps ((a * 256) % 4294967296 + n)
def dd (n : Int) : List UInt8 := decDigits n.toNat
/-- the text of an address -/
def prt (a : Int) : List UInt8 := dd (a / 16777216 % 256) ++ 46 :: (dd (a / 65536 % 256) ++ 46 :: (dd (a / 256 % 256) ++ 46 :: dd (a % 256)))
theorem dig_bd : ∀ (u : Nat) (c : UInt8), c ∈ decDigits u → 48 ≤ c.toNat ∧ c.toNat ≤ 57 := by
  intro u
  induction u using Nat.strongRecOn with
  | ind u ih =>
    intro c hc
    rw [decDigits] at hc
    split at hc
    · rename_i h
      rw [List.mem_singleton] at hc
      subst hc
      have : (UInt8.ofNat (48 + u)).toNat = 48 + u := by
        rw [UInt8.toNat_ofNat']
        omega
      omega
    · rename_i h
      rcases List.mem_append.1 hc with h1 | h1
      · exact ih (u / 10) (by omega) c h1
      · rw [List.mem_singleton] at h1
        subst h1
        have : (UInt8.ofNat (48 + u % 10)).toNat = 48 + u % 10 := by
          rw [UInt8.toNat_ofNat']
          omega
        omega
theorem dig_ne (u : Nat) : decDigits u ≠ [] := by
  rw [decDigits]
  split <;> simp
theorem pm_app (M : Nat) (c : UInt8) : ∀ (l : List UInt8) (a : Nat), parseUintM M a (l ++ [c]) = match parseUintM M a l with
    | .ok v => parseUintM M v [c]
    | .syntax => .syntax
    | .range => .range
  | [], a => rfl
  | d :: l, a => by
    rw [List.cons_append]
    unfold parseUintM
    split
    · split
      · rfl
      · split
        · rfl
        · exact pm_app M c l _
    · rfl
theorem pm_dig (M : Nat) (hM : M < 1000000) : ∀ (u : Nat), u ≤ M → parseUintM M 0 (decDigits u) = .ok u := by
  intro u
  induction u using Nat.strongRecOn with
  | ind u ih =>
    intro hu
    rw [decDigits]
    split
    · rename_i h
      have e : (UInt8.ofNat (48 + u)).toNat = 48 + u := by rw [UInt8.toNat_ofNat']; omega
      unfold parseUintM
      rw [e, if_pos ⟨by omega, by omega⟩, if_neg (by omega), if_neg (by omega)]
      unfold parseUintM
      congr 1; omega
    · rename_i h
      have e : (UInt8.ofNat (48 + u % 10)).toNat = 48 + u % 10 := by rw [UInt8.toNat_ofNat']; omega
      rw [pm_app, ih (u / 10) (by omega) (by omega)]
      show parseUintM M (u / 10) [UInt8.ofNat (48 + u % 10)] = _
      unfold parseUintM
      rw [e, if_pos ⟨by omega, by omega⟩, if_neg (by omega), if_neg (by omega)]
      unfold parseUintM
      congr 1; omega
theorem oct_dig (n : Int) (h : 0 ≤ n ∧ n ≤ 255) : oct (dd n) = some n.toNat := by
  unfold oct parseUintB dd
  rw [if_neg (dig_ne _), show (2 : Nat) ^ 8 - 1 = 255 from rfl, pm_dig 255 (by decide) _ (by omega)]
theorem pcs_app : ∀ (p r : List UInt8), (∀ c ∈ p, c ≠ 46) → pcs (p ++ 46 :: r) = p :: pcs r
  | [], r, _ => by
    show pcs (46 :: r) = _
    conv => lhs; unfold pcs
    rw [if_pos rfl]
  | c :: p, r, h => by
    have ih := pcs_app p r (fun d hd => h d (List.mem_cons_of_mem _ hd))
    rw [List.cons_append]
    conv => lhs; unfold pcs
    rw [if_neg (h c (List.mem_cons_self ..)), ih]
theorem pcs_all : ∀ (p : List UInt8), (∀ c ∈ p, c ≠ 46) → pcs p = [p]
  | [], _ => rfl
  | c :: p, h => by
    have ih := pcs_all p (fun d hd => h d (List.mem_cons_of_mem _ hd))
    unfold pcs
    rw [if_neg (h c (List.mem_cons_self ..)), ih]
theorem dd_ne (n : Int) (x : UInt8) (hx : x.toNat < 48 ∨ 57 < x.toNat) : ∀ c ∈ dd n, c ≠ x := by
  intro c hc e
  have := dig_bd _ c hc
  subst e
  omega
theorem fold_prt (a : Int) (h : 0 ≤ a ∧ a ≤ 4294967295) : fold4 (pcs (prt a)) 0 = some a := by
  unfold prt
  rw [pcs_app _ _ (dd_ne _ 46 (.inl (by decide))), pcs_app _ _ (dd_ne _ 46 (.inl (by decide))), pcs_app _ _ (dd_ne _ 46 (.inl (by decide))), pcs_all _ (dd_ne _ 46 (.inl (by decide)))]
  unfold fold4; rw [oct_dig _ (by omega)]; dsimp only
  unfold fold4; rw [oct_dig _ (by omega)]; dsimp only
  unfold fold4; rw [oct_dig _ (by omega)]; dsimp only
  unfold fold4; rw [oct_dig _ (by omega)]; dsimp only
  unfold fold4
  congr 1; omega
/-- what Parse answers -/
def prs (l : List UInt8) : Int × Int := match fold4 (pcs l) 0 with
  | none => (0, 4)
  | some c => if prt c = l then (c, 0) else (0, 4)
theorem prs_prt (a : Int) (h : 0 ≤ a ∧ a ≤ 4294967295) : prs (prt a) = (a, 0) := by
  unfold prs
  rw [fold_prt a h]
  exact if_pos rfl
theorem prs_or (l : List UInt8) : (∃ c, fold4 (pcs l) 0 = some c ∧ prs l = (c, 0) ∧ prt c = l) ∨ prs l = (0, 4) := by
  unfold prs
  cases h : fold4 (pcs l) 0 with
  | none => exact .inr rfl
  | some c =>
    dsimp only
    by_cases hc : prt c = l
    · rw [if_pos hc]; exact .inl ⟨c, rfl, rfl, hc⟩
    · rw [if_neg hc]; exact .inr rfl
theorem pm_bd (M : Nat) : ∀ (l : List UInt8) (a n : Nat), a ≤ M → parseUintM M a l = .ok n → n ≤ M
  | [], a, n, h, e => by
    unfold parseUintM at e
    injection e with e; subst e; exact h
  | c :: r, a, n, h, e => by
    unfold parseUintM at e
    split at e
    · split at e
      · cases e
      · split at e
        · cases e
        · exact pm_bd M r _ n (by omega) e
    · cases e
theorem oct_bd {p : List UInt8} {n : Nat} (h : oct p = some n) : n ≤ 255 := by
  unfold oct parseUintB at h
  split at h
  · rename_i m hm
    split at hm
    · cases hm
    · injection h with h; subst h
      exact pm_bd 255 p 0 m (by omega) hm
  · cases h
theorem fold_bd : ∀ (ps : List (List UInt8)) (a : Int), 0 ≤ a ∧ a ≤ 4294967295 → ∀ c, fold4 ps a = some c → 0 ≤ c ∧ c ≤ 4294967295
  | [], a, h, c, e => by
    unfold fold4 at e
    injection e with e; subst e; exact h
  | p :: ps, a, h, c, e => by
    unfold fold4 at e
    cases ho : oct p with
    | none => rw [ho] at e; cases e
    | some n =>
      rw [ho] at e
      have hn : n ≤ 255 := oct_bd ho
      exact fold_bd ps _ (by omega) c e
theorem prs_bd (l : List UInt8) : 0 ≤ (prs l).1 ∧ (prs l).1 ≤ 4294967295 := by
  rcases prs_or l with ⟨c, h1, h2, _⟩ | h2
  · rw [h2]; exact fold_bd _ 0 (by decide) c h1
  · rw [h2]; exact ⟨by decide, by decide⟩
/-- a text cut in two -/
theorem index_app (d : UInt8) : ∀ (p r : List UInt8), (∀ c ∈ p, c ≠ d) → index (p ++ d :: r) [d] = p.length
  | [], r, _ => by
    show index (d :: r) [d] = _
    rw [index_one, if_pos rfl]; rfl
  | c :: p, r, h => by
    have ih := index_app d p r (fun x hx => h x (List.mem_cons_of_mem _ hx))
    rw [List.cons_append, index_one, if_neg (h c (List.mem_cons_self ..)), ih, if_neg (by omega), List.length_cons]
    omega
theorem cut_app (d : UInt8) (p r : List UInt8) (h : ∀ c ∈ p, c ≠ d) : cut (p ++ d :: r) [d] = (p, r, true) := by
  unfold cut
  rw [index_app d p r h, if_pos (by omega)]
  simp
def d2 (n : Nat) : List UInt8 := if n < 10 then [UInt8.ofNat (48 + n)] else [UInt8.ofNat (48 + n / 10), UInt8.ofNat (48 + n % 10)]
theorem d2_is {n : Nat} (h : n < 100) : decDigits n = d2 n := by
  unfold d2
  by_cases h1 : n < 10
  · rw [if_pos h1, decDigits_one h1]
  · rw [if_neg h1, decDigits_two h1 h]
theorem d2_atoi : ∀ n : Fin 33, (match atoiAll (d2 n.1) with
    | .ok v => decide (v = (n.1 : Int))
    | _ => false) = true := by decide
theorem atoi_itoa (n : Int) (h : 0 ≤ n ∧ n ≤ 32) : atoiAll (itoa n) = .ok n := by
  unfold itoa
  rw [if_neg (by omega), d2_is (by omega)]
  have h2 := d2_atoi ⟨n.toNat, by omega⟩
  dsimp only at h2
  split at h2
  · rename_i v hv
    rw [hv, of_decide_eq_true h2]
    congr 1; omega
  · cases h2
/-- what Atoi hands back, error or not -/
def atN (l : List UInt8) : Int := match atoiAll l with
  | .ok v => v
  | .syntax => 0
  | .range => atoiSat l
def atB (l : List UInt8) : Bool := match atoiAll l with
  | .ok _ => true
  | _ => false
theorem prt_ne (a : Int) (x : UInt8) (hx : x.toNat < 46 ∨ x.toNat = 47 ∨ 57 < x.toNat) : ∀ c ∈ prt a, c ≠ x := by
  intro c hc
  have h46 : (46 : UInt8) ≠ x := by intro e; subst e; revert hx; decide
  have hd : x.toNat < 48 ∨ 57 < x.toNat := by omega
  unfold prt at hc
  simp only [List.mem_append, List.mem_cons] at hc
  rcases hc with h | h | h | h | h | h | h
  · exact dd_ne _ x hd c h
  · rw [h]; exact h46
  · exact dd_ne _ x hd c h
  · rw [h]; exact h46
  · exact dd_ne _ x hd c h
  · rw [h]; exact h46
  · exact dd_ne _ x hd c h
end Go.Proofs.YtamckbjckgpniaaDoor
