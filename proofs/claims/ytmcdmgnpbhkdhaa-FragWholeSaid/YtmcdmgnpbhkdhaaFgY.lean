/- frag: the fragments of one packet come (plain). -/
import Derived.Test.YtmcdmgnpbhkdhaaFgV
import Derived.Test.YtmcdmgnpbhkdhaaFragC
import Derived.Test.YtmcdmgnpbhkdhaaFgN
namespace Go.Proofs.Ytmcdmgnpbhkdhaa
open Go.RowKit Go.Lib
set_option linter.unusedVariables false
set_option linter.unusedSimpArgs false

/-- the entry of that name -/
def stAt (es : List FE) (k : KNm) : Option FW := (es.find? (fun e => decide (e.k = k))).map (·.f)
theorem stAt_nil (k : KNm) : stAt [] k = none := rfl
theorem stAt_cons (a : FE) (t : List FE) (k : KNm) : stAt (a :: t) k = if a.k = k then some a.f else stAt t k := by
  unfold stAt
  rw [List.find?_cons]
  by_cases h : a.k = k
  · simp [h]
  · simp [h]
theorem stAt_no {es : List FE} {k : KNm} (h : ∀ e ∈ es, e.k ≠ k) : stAt es k = none := by
  induction es with
  | nil => rfl
  | cons a t ih => rw [stAt_cons, if_neg (h a List.mem_cons_self), ih fun e he => h e (List.mem_cons_of_mem _ he)]
theorem stAt_none {es : List FE} {k : KNm} (h : stAt es k = none) : ∀ e ∈ es, e.k ≠ k := by
  induction es with
  | nil => intro e he; cases he
  | cons a t ih =>
    rw [stAt_cons] at h
    split at h
    · cases h
    · rename_i hne
      intro e he
      rcases List.mem_cons.1 he with rfl | he
      · exact hne
      · exact ih h e he
theorem stAt_get {es : List FE} (hn : (es.map (·.k)).Nodup) {i : Nat} {e : FE} (he : es[i]? = some e) : stAt es e.k = some e.f := by
  induction es generalizing i with
  | nil => cases he
  | cons a t ih =>
    rw [List.map_cons, List.nodup_cons] at hn
    rw [stAt_cons]
    cases i with
    | zero =>
      have : a = e := by simpa using he
      subst this
      rw [if_pos rfl]
    | succ i =>
      have he' : t[i]? = some e := by simpa using he
      have hne : a.k ≠ e.k := fun h => hn.1 (h ▸ List.mem_map.2 ⟨e, List.mem_of_getElem? he', rfl⟩)
      rw [if_neg hne, ih hn.2 he']
theorem stAt_set {es : List FE} (hn : (es.map (·.k)).Nodup) {i : Nat} {e e' : FE} (he : es[i]? = some e) (hk : e'.k = e.k) (k : KNm) : stAt (es.set i e') k = if k = e.k then some e'.f else stAt es k := by
  induction es generalizing i with
  | nil => cases he
  | cons a t ih =>
    rw [List.map_cons, List.nodup_cons] at hn
    cases i with
    | zero =>
      have : a = e := by simpa using he
      subst this
      rw [List.set_cons_zero, stAt_cons, stAt_cons, hk]
      by_cases h : a.k = k
      · rw [if_pos h, if_pos h.symm]
      · rw [if_neg h, if_neg (fun h2 => h h2.symm), if_neg h]
    | succ i =>
      have he' : t[i]? = some e := by simpa using he
      have hne : a.k ≠ e.k := fun h => hn.1 (h ▸ List.mem_map.2 ⟨e, List.mem_of_getElem? he', rfl⟩)
      rw [List.set_cons_succ, stAt_cons, stAt_cons, ih hn.2 he']
      by_cases h : a.k = k
      · rw [if_pos h, if_neg (fun h2 => hne (h.trans h2)), if_pos h]
      · rw [if_neg h, if_neg h]
theorem stAt_erase {es : List FE} (hn : (es.map (·.k)).Nodup) {i : Nat} {e : FE} (he : es[i]? = some e) (k : KNm) : stAt (es.eraseIdx i) k = if k = e.k then none else stAt es k := by
  induction es generalizing i with
  | nil => cases he
  | cons a t ih =>
    rw [List.map_cons, List.nodup_cons] at hn
    cases i with
    | zero =>
      have : a = e := by simpa using he
      subst this
      rw [List.eraseIdx_cons_zero, stAt_cons]
      by_cases h : k = a.k
      · rw [if_pos h]
        exact stAt_no fun d hd hde => hn.1 (by rw [← h, ← hde]; exact List.mem_map.2 ⟨d, hd, rfl⟩)
      · rw [if_neg h, if_neg (fun h2 => h h2.symm)]
    | succ i =>
      have he' : t[i]? = some e := by simpa using he
      have hne : a.k ≠ e.k := fun h => hn.1 (h ▸ List.mem_map.2 ⟨e, List.mem_of_getElem? he', rfl⟩)
      rw [List.eraseIdx_cons_succ, stAt_cons, stAt_cons, ih hn.2 he']
      by_cases h : a.k = k
      · rw [if_pos h, if_neg (fun h2 => hne (h.trans h2)), if_pos h]
      · rw [if_neg h, if_neg h]
theorem nd_len {l K : List KNm} (hn : l.Nodup) (h : ∀ x ∈ l, x ∈ K) : l.length ≤ K.length := by
  induction l generalizing K with
  | nil => simp
  | cons a t ih =>
    rw [List.nodup_cons] at hn
    have ha := h a List.mem_cons_self
    have := ih (K := K.erase a) hn.2 fun x hx => (List.mem_erase_of_ne (fun e => hn.1 (by rw [← e]; exact hx))).2 (h x (List.mem_cons_of_mem _ hx))
    rw [List.length_erase_of_mem ha] at this
    have := List.length_pos_of_mem ha
    simp only [List.length_cons]; omega
theorem st_len {es : List FE} (hI : FInv es) {K : List KNm} (h : ∀ k, k ∉ K → stAt es k = none) : es.length ≤ K.length := by
  have := nd_len hI.nd (K := K) fun x hx => by
    obtain ⟨e, he, rfl⟩ := List.mem_map.1 hx
    by_cases hc : e.k ∈ K
    · exact hc
    · exact absurd rfl (stAt_none (h _ hc) e he)
  simpa using this
/-- what In makes of a fragment that fits -/
theorem in_frag {es es' : List FE} (hI : FInv es) {P r : Pk} {is : Bool} {er : Int} (h : InR es P r is er es') (h1 : ipChk P = 0) (h2 : P.mf = false → P.off ≠ 0) (h3 : P.mf = true → P.b.size % 8 = 0 ∧ 0 < P.b.size) (h4 : 8 * P.off + P.b.size ≤ 4000) (h5 : es.length < 8)
    {f f' : FW} (hf : f = (stAt es (keyP P)).getD newF) (hok : okPut f P (8 * P.off).toNat) (hf' : f' = putF f P (8 * P.off).toNat) :
    er = 0 ∧ is = doneB f' ∧ r = (if is = true then wholeP f' else zPk) ∧ ∀ k, stAt es' k = if k = keyP P then (if is = true then none else some f') else stAt es k := by
  have tail : ∀ (es0 : List FE) (hn : (es0.map (·.k)).Nodup) (i : Nat) (e : FE), es0[i]? = some e → e.k = keyP P → e.f = f → (∀ k, k ≠ keyP P → stAt es0 k = stAt es k) → TailR es0 i e P (8 * P.off).toNat r is er es' →
      er = 0 ∧ is = doneB f' ∧ r = (if is = true then wholeP f' else zPk) ∧ ∀ k, stAt es' k = if k = keyP P then (if is = true then none else some f') else stAt es k := by
    intro es0 hn i e hi hk hef hst ht
    rcases ht with ⟨hno, _⟩ | ⟨_, hd, rfl, rfl, rfl, rfl⟩ | ⟨_, hd, rfl, rfl, rfl, rfl⟩
    · exact absurd (by rw [hef]; exact hok) hno
    · rw [hef, ← hf'] at hd
      refine ⟨rfl, hd.symm, rfl, fun k => ?_⟩
      rw [stAt_set (e' := ⟨e.k, e.g, putF e.f P (8 * P.off).toNat⟩) hn hi rfl, hk]
      by_cases hc : k = keyP P
      · rw [if_pos hc, if_pos hc, hef, ← hf']; rfl
      · rw [if_neg hc, if_neg hc, hst k hc]
    · rw [hef, ← hf'] at hd
      refine ⟨rfl, hd.symm, by rw [hef, ← hf']; rfl, fun k => ?_⟩
      rw [stAt_erase hn hi, hk]
      by_cases hc : k = keyP P
      · rw [if_pos hc, if_pos hc]; rfl
      · rw [if_neg hc, if_neg hc, hst k hc]
  rcases h with ⟨hc, _⟩ | ⟨_, ⟨ha, hb⟩, _⟩ | ⟨_, hb, _⟩ | ⟨_, hb, _⟩ | ⟨_, _, _, _, ht⟩
  · exact absurd h1 hc
  · exact absurd hb (h2 ha)
  · exfalso
    rcases hb with ⟨ha, hb⟩ | ⟨ha, hb⟩
    · exact hb (h3 ha).1
    · have := (h3 ha).2; omega
  · omega
  · rcases ht with ⟨_, hl, _⟩ | ⟨i, e, hi, hk, ht⟩ | ⟨hno, hl, gn, ht⟩
    · omega
    · refine tail es hI.nd i e hi hk ?_ (fun _ _ => rfl) ht
      rw [hf, ← hk, stAt_get hI.nd hi]; rfl
    · have hI2 := hI.push (e := ⟨keyP P, gn, newF⟩) hno newF_ok hl
      refine tail _ hI2.nd es.length ⟨keyP P, gn, newF⟩ (by simp) rfl ?_ (fun k hk => ?_) ht
      · rw [hf, stAt_no hno]; rfl
      · have := stAt_erase hI2.nd (i := es.length) (e := ⟨keyP P, gn, newF⟩) (by simp) k
        rw [if_neg hk] at this
        rw [← this]
        congr 1
        rw [List.eraseIdx_append_of_length_le (Nat.le_refl _)]; simp

/-- where a fragment ends -/
def frTo (p : Pk) (m n i : Nat) : Nat := if i < n then m * i + m else p.b.size
def frAt (p : Pk) (m n i : Nat) : Pk := if i < n then frK p m i else frZ p m n
/-- a packet in more than one piece -/
structure Pcs (p : Pk) (m n : Nat) : Prop where
  m8 : m % 8 = 0
  m1 : 8 ≤ m
  m2 : m ≤ 1400
  n1 : 1 ≤ n
  lo : m * n < p.b.size
  hi : p.b.size ≤ m * n + m
  sz : p.b.size ≤ 4000
  mf : p.mf = false
  off : p.off = 0
  chk : ipChk { p with b := ⟨#[]⟩ } = 0
section
variable {p : Pk} {m n : Nat}
theorem Pcs.le (h : Pcs p m n) {i : Nat} (hi : i ≤ n) : m * i ≤ m * n := Nat.mul_le_mul_left _ hi
theorem Pcs.to1 (h : Pcs p m n) {i : Nat} (hi : i ≤ n) : m * i < frTo p m n i ∧ frTo p m n i ≤ p.b.size := by
  have h1 := h.lo
  have h2 := h.m1
  unfold frTo
  split
  · rename_i hlt
    have := h.le (i := i + 1) (by omega)
    rw [Nat.mul_succ] at this
    omega
  · have : i = n := by omega
    subst this; omega
theorem frAt_key (i : Nat) : keyP (frAt p m n i) = keyP p := by unfold frAt; split <;> rfl
theorem frAt_mf (h : Pcs p m n) {i : Nat} (hi : i ≤ n) : (frAt p m n i).mf = decide (i < n) := by
  unfold frAt
  split
  · rename_i hlt; rw [decide_eq_true hlt]; rfl
  · rename_i hlt; rw [decide_eq_false hlt]; exact h.mf
theorem Pcs.mul8 (h : Pcs p m n) (i : Nat) : m * i % 8 = 0 := by rw [Nat.mul_mod, h.m8]; simp
theorem frAt_off (h : Pcs p m n) {i : Nat} (hi : i ≤ n) : 8 * (frAt p m n i).off = (m * i : Nat) := by
  have h8 := h.mul8 i
  have e : (frAt p m n i).off = ((m * i : Nat) : Int) / 8 := by
    unfold frAt
    split
    · rfl
    · have : i = n := by omega
      subst this; rfl
  rw [e]; omega
theorem frAt_b (h : Pcs p m n) {i : Nat} (hi : i ≤ n) : (frAt p m n i).b = p.b.extract (m * i) (frTo p m n i) := by
  unfold frAt frTo
  split
  · rfl
  · have : i = n := by omega
    subst this; rfl
theorem frAt_sz (h : Pcs p m n) {i : Nat} (hi : i ≤ n) : m * i + (frAt p m n i).b.size = frTo p m n i := by
  have := h.to1 hi
  rw [frAt_b h hi, ByteArray.size_extract]; omega
theorem frAt_sz2 (h : Pcs p m n) {i : Nat} (hi : i ≤ n) : (frAt p m n i).b.size ≤ m ∧ 0 < (frAt p m n i).b.size := by
  have h1 := frAt_sz h hi
  have h2 := h.to1 hi
  refine ⟨?_, by omega⟩
  unfold frTo at h1
  have h3 := h.hi
  split at h1
  · omega
  · have : i = n := by omega
    subst this; omega
theorem frAt_bz (h : Pcs p m n) {i : Nat} (hi : i ≤ n) {k : Nat} (h1 : m * i ≤ k) (h2 : k < frTo p m n i) : bZ (frAt p m n i).b (k - m * i) = bZ p.b k := by
  have h3 := (h.to1 hi).2
  unfold bZ
  have : (frAt p m n i).b.data[k - m * i]? = p.b.data[k]? := by
    rw [frAt_b h hi, ByteArray.data_extract, Array.getElem?_extract, if_pos]
    · congr 1; omega
    · have : p.b.data.size = p.b.size := rfl
      omega
  rw [this]
theorem frAt_chk (h : Pcs p m n) {i : Nat} (hi : i ≤ n) : ipChk (frAt p m n i) = 0 := by
  have h1 := ipChk_ok h.chk
  obtain ⟨a1, a2, a3, a4, _⟩ := h1
  have h2 := (frAt_sz2 h hi).1
  have h3 := h.m2
  have h4 := frAt_off h hi
  have h5 := h.to1 hi
  have h6 := h.sz
  have e1 : (frAt p m n i).pr = p.pr := by unfold frAt; split <;> rfl
  have e2 : (frAt p m n i).tl = p.tl := by unfold frAt; split <;> rfl
  have e3 : (frAt p m n i).id = p.id := by unfold frAt; split <;> rfl
  unfold ipChk ipArg outB
  rw [e1, e2, e3]
  simp only at a1 a2 a3
  rw [if_neg (by simp only [Bool.or_eq_true, decide_eq_true_eq, not_or]; omega), if_neg (by omega)]
/-- the fragments in S have come -/
structure PInv (p : Pk) (m n : Nat) (S : Nat → Bool) (f : FW) : Prop where
  h : ∀ j, f.h j = true ↔ ∃ i, i ≤ n ∧ S i = true ∧ m * i ≤ j ∧ j < frTo p m n i
  b : ∀ j, f.h j = true → f.b j = bZ p.b j
  en : f.en = if S n = true then (p.b.size : Int) else -1
  la : f.la ≤ (p.b.size : Int)
  kn : f.kn = S 0
  fi : S 0 = true → f.fi = frAt p m n 0
def addS (S : Nat → Bool) (i : Nat) : Nat → Bool := fun j => S j || decide (j = i)
def noneS : Nat → Bool := fun _ => false
theorem pinv_new : PInv p m n noneS newF := ⟨fun j => by simp [newF, noneS], fun j h => by simp [newF] at h, rfl, by show (0 : Int) ≤ _; omega, rfl, fun h => by cases h⟩
theorem PInv.put (h : Pcs p m n) {S : Nat → Bool} {f : FW} (hP : PInv p m n S f) {i : Nat} (hi : i ≤ n) : okPut f (frAt p m n i) (m * i) ∧ PInv p m n (addS S i) (putF f (frAt p m n i) (m * i)) := by
  have hsz := frAt_sz h hi
  have hto := h.to1 hi
  have hmf := frAt_mf h hi
  have hen := hP.en
  have hen2 : enP f (frAt p m n i) (m * i) = if addS S i n = true then (p.b.size : Int) else -1 := by
    unfold enP addS
    rw [hmf, hsz, hen]
    by_cases hlt : i < n
    · rw [if_pos (by simpa using hlt), decide_eq_false (by omega : ¬ n = i), Bool.or_false]
    · have : i = n := by omega
      subst this
      rw [if_neg (by simp), if_pos (by simp)]
      unfold frTo; rw [if_neg (by omega)]
  have hla : laP f (frAt p m n i) (m * i) ≤ (p.b.size : Int) := by
    unfold laP
    rw [hsz]
    split
    · omega
    · exact hP.la
  have hag : agree f (frAt p m n i).b (m * i) (m * i + (frAt p m n i).b.size) := fun k hk1 hk2 hk => by
    rw [hP.b k hk, frAt_bz h hi hk1 (by omega)]
  refine ⟨⟨?_, ?_, hag⟩, ?_⟩
  · unfold c1P
    rw [hmf, hsz, hen]
    by_cases hlt : i < n
    · exact .inl (by simpa using hlt)
    · have : i = n := by omega
      subst this
      right
      split
      · right; unfold frTo; rw [if_neg (by omega)]
      · left; decide
  · unfold c2P
    rw [hen2]
    split
    · exact .inr hla
    · left; decide
  · have hmid : PInv p m n (fun j => addS S i j) (midF (f2P f (frAt p m n i) (m * i)) (frAt p m n i).b (m * i) (m * i + (frAt p m n i).b.size)) ↔ (f.kn = addS S i 0 ∧ (addS S i 0 = true → f.fi = frAt p m n 0)) := by
      constructor
      · intro hq; exact ⟨hq.kn, hq.fi⟩
      · rintro ⟨q1, q2⟩
        refine ⟨fun j => ?_, fun j hj => ?_, hen2, hla, q1, q2⟩
        · show (f.h j || decide (m * i ≤ j ∧ j < m * i + (frAt p m n i).b.size)) = true ↔ _
          rw [Bool.or_eq_true, hP.h j, decide_eq_true_eq, hsz]
          constructor
          · rintro (⟨i', h1, h2, h3⟩ | h2)
            · exact ⟨i', h1, by unfold addS; rw [h2]; rfl, h3⟩
            · exact ⟨i, hi, by unfold addS; simp, h2⟩
          · rintro ⟨i', h1, h2, h3⟩
            unfold addS at h2
            rw [Bool.or_eq_true, decide_eq_true_eq] at h2
            rcases h2 with h2 | rfl
            · exact .inl ⟨i', h1, h2, h3⟩
            · exact .inr h3
        · show (if m * i ≤ j ∧ j < m * i + (frAt p m n i).b.size then bZ (frAt p m n i).b (j - m * i) else f.b j) = bZ p.b j
          have hj2 : (f.h j || decide (m * i ≤ j ∧ j < m * i + (frAt p m n i).b.size)) = true := hj
          split
          · rename_i hc
            exact frAt_bz h hi hc.1 (by omega)
          · rename_i hc
            rw [decide_eq_false hc, Bool.or_false] at hj2
            exact hP.b j hj2
    unfold putF
    have hs0 := (frAt_sz2 h hi).2
    by_cases hc : m * i = 0 ∧ 0 < (frAt p m n i).b.size ∧ f.kn = false
    · rw [if_pos hc]
      have hi0 : i = 0 := by
        have h1 := h.m1
        rcases Nat.mul_eq_zero.1 hc.1 with h2 | h2
        · omega
        · exact h2
      subst hi0
      have h0 : addS S 0 0 = true := by unfold addS; simp
      -- the middle's facts, but for the first one
      have hmm : ∀ (kn : Bool) (fi : Pk), kn = true → fi = frAt p m n 0 → PInv p m n (addS S 0) { midF (f2P f (frAt p m n 0) (m * 0)) (frAt p m n 0).b (m * 0) (m * 0 + (frAt p m n 0).b.size) with fi := fi, kn := kn } := by
        intro kn fi hkn hfi
        refine ⟨fun j => ?_, fun j hj => ?_, hen2, hla, ?_, fun _ => hfi⟩
        · show (f.h j || decide (m * 0 ≤ j ∧ j < m * 0 + (frAt p m n 0).b.size)) = true ↔ _
          rw [Bool.or_eq_true, hP.h j, decide_eq_true_eq, hsz]
          constructor
          · rintro (⟨i', h1, h2, h3⟩ | h2)
            · exact ⟨i', h1, by unfold addS; rw [h2]; rfl, h3⟩
            · exact ⟨0, hi, h0, h2⟩
          · rintro ⟨i', h1, h2, h3⟩
            unfold addS at h2
            rw [Bool.or_eq_true, decide_eq_true_eq] at h2
            rcases h2 with h2 | rfl
            · exact .inl ⟨i', h1, h2, h3⟩
            · exact .inr h3
        · show (if m * 0 ≤ j ∧ j < m * 0 + (frAt p m n 0).b.size then bZ (frAt p m n 0).b (j - m * 0) else f.b j) = bZ p.b j
          have hj2 : (f.h j || decide (m * 0 ≤ j ∧ j < m * 0 + (frAt p m n 0).b.size)) = true := hj
          split
          · rename_i hc
            exact frAt_bz h hi hc.1 (by omega)
          · rename_i hc
            rw [decide_eq_false hc, Bool.or_false] at hj2
            exact hP.b j hj2
        · show kn = addS S 0 0
          rw [h0, hkn]
      exact hmm true (frAt p m n 0) rfl rfl
    · rw [if_neg hc]
      refine hmid.2 ?_
      by_cases hi0 : i = 0
      · subst hi0
        have hkn : f.kn = true := by
          cases hk : f.kn with
          | true => rfl
          | false => exact absurd ⟨Nat.mul_zero _, hs0, hk⟩ hc
        have hS0 : S 0 = true := by rw [← hP.kn, hkn]
        refine ⟨by rw [hkn]; unfold addS; simp, fun _ => hP.fi hS0⟩
      · have e : addS S i 0 = S 0 := by unfold addS; rw [decide_eq_false (by omega), Bool.or_false]
        rw [e]
        exact ⟨hP.kn, hP.fi⟩
/-- has all come? -/
def allS (n : Nat) (S : Nat → Bool) : Bool := (List.range (n + 1)).all S
theorem allS_iff {n : Nat} {S : Nat → Bool} : allS n S = true ↔ ∀ i, i ≤ n → S i = true := by
  unfold allS
  rw [List.all_eq_true]
  constructor
  · intro h i hi; exact h i (List.mem_range.2 (by omega))
  · intro h i hi; exact h i (by have := List.mem_range.1 hi; omega)
theorem PInv.done (h : Pcs p m n) {S : Nat → Bool} {f : FW} (hP : PInv p m n S f) : doneB f = allS n S := by
  cases hc : allS n S with
  | true =>
    rw [allS_iff] at hc
    have hn := hc n (Nat.le_refl _)
    have hen := hP.en
    rw [if_pos hn] at hen
    rw [doneB_all (by rw [hen]; omega), hP.kn, hc 0 (by omega)]
    intro k hk
    rw [hen] at hk
    rw [hP.h]
    have h1 := h.m1
    have h2 := h.hi
    have hdm := Nat.div_add_mod k m
    have hmm := Nat.mod_lt k (show 0 < m by omega)
    have hle : k / m ≤ n := by
      have h3 : k / m < n + 1 := by
        rw [Nat.div_lt_iff_lt_mul (by omega), Nat.mul_comm, Nat.mul_succ]
        omega
      omega
    refine ⟨k / m, hle, hc _ hle, by omega, ?_⟩
    unfold frTo
    split <;> omega
  | false =>
    have hne : ¬ ∀ i, i ≤ n → S i = true := fun hh => by rw [allS_iff.2 hh] at hc; cases hc
    have : ∃ i, i ≤ n ∧ S i = false := by
      by_cases hex : ∃ i, i ≤ n ∧ S i = false
      · exact hex
      · exact absurd (fun i hi => by cases hs : S i with | true => rfl | false => exact absurd ⟨i, hi, hs⟩ hex) hne
    obtain ⟨i, hi, hs⟩ := this
    have hen := hP.en
    cases hSn : S n with
    | false => exact doneB_neg (by rw [hen, hSn]; simp)
    | true =>
      rw [if_pos hSn] at hen
      have ht := h.to1 hi
      refine doneB_not (k := m * i) (by rw [hen]; omega) ?_
      cases hh : f.h (m * i) with
      | false => rfl
      | true =>
        obtain ⟨i', h1, h2, h3, h4⟩ := (hP.h _).1 hh
        have hm1 := h.m1
        have : i' = i := by
          rcases Nat.lt_trichotomy i' i with hlt | rfl | hlt
          · exfalso
            unfold frTo at h4
            rw [if_pos (by omega)] at h4
            have := Nat.mul_le_mul_left m (show i' + 1 ≤ i by omega)
            rw [Nat.mul_succ] at this
            omega
          · rfl
          · exfalso
            have := Nat.mul_le_mul_left m (show i + 1 ≤ i' by omega)
            rw [Nat.mul_succ] at this
            omega
        rw [this, hs] at h2
        cases h2
theorem PInv.whole (h : Pcs p m n) {S : Nat → Bool} {f : FW} (hP : PInv p m n S f) (hc : allS n S = true) : wholeP f = p := by
  have hd := hP.done h
  rw [hc] at hd
  rw [allS_iff] at hc
  have hn := hc n (Nat.le_refl _)
  have hen := hP.en
  rw [if_pos hn] at hen
  have hfi := hP.fi (hc 0 (by omega))
  have htx : fgText f = p.b := by
    refine str_ext ?_
    unfold fgText
    rw [byteS_toList]
    apply List.ext_getElem?
    intro j
    rw [hen]
    simp only [Int.toNat_natCast]
    unfold byteL
    rw [List.getElem?_map, List.getElem?_map]
    by_cases hj : j < p.b.size
    · have hj2 : f.h j = true := by
        unfold doneB at hd
        rw [Bool.and_eq_true, Bool.and_eq_true, List.all_eq_true] at hd
        exact hd.2.1 j (List.mem_range.2 (by rw [hen]; simpa using hj))
      rw [List.getElem?_range hj]
      show some (UInt8.ofNat (f.b j % 256).toNat) = _
      rw [hP.b j hj2]
      have hj3 : j < p.b.data.toList.length := by simpa using hj
      rw [List.getElem?_eq_getElem hj3]
      have hj4 : p.b.data[j]? = some p.b.data[j] := Array.getElem?_eq_getElem hj
      unfold bZ
      rw [hj4]
      have hlt := p.b.data[j].toNat_lt
      show some (UInt8.ofNat (((p.b.data[j].toNat : Int)) % 256).toNat) = some p.b.data.toList[j]
      rw [show (((p.b.data[j].toNat : Int)) % 256).toNat = p.b.data[j].toNat by omega]
      simp
    · have h9 : p.b.data.toList.length = p.b.size := by simp
      rw [List.getElem?_eq_none (by simp; omega), List.getElem?_eq_none (by omega)]
      rfl
  unfold wholeP
  rw [htx, hfi]
  have hmf := h.mf
  have hof := h.off
  have h1 := h.n1
  unfold frAt
  rw [if_pos (by omega)]
  unfold frK
  obtain ⟨ps, pd, ppr, ptl, pid, pdf, pmf, poff, pb⟩ := p
  simp only at hmf hof
  subst hmf hof
  rfl
/-- one fragment comes -/
theorem in_pcs (h : Pcs p m n) {es es' : List FE} (hI : FInv es) {S : Nat → Bool} (hP : PInv p m n S ((stAt es (keyP p)).getD newF)) {i : Nat} (hi : i ≤ n) {r : Pk} {is : Bool} {er : Int} (hr : InR es (frAt p m n i) r is er es') (h8 : es.length < 8) :
    er = 0 ∧ is = allS n (addS S i) ∧ r = (if is = true then p else zPk) ∧ PInv p m n (if is = true then noneS else addS S i) ((stAt es' (keyP p)).getD newF) ∧ ∀ k, k ≠ keyP p → stAt es' k = stAt es k := by
  have hoff := frAt_off h hi
  have hoff2 : (8 * (frAt p m n i).off).toNat = m * i := by rw [hoff]; exact Int.toNat_natCast _
  have hmf := frAt_mf h hi
  have hsz := frAt_sz2 h hi
  have hs1 := frAt_sz h hi
  have hs2 := h.to1 hi
  have hs3 := h.sz
  obtain ⟨ok, hP2⟩ := hP.put h hi
  rw [← frAt_key (p := p) (m := m) (n := n) i] at ok hP2 ⊢
  rw [← hoff2] at ok
  have hm8 := h.m1
  obtain ⟨e1, e2, e3, e4⟩ := in_frag hI hr (frAt_chk h hi) (fun hf => by
      rw [hmf] at hf
      have hin : ¬ i < n := by simpa using hf
      have hn := h.n1
      have : m * 1 ≤ m * i := Nat.mul_le_mul_left _ (by omega)
      omega)
    (fun ht => by
      rw [hmf] at ht
      have hlt : i < n := by simpa using ht
      refine ⟨?_, hsz.2⟩
      unfold frTo at hs1
      rw [if_pos hlt] at hs1
      have := h.m8
      omega) (by rw [hoff]; omega) h8 rfl ok rfl
  rw [hoff2] at e2 e3 e4
  rw [hP2.done h] at e2
  refine ⟨e1, e2, ?_, ?_, fun k hk => ?_⟩
  · rw [e3]
    cases is with
    | true => rw [if_pos rfl, if_pos rfl]; exact hP2.whole h e2.symm
    | false => rfl
  · rw [e4, if_pos rfl]
    cases is with
    | true => exact pinv_new
    | false => exact hP2
  · rw [e4, if_neg hk]
theorem pcs_of {mtu : Int} {rs : List Pk} (h : SplitIs p mtu rs 0) (h2 : 2 ≤ rs.length) : ∃ m n, rs = frAll p m n ∧ Pcs p m n := by
  generalize hE : (0 : Int) = E at h
  cases h with
  | no E h => exact absurd hE.symm h
  | one h1 => simp at h2
  | many m n h1 h2' h3 h4 h5 h6 h7 hm hn hn2 =>
    rw [frAll_len] at h2
    exact ⟨m, n, rfl, by omega, by omega, by omega, by omega, hn, hn2, h7, h3, h4, h5⟩
theorem frAll_at {i : Nat} (hi : i ≤ n) : (frAll p m n)[i]? = some (frAt p m n i) := by
  rw [frAll_get p m n i hi]; rfl
theorem Pcs.lim (h : Pcs p m n) (ok : PkOk p) {i : Nat} (hi : i ≤ n) : PkLim (frAt p m n i) := by
  have hsz := (frAt_sz2 h hi).1
  have h2 := h.m2
  have h3 := frAt_off h hi
  have h4 := h.to1 hi
  have h5 := h.sz
  have e : (frAt p m n i).s = p.s ∧ (frAt p m n i).d = p.d ∧ (frAt p m n i).pr = p.pr ∧ (frAt p m n i).tl = p.tl ∧ (frAt p m n i).id = p.id := by unfold frAt; split <;> exact ⟨rfl, rfl, rfl, rfl, rfl⟩
  refine ⟨⟨by rw [e.1]; exact ok.s, by rw [e.2.1]; exact ok.d, by rw [e.2.2.1]; exact ok.pr, by rw [e.2.2.2.1]; exact ok.tl, by rw [e.2.2.2.2]; exact ok.id, ⟨by omega, by omega⟩, by omega⟩, by omega⟩
end
end Go.Proofs.Ytmcdmgnpbhkdhaa
