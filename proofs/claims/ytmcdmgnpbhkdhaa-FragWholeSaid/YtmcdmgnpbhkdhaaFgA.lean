/- frag: two packets' fragments, one after the other (plain). -/
import Derived.Test.YtmcdmgnpbhkdhaaFgY
import Derived.Test.YtmcdmgnpbhkdhaaMapI
namespace Go.Proofs.Ytmcdmgnpbhkdhaa
open Go.RowKit Go.Lib
set_option linter.unusedVariables false
set_option linter.unusedSimpArgs false

/-- a packet and its fragments -/
structure FPk (p : Pk) (a : List Pk) : Prop where
  ok : PkOk p
  sh : (a = [p] ∧ p.mf = false ∧ p.off = 0 ∧ ipChk p = 0) ∨ ∃ m n, a = frAll p m n ∧ Pcs p m n
/-- what has come of it -/
def FSt (p : Pk) (a : List Pk) (S : Nat → Bool) (o : Option FW) : Prop := (a = [p] ∧ S 0 = false) ∨ ∃ m n, a = frAll p m n ∧ Pcs p m n ∧ PInv p m n S (o.getD newF)
theorem FPk.pos {p : Pk} {a : List Pk} (h : FPk p a) : 1 ≤ a.length := by
  rcases h.sh with ⟨rfl, _⟩ | ⟨m, n, rfl, _⟩
  · simp
  · rw [frAll_len]; omega
theorem FPk.few {p : Pk} {a : List Pk} (h : FPk p a) : a.length ≤ 4001 := by
  rcases h.sh with ⟨rfl, _⟩ | ⟨m, n, rfl, hP⟩
  · simp
  · rw [frAll_len]
    have h1 := hP.lo
    have h3 := hP.m1
    have h4 := hP.sz
    have h5 : 1 * n ≤ m * n := Nat.mul_le_mul_right _ (by omega)
    omega
theorem fpk_of {p : Pk} {mtu : Int} {a : List Pk} (ok : PkOk p) (h : SplitIs p mtu a 0) : FPk p a := by
  refine ⟨ok, ?_⟩
  generalize hE : (0 : Int) = E at h
  cases h with
  | no E h => exact absurd hE.symm h
  | one h1 h2 h3 h4 h5 h6 =>
    refine .inl ⟨rfl, h3, h4, ?_⟩
    unfold ipChk at h5 ⊢
    have e : ipArg p = ipArg { p with b := ⟨#[]⟩ } := rfl
    rw [e]
    split at h5
    · cases h5
    · rename_i h7
      rw [if_neg h7, if_neg (by omega)]
  | many m n h1 h2' h3 h4 h5 h6 h7 hm hn hn2 =>
    refine .inr ⟨m, n, rfl, by omega, by omega, by omega, ?_, hn, hn2, h7, h3, h4, h5⟩
    rcases Nat.eq_zero_or_pos n with h0 | h0
    · subst h0
      omega
    · exact h0
theorem PInv.congr {p : Pk} {m n : Nat} {S S' : Nat → Bool} {f : FW} (h : PInv p m n S f) (he : ∀ i, i ≤ n → S' i = S i) : PInv p m n S' f := by
  have h0 := he 0 (by omega)
  have hn := he n (Nat.le_refl _)
  refine ⟨fun j => ?_, h.b, by rw [hn]; exact h.en, h.la, by rw [h0]; exact h.kn, by rw [h0]; exact h.fi⟩
  rw [h.h j]
  constructor
  · rintro ⟨i, h1, h2, h3⟩; exact ⟨i, h1, by rw [he i h1]; exact h2, h3⟩
  · rintro ⟨i, h1, h2, h3⟩; exact ⟨i, h1, by rw [← he i h1]; exact h2, h3⟩
theorem FSt.congr {p : Pk} {a : List Pk} {S S' : Nat → Bool} {o : Option FW} (h : FSt p a S o) (he : ∀ i, i < a.length → S' i = S i) : FSt p a S' o := by
  rcases h with ⟨rfl, h⟩ | ⟨m, n, rfl, h1, h2⟩
  · exact .inl ⟨rfl, by rw [he 0 (by simp)]; exact h⟩
  · exact .inr ⟨m, n, rfl, h1, h2.congr fun i hi => he i (by rw [frAll_len]; omega)⟩
theorem fst_new {p : Pk} {a : List Pk} (h : FPk p a) : FSt p a noneS none := by
  rcases h.sh with ⟨rfl, _⟩ | ⟨m, n, rfl, h1⟩
  · exact .inl ⟨rfl, rfl⟩
  · exact .inr ⟨m, n, rfl, h1, pinv_new⟩
/-- how many lack -/
def cntF (S : Nat → Bool) : Nat → Nat
  | 0 => 0
  | n + 1 => cntF S n + (if S n = true then 0 else 1)
theorem cntF_zero {S : Nat → Bool} {n : Nat} : cntF S n = 0 ↔ ∀ i, i < n → S i = true := by
  induction n with
  | zero => simp [cntF]
  | succ n ih =>
    unfold cntF
    constructor
    · intro h i hi
      have h1 : cntF S n = 0 := by omega
      rcases Nat.lt_or_ge i n with h2 | h2
      · exact ih.1 h1 i h2
      · obtain rfl : i = n := by omega
        cases hS : S i with
        | true => rfl
        | false => rw [hS] at h; simp at h
    · intro h
      rw [ih.2 fun i hi => h i (by omega), h n (by omega)]; simp
theorem cntF_congr {S S' : Nat → Bool} {n : Nat} (h : ∀ i, i < n → S' i = S i) : cntF S' n = cntF S n := by
  induction n with
  | zero => rfl
  | succ n ih =>
    unfold cntF
    rw [ih fun i hi => h i (by omega), h n (by omega)]
theorem cntF_none (n : Nat) : cntF noneS n = n := by
  induction n with
  | zero => rfl
  | succ n ih => unfold cntF; rw [ih]; rfl
theorem cntF_le (S : Nat → Bool) (n : Nat) : cntF S n ≤ n := by
  induction n with
  | zero => exact Nat.le_refl _
  | succ n ih => unfold cntF; split <;> omega
theorem addS_same {S : Nat → Bool} {i : Nat} (h : S i = true) : addS S i = S := by
  funext j
  unfold addS
  by_cases hj : j = i
  · subst hj; rw [h]; rfl
  · rw [decide_eq_false hj, Bool.or_false]
theorem cntF_add {S : Nat → Bool} {i n : Nat} (hi : i < n) (h : S i = false) : cntF (addS S i) n + 1 = cntF S n := by
  induction n with
  | zero => omega
  | succ n ih =>
    unfold cntF
    by_cases hin : i = n
    · subst hin
      have h1 : cntF (addS S i) i = cntF S i := cntF_congr fun j hj => by unfold addS; rw [decide_eq_false (by omega), Bool.or_false]
      have h2 : addS S i i = true := by unfold addS; simp
      rw [h1, h2, h]; simp
    · have h2 : addS S i n = S n := by unfold addS; rw [decide_eq_false (by omega), Bool.or_false]
      rw [h2]
      have := ih (by omega)
      omega
theorem allS_cnt (S : Nat → Bool) (n : Nat) : allS n S = decide (cntF S (n + 1) = 0) := by
  cases h : allS n S with
  | true =>
    rw [allS_iff] at h
    rw [decide_eq_true (cntF_zero.2 fun i hi => h i (by omega))]
  | false =>
    symm
    rw [decide_eq_false]
    intro h2
    rw [allS_iff.2 fun i hi => cntF_zero.1 h2 i (by omega)] at h
    cases h
/-- one fragment comes -/
theorem FPk.step {p : Pk} {a : List Pk} (h : FPk p a) {es es' : List FE} (hI : FInv es) {S : Nat → Bool} (hS : FSt p a S (stAt es (keyP p))) {i : Nat} {x r : Pk} {is : Bool} {er : Int} (hx : a[i]? = some x) (hr : InR es x r is er es') (h8 : es.length < 8) :
    er = 0 ∧ is = decide (cntF (addS S i) a.length = 0) ∧ r = (if is = true then p else zPk) ∧ FSt p a (if is = true then noneS else addS S i) (stAt es' (keyP p)) ∧ ∀ k, k ≠ keyP p → stAt es' k = stAt es k := by
  have hi := (List.getElem?_eq_some_iff.1 hx).1
  rcases h.sh with ⟨rfl, h1, h2, h3⟩ | ⟨m, n, rfl, hP⟩
  · have hi0 : i = 0 := by simpa using hi
    subst hi0
    have hxp : x = p := by simpa using hx.symm
    subst hxp
    rcases hr with ⟨hc, _⟩ | ⟨_, _, rfl, rfl, rfl, rfl⟩ | ⟨_, hb, _⟩ | ⟨_, hb, _⟩ | ⟨_, hb, _⟩
    · exact absurd h3 hc
    · have hc : cntF (addS S 0) 1 = 0 := cntF_zero.2 fun i hi => by
        obtain rfl : i = 0 := by omega
        unfold addS; simp
      exact ⟨rfl, by show true = decide (cntF (addS S 0) 1 = 0); rw [hc]; rfl, rfl, .inl ⟨rfl, rfl⟩, fun k hk => rfl⟩
    · rcases hb with ⟨hb, _⟩ | ⟨hb, _⟩ <;> rw [h1] at hb <;> cases hb
    · have := (ipChk_ok h3).2.2.2.2
      rw [h2] at hb; omega
    · exact absurd h2 (hb h1)
  · rcases hS with ⟨h1, _⟩ | ⟨m', n', he, hP', hV⟩
    · have hl := congrArg List.length h1
      rw [frAll_len] at hl
      have := hP.n1
      simp at hl; omega
    · have hxi : x = frAt p m' n' i := by
        have hin : i ≤ n' := by rw [he, frAll_len] at hi; omega
        rw [he, frAll_at hin] at hx
        exact (Option.some.inj hx).symm
      have hin : i ≤ n' := by rw [he, frAll_len] at hi; omega
      rw [hxi] at hr
      obtain ⟨e1, e2, e3, e4, e5⟩ := in_pcs hP' hI hV hin hr h8
      refine ⟨e1, ?_, e3, .inr ⟨m', n', he, hP', e4⟩, e5⟩
      rw [e2, allS_cnt, he, frAll_len]
theorem FPk.lim {p : Pk} {a : List Pk} (h : FPk p a) {i : Nat} {x : Pk} (hx : a[i]? = some x) : PkLim x := by
  have hi := (List.getElem?_eq_some_iff.1 hx).1
  rcases h.sh with ⟨rfl, h1, h2, h3⟩ | ⟨m, n, rfl, hP⟩
  · have hi0 : i = 0 := by simpa using hi
    subst hi0
    have hxp : x = p := by simpa using hx.symm
    subst hxp
    have := (ipChk_ok h3).2.2.2.2
    exact ⟨h.ok, by omega⟩
  · rw [frAll_len] at hi
    rw [frAll_at (by omega)] at hx
    rw [← Option.some.inj hx]
    exact hP.lim h.ok (by omega)
/-- what is known in all -/
structure WInv (p q : Pk) (a b : List Pk) (T : Nat → Bool) (m : List (Int × Int)) (es : List FE) : Prop where
  fi : FInv es
  sp : FSt p a T (stAt es (keyP p))
  sq : FSt q b (fun j => T (a.length + j)) (stAt es (keyP q))
  no : ∀ k, k ≠ keyP p → k ≠ keyP q → stAt es k = none
  sn : ∀ i : Nat, i < a.length + b.length → (mGet m (i : Int)).getD 0 = if T i = true then 1 else 0
theorem WInv.len {p q : Pk} {a b : List Pk} {T : Nat → Bool} {m : List (Int × Int)} {es : List FE} (h : WInv p q a b T m es) : es.length < 8 := by
  have := st_len h.fi (K := [keyP p, keyP q]) fun k hk => by
    simp only [List.mem_cons, List.not_mem_nil, or_false, not_or] at hk
    exact h.no k hk.1 hk.2
  simp at this; omega
theorem winv_new {p q : Pk} {a b : List Pk} (hp : FPk p a) (hq : FPk q b) : WInv p q a b noneS [] [] :=
  ⟨finv_nil, fst_new hp, fst_new hq, fun _ _ _ => rfl, fun i hi => rfl⟩
/-- the marks with one more -/
def mrk (m : List (Int × Int)) (T : Nat → Bool) (k : Nat) : List (Int × Int) := if T k = true then m else mPut m k 1
theorem mrk_at {m : List (Int × Int)} (hm : mOk m) {T : Nat → Bool} {k N : Nat} (h : ∀ i : Nat, i < N → (mGet m (i : Int)).getD 0 = if T i = true then 1 else 0) (hk : k < N) : ∀ i : Nat, i < N → (mGet (mrk m T k) (i : Int)).getD 0 = if addS T k i = true then 1 else 0 := fun i hi => by
  unfold mrk
  by_cases hT : T k = true
  · rw [if_pos hT, addS_same hT]; exact h i hi
  · rw [if_neg hT]
    by_cases hik : i = k
    · subst hik
      rw [mGet_put_same hm]
      unfold addS; simp
    · rw [mGet_put_other _ _ (by omega), h i hi]
      unfold addS
      rw [decide_eq_false hik, Bool.or_false]
/-- the marks of one side taken off, up to j -/
def offS (la : Nat) (sd : Bool) (T : Nat → Bool) (j : Nat) : Nat → Bool := fun i => if i < j ∧ decide (la ≤ i) = sd then false else T i
theorem offS_zero (la : Nat) (sd : Bool) (T : Nat → Bool) : offS la sd T 0 = T := by
  funext i; unfold offS; rw [if_neg (by omega)]
theorem offS_put {m : List (Int × Int)} (hm : mOk m) {la N j : Nat} {sd : Bool} {T : Nat → Bool} (h : ∀ i : Nat, i < N → (mGet m (i : Int)).getD 0 = if offS la sd T j i = true then 1 else 0) (hs : decide (la ≤ j) = sd) :
    ∀ i : Nat, i < N → (mGet (mPut m j 0) (i : Int)).getD 0 = if offS la sd T (j + 1) i = true then 1 else 0 := fun i hi => by
  by_cases hij : i = j
  · subst hij
    have e : offS la sd T (i + 1) i = false := if_pos ⟨by omega, hs⟩
    rw [mGet_put_same hm, e]; rfl
  · have e : offS la sd T (j + 1) i = offS la sd T j i := by
      unfold offS
      by_cases hc : i < j ∧ decide (la ≤ i) = sd
      · rw [if_pos hc, if_pos ⟨by omega, hc.2⟩]
      · rw [if_neg hc, if_neg (fun h2 => hc ⟨by omega, h2.2⟩)]
    rw [mGet_put_other _ _ (by omega), h i hi, e]
theorem offS_skip {la j : Nat} {sd : Bool} {T : Nat → Bool} (hs : decide (la ≤ j) ≠ sd) : offS la sd T (j + 1) = offS la sd T j := by
  funext i
  unfold offS
  by_cases hc : i < j ∧ decide (la ≤ i) = sd
  · rw [if_pos hc, if_pos ⟨by omega, hc.2⟩]
  · rw [if_neg hc, if_neg]
    rintro ⟨h1, h2⟩
    by_cases hij : i = j
    · subst hij; exact hs h2
    · exact hc ⟨by omega, h2⟩
/-- how many of the one side are among the first j -/
def sdN (la : Nat) (sd : Bool) (j : Nat) : Nat := if sd = true then j - la else min j la
theorem sdN_put {la j : Nat} {sd : Bool} (hs : decide (la ≤ j) = sd) : sdN la sd (j + 1) = sdN la sd j + 1 := by
  unfold sdN
  cases sd with
  | true => simp at hs ⊢; omega
  | false => simp at hs ⊢; omega
theorem sdN_skip {la j : Nat} {sd : Bool} (hs : decide (la ≤ j) ≠ sd) : sdN la sd (j + 1) = sdN la sd j := by
  unfold sdN
  cases sd with
  | true => simp at hs ⊢; omega
  | false => simp at hs ⊢; omega
/-- one of the first packet's comes -/
theorem WInv.lo {p q : Pk} {a b : List Pk} {T : Nat → Bool} {m : List (Int × Int)} {es es' : List FE} (hp : FPk p a) (hne : keyP p ≠ keyP q) (h : WInv p q a b T m es) (hm : mOk m) {k : Nat} {x r : Pk} {is : Bool} {er : Int} (hx : a[k]? = some x) (hr : InR es x r is er es') (hI' : FInv es') :
    er = 0 ∧ is = decide (cntF (addS T k) a.length = 0) ∧ r = (if is = true then p else zPk) ∧
    (is = false → WInv p q a b (addS T k) (mrk m T k) es') ∧
    (is = true → ∀ m', (∀ i : Nat, i < a.length + b.length → (mGet m' (i : Int)).getD 0 = if offS a.length false (addS T k) (a.length + b.length) i = true then 1 else 0) → WInv p q a b (offS a.length false (addS T k) (a.length + b.length)) m' es') := by
  have hk := (List.getElem?_eq_some_iff.1 hx).1
  obtain ⟨e1, e2, e3, e4, e5⟩ := hp.step h.fi h.sp hx hr h.len
  have hq : ∀ j, addS T k (a.length + j) = T (a.length + j) := fun j => by unfold addS; rw [decide_eq_false (by omega), Bool.or_false]
  refine ⟨e1, e2, e3, fun hf => ?_, fun ht m' hm' => ?_⟩
  · subst hf
    refine ⟨hI', e4, ?_, fun c h1 h2 => by rw [e5 c h1, h.no c h1 h2], mrk_at hm h.sn (by omega)⟩
    rw [e5 _ (fun e => hne e.symm)]
    exact h.sq.congr fun j hj => hq j
  · subst ht
    refine ⟨hI', e4.congr fun i hi => ?_, ?_, fun c h1 h2 => by rw [e5 c h1, h.no c h1 h2], hm'⟩
    · unfold offS; rw [if_pos ⟨by omega, by simpa using hi⟩]; rfl
    · rw [e5 _ (fun e => hne e.symm)]
      refine h.sq.congr fun j hj => ?_
      unfold offS
      rw [if_neg (by simp), hq]
/-- one of the second packet's comes -/
theorem WInv.hi {p q : Pk} {a b : List Pk} {T : Nat → Bool} {m : List (Int × Int)} {es es' : List FE} (hq : FPk q b) (hne : keyP p ≠ keyP q) (h : WInv p q a b T m es) (hm : mOk m) {k : Nat} {x r : Pk} {is : Bool} {er : Int} (hx : b[k]? = some x) (hr : InR es x r is er es') (hI' : FInv es') :
    er = 0 ∧ is = decide (cntF (addS (fun j => T (a.length + j)) k) b.length = 0) ∧ r = (if is = true then q else zPk) ∧
    (is = false → WInv p q a b (addS T (a.length + k)) (mrk m T (a.length + k)) es') ∧
    (is = true → ∀ m', (∀ i : Nat, i < a.length + b.length → (mGet m' (i : Int)).getD 0 = if offS a.length true (addS T (a.length + k)) (a.length + b.length) i = true then 1 else 0) → WInv p q a b (offS a.length true (addS T (a.length + k)) (a.length + b.length)) m' es') := by
  have hk := (List.getElem?_eq_some_iff.1 hx).1
  obtain ⟨e1, e2, e3, e4, e5⟩ := hq.step h.fi h.sq hx hr h.len
  have hqq : ∀ j, addS T (a.length + k) (a.length + j) = addS (fun j => T (a.length + j)) k j := fun j => by
    unfold addS
    congr 1
    exact decide_eq_decide.2 (by omega)
  have hpp : ∀ j, j < a.length → addS T (a.length + k) j = T j := fun j hj => by unfold addS; rw [decide_eq_false (by omega), Bool.or_false]
  refine ⟨e1, e2, e3, fun hf => ?_, fun ht m' hm' => ?_⟩
  · subst hf
    refine ⟨hI', ?_, e4.congr fun j hj => hqq j, fun c h1 h2 => by rw [e5 c h2, h.no c h1 h2], mrk_at hm h.sn (by omega)⟩
    rw [e5 _ hne]
    exact h.sp.congr hpp
  · subst ht
    refine ⟨hI', ?_, e4.congr fun i hi => ?_, fun c h1 h2 => by rw [e5 c h2, h.no c h1 h2], hm'⟩
    · rw [e5 _ hne]
      refine h.sp.congr fun j hj => ?_
      unfold offS
      rw [if_neg (by simp; omega), hpp j hj]
    · unfold offS; rw [if_pos ⟨by omega, by simp⟩]; rfl
theorem cnt_lo_off {la N : Nat} {T : Nat → Bool} (h : la ≤ N) : cntF (offS la false T N) la = la := by
  rw [cntF_congr (S := noneS) fun i hi => ?_, cntF_none]
  unfold offS; rw [if_pos ⟨by omega, by simpa using hi⟩]; rfl
theorem cnt_hi_off {la lb : Nat} {T : Nat → Bool} : cntF (fun j => offS la true T (la + lb) (la + j)) lb = lb := by
  rw [cntF_congr (S := noneS) fun i hi => ?_, cntF_none]
  unfold offS; rw [if_pos ⟨by omega, by simp⟩]; rfl
theorem cnt_lo_keep {la N : Nat} {T : Nat → Bool} : cntF (offS la true T N) la = cntF T la := cntF_congr fun i hi => by
  unfold offS; rw [if_neg (by simp; omega)]
theorem cnt_hi_keep {la lb N : Nat} {T : Nat → Bool} : cntF (fun j => offS la false T N (la + j)) lb = cntF (fun j => T (la + j)) lb := cntF_congr fun i hi => by
  show offS la false T N (la + i) = T (la + i)
  unfold offS; rw [if_neg (by simp)]
theorem cnt_lo_addhi {la k : Nat} {T : Nat → Bool} : cntF (addS T (la + k)) la = cntF T la := cntF_congr fun i hi => by unfold addS; rw [decide_eq_false (by omega), Bool.or_false]
theorem cnt_hi_addlo {la lb k : Nat} {T : Nat → Bool} (hk : k < la) : cntF (fun j => addS T k (la + j)) lb = cntF (fun j => T (la + j)) lb := cntF_congr fun i hi => by
  show addS T k (la + i) = T (la + i)
  unfold addS; rw [decide_eq_false (by omega), Bool.or_false]
theorem cnt_hi_addhi {la lb k : Nat} {T : Nat → Bool} : cntF (fun j => addS T (la + k) (la + j)) lb = cntF (addS (fun j => T (la + j)) k) lb := cntF_congr fun i hi => by
  unfold addS
  show (T (la + i) || decide (la + i = la + k)) = (T (la + i) || decide (i = k))
  congr 1
  exact decide_eq_decide.2 (by omega)
end Go.Proofs.Ytmcdmgnpbhkdhaa
