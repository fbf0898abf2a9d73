/- route: laws of what a table says (plain). Written by my genrtw.py. -/
import Derived.Test.YtppjmhkecogbcaaRtI
namespace Go.Proofs.Ytppjmhkecogbcaa
open Go.RowKit Go.Lib
set_option linter.unusedVariables false
set_option linter.unusedSimpArgs false


theorem rows_kept {w w' : World} {A : Option Addr} {n : Nat} {ks : List Kd} {css : Nat → List Value} (h : Rows_ w A n ks css) (hb : Below w.heap.size w w') : Rows_ w' A n ks css :=
  ⟨fun i hi => by
    obtain ⟨b, off, e, hr⟩ := h.at_ i hi
    exact ⟨b, off, e, range_kept hr hb⟩, h.ok⟩
theorem front_hand {E : Nat → Prop} {w W : World} (A : List Res) {B : List Res} (h : MemX E w W (A ++ B)) : MemX (blkE B) W W B := (h.perm List.perm_append_comm).hand
theorem front_back {E : Nat → Prop} {w W W' : World} (A : List Res) {B B' : List Res} (h : MemX E w W (A ++ B)) (h' : MemX (blkE B) W W' B') : MemX E w W' (A ++ B') := ((h.perm List.perm_append_comm).back h').perm List.perm_append_comm
theorem keep_mid {E : Nat → Prop} {w W : World} {A B C : List Res} (h : MemX E w W (A ++ (B ++ C))) : MemX E w W (A ++ B) := by
  rw [← List.append_assoc] at h
  exact keep_left h
theorem last_first {E : Nat → Prop} {w W : World} {A B : List Res} {r : Res} (h : MemX E w W (A ++ (B ++ [r]))) : MemX E w W (r :: (A ++ B)) := by
  rw [← List.append_assoc] at h
  exact h.perm List.perm_append_comm
theorem eq_perm (a b c d : Res) (L : List Res) : (a :: b :: c :: d :: L).Perm ([a, d] ++ (b :: c :: L)) := List.Perm.cons _ (p3 d b c L).symm
theorem eq_perm2 (a b c : Res) (L : List Res) : (a :: b :: c :: L).Perm ([a, c] ++ (b :: L)) := List.Perm.cons _ (List.Perm.swap _ _ _)
theorem rows_none (w : World) (ks : List Kd) : Rows_ w none 0 ks (fun _ => []) := ⟨fun i h => absurd h (by omega), fun i h => absurd h (by omega)⟩
theorem last_front {E : Nat → Prop} {w W : World} {l : List Res} {A : Res} (h : MemX E w W (l ++ [A])) : MemX E w W (A :: l) := h.perm List.perm_append_comm
/-- what an address has nothing of is of no matter for it -/
theorem bst_apart {G G' : List Bool → Option Int} {p k a : Nat} (hp : okP p k) (ha : a < 2 ^ 32) (hno : hasB p k a = false) (x : Option Int) (h : ∀ q, G' q = if q = path p k then x else G q) : bst G' a 33 = bst G a 33 := by
  refine bst_congr (fun i hi => ?_) 33 (Nat.le_refl _)
  rw [h]
  rw [if_neg]
  intro e
  have hl := congrArg List.length e
  rw [path_len, path_len] at hl
  subst hl
  have := (has_path hp ha).2 e
  rw [hno] at this
  cases this
theorem add_apart {t t' : RT} {m m' p a : Nat} {n via e : Int} (h : AddR t m p n via e t' m') (ha : a < 2 ^ 32) (hno : hasB p n a = false) : bst t'.get a 33 = bst t.get a 33 := by
  rcases h with ⟨_, _, rfl, _⟩ | ⟨k, rfl, hok, ⟨_, _, rfl, _⟩ | ⟨_, _, _, rfl, _⟩ | ⟨_, _, _, _, hq⟩⟩
  · rfl
  · rfl
  · rfl
  · exact bst_apart hok ha hno _ hq


theorem bst_okP {G : List Bool → Option Int} {a k : Nat} {v : Int} (h : bst G a 33 = some (k, v)) : okP (num (path a k)) k ∧ path (num (path a k)) k = path a k := by
  have h1 := (bst_lt h).1
  have hl : (path a k).length ≤ 32 := by rw [path_len]; omega
  have h2 := num_okP hl
  have h3 := path_num (path a k) hl
  rw [path_len] at h2 h3
  exact ⟨h2, h3⟩
/-- the longest one is dropped: a shorter one is told, that has it, or none -/
theorem drop_best {t t' : RT} {m m' a k : Nat} {v e : Int} (ha : a < 2 ^ 32) (ho : bst t.get a 33 = some (k, v)) (h : DropR t m (num (path a k)) k e t' m') :
    e = 0 ∧ (bst t'.get a 33 = none ∨ ∃ j u, bst t'.get a 33 = some (j, u) ∧ j < k ∧ hasB ((num (path a j) : Nat) : Int) j ((num (path a k) : Nat) : Int) = true) := by
  obtain ⟨hok, hp⟩ := bst_okP ho
  have h1 := bst_lt ho
  rcases h with ⟨hc, _⟩ | ⟨k', hk, _, ⟨hg, _⟩ | ⟨_, he, _, _, hq⟩⟩
  · exact absurd (okP_chk hok) hc
  · obtain rfl : k = k' := by omega
    rw [hp, h1.2] at hg; cases hg
  · obtain rfl : k = k' := by omega
    refine ⟨he, ?_⟩
    rw [hp] at hq
    cases ho' : bst t'.get a 33 with
    | none => exact .inl rfl
    | some z =>
      obtain ⟨j, u⟩ := z
      right
      refine ⟨j, u, rfl, ?_, ?_⟩
      · have h2 := bst_lt ho'
        rw [hq] at h2
        have hjk : path a j ≠ path a k := fun e => by rw [if_pos e] at h2; cases h2.2
        rw [if_neg hjk] at h2
        rcases Nat.lt_trichotomy j k with h3 | h3 | h3
        · exact h3
        · rw [h3] at hjk; exact absurd rfl hjk
        · rw [bst_max ho j h3 (by omega)] at h2; cases h2.2
      · have h2 := bst_lt ho'
        have hjk : j < k := by
          rw [hq] at h2
          have hjk : path a j ≠ path a k := fun e => by rw [if_pos e] at h2; cases h2.2
          rw [if_neg hjk] at h2
          rcases Nat.lt_trichotomy j k with h3 | h3 | h3
          · exact h3
          · rw [h3] at hjk; exact absurd rfl hjk
          · rw [bst_max ho j h3 (by omega)] at h2; cases h2.2
        have hok2 := (bst_okP ho').1
        refine (has_path hok2 hok.2.1).2 ?_
        have h4 := (bst_okP ho').2
        rw [h4, ← path_take (Nat.le_of_lt hjk) (a := num (path a k)) , hp, path_take (Nat.le_of_lt hjk)]
theorem ok00 : okP 0 0 := ⟨by decide, by decide, by decide⟩
/-- all addresses have a way, or the table is full -/
theorem add_all {t t' t2 : RT} {m m' m2 a : Nat} {e e2 v : Int} (hd : DropR t m 0 0 e t' m') (ha : AddR t' m' 0 0 v e2 t2 m2) :
    (e2 = 0 ∧ ∃ z, bst t2.get a 33 = some z) ∨ (e2 = 9 ∧ m2 = 64) := by
  have hn : t'.get [] = none := by
    rcases hd with ⟨hc, _⟩ | ⟨k, hk, _, ⟨hg, _, rfl, _⟩ | ⟨_, _, _, _, hq⟩⟩
    · exact absurd (okP_chk ok00) hc
    · obtain rfl : k = 0 := by omega
      exact hg
    · obtain rfl : k = 0 := by omega
      rw [hq]; rfl
  rcases ha with ⟨hc, _⟩ | ⟨k, hk, _, ⟨hg, _⟩ | ⟨_, h64, he, _, hm⟩ | ⟨_, _, he, _, hq⟩⟩
  · exact absurd (okP_chk ok00) hc
  · obtain rfl : k = 0 := by omega
    rw [show path 0 0 = [] from rfl, hn] at hg; cases hg
  · exact .inr ⟨he, by omega⟩
  · obtain rfl : k = 0 := by omega
    refine .inl ⟨he, ?_⟩
    cases hb : bst t2.get a 33 with
    | some z => exact ⟨z, rfl⟩
    | none =>
      have := bst_none hb 0 (by omega)
      rw [hq] at this
      simp [path_zero] at this


/-- what All tells: each is a prefix, and is there -/
theorem lst_mem {g m : Nat} {t : RT} (hT : Tab g t m) {q : List Bool} (hq : q ∈ t.lst []) : q.length ≤ 32 ∧ (t.get q).isSome = true := by
  obtain ⟨s, h1, h2⟩ := (RT.mem_lst t [] q).1 hq
  rw [List.nil_append] at h1
  subst h1
  refine ⟨?_, h2⟩
  have hne : t.sub q ≠ .nil := fun e => by unfold RT.get at h2; rw [e] at h2; simp [RT.here] at h2
  have h3 := RT.hgt_sub q t hne
  have h4 := hT.hgt
  have h5 : 1 ≤ (t.sub q).hgt := by
    cases h : t.sub q with
    | nil => exact absurd h hne
    | node => simp [RT.hgt]
  omega
theorem mem_of_get {t : RT} {q : List Bool} (h : (t.get q).isSome = true) : q ∈ t.lst [] := (RT.mem_lst t [] q).2 ⟨q, by simp, h⟩
theorem num_inj {p q : List Bool} (hp : p.length ≤ 32) (h : num p = num q) (hl : p.length = q.length) : p = q := by
  rw [← path_num p hp, ← path_num q (by omega), h, hl]
def mx (a b : Int) : Int := if a < b then b else a
theorem mx_comm3 (a b c : Int) : mx (mx a b) c = mx (mx a c) b := by unfold mx; (repeat' split) <;> omega
/-- the best so far, and how often it was seen -/
def bestZ (c : Nat) : List (List Bool) → Int
  | [] => -1
  | q :: l => if hasB ((num q : Nat) : Int) q.length c = true then mx (bestZ c l) q.length else bestZ c l
def manyZ (p : List Bool) (l : List (List Bool)) : Nat := l.count p
theorem bestZ_snoc (c : Nat) (q : List Bool) : ∀ l, bestZ c (l ++ [q]) = if hasB ((num q : Nat) : Int) q.length c = true then mx (bestZ c l) q.length else bestZ c l
  | [] => by
    show (if _ then mx (bestZ c []) _ else bestZ c []) = _
    rfl
  | x :: l => by
    show (if _ then mx (bestZ c (l ++ [q])) _ else bestZ c (l ++ [q])) = _
    rw [bestZ_snoc c q l]
    show _ = if _ then mx (if _ then mx (bestZ c l) _ else bestZ c l) _ else (if _ then mx (bestZ c l) _ else bestZ c l)
    split <;> split <;> first | rfl | exact mx_comm3 _ _ _
theorem bestZ_lo (c : Nat) : ∀ l, -1 ≤ bestZ c l
  | [] => by show (-1 : Int) ≤ -1; omega
  | q :: l => by
    have := bestZ_lo c l
    show -1 ≤ if _ then mx (bestZ c l) _ else bestZ c l
    split
    · unfold mx; split <;> omega
    · omega
theorem bestZ_hi (c : Nat) : ∀ l : List (List Bool), (∀ q ∈ l, q.length ≤ 32) → bestZ c l ≤ 32
  | [], _ => by show (-1 : Int) ≤ 32; omega
  | q :: l, h => by
    have := bestZ_hi c l (fun x hx => h x (by simp [hx]))
    have h2 := h q (by simp)
    show (if _ then mx (bestZ c l) _ else bestZ c l) ≤ 32
    split
    · unfold mx; split <;> omega
    · omega
theorem bestZ_of (c : Nat) (k : Int) : ∀ l : List (List Bool), (∀ q ∈ l, hasB ((num q : Nat) : Int) q.length c = true → (q.length : Int) ≤ k) → -1 ≤ k → bestZ c l ≤ k
  | [], _, h => h
  | q :: l, h, hk => by
    have := bestZ_of c k l (fun x hx => h x (by simp [hx])) hk
    have h2 := h q (by simp)
    show (if _ then mx (bestZ c l) _ else bestZ c l) ≤ k
    split
    · rename_i h3
      have := h2 h3
      unfold mx; split <;> omega
    · omega
theorem bestZ_ge (c : Nat) {q : List Bool} (hh : hasB ((num q : Nat) : Int) q.length c = true) : ∀ l : List (List Bool), q ∈ l → (q.length : Int) ≤ bestZ c l
  | x :: l, h => by
    show _ ≤ if _ then mx (bestZ c l) _ else bestZ c l
    rcases List.mem_cons.1 h with rfl | h
    · rw [if_pos hh]; unfold mx; split <;> omega
    · have := bestZ_ge c hh l h
      split
      · unfold mx; split <;> omega
      · exact this
theorem count_one : ∀ {l : List (List Bool)} {x : List Bool}, l.Nodup → x ∈ l → l.count x = 1
  | y :: l, x, hn, hx => by
    have h1 := List.nodup_cons.1 hn
    rw [List.count_cons]
    rcases List.mem_cons.1 hx with rfl | h
    · rw [List.count_eq_zero.2 h1.1]; simp
    · rw [count_one h1.2 h]
      have : y ≠ x := fun e => h1.1 (e ▸ h)
      simp [this]
theorem best_none {g m c : Nat} {t : RT} (hT : Tab g t m) (hc : c < 2 ^ 32) (ho : bst t.get c 33 = none) : bestZ c (t.lst []) = -1 := by
  have h1 := bestZ_of c (-1) (t.lst []) (fun q hq hh => by
    obtain ⟨hl, hg⟩ := lst_mem hT hq
    have h2 := (has_path (num_okP hl) hc).1 hh
    rw [path_num q hl] at h2
    have h3 := bst_none ho q.length (by omega)
    rw [h2] at h3
    rw [h3] at hg; cases hg) (by omega)
  have h2 := bestZ_lo c (t.lst [])
  omega
theorem best_some {g m c k : Nat} {v : Int} {t : RT} (hT : Tab g t m) (hc : c < 2 ^ 32) (ho : bst t.get c 33 = some (k, v)) :
    bestZ c (t.lst []) = k ∧ (t.lst []).count (path c k) = 1 ∧ hasB ((num (path c k) : Nat) : Int) k c = true := by
  have h1 := bst_lt ho
  have hmem : path c k ∈ t.lst [] := mem_of_get (by rw [h1.2]; rfl)
  have hl := (lst_mem hT hmem).1
  have hh : hasB ((num (path c k) : Nat) : Int) (path c k).length c = true := by
    refine (has_path (num_okP hl) hc).2 ?_
    rw [path_num _ hl, path_len]
  rw [path_len] at hh hl
  refine ⟨?_, count_one (RT.nodup_lst t []) hmem, hh⟩
  have h2 := bestZ_of c k (t.lst []) (fun q hq hh2 => by
    obtain ⟨hl2, hg⟩ := lst_mem hT hq
    have h3 := (has_path (num_okP hl2) hc).1 hh2
    rw [path_num q hl2] at h3
    rcases Nat.lt_or_ge k q.length with h4 | h4
    · have h5 := bst_max ho q.length h4 (by omega)
      rw [h3] at h5
      rw [h5] at hg; cases hg
    · omega) (by omega)
  have h3 := bestZ_ge c (q := path c k) (by rw [path_len]; exact hh) (t.lst []) hmem
  rw [path_len] at h3
  omega


/-- the first k of what All told are dropped -/
theorem drop_next {t tk t' : RT} {m' m2 k : Nat} {q : List Bool} {e : Int} {g m : Nat} (hT : Tab g t m) (hq : (t.lst [])[k]? = some q)
    (hk : ∀ x, tk.get x = if x ∈ (t.lst []).take k then none else t.get x) (h : DropR tk m' (num q) q.length e t' m2) :
    e = 0 ∧ ∀ x, t'.get x = if x ∈ (t.lst []).take (k + 1) then none else t.get x := by
  have hm := List.mem_of_getElem? hq
  obtain ⟨hl, hg⟩ := lst_mem hT hm
  have hnm : q ∉ (t.lst []).take k := by
    intro hm2
    have hn := RT.nodup_lst t []
    rw [← List.take_append_drop k (t.lst []), List.nodup_append] at hn
    exact hn.2.2 q hm2 q (List.mem_of_getElem? (i := 0) (by rw [List.getElem?_drop]; simpa using hq)) rfl
  have hgk : (tk.get q).isSome = true := by rw [hk, if_neg hnm]; exact hg
  rcases h with ⟨hc, _⟩ | ⟨j, hj, _, ⟨hg2, _⟩ | ⟨_, he, _, _, hq2⟩⟩
  · exact absurd (okP_chk (num_okP hl)) hc
  · obtain rfl : q.length = j := by omega
    rw [path_num q hl] at hg2
    rw [hg2] at hgk; cases hgk
  · obtain rfl : q.length = j := by omega
    rw [path_num q hl] at hq2
    refine ⟨he, fun x => ?_⟩
    rw [hq2, hk, List.take_add_one, hq, Option.toList_some]
    by_cases hx : x = q
    · simp [hx]
    · rw [if_neg hx]; simp [hx]
theorem all_gone {g' m' : Nat} {t t' : RT} (hT' : Tab g' t' m') (h : ∀ x, t'.get x = if x ∈ (t.lst []) then none else t.get x) : (∀ x, t'.get x = none) ∧ m' = 0 := by
  have h1 : ∀ x, t'.get x = none := fun x => by
    rw [h]
    split
    · rfl
    · rename_i hn
      cases hg : t.get x with
      | none => rfl
      | some v => exact absurd (mem_of_get (by rw [hg]; rfl)) hn
  refine ⟨h1, ?_⟩
  have h2 := RT.len_lst t' []
  rw [RT.lst_none t' [] h1] at h2
  rw [← hT'.cnt, ← h2]; rfl
theorem bst_empty {G : List Bool → Option Int} (a : Nat) (h : ∀ x, G x = none) : bst G a 33 = none := by
  cases hb : bst G a 33 with
  | none => rfl
  | some z => have := (bst_lt (j := z.1) (v := z.2) hb).2; rw [h] at this; cases this
theorem add_empty {t t' : RT} {m m' : Nat} {e v : Int} (h0 : ∀ x, t.get x = none) (hm : m < 64) (h : AddR t m 0 0 v e t' m') : e = 0 := by
  rcases h with ⟨hc, _⟩ | ⟨k, hk, _, ⟨hg, _⟩ | ⟨_, h64, _⟩ | ⟨_, _, he, _⟩⟩
  · exact absurd (okP_chk ok00) hc
  · rw [h0] at hg; cases hg
  · omega
  · exact he


/-- what was added and dropped was never there -/
theorem add_drop {t t1 t2 t3 : RT} {m m1 m2 m3 a : Nat} {n v e1 e2 : Int} (h1 : AddR t m a n v 0 t1 m1) (h2 : DropR t1 m1 a n e1 t2 m2) (h3 : DropR t2 m2 a n e2 t3 m3) :
    e1 = 0 ∧ e2 = 7 ∧ ∀ q, t3.get q = t.get q := by
  rcases h1 with ⟨hc, he, _⟩ | ⟨k, rfl, hok, ⟨_, he, _⟩ | ⟨_, _, he, _⟩ | ⟨hg, _, _, _, hq⟩⟩
  · exact absurd he.symm hc
  · omega
  · omega
  · have hg1 : t1.get (path a k) = some v := by rw [hq, if_pos rfl]
    rcases h2 with ⟨hc, _⟩ | ⟨k2, hk2, _, ⟨hg2, _⟩ | ⟨_, he2, _, _, hq2⟩⟩
    · exact absurd (okP_chk hok) hc
    · obtain rfl : k = k2 := by omega
      rw [hg1] at hg2; cases hg2
    · obtain rfl : k = k2 := by omega
      have h4 : ∀ q, t2.get q = t.get q := fun q => by
        rw [hq2, hq]
        by_cases e : q = path a k
        · rw [if_pos e, e, hg]
        · rw [if_neg e, if_neg e]
      rcases h3 with ⟨hc, _⟩ | ⟨k3, hk3, _, ⟨_, he3, rfl, _⟩ | ⟨hg3, _⟩⟩
      · exact absurd (okP_chk hok) hc
      · exact ⟨he2, he3, h4⟩
      · obtain rfl : k = k3 := by omega
        rw [h4, hg] at hg3; cases hg3
theorem drop_added {t t1 t2 : RT} {m m1 m2 a : Nat} {n v e1 : Int} (h1 : AddR t m a n v 0 t1 m1) (h2 : DropR t1 m1 a n e1 t2 m2) : e1 = 0 := by
  rcases h1 with ⟨hc, he, _⟩ | ⟨k, rfl, hok, ⟨_, he, _⟩ | ⟨_, _, he, _⟩ | ⟨hg, _, _, _, hq⟩⟩
  · exact absurd he.symm hc
  · omega
  · omega
  · rcases h2 with ⟨hc, _⟩ | ⟨k2, hk2, _, ⟨hg2, _⟩ | ⟨_, he2, _⟩⟩
    · exact absurd (okP_chk hok) hc
    · obtain rfl : k = k2 := by omega
      rw [hq, if_pos rfl] at hg2; cases hg2
    · exact he2
theorem add_same {t t1 : RT} {m m1 a : Nat} {n v e : Int} (h1 : AddR t m a n v e t1 m1) (he : e ≠ 0) : t1 = t ∧ m1 = m := by
  rcases h1 with ⟨_, _, h, h'⟩ | ⟨_, _, _, ⟨_, _, h, h'⟩ | ⟨_, _, _, h, h'⟩ | ⟨_, _, h, _⟩⟩
  · exact ⟨h, h'⟩
  · exact ⟨h, h'⟩
  · exact ⟨h, h'⟩
  · exact absurd h he
theorem bst_same {t t' : RT} (a : Nat) (h : ∀ q, t'.get q = t.get q) : bst t'.get a 33 = bst t.get a 33 := bst_congr (fun i _ => h _) 33 (Nat.le_refl _)
theorem lst_same {t t' : RT} (h : ∀ q, t'.get q = t.get q) : t'.lst [] = t.lst [] := RT.lst_ext t' t [] (fun q => by rw [h])
/-- one more of what is there is added to another table -/
theorem add_next {g m : Nat} {t u u' : RT} {mu mu' k : Nat} {q : List Bool} {v e : Int} (hT : Tab g t m) (hq : (t.lst [])[k]? = some q) (hmu : mu + (k + 1) = m)
    (hu : ∀ x, (u.get x).isSome = true ↔ x ∈ (t.lst []).drop (k + 1)) (h : AddR u mu (num q) q.length v e u' mu') :
    e = 0 ∧ mu' + k = m ∧ ∀ x, (u'.get x).isSome = true ↔ x ∈ (t.lst []).drop k := by
  have hm := List.mem_of_getElem? hq
  obtain ⟨hl, hg⟩ := lst_mem hT hm
  have hkl := (List.getElem?_eq_some_iff.1 hq).1
  have hdk : (t.lst []).drop k = q :: (t.lst []).drop (k + 1) := by
    rw [List.drop_eq_getElem_cons hkl]
    congr 1
    exact (List.getElem?_eq_some_iff.1 hq).2
  have hn := RT.nodup_lst t []
  have hnm : q ∉ (t.lst []).drop (k + 1) := by
    have h1 : ((t.lst []).drop k).Nodup := hn.sublist (List.drop_sublist _ _)
    rw [hdk, List.nodup_cons] at h1
    exact h1.1
  have hgu : u.get q = none := by
    cases hx : u.get q with
    | none => rfl
    | some y => exact absurd ((hu q).1 (by rw [hx]; rfl)) hnm
  rcases h with ⟨hc, _⟩ | ⟨j, hj, _, ⟨hg2, _⟩ | ⟨_, h64, _⟩ | ⟨_, _, he, hmm, hq2⟩⟩
  · exact absurd (okP_chk (num_okP hl)) hc
  · obtain rfl : q.length = j := by omega
    rw [path_num q hl, hgu] at hg2; cases hg2
  · have := hT.m64
    omega
  · obtain rfl : q.length = j := by omega
    rw [path_num q hl] at hq2
    refine ⟨he, by omega, fun x => ?_⟩
    rw [hq2, hdk, List.mem_cons, ← hu x]
    by_cases hx : x = q
    · simp [hx]
    · simp [hx]
/-- two tables of the same prefixes -/
theorem same_set {g m : Nat} {t u : RT} (hT : Tab g t m) (h : ∀ x, (u.get x).isSome = true ↔ x ∈ (t.lst []).drop 0) : (∀ x, (u.get x).isSome = (t.get x).isSome) := fun x => by
  rw [Bool.eq_iff_iff, h x, List.drop_zero]
  constructor
  · intro hx; exact (lst_mem hT hx).2
  · intro hx; exact mem_of_get hx
theorem oA_fst {a : Nat} {o o' : Option (Nat × Int)} (h : o.map (·.1) = o'.map (·.1)) : oA a o = oA a o' ∧ oN o = oN o' ∧ oB o = oB o' := by
  cases o with
  | none => cases o' with
    | none => exact ⟨rfl, rfl, rfl⟩
    | some z => simp at h
  | some y => cases o' with
    | none => simp at h
    | some z =>
      simp at h
      obtain ⟨y1, y2⟩ := y
      obtain ⟨z1, z2⟩ := z
      simp at h
      subst h
      exact ⟨rfl, rfl, rfl⟩

end Go.Proofs.Ytppjmhkecogbcaa
