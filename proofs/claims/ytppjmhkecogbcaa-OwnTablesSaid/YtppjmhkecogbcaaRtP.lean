/- route: a tree of nodes in memory; what it says of a path of bits (plain). -/
import Derived.Test.YtppjmhkecogbcaaHand
namespace Go.Proofs.Ytppjmhkecogbcaa
open Go.RowKit
set_option linter.unusedVariables false
set_option linter.unusedSimpArgs false

inductive RT where
  | nil : RT
  | node (g : Nat) (T : TypeId) (ext : List Value) (l r : RT) (s : Bool) (v : Int) : RT
namespace RT
def ptr : RT → Value
  | nil => .pointer none
  | node g _ _ _ _ _ _ => .pointer (some ⟨g, 0, none⟩)
def cs (ext : List Value) (l r : RT) (s : Bool) (v : Int) : List Value := l.ptr :: r.ptr :: .bool s :: .int .i64 v :: ext
def res : RT → List Res
  | nil => []
  | node g T ext l r s v => atR g T (cs ext l r s v) :: (l.res ++ r.res)
def kid : RT → Bool → RT
  | nil, _ => nil
  | node _ _ _ l r _ _, b => if b then r else l
def sub : RT → List Bool → RT
  | t, [] => t
  | t, b :: p => (t.kid b).sub p
def setKid : RT → Bool → RT → RT
  | nil, _, _ => nil
  | node g T e l r s v, b, u => if b then node g T e l u s v else node g T e u r s v
def put : RT → List Bool → RT → RT
  | _, [], u => u
  | t, b :: p, u => t.setKid b ((t.kid b).put p u)
def here : RT → Option Int
  | nil => none
  | node _ _ _ _ _ s v => if s then some v else none
def get (t : RT) (p : List Bool) : Option Int := (t.sub p).here
def cnt : RT → Nat
  | nil => 0
  | node _ _ _ l r s _ => (if s then 1 else 0) + l.cnt + r.cnt
def hgt : RT → Nat
  | nil => 0
  | node _ _ _ l r _ _ => 1 + max l.hgt r.hgt
theorem ptr_nil {t : RT} (h : t.ptr = .pointer none) : t = nil := by
  cases t with
  | nil => rfl
  | node => simp [ptr] at h
theorem sub_nil : ∀ p, sub nil p = nil
  | [] => rfl
  | b :: p => sub_nil p
theorem sub_snoc : ∀ (p : List Bool) (t : RT) (b : Bool), t.sub (p ++ [b]) = (t.sub p).kid b
  | [], t, b => rfl
  | c :: p, t, b => sub_snoc p (t.kid c) b
theorem sub_app : ∀ (p q : List Bool) (t : RT), t.sub (p ++ q) = (t.sub p).sub q
  | [], q, t => rfl
  | c :: p, q, t => sub_app p q (t.kid c)
theorem get_nil (p : List Bool) : get nil p = none := by unfold get; rw [sub_nil]; rfl
theorem get_cons (t : RT) (b : Bool) (p : List Bool) : t.get (b :: p) = (t.kid b).get p := rfl
theorem get_app (t : RT) (p q : List Bool) : t.get (p ++ q) = (t.sub p).get q := by unfold get; rw [sub_app]
theorem kid_put_same (t : RT) (b : Bool) (p : List Bool) (u : RT) (h : t ≠ nil) : (t.put (b :: p) u).kid b = (t.kid b).put p u := by
  cases t with
  | nil => exact absurd rfl h
  | node g T e l r s v => cases b <;> rfl
theorem kid_put_other (t : RT) (b c : Bool) (p : List Bool) (u : RT) (h : c ≠ b) : (t.put (b :: p) u).kid c = t.kid c := by
  cases t with
  | nil => rfl
  | node g T e l r s v => cases b <;> cases c <;> first | rfl | exact absurd rfl h
theorem put_nil (b : Bool) (p : List Bool) (u : RT) : put nil (b :: p) u = nil := rfl
theorem here_put (t : RT) (b : Bool) (p : List Bool) (u : RT) : (t.put (b :: p) u).here = t.here := by
  cases t with
  | nil => rfl
  | node g T e l r s v => cases b <;> rfl
theorem ptr_put (t : RT) (b : Bool) (p : List Bool) (u : RT) : (t.put (b :: p) u).ptr = t.ptr := by
  cases t with
  | nil => rfl
  | node g T e l r s v => cases b <;> rfl
theorem ptr_put' (t : RT) (p : List Bool) (u : RT) (h : u.ptr = (t.sub p).ptr) : (t.put p u).ptr = t.ptr := by
  cases p with
  | nil => exact h
  | cons b p => exact ptr_put t b p u
/-- one place of it is turned -/
theorem get_put : ∀ (p : List Bool) (t u : RT) (x : Option Int) (q : List Bool), t.sub p ≠ nil → (∀ q, u.get q = if q = [] then x else (t.sub p).get q) → (t.put p u).get q = if q = p then x else t.get q
  | [], t, u, x, q, hn, h => h q
  | b :: p, t, u, x, q, hn, h => by
    have ht : t ≠ nil := fun e => hn (by rw [e, sub_nil])
    cases q with
    | nil =>
      rw [if_neg (by simp)]
      show (t.put (b :: p) u).here = t.here
      exact here_put t b p u
    | cons c q =>
      rw [get_cons, get_cons]
      by_cases hc : c = b
      · subst hc
        rw [kid_put_same t c p u ht, get_put p (t.kid c) u x q hn h]
        simp
      · rw [kid_put_other t b c p u hc, if_neg (by simp [hc])]
theorem cnt_put : ∀ (p : List Bool) (t u : RT), t.sub p ≠ nil → (t.put p u).cnt + (t.sub p).cnt = t.cnt + u.cnt
  | [], t, u, hn => by show u.cnt + t.cnt = _; omega
  | b :: p, t, u, hn => by
    cases t with
    | nil => exact absurd (sub_nil _) hn
    | node g T e l r s v =>
      have ih := cnt_put p ((node g T e l r s v).kid b) u hn
      cases b
      · have ih' : (l.put p u).cnt + (l.sub p).cnt = l.cnt + u.cnt := ih
        show (node g T e (l.put p u) r s v).cnt + (l.sub p).cnt = _
        simp only [cnt]; omega
      · have ih' : (r.put p u).cnt + (r.sub p).cnt = r.cnt + u.cnt := ih
        show (node g T e l (r.put p u) s v).cnt + (r.sub p).cnt = _
        simp only [cnt]; omega
theorem hgt_sub : ∀ (p : List Bool) (t : RT), t.sub p ≠ nil → p.length + (t.sub p).hgt ≤ t.hgt
  | [], t, hn => by show 0 + t.hgt ≤ t.hgt; omega
  | b :: p, t, hn => by
    cases t with
    | nil => exact absurd (sub_nil _) hn
    | node g T e l r s v =>
      have ih := hgt_sub p ((node g T e l r s v).kid b) hn
      show p.length + 1 + (((node g T e l r s v).kid b).sub p).hgt ≤ 1 + max l.hgt r.hgt
      have : ((node g T e l r s v).kid b).hgt ≤ max l.hgt r.hgt := by cases b <;> simp [kid] <;> omega
      omega
theorem hgt_put : ∀ (p : List Bool) (t u : RT), (t.put p u).hgt ≤ max t.hgt (p.length + u.hgt)
  | [], t, u => by show u.hgt ≤ max t.hgt (0 + u.hgt); omega
  | b :: p, t, u => by
    cases t with
    | nil => show 0 ≤ _; omega
    | node g T e l r s v =>
      cases b
      · have ih := hgt_put p l u
        show 1 + max (l.put p u).hgt r.hgt ≤ max (1 + max l.hgt r.hgt) (p.length + 1 + u.hgt)
        omega
      · have ih := hgt_put p r u
        show 1 + max l.hgt (r.put p u).hgt ≤ max (1 + max l.hgt r.hgt) (p.length + 1 + u.hgt)
        omega
theorem put_sub : ∀ (p : List Bool) (t u : RT), t.sub p ≠ nil → (t.put p u).sub p = u
  | [], t, u, hn => rfl
  | b :: p, t, u, hn => by
    have ht : t ≠ nil := fun e => hn (by rw [e, sub_nil])
    show ((t.put (b :: p) u).kid b).sub p = u
    rw [kid_put_same t b p u ht]
    exact put_sub p _ u hn
/-- in memory: a place taken out, and turned -/
theorem split : ∀ (p : List Bool) (t : RT), ∃ rest : List Res, (t.res).Perm ((t.sub p).res ++ rest) ∧ ∀ u : RT, u.ptr = (t.sub p).ptr → ((t.put p u).res).Perm (u.res ++ rest)
  | [], t => ⟨[], by rw [List.append_nil]; exact List.Perm.refl _, fun u _ => by rw [List.append_nil]; exact List.Perm.refl _⟩
  | b :: p, t => by
    cases t with
    | nil =>
      refine ⟨[], ?_, fun u hu => ?_⟩
      · rw [sub_nil]; exact List.Perm.nil
      · rw [sub_nil] at hu
        rw [ptr_nil hu]; exact List.Perm.nil
    | node g T e l r s v =>
      obtain ⟨rest, h1, h2⟩ := split p ((node g T e l r s v).kid b)
      cases b
      · refine ⟨atR g T (cs e l r s v) :: (rest ++ r.res), ?_, fun u hu => ?_⟩
        · have h1' : l.res.Perm ((l.sub p).res ++ rest) := h1
          show (atR g T (cs e l r s v) :: (l.res ++ r.res)).Perm ((l.sub p).res ++ atR g T (cs e l r s v) :: (rest ++ r.res))
          refine List.Perm.trans ?_ List.perm_middle.symm
          refine List.Perm.cons _ ?_
          rw [← List.append_assoc]
          exact h1'.append_right _
        · have h2' : (l.put p u).res.Perm (u.res ++ rest) := h2 u hu
          have hp : (l.put p u).ptr = l.ptr := ptr_put' l p u hu
          show (atR g T (cs e (l.put p u) r s v) :: ((l.put p u).res ++ r.res)).Perm (u.res ++ atR g T (cs e l r s v) :: (rest ++ r.res))
          have hc : cs e (l.put p u) r s v = cs e l r s v := by unfold cs; rw [hp]
          rw [hc]
          refine List.Perm.trans ?_ List.perm_middle.symm
          refine List.Perm.cons _ ?_
          rw [← List.append_assoc]
          exact h2'.append_right _
      · refine ⟨atR g T (cs e l r s v) :: (l.res ++ rest), ?_, fun u hu => ?_⟩
        · have h1' : r.res.Perm ((r.sub p).res ++ rest) := h1
          show (atR g T (cs e l r s v) :: (l.res ++ r.res)).Perm ((r.sub p).res ++ atR g T (cs e l r s v) :: (l.res ++ rest))
          refine List.Perm.trans ?_ List.perm_middle.symm
          refine List.Perm.cons _ ?_
          refine (h1'.append_left l.res).trans ?_
          rw [← List.append_assoc, ← List.append_assoc]
          exact List.perm_append_comm.append_right _
        · have h2' : (r.put p u).res.Perm (u.res ++ rest) := h2 u hu
          have hp : (r.put p u).ptr = r.ptr := ptr_put' r p u hu
          show (atR g T (cs e l (r.put p u) s v) :: (l.res ++ (r.put p u).res)).Perm (u.res ++ atR g T (cs e l r s v) :: (l.res ++ rest))
          have hc : cs e l (r.put p u) s v = cs e l r s v := by unfold cs; rw [hp]
          rw [hc]
          refine List.Perm.trans ?_ List.perm_middle.symm
          refine List.Perm.cons _ ?_
          refine (h2'.append_left l.res).trans ?_
          rw [← List.append_assoc, ← List.append_assoc]
          exact List.perm_append_comm.append_right _
/-- what prune leaves -/
def bare : RT → Bool
  | nil => true
  | node _ _ _ l r s _ => !s && (match l with | nil => true | _ => false) && (match r with | nil => true | _ => false)
def clip (u : RT) : RT := if u.bare then nil else u
def prn : RT → RT
  | nil => nil
  | node g T e l r s v => node g T e (clip l.prn) (clip r.prn) s v
theorem bare_get {u : RT} (h : u.bare = true) (q : List Bool) : u.get q = none := by
  cases u with
  | nil => exact get_nil q
  | node g T e l r s v =>
    cases l <;> cases r <;> cases s <;> simp [bare] at h
    cases q with
    | nil => rfl
    | cons b q => rw [get_cons]; cases b <;> exact get_nil q
theorem clip_get (u : RT) (q : List Bool) : u.clip.get q = u.get q := by
  unfold clip
  split
  · rename_i h; rw [bare_get h, get_nil]
  · rfl
theorem bare_cnt {u : RT} (h : u.bare = true) : u.cnt = 0 := by
  cases u with
  | nil => rfl
  | node g T e l r s v =>
    cases l <;> cases r <;> cases s <;> simp [bare] at h
    rfl
theorem clip_cnt (u : RT) : u.clip.cnt = u.cnt := by
  unfold clip
  split
  · rename_i h; rw [bare_cnt h]; rfl
  · rfl
theorem clip_hgt (u : RT) : u.clip.hgt ≤ u.hgt := by
  unfold clip
  split
  · show 0 ≤ _; omega
  · exact Nat.le_refl _
theorem prn_get : ∀ (t : RT) (q : List Bool), t.prn.get q = t.get q
  | nil, q => rfl
  | node g T e l r s v, q => by
    cases q with
    | nil => rfl
    | cons b q =>
      rw [get_cons, get_cons]
      cases b
      · show (clip l.prn).get q = l.get q
        rw [clip_get, prn_get l]
      · show (clip r.prn).get q = r.get q
        rw [clip_get, prn_get r]
theorem prn_cnt : ∀ t : RT, t.prn.cnt = t.cnt
  | nil => rfl
  | node g T e l r s v => by
    show (node g T e (clip l.prn) (clip r.prn) s v).cnt = _
    simp only [cnt, clip_cnt, prn_cnt l, prn_cnt r]
theorem prn_hgt : ∀ t : RT, t.prn.hgt ≤ t.hgt
  | nil => Nat.le_refl _
  | node g T e l r s v => by
    show (node g T e (clip l.prn) (clip r.prn) s v).hgt ≤ _
    have h1 := prn_hgt l
    have h2 := prn_hgt r
    have h3 := clip_hgt l.prn
    have h4 := clip_hgt r.prn
    simp only [hgt]; omega
/-- all that is set, a shorter one ahead of those that it has -/
def lst : RT → List Bool → List (List Bool)
  | nil, _ => []
  | node _ _ _ l r s _, p => (if s then [p] else []) ++ (l.lst (p ++ [false]) ++ r.lst (p ++ [true]))
theorem mem_lst : ∀ (t : RT) (p q : List Bool), q ∈ t.lst p ↔ ∃ s, q = p ++ s ∧ (t.get s).isSome = true
  | nil, p, q => by simp [lst, get_nil]
  | node g T e l r s v, p, q => by
    unfold lst
    rw [List.mem_append, List.mem_append, mem_lst l, mem_lst r]
    constructor
    · rintro (h | ⟨z, h1, h2⟩ | ⟨z, h1, h2⟩)
      · cases s
        · simp at h
        · simp at h
          exact ⟨[], by simp [h], rfl⟩
      · exact ⟨false :: z, by simp [h1], h2⟩
      · exact ⟨true :: z, by simp [h1], h2⟩
    · rintro ⟨z, h1, h2⟩
      cases z with
      | nil =>
        left
        cases s
        · simp [get, sub, here] at h2
        · simp [h1]
      | cons b z =>
        right
        cases b
        · exact .inl ⟨z, by simp [h1], h2⟩
        · exact .inr ⟨z, by simp [h1], h2⟩
theorem len_lst : ∀ (t : RT) (p : List Bool), (t.lst p).length = t.cnt
  | nil, p => rfl
  | node g T e l r s v, p => by
    unfold lst cnt
    rw [List.length_append, List.length_append, len_lst l, len_lst r]
    cases s <;> simp <;> omega
theorem nodup_lst : ∀ (t : RT) (p : List Bool), (t.lst p).Nodup
  | nil, p => List.nodup_nil
  | node g T e l r s v, p => by
    unfold lst
    rw [List.nodup_append, List.nodup_append]
    refine ⟨by cases s <;> simp, ⟨nodup_lst l _, nodup_lst r _, fun a ha b hb e => ?_⟩, fun a ha b hb e => ?_⟩
    · obtain ⟨z, h1, _⟩ := (mem_lst l _ _).1 ha
      obtain ⟨y, h2, _⟩ := (mem_lst r _ _).1 hb
      rw [h1, h2, List.append_assoc, List.append_assoc] at e
      have := List.append_cancel_left e
      simp at this
    · cases s
      · simp at ha
      · simp at ha
        subst ha
        rcases List.mem_append.1 hb with hb | hb
        · obtain ⟨z, h1, _⟩ := (mem_lst l _ _).1 hb
          rw [h1, List.append_assoc] at e
          have := congrArg List.length e
          simp at this
        · obtain ⟨z, h1, _⟩ := (mem_lst r _ _).1 hb
          rw [h1, List.append_assoc] at e
          have := congrArg List.length e
          simp at this
theorem lst_none (t : RT) (p : List Bool) (h : ∀ q, t.get q = none) : t.lst p = [] := by
  cases hl : t.lst p with
  | nil => rfl
  | cons q l =>
    obtain ⟨z, _, h2⟩ := (mem_lst t p q).1 (by rw [hl]; simp)
    rw [h z] at h2; cases h2
theorem lst_ext : ∀ (t u : RT) (p : List Bool), (∀ q, (t.get q).isSome = (u.get q).isSome) → t.lst p = u.lst p
  | nil, u, p, h => by
    rw [lst_none u p (fun q => by have := h q; rw [get_nil] at this; cases hg : u.get q <;> simp_all)]; rfl
  | node g T e l r s v, nil, p, h => by
    rw [lst_none (node g T e l r s v) p (fun q => by have := h q; rw [get_nil] at this; cases hg : (node g T e l r s v).get q <;> simp_all)]; rfl
  | node g T e l r s v, node g' T' e' l' r' s' v', p, h => by
    unfold lst
    rw [lst_ext l l' _ (fun q => h (false :: q)), lst_ext r r' _ (fun q => h (true :: q))]
    have h0 := h []
    have : s = s' := by cases s <;> cases s' <;> simp [get, sub, here] at h0 <;> rfl
    rw [this]
end RT
end Go.Proofs.Ytppjmhkecogbcaa
