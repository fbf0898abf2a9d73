/- PollFair: the plain law. -/
import Derived.Test.YtgdfjkdcdfmifaaPolE
import Derived.Test.YtgdfjkdcdfmifaaMapR
import Derived.Test.YtgdfjkdcdfmifaaMapI
namespace Go.Proofs.Ytgdfjkdcdfmifaa
open Go.RowKit Go.Lib
set_option linter.unusedVariables false
set_option linter.unusedSimpArgs false

theorem fair_fold (most : Int) : ∀ (l : List KW) (s : WSt) (d : Nat), (∀ x ∈ l, tellB x = true) → (s.o.length : Int) + d = most → l.foldl (wStep most) s = ⟨s.o ++ (l.take d).map outW, s.t ++ (l.take d).map toldW, s.r ++ l.drop d⟩
  | [], s, d, _, _ => by simp
  | x :: l, s, 0, h, hd => by
    rw [List.foldl_cons]
    have e : wStep most s x = ⟨s.o, s.t, s.r ++ [x]⟩ := by
      unfold wStep
      have h1 : ((s.o.length : Int) == most) = true := by simp; omega
      rw [h1, if_neg (by simp)]
    rw [e, fair_fold most l ⟨s.o, s.t, s.r ++ [x]⟩ 0 (fun y hy => h y (by simp [hy])) hd]
    simp
  | x :: l, s, d + 1, h, hd => by
    rw [List.foldl_cons]
    have e : wStep most s x = ⟨s.o ++ [outW x], s.t ++ [toldW x], s.r⟩ := by
      unfold wStep
      have h1 : ((s.o.length : Int) == most) = false := by simp; omega
      rw [h1, h x (by simp), if_pos (by simp)]
    rw [e, fair_fold most l ⟨s.o ++ [outW x], s.t ++ [toldW x], s.r⟩ d (fun y hy => h y (by simp [hy])) (by simp; omega)]
    simp
theorem fair_wait {ws : List KW} (h : ∀ x ∈ ws, tellB x = true) (mo : Nat) : wOut mo ws = (ws.take mo).map outW ∧ wRow mo ws = ws.drop mo ++ (ws.take mo).map toldW := by
  have := fair_fold mo ws ⟨[], [], []⟩ mo h (by simp)
  unfold wOut wRow wFold
  rw [this]; simp
/-- always ready, for what is asked for -/
def fairW (x : KW) : Prop := x.mask = bOr (bAnd 1 7) 4 ∧ x.ready = bAnd 1 7 ∧ x.edge = false
theorem fair_tell {x : KW} (h : fairW x) : tellB x = true := by
  obtain ⟨h1, h2, h3⟩ := h
  unfold tellB
  rw [h1, h2, h3]
  have : (bAnd (bAnd 1 7) (bOr (bAnd 1 7) 4) == 0) = false := by decide
  rw [this]; rfl
theorem fair_told {x : KW} (h : fairW x) : fairW (toldW x) := h
/-- the counts f of those in the row lie in m -/
structure Cnt (m : List (Int × Int)) (ws : List KW) (f : Int → Int) : Prop where
  ok : mOk m
  len : m.length = ws.length
  val : ∀ p ∈ m, ∃ x ∈ ws, x.fd = p.1 ∧ p.2 = f p.1
  get : ∀ x ∈ ws, mGet m x.fd = some (f x.fd)
def bump (f : Int → Int) (fd : Int) : Int → Int := fun z => if z = fd then f z + 1 else f z
def bumps (f : Int → Int) (l : List Int) : Int → Int := fun z => if z ∈ l then f z + 1 else f z
theorem Cnt.has {m : List (Int × Int)} {ws : List KW} {f : Int → Int} (h : Cnt m ws f) {x : KW} (hx : x ∈ ws) : mHas m x.fd = true := by unfold mHas; rw [h.get x hx]; rfl
theorem Cnt.congr {m : List (Int × Int)} {ws : List KW} {f g : Int → Int} (h : Cnt m ws f) (e : ∀ x ∈ ws, f x.fd = g x.fd) : Cnt m ws g :=
  ⟨h.ok, h.len, fun p hp => by
    obtain ⟨x, hx, h1, h2⟩ := h.val p hp
    exact ⟨x, hx, h1, by rw [h2, ← h1, e x hx]⟩, fun x hx => by rw [h.get x hx, e x hx]⟩
theorem Cnt.bump {m : List (Int × Int)} {ws : List KW} {f : Int → Int} (h : Cnt m ws f) {x : KW} (hx : x ∈ ws) : Cnt (mPut m x.fd (f x.fd + 1)) ws (bump f x.fd) := by
  refine ⟨mOk_put h.ok _ _, by rw [mPut_len, if_pos (h.has hx)]; exact h.len, fun p hp => ?_, fun y hy => ?_⟩
  · obtain ⟨j, hj⟩ := List.getElem?_of_mem hp
    have hg := mGet_at (mOk_put h.ok x.fd (f x.fd + 1)) hj
    by_cases e : p.1 = x.fd
    · rw [e, mGet_put_same h.ok] at hg
      exact ⟨x, hx, e.symm, by unfold Go.Proofs.Ytgdfjkdcdfmifaa.bump; rw [if_pos e, e]; exact (Option.some.inj hg).symm⟩
    · rw [mGet_put_other x.fd _ e] at hg
      obtain ⟨i, hi⟩ := mGet_some hg
      obtain ⟨y, hy, h1, h2⟩ := h.val _ (List.mem_of_getElem? hi)
      exact ⟨y, hy, h1, by unfold Go.Proofs.Ytgdfjkdcdfmifaa.bump; rw [if_neg e]; exact h2⟩
  · unfold Go.Proofs.Ytgdfjkdcdfmifaa.bump
    by_cases e : y.fd = x.fd
    · rw [e, mGet_put_same h.ok, if_pos rfl]
    · rw [mGet_put_other x.fd _ e, if_neg e]; exact h.get y hy
theorem bumps_snoc {f : Int → Int} {l : List Int} {a : Int} (ha : a ∉ l) : bump (bumps f l) a = bumps f (l ++ [a]) := by
  funext z
  unfold bump bumps
  by_cases e : z = a
  · subst e; simp [ha]
  · simp [e]
theorem bumps_nil (f : Int → Int) : bumps f [] = f := by funext z; simp [bumps]
/-- the row again, its order and marks turned -/
theorem Cnt.row {m : List (Int × Int)} {ws zs : List KW} {f : Int → Int} (h : Cnt m ws f) (e : (zs.map (·.fd)).Perm (ws.map (·.fd))) : Cnt m zs f := by
  refine ⟨h.ok, by rw [h.len]; simpa using e.length_eq.symm, fun p hp => ?_, fun z hz => ?_⟩
  · obtain ⟨x, hx, h1, h2⟩ := h.val p hp
    have : x.fd ∈ zs.map (·.fd) := e.mem_iff.2 (List.mem_map.2 ⟨x, hx, rfl⟩)
    obtain ⟨z, hz, e2⟩ := List.mem_map.1 this
    exact ⟨z, hz, e2.trans h1, h2⟩
  · have : z.fd ∈ ws.map (·.fd) := e.mem_iff.1 (List.mem_map.2 ⟨z, hz, rfl⟩)
    obtain ⟨x, hx, e2⟩ := List.mem_map.1 this
    rw [← e2]; exact h.get x hx
structure Bal (ws : List KW) (f : Int → Int) (c : Int) : Prop where
  b : ∃ A B, ws = A ++ B ∧ (∀ x ∈ A, f x.fd = c) ∧ (∀ x ∈ B, f x.fd = c + 1)
theorem Bal.rng {ws : List KW} {f : Int → Int} {c : Int} (h : Bal ws f c) {x : KW} (hx : x ∈ ws) : c ≤ f x.fd ∧ f x.fd ≤ c + 1 := by
  obtain ⟨A, B, rfl, h1, h2⟩ := h.b
  rcases List.mem_append.1 hx with hx | hx
  · rw [h1 x hx]; omega
  · rw [h2 x hx]; omega
theorem nodup_split {A B : List KW} (h : ((A ++ B).map (·.fd)).Nodup) {x y : KW} (hx : x ∈ A) (hy : y ∈ B) : x.fd ≠ y.fd := by
  rw [List.map_append, List.nodup_append] at h
  exact h.2.2 _ (List.mem_map.2 ⟨x, hx, rfl⟩) _ (List.mem_map.2 ⟨y, hy, rfl⟩)
theorem bumps_in {f : Int → Int} {A : List KW} {x : KW} (hx : x ∈ A) : bumps f (A.map (·.fd)) x.fd = f x.fd + 1 := by
  unfold bumps; rw [if_pos (List.mem_map.2 ⟨x, hx, rfl⟩)]
theorem bumps_out {f : Int → Int} {A B : List KW} (h : ((A ++ B).map (·.fd)).Nodup) {x : KW} (hx : x ∈ B) : bumps f (A.map (·.fd)) x.fd = f x.fd := by
  unfold bumps
  rw [if_neg]
  intro hm
  obtain ⟨y, hy, e⟩ := List.mem_map.1 hm
  exact nodup_split h hy hx e
theorem fair_next {ws : List KW} {f : Int → Int} {c : Int} (hI : PInv ws) (h : Bal ws f c) (mo : Nat) : ∃ c', (c' = c ∨ c' = c + 1) ∧ Bal (ws.drop mo ++ (ws.take mo).map toldW) (bumps f ((ws.take mo).map (·.fd))) c' := by
  obtain ⟨A, B, rfl, h1, h2⟩ := h.b
  have hnd := hI.nd
  have hsp : (A ++ B).take mo ++ (A ++ B).drop mo = A ++ B := List.take_append_drop _ _
  by_cases hm : mo ≤ A.length
  · refine ⟨c, .inl rfl, ⟨A.drop mo, B ++ (A.take mo).map toldW, ?_, ?_, ?_⟩⟩
    · rw [List.drop_append_of_le_length hm, List.take_append_of_le_length hm, List.append_assoc]
    · intro x hx
      rw [List.take_append_of_le_length hm, bumps_out (B := A.drop mo) (by
        rw [List.take_append_drop]
        rw [List.map_append] at hnd
        exact (List.nodup_append.1 hnd).1) hx]
      exact h1 x (List.mem_of_mem_drop hx)
    · intro x hx
      rw [List.take_append_of_le_length hm]
      rcases List.mem_append.1 hx with hx | hx
      · rw [bumps_out (B := B) (by
          have hs : (A.take mo ++ B).Sublist (A ++ B) := (List.take_sublist _ _).append_right _
          exact hnd.sublist (hs.map _)) hx]
        exact h2 x hx
      · obtain ⟨y, hy, rfl⟩ := List.mem_map.1 hx
        show bumps f ((A.take mo).map (·.fd)) y.fd = c + 1
        rw [bumps_in hy, h1 y (List.mem_of_mem_take hy)]
  · have hm2 : A.length ≤ mo := by omega
    refine ⟨c + 1, .inr rfl, ⟨B.drop (mo - A.length) ++ A.map toldW, (B.take (mo - A.length)).map toldW, ?_, ?_, ?_⟩⟩
    · rw [List.drop_append, List.take_append, List.drop_eq_nil_of_le hm2, List.take_of_length_le hm2, List.nil_append, List.map_append, List.append_assoc]
    · intro x hx
      rw [List.take_append, List.take_of_length_le hm2]
      rcases List.mem_append.1 hx with hx | hx
      · rw [bumps_out (B := B.drop (mo - A.length)) (by rw [List.append_assoc, List.take_append_drop]; exact hnd) hx]
        exact h2 x (List.mem_of_mem_drop hx)
      · obtain ⟨y, hy, rfl⟩ := List.mem_map.1 hx
        show bumps f ((A ++ B.take (mo - A.length)).map (·.fd)) y.fd = c + 1
        rw [bumps_in (List.mem_append_left _ hy), h1 y hy]
    · intro x hx
      rw [List.take_append, List.take_of_length_le hm2]
      obtain ⟨y, hy, rfl⟩ := List.mem_map.1 hx
      show bumps f ((A ++ B.take (mo - A.length)).map (·.fd)) y.fd = c + 1 + 1
      rw [bumps_in (List.mem_append_right _ hy), h2 y (List.mem_of_mem_take hy)]
theorem fair_fds (ws : List KW) (mo : Nat) : ((ws.drop mo ++ (ws.take mo).map toldW).map (·.fd)).Perm (ws.map (·.fd)) := by
  have h1 : ((ws.take mo).map toldW).map (·.fd) = (ws.take mo).map (·.fd) := by rw [List.map_map]; rfl
  rw [List.map_append, h1]
  refine (List.perm_append_comm).trans ?_
  rw [← List.map_append, List.take_append_drop]
/-- the first loop -/
theorem fair_set {ws ws1 ws2 : List KW} {m : List (Int × Int)} {fd n : Int} (hI : PInv ws) (hf : ∀ x ∈ ws, fairW x) (hc : Cnt m ws (fun _ => 0)) (hs : SetRel ws fd 1 false n ws1) (hn : NoteRel ws1 fd 1 ws2) (h0 : 0 ≤ fd ∧ fd < 16) :
    n = 0 ∧ (∀ x ∈ ws2, fairW x) ∧ Cnt (mPut m fd 0) ws2 (fun _ => 0) := by
  have hI1 := hs.inv hI
  have hm : ∀ x ∈ ws1, x.fd = fd → x.mask = bOr (bAnd 1 7) 4 ∧ x.edge = false := by
    intro x hx e
    rcases hs with ⟨_, h, _⟩ | ⟨_, _, ⟨k, y, h1, h2, rfl⟩ | ⟨h1, gw, rfl⟩⟩
    · omega
    · rcases List.mem_or_eq_of_mem_set hx with hx | rfl
      · obtain ⟨a, b, c⟩ := hf x hx; exact ⟨a, c⟩
      · exact ⟨rfl, rfl⟩
    · rcases List.mem_append.1 hx with hx | hx
      · obtain ⟨a, b, c⟩ := hf x hx; exact ⟨a, c⟩
      · rw [List.mem_singleton.1 hx]; exact ⟨rfl, rfl⟩
  have hfd2 : ws2.map (·.fd) = ws1.map (·.fd) := by
    rcases hn with ⟨k, x, h1, h2, rfl⟩ | ⟨_, rfl⟩
    · exact map_fd_set h1 rfl
    · rfl
  refine ⟨?_, ?_, ?_⟩
  · rcases hs with ⟨_, h, _⟩ | ⟨h, _⟩
    · omega
    · exact h
  · intro x hx
    rcases hn with ⟨k, y, h1, h2, rfl⟩ | ⟨h1, rfl⟩
    · rcases List.mem_or_eq_of_mem_set hx with hx | rfl
      · by_cases e : x.fd = fd
        · -- the same watch: not in the row any more, or it is as it was noted
          rcases NoteRel.mem (.inl ⟨k, y, h1, h2, rfl⟩ : NoteRel ws1 fd 1 (ws1.set k (noteW y 1))) hI1 (by assumption) with ⟨_, h3⟩ | ⟨h3, _⟩
          · obtain ⟨a, b⟩ := hm x hx e; exact ⟨a, h3, b⟩
          · exact absurd e h3
        · rcases hs.mem hx with h3 | h3
          · exact absurd h3 e
          · exact hf x h3
      · obtain ⟨a, b⟩ := hm y (List.mem_of_getElem? h1) h2; exact ⟨a, rfl, b⟩
    · rcases hs.mem hx with h3 | h3
      · exact absurd h3 (h1 x hx)
      · exact hf x h3
  · have key : Cnt (mPut m fd 0) ws1 (fun _ => 0) := by
      rcases hs with ⟨_, h, _⟩ | ⟨_, _, ⟨k, y, h1, h2, rfl⟩ | ⟨h1, gw, rfl⟩⟩
      · omega
      · have hy := List.mem_of_getElem? h1
        have hg := hc.get y hy
        rw [h2] at hg
        have hb : Cnt (mPut m fd 0) ws (fun _ => 0) := by
          refine ⟨mOk_put hc.ok _ _, by rw [mPut_len, if_pos (by unfold mHas; rw [hg]; rfl)]; exact hc.len, fun p hp => ?_, fun x hx => ?_⟩
          · obtain ⟨j, hj⟩ := List.getElem?_of_mem hp
            have hg2 := mGet_at (mOk_put hc.ok fd 0) hj
            by_cases e : p.1 = fd
            · rw [e, mGet_put_same hc.ok] at hg2
              exact ⟨y, hy, by rw [h2, e], (Option.some.inj hg2).symm⟩
            · rw [mGet_put_other fd _ e] at hg2
              obtain ⟨i, hi⟩ := mGet_some hg2
              exact hc.val _ (List.mem_of_getElem? hi)
          · by_cases e : x.fd = fd
            · rw [e, mGet_put_same hc.ok]
            · rw [mGet_put_other fd _ e]; exact hc.get x hx
        exact hb.row (by rw [map_fd_set (y := setW y 1 false) h1 rfl])
      · have hno : mHas m fd = false := by
          cases hh : mHas m fd
          · rfl
          · obtain ⟨p, hp, e⟩ := mHas_iff.1 hh
            obtain ⟨x, hx, e2, _⟩ := hc.val p hp
            exact absurd (e2.trans e) (h1 x hx)
        refine ⟨mOk_put hc.ok _ _, by rw [mPut_len, if_neg (by rw [hno]; simp)]; simp [hc.len], fun p hp => ?_, fun x hx => ?_⟩
        · unfold mPut at hp
          rw [if_neg (by rw [hno]; simp)] at hp
          rcases List.mem_append.1 hp with hp | hp
          · obtain ⟨x, hx, a, b⟩ := hc.val p hp
            exact ⟨x, List.mem_append_left _ hx, a, b⟩
          · rw [List.mem_singleton.1 hp]
            exact ⟨_, List.mem_append_right _ (List.mem_singleton.2 rfl), rfl, rfl⟩
        · rcases List.mem_append.1 hx with hx | hx
          · rw [mGet_put_other fd _ (h1 x hx)]; exact hc.get x hx
          · rw [List.mem_singleton.1 hx]
            exact mGet_put_same hc.ok fd 0
    exact key.row (by rw [hfd2])
end Go.Proofs.Ytgdfjkdcdfmifaa
