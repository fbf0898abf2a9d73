/- route: a node is made, or set (plain). -/
import Derived.Test.YtppjmhkecogbcaaRtC
namespace Go.Proofs.Ytppjmhkecogbcaa
open Go.RowKit
set_option linter.unusedVariables false
set_option linter.unusedSimpArgs false

def newN (g : Nat) : RT := .node g 67 [] .nil .nil false 0
theorem newN_get (g : Nat) (q : List Bool) : (newN g).get q = none := RT.bare_get rfl q
theorem shape_put {g g' : Nat} {T T' : TypeId} {x e : List Value} {t l1 r1 l2 r2 : RT} {s1 s2 : Bool} {v1 v2 : Int} {p : List Bool}
    (hs : ∃ l r s v, t = .node g T x l r s v) (hu : t.sub p = .node g' T' e l1 r1 s1 v1) : ∃ l r s v, t.put p (.node g' T' e l2 r2 s2 v2) = .node g T x l r s v := by
  obtain ⟨l, r, s, v, rfl⟩ := hs
  cases p with
  | nil =>
    have h : RT.node g T x l r s v = .node g' T' e l1 r1 s1 v1 := hu
    injection h with h1 h2 h3
    subst h1 h2 h3
    exact ⟨_, _, _, _, rfl⟩
  | cons b p =>
    cases b
    · exact ⟨_, _, _, _, rfl⟩
    · exact ⟨_, _, _, _, rfl⟩
theorem get_node {t : RT} {p : List Bool} {g : Nat} {T : TypeId} {e : List Value} {l r : RT} {s : Bool} {v : Int} (h : t.sub p = .node g T e l r s v) : t.get p = if s then some v else none := by
  unfold RT.get; rw [h]; rfl
/-- a new node hung under a place that has none there -/
structure Graft (g m : Nat) (t t' : RT) (p : List Bool) (b : Bool) (gn : Nat) : Prop where
  get : ∀ q, t'.get q = t.get q
  cnt : t'.cnt = t.cnt
  hgt : t'.hgt ≤ 33
  shape : ∃ l r s v, t' = .node g 69 [.int .i64 m] l r s v
  sub : t'.sub (p ++ [b]) = newN gn
theorem graft {g m g' gn : Nat} {T : TypeId} {e : List Value} {t l r : RT} {s : Bool} {v : Int} {p : List Bool} (b : Bool)
    (hs : ∃ l r s v, t = .node g 69 [.int .i64 m] l r s v) (hh : t.hgt ≤ 33) (hp : p.length ≤ 31) (hu : t.sub p = .node g' T e l r s v) (hk : (if b then r else l) = .nil) :
    Graft g m t (t.put p ((RT.node g' T e l r s v).setKid b (newN gn))) p b gn := by
  have hne : t.sub p ≠ .nil := by rw [hu]; intro h; cases h
  have h1 := RT.hgt_sub p t hne
  rw [hu] at h1
  refine ⟨fun q => ?_, ?_, ?_, ?_, ?_⟩
  · rw [RT.get_put p t _ (t.get p) q hne]
    · split
      · rename_i h; rw [h]
      · rfl
    · intro q
      rw [hu]
      cases q with
      | nil =>
        rw [if_pos rfl, get_node hu]
        cases b <;> rfl
      | cons c q =>
        rw [if_neg (by simp)]
        rw [RT.get_cons, RT.get_cons]
        cases b <;> cases c <;> simp only [RT.setKid, RT.kid, if_true, if_false, Bool.false_eq_true, newN_get] at hk ⊢
        · rw [hk, RT.get_nil]
        · rw [hk, RT.get_nil]
  · have h2 := RT.cnt_put p t ((RT.node g' T e l r s v).setKid b (newN gn)) hne
    rw [hu] at h2
    have h3 : ((RT.node g' T e l r s v).setKid b (newN gn)).cnt = (RT.node g' T e l r s v).cnt := by
      cases b <;> simp only [RT.setKid, if_true, if_false, Bool.false_eq_true] at hk ⊢
      · rw [hk]; simp [RT.cnt, newN]
      · rw [hk]; simp [RT.cnt, newN]
    omega
  · have h2 := RT.hgt_put p t ((RT.node g' T e l r s v).setKid b (newN gn))
    have h3 : ((RT.node g' T e l r s v).setKid b (newN gn)).hgt ≤ max 2 (RT.node g' T e l r s v).hgt := by
      cases b <;> simp only [RT.setKid, if_true, if_false, Bool.false_eq_true] at hk ⊢
      · simp [RT.hgt, newN]; omega
      · simp [RT.hgt, newN]; omega
    omega
  · cases b
    · exact shape_put hs hu
    · exact shape_put hs hu
  · rw [RT.sub_snoc, RT.put_sub p t _ hne]
    cases b <;> rfl
/-- a place is set -/
structure SetN (g m : Nat) (t t' : RT) (p : List Bool) (x : Option Int) (c : Nat) : Prop where
  get : ∀ q, t'.get q = if q = p then x else t.get q
  cnt : t'.cnt = c
  hgt : t'.hgt ≤ 33
  shape : ∃ l r s v, t' = .node g 69 [.int .i64 m] l r s v
theorem set_node {g m g' : Nat} {T : TypeId} {e : List Value} {t l r : RT} {s : Bool} {v : Int} {p : List Bool} (s' : Bool) (v' : Int) (c : Nat)
    (hs : ∃ l r s v, t = .node g 69 [.int .i64 m] l r s v) (hh : t.hgt ≤ 33) (hu : t.sub p = .node g' T e l r s v)
    (hc : c + (if s then 1 else 0) = t.cnt + (if s' then 1 else 0)) :
    SetN g m t (t.put p (RT.node g' T e l r s' v')) p (if s' then some v' else none) c := by
  have hne : t.sub p ≠ .nil := by rw [hu]; intro h; cases h
  have h1 := RT.hgt_sub p t hne
  rw [hu] at h1
  refine ⟨fun q => ?_, ?_, ?_, shape_put hs hu⟩
  · rw [RT.get_put p t _ (if s' then some v' else none) q hne]
    intro q
    rw [hu]
    cases q with
    | nil => rw [if_pos rfl]; rfl
    | cons c q => rw [if_neg (by simp)]; rfl
  · have h2 := RT.cnt_put p t (RT.node g' T e l r s' v') hne
    rw [hu] at h2
    simp only [RT.cnt] at h2
    omega
  · have h2 := RT.hgt_put p t (RT.node g' T e l r s' v')
    have h3 : (RT.node g' T e l r s' v').hgt = (RT.node g' T e l r s v).hgt := rfl
    omega
end Go.Proofs.Ytppjmhkecogbcaa
