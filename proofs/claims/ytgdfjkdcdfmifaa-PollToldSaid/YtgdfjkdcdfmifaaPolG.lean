/- PollTold: its sockets in memory, beside the poller; what Wait(16) tells. -/
import Derived.Test.YtgdfjkdcdfmifaaPolF
namespace Go.Proofs.Ytgdfjkdcdfmifaa
open Go.RowKit Go.Lib
set_option linter.unusedVariables false
set_option linter.unusedSimpArgs false

def fSP (g : Nat) : Value := .pointer (some ⟨g, 0, none⟩)
def cS (x : KW) : List Value := [.int .i64 x.mask, .int .i64 x.ready, .bool x.edge, .bool x.fresh]
def sR (b : Int → Nat) (x : KW) : Res := atR (b x.fd) 84 (cS x)
theorem mapTy_sock : MapTy Try.prog 81 3 82 fInt fSP := ⟨keyed_int, Try.underlying81, fun h => fInt_inj h⟩
theorem told_fold (most : Int) : ∀ (l : List KW) (s : WSt), (s.o.length : Int) + l.length ≤ most → l.foldl (wStep most) s = ⟨s.o ++ (l.filter tellB).map outW, s.t ++ (l.filter tellB).map toldW, s.r ++ l.filter (fun x => !tellB x)⟩
  | [], s, _ => by simp
  | x :: l, s, hd => by
    rw [List.foldl_cons]
    rw [List.length_cons] at hd
    cases hx : tellB x
    · have e : wStep most s x = ⟨s.o, s.t, s.r ++ [x]⟩ := by
        unfold wStep
        rw [hx, if_neg (by simp)]
      rw [e, told_fold most l ⟨s.o, s.t, s.r ++ [x]⟩ (by simp only; omega)]
      simp [List.filter_cons, hx]
    · have e : wStep most s x = ⟨s.o ++ [outW x], s.t ++ [toldW x], s.r⟩ := by
        unfold wStep
        have h1 : ((s.o.length : Int) == most) = false := by simp; omega
        rw [h1, hx, if_pos (by simp)]
      rw [e, told_fold most l ⟨s.o ++ [outW x], s.t ++ [toldW x], s.r⟩ (by simp only [List.length_append, List.length_cons, List.length_nil]; omega)]
      simp [List.filter_cons, hx]
theorem told_wait {ws : List KW} (h : ws.length ≤ 16) : wOut 16 ws = (ws.filter tellB).map outW ∧ wRow 16 ws = ws.filter (fun x => !tellB x) ++ (ws.filter tellB).map toldW := by
  have := told_fold 16 ws ⟨[], [], []⟩ (by simp; omega)
  unfold wOut wRow wFold
  rw [this]; simp
/-- what the program's own account holds: the map of its sockets, and they are as the watches are -/
structure Acc (m : List (Int × Nat)) (b : Int → Nat) (ws zs : List KW) : Prop where
  ok : mOk m
  get : ∀ x ∈ ws, mGet m x.fd = some (b x.fd)
  val : ∀ p ∈ m, ∃ x ∈ ws, x.fd = p.1
  pm : zs.Perm ws
theorem acc_nil : Acc [] (fun _ => 0) [] [] := ⟨List.Pairwise.nil, by simp, by simp, List.Perm.nil⟩
/-- a number that has no watch has no socket -/
theorem Acc.none {m : List (Int × Nat)} {b : Int → Nat} {ws zs : List KW} (h : Acc m b ws zs) {fd : Int} (hf : ∀ x ∈ ws, x.fd ≠ fd) : mGet m fd = none :=
  mGet_none fun p hp e => by
    obtain ⟨x, hx, e2⟩ := h.val p hp
    exact hf x hx (e2.trans e)
/-- by their numbers the watches are one -/
theorem PInv.inj {ws : List KW} (h : PInv ws) {x y : KW} (hx : x ∈ ws) (hy : y ∈ ws) (e : x.fd = y.fd) : x = y := by
  obtain ⟨i, hi⟩ := List.getElem?_of_mem hx
  obtain ⟨j, hj⟩ := List.getElem?_of_mem hy
  obtain ⟨hl1, hx1⟩ := List.getElem?_eq_some_iff.1 hi
  obtain ⟨hl2, hx2⟩ := List.getElem?_eq_some_iff.1 hj
  have hp := List.pairwise_iff_getElem.1 h.nd
  rcases Nat.lt_trichotomy i j with h3 | h3 | h3
  · exact (hp i j (by simpa using hl1) (by simpa using hl2) h3 (by simp [hx1, hx2, e])).elim
  · subst h3; rw [← hx1, ← hx2]
  · exact (hp j i (by simpa using hl2) (by simpa using hl1) h3 (by simp [hx1, hx2, e])).elim
/-- set: the watch of a number turned, in a row in any order -/
def turnW (fd : Int) (t : KW → KW) (zs : List KW) : List KW := zs.map fun x => if x.fd = fd then t x else x
theorem set_turn {ws : List KW} (hI : PInv ws) {k : Nat} {x : KW} (hk : ws[k]? = some x) (t : KW → KW) : ws.set k (t x) = turnW x.fd t ws := by
  unfold turnW
  apply List.ext_getElem (by simp)
  intro i h1 h2
  rw [List.getElem_set, List.getElem_map]
  obtain ⟨hl, rfl⟩ := List.getElem?_eq_some_iff.1 hk
  split
  · rename_i e; subst e; rw [if_pos rfl]
  · rename_i hne
    rw [if_neg]
    intro e
    have hli : i < ws.length := by simpa using h1
    have := hI.inj (List.getElem_mem hli) (List.getElem_mem hl) e
    have hp := List.pairwise_iff_getElem.1 hI.nd
    rcases Nat.lt_or_gt_of_ne hne with h3 | h3
    · exact hp k i (by simpa using hl) (by simpa using hli) h3 (by simp [e])
    · exact hp i k (by simpa using hli) (by simpa using hl) h3 (by simp [e])
theorem turn_perm {zs ws : List KW} (h : zs.Perm ws) (fd : Int) (t : KW → KW) : (turnW fd t zs).Perm (turnW fd t ws) := h.map _
end Go.Proofs.Ytgdfjkdcdfmifaa
