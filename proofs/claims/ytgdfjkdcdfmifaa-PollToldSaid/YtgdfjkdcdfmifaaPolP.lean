/- poll: what a Poller is in memory: a row of pointers to watches. -/
import Derived.Test.YtgdfjkdcdfmifaaBitI
import Derived.Test.YtgdfjkdcdfmifaaSlR
namespace Go.Proofs.Ytgdfjkdcdfmifaa
open Go.RowKit
set_option linter.unusedVariables false

structure KW where
  g : Nat
  fd : Int
  mask : Int
  ready : Int
  edge : Bool
  fresh : Bool
def cW (x : KW) : List Value := [.int .i64 x.fd, .int .i64 x.mask, .int .i64 x.ready, .bool x.edge, .bool x.fresh]
def fPtr1 (x : KW) : Value := .pointer (some ⟨x.g, 0, none⟩)
def fPtr (x : KW) : List Value := [fPtr1 x]
def wR (x : KW) : Res := atR x.g 111 (cW x)
def plA (g : Nat) (v : Value) : Res := atR g 108 [v]
def plW (v : Value) (ws : List KW) : Res := rowR 1 fPtr v ws
def pollL (g : Nat) (v : Value) (ws : List KW) : List Res := plA g v :: plW v ws :: ws.map wR
abbrev PlPre (w w' : World) (g : Nat) (v : Value) (ws : List KW) (v' : Value) (ws' : List KW) : Prop := MemX (blkE (pollL g v ws)) w w' (pollL g v' ws')
theorem poll_at {g : Nat} {v : Value} {ws : List KW} {k : Nat} {x : KW} (h : ws[k]? = some x) : (pollL g v ws)[2 + k]? = some (atR x.g 111 (cW x)) := by
  unfold pollL
  rw [show 2 + k = k + 1 + 1 by omega, List.getElem?_cons_succ, List.getElem?_cons_succ, List.getElem?_map, h]; rfl
theorem fPtr_set : ∀ (ws : List KW) (k : Nat) (x y : KW), ws[k]? = some x → y.g = x.g → (ws.set k y).flatMap fPtr = ws.flatMap fPtr
  | [], k, x, y, h, _ => by simp at h
  | q :: ws, 0, x, y, h, e => by
    simp at h; subst h
    rw [List.set_cons_zero, List.flatMap_cons, List.flatMap_cons]
    unfold fPtr fPtr1
    rw [e]
  | q :: ws, k + 1, x, y, h, e => by
    rw [List.set_cons_succ, List.flatMap_cons, List.flatMap_cons, fPtr_set ws k x y (by simpa using h) e]
theorem plW_set {v : Value} {ws : List KW} {k : Nat} {x y : KW} (h : ws[k]? = some x) (e : y.g = x.g) : plW v (ws.set k y) = plW v ws := by
  unfold plW rowR winR
  rw [fPtr_set ws k x y h e, List.length_set]
theorem poll_set {g : Nat} {v : Value} {ws : List KW} {k : Nat} {x y : KW} (h : ws[k]? = some x) (e : y.g = x.g) : (pollL g v ws).set (2 + k) (atR x.g 111 (cW y)) = pollL g v (ws.set k y) := by
  unfold pollL
  rw [show 2 + k = k + 1 + 1 by omega, List.set_cons_succ, List.set_cons_succ, plW_set h e, List.map_set]
  have : wR y = atR x.g 111 (cW y) := by unfold wR; rw [e]
  rw [this]
/-- the pointer that stands at place k -/
theorem poll_ptr {E : Nat → Prop} {w0 W : World} {m : List Res} {g : Nat} {v : Value} {ws : List KW} {k : Nat} {x : KW} (hM : MemX E w0 W (pollL g v ws ++ m)) (h : ws[k]? = some x) :
    ∃ gr off cap, v = .slice (some ⟨gr, off, none⟩) ws.length cap ∧ W.cell? ⟨gr, off + k, none⟩ = some (.pointer (some ⟨x.g, 0, none⟩)) ∧ gr < W.heap.size := by
  have hW : Win W 0 1 v ws.length (ws.flatMap fPtr) := hM.row (f := fPtr) (rs := ws) 1 rfl
  have hk := (List.getElem?_eq_some_iff.1 h).1
  obtain ⟨gr, off, cap, rfl, hWA⟩ := hW.pos (by omega)
  refine ⟨gr, off, cap, rfl, ?_, hWA.lt⟩
  have := row_range (f := fPtr) (size := 1) (fun _ => rfl) hW k x h 0 (fPtr1 x) rfl
  simpa [fPtr1] using this
theorem app_at {l m : List Res} {k : Nat} {r : Res} (h : l[k]? = some r) : (l ++ m)[k]? = some r := by
  rw [List.getElem?_append_left (List.getElem?_eq_some_iff.1 h).1]; exact h
theorem app_set {l m l' : List Res} {k : Nat} {r : Res} (hk : k < l.length) (h : l.set k r = l') : (l ++ m).set k r = l' ++ m := by
  rw [List.set_append_left _ _ hk, h]
theorem poll_len (g : Nat) (v : Value) (ws : List KW) : (pollL g v ws).length = ws.length + 2 := by simp [pollL]
end Go.Proofs.Ytgdfjkdcdfmifaa
