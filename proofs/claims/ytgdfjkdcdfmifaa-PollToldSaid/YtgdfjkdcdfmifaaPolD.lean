/- poll.Poller: its calls as relations between rows; what holds of a row. -/
import Derived.Test.YtgdfjkdcdfmifaaPolC
namespace Go.Proofs.Ytgdfjkdcdfmifaa
open Go.RowKit Go.Lib
set_option linter.unusedVariables false
set_option linter.unusedSimpArgs false

theorem pig : ∀ (n : Nat) (l : List Int), l.Nodup → (∀ x ∈ l, 0 ≤ x ∧ x < n) → l.length ≤ n
  | 0, [], _, _ => by simp
  | 0, x :: l, _, h => by have := h x (by simp); omega
  | n + 1, l, hn, h => by
    by_cases hm : (n : Int) ∈ l
    · have h1 := pig n (l.erase n) (hn.erase _) (fun x hx => by
        have h2 := hn.mem_erase_iff.1 hx
        have := h x h2.2
        have := h2.1
        omega)
      rw [List.length_erase_of_mem hm] at h1
      omega
    · have h1 := pig n l hn (fun x hx => by
        have := h x hx
        have : x ≠ n := fun e => hm (e ▸ hx)
        omega)
      omega
structure PInv (ws : List KW) : Prop where
  nd : (ws.map (·.fd)).Nodup
  rng : ∀ x ∈ ws, 0 ≤ x.fd ∧ x.fd < 16
theorem PInv.len {ws : List KW} (h : PInv ws) : ws.length ≤ 16 := by
  have := pig 16 (ws.map (·.fd)) h.nd (fun x hx => by
    obtain ⟨y, hy, rfl⟩ := List.mem_map.1 hx
    exact h.rng y hy)
  simpa using this
theorem PInv.len_new {ws : List KW} (h : PInv ws) {fd : Int} (hf : 0 ≤ fd ∧ fd < 16) (hno : ∀ x ∈ ws, x.fd ≠ fd) : ws.length < 16 := by
  have := pig 16 (fd :: ws.map (·.fd)) (List.nodup_cons.2 ⟨fun hm => by
    obtain ⟨y, hy, e⟩ := List.mem_map.1 hm
    exact hno y hy e, h.nd⟩) (fun x hx => by
    rcases List.mem_cons.1 hx with rfl | hx
    · exact hf
    · obtain ⟨y, hy, rfl⟩ := List.mem_map.1 hx
      exact h.rng y hy)
  simp at this; omega
theorem pinv_nil : PInv [] := ⟨by simp, by simp⟩
theorem map_fd_set {ws : List KW} {k : Nat} {x y : KW} (hk : ws[k]? = some x) (e : y.fd = x.fd) : (ws.set k y).map (·.fd) = ws.map (·.fd) := by
  rw [List.map_set, e]
  obtain ⟨hl, rfl⟩ := List.getElem?_eq_some_iff.1 hk
  apply List.ext_getElem (by simp)
  intro i h1 h2
  rw [List.getElem_set]
  split
  · rename_i e1; subst e1; simp
  · rfl
theorem PInv.set {ws : List KW} (h : PInv ws) {k : Nat} {x y : KW} (hk : ws[k]? = some x) (e : y.fd = x.fd) : PInv (ws.set k y) := by
  refine ⟨by rw [map_fd_set hk e]; exact h.nd, fun z hz => ?_⟩
  rcases List.mem_or_eq_of_mem_set hz with hz | rfl
  · exact h.rng z hz
  · rw [e]; exact h.rng x (List.mem_of_getElem? hk)
theorem PInv.push {ws : List KW} (h : PInv ws) {y : KW} (hf : 0 ≤ y.fd ∧ y.fd < 16) (hno : ∀ x ∈ ws, x.fd ≠ y.fd) : PInv (ws ++ [y]) := by
  refine ⟨?_, fun z hz => ?_⟩
  · rw [List.map_append, List.nodup_append]
    refine ⟨h.nd, by simp, fun a ha b hb => ?_⟩
    obtain ⟨x, hx, rfl⟩ := List.mem_map.1 ha
    simp at hb
    rw [hb]; exact hno x hx
  · rcases List.mem_append.1 hz with hz | hz
    · exact h.rng z hz
    · rw [List.mem_singleton.1 hz]; exact hf
theorem PInv.erase {ws : List KW} (h : PInv ws) (k : Nat) : PInv (ws.eraseIdx k) := by
  refine ⟨?_, fun z hz => h.rng z (List.mem_of_mem_eraseIdx hz)⟩
  exact h.nd.sublist ((List.eraseIdx_sublist _ _).map _)
/-- with one taken out nobody of that number is left -/
theorem PInv.erased {ws : List KW} (h : PInv ws) {k : Nat} {x : KW} (hk : ws[k]? = some x) : ∀ y ∈ ws.eraseIdx k, y.fd ≠ x.fd := by
  intro y hy e
  obtain ⟨hl, rfl⟩ := List.getElem?_eq_some_iff.1 hk
  have h3 : ws.take k ++ ws[k] :: ws.drop (k + 1) = ws := by rw [← List.drop_eq_getElem_cons hl, List.take_append_drop]
  have hp : ws.Perm (ws[k] :: ws.eraseIdx k) := by
    rw [List.eraseIdx_eq_take_drop_succ]
    conv => lhs; rw [← h3]
    exact List.perm_middle
  have hn := (hp.map (·.fd)).nodup_iff.1 h.nd
  rw [List.map_cons, List.nodup_cons] at hn
  exact hn.1 (List.mem_map.2 ⟨y, hy, e⟩)
theorem PInv.perm {ws zs : List KW} (h : PInv ws) (e : (zs.map (·.fd)).Perm (ws.map (·.fd))) : PInv zs := by
  refine ⟨e.nodup_iff.2 h.nd, fun z hz => ?_⟩
  have h1 : z.fd ∈ ws.map (·.fd) := e.mem_iff.1 (List.mem_map.2 ⟨z, hz, rfl⟩)
  obtain ⟨x, hx, e2⟩ := List.mem_map.1 h1
  rw [← e2]; exact h.rng x hx
def SetRel (ws : List KW) (fd mask : Int) (edge : Bool) (e : Int) (ws' : List KW) : Prop :=
  (e = 1 ∧ (fd < 0 ∨ 16 ≤ fd) ∧ ws' = ws) ∨ (e = 0 ∧ (0 ≤ fd ∧ fd < 16) ∧ ((∃ k x, ws[k]? = some x ∧ x.fd = fd ∧ ws' = ws.set k (setW x mask edge)) ∨ ((∀ x ∈ ws, x.fd ≠ fd) ∧ ∃ gw, ws' = ws ++ [setW ⟨gw, fd, 0, 0, false, false⟩ mask edge])))
def NoteRel (ws : List KW) (fd mask : Int) (ws' : List KW) : Prop :=
  (∃ k x, ws[k]? = some x ∧ x.fd = fd ∧ ws' = ws.set k (noteW x mask)) ∨ ((∀ x ∈ ws, x.fd ≠ fd) ∧ ws' = ws)
def DropRel (ws : List KW) (fd : Int) (ws' : List KW) : Prop :=
  (∃ k x, ws[k]? = some x ∧ x.fd = fd ∧ ws' = ws.eraseIdx k) ∨ ((∀ x ∈ ws, x.fd ≠ fd) ∧ ws' = ws)
theorem atW_cases (ws : List KW) (fd : Int) : (∃ (k : Nat) (x : KW), atW ws fd = k ∧ ws[k]? = some x ∧ x.fd = fd) ∨ (atW ws fd < 0 ∧ ∀ x ∈ ws, x.fd ≠ fd) := by
  unfold atW
  by_cases h : idxOf (fun x : KW => decide (x.fd = fd)) ws < 0
  · exact .inr ⟨h, fun x hx e => by have := idxOf_neg _ ws h x hx; simp [e] at this⟩
  · obtain ⟨k, x, h1, h2, h3⟩ := idxOf_some (fun x : KW => decide (x.fd = fd)) ws (by omega)
    exact .inl ⟨k, x, h1, h2, by simpa using h3⟩
section
variable {E : Nat → Prop} {w W W' : World} {g : Nat} {v : Value} {ws : List KW} {m : List Res}
theorem pl_put {E : Nat → Prop} {w W W' : World} {g : Nat} {v v' : Value} {ws ws' : List KW} {m : List Res} (hM : MemX E w W (pollL g v ws ++ m)) (h : PlPre W W' g v ws v' ws') : MemX E w W' (pollL g v' ws' ++ m) := hM.back h
theorem pl_same {hM : PlPre w w g v ws v ws} (hb : Below w.heap.size w W) : PlPre w W g v ws v ws := hM.kept hb
end
theorem Set_any (g : Nat) (v : Value) (ws : List KW) (fd mask : Int) (edge : Bool) (w : World) (hM : PlPre w w g v ws v ws) (hI : PInv ws) :
    Calls Try.prog 41 #[.pointer (some ⟨g, 0, none⟩), .int .i64 fd, .int .i64 mask, .bool edge] w fun e w' => ∃ n v' ws', e = .returned (.int .i64 n) ∧ PlPre w w' g v ws v' ws' ∧ SetRel ws fd mask edge n ws' := by
  have hl := hI.len
  by_cases hf : fd < 0 ∨ 16 ≤ fd
  · refine (Set_arg g fd mask edge w hf).mono ?_
    rintro e w' ⟨rfl, hb⟩
    exact ⟨1, v, ws, rfl, hM.kept hb, .inl ⟨rfl, hf, rfl⟩⟩
  · have hf2 : 0 ≤ fd ∧ fd < 16 := by omega
    rcases atW_cases ws fd with ⟨k, x, h1, h2, h3⟩ | ⟨h1, h2⟩
    · refine (Set_old g v ws fd mask edge k x w hM (by omega) hf2 h1 h2).mono ?_
      rintro e w' ⟨rfl, hM'⟩
      exact ⟨0, v, _, rfl, hM', .inr ⟨rfl, hf2, .inl ⟨k, x, h2, h3, rfl⟩⟩⟩
    · refine (Set_new g v ws fd mask edge w hM (hI.len_new hf2 h2) hf2 h1).mono ?_
      rintro e w' ⟨v', gw, rfl, hM'⟩
      exact ⟨0, v', _, rfl, hM', .inr ⟨rfl, hf2, .inr ⟨h2, gw, rfl⟩⟩⟩
theorem Note_any (g : Nat) (v : Value) (ws : List KW) (fd mask : Int) (w : World) (hM : PlPre w w g v ws v ws) (hI : PInv ws) :
    Calls Try.prog 42 #[.pointer (some ⟨g, 0, none⟩), .int .i64 fd, .int .i64 mask] w fun e w' => ∃ ws', e = .returned (.tuple #[]) ∧ PlPre w w' g v ws v ws' ∧ NoteRel ws fd mask ws' := by
  have hl := hI.len
  rcases atW_cases ws fd with ⟨k, x, h1, h2, h3⟩ | ⟨h1, h2⟩
  · refine (Note_yes g v ws fd mask k x w hM (by omega) h1 h2).mono ?_
    rintro e w' ⟨rfl, hM'⟩
    exact ⟨_, rfl, hM', .inl ⟨k, x, h2, h3, rfl⟩⟩
  · refine (Note_no g v ws fd mask w hM (by omega) h1).mono ?_
    rintro e w' ⟨rfl, hb⟩
    exact ⟨ws, rfl, hM.kept hb, .inr ⟨h2, rfl⟩⟩
theorem Drop_any (g : Nat) (v : Value) (ws : List KW) (fd : Int) (w : World) (hM : PlPre w w g v ws v ws) (hI : PInv ws) :
    Calls Try.prog 44 #[.pointer (some ⟨g, 0, none⟩), .int .i64 fd] w fun e w' => ∃ n v' ws', e = .returned (.int .i64 n) ∧ PlPre w w' g v ws v' ws' ∧ DropRel ws fd ws' := by
  have hl := hI.len
  rcases atW_cases ws fd with ⟨k, x, h1, h2, h3⟩ | ⟨h1, h2⟩
  · refine (Drop_yes g v ws fd k x w hM (by omega) h1 h2).mono ?_
    rintro e w' ⟨v', rfl, hM'⟩
    exact ⟨0, v', _, rfl, hM', .inl ⟨k, x, h2, h3, rfl⟩⟩
  · refine (Drop_no g v ws fd w hM (by omega) h1).mono ?_
    rintro e w' ⟨rfl, hb⟩
    exact ⟨7, v, ws, rfl, hM.kept hb, .inr ⟨h2, rfl⟩⟩
/-- Wait: the slice that is told, by its length -/
theorem Wait_len (g : Nat) (v : Value) (ws : List KW) (most : Int) (w : World) (hM : PlPre w w g v ws v ws) (hI : PInv ws) (hm : 1 ≤ most) (hm' : most ≤ 9223372036854775807) :
    Calls Try.prog 43 #[.pointer (some ⟨g, 0, none⟩), .int .i64 most] w fun e w' => ∃ v' O oc, e = .returned (.tuple #[.slice O (wOut most ws).length oc, .int .i64 0]) ∧ MemX (blkE (pollL g v ws)) w w' (pollL g v' (wRow most ws) ++ [rowR 2 cWake (.slice O (wOut most ws).length oc) (wOut most ws)]) := by
  have hl := hI.len
  refine (Wait_any g v ws most w hM (by omega) hm hm').mono ?_
  rintro e w' ⟨v', ov, rfl, h⟩
  obtain ⟨O, oc, rfl⟩ := (show Win w' 0 2 ov (wOut most ws).length ((wOut most ws).flatMap cWake) from h.row (f := cWake) (rs := wOut most ws) _ (get_last _ _)).form
  exact ⟨v', O, oc, rfl, h⟩
end Go.Proofs.Ytgdfjkdcdfmifaa
