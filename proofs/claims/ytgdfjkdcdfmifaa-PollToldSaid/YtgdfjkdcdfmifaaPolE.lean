/- PollNone: the plain law. -/
import Derived.Test.YtgdfjkdcdfmifaaPolD
import Derived.Test.YtgdfjkdcdfmifaaDat
namespace Go.Proofs.Ytgdfjkdcdfmifaa
open Go.RowKit Go.Lib
set_option linter.unusedVariables false
set_option linter.unusedSimpArgs false

theorem bAnd_zero (m : Int) : bAnd 0 m = 0 := by
  unfold bAnd
  have h : BitVec.ofInt IntKind.i64.bits 0 = 0#(IntKind.i64.bits) := by decide
  rw [h, BitVec.zero_and]
  decide
theorem bAnd_0_7 : bAnd 0 7 = 0 := bAnd_zero 7
theorem SetRel.inv {ws ws' : List KW} {fd mask n : Int} {edge : Bool} (h : SetRel ws fd mask edge n ws') (hI : PInv ws) : PInv ws' := by
  rcases h with ⟨_, _, rfl⟩ | ⟨_, hf, ⟨k, x, h1, h2, rfl⟩ | ⟨h1, gw, rfl⟩⟩
  · exact hI
  · exact hI.set h1 rfl
  · exact hI.push hf h1
theorem NoteRel.inv {ws ws' : List KW} {fd mask : Int} (h : NoteRel ws fd mask ws') (hI : PInv ws) : PInv ws' := by
  rcases h with ⟨k, x, h1, h2, rfl⟩ | ⟨h1, rfl⟩
  · exact hI.set h1 rfl
  · exact hI
theorem DropRel.inv {ws ws' : List KW} {fd : Int} (h : DropRel ws fd ws') (hI : PInv ws) : PInv ws' := by
  rcases h with ⟨k, x, h1, h2, rfl⟩ | ⟨h1, rfl⟩
  · exact hI.erase k
  · exact hI
theorem mem_set_or {ws : List KW} {k : Nat} {x y z : KW} (hz : z ∈ ws.set k y) : z = y ∨ z ∈ ws := (List.mem_or_eq_of_mem_set hz).symm
theorem SetRel.mem {ws ws' : List KW} {fd mask n : Int} {edge : Bool} (h : SetRel ws fd mask edge n ws') {z : KW} (hz : z ∈ ws') : z.fd = fd ∨ z ∈ ws := by
  rcases h with ⟨_, _, rfl⟩ | ⟨_, hf, ⟨k, x, h1, h2, rfl⟩ | ⟨h1, gw, rfl⟩⟩
  · exact .inr hz
  · rcases List.mem_or_eq_of_mem_set hz with hz | rfl
    · exact .inr hz
    · exact .inl h2
  · rcases List.mem_append.1 hz with hz | hz
    · exact .inr hz
    · rw [List.mem_singleton.1 hz]; exact .inl rfl
/-- whoever has that number is ready for what was noted; the others are as they were -/
theorem NoteRel.mem {ws ws' : List KW} {fd mask : Int} (h : NoteRel ws fd mask ws') (hI : PInv ws) {z : KW} (hz : z ∈ ws') : (z.fd = fd ∧ z.ready = bAnd mask 7) ∨ (z.fd ≠ fd ∧ z ∈ ws) := by
  rcases h with ⟨k, x, h1, h2, rfl⟩ | ⟨h1, rfl⟩
  · by_cases e : z.fd = fd
    · refine .inl ⟨e, ?_⟩
      obtain ⟨i, hi⟩ := List.getElem?_of_mem hz
      rw [List.getElem?_set] at hi
      split at hi
      · split at hi
        · cases hi; rfl
        · cases hi
      · rename_i hne
        exfalso
        have hnd := hI.nd
        obtain ⟨hl1, hx1⟩ := List.getElem?_eq_some_iff.1 h1
        obtain ⟨hl2, hx2⟩ := List.getElem?_eq_some_iff.1 hi
        have := List.pairwise_iff_getElem.1 hnd
        rcases Nat.lt_or_gt_of_ne hne with h3 | h3
        · exact this k i (by simpa using hl1) (by simpa using hl2) h3 (by simp [hx1, hx2, h2, e])
        · exact this i k (by simpa using hl2) (by simpa using hl1) h3 (by simp [hx1, hx2, h2, e])
    · rcases List.mem_or_eq_of_mem_set hz with hz | rfl
      · exact .inr ⟨e, hz⟩
      · exact absurd h2 e
  · exact .inr ⟨h1 z hz, hz⟩
theorem DropRel.mem {ws ws' : List KW} {fd : Int} (h : DropRel ws fd ws') (hI : PInv ws) {z : KW} (hz : z ∈ ws') : z.fd ≠ fd ∧ z ∈ ws := by
  rcases h with ⟨k, x, h1, h2, rfl⟩ | ⟨h1, rfl⟩
  · exact ⟨fun e => hI.erased h1 z hz (e.trans h2.symm), List.mem_of_mem_eraseIdx hz⟩
  · exact ⟨h1 z hz, hz⟩
theorem wFold_none {ws : List KW} (h : ∀ x ∈ ws, tellB x = false) (most : Int) : wFold most ws = ⟨[], [], ws⟩ := by
  have key : ∀ (l : List KW) (s : WSt), (∀ x ∈ l, tellB x = false) → l.foldl (wStep most) s = ⟨s.o, s.t, s.r ++ l⟩ := by
    intro l
    induction l with
    | nil => intro s _; simp
    | cons x l ih =>
      intro s hl
      rw [List.foldl_cons, ih _ (fun y hy => hl y (by simp [hy]))]
      unfold wStep
      rw [hl x (by simp), if_neg (by simp)]
      simp
  unfold wFold
  rw [key ws _ h]; rfl
theorem out_none {ws : List KW} (h : ∀ x ∈ ws, x.ready = 0) (most : Int) : wOut most ws = [] ∧ wRow most ws = ws := by
  have := wFold_none (ws := ws) (fun x hx => by unfold tellB; rw [h x hx, bAnd_zero]; rfl) most
  unfold wOut wRow
  rw [this]; simp
theorem wt_mid {E : Nat → Prop} {w W : World} {g : Nat} {v : Value} {ws : List KW} {X : Res} {m : List Res} (h : MemX E w W ((pollL g v ws ++ [X]) ++ m)) : MemX E w W (pollL g v ws ++ ([X] ++ m)) := by rwa [List.append_assoc] at h
theorem one_int {cs : List Value} (h : okAll [.int .i64] cs) : ∃ n, cs = [.int .i64 n] ∧ -9223372036854775808 ≤ n ∧ n ≤ 9223372036854775807 := by
  obtain ⟨v, hv, n, rfl, h1, h2⟩ := okAll_at 0 h rfl
  have hl := okAll_len h
  match cs, hl, hv with
  | [x], _, hv => simp at hv; subst hv; exact ⟨n, rfl, h1, h2⟩
def fdOf (cs : List Value) : Int := match cs with
  | [.int .i64 n] => n % 16
  | _ => 0
end Go.Proofs.Ytgdfjkdcdfmifaa
