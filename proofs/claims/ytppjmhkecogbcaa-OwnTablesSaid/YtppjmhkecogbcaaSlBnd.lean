/- Package slices over rows of Bound: IndexFunc. Written by my gensb.py. -/
import Derived.Test.YtppjmhkecogbcaaBndP
import Derived.StillTailTactics
namespace Go.Proofs.Ytppjmhkecogbcaa
open Go.RowKit Go.Lib
set_option linter.unusedVariables false

theorem info_cBound {d : KBound} : (Try.prog.info? 39).map (·.size) = some (cBound d).length := by kernel_rfl
theorem one_cBound (d : KBound) : ∀ u ∈ cBound d, u.oneCell' = true := by
  intro u hu
  simp only [cBound, List.mem_cons, List.not_mem_nil, or_false] at hu
  rcases hu with rfl | rfl | rfl | rfl | rfl | rfl | rfl <;> rfl
theorem inf_cBound : ∃ i, Try.prog.info? 39 = some i ∧ i.size = 7 := by
  have h : (Try.prog.info? 39).map (·.size) = some 7 := by kernel_rfl
  cases hi : Try.prog.info? 39 with
  | none => rw [hi] at h; cases h
  | some i => rw [hi] at h; exact ⟨i, rfl, Option.some.inj h⟩
theorem elem_Bound : (Try.prog.info? 39).map (fun i => (i.size, i.bytes, i.zero.map (·.cells.size))) = some (7, 56, some 7) := by kernel_rfl
set_option maxRecDepth 100000 in
set_option maxHeartbeats 2000000 in
theorem idx_cl (v c : Value) (rs : List KBound) (p : KBound → Bool) (w : World) (hW : (rdR 7 cBound v rs).P w) (hn : rs.length ≤ 100000)
    (hcl : ∀ (W : World) (r : KBound), r ∈ rs → Below w.heap.size w W → Calls Try.prog 34 #[.agg (cBound r).toArray, c] W fun e w' => e = .returned (.bool (p r)) ∧ Below W.heap.size W w') :
    Calls Try.prog 32 #[v, .func (.func 34) #[] #[c]] w fun e w' => e = .returned (.int .i64 (idxOf p rs)) ∧ Below w.heap.size w w' := by
  obtain ⟨A, cap, rfl⟩ := rdR_form hW
  have HCL := Lib.hid hcl
  have HW := Lib.hid hW
  clear hcl hW
  go_enter Try.func32, Try.ntmps32
  go_wp2_with fail
  go_loopg [8] rs.length (fun gh i wr => ∃ k : Nat, gh = rs.length - k ∧ k ≤ rs.length ∧ i = .int .i64 k ∧ Below w.heap.size w wr ∧ Hid (∀ j r, j < k → rs[j]? = some r → p r = false))
  case atStart => exact ⟨0, by omega, by omega, rfl, Below.refl _ _, Lib.hid (fun j r h => absurd h (by omega))⟩
  case round =>
    obtain ⟨k, hgk, hk, rfl, hB, HP⟩ := hrel
    have HGK := Lib.hid hgk
    clear hgk
    by_cases hlt : k < rs.length
    · obtain ⟨r, hr⟩ : ∃ r, rs[k]? = some r := ⟨rs[k], List.getElem?_eq_getElem hlt⟩
      have he : rs[k] = r := Option.some.inj ((List.getElem?_eq_getElem hlt).symm.trans hr)
      obtain ⟨g, off, rfl, hr0, _⟩ := rdR_range (size := 7) (f := cBound) (fun _ => rfl) HW.out k hlt
      rw [he] at hr0
      have hmem := List.mem_of_getElem? hr
      have hrg : wr.rangeAt g (off + k * 7) (cBound r) := fun j v hj => keep_cell hB (hr0 j v hj)
      have HR := Lib.hid hr
      clear hr hr0 he
      cases hp : p r
      · have HCR := Lib.hid (fun (W : World) (hB : Below w.heap.size w W) => hp ▸ HCL.out W r hmem hB)
        have HPR := Lib.hid hp
        clear hp hmem
        go_wp2_with (first | (refine wpList_load_mid rfl 39 _ rfl g (off + k * 7) rfl (cBound r) _ hrg Try.underlying39 rfl info_cBound ?_) | (go_at_call 34; refine (HCR.out _ hB).mono ?_; rintro e W1 ⟨rfl, hB1⟩))
        go_roundg (rs.length - (k + 1))
        case measure => have := HGK.out; omega
        case rel =>
          refine ⟨k + 1, rfl, by omega, by go_num, below_c hB hB1, Lib.hid (fun j q hj hq => ?_)⟩
          by_cases hjk : j < k
          · exact HP.out j q hjk hq
          · have : j = k := by omega
            subst this
            have e := hq.symm.trans HR.out
            cases e
            exact HPR.out
      · have HCR := Lib.hid (fun (W : World) (hB : Below w.heap.size w W) => hp ▸ HCL.out W r hmem hB)
        have hi := idxOf_hit p rs k r HR.out hp HP.out
        have HI := Lib.hid hi
        clear hp hmem hi
        go_wp2_with (first | (refine wpList_load_mid rfl 39 _ rfl g (off + k * 7) rfl (cBound r) _ hrg Try.underlying39 rfl info_cBound ?_) | (go_at_call 34; refine (HCR.out _ hB).mono ?_; rintro e W1 ⟨rfl, hB1⟩))
        go_ret
        exact ⟨ret_int HI.out.symm, below_c hB hB1⟩
    · have hi := idxOf_none p rs (fun r hr => by
        obtain ⟨j, hj⟩ := List.getElem?_of_mem hr
        have := (List.getElem?_eq_some_iff.1 hj).1
        exact HP.out j r (by omega) hj)
      have HI := Lib.hid hi
      clear hi
      go_wp2_with fail
      go_ret
      exact ⟨ret_int HI.out.symm, hB⟩
set_option maxRecDepth 100000 in
set_option maxHeartbeats 2000000 in
theorem idx_dr (v c : Value) (rs : List KBound) (p : KBound → Bool) (w : World) (hW : (rdR 7 cBound v rs).P w) (hn : rs.length ≤ 100000)
    (hcl : ∀ (W : World) (r : KBound), r ∈ rs → Below w.heap.size w W → Calls Try.prog 26 #[.agg (cBound r).toArray, c] W fun e w' => e = .returned (.bool (p r)) ∧ Below W.heap.size W w') :
    Calls Try.prog 32 #[v, .func (.func 26) #[] #[c]] w fun e w' => e = .returned (.int .i64 (idxOf p rs)) ∧ Below w.heap.size w w' := by
  obtain ⟨A, cap, rfl⟩ := rdR_form hW
  have HCL := Lib.hid hcl
  have HW := Lib.hid hW
  clear hcl hW
  go_enter Try.func32, Try.ntmps32
  go_wp2_with fail
  go_loopg [8] rs.length (fun gh i wr => ∃ k : Nat, gh = rs.length - k ∧ k ≤ rs.length ∧ i = .int .i64 k ∧ Below w.heap.size w wr ∧ Hid (∀ j r, j < k → rs[j]? = some r → p r = false))
  case atStart => exact ⟨0, by omega, by omega, rfl, Below.refl _ _, Lib.hid (fun j r h => absurd h (by omega))⟩
  case round =>
    obtain ⟨k, hgk, hk, rfl, hB, HP⟩ := hrel
    have HGK := Lib.hid hgk
    clear hgk
    by_cases hlt : k < rs.length
    · obtain ⟨r, hr⟩ : ∃ r, rs[k]? = some r := ⟨rs[k], List.getElem?_eq_getElem hlt⟩
      have he : rs[k] = r := Option.some.inj ((List.getElem?_eq_getElem hlt).symm.trans hr)
      obtain ⟨g, off, rfl, hr0, _⟩ := rdR_range (size := 7) (f := cBound) (fun _ => rfl) HW.out k hlt
      rw [he] at hr0
      have hmem := List.mem_of_getElem? hr
      have hrg : wr.rangeAt g (off + k * 7) (cBound r) := fun j v hj => keep_cell hB (hr0 j v hj)
      have HR := Lib.hid hr
      clear hr hr0 he
      cases hp : p r
      · have HCR := Lib.hid (fun (W : World) (hB : Below w.heap.size w W) => hp ▸ HCL.out W r hmem hB)
        have HPR := Lib.hid hp
        clear hp hmem
        go_wp2_with (first | (refine wpList_load_mid rfl 39 _ rfl g (off + k * 7) rfl (cBound r) _ hrg Try.underlying39 rfl info_cBound ?_) | (go_at_call 26; refine (HCR.out _ hB).mono ?_; rintro e W1 ⟨rfl, hB1⟩))
        go_roundg (rs.length - (k + 1))
        case measure => have := HGK.out; omega
        case rel =>
          refine ⟨k + 1, rfl, by omega, by go_num, below_c hB hB1, Lib.hid (fun j q hj hq => ?_)⟩
          by_cases hjk : j < k
          · exact HP.out j q hjk hq
          · have : j = k := by omega
            subst this
            have e := hq.symm.trans HR.out
            cases e
            exact HPR.out
      · have HCR := Lib.hid (fun (W : World) (hB : Below w.heap.size w W) => hp ▸ HCL.out W r hmem hB)
        have hi := idxOf_hit p rs k r HR.out hp HP.out
        have HI := Lib.hid hi
        clear hp hmem hi
        go_wp2_with (first | (refine wpList_load_mid rfl 39 _ rfl g (off + k * 7) rfl (cBound r) _ hrg Try.underlying39 rfl info_cBound ?_) | (go_at_call 26; refine (HCR.out _ hB).mono ?_; rintro e W1 ⟨rfl, hB1⟩))
        go_ret
        exact ⟨ret_int HI.out.symm, below_c hB hB1⟩
    · have hi := idxOf_none p rs (fun r hr => by
        obtain ⟨j, hj⟩ := List.getElem?_of_mem hr
        have := (List.getElem?_eq_some_iff.1 hj).1
        exact HP.out j r (by omega) hj)
      have HI := Lib.hid hi
      clear hi
      go_wp2_with fail
      go_ret
      exact ⟨ret_int HI.out.symm, hB⟩
end Go.Proofs.Ytppjmhkecogbcaa
