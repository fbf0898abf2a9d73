/- Package slices over the row of pointers to watches. Written by my genpol.py. -/
import Derived.Test.YtgdfjkdcdfmifaaPolP
import Derived.StillTailTactics
namespace Go.Proofs.Ytgdfjkdcdfmifaa
open Go.RowKit Go.Lib
set_option linter.unusedVariables false

theorem one_fPtr (d : KW) : ∀ u ∈ fPtr d, u.oneCell' = true := by
  intro u hu
  simp only [fPtr, fPtr1, List.mem_cons, List.not_mem_nil, or_false] at hu
  rcases hu with rfl <;> rfl
theorem inf_fPtr : ∃ i, Try.prog.info? 109 = some i ∧ i.size = 1 := by
  have h : (Try.prog.info? 109).map (·.size) = some 1 := by kernel_rfl
  cases hi : Try.prog.info? 109 with
  | none => rw [hi] at h; cases h
  | some i => rw [hi] at h; exact ⟨i, rfl, Option.some.inj h⟩
theorem run_clear_1 {P : Program} {w : World} {base g off cap n : Nat} {cs : List Value} (t e ty : TypeId) (z : Value) (ht : P.underlying t = some (.slice e)) (hv : ∀ w, (zeroValue e).run P w = .ok z w) (hz : z.cells.size = 1) (h1 : ∀ v ∈ z.cells, v.oneCell' = true) (h : WinAt w base 1 g off cap n cs) (hcs : cs.length = n * 1) (q c : Nat) (hq : 0 < q) (hqc : n + q ≤ cap) :
    ∃ w', (Builtin.clear_ #[t] ty #[.slice (some ⟨g, off + n, none⟩) q c]).run P w = .ok (.tuple #[]) w' ∧ WinAt w' base 1 g off cap n cs ∧ w.grownBy w' (some g) := by
  have := run_clear_win (P := P) t e ty z ht hv hz (by decide) h1 h hcs q c hq hqc
  rwa [Nat.mul_one] at this
set_option maxRecDepth 100000 in
set_option maxHeartbeats 2000000 in
theorem idx_watch (v c : Value) (rs : List KW) (p : KW → Bool) (w : World) (hW : Win w 0 1 v rs.length (rs.flatMap fPtr)) (hn : rs.length ≤ 100000)
    (hcl : ∀ (W : World) (r : KW), r ∈ rs → Below w.heap.size w W → Calls Try.prog 59 #[(fPtr1 r), c] W fun e w' => e = .returned (.bool (p r)) ∧ Below W.heap.size W w') :
    Calls Try.prog 58 #[v, .func (.func 59) #[] #[c]] w fun e w' => e = .returned (.int .i64 (idxOf p rs)) ∧ Below w.heap.size w w' := by
  obtain ⟨A, cap, rfl⟩ := hW.form
  have HCL := Lib.hid hcl
  have HW := Lib.hid hW
  clear hcl hW
  go_enter Try.func58, Try.ntmps58
  go_wp2_with fail
  go_loopg [8] rs.length (fun gh i wr => ∃ k : Nat, gh = rs.length - k ∧ k ≤ rs.length ∧ i = .int .i64 k ∧ Below w.heap.size w wr ∧ Hid (∀ j r, j < k → rs[j]? = some r → p r = false))
  case atStart => exact ⟨0, by omega, by omega, rfl, Below.refl _ _, Lib.hid (fun j r h => absurd h (by omega))⟩
  case round =>
    obtain ⟨k, hgk, hk, rfl, hB, HP⟩ := hrel
    have HGK := Lib.hid hgk
    clear hgk
    by_cases hlt : k < rs.length
    · obtain ⟨g, off, cap', hv, hWA⟩ := HW.out.pos (by omega)
      injection hv with hv1 _ hv2
      subst hv1 hv2
      obtain ⟨r, hr⟩ : ∃ r, rs[k]? = some r := ⟨rs[k], List.getElem?_eq_getElem hlt⟩
      have hmem := List.mem_of_getElem? hr
      have hrg : wr.rangeAt g (off + k * 1) (fPtr r) := fun j v hj => keep_cell hB (row_range (f := fPtr) (size := 1) (fun _ => rfl) HW.out k r hr j v hj)
      have HR := Lib.hid hr
      have hcell : wr.cell? ⟨g, off + k, none⟩ = some (fPtr1 r) := by simpa using hrg 0 _ rfl
      clear hr hWA
      cases hp : p r
      · have HCR := Lib.hid (fun (W : World) (hB : Below w.heap.size w W) => hp ▸ HCL.out W r hmem hB)
        have HPR := Lib.hid hp
        clear hp hmem
        go_wp2_with (first | (fail) | (go_at_call 59; refine (HCR.out _ hB).mono ?_; rintro e W1 ⟨rfl, hB1⟩))
        go_roundg (rs.length - (k + 1))
        case measure => have := HGK.out; omega
        case rel =>
          refine ⟨k + 1, rfl, by omega, by go_num, below_c hB hB1, Lib.hid (fun j q hj hq => ?_)⟩
          by_cases hjk : j < k
          · exact HP.out j q hjk hq
          · have : j = k := by omega
            subst this
            have e := hq.symm.trans HR.out
            cases e
            exact HPR.out
      · have HCR := Lib.hid (fun (W : World) (hB : Below w.heap.size w W) => hp ▸ HCL.out W r hmem hB)
        have hi := idxOf_hit p rs k r HR.out hp HP.out
        have HI := Lib.hid hi
        clear hp hmem hi
        go_wp2_with (first | (fail) | (go_at_call 59; refine (HCR.out _ hB).mono ?_; rintro e W1 ⟨rfl, hB1⟩))
        go_ret
        exact ⟨ret_int HI.out.symm, below_c hB hB1⟩
    · have hi := idxOf_none p rs (fun r hr => by
        obtain ⟨j, hj⟩ := List.getElem?_of_mem hr
        have := (List.getElem?_eq_some_iff.1 hj).1
        exact HP.out j r (by omega) hj)
      have HI := Lib.hid hi
      clear hi
      go_wp2_with fail
      go_ret
      exact ⟨ret_int HI.out.symm, hB⟩

set_option maxRecDepth 100000 in
set_option maxHeartbeats 2000000 in
theorem del_watch (A : Option Addr) (cap m : Nat) (rs : List KW) (k : Nat) (w : World) (hm : rs.length = m + 1) (hW : Win w 0 1 (.slice A (m + 1) cap) (m + 1) (rs.flatMap fPtr)) (hk : k ≤ m) (hn : m ≤ 100000) :
    Calls Try.prog 52 #[.slice A (m + 1) cap, .int .i64 k, .int .i64 ((k : Int) + 1)] w fun e w' => e = .returned (.slice A m cap) ∧ Win w' 0 1 (.slice A m cap) m ((rs.eraseIdx k).flatMap fPtr) ∧ w.grownBy w' (Value.slice A (m + 1) cap).ownBlock := by
  obtain ⟨g, off, cap', hv, hWA⟩ := hW.pos (by omega)
  injection hv with hv1 _ hv2
  subst hv1 hv2
  have hcs := hW.1
  have hone : ∀ u ∈ rs.flatMap fPtr, u.oneCell' = true := fun u hu => by
    obtain ⟨r, _, hu⟩ := List.mem_flatMap.1 hu
    exact one_fPtr r u hu
  have hef := erase_flat (f := fPtr) (size := 1) (fun _ => rfl) rs k (by omega)
  have hel : ((rs.eraseIdx k).flatMap fPtr).length = m * 1 := by rw [← hef, List.length_append, List.length_take, List.length_drop, hcs]; omega
  obtain ⟨iE, hi, hsz⟩ := inf_fPtr
  have HA := Lib.hid (fun (W : World) (hw : WinAt W 0 1 g off cap (m + 1) (rs.flatMap fPtr)) (ty : TypeId) (a : Addr) (c : Nat) (ha : a = ⟨g, off + (k + 1), none⟩ ∨ m = k) =>
    run_append_del' (P := Try.prog) (w := W) 106 109 ty iE Try.underlying106 hi hsz hw hcs hone k c hk a (ha.imp (fun e => by rw [e, Nat.mul_one]) id) hef)
  have hle := hWA.le
  have HC := Lib.hid (fun (W : World) (hw : WinAt W 0 1 g off cap m ((rs.eraseIdx k).flatMap fPtr)) (ty : TypeId) (c : Nat) =>
    run_clear_1 (P := Try.prog) (w := W) 106 109 ty (.pointer none) Try.underlying106 (fun _ => by kernel_rfl) rfl (by decide) hw hel 1 c (by decide) hle)
  have hmx := hWA.mx
  unfold maxLen at hmx
  have hd : ((k : Int) == (k : Int) + 1) = false := by simp; omega
  have HH := Lib.hid hel
  have HWA := Lib.hid hWA
  clear hef hcs hone hi hel hW hm hWA
  have hck : (k : Int) + 1 ≤ (m : Int) + 1 := by omega
  have hkc : k ≤ cap := by omega
  have hkc1 : k + 1 ≤ cap := by omega
  have hmc : ¬ m = cap := by omega
  have hmc1 : m ≤ cap := by omega
  by_cases hcap : cap = k + 1
  · subst hcap
    obtain rfl : m = k := by omega
    have HB := Lib.hid (fun W hw ty c => HA.out W hw ty ⟨g, off, none⟩ c (.inr rfl))
    clear HA
    rw [Nat.sub_self] at HB
    go_enter Try.func52, Try.ntmps52
    go_wp2_with fail
    refine wp_region_later_tail 6 (by kernel_rfl) (by kernel_rfl) (fun hlc => ?_)
    simp only [List.take_succ_cons, List.take_zero, List.drop_succ_cons, List.drop_zero]
    repeat (go_big_quiet_step (fail))
    refine wpQuiet_nil ?_
    intro wq hbq
    clear hlc
    obtain ⟨w1, hr1, hw1, hg1⟩ := HB.out wq (HWA.out.move (Nat.lt_of_lt_of_le HWA.out.lt hbq.size) (hbq.block g HWA.out.lt)) 106 _
    have hg1' : w.grownBy w1 (some g) := only_trans (only_below (only_refl w _) hbq) hg1
    refine wpList_append_run rfl _ _ _ _ rfl _ _ rfl rfl _ _ hr1 ?_
    clear hr1 hg1
    go_wp2_with (first | (obtain ⟨w2, hr2, hw2, hg2⟩ := HC.out w1 hw1 106 _; refine wpList_clear_run rfl _ _ rfl _ rfl _ _ hr2 ?_; clear hr2))
    go_ret
    exact ⟨rfl, ⟨HH.out, .inr ⟨g, off, _, rfl, hw2⟩⟩, only_trans hg1' hg2⟩
  · have hcap' : ¬ k + 1 = cap := fun e => hcap e.symm
    have HB := Lib.hid (fun W hw ty c => HA.out W hw ty ⟨g, off + (k + 1), none⟩ c (.inl rfl))
    clear HA
    go_enter Try.func52, Try.ntmps52
    go_wp2_with fail
    refine wp_region_later_tail 6 (by kernel_rfl) (by kernel_rfl) (fun hlc => ?_)
    simp only [List.take_succ_cons, List.take_zero, List.drop_succ_cons, List.drop_zero]
    repeat (go_big_quiet_step (fail))
    refine wpQuiet_nil ?_
    intro wq hbq
    clear hlc
    obtain ⟨w1, hr1, hw1, hg1⟩ := HB.out wq (HWA.out.move (Nat.lt_of_lt_of_le HWA.out.lt hbq.size) (hbq.block g HWA.out.lt)) 106 _
    have hg1' : w.grownBy w1 (some g) := only_trans (only_below (only_refl w _) hbq) hg1
    refine wpList_append_run rfl _ _ _ _ rfl _ _ rfl rfl _ _ hr1 ?_
    clear hr1 hg1
    go_wp2_with (first | (obtain ⟨w2, hr2, hw2, hg2⟩ := HC.out w1 hw1 106 _; refine wpList_clear_run rfl _ _ rfl _ rfl _ _ hr2 ?_; clear hr2))
    go_ret
    exact ⟨rfl, ⟨HH.out, .inr ⟨g, off, _, rfl, hw2⟩⟩, only_trans hg1' hg2⟩

end Go.Proofs.Ytgdfjkdcdfmifaa
