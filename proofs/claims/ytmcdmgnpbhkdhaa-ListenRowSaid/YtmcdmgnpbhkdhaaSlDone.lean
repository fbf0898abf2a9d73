/- Package slices over the row of those that wait. -/
import Derived.Test.YtmcdmgnpbhkdhaaSl
import Derived.Test.YtmcdmgnpbhkdhaaMap
import Derived.StillTailTactics
namespace Go.Proofs.Ytmcdmgnpbhkdhaa
open Go.RowKit Go.Lib
set_option linter.unusedVariables false

structure KDone where
  id : Int
  a : Int
  p : Int
def cDone (d : KDone) : List Value := [.int .i64 d.id, .int .u32 d.a, .int .i64 d.p]
theorem info_cDone {d : KDone} : (Try.prog.info? 102).map (·.size) = some (cDone d).length := by kernel_rfl
theorem one_cDone (d : KDone) : ∀ u ∈ cDone d, u.oneCell' = true := by
  intro u hu
  simp only [cDone, List.mem_cons, List.not_mem_nil, or_false] at hu
  rcases hu with rfl | rfl | rfl <;> rfl
theorem inf_cDone : ∃ i, Try.prog.info? 102 = some i ∧ i.size = 3 := by
  have h : (Try.prog.info? 102).map (·.size) = some 3 := by kernel_rfl
  cases hi : Try.prog.info? 102 with
  | none => rw [hi] at h; cases h
  | some i => rw [hi] at h; exact ⟨i, rfl, Option.some.inj h⟩
set_option maxRecDepth 100000 in
set_option maxHeartbeats 2000000 in
theorem idx_done (v c : Value) (rs : List KDone) (p : KDone → Bool) (w : World) (hW : Win w 0 3 v rs.length (rs.flatMap cDone)) (hn : rs.length ≤ 100000)
    (hcl : ∀ (W : World) (r : KDone), r ∈ rs → Below w.heap.size w W → Calls Try.prog 53 #[.agg (cDone r).toArray, c] W fun e w' => e = .returned (.bool (p r)) ∧ Below W.heap.size W w') :
    Calls Try.prog 52 #[v, .func (.func 53) #[] #[c]] w fun e w' => e = .returned (.int .i64 (idxOf p rs)) ∧ Below w.heap.size w w' := by
  obtain ⟨A, cap, rfl⟩ := hW.form
  have HCL := Lib.hid hcl
  have HW := Lib.hid hW
  clear hcl hW
  go_enter Try.func52, Try.ntmps52
  go_wp2_with fail
  go_loopg [8] rs.length (fun gh i wr => ∃ k : Nat, gh = rs.length - k ∧ k ≤ rs.length ∧ i = .int .i64 k ∧ Below w.heap.size w wr ∧ Hid (∀ j r, j < k → rs[j]? = some r → p r = false))
  case atStart => exact ⟨0, by omega, by omega, rfl, Below.refl _ _, Lib.hid (fun j r h => absurd h (by omega))⟩
  case round =>
    obtain ⟨k, hgk, hk, rfl, hB, HP⟩ := hrel
    have HGK := Lib.hid hgk
    clear hgk
    by_cases hlt : k < rs.length
    · obtain ⟨g, off, cap', hv, hWA⟩ := HW.out.pos (by omega)
      injection hv with hv1 _ hv2
      subst hv1 hv2
      obtain ⟨r, hr⟩ : ∃ r, rs[k]? = some r := ⟨rs[k], List.getElem?_eq_getElem hlt⟩
      have hmem := List.mem_of_getElem? hr
      have hrg : wr.rangeAt g (off + k * 3) (cDone r) := fun j v hj => keep_cell hB (row_range (f := cDone) (size := 3) (fun _ => rfl) HW.out k r hr j v hj)
      have HR := Lib.hid hr
      clear hr hWA
      cases hp : p r
      · have HCR := Lib.hid (fun (W : World) (hB : Below w.heap.size w W) => hp ▸ HCL.out W r hmem hB)
        have HPR := Lib.hid hp
        clear hp hmem
        go_wp2_with (first | (refine wpList_load_mid rfl 102 (.tmp 14) rfl g (off + k * 3) rfl (cDone r) _ hrg Try.underlying102 rfl info_cDone ?_) | (go_at_call 53; refine (HCR.out _ hB).mono ?_; rintro e W1 ⟨rfl, hB1⟩))
        go_roundg (rs.length - (k + 1))
        case measure => have := HGK.out; omega
        case rel =>
          refine ⟨k + 1, rfl, by omega, by go_num, below_c hB hB1, Lib.hid (fun j q hj hq => ?_)⟩
          by_cases hjk : j < k
          · exact HP.out j q hjk hq
          · have : j = k := by omega
            subst this
            have e := hq.symm.trans HR.out
            cases e
            exact HPR.out
      · have HCR := Lib.hid (fun (W : World) (hB : Below w.heap.size w W) => hp ▸ HCL.out W r hmem hB)
        have hi := idxOf_hit p rs k r HR.out hp HP.out
        have HI := Lib.hid hi
        clear hp hmem hi
        go_wp2_with (first | (refine wpList_load_mid rfl 102 (.tmp 14) rfl g (off + k * 3) rfl (cDone r) _ hrg Try.underlying102 rfl info_cDone ?_) | (go_at_call 53; refine (HCR.out _ hB).mono ?_; rintro e W1 ⟨rfl, hB1⟩))
        go_ret
        exact ⟨ret_int HI.out.symm, below_c hB hB1⟩
    · have hi := idxOf_none p rs (fun r hr => by
        obtain ⟨j, hj⟩ := List.getElem?_of_mem hr
        have := (List.getElem?_eq_some_iff.1 hj).1
        exact HP.out j r (by omega) hj)
      have HI := Lib.hid hi
      clear hi
      go_wp2_with fail
      go_ret
      exact ⟨ret_int HI.out.symm, hB⟩
set_option maxRecDepth 100000 in
set_option maxHeartbeats 2000000 in
theorem del_done (A : Option Addr) (cap m : Nat) (rs : List KDone) (k : Nat) (w : World) (hm : rs.length = m + 1) (hW : Win w 0 3 (.slice A (m + 1) cap) (m + 1) (rs.flatMap cDone)) (hk : k ≤ m) (hn : m ≤ 100000) :
    Calls Try.prog 45 #[.slice A (m + 1) cap, .int .i64 k, .int .i64 ((k : Int) + 1)] w fun e w' => e = .returned (.slice A m cap) ∧ Win w' 0 3 (.slice A m cap) m ((rs.eraseIdx k).flatMap cDone) ∧ w.grownBy w' (Value.slice A (m + 1) cap).ownBlock := by
  obtain ⟨g, off, cap', hv, hWA⟩ := hW.pos (by omega)
  injection hv with hv1 _ hv2
  subst hv1 hv2
  have hcs := hW.1
  have hone : ∀ u ∈ rs.flatMap cDone, u.oneCell' = true := fun u hu => by
    obtain ⟨r, _, hu⟩ := List.mem_flatMap.1 hu
    exact one_cDone r u hu
  have hef := erase_flat (f := cDone) (size := 3) (fun _ => rfl) rs k (by omega)
  have hel : ((rs.eraseIdx k).flatMap cDone).length = m * 3 := by rw [← hef, List.length_append, List.length_take, List.length_drop, hcs]; omega
  obtain ⟨iE, hi, hsz⟩ := inf_cDone
  have HA := Lib.hid (fun (W : World) (hw : WinAt W 0 3 g off cap (m + 1) (rs.flatMap cDone)) (ty : TypeId) (a : Addr) (c : Nat) (ha : a = ⟨g, off + (k + 1) * 3, none⟩ ∨ m = k) =>
    run_append_del' (P := Try.prog) (w := W) 95 102 ty iE Try.underlying95 hi hsz hw hcs hone k c hk a ha hef)
  have hle := hWA.le
  have HC := Lib.hid (fun (W : World) (hw : WinAt W 0 3 g off cap m ((rs.eraseIdx k).flatMap cDone)) (ty : TypeId) (c : Nat) =>
    run_clear_win (P := Try.prog) (w := W) 95 102 ty (.agg #[.int .i64 0, .int .u32 0, .int .i64 0]) Try.underlying95 (fun _ => by kernel_rfl) rfl (by decide) (by decide) hw hel 1 c (by decide) hle)
  have hmx := hWA.mx
  unfold maxLen at hmx
  have hd : ((k : Int) == (k : Int) + 1) = false := by simp; omega
  have HH := Lib.hid hel
  have HWA := Lib.hid hWA
  clear hef hcs hone hi hel hW hm hWA
  have hck : (k : Int) + 1 ≤ (m : Int) + 1 := by omega
  have hkc : k ≤ cap := by omega
  have hkc1 : k + 1 ≤ cap := by omega
  have hmc : ¬ m = cap := by omega
  have hmc1 : m ≤ cap := by omega
  by_cases hcap : cap = k + 1
  · subst hcap
    obtain rfl : m = k := by omega
    have HB := Lib.hid (fun W hw ty c => HA.out W hw ty ⟨g, off, none⟩ c (.inr rfl))
    clear HA
    rw [Nat.sub_self] at HB
    go_enter Try.func45, Try.ntmps45
    go_wp2_with fail
    refine wp_region_later_tail 6 (by kernel_rfl) (by kernel_rfl) (fun hlc => ?_)
    simp only [List.take_succ_cons, List.take_zero, List.drop_succ_cons, List.drop_zero]
    repeat (go_big_quiet_step (fail))
    refine wpQuiet_nil ?_
    intro wq hbq
    clear hlc
    obtain ⟨w1, hr1, hw1, hg1⟩ := HB.out wq (HWA.out.move (Nat.lt_of_lt_of_le HWA.out.lt hbq.size) (hbq.block g HWA.out.lt)) 95 _
    have hg1' : w.grownBy w1 (some g) := only_trans (only_below (only_refl w _) hbq) hg1
    refine wpList_append_run rfl _ _ _ _ rfl _ _ rfl rfl _ _ hr1 ?_
    clear hr1 hg1
    go_wp2_with (first | (obtain ⟨w2, hr2, hw2, hg2⟩ := HC.out w1 hw1 95 _; refine wpList_clear_run rfl _ _ rfl _ rfl _ _ hr2 ?_; clear hr2))
    go_ret
    exact ⟨rfl, ⟨HH.out, .inr ⟨g, off, _, rfl, hw2⟩⟩, only_trans hg1' hg2⟩
  · have hcap' : ¬ k + 1 = cap := fun e => hcap e.symm
    have HB := Lib.hid (fun W hw ty c => HA.out W hw ty ⟨g, off + (k + 1) * 3, none⟩ c (.inl rfl))
    clear HA
    go_enter Try.func45, Try.ntmps45
    go_wp2_with fail
    refine wp_region_later_tail 6 (by kernel_rfl) (by kernel_rfl) (fun hlc => ?_)
    simp only [List.take_succ_cons, List.take_zero, List.drop_succ_cons, List.drop_zero]
    repeat (go_big_quiet_step (fail))
    refine wpQuiet_nil ?_
    intro wq hbq
    clear hlc
    obtain ⟨w1, hr1, hw1, hg1⟩ := HB.out wq (HWA.out.move (Nat.lt_of_lt_of_le HWA.out.lt hbq.size) (hbq.block g HWA.out.lt)) 95 _
    have hg1' : w.grownBy w1 (some g) := only_trans (only_below (only_refl w _) hbq) hg1
    refine wpList_append_run rfl _ _ _ _ rfl _ _ rfl rfl _ _ hr1 ?_
    clear hr1 hg1
    go_wp2_with (first | (obtain ⟨w2, hr2, hw2, hg2⟩ := HC.out w1 hw1 95 _; refine wpList_clear_run rfl _ _ rfl _ rfl _ _ hr2 ?_; clear hr2))
    go_ret
    exact ⟨rfl, ⟨HH.out, .inr ⟨g, off, _, rfl, hw2⟩⟩, only_trans hg1' hg2⟩
end Go.Proofs.Ytmcdmgnpbhkdhaa
