/- route: bit, find. -/
import Derived.Test.YtppjmhkecogbcaaRtQ
import Derived.Test.YtppjmhkecogbcaaOrdC
import Derived.Test.YtppjmhkecogbcaaTy
import Derived.Test.YtppjmhkecogbcaaSt
import Derived.Outline
namespace Go.Proofs.Ytppjmhkecogbcaa
open Go.RowKit Go.Lib
set_option linter.unusedVariables false
set_option linter.unusedSimpArgs false

def bitZ (a k : Nat) : Int := if pb a k then 1 else 0
theorem bitZ_eq (a k : Nat) (ha : a ≤ 4294967295) : wrap64 (bits BinOp.and IntKind.u32 ((a : Int) / 2 ^ (31 - k)) 1) = bitZ a k := by
  have e : (a : Int) / 2 ^ (31 - k) = ((a / 2 ^ (31 - k) : Nat) : Int) := by simp
  have hl : a / 2 ^ (31 - k) ≤ a := Nat.div_le_self _ _
  rw [e, show (1 : Int) = ((1 : Nat) : Int) from rfl, u32_and_nat _ _ (by omega) (by omega)]
  unfold bitZ pb
  rw [Nat.testBit_eq_decide_div_mod_eq, Nat.and_one_is_mod]
  have h2 : a / 2 ^ (31 - k) % 2 = 0 ∨ a / 2 ^ (31 - k) % 2 = 1 := by omega
  rcases h2 with h2 | h2 <;> rw [h2] <;> simp [wrap64]
theorem bit_any (a k : Nat) (w : World) (ha : a ≤ 4294967295) (hk : k ≤ 31) :
    Calls Try.prog 27 #[.int .u32 a, .int .i64 k] w fun e w' => e = .returned (.int .i64 (bitZ a k)) ∧ w = w' := by
  have H := Lib.hid (bitZ_eq a k ha)
  go_enter Try.func27, Try.ntmps27
  go_wp2_with fail
  go_ret
  exact ⟨ret_int H.out, rfl⟩
/-- a table as it lies in memory -/
structure Tab (g : Nat) (t : RT) (m : Nat) : Prop where
  shape : ∃ l r s v, t = .node g 69 [.int .i64 m] l r s v
  hgt : t.hgt ≤ 33
  cnt : t.cnt = m
  m64 : m ≤ 64
theorem Tab.ne {g m : Nat} {t : RT} (h : Tab g t m) : t ≠ .nil := by
  obtain ⟨l, r, s, v, e⟩ := h.shape
  rw [e]; intro h; cases h
theorem Tab.ptr {g m : Nat} {t : RT} (h : Tab g t m) : t.ptr = .pointer (some ⟨g, 0, none⟩) := by
  obtain ⟨l, r, s, v, rfl⟩ := h.shape
  rfl
theorem rt_at {E : Nat → Prop} {w W : World} {t : RT} {m : List Res} (hM : MemX E w W (t.res ++ m)) (p : List Bool) {g : Nat} {T : TypeId} {e : List Value} {l r : RT} {s : Bool} {v : Int} (h : t.sub p = .node g T e l r s v) : At W g T (RT.cs e l r s v) := by
  obtain ⟨rest, h1, _⟩ := RT.split p t
  have h2 := hM.perm (h1.append_right m)
  rw [h] at h2
  exact h2.at_ 0 rfl
set_option maxRecDepth 100000 in
set_option maxHeartbeats 4000000 in
theorem find_any (g m : Nat) (t : RT) (a n : Nat) (w : World) (hM0 : MemX (blkE t.res) w w t.res) (hT : Tab g t m) (ha : a ≤ 4294967295) (hn : n ≤ 32) :
    Calls Try.prog 23 #[.pointer (some ⟨g, 0, none⟩), .agg #[.int .u32 a, .int .i64 n]] w fun e w' => e = .returned (t.sub (path a n)).ptr ∧ Below w.heap.size w w' := by
  have hM := Mem.nil w
  have HN := Lib.hid (fun p g' T e l r s v (h : t.sub p = .node g' T e l r s v) => rt_at (m := []) (by rw [List.append_nil]; exact hM0) p h)
  have HTN := Lib.hid hT.ne
  have hp := hT.ptr
  have HP := Lib.hid hp
  clear hM0 hT hp
  go_enter Try.func23, Try.ntmps23
  go_upto_region 3 with         (first
          | go_skip
          | ((with_reducible refine at_box_ ?_); refine wpList_box_mem rfl _ _ rfl _ rfl hM ?_; clear hM; intro gb W hM; first | (simp only [List.nil_append] at hM) | (simp only [List.cons_append, List.nil_append] at hM))
          | ((with_reducible refine at_load_ ?_); refine at_wanted_ (by rfl) ?_; refine wpList_loadf_mem (by go_simp) _ _ rfl (by kernel_rfl) 0 _ _ _ _ _ hM rfl rfl (by first | rfl | assumption) ?_)
          | ((with_reducible refine at_store_ ?_); refine wpList_store1_mem rfl _ _ _ rfl 0 _ _ _ _ _ hM rfl rfl (by first | ((conv => lhs; whnf); done) | ((conv => lhs; whnf); rfl)) (by rfl) (by rfl) (by kernel_rfl) rfl ?_; clear hM; intro W hM; simp only [List.set_cons_succ, List.set_cons_zero] at hM))
  have c1 := hM.cells 0 rfl
  have l1 := hM.lt 0 rfl
  have hB0 := hM.b
  clear hM
  go_loopg [12, 5] n (fun gh i q wr => ∃ (k : Nat), gh = n - k ∧ k ≤ n ∧ i = .int .i64 k ∧ Hid (t.sub (path a k) ≠ .nil) ∧ q = (t.sub (path a k)).ptr ∧ Below w.heap.size w wr ∧ Below W.heap.size W wr)
  case atStart => exact ⟨0, by omega, by omega, rfl, HTN, HP.out.symm, hB0, Below.refl _ _⟩
  case round =>
    obtain ⟨k, hgk, hk, rfl, HS, hq, hB, hB2⟩ := hrel
    have HGK := Lib.hid hgk
    clear hgk
    obtain ⟨u, hu⟩ : ∃ u, t.sub (path a k) = u := ⟨_, rfl⟩
    rw [hu] at hq
    have HU := Lib.hid hu
    clear hu
    by_cases hlt : k < n
    · cases u with
      | nil => exact absurd HU.out HS.out
      | node g' T e l r s v =>
        have hA := ((HN.out _ _ _ _ _ _ _ _ HU.out).kept hB)
        have cn := hA.cell
        have ln := hA.lt
        have c2 := fun i => (hB2.cell (p := ⟨gb, i, none⟩) l1).trans (c1 i)
        have l2 : gb < wr.heap.size := Nat.lt_of_lt_of_le l1 hB2.size
        have HBT := Lib.hid (fun W => bit_any a k W ha (by omega))
        simp only [RT.cs] at cn
        simp only [RT.ptr] at hq
        subst hq
        clear hA c1 l1
        have hkid : t.sub (path a (k + 1)) = if pb a k then r else l := by rw [path_succ, RT.sub_snoc, HU.out]; rfl
        cases hb : pb a k
        · rw [show bitZ a k = 0 by unfold bitZ; rw [hb]; rfl] at HBT
          rw [hb] at hkid
          have HKD := Lib.hid (show t.sub (path a (k + 1)) = l from hkid)
          clear hb hkid
          go_upto_region 5 with (fail)
          refine wp_region_later (by kernel_rfl) (by kernel_rfl) (fun hlc => ?_)
          repeat (go_big_quiet_step (first | (go_at_call 27; exact later_same (HBT.out _))))
          refine wpQuiet_nil ?_
          intro wq hbq
          clear hlc
          have HB3 := Lib.hid (below_c hB hbq)
          have HB4 := Lib.hid (below_c hB2 hbq)
          clear HU cn ln c2 l2
          cases l with
          | nil =>
            simp only [RT.ptr]
            go_wp2_with fail
            go_ret
            rw [sub_later (show k + 1 ≤ n by omega) HKD.out]
            exact ⟨rfl, HB3.out⟩
          | node g2 T2 e2 l2 r2 s2 v2 =>
            simp only [RT.ptr]
            go_wp2_with fail
            go_roundg (n - (k + 1))
            case measure => have := HGK.out; omega
            case rel => exact ⟨k + 1, rfl, by omega, by go_num, Lib.hid (by rw [HKD.out]; simp), by rw [HKD.out]; rfl, HB3.out, HB4.out⟩
        · rw [show bitZ a k = 1 by unfold bitZ; rw [hb]; rfl] at HBT
          rw [hb] at hkid
          have HKD := Lib.hid (show t.sub (path a (k + 1)) = r from hkid)
          clear hb hkid
          go_upto_region 5 with (fail)
          refine wp_region_later (by kernel_rfl) (by kernel_rfl) (fun hlc => ?_)
          repeat (go_big_quiet_step (first | (go_at_call 27; exact later_same (HBT.out _))))
          refine wpQuiet_nil ?_
          intro wq hbq
          clear hlc
          have HB3 := Lib.hid (below_c hB hbq)
          have HB4 := Lib.hid (below_c hB2 hbq)
          clear HU cn ln c2 l2
          cases r with
          | nil =>
            simp only [RT.ptr]
            go_wp2_with fail
            go_ret
            rw [sub_later (show k + 1 ≤ n by omega) HKD.out]
            exact ⟨rfl, HB3.out⟩
          | node g2 T2 e2 l2 r2 s2 v2 =>
            simp only [RT.ptr]
            go_wp2_with fail
            go_roundg (n - (k + 1))
            case measure => have := HGK.out; omega
            case rel => exact ⟨k + 1, rfl, by omega, by go_num, Lib.hid (by rw [HKD.out]; simp), by rw [HKD.out]; rfl, HB3.out, HB4.out⟩
    · obtain rfl : n = k := by omega
      subst hq
      go_wp2_with fail
      go_ret
      exact ⟨by rw [HU.out]; rfl, hB⟩
end Go.Proofs.Ytppjmhkecogbcaa
