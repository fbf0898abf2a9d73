/- route: All, New, Find. Written by my genrt.py. -/
import Derived.Test.YtppjmhkecogbcaaRtG
namespace Go.Proofs.Ytppjmhkecogbcaa
open Go.RowKit Go.Lib
set_option linter.unusedVariables false
set_option linter.unusedSimpArgs false


theorem zv_SlP : ∀ W : World, (zeroValue 30).run Try.prog W = .ok (.slice none 0 0) W := fun _ => by kernel_rfl
def newT (g : Nat) : RT := .node g 69 [.int .i64 0] .nil .nil false 0
theorem newT_tab (g : Nat) : Tab g (newT g) 0 := ⟨⟨_, _, _, _, rfl⟩, by simp [newT, RT.hgt], rfl, by omega⟩
theorem newT_get (g : Nat) (q : List Bool) : (newT g).get q = none := RT.bare_get rfl q
theorem newroute_any (w : World) : Calls Try.prog 11 #[] w fun e w' => ∃ g, e = .returned (.pointer (some ⟨g, 0, none⟩)) ∧ Mem w w' (newT g).res := by
  have hM := Mem.nil w
  go_enter Try.func11, Try.ntmps11
  go_wp2_with (first
    | go_skip
    | ((with_reducible refine at_box_ ?_); refine wpList_box_mem rfl _ _ rfl _ rfl hM ?_; clear hM; intro gb W hM; first | (simp only [List.nil_append] at hM) | (simp only [List.cons_append, List.nil_append] at hM)))
  go_ret
  exact ⟨gb, rfl, hM⟩

set_option maxRecDepth 100000 in
set_option maxHeartbeats 8000000 in
theorem All_any (g m : Nat) (t : RT) (w : World) (hM0 : MemX (blkE t.res) w w t.res) (hT : Tab g t m) :
    Calls Try.prog 7 #[.pointer (some ⟨g, 0, none⟩)] w fun e w' => ∃ O oc, e = .returned (.slice O m oc) ∧ MemX (blkE t.res) w w' (t.res ++ [rowR 2 cPa (.slice O m oc) (t.lst [])]) := by
  have hM : MemX (blkE t.res) w w ([] ++ t.res) := hM0
  have HWK := Lib.hid (fun go v W h => walk_any go t [] v [] hT.ne (by have := hT.hgt; simp; omega) (by rw [hT.cnt]; have := hT.m64; simp; omega) W h)
  rw [hT.ptr] at HWK
  have HWK := Lib.hid (fun go v W h => (show Calls Try.prog 19 #[.pointer (some ⟨g, 0, none⟩), .agg #[.int .u32 0, .int .i64 0], .func (.func 20) #[] #[.pointer (some ⟨go, 0, none⟩)]] W (fun e w' => ∃ v', e = .returned (.tuple #[]) ∧ MemX (blkE (oL go v [] ++ t.res)) W w' (oL go v' ([] ++ t.lst []) ++ t.res)) from HWK.out go v W h))
  simp only [List.nil_append] at HWK
  have hl : (t.lst []).length = m := (RT.len_lst t []).trans hT.cnt
  have HL := Lib.hid hl
  clear hM0 hl
  go_enter Try.func7, Try.ntmps7
  go_upto_region 2 with (first | go_skip | ((with_reducible refine at_alloc_ ?_); refine wpList_alloc_mem rfl 30 rfl _ zv_SlP [.slice none 0 0] rfl hM ?_; clear hM; intro go W hM))
  replace hM := hM.rowNil 2 cPa
  replace hM : MemX (blkE t.res) w W (oL go (.slice none 0 0) [] ++ t.res) := hM.perm (by
    simp only [List.nil_append, List.append_assoc, List.cons_append]
    exact List.perm_append_comm)
  go_wp2_with (first | go_skip | (go_at_call 19; refine (HWK.out go _ _ (show MemX _ _ _ ((oL go (.slice none 0 0) [] ++ t.res) ++ []) from by rw [List.append_nil]; exact hM).hand).mono ?_; rintro e W ⟨v', rfl, hM6⟩; replace hM := (show MemX _ _ _ ((oL go (.slice none 0 0) [] ++ t.res) ++ []) from by rw [List.append_nil]; exact hM).back hM6; clear hM6; have c0 := hM.cells 0 rfl; have l0 := hM.lt 0 rfl))
  go_ret
  rw [List.append_nil] at hM
  obtain ⟨A, cap, hv⟩ := (hM.row (f := cPa) (rs := t.lst []) 1 rfl).form
  rw [HL.out] at hv
  subst hv
  refine ⟨A, cap, rfl, ?_⟩
  refine (show MemX (blkE t.res) w W ([oR go (.slice A m cap)] ++ (rowR 2 cPa (.slice A m cap) (t.lst []) :: t.res)) from hM).drop_.perm ?_
  exact List.perm_append_comm (l₁ := [_])


def oV : Option (Nat × Int) → Int
  | none => 0
  | some (_, v) => v
def oA (a : Nat) : Option (Nat × Int) → Int
  | none => 0
  | some (k, _) => num (path a k)
def oN : Option (Nat × Int) → Int
  | none => 0
  | some (k, _) => k
def oB : Option (Nat × Int) → Bool
  | none => false
  | some _ => true
theorem bst_end {t : RT} {a k : Nat} (hk : k ≤ 33) (h : t.sub (path a k) = .nil) : bst t.get a 33 = bst t.get a k := by
  have := bst_stop (G := t.get) (a := a) (k := k) (33 - k) (fun i h1 h2 => by unfold RT.get; rw [sub_later h1 h]; rfl)
  rwa [show k + (33 - k) = 33 by omega] at this
theorem shr_at (a k : Nat) (ha : a ≤ 4294967295) (hk : k ≤ 32) : ((a : Int) / 2 ^ (32 - k)) * 2 ^ (32 - k) = ((num (path a k) : Nat) : Int) := by
  rw [num_path (by omega) k hk]
  simp

theorem shr_mod (a k : Nat) (ha : a ≤ 4294967295) (hk : k ≤ 32) : ((a : Int) / 2 ^ (32 - k)) * 2 ^ (32 - k) % 4294967296 = ((num (path a k) : Nat) : Int) := by
  rw [shr_at a k ha hk]
  have := num_lt (p := path a k) (by rw [path_len]; exact hk)
  omega

end Go.Proofs.Ytppjmhkecogbcaa
