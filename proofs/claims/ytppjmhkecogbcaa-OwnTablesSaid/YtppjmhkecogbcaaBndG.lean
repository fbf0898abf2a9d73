/- ports.Table: New, clashes, All, Drop, Bind. -/
import Derived.Test.YtppjmhkecogbcaaBndF
import Derived.Test.YtppjmhkecogbcaaOrd
import Derived.Test.YtppjmhkecogbcaaSub
namespace Go.Proofs.Ytppjmhkecogbcaa
open Go.RowKit Go.Lib
set_option linter.unusedVariables false
set_option linter.unusedSimpArgs false

def pA (g : Nat) (v : Value) : Res := atR g 74 [v]
def pW (v : Value) (l : List KBound) : Res := rowR 7 cBound v l
abbrev pL (g : Nat) (v : Value) (l : List KBound) : List Res := [pA g v, pW v l]
abbrev PPre (w w' : World) (g : Nat) (v : Value) (l : List KBound) (v' : Value) (l' : List KBound) : Prop := MemX (blkE (pL g v l)) w w' (pL g v' l')
theorem newports_any (w : World) : Calls Try.prog 13 #[] w fun e w' => ∃ g, e = .returned (.pointer (some ⟨g, 0, none⟩)) ∧ Mem w w' (pL g (.slice none 0 0) []) := by
  have hM := Mem.nil w
  go_enter Try.func13, Try.ntmps13
  go_wp2_with (first
    | go_skip
    | ((with_reducible refine at_box_ ?_); refine wpList_box_mem rfl _ _ rfl _ rfl hM ?_; clear hM; intro gb W hM; first | (simp only [List.nil_append] at hM) | (simp only [List.cons_append, List.nil_append] at hM)))
  go_ret
  exact ⟨gb, rfl, hM.rowNil 7 cBound⟩
theorem clashcl_any (gc : Nat) (a b : KBound) (W : World) (hA : At W gc 39 (cBound b)) :
    Calls Try.prog 34 #[.agg (cBound a).toArray, .pointer (some ⟨gc, 0, none⟩)] W fun x w' => x = .returned (.bool (pClash a b)) ∧ Below W.heap.size W w' := by
  have hM := Mem.nil W
  have HC := Lib.hid (fun W => pclash_any a b W)
  generalize pClash a b = r at *
  go_enter Try.func34, Try.ntmps34
  go_wp2_with (first
    | go_skip
    | (go_at_call 35; go_must (refine (HC.out _).mono ?_; rintro e W ⟨rfl, hb⟩; replace hM := hM.kept hb; clear hb))
    | ((with_reducible refine at_load_ (T := 39) ?_); refine wpList_load_mid rfl _ _ rfl gc 0 rfl (cBound b) _ (hA.kept hM.b).range Try.underlying39 rfl sz_Bound ?_)
    | ((with_reducible refine at_box_ ?_); refine wpList_box_mem rfl _ _ rfl _ rfl hM ?_; clear hM; intro gb W hM; first | (simp only [List.nil_append] at hM) | (simp only [List.cons_append, List.nil_append] at hM))
    | ((with_reducible refine at_alloc_ (T := 39) ?_); refine wpList_alloc_mem rfl 39 rfl _ zv_Bound _ rfl hM ?_; clear hM; intro gb W hM; first | (simp only [List.nil_append] at hM) | (simp only [List.cons_append, List.nil_append] at hM))
    | ((with_reducible refine at_load_ (T := 39) ?_); refine at_wanted_ (by rfl) ?_; refine wpList_loadg_mem (by go_simp) 39 _ rfl 0 _ _ _ hM rfl rfl _ Try.underlying39 rfl sz_Bound ?_)
    | ((with_reducible refine at_store_ (T := 39) ?_); refine wpList_store_mem rfl 39 _ _ rfl 0 _ _ _ _ hM rfl rfl rfl rfl sz_Bound rfl ?_; clear hM; intro W hM; simp only [List.set_cons_zero] at hM))
  go_ret
  exact ⟨rfl, hM.b⟩
theorem dropcl_any (gc : Nat) (a : KBound) (o : Int) (W : World) (hA : At W gc 3 [.int .i64 o]) :
    Calls Try.prog 26 #[.agg (cBound a).toArray, .pointer (some ⟨gc, 0, none⟩)] W fun x w' => x = .returned (.bool (decide (a.ow = o))) ∧ Below W.heap.size W w' := by
  have hM := Mem.nil W
  have hr : decide (a.ow = o) = (a.ow == o) := rfl
  rw [hr]
  clear hr
  go_enter Try.func26, Try.ntmps26
  go_upto_region 1 with         (first
          | go_skip
          | ((with_reducible refine at_box_ ?_); refine wpList_box_mem rfl _ _ rfl _ rfl hM ?_; clear hM; intro gb W hM; first | (simp only [List.nil_append] at hM) | (simp only [List.cons_append, List.nil_append] at hM))
          | ((with_reducible refine at_alloc_ (T := 39) ?_); refine wpList_alloc_mem rfl 39 rfl _ zv_Bound _ rfl hM ?_; clear hM; intro gb W hM; first | (simp only [List.nil_append] at hM) | (simp only [List.cons_append, List.nil_append] at hM))
          | ((with_reducible refine at_load_ (T := 39) ?_); refine at_wanted_ (by rfl) ?_; refine wpList_loadg_mem (by go_simp) 39 _ rfl 0 _ _ _ hM rfl rfl _ Try.underlying39 rfl sz_Bound ?_)
          | ((with_reducible refine at_store_ (T := 39) ?_); refine wpList_store_mem rfl 39 _ _ rfl 0 _ _ _ _ hM rfl rfl rfl rfl sz_Bound rfl ?_; clear hM; intro W hM; simp only [List.set_cons_zero] at hM))
  have hc := hM.cells 0 rfl
  have hlt := hM.lt 0 rfl
  have hd := (hA.kept hM.b).cell
  have hlu := (hA.kept hM.b).lt
  simp only [cBound] at hc
  go_wp2_with fail
  go_ret
  exact ⟨rfl, hM.b⟩
theorem clashes_any (g : Nat) (v : Value) (l : List KBound) (b : KBound) (w : World) (hA : At w g 74 [v]) (hR : (rdR 7 cBound v l).P w) (hn : l.length ≤ 100000) :
    Calls Try.prog 30 #[.pointer (some ⟨g, 0, none⟩), .agg (cBound b).toArray] w fun x w' => x = .returned (.bool (pClashes l b)) ∧ Below w.heap.size w w' := by
  have hM := Mem.nil w
  have HR := Lib.hid hR
  have hc := hA.cell
  have hlt := hA.lt
  clear hA hR
  obtain ⟨A, cap, rfl⟩ := rdR_form HR.out
  go_enter Try.func30, Try.ntmps30
  go_upto_region 1 with         (first
          | go_skip
          | ((with_reducible refine at_box_ ?_); refine wpList_box_mem rfl _ _ rfl _ rfl hM ?_; clear hM; intro gb W hM; first | (simp only [List.nil_append] at hM) | (simp only [List.cons_append, List.nil_append] at hM))
          | ((with_reducible refine at_alloc_ (T := 39) ?_); refine wpList_alloc_mem rfl 39 rfl _ zv_Bound _ rfl hM ?_; clear hM; intro gb W hM; first | (simp only [List.nil_append] at hM) | (simp only [List.cons_append, List.nil_append] at hM))
          | ((with_reducible refine at_load_ (T := 39) ?_); refine at_wanted_ (by rfl) ?_; refine wpList_loadg_mem (by go_simp) 39 _ rfl 0 _ _ _ hM rfl rfl _ Try.underlying39 rfl sz_Bound ?_)
          | ((with_reducible refine at_store_ (T := 39) ?_); refine wpList_store_mem rfl 39 _ _ rfl 0 _ _ _ _ hM rfl rfl rfl rfl sz_Bound rfl ?_; clear hM; intro W hM; simp only [List.set_cons_zero] at hM))
  have hc1 := fun i => (hM.b.cell (p := ⟨g, i, none⟩) hlt).trans (hc i)
  clear hc
  have HI := Lib.hid (contains_cl (.slice A l.length cap) (.pointer (some ⟨gb, 0, none⟩)) l (fun a => pClash a b) W (rd_kept HR.out hM.b) hn (fun W1 r _ hB => clashcl_any gb r b W1 ((hM.kept hB).at_ 0 rfl)))
  go_wp2_with (go_at_call 33; refine HI.out.mono ?_; rintro x W1 ⟨rfl, hB⟩)
  go_ret
  exact ⟨rfl, below_c hM.b hB⟩
theorem pt_All_any (g : Nat) (v : Value) (l : List KBound) (w : World) (hA : At w g 74 [v]) (hR : (rdR 7 cBound v l).P w) (hn : l.length ≤ 100000) :
    Calls Try.prog 8 #[.pointer (some ⟨g, 0, none⟩)] w fun x w' => ∃ v', x = .returned v' ∧ Mem w w' [rdR 7 cBound v' l] := by
  have HI := Lib.hid (clone_bnd v l w hR hn)
  have hc := hA.cell
  have hlt := hA.lt
  clear hA hR
  go_enter Try.func8, Try.ntmps8
  go_wp2_with (go_at_call 21; refine HI.out.mono ?_; rintro x W1 ⟨v', rfl, hM⟩)
  go_ret
  exact ⟨_, rfl, hM⟩
end Go.Proofs.Ytppjmhkecogbcaa
