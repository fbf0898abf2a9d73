/- route: prune, Drop. Written by my genrt.py. -/
import Derived.Test.YtppjmhkecogbcaaRtD
import Derived.Test.YtppjmhkecogbcaaSub
namespace Go.Proofs.Ytppjmhkecogbcaa
open Go.RowKit Go.Lib
set_option linter.unusedVariables false
set_option linter.unusedSimpArgs false


theorem RT.prn_ptr (t : RT) : t.prn.ptr = t.ptr := by cases t <;> rfl
def RT.isNil : RT → Bool
  | .nil => true
  | _ => false
theorem RT.bare_node (g : Nat) (T : TypeId) (e : List Value) (l r : RT) (s : Bool) (v : Int) : (RT.node g T e l r s v).bare = (!s && l.isNil && r.isNil) := by
  cases l <;> cases r <;> rfl
theorem und_kids : Try.prog.underlying 65 = some (.array 2 64) := by kernel_rfl
theorem sz_kids : (Try.prog.info? 65).map (·.size) = some 2 := by kernel_rfl
theorem idx0 (p q : Value) (w : World) : (Instr.index 65 (.agg #[p, q]) (.int .i64 0)).run Try.prog w = .ok p w := by kernel_rfl
theorem idx1 (p q : Value) (w : World) : (Instr.index 65 (.agg #[p, q]) (.int .i64 1)).run Try.prog w = .ok q w := by kernel_rfl
theorem to_front1 {E : Nat → Prop} {w W : World} {c : Res} {A B : List Res} (h : MemX E w W (c :: (A ++ B))) : MemX E w W (A ++ (c :: B)) := h.perm List.perm_middle.symm
theorem from_front1 {E : Nat → Prop} {w W : World} {c : Res} {A B : List Res} (h : MemX E w W (A ++ (c :: B))) : MemX E w W (c :: (A ++ B)) := h.perm List.perm_middle
theorem to_front2 {E : Nat → Prop} {w W : World} {c : Res} {A B : List Res} (h : MemX E w W (c :: (A ++ B))) : MemX E w W (B ++ (c :: A)) :=
  h.perm ((List.Perm.cons _ List.perm_append_comm).trans List.perm_middle.symm)
theorem from_front2 {E : Nat → Prop} {w W : World} {c : Res} {A B : List Res} (h : MemX E w W (B ++ (c :: A))) : MemX E w W (c :: (A ++ B)) :=
  h.perm (List.perm_middle.trans (List.Perm.cons _ List.perm_append_comm))

set_option maxRecDepth 100000 in
set_option maxHeartbeats 8000000 in
theorem prune_any : ∀ (t : RT) (h : t ≠ .nil) (w : World) (hM0 : MemX (blkE t.res) w w t.res),
    Calls Try.prog 24 #[t.ptr] w fun e w' => e = .returned (.bool t.prn.bare) ∧ MemX (blkE t.res) w w' t.prn.res
  | .nil, h, w, hM0 => absurd rfl h
  | .node g T ext l r s v, h, w, hM0 => by
    have HL := Lib.hid (fun h w hM => prune_any l h w hM)
    have HR := Lib.hid (fun h w hM => prune_any r h w hM)
    have hM : MemX (blkE (RT.node g T ext l r s v).res) w w (atR g T (l.ptr :: r.ptr :: .bool s :: .int .i64 v :: ext) :: (l.res ++ r.res)) := hM0
    generalize blkE (RT.node g T ext l r s v).res = E at *
    clear hM0 h
    show Calls Try.prog 24 #[.pointer (some ⟨g, 0, none⟩)] w _
    have HRES := Lib.hid (show ∀ W, MemX E w W (atR g T (RT.cs ext (RT.clip l.prn) (RT.clip r.prn) s v) :: ((RT.clip l.prn).res ++ (RT.clip r.prn).res)) → ((!s && (RT.clip l.prn).isNil && (RT.clip r.prn).isNil) = (RT.node g T ext l r s v).prn.bare ∧ MemX E w W (RT.node g T ext l r s v).prn.res) from fun W h => ⟨by
      show _ = (RT.node g T ext (RT.clip l.prn) (RT.clip r.prn) s v).bare
      rw [RT.bare_node], h⟩)
    have c0 := hM.cells 0 rfl
    have l0 := hM.lt 0 rfl
    go_enter Try.func24, Try.ntmps24
    go_upto_region 2 with (fail)
    clear c0 l0
    go_upto_region 3 with (first | go_skip | ((with_reducible refine at_load_ ?_); refine at_wanted_ (by rfl) ?_; refine wpList_loads_mem (by go_simp) 65 _ rfl 0 g 0 T _ [l.ptr, r.ptr] hM rfl rfl rfl _ und_kids rfl sz_kids ?_))
    go_loopg [3, 15] 2 (fun gh eb i wr => ∃ (k : Nat) (l1 r1 : RT) (b : Bool), gh = 2 - k ∧ k ≤ 2 ∧ i = .int .i64 k ∧ eb = .bool b ∧ MemX E w wr (atR g T (l1.ptr :: r1.ptr :: .bool s :: .int .i64 v :: ext) :: (l1.res ++ r1.res)) ∧ Hid ((k = 0 ∧ l1 = l ∧ r1 = r ∧ b = !s) ∨ (k = 1 ∧ l1 = RT.clip l.prn ∧ r1 = r ∧ b = (!s && (RT.clip l.prn).isNil)) ∨ (k = 2 ∧ l1 = RT.clip l.prn ∧ r1 = RT.clip r.prn ∧ b = (!s && (RT.clip l.prn).isNil && (RT.clip r.prn).isNil))))
    case atStart => exact ⟨0, l, r, !s, by omega, by omega, rfl, rfl, hM, Lib.hid (.inl ⟨rfl, rfl, rfl, rfl⟩)⟩
    case round =>
      clear hM
      obtain ⟨k, l1, r1, b, hgk, hk, rfl, rfl, hM, HC⟩ := hrel
      have HGK := Lib.hid hgk
      clear hgk
      rcases HC.out with ⟨rfl, h1, h2, h3⟩ | ⟨rfl, h1, h2, h3⟩ | ⟨rfl, h1, h2, h3⟩
      · rw [h1, h2] at hM
        have x0 := fun w => idx0 l.ptr r.ptr w
        have HB := Lib.hid h3
        clear h1 h2 h3 HC
        cases b
        · cases l with
          | nil =>
            have HCL := Lib.hid (show RT.clip RT.nil.prn = .nil from rfl)
            simp only [RT.ptr_nil0] at hM x0 ⊢
            have c0 := hM.cells 0 rfl
            have l0_ := hM.lt 0 rfl
            go_wp2_with fail
            go_roundg (2 - (0 + 1))
            case measure => have := HGK.out; omega
            case rel => exact ⟨1, RT.nil, r, false, rfl, by omega, rfl, rfl, hM, Lib.hid (.inr (.inl ⟨rfl, HCL.out.symm, rfl, by rw [← HB.out, HCL.out]; rfl⟩))⟩
          | node g2 T2 e2 l2 r2 s2 v2 =>
            have HX := Lib.hid (fun W h => HL.out (by intro h; cases h) W h)
            have HPX := Lib.hid (RT.prn_ptr (RT.node g2 T2 e2 l2 r2 s2 v2))
            simp only [RT.ptr_node] at *
            generalize hx : RT.node g2 T2 e2 l2 r2 s2 v2 = x at *
            cases hbr : x.prn.bare
            · rw [hbr] at HX
              have HCL := Lib.hid (show RT.clip x.prn = x.prn from by unfold RT.clip; rw [hbr]; rfl)
              have HNL := Lib.hid (show (RT.clip x.prn).isNil = false from by rw [HCL.out, ← hx]; rfl)
              clear hbr
              go_upto_region 7 with (first | go_skip | (go_at_call 24; refine (HX.out _ (to_front1 hM).hand).mono ?_; rintro e W ⟨rfl, hM6⟩; replace hM := from_front1 ((to_front1 hM).back hM6); clear hM6))
              have c0 := hM.cells 0 rfl
              have l0_ := hM.lt 0 rfl
              rw [← HPX.out] at hM
              go_wp2_with fail
              go_roundg (2 - (0 + 1))
              case measure => have := HGK.out; omega
              case rel => exact ⟨1, x.prn, r, false, rfl, by omega, rfl, rfl, hM, Lib.hid (.inr (.inl ⟨rfl, HCL.out.symm, rfl, by rw [← HB.out, HNL.out]; rfl⟩))⟩
            · rw [hbr] at HX
              have HCL := Lib.hid (show RT.clip x.prn = .nil from by unfold RT.clip; rw [hbr]; rfl)
              clear hbr
              go_upto_region 6 with (first | go_skip | (go_at_call 24; refine (HX.out _ (to_front1 hM).hand).mono ?_; rintro e W ⟨rfl, hM6⟩; replace hM := from_front1 ((to_front1 hM).back hM6); clear hM6))
              go_upto_region 7 with (first | go_skip | ((with_reducible refine at_store_ ?_); refine wpList_store1_mem rfl _ _ _ rfl 0 _ _ _ _ _ hM rfl rfl (by first | ((conv => lhs; whnf); done) | ((conv => lhs; whnf); rfl)) (by rfl) (by rfl) (by kernel_rfl) rfl ?_; clear hM; intro W hM))
              replace hM : MemX E w W (atR g T (.pointer none :: r.ptr :: .bool s :: .int .i64 v :: ext) :: (x.prn.res ++ r.res)) := hM
              replace hM := (to_front1 hM).drop_
              replace hM : MemX E w W (atR g T (.pointer none :: r.ptr :: .bool s :: .int .i64 v :: ext) :: (([] : List Res) ++ r.res)) := by first | exact hM | simpa using hM
              have c0 := hM.cells 0 rfl
              have l0_ := hM.lt 0 rfl
              go_wp2_with fail
              go_roundg (2 - (0 + 1))
              case measure => have := HGK.out; omega
              case rel => exact ⟨1, RT.nil, r, false, rfl, by omega, rfl, rfl, hM, Lib.hid (.inr (.inl ⟨rfl, HCL.out.symm, rfl, by rw [← HB.out, HCL.out]; rfl⟩))⟩
        · cases l with
          | nil =>
            have HCL := Lib.hid (show RT.clip RT.nil.prn = .nil from rfl)
            simp only [RT.ptr_nil0] at hM x0 ⊢
            have c0 := hM.cells 0 rfl
            have l0_ := hM.lt 0 rfl
            go_wp2_with fail
            go_roundg (2 - (0 + 1))
            case measure => have := HGK.out; omega
            case rel => exact ⟨1, RT.nil, r, true, rfl, by omega, rfl, rfl, hM, Lib.hid (.inr (.inl ⟨rfl, HCL.out.symm, rfl, by rw [← HB.out, HCL.out]; rfl⟩))⟩
          | node g2 T2 e2 l2 r2 s2 v2 =>
            have HX := Lib.hid (fun W h => HL.out (by intro h; cases h) W h)
            have HPX := Lib.hid (RT.prn_ptr (RT.node g2 T2 e2 l2 r2 s2 v2))
            simp only [RT.ptr_node] at *
            generalize hx : RT.node g2 T2 e2 l2 r2 s2 v2 = x at *
            cases hbr : x.prn.bare
            · rw [hbr] at HX
              have HCL := Lib.hid (show RT.clip x.prn = x.prn from by unfold RT.clip; rw [hbr]; rfl)
              have HNL := Lib.hid (show (RT.clip x.prn).isNil = false from by rw [HCL.out, ← hx]; rfl)
              clear hbr
              go_upto_region 7 with (first | go_skip | (go_at_call 24; refine (HX.out _ (to_front1 hM).hand).mono ?_; rintro e W ⟨rfl, hM6⟩; replace hM := from_front1 ((to_front1 hM).back hM6); clear hM6))
              have c0 := hM.cells 0 rfl
              have l0_ := hM.lt 0 rfl
              rw [← HPX.out] at hM
              go_wp2_with fail
              go_roundg (2 - (0 + 1))
              case measure => have := HGK.out; omega
              case rel => exact ⟨1, x.prn, r, false, rfl, by omega, rfl, rfl, hM, Lib.hid (.inr (.inl ⟨rfl, HCL.out.symm, rfl, by rw [← HB.out, HNL.out]; rfl⟩))⟩
            · rw [hbr] at HX
              have HCL := Lib.hid (show RT.clip x.prn = .nil from by unfold RT.clip; rw [hbr]; rfl)
              clear hbr
              go_upto_region 6 with (first | go_skip | (go_at_call 24; refine (HX.out _ (to_front1 hM).hand).mono ?_; rintro e W ⟨rfl, hM6⟩; replace hM := from_front1 ((to_front1 hM).back hM6); clear hM6))
              go_upto_region 7 with (first | go_skip | ((with_reducible refine at_store_ ?_); refine wpList_store1_mem rfl _ _ _ rfl 0 _ _ _ _ _ hM rfl rfl (by first | ((conv => lhs; whnf); done) | ((conv => lhs; whnf); rfl)) (by rfl) (by rfl) (by kernel_rfl) rfl ?_; clear hM; intro W hM))
              replace hM : MemX E w W (atR g T (.pointer none :: r.ptr :: .bool s :: .int .i64 v :: ext) :: (x.prn.res ++ r.res)) := hM
              replace hM := (to_front1 hM).drop_
              replace hM : MemX E w W (atR g T (.pointer none :: r.ptr :: .bool s :: .int .i64 v :: ext) :: (([] : List Res) ++ r.res)) := by first | exact hM | simpa using hM
              have c0 := hM.cells 0 rfl
              have l0_ := hM.lt 0 rfl
              go_wp2_with fail
              go_roundg (2 - (0 + 1))
              case measure => have := HGK.out; omega
              case rel => exact ⟨1, RT.nil, r, true, rfl, by omega, rfl, rfl, hM, Lib.hid (.inr (.inl ⟨rfl, HCL.out.symm, rfl, by rw [← HB.out, HCL.out]; rfl⟩))⟩
      · rw [h1, h2] at hM
        have x1 := fun w => idx1 l.ptr r.ptr w
        have HB := Lib.hid h3
        clear h1 h2 h3 HC
        generalize hl0 : RT.clip l.prn = l0 at *
        clear hl0
        cases b
        · cases r with
          | nil =>
            have HCL := Lib.hid (show RT.clip RT.nil.prn = .nil from rfl)
            simp only [RT.ptr_nil0] at hM x1 ⊢
            have c0 := hM.cells 0 rfl
            have l0_ := hM.lt 0 rfl
            go_wp2_with fail
            go_roundg (2 - (1 + 1))
            case measure => have := HGK.out; omega
            case rel => exact ⟨2, l0, RT.nil, false, rfl, by omega, rfl, rfl, hM, Lib.hid (.inr (.inr ⟨rfl, rfl, HCL.out.symm, by rw [← HB.out, HCL.out]; rfl⟩))⟩
          | node g2 T2 e2 l2 r2 s2 v2 =>
            have HX := Lib.hid (fun W h => HR.out (by intro h; cases h) W h)
            have HPX := Lib.hid (RT.prn_ptr (RT.node g2 T2 e2 l2 r2 s2 v2))
            simp only [RT.ptr_node] at *
            generalize hx : RT.node g2 T2 e2 l2 r2 s2 v2 = x at *
            cases hbr : x.prn.bare
            · rw [hbr] at HX
              have HCL := Lib.hid (show RT.clip x.prn = x.prn from by unfold RT.clip; rw [hbr]; rfl)
              have HNL := Lib.hid (show (RT.clip x.prn).isNil = false from by rw [HCL.out, ← hx]; rfl)
              clear hbr
              go_upto_region 7 with (first | go_skip | (go_at_call 24; refine (HX.out _ (to_front2 hM).hand).mono ?_; rintro e W ⟨rfl, hM6⟩; replace hM := from_front2 ((to_front2 hM).back hM6); clear hM6))
              have c0 := hM.cells 0 rfl
              have l0_ := hM.lt 0 rfl
              rw [← HPX.out] at hM
              go_wp2_with fail
              go_roundg (2 - (1 + 1))
              case measure => have := HGK.out; omega
              case rel => exact ⟨2, l0, x.prn, false, rfl, by omega, rfl, rfl, hM, Lib.hid (.inr (.inr ⟨rfl, rfl, HCL.out.symm, by rw [← HB.out, HNL.out]; rfl⟩))⟩
            · rw [hbr] at HX
              have HCL := Lib.hid (show RT.clip x.prn = .nil from by unfold RT.clip; rw [hbr]; rfl)
              clear hbr
              go_upto_region 6 with (first | go_skip | (go_at_call 24; refine (HX.out _ (to_front2 hM).hand).mono ?_; rintro e W ⟨rfl, hM6⟩; replace hM := from_front2 ((to_front2 hM).back hM6); clear hM6))
              go_upto_region 7 with (first | go_skip | ((with_reducible refine at_store_ ?_); refine wpList_store1_mem rfl _ _ _ rfl 0 _ _ _ _ _ hM rfl rfl (by first | ((conv => lhs; whnf); done) | ((conv => lhs; whnf); rfl)) (by rfl) (by rfl) (by kernel_rfl) rfl ?_; clear hM; intro W hM))
              replace hM : MemX E w W (atR g T (l0.ptr :: .pointer none :: .bool s :: .int .i64 v :: ext) :: (l0.res ++ x.prn.res)) := hM
              replace hM := (to_front2 hM).drop_
              replace hM : MemX E w W (atR g T (l0.ptr :: .pointer none :: .bool s :: .int .i64 v :: ext) :: (l0.res ++ ([] : List Res))) := by first | exact hM | simpa using hM
              have c0 := hM.cells 0 rfl
              have l0_ := hM.lt 0 rfl
              go_wp2_with fail
              go_roundg (2 - (1 + 1))
              case measure => have := HGK.out; omega
              case rel => exact ⟨2, l0, RT.nil, false, rfl, by omega, rfl, rfl, hM, Lib.hid (.inr (.inr ⟨rfl, rfl, HCL.out.symm, by rw [← HB.out, HCL.out]; rfl⟩))⟩
        · cases r with
          | nil =>
            have HCL := Lib.hid (show RT.clip RT.nil.prn = .nil from rfl)
            simp only [RT.ptr_nil0] at hM x1 ⊢
            have c0 := hM.cells 0 rfl
            have l0_ := hM.lt 0 rfl
            go_wp2_with fail
            go_roundg (2 - (1 + 1))
            case measure => have := HGK.out; omega
            case rel => exact ⟨2, l0, RT.nil, true, rfl, by omega, rfl, rfl, hM, Lib.hid (.inr (.inr ⟨rfl, rfl, HCL.out.symm, by rw [← HB.out, HCL.out]; rfl⟩))⟩
          | node g2 T2 e2 l2 r2 s2 v2 =>
            have HX := Lib.hid (fun W h => HR.out (by intro h; cases h) W h)
            have HPX := Lib.hid (RT.prn_ptr (RT.node g2 T2 e2 l2 r2 s2 v2))
            simp only [RT.ptr_node] at *
            generalize hx : RT.node g2 T2 e2 l2 r2 s2 v2 = x at *
            cases hbr : x.prn.bare
            · rw [hbr] at HX
              have HCL := Lib.hid (show RT.clip x.prn = x.prn from by unfold RT.clip; rw [hbr]; rfl)
              have HNL := Lib.hid (show (RT.clip x.prn).isNil = false from by rw [HCL.out, ← hx]; rfl)
              clear hbr
              go_upto_region 7 with (first | go_skip | (go_at_call 24; refine (HX.out _ (to_front2 hM).hand).mono ?_; rintro e W ⟨rfl, hM6⟩; replace hM := from_front2 ((to_front2 hM).back hM6); clear hM6))
              have c0 := hM.cells 0 rfl
              have l0_ := hM.lt 0 rfl
              rw [← HPX.out] at hM
              go_wp2_with fail
              go_roundg (2 - (1 + 1))
              case measure => have := HGK.out; omega
              case rel => exact ⟨2, l0, x.prn, false, rfl, by omega, rfl, rfl, hM, Lib.hid (.inr (.inr ⟨rfl, rfl, HCL.out.symm, by rw [← HB.out, HNL.out]; rfl⟩))⟩
            · rw [hbr] at HX
              have HCL := Lib.hid (show RT.clip x.prn = .nil from by unfold RT.clip; rw [hbr]; rfl)
              clear hbr
              go_upto_region 6 with (first | go_skip | (go_at_call 24; refine (HX.out _ (to_front2 hM).hand).mono ?_; rintro e W ⟨rfl, hM6⟩; replace hM := from_front2 ((to_front2 hM).back hM6); clear hM6))
              go_upto_region 7 with (first | go_skip | ((with_reducible refine at_store_ ?_); refine wpList_store1_mem rfl _ _ _ rfl 0 _ _ _ _ _ hM rfl rfl (by first | ((conv => lhs; whnf); done) | ((conv => lhs; whnf); rfl)) (by rfl) (by rfl) (by kernel_rfl) rfl ?_; clear hM; intro W hM))
              replace hM : MemX E w W (atR g T (l0.ptr :: .pointer none :: .bool s :: .int .i64 v :: ext) :: (l0.res ++ x.prn.res)) := hM
              replace hM := (to_front2 hM).drop_
              replace hM : MemX E w W (atR g T (l0.ptr :: .pointer none :: .bool s :: .int .i64 v :: ext) :: (l0.res ++ ([] : List Res))) := by first | exact hM | simpa using hM
              have c0 := hM.cells 0 rfl
              have l0_ := hM.lt 0 rfl
              go_wp2_with fail
              go_roundg (2 - (1 + 1))
              case measure => have := HGK.out; omega
              case rel => exact ⟨2, l0, RT.nil, true, rfl, by omega, rfl, rfl, hM, Lib.hid (.inr (.inr ⟨rfl, rfl, HCL.out.symm, by rw [← HB.out, HCL.out]; rfl⟩))⟩
      · subst h1 h2 h3
        go_wp2_with fail
        go_ret
        have := HRES.out _ hM
        exact ⟨by rw [this.1]; rfl, this.2⟩

set_option maxRecDepth 100000 in
set_option maxHeartbeats 8000000 in
theorem Drop_chk (g m : Nat) (t : RT) (a : Nat) (n : Int) (w : World) (ha : a ≤ 4294967295) (hn : -9223372036854775808 ≤ n ∧ n ≤ 9223372036854775807) (hc : chkZ a n ≠ 0) :
    Calls Try.prog 12 #[.pointer (some ⟨g, 0, none⟩), .agg #[.int .u32 a, .int .i64 n]] w fun e w' => e = .returned (.int .i64 (chkZ a n)) ∧ Below w.heap.size w w' := by
  have hM := Mem.nil w
  have HC := Lib.hid (fun W => Check_any a n W (by omega) (by omega) (by omega) (by omega))
  generalize chkZ a n = c at *
  go_enter Try.func12, Try.ntmps12
  go_wp2_with (first
    | go_skip
    | (go_at_call 22; go_must (refine (HC.out _).mono ?_; rintro e W ⟨rfl, hb⟩; replace hM := hM.kept hb; clear hb))
    | ((with_reducible refine at_box_ ?_); refine wpList_box_mem rfl _ _ rfl _ rfl hM ?_; clear hM; intro gb W hM; first | (simp only [List.nil_append] at hM) | (simp only [List.cons_append, List.nil_append] at hM))
    | ((with_reducible refine at_alloc_ (T := 33) ?_); refine wpList_alloc_mem rfl 33 rfl _ zv_Prefix _ rfl hM ?_; clear hM; intro gb W hM; first | (simp only [List.nil_append] at hM) | (simp only [List.cons_append, List.nil_append] at hM))
    | ((with_reducible refine at_load_ (T := 33) ?_); refine at_wanted_ (by rfl) ?_; refine wpList_loadg_mem (by go_simp) 33 _ rfl 0 _ _ _ hM rfl rfl _ Try.underlying33 rfl sz_Prefix ?_)
    | ((with_reducible refine at_store_ (T := 33) ?_); refine wpList_store_mem rfl 33 _ _ rfl 0 _ _ _ _ hM rfl rfl rfl rfl sz_Prefix rfl ?_; clear hM; intro W hM; simp only [List.set_cons_zero] at hM))
  go_ret
  exact ⟨rfl, hM.b⟩

set_option maxRecDepth 100000 in
set_option maxHeartbeats 8000000 in
theorem Drop_none (g m : Nat) (t : RT) (a n : Nat) (w : World) (hM0 : MemX (blkE t.res) w w t.res) (hT : Tab g t m) (ha : a ≤ 4294967295) (hok : okP a n) (hg : t.get (path a n) = none) :
    Calls Try.prog 12 #[.pointer (some ⟨g, 0, none⟩), .agg #[.int .u32 a, .int .i64 n]] w fun e w' => e = .returned (.int .i64 7) ∧ MemX (blkE t.res) w w' t.res := by
  have hok0 := hok
  have hM := hM0
  obtain ⟨hn, ha2, hal⟩ := hok
  have HC := Lib.hid (fun W => Check_any a n W (by omega) (by omega) (by omega) (by omega))
  rw [okP_chk hok0] at HC
  clear hM0 hok0 hal ha2
  obtain ⟨u, hu⟩ : ∃ u, t.sub (path a n) = u := ⟨_, rfl⟩
  have HF := Lib.hid (fun (E : Nat → Prop) W W' (A : Res) (h : MemX E W W' (A :: t.res)) => tab_find h hT ha hn)
  rw [hu] at HF
  go_enter Try.func12, Try.ntmps12
  go_upto_region 1 with (first | go_skip | ((with_reducible refine at_box_ ?_); refine wpList_box_mem rfl _ _ rfl _ rfl hM ?_; clear hM; intro gb W hM))
  replace hM := res_back (show MemX (blkE t.res) w W (t.res ++ [atR gb 33 [.int .u32 a, .int .i64 n]]) from hM)
  go_upto_region 5 with         (first
          | go_skip
          | (go_at_call 22; go_must (refine (HC.out _).mono ?_; rintro e W ⟨rfl, hb⟩; replace hM := hM.kept hb; clear hb))
          | (go_at_call 23; refine (HF.out _ _ _ _ hM).mono ?_; rintro e W ⟨rfl, hb⟩; replace hM := hM.kept hb; clear hb)
          | ((with_reducible refine at_box_ ?_); refine wpList_box_mem rfl _ _ rfl _ rfl hM ?_; clear hM; intro gb W hM; first | (simp only [List.nil_append] at hM) | (simp only [List.cons_append, List.nil_append] at hM))
          | ((with_reducible refine at_alloc_ (T := 33) ?_); refine wpList_alloc_mem rfl 33 rfl _ zv_Prefix _ rfl hM ?_; clear hM; intro gb W hM; first | (simp only [List.nil_append] at hM) | (simp only [List.cons_append, List.nil_append] at hM))
          | ((with_reducible refine at_load_ (T := 33) ?_); refine at_wanted_ (by rfl) ?_; refine wpList_loadg_mem (by go_simp) 33 _ rfl 0 _ _ _ hM rfl rfl _ Try.underlying33 rfl sz_Prefix ?_)
          | ((with_reducible refine at_store_ (T := 33) ?_); refine wpList_store_mem rfl 33 _ _ rfl 0 _ _ _ _ hM rfl rfl rfl rfl sz_Prefix rfl ?_; clear hM; intro W hM; simp only [List.set_cons_zero] at hM))
  cases u with
  | nil =>
    simp only [RT.ptr_nil0]
    go_wp2_with fail
    go_ret
    exact ⟨rfl, (res_front hM).take_ t.res.length |>.conv (by simp)⟩
  | node g' T e l r s v =>
    rw [get_node hu] at hg
    cases s
    · have cn := (rt_at (res_front hM) _ hu).cell
      simp only [RT.cs] at cn
      simp only [RT.ptr_node]
      clear hu hg
      go_wp2_with fail
      go_ret
      exact ⟨rfl, (res_front hM).take_ t.res.length |>.conv (by simp)⟩
    · simp at hg

set_option maxRecDepth 100000 in
set_option maxHeartbeats 8000000 in
theorem Drop_ok (g m : Nat) (t : RT) (a n : Nat) (w : World) (hM0 : MemX (blkE t.res) w w t.res) (hT : Tab g t m) (ha : a ≤ 4294967295) (hok : okP a n) (hg : (t.get (path a n)).isSome = true) :
    Calls Try.prog 12 #[.pointer (some ⟨g, 0, none⟩), .agg #[.int .u32 a, .int .i64 n]] w fun e w' => ∃ t' : RT, e = .returned (.int .i64 0) ∧ MemX (blkE t.res) w w' t'.res ∧ Tab g t' (m - 1) ∧ 0 < m ∧ ∀ q, t'.get q = if q = path a n then none else t.get q := by
  have hok0 := hok
  have hM := hM0
  obtain ⟨hn, ha2, hal⟩ := hok
  have HC := Lib.hid (fun W => Check_any a n W (by omega) (by omega) (by omega) (by omega))
  rw [okP_chk hok0] at HC
  clear hM0 hok0 hal ha2
  obtain ⟨u, hu⟩ : ∃ u, t.sub (path a n) = u := ⟨_, rfl⟩
  have HF := Lib.hid (fun (E : Nat → Prop) W W' (A : Res) (h : MemX E W W' (A :: t.res)) => tab_find h hT ha hn)
  rw [hu] at HF
  cases u with
  | nil => unfold RT.get at hg; rw [hu] at hg; simp [RT.here] at hg
  | node g' T e l r s v =>
    rw [get_node hu] at hg
    cases s
    · simp at hg
    · have hm0 : 0 < m := by
        have h1 := RT.cnt_put (path a n) t .nil (by rw [hu]; intro h; cases h)
        rw [hu] at h1
        have h2 := hT.cnt
        simp only [RT.cnt, if_true] at h1
        omega
      obtain ⟨m', rfl⟩ : ∃ m', m = m' + 1 := ⟨m - 1, by omega⟩
      have hS := set_node false v m' hT.shape hT.hgt hu (by rw [hT.cnt]; rfl)
      obtain ⟨rest, hp1, hp2⟩ := RT.split (path a n) t
      rw [hu] at hp1 hp2
      have HP1 := Lib.hid hp1
      have HPP := Lib.hid (hp2 (.node g' T e l r false v) rfl)
      obtain ⟨PL, hPL⟩ : ∃ PL, PL = (l.res ++ r.res) ++ rest := ⟨_, rfl⟩
      have HPL := Lib.hid hPL
      have HS := Lib.hid hS
      have HU := Lib.hid hu
      have hm63 : m' ≤ 63 := by have := hT.m64; omega
      simp only [RT.ptr_node] at HF
      clear hp1 hp2 hu hPL hS hg hT hm0
      go_enter Try.func12, Try.ntmps12
      go_upto_region 1 with (first | go_skip | ((with_reducible refine at_box_ ?_); refine wpList_box_mem rfl _ _ rfl _ rfl hM ?_; clear hM; intro gb W hM))
      replace hM := res_back (show MemX (blkE t.res) w W (t.res ++ [atR gb 33 [.int .u32 a, .int .i64 n]]) from hM)
      go_upto_region 5 with         (first
          | go_skip
          | (go_at_call 22; go_must (refine (HC.out _).mono ?_; rintro e W ⟨rfl, hb⟩; replace hM := hM.kept hb; clear hb))
          | (go_at_call 23; refine (HF.out _ _ _ _ hM).mono ?_; rintro e W ⟨rfl, hb⟩; replace hM := hM.kept hb; clear hb)
          | ((with_reducible refine at_box_ ?_); refine wpList_box_mem rfl _ _ rfl _ rfl hM ?_; clear hM; intro gb W hM; first | (simp only [List.nil_append] at hM) | (simp only [List.cons_append, List.nil_append] at hM))
          | ((with_reducible refine at_alloc_ (T := 33) ?_); refine wpList_alloc_mem rfl 33 rfl _ zv_Prefix _ rfl hM ?_; clear hM; intro gb W hM; first | (simp only [List.nil_append] at hM) | (simp only [List.cons_append, List.nil_append] at hM))
          | ((with_reducible refine at_load_ (T := 33) ?_); refine at_wanted_ (by rfl) ?_; refine wpList_loadg_mem (by go_simp) 33 _ rfl 0 _ _ _ hM rfl rfl _ Try.underlying33 rfl sz_Prefix ?_)
          | ((with_reducible refine at_store_ (T := 33) ?_); refine wpList_store_mem rfl 33 _ _ rfl 0 _ _ _ _ hM rfl rfl rfl rfl sz_Prefix rfl ?_; clear hM; intro W hM; simp only [List.set_cons_zero] at hM))

      have hM2 : MemX (blkE t.res) w W (atR gb 33 [.int .u32 a, .int .i64 n] :: atR g' T (l.ptr :: r.ptr :: .bool true :: .int .i64 v :: e) :: PL) := by
        rw [HPL.out]
        exact hM.perm (HP1.out.cons _)
      clear hM
      have hM := hM2
      clear hM2
      have c1 := hM.cells 1 rfl
      have l1 := hM.lt 1 rfl
      go_upto_region 7 with (fail)
      clear c1 l1
      go_upto_region 8 with (first | go_skip | ((with_reducible refine at_store_ ?_); refine wpList_store1_mem rfl _ _ _ rfl 1 _ _ _ _ _ hM rfl rfl (by first | ((conv => lhs; whnf); done) | ((conv => lhs; whnf); rfl)) (by rfl) (by rfl) (by kernel_rfl) rfl ?_; clear hM; intro W hM))
      replace hM : MemX (blkE t.res) w W (atR gb 33 [.int .u32 a, .int .i64 n] :: atR g' T (l.ptr :: r.ptr :: .bool false :: .int .i64 v :: e) :: PL) := hM
      rw [HPL.out] at hM
      replace hM := hM.perm (List.Perm.cons _ HPP.out.symm)
      generalize htt : t.put (path a n) (.node g' T e l r false v) = t2 at *
      clear HPP HPL htt HU HP1
      obtain ⟨l2, r2, s2, v2, ht2⟩ := HS.out.shape
      have HT2 := Lib.hid ht2
      rw [ht2] at hM
      replace hM : MemX (blkE t.res) w W (atR gb 33 [.int .u32 a, .int .i64 n] :: atR g 69 [l2.ptr, r2.ptr, .bool s2, .int .i64 v2, .int .i64 ((m' : Int) + 1)] :: (l2.res ++ r2.res)) := hM
      clear ht2
      have c1 := hM.cells 1 rfl
      have l1 := hM.lt 1 rfl
      go_upto_region 9 with (first | go_skip | ((with_reducible refine at_store_ ?_); refine wpList_store1_mem rfl _ _ _ rfl 1 _ _ _ _ _ hM rfl rfl (by first | ((conv => lhs; whnf); done) | ((conv => lhs; whnf); rfl)) (by rfl) (by rfl) (by kernel_rfl) rfl ?_; clear hM c1 l1; intro W hM))
      replace hM : MemX (blkE t.res) w W (atR gb 33 [.int .u32 a, .int .i64 n] :: (RT.node g 69 [.int .i64 (m' : Int)] l2 r2 s2 v2).res) := hM
      have HPR := Lib.hid (fun W h => prune_any (RT.node g 69 [.int .i64 (m' : Int)] l2 r2 s2 v2) (by intro h; cases h) W h)
      simp only [RT.ptr_node] at HPR
      go_wp2_with (first | go_skip | (go_at_call 24; refine (HPR.out _ (res_front hM).hand).mono ?_; rintro e W ⟨rfl, hM6⟩; replace hM := (res_front hM).back hM6; clear hM6))
      go_ret
      have hS := HS.out
      rw [HT2.out] at hS
      have hM3 := keep_left hM
      refine ⟨_, rfl, hM3, ⟨⟨_, _, _, _, rfl⟩, Nat.le_trans (RT.prn_hgt _) hS.hgt, (RT.prn_cnt _).trans hS.cnt, by omega⟩, by omega, fun q => ?_⟩
      rw [RT.prn_get]
      have h1 := hS.get q
      simp only [Bool.false_eq_true, if_false] at h1
      rw [← h1]
      cases q <;> rfl

end Go.Proofs.Ytppjmhkecogbcaa
