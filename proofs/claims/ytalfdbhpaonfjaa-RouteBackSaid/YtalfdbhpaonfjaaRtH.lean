/- route: All, New, Find. Written by my genrt.py. -/
import Derived.Test.YtalfdbhpaonfjaaRtG
namespace Go.Proofs.Ytalfdbhpaonfjaa
open Go.RowKit Go.Lib
set_option linter.unusedVariables false
set_option linter.unusedSimpArgs false


theorem zv_SlP : ∀ W : World, (zeroValue 34).run Try.prog W = .ok (.slice none 0 0) W := fun _ => by kernel_rfl
def newT (g : Nat) : RT := .node g 79 [.int .i64 0] .nil .nil false 0
theorem newT_tab (g : Nat) : Tab g (newT g) 0 := ⟨⟨_, _, _, _, rfl⟩, by simp [newT, RT.hgt], rfl, by omega⟩
theorem newT_get (g : Nat) (q : List Bool) : (newT g).get q = none := RT.bare_get rfl q
theorem newroute_any (w : World) : Calls Try.prog 20 #[] w fun e w' => ∃ g, e = .returned (.pointer (some ⟨g, 0, none⟩)) ∧ Mem w w' (newT g).res := by
  have hM := Mem.nil w
  go_enter Try.func20, Try.ntmps20
  go_wp2_with (first
    | go_skip
    | ((with_reducible refine at_box_ ?_); refine wpList_box_mem rfl _ _ rfl _ rfl hM ?_; clear hM; intro gb W hM; first | (simp only [List.nil_append] at hM) | (simp only [List.cons_append, List.nil_append] at hM)))
  go_ret
  exact ⟨gb, rfl, hM⟩

set_option maxRecDepth 100000 in
set_option maxHeartbeats 8000000 in
theorem All_any (g m : Nat) (t : RT) (w : World) (hM0 : MemX (blkE t.res) w w t.res) (hT : Tab g t m) :
    Calls Try.prog 17 #[.pointer (some ⟨g, 0, none⟩)] w fun e w' => ∃ O oc, e = .returned (.slice O m oc) ∧ MemX (blkE t.res) w w' (t.res ++ [rowR 2 cPa (.slice O m oc) (t.lst [])]) := by
  have hM : MemX (blkE t.res) w w ([] ++ t.res) := hM0
  have HWK := Lib.hid (fun go v W h => walk_any go t [] v [] hT.ne (by have := hT.hgt; simp; omega) (by rw [hT.cnt]; have := hT.m64; simp; omega) W h)
  rw [hT.ptr] at HWK
  have HWK := Lib.hid (fun go v W h => (show Calls Try.prog 36 #[.pointer (some ⟨g, 0, none⟩), .agg #[.int .u32 0, .int .i64 0], .func (.func 37) #[] #[.pointer (some ⟨go, 0, none⟩)]] W (fun e w' => ∃ v', e = .returned (.tuple #[]) ∧ MemX (blkE (oL go v [] ++ t.res)) W w' (oL go v' ([] ++ t.lst []) ++ t.res)) from HWK.out go v W h))
  simp only [List.nil_append] at HWK
  have hl : (t.lst []).length = m := (RT.len_lst t []).trans hT.cnt
  have HL := Lib.hid hl
  clear hM0 hl
  go_enter Try.func17, Try.ntmps17
  go_upto_region 2 with (first | go_skip | ((with_reducible refine at_alloc_ ?_); refine wpList_alloc_mem rfl 34 rfl _ zv_SlP [.slice none 0 0] rfl hM ?_; clear hM; intro go W hM))
  replace hM := hM.rowNil 2 cPa
  replace hM : MemX (blkE t.res) w W (oL go (.slice none 0 0) [] ++ t.res) := hM.perm (by
    simp only [List.nil_append, List.append_assoc, List.cons_append]
    exact List.perm_append_comm)
  go_wp2_with (first | go_skip | (go_at_call 36; refine (HWK.out go _ _ (show MemX _ _ _ ((oL go (.slice none 0 0) [] ++ t.res) ++ []) from by rw [List.append_nil]; exact hM).hand).mono ?_; rintro e W ⟨v', rfl, hM6⟩; replace hM := (show MemX _ _ _ ((oL go (.slice none 0 0) [] ++ t.res) ++ []) from by rw [List.append_nil]; exact hM).back hM6; clear hM6; have c0 := hM.cells 0 rfl; have l0 := hM.lt 0 rfl))
  go_ret
  rw [List.append_nil] at hM
  obtain ⟨A, cap, hv⟩ := (hM.row (f := cPa) (rs := t.lst []) 1 rfl).form
  rw [HL.out] at hv
  subst hv
  refine ⟨A, cap, rfl, ?_⟩
  refine (show MemX (blkE t.res) w W ([oR go (.slice A m cap)] ++ (rowR 2 cPa (.slice A m cap) (t.lst []) :: t.res)) from hM).drop_.perm ?_
  exact List.perm_append_comm (l₁ := [_])


def oV : Option (Nat × Int) → Int
  | none => 0
  | some (_, v) => v
def oA (a : Nat) : Option (Nat × Int) → Int
  | none => 0
  | some (k, _) => num (path a k)
def oN : Option (Nat × Int) → Int
  | none => 0
  | some (k, _) => k
def oB : Option (Nat × Int) → Bool
  | none => false
  | some _ => true
theorem bst_end {t : RT} {a k : Nat} (hk : k ≤ 33) (h : t.sub (path a k) = .nil) : bst t.get a 33 = bst t.get a k := by
  have := bst_stop (G := t.get) (a := a) (k := k) (33 - k) (fun i h1 h2 => by unfold RT.get; rw [sub_later h1 h]; rfl)
  rwa [show k + (33 - k) = 33 by omega] at this
theorem shr_at (a k : Nat) (ha : a ≤ 4294967295) (hk : k ≤ 32) : ((a : Int) / 2 ^ (32 - k)) * 2 ^ (32 - k) = ((num (path a k) : Nat) : Int) := by
  rw [num_path (by omega) k hk]
  simp

theorem shr_mod (a k : Nat) (ha : a ≤ 4294967295) (hk : k ≤ 32) : ((a : Int) / 2 ^ (32 - k)) * 2 ^ (32 - k) % 4294967296 = ((num (path a k) : Nat) : Int) := by
  rw [shr_at a k ha hk]
  have := num_lt (p := path a k) (by rw [path_len]; exact hk)
  omega

set_option maxRecDepth 100000 in
set_option maxHeartbeats 8000000 in
theorem Find_any (g m : Nat) (t : RT) (a : Nat) (w : World) (hM0 : MemX (blkE t.res) w w t.res) (hT : Tab g t m) (ha : a ≤ 4294967295) :
    Calls Try.prog 14 #[.pointer (some ⟨g, 0, none⟩), .int .u32 a] w fun e w' => e = .returned (.tuple #[.int .i64 (oV (bst t.get a 33)), .agg #[.int .u32 (oA a (bst t.get a 33)), .int .i64 (oN (bst t.get a 33))], .bool (oB (bst t.get a 33))]) ∧ Below w.heap.size w w' := by
  have hM := Mem.nil w
  have HN := Lib.hid (fun p g' T e l r s v (h : t.sub p = .node g' T e l r s v) => rt_at (m := []) (by rw [List.append_nil]; exact hM0) p h)
  have HTN := Lib.hid hT.ne
  have hp := hT.ptr
  have HP := Lib.hid hp
  have HLT := Lib.hid (fun p (h : t.sub p ≠ .nil) => Nat.le_trans (RT.hgt_sub p t h) hT.hgt)
  clear hM0 hT hp
  go_enter Try.func14, Try.ntmps14
  go_upto_region 3 with         (first
          | go_skip
          | ((with_reducible refine at_box_ ?_); refine wpList_box_mem rfl _ _ rfl _ rfl hM ?_; clear hM; intro gb W hM; first | (simp only [List.nil_append] at hM) | (simp only [List.cons_append, List.nil_append] at hM))
          | ((with_reducible refine at_alloc_ (T := 25) ?_); refine wpList_alloc_mem rfl 25 rfl _ zv_Prefix _ rfl hM ?_; clear hM; intro gb W hM; first | (simp only [List.nil_append] at hM) | (simp only [List.cons_append, List.nil_append] at hM))
          | ((with_reducible refine at_load_ (T := 25) ?_); refine at_wanted_ (by rfl) ?_; refine wpList_loadg_mem (by go_simp) 25 _ rfl 0 _ _ _ hM rfl rfl _ Try.underlying25 rfl sz_Prefix ?_)
          | ((with_reducible refine at_store_ (T := 25) ?_); refine wpList_store_mem rfl 25 _ _ rfl 0 _ _ _ _ hM rfl rfl rfl rfl sz_Prefix rfl ?_; clear hM; intro W hM; simp only [List.set_cons_zero] at hM))
  obtain ⟨gp, hgp⟩ : ∃ z, z = gb := ⟨_, rfl⟩
  subst hgp
  go_loopg [4, 6, 7, 8] 33 (fun gh v b q i wr => ∃ (k : Nat) (o : Option (Nat × Int)), gh = 33 - k ∧ k ≤ 32 ∧ i = .int .i64 k ∧ q = (t.sub (path a k)).ptr ∧ v = .int .i64 (oV o) ∧ b = .bool (oB o) ∧ Mem w wr [atR gp 25 [.int .u32 (oA a o), .int .i64 (oN o)]] ∧ Hid (o = bst t.get a k))
  case atStart => exact ⟨0, none, by omega, by omega, rfl, HP.out.symm, rfl, rfl, hM, Lib.hid rfl⟩
  case round =>
    clear hM
    obtain ⟨k, o, hgk, hk, rfl, hq, rfl, rfl, hM, HO⟩ := hrel
    have HGK := Lib.hid hgk
    clear hgk
    obtain ⟨u, hu⟩ : ∃ u, t.sub (path a k) = u := ⟨_, rfl⟩
    rw [hu] at hq
    cases u with
    | nil =>
      have HE := Lib.hid (show bst t.get a 33 = o from (bst_end (by omega) hu).trans HO.out.symm)
      clear hu HO
      simp only [RT.ptr_nil0] at hq
      subst hq
      go_upto_region 10 with (fail)
      refine wp_region_M [0] [4] hM (by kernel_rfl) ?_
      clear hM
      intro wo hM
      refine wpI_takeP (i := 0) (v := ?_) rfl (by kernel_rfl) (by kernel_rfl) (by kernel_rfl) (by first | exact fun _ _ _ h => h | exact fun _ _ _ h => HQ0.out _ _ _ _ _ h) (Or.inl ⟨by rfl, ?hy⟩) ?_
      case hy => (intro W; go_simp; (try with_reducible rfl))
      simp only [Act.put, List.getElem_toArray, List.getElem_cons_succ, List.getElem_cons_zero, List.setIfInBounds_toArray, List.set_cons_zero, List.set_cons_succ]
      refine wpI_takeT (i := 1) (v := ?_) rfl (by kernel_rfl) (by kernel_rfl) (by kernel_rfl) (by kernel_rfl) (by first | exact fun _ _ _ h => h | exact fun _ _ _ h => HQ0.out _ _ _ _ _ h) ⟨fun r hr => hM.get 0 hr, trivial⟩ (Or.inl ⟨by rfl, ?hy⟩) ?_
      case hy => (rintro W ⟨i0, -⟩; have c0 := (show At W _ _ _ from i0 _ rfl).cell; go_simp; (try with_reducible rfl))
      simp only [Act.put, List.getElem_toArray, List.getElem_cons_succ, List.getElem_cons_zero, List.setIfInBounds_toArray, List.set_cons_zero, List.set_cons_succ]
      refine wpI_takeP (i := 2) (v := ?_) rfl (by kernel_rfl) (by kernel_rfl) (by kernel_rfl) (by first | exact fun _ _ _ h => h | exact fun _ _ _ h => HQ0.out _ _ _ _ _ h) (Or.inl ⟨by rfl, ?hy⟩) ?_
      case hy => (intro W; go_simp; (try with_reducible rfl))
      simp only [Act.put, List.getElem_toArray, List.getElem_cons_succ, List.getElem_cons_zero, List.setIfInBounds_toArray, List.set_cons_zero, List.set_cons_succ]
      refine wpI_takeP (i := 3) (v := ?_) rfl (by kernel_rfl) (by kernel_rfl) (by kernel_rfl) (by first | exact fun _ _ _ h => h | exact fun _ _ _ h => HQ0.out _ _ _ _ _ h) (Or.inl ⟨by rfl, ?hy⟩) ?_
      case hy => (intro W; go_simp; (try with_reducible rfl))
      simp only [Act.put, List.getElem_toArray, List.getElem_cons_succ, List.getElem_cons_zero, List.setIfInBounds_toArray, List.set_cons_zero, List.set_cons_succ]
      refine wpI_one (i := 4) rfl (by kernel_rfl) ?_
      (try simp only [Act.put, List.getElem_toArray, List.getElem_cons_succ, List.getElem_cons_zero, List.setIfInBounds_toArray, List.set_cons_zero, List.set_cons_succ])
      go_wp2_with (first
          | go_skip
          | ((with_reducible refine at_box_ ?_); refine wpList_box_mem rfl _ _ rfl _ rfl hM ?_; clear hM; intro gb W hM; first | (simp only [List.nil_append] at hM) | (simp only [List.cons_append, List.nil_append] at hM))
          | ((with_reducible refine at_alloc_ (T := 25) ?_); refine wpList_alloc_mem rfl 25 rfl _ zv_Prefix _ rfl hM ?_; clear hM; intro gb W hM; first | (simp only [List.nil_append] at hM) | (simp only [List.cons_append, List.nil_append] at hM))
          | ((with_reducible refine at_load_ (T := 25) ?_); refine at_wanted_ (by rfl) ?_; refine wpList_loadg_mem (by go_simp) 25 _ rfl 0 _ _ _ hM rfl rfl _ Try.underlying25 rfl sz_Prefix ?_)
          | ((with_reducible refine at_store_ (T := 25) ?_); refine wpList_store_mem rfl 25 _ _ rfl 0 _ _ _ _ hM rfl rfl rfl rfl sz_Prefix rfl ?_; clear hM; intro W hM; simp only [List.set_cons_zero] at hM)
          | ((with_reducible refine at_load_ ?_); refine at_wanted_ (by rfl) ?_; refine wpList_loadf_mem (by go_simp) _ _ rfl (by kernel_rfl) 0 _ _ _ _ _ hM rfl rfl (by first | rfl | assumption) ?_)
          | ((with_reducible refine at_store_ ?_); refine wpList_store1_mem rfl _ _ _ rfl 0 _ _ _ _ _ hM rfl rfl (by first | ((conv => lhs; whnf); done) | ((conv => lhs; whnf); rfl)) (by rfl) (by rfl) (by kernel_rfl) rfl ?_; clear hM; intro W hM; simp only [List.set_cons_succ, List.set_cons_zero] at hM))
      refine contI_late (by decide) ?_
      (try simp only [Act.put, List.getElem_toArray, List.getElem_cons_succ, List.getElem_cons_zero, List.setIfInBounds_toArray, List.set_cons_zero, List.set_cons_succ])
      refine wpI_takeP (i := 5) (v := ?_) rfl (by kernel_rfl) (by kernel_rfl) (by kernel_rfl) (by first | exact fun _ _ _ h => h | exact fun _ _ _ h => HQ0.out _ _ _ _ _ h) (Or.inl ⟨by rfl, ?hy⟩) ?_
      case hy => (intro W; go_simp; (try with_reducible rfl))
      simp only [Act.put, List.getElem_toArray, List.getElem_cons_succ, List.getElem_cons_zero, List.setIfInBounds_toArray, List.set_cons_zero, List.set_cons_succ]
      refine wpI_done (by kernel_rfl) ?_ _
      (try simp only [Act.put, List.getElem_toArray, List.getElem_cons_succ, List.getElem_cons_zero, List.setIfInBounds_toArray, List.set_cons_zero, List.set_cons_succ])
      go_wp2_with fail
      have c0 := hM.cells 0 rfl
      rw [HE.out]
      refine bodyPost_ret (v := .tuple #[.int .i64 (oV o), .agg #[.int .u32 (oA a o), .int .i64 (oN o)], .bool (oB o)]) (by simp [results, Try.results14, go_sem, c0, oV, oB]) rfl ⟨rfl, hM.b⟩
    | node g' T e l r s x =>
      have hA := ((HN.out _ _ _ _ _ _ _ _ hu).kept hM.b)
      have HU := Lib.hid hu
      simp only [RT.ptr_node] at hq
      subst hq
      have cn := hA.cell
      have ln := hA.lt
      simp only [RT.cs] at cn
      clear hA hu
      cases s
      · have HB2 := Lib.hid (show bst t.get a (k + 1) = o from by rw [bst_step (get_node HU.out)]; exact HO.out.symm)
        go_upto_region 8 with (fail)
        clear HO
        by_cases hk32 : k = 32
        · subst hk32
          go_upto_region 10 with (fail)
          refine wp_region_M [0] [4] hM (by kernel_rfl) ?_
          clear hM
          intro wo hM
          refine wpI_takeP (i := 0) (v := ?_) rfl (by kernel_rfl) (by kernel_rfl) (by kernel_rfl) (by first | exact fun _ _ _ h => h | exact fun _ _ _ h => HQ0.out _ _ _ _ _ h) (Or.inl ⟨by rfl, ?hy⟩) ?_
          case hy => (intro W; go_simp; (try with_reducible rfl))
          simp only [Act.put, List.getElem_toArray, List.getElem_cons_succ, List.getElem_cons_zero, List.setIfInBounds_toArray, List.set_cons_zero, List.set_cons_succ]
          refine wpI_takeT (i := 1) (v := ?_) rfl (by kernel_rfl) (by kernel_rfl) (by kernel_rfl) (by kernel_rfl) (by first | exact fun _ _ _ h => h | exact fun _ _ _ h => HQ0.out _ _ _ _ _ h) ⟨fun r hr => hM.get 0 hr, trivial⟩ (Or.inl ⟨by rfl, ?hy⟩) ?_
          case hy => (rintro W ⟨i0, -⟩; have c0 := (show At W _ _ _ from i0 _ rfl).cell; go_simp; (try with_reducible rfl))
          simp only [Act.put, List.getElem_toArray, List.getElem_cons_succ, List.getElem_cons_zero, List.setIfInBounds_toArray, List.set_cons_zero, List.set_cons_succ]
          refine wpI_takeP (i := 2) (v := ?_) rfl (by kernel_rfl) (by kernel_rfl) (by kernel_rfl) (by first | exact fun _ _ _ h => h | exact fun _ _ _ h => HQ0.out _ _ _ _ _ h) (Or.inl ⟨by rfl, ?hy⟩) ?_
          case hy => (intro W; go_simp; (try with_reducible rfl))
          simp only [Act.put, List.getElem_toArray, List.getElem_cons_succ, List.getElem_cons_zero, List.setIfInBounds_toArray, List.set_cons_zero, List.set_cons_succ]
          refine wpI_takeP (i := 3) (v := ?_) rfl (by kernel_rfl) (by kernel_rfl) (by kernel_rfl) (by first | exact fun _ _ _ h => h | exact fun _ _ _ h => HQ0.out _ _ _ _ _ h) (Or.inl ⟨by rfl, ?hy⟩) ?_
          case hy => (intro W; go_simp; (try with_reducible rfl))
          simp only [Act.put, List.getElem_toArray, List.getElem_cons_succ, List.getElem_cons_zero, List.setIfInBounds_toArray, List.set_cons_zero, List.set_cons_succ]
          refine wpI_one (i := 4) rfl (by kernel_rfl) ?_
          (try simp only [Act.put, List.getElem_toArray, List.getElem_cons_succ, List.getElem_cons_zero, List.setIfInBounds_toArray, List.set_cons_zero, List.set_cons_succ])
          go_wp2_with (first
              | go_skip
              | ((with_reducible refine at_box_ ?_); refine wpList_box_mem rfl _ _ rfl _ rfl hM ?_; clear hM; intro gb W hM; first | (simp only [List.nil_append] at hM) | (simp only [List.cons_append, List.nil_append] at hM))
              | ((with_reducible refine at_alloc_ (T := 25) ?_); refine wpList_alloc_mem rfl 25 rfl _ zv_Prefix _ rfl hM ?_; clear hM; intro gb W hM; first | (simp only [List.nil_append] at hM) | (simp only [List.cons_append, List.nil_append] at hM))
              | ((with_reducible refine at_load_ (T := 25) ?_); refine at_wanted_ (by rfl) ?_; refine wpList_loadg_mem (by go_simp) 25 _ rfl 0 _ _ _ hM rfl rfl _ Try.underlying25 rfl sz_Prefix ?_)
              | ((with_reducible refine at_store_ (T := 25) ?_); refine wpList_store_mem rfl 25 _ _ rfl 0 _ _ _ _ hM rfl rfl rfl rfl sz_Prefix rfl ?_; clear hM; intro W hM; simp only [List.set_cons_zero] at hM)
              | ((with_reducible refine at_load_ ?_); refine at_wanted_ (by rfl) ?_; refine wpList_loadf_mem (by go_simp) _ _ rfl (by kernel_rfl) 0 _ _ _ _ _ hM rfl rfl (by first | rfl | assumption) ?_)
              | ((with_reducible refine at_store_ ?_); refine wpList_store1_mem rfl _ _ _ rfl 0 _ _ _ _ _ hM rfl rfl (by first | ((conv => lhs; whnf); done) | ((conv => lhs; whnf); rfl)) (by rfl) (by rfl) (by kernel_rfl) rfl ?_; clear hM; intro W hM; simp only [List.set_cons_succ, List.set_cons_zero] at hM))
          refine contI_late (by decide) ?_
          (try simp only [Act.put, List.getElem_toArray, List.getElem_cons_succ, List.getElem_cons_zero, List.setIfInBounds_toArray, List.set_cons_zero, List.set_cons_succ])
          refine wpI_takeP (i := 5) (v := ?_) rfl (by kernel_rfl) (by kernel_rfl) (by kernel_rfl) (by first | exact fun _ _ _ h => h | exact fun _ _ _ h => HQ0.out _ _ _ _ _ h) (Or.inl ⟨by rfl, ?hy⟩) ?_
          case hy => (intro W; go_simp; (try with_reducible rfl))
          simp only [Act.put, List.getElem_toArray, List.getElem_cons_succ, List.getElem_cons_zero, List.setIfInBounds_toArray, List.set_cons_zero, List.set_cons_succ]
          refine wpI_done (by kernel_rfl) ?_ _
          (try simp only [Act.put, List.getElem_toArray, List.getElem_cons_succ, List.getElem_cons_zero, List.setIfInBounds_toArray, List.set_cons_zero, List.set_cons_succ])
          go_wp2_with fail
          have c0 := hM.cells 0 rfl
          rw [HB2.out]
          refine bodyPost_ret (v := .tuple #[.int .i64 (oV o), .agg #[.int .u32 (oA a o), .int .i64 (oN o)], .bool (oB o)]) (by simp [results, Try.results14, go_sem, c0, oV, oB]) rfl ⟨rfl, hM.b⟩
        · have hk31 : k ≤ 31 := by omega
          have hne32 : ((k : Int) == 32) = false := by simp; omega
          have HBT := Lib.hid (fun W => bit_any a k W ha (by omega))
          have hkid : t.sub (path a (k + 1)) = if pb a k then r else l := by rw [path_succ, RT.sub_snoc, HU.out]; rfl
          cases hb : pb a k
          · rw [show bitZ a k = 0 by unfold bitZ; rw [hb]; rfl] at HBT
            rw [hb] at hkid
            have HKD := Lib.hid (show t.sub (path a (k + 1)) = l from hkid)
            clear hb hkid
            go_upto_region 9 with (fail)
            refine wp_region_later (by kernel_rfl) (by kernel_rfl) (fun hlc => ?_)
            repeat (go_big_quiet_step (first | (go_at_call 32; exact later_same (HBT.out _))))
            refine wpQuiet_nil ?_
            intro wq hbq
            clear hlc
            replace hM := hM.kept hbq
            clear hbq cn ln
            go_wp2_with fail
            go_roundg (33 - (k + 1))
            case measure => have := HGK.out; omega
            case rel => exact ⟨k + 1, o, rfl, by omega, by go_num, by rw [HKD.out], rfl, rfl, hM, Lib.hid HB2.out.symm⟩
          · rw [show bitZ a k = 1 by unfold bitZ; rw [hb]; rfl] at HBT
            rw [hb] at hkid
            have HKD := Lib.hid (show t.sub (path a (k + 1)) = r from hkid)
            clear hb hkid
            go_upto_region 9 with (fail)
            refine wp_region_later (by kernel_rfl) (by kernel_rfl) (fun hlc => ?_)
            repeat (go_big_quiet_step (first | (go_at_call 32; exact later_same (HBT.out _))))
            refine wpQuiet_nil ?_
            intro wq hbq
            clear hlc
            replace hM := hM.kept hbq
            clear hbq cn ln
            go_wp2_with fail
            go_roundg (33 - (k + 1))
            case measure => have := HGK.out; omega
            case rel => exact ⟨k + 1, o, rfl, by omega, by go_num, by rw [HKD.out], rfl, rfl, hM, Lib.hid HB2.out.symm⟩
      · have HB2 := Lib.hid (show bst t.get a (k + 1) = some (k, x) from bst_yes (get_node HU.out))
        go_upto_region 8 with         (first
          | go_skip
          | ((with_reducible refine at_box_ ?_); refine wpList_box_mem rfl _ _ rfl _ rfl hM ?_; clear hM; intro gb W hM; first | (simp only [List.nil_append] at hM) | (simp only [List.cons_append, List.nil_append] at hM))
          | ((with_reducible refine at_alloc_ (T := 25) ?_); refine wpList_alloc_mem rfl 25 rfl _ zv_Prefix _ rfl hM ?_; clear hM; intro gb W hM; first | (simp only [List.nil_append] at hM) | (simp only [List.cons_append, List.nil_append] at hM))
          | ((with_reducible refine at_load_ (T := 25) ?_); refine at_wanted_ (by rfl) ?_; refine wpList_loadg_mem (by go_simp) 25 _ rfl 0 _ _ _ hM rfl rfl _ Try.underlying25 rfl sz_Prefix ?_)
          | ((with_reducible refine at_store_ (T := 25) ?_); refine wpList_store_mem rfl 25 _ _ rfl 0 _ _ _ _ hM rfl rfl rfl rfl sz_Prefix rfl ?_; clear hM; intro W hM; simp only [List.set_cons_zero] at hM))
        rw [shr_mod a k ha hk] at hM
        replace hM : Mem w W [atR gp 25 [.int .u32 (oA a (some (k, x))), .int .i64 (oN (some (k, x)))]] := hM
        clear cn ln
        have hA := (HN.out _ _ _ _ _ _ _ _ HU.out).kept hM.b
        have cn := hA.cell
        have ln := hA.lt
        simp only [RT.cs] at cn
        clear hA
        clear HO
        by_cases hk32 : k = 32
        · subst hk32
          go_upto_region 10 with (fail)
          refine wp_region_M [0] [4] hM (by kernel_rfl) ?_
          clear hM
          intro wo hM
          refine wpI_takeP (i := 0) (v := ?_) rfl (by kernel_rfl) (by kernel_rfl) (by kernel_rfl) (by first | exact fun _ _ _ h => h | exact fun _ _ _ h => HQ0.out _ _ _ _ _ h) (Or.inl ⟨by rfl, ?hy⟩) ?_
          case hy => (intro W; go_simp; (try with_reducible rfl))
          simp only [Act.put, List.getElem_toArray, List.getElem_cons_succ, List.getElem_cons_zero, List.setIfInBounds_toArray, List.set_cons_zero, List.set_cons_succ]
          refine wpI_takeT (i := 1) (v := ?_) rfl (by kernel_rfl) (by kernel_rfl) (by kernel_rfl) (by kernel_rfl) (by first | exact fun _ _ _ h => h | exact fun _ _ _ h => HQ0.out _ _ _ _ _ h) ⟨fun r hr => hM.get 0 hr, trivial⟩ (Or.inl ⟨by rfl, ?hy⟩) ?_
          case hy => (rintro W ⟨i0, -⟩; have c0 := (show At W _ _ _ from i0 _ rfl).cell; go_simp; (try with_reducible rfl))
          simp only [Act.put, List.getElem_toArray, List.getElem_cons_succ, List.getElem_cons_zero, List.setIfInBounds_toArray, List.set_cons_zero, List.set_cons_succ]
          refine wpI_takeP (i := 2) (v := ?_) rfl (by kernel_rfl) (by kernel_rfl) (by kernel_rfl) (by first | exact fun _ _ _ h => h | exact fun _ _ _ h => HQ0.out _ _ _ _ _ h) (Or.inl ⟨by rfl, ?hy⟩) ?_
          case hy => (intro W; go_simp; (try with_reducible rfl))
          simp only [Act.put, List.getElem_toArray, List.getElem_cons_succ, List.getElem_cons_zero, List.setIfInBounds_toArray, List.set_cons_zero, List.set_cons_succ]
          refine wpI_takeP (i := 3) (v := ?_) rfl (by kernel_rfl) (by kernel_rfl) (by kernel_rfl) (by first | exact fun _ _ _ h => h | exact fun _ _ _ h => HQ0.out _ _ _ _ _ h) (Or.inl ⟨by rfl, ?hy⟩) ?_
          case hy => (intro W; go_simp; (try with_reducible rfl))
          simp only [Act.put, List.getElem_toArray, List.getElem_cons_succ, List.getElem_cons_zero, List.setIfInBounds_toArray, List.set_cons_zero, List.set_cons_succ]
          refine wpI_one (i := 4) rfl (by kernel_rfl) ?_
          (try simp only [Act.put, List.getElem_toArray, List.getElem_cons_succ, List.getElem_cons_zero, List.setIfInBounds_toArray, List.set_cons_zero, List.set_cons_succ])
          go_wp2_with (first
              | go_skip
              | ((with_reducible refine at_box_ ?_); refine wpList_box_mem rfl _ _ rfl _ rfl hM ?_; clear hM; intro gb W hM; first | (simp only [List.nil_append] at hM) | (simp only [List.cons_append, List.nil_append] at hM))
              | ((with_reducible refine at_alloc_ (T := 25) ?_); refine wpList_alloc_mem rfl 25 rfl _ zv_Prefix _ rfl hM ?_; clear hM; intro gb W hM; first | (simp only [List.nil_append] at hM) | (simp only [List.cons_append, List.nil_append] at hM))
              | ((with_reducible refine at_load_ (T := 25) ?_); refine at_wanted_ (by rfl) ?_; refine wpList_loadg_mem (by go_simp) 25 _ rfl 0 _ _ _ hM rfl rfl _ Try.underlying25 rfl sz_Prefix ?_)
              | ((with_reducible refine at_store_ (T := 25) ?_); refine wpList_store_mem rfl 25 _ _ rfl 0 _ _ _ _ hM rfl rfl rfl rfl sz_Prefix rfl ?_; clear hM; intro W hM; simp only [List.set_cons_zero] at hM)
              | ((with_reducible refine at_load_ ?_); refine at_wanted_ (by rfl) ?_; refine wpList_loadf_mem (by go_simp) _ _ rfl (by kernel_rfl) 0 _ _ _ _ _ hM rfl rfl (by first | rfl | assumption) ?_)
              | ((with_reducible refine at_store_ ?_); refine wpList_store1_mem rfl _ _ _ rfl 0 _ _ _ _ _ hM rfl rfl (by first | ((conv => lhs; whnf); done) | ((conv => lhs; whnf); rfl)) (by rfl) (by rfl) (by kernel_rfl) rfl ?_; clear hM; intro W hM; simp only [List.set_cons_succ, List.set_cons_zero] at hM))
          refine contI_late (by decide) ?_
          (try simp only [Act.put, List.getElem_toArray, List.getElem_cons_succ, List.getElem_cons_zero, List.setIfInBounds_toArray, List.set_cons_zero, List.set_cons_succ])
          refine wpI_takeP (i := 5) (v := ?_) rfl (by kernel_rfl) (by kernel_rfl) (by kernel_rfl) (by first | exact fun _ _ _ h => h | exact fun _ _ _ h => HQ0.out _ _ _ _ _ h) (Or.inl ⟨by rfl, ?hy⟩) ?_
          case hy => (intro W; go_simp; (try with_reducible rfl))
          simp only [Act.put, List.getElem_toArray, List.getElem_cons_succ, List.getElem_cons_zero, List.setIfInBounds_toArray, List.set_cons_zero, List.set_cons_succ]
          refine wpI_done (by kernel_rfl) ?_ _
          (try simp only [Act.put, List.getElem_toArray, List.getElem_cons_succ, List.getElem_cons_zero, List.setIfInBounds_toArray, List.set_cons_zero, List.set_cons_succ])
          go_wp2_with fail
          have c0 := hM.cells 0 rfl
          rw [HB2.out]
          refine bodyPost_ret (v := .tuple #[.int .i64 (oV (some (32, x))), .agg #[.int .u32 (oA a (some (32, x))), .int .i64 (oN (some (32, x)))], .bool (oB (some (32, x)))]) (by simp [results, Try.results14, go_sem, c0, oV, oB]) rfl ⟨rfl, hM.b⟩
        · have hk31 : k ≤ 31 := by omega
          have hne32 : ((k : Int) == 32) = false := by simp; omega
          have HBT := Lib.hid (fun W => bit_any a k W ha (by omega))
          have hkid : t.sub (path a (k + 1)) = if pb a k then r else l := by rw [path_succ, RT.sub_snoc, HU.out]; rfl
          cases hb : pb a k
          · rw [show bitZ a k = 0 by unfold bitZ; rw [hb]; rfl] at HBT
            rw [hb] at hkid
            have HKD := Lib.hid (show t.sub (path a (k + 1)) = l from hkid)
            clear hb hkid
            go_upto_region 9 with (fail)
            refine wp_region_later (by kernel_rfl) (by kernel_rfl) (fun hlc => ?_)
            repeat (go_big_quiet_step (first | (go_at_call 32; exact later_same (HBT.out _))))
            refine wpQuiet_nil ?_
            intro wq hbq
            clear hlc
            replace hM := hM.kept hbq
            clear hbq cn ln
            go_wp2_with fail
            go_roundg (33 - (k + 1))
            case measure => have := HGK.out; omega
            case rel => exact ⟨k + 1, (some (k, x)), rfl, by omega, by go_num, by rw [HKD.out], rfl, rfl, hM, Lib.hid HB2.out.symm⟩
          · rw [show bitZ a k = 1 by unfold bitZ; rw [hb]; rfl] at HBT
            rw [hb] at hkid
            have HKD := Lib.hid (show t.sub (path a (k + 1)) = r from hkid)
            clear hb hkid
            go_upto_region 9 with (fail)
            refine wp_region_later (by kernel_rfl) (by kernel_rfl) (fun hlc => ?_)
            repeat (go_big_quiet_step (first | (go_at_call 32; exact later_same (HBT.out _))))
            refine wpQuiet_nil ?_
            intro wq hbq
            clear hlc
            replace hM := hM.kept hbq
            clear hbq cn ln
            go_wp2_with fail
            go_roundg (33 - (k + 1))
            case measure => have := HGK.out; omega
            case rel => exact ⟨k + 1, (some (k, x)), rfl, by omega, by go_num, by rw [HKD.out], rfl, rfl, hM, Lib.hid HB2.out.symm⟩

end Go.Proofs.Ytalfdbhpaonfjaa
