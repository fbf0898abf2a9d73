/- What ConnStops needs, a part: CnV. -/
import Derived.Deep.CutBlock
import Derived.Test.YtfpifahkpkjfgaaMConnStops27
namespace Go.Proofs.Ytfpifahkpkjfgaa
open Go.RowKit Go.Lib
set_option linter.unusedVariables false
set_option linter.unusedSimpArgs false
theorem cn_new1 {E : Nat → Prop} {w0 W : World} {a : Res} {l : List Res} (h : MemX E w0 W ([a] ++ l)) : MemX E w0 W (a :: l) := h
theorem inqNew_ex (w : World) : Calls Try.prog 85 #[] w fun e w' => ∃ g, e = .returned (.pointer (some ⟨g, 0, none⟩)) ∧ Mem w w' [iqR g newIQ] :=
 (inqNew_any w).mono fun e w' ⟨he, hT, hB⟩ => ⟨w.heap.size, he, (Mem.nil w).push hB (atR_stab _ _ _) hT (fun g hg => (Option.some.inj (show some w.heap.size = some g from hg)) ▸ ⟨Nat.le_refl _, hT.lt⟩)⟩
theorem congNew_ex (x : Int) (w : World) (h1 : 8 ≤ x) (h2 : x ≤ 1000) : Calls Try.prog 86 #[.int .i64 x] w fun e w' => ∃ g, e = .returned (.tuple #[.pointer (some ⟨g, 0, none⟩), .int .i64 0]) ∧ Mem w w' [wdR g ⟨x, 2 * x, 65535⟩] :=
 (congNew_yes x w h1 h2).mono fun e w' ⟨he, hT, hB⟩ => ⟨w.heap.size, he, (Mem.nil w).push hB (atR_stab _ _ _) hT (fun g hg => (Option.some.inj (show some w.heap.size = some g from hg)) ▸ ⟨Nat.le_refl _, hT.lt⟩)⟩
theorem cMss_bd {own : Int} (m : Int) (h : 8 ≤ own ∧ own ≤ 1000) : 8 ≤ cMss own m ∧ cMss own m ≤ 1000 := by
 unfold cMss maxZ minZ; split <;> (split <;> split <;> omega)
theorem syn_out {E : Nat → Prop} {w0 W : World} {x y a b c d e A : Res} {l : List Res} (h : MemX E w0 W (x :: y :: a :: b :: c :: d :: e :: A :: l)) : MemX E w0 W (a :: b :: c :: d :: e :: y :: x :: l) := by
 have h1 : MemX E w0 W ([A] ++ (a :: b :: c :: d :: e :: y :: x :: l)) := by
  refine h.perm ?_
  refine (List.Perm.trans (List.perm_append_comm (l₁ := [x, y]) (l₂ := [a, b, c, d, e] ++ (A :: l)) |>.trans ?_) (List.perm_middle (l₁ := [a, b, c, d, e, y, x])))
  show ([a, b, c, d, e] ++ ((A :: l) ++ [x, y])).Perm ([a, b, c, d, e] ++ ([y, x] ++ (A :: l)))
  exact List.Perm.append_left _ ((List.perm_append_comm).trans (List.Perm.append_right _ (List.Perm.swap _ _ _)))
 exact h1.drop_
set_option maxRecDepth 100000 in
set_option maxHeartbeats 8000000 in
theorem syn_any {E : Nat → Prop} {w0 : World} (gc : Nat) (c : KCn) (k : KPt) (m : List Res) (w : World) (hM0 : MemX E w0 w (oqA k.go c.o k.vo :: oqB c.o k.vo :: cnA gc c k :: tmR k.gt c.tm :: rsR k.vr c.rs :: m)) (g : KSeg) (ho : 8 ≤ c.own ∧ c.own ≤ 1000) :
  Calls Try.prog 73 #[.pointer (some ⟨gc, 0, none⟩), .agg (cSeg g).toArray] w fun e w' => ∃ gi gw, e = .returned (.tuple #[]) ∧ MemX E w0 w' (oqA k.go c.o k.vo :: oqB c.o k.vo :: cnA gc (cSyn c g) { k with vi := .pointer (some ⟨gi, 0, none⟩), vw := .pointer (some ⟨gw, 0, none⟩) } :: tmR k.gt c.tm :: rsR k.vr c.rs :: iqR gi newIQ :: wdR gw ⟨cMss c.own g.mss, 2 * cMss c.own g.mss, 65535⟩ :: m) := by
 have hM := hM0
 clear hM0
 have HMB := Lib.hid (cMss_bd g.mss ho)
 obtain ⟨ms, hms⟩ : ∃ z, z = cMss c.own g.mss := ⟨_, rfl⟩
 have HMS := Lib.hid hms
 rw [← hms] at HMB ⊢
 have HSY := Lib.hid (show cnA gc (cSyn c g) = cnA gc { c with irs := g.seq, wnd := g.win, mss := ms } from by rw [hms]; rfl)
 have HCN := Lib.hid (fun (W : World) => congNew_ex ms W HMB.out.1 HMB.out.2)
 obtain ⟨m0, hm0⟩ : ∃ z, z = if g.mss = 0 then 536 else g.mss := ⟨_, rfl⟩
 have HM0 := Lib.hid hm0
 have HM1 := Lib.hid (show ms = (if (if m0 < c.own then m0 else c.own) < 8 then 8 else (if m0 < c.own then m0 else c.own)) from by
  rw [hms, hm0]; unfold cMss maxZ minZ; split <;> split <;> split <;> split <;> omega)
 clear hms ho hm0
 go_enter Try.func73, Try.ntmps73
 go_upto_region 1 with (first | go_skip | ((with_reducible refine at_box_ ?_); refine wpList_box_mem rfl _ _ rfl (cSeg g) rfl hM ?_; clear hM; intro gb W hM; replace hM := cn_in5 hM))
 go_frame
 go_upto_region 1 with (fail)
 refine wp_region_M [5] [13, 16] hM (by kernel_rfl) ?_
 clear hM
 intro wo hM
 refine tW 0 rfl ?_
 simp only [zz]
 refine tW 1 rfl ?_
 simp only [zz]
 refine tW 2 rfl ?_
 simp only [zz]
 refine tW 3 rfl ?_
 simp only [zz]
 refine wpI_takeT (i := 4) (v := ?_) rfl (by kernel_rfl) (by kernel_rfl) (by kernel_rfl) (by kernel_rfl) (by first | exact fun _ _ _ h => h | exact fun _ _ _ h => HQ0.out _ _ _ _ _ h) ⟨fun r hr => (by first | exact hM.get 5 hr | exact hM.get 6 hr), trivial⟩ (Or.inl ⟨by rfl, ?hy⟩) ?_
 case hy => (rintro W ⟨i5, -⟩; have c5 := (show At W _ _ _ from i5 _ rfl).cell; (try simp only [cSeg] at c5); go_simp; (try with_reducible rfl))
 simp only [zz]
 refine tW 5 rfl ?_
 simp only [zz]
 refine wpI_takeT (i := 6) (v := ?_) rfl (by kernel_rfl) (by kernel_rfl) (by kernel_rfl) (by kernel_rfl) (by first | exact fun _ _ _ h => h | exact fun _ _ _ h => HQ0.out _ _ _ _ _ h) ⟨fun r hr => (by first | exact hM.get 5 hr | exact hM.get 6 hr), trivial⟩ (Or.inl ⟨by rfl, ?hy⟩) ?_
 case hy => (rintro W ⟨i5, -⟩; have c5 := (show At W _ _ _ from i5 _ rfl).cell; (try simp only [cSeg] at c5); go_simp; (try with_reducible rfl))
 simp only [zz]
 refine wpI_one (i := 7) rfl (by kernel_rfl) ?_
 (try simp only [zz])
 go_wp2_with (first
   | go_skip
   | (go_at_call 85; refine (inqNew_ex _).mono ?_; rintro e W ⟨gi, rfl, hN⟩; replace hM := cn_new1 (hM.new_ hN); clear hN; dsimp only))
 refine contI_normal ⟨fun r hr => (by first | exact hM.get 5 hr | exact hM.get 6 hr), trivial⟩ ?_
 (try simp only [zz])
 refine tW 8 rfl ?_
 simp only [zz]
 refine tW 9 rfl ?_
 simp only [zz]
 refine wpI_one (i := 10) rfl (by kernel_rfl) ?_
 (try simp only [zz])
 go_wp2_with (first
   | go_skip
   | (((with_reducible refine at_store_ ?_); first | (refine sM 3 hM rfl rfl rfl ?_; clear hM; intro W hM; simp only [zF, zE, cnA, cn4, cn5, cn7, cn9, cn11, cn12, cn13, cn14, cn16, cn17, cn18, cn19, cn20, cn21, cn22, cn23, cn24, cn25, cn26, cn27, cn28] at hM))))
 refine contI_normal ⟨fun r hr => (by first | exact hM.get 5 hr | exact hM.get 6 hr), trivial⟩ ?_
 (try simp only [zz])
 refine tW 11 rfl ?_
 simp only [zz]
 refine tW 12 rfl ?_
 simp only [zz]
 refine wpI_one (i := 13) rfl (by kernel_rfl) ?_
 (try simp only [zz])
 go_wp2_with (first
   | go_skip
   | (((with_reducible refine at_store_ ?_); first | (refine sM 3 hM rfl rfl rfl ?_; clear hM; intro W hM; simp only [zF, zE, cnA, cn4, cn5, cn7, cn9, cn11, cn12, cn13, cn14, cn16, cn17, cn18, cn19, cn20, cn21, cn22, cn23, cn24, cn25, cn26, cn27, cn28] at hM))))
 refine contI_late (by decide) ?_
 (try simp only [zz])
 refine tW 14 rfl ?_
 simp only [zz]
 refine tW 15 rfl ?_
 simp only [zz]
 refine wpI_one (i := 16) rfl (by kernel_rfl) ?_
 (try simp only [zz])
 go_wp2_with (first
   | go_skip
   | (((with_reducible refine at_store_ ?_); first | (refine sM 3 hM rfl rfl rfl ?_; clear hM; intro W hM; simp only [zF, zE, cnA, cn4, cn5, cn7, cn9, cn11, cn12, cn13, cn14, cn16, cn17, cn18, cn19, cn20, cn21, cn22, cn23, cn24, cn25, cn26, cn27, cn28] at hM))))
 refine contI_late (by decide) ?_
 (try simp only [zz])
 refine wpI_done (by kernel_rfl) ?_ _
 (try simp only [zz])
 by_cases hz : g.mss = 0
 ·have tz : (g.mss == 0) = true := by simpa using hz
  have hm : m0 = 536 := by rw [HM0.out, if_pos hz]
  rw [hm] at HM1
  clear hz HM0 hm
  go_upto_region 5 with (first | go_skip | ((with_reducible refine at_load_ ?_); refine at_wanted_ (by rfl) ?_; first | (refine lM 6 hM rfl rfl rfl rfl ?_)))
  go_upto_region 6 with (first | go_skip | ((with_reducible refine at_load_ ?_); refine at_wanted_ (by rfl) ?_; first | (refine lM 3 hM rfl rfl rfl rfl ?_)) | ((with_reducible refine at_store_ ?_); first | (refine sM 3 hM rfl rfl rfl ?_; clear hM; intro W hM; simp only [zF, zE, cnA, cn4, cn5, cn7, cn9, cn11, cn12, cn13, cn14, cn16, cn17, cn18, cn19, cn20, cn21, cn22, cn23, cn24, cn25, cn26, cn27, cn28] at hM)))
  all_goals
   have key : ∀ (W : World) (X : Int), X = ms → MemX E w0 W (iqR gi newIQ :: oqA k.go c.o k.vo :: oqB c.o k.vo :: cnA gc { c with irs := g.seq, wnd := g.win, mss := X } { k with vi := .pointer (some ⟨gi, 0, none⟩) } :: tmR k.gt c.tm :: rsR k.vr c.rs :: atR gb 33 (cSeg g) :: m) → MemX E w0 W (iqR gi newIQ :: oqA k.go c.o k.vo :: oqB c.o k.vo :: cnA gc { c with irs := g.seq, wnd := g.win, mss := ms } { k with vi := .pointer (some ⟨gi, 0, none⟩) } :: tmR k.gt c.tm :: rsR k.vr c.rs :: atR gb 33 (cSeg g) :: m) := fun W X e h => e ▸ h
   replace hM := key _ _ (by rw [HM1.out]; try ((repeat' split) <;> first | rfl | omega)) hM
   clear key
   go_wp2_with (first | go_skip | (first | ((with_reducible refine at_load_ ?_); refine at_wanted_ (by rfl) ?_; first | (refine lM 3 hM rfl rfl rfl rfl ?_))) | (go_at_call 86; refine (HCN.out _).mono ?_; rintro e W ⟨gw, rfl, hN⟩; replace hM := cn_new1 (hM.new_ hN); clear hN; dsimp only) | ((with_reducible refine at_store_ ?_); first | (refine sM 4 hM rfl rfl rfl ?_; clear hM; intro W hM; simp only [zF, zE, cnA, cn4, cn5, cn7, cn9, cn11, cn12, cn13, cn14, cn16, cn17, cn18, cn19, cn20, cn21, cn22, cn23, cn24, cn25, cn26, cn27, cn28] at hM)))
   all_goals (have hM2 := syn_out hM; clear hM; go_end0; refine ⟨rfl, gi, gw, ?_⟩; rw [HSY.out]; exact hM2)
 ·have tz : (g.mss == 0) = false := by simpa using hz
  have hm : m0 = g.mss := by rw [HM0.out, if_neg hz]
  rw [hm] at HM1
  clear hz HM0 hm
  go_upto_region 5 with (first | go_skip | ((with_reducible refine at_load_ ?_); refine at_wanted_ (by rfl) ?_; first | (refine lM 6 hM rfl rfl rfl rfl ?_)))
  go_upto_region 6 with (first | go_skip | ((with_reducible refine at_load_ ?_); refine at_wanted_ (by rfl) ?_; first | (refine lM 3 hM rfl rfl rfl rfl ?_)) | ((with_reducible refine at_store_ ?_); first | (refine sM 3 hM rfl rfl rfl ?_; clear hM; intro W hM; simp only [zF, zE, cnA, cn4, cn5, cn7, cn9, cn11, cn12, cn13, cn14, cn16, cn17, cn18, cn19, cn20, cn21, cn22, cn23, cn24, cn25, cn26, cn27, cn28] at hM)))
  all_goals
   have key : ∀ (W : World) (X : Int), X = ms → MemX E w0 W (iqR gi newIQ :: oqA k.go c.o k.vo :: oqB c.o k.vo :: cnA gc { c with irs := g.seq, wnd := g.win, mss := X } { k with vi := .pointer (some ⟨gi, 0, none⟩) } :: tmR k.gt c.tm :: rsR k.vr c.rs :: atR gb 33 (cSeg g) :: m) → MemX E w0 W (iqR gi newIQ :: oqA k.go c.o k.vo :: oqB c.o k.vo :: cnA gc { c with irs := g.seq, wnd := g.win, mss := ms } { k with vi := .pointer (some ⟨gi, 0, none⟩) } :: tmR k.gt c.tm :: rsR k.vr c.rs :: atR gb 33 (cSeg g) :: m) := fun W X e h => e ▸ h
   replace hM := key _ _ (by rw [HM1.out]; try ((repeat' split) <;> first | rfl | omega)) hM
   clear key
   go_wp2_with (first | go_skip | (first | ((with_reducible refine at_load_ ?_); refine at_wanted_ (by rfl) ?_; first | (refine lM 3 hM rfl rfl rfl rfl ?_))) | (go_at_call 86; refine (HCN.out _).mono ?_; rintro e W ⟨gw, rfl, hN⟩; replace hM := cn_new1 (hM.new_ hN); clear hN; dsimp only) | ((with_reducible refine at_store_ ?_); first | (refine sM 4 hM rfl rfl rfl ?_; clear hM; intro W hM; simp only [zF, zE, cnA, cn4, cn5, cn7, cn9, cn11, cn12, cn13, cn14, cn16, cn17, cn18, cn19, cn20, cn21, cn22, cn23, cn24, cn25, cn26, cn27, cn28] at hM)))
   all_goals (have hM2 := syn_out hM; clear hM; go_end0; refine ⟨rfl, gi, gw, ?_⟩; rw [HSY.out]; exact hM2)
end Go.Proofs.Ytfpifahkpkjfgaa
