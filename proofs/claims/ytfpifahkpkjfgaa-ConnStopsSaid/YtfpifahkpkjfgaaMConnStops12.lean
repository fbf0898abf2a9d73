/- What ConnStops needs, a part: CnB. -/
import Derived.Deep.CutBlock
import Derived.Test.YtfpifahkpkjfgaaMConnStops11
namespace Go.Proofs.Ytfpifahkpkjfgaa
open Go.RowKit Go.Lib
set_option linter.unusedVariables false
set_option linter.unusedSimpArgs false
set_option maxRecDepth 100000 in
set_option maxHeartbeats 8000000 in
theorem bare_none {E : Nat → Prop} {w0 : World} (gc : Nat) (c : KCn) (k : KPt) (at_ : Int) (m : List Res) (w : World) (hM0 : MemX E w0 w (oqA k.go c.o k.vo :: oqB c.o k.vo :: cnA gc c k :: m)) (hh : c.h = none) (hi : k.vi = .pointer none) :
  Calls Try.prog 42 #[.pointer (some ⟨gc, 0, none⟩), .int .i64 at_] w fun e w' => e = .returned (.agg (cSeg (cBare c at_)).toArray) ∧ MemX E w0 w' (oqA k.go c.o k.vo :: oqB c.o k.vo :: cnA gc c k :: m) := by
 obtain ⟨kgo, kgt, kvo, kvr, kvi, kvw⟩ := k
 simp only at hi
 subst hi
 have hM := hM0
 clear hM0
 have HB := Lib.hid (show cBare c at_ = ⟨c.la, c.lp, c.ra, c.rp, u32 (c.iss + u32 at_), 0, false, false, false, false, 2048, 0, ⟨#[]⟩⟩ from by unfold cBare; rw [hh])
 obtain ⟨k, hk⟩ : ∃ z : KPt, z = ⟨kgo, kgt, kvo, kvr, .pointer none, kvw⟩ := ⟨_, rfl⟩
 rw [← hk] at hM
 have HI := Lib.hid (show k.vi = .pointer none from by rw [hk])
 have HK := Lib.hid hk
 clear hh hk
 go_enter Try.func42, Try.ntmps42
 go_upto_region 1 with (first | go_skip | ((with_reducible refine at_alloc_ (T := 33) ?_); refine wpList_alloc_mem rfl 33 rfl _ zv_Seg _ rfl hM ?_; clear hM; intro g4 W hM; replace hM := cn_last hM))
 refine wp_region_M [3] [17] hM (by kernel_rfl) ?_
 clear hM
 intro wo hM
 refine tW 0 rfl ?_
 simp only [zz]
 refine tW 1 rfl ?_
 simp only [zz]
 refine tW 2 rfl ?_
 simp only [zz]
 refine tL 3 (v := .agg #[.int .u32 c.la, .int .i64 c.lp]) rfl ⟨fun r hr => (by first | exact hM.get 3 hr | exact hM.get 4 hr), trivial⟩ (Or.inl ⟨by rfl, ?hy⟩) ?_
 case hy => (rintro W ⟨i3, -⟩; have c3 := (show At W _ _ _ from i3 _ rfl).cell; (try simp only [cnC] at c3); exact exec_loadw _ _ rfl gc 0 rfl [.int .u32 c.la, .int .i64 c.lp] _ Try.underlying29 rfl sz_End (range_sub (cs := cnC c k) c3 0 _ rfl))
 simp only [zz]
 refine tW 4 rfl ?_
 simp only [zz]
 refine tW 5 rfl ?_
 simp only [zz]
 refine tW 6 rfl ?_
 simp only [zz]
 refine tL 7 (v := .agg #[.int .u32 c.ra, .int .i64 c.rp]) rfl ⟨fun r hr => (by first | exact hM.get 3 hr | exact hM.get 4 hr), trivial⟩ (Or.inl ⟨by rfl, ?hy⟩) ?_
 case hy => (rintro W ⟨i3, -⟩; have c3 := (show At W _ _ _ from i3 _ rfl).cell; (try simp only [cnC] at c3); exact exec_loadw _ _ rfl gc 2 rfl [.int .u32 c.ra, .int .i64 c.rp] _ Try.underlying29 rfl sz_End (range_sub (cs := cnC c k) c3 2 _ rfl))
 simp only [zz]
 refine tW 8 rfl ?_
 simp only [zz]
 refine tW 9 rfl ?_
 simp only [zz]
 refine tW 10 rfl ?_
 simp only [zz]
 refine tL 11 (v := ?_) rfl ⟨fun r hr => (by first | exact hM.get 3 hr | exact hM.get 4 hr), trivial⟩ (Or.inl ⟨by rfl, ?hy⟩) ?_
 case hy => (rintro W ⟨i3, -⟩; have c3 := (show At W _ _ _ from i3 _ rfl).cell; (try simp only [cnC] at c3); go_simp; (try with_reducible rfl))
 simp only [zz]
 refine tW 12 rfl ?_
 simp only [zz]
 refine tY 13 rfl ((.inl ⟨by rfl, fun w => exec_cv32 _ _ _ rfl Try.underlying3 Try.underlying22 _ rfl w⟩)) ?_
 simp only [zz]
 (try simp only [Bool.not_true, Bool.not_false])
 refine tW 14 rfl ?_
 simp only [zz]
 refine tW 15 rfl ?_
 simp only [zz]
 refine wpI_one (i := 16) rfl (by kernel_rfl) ?_
 (try simp only [zz])
 go_wp2_with (first
   | go_skip
   | ((with_reducible refine at_alloc_ (T := 33) ?_); refine wpList_alloc_mem rfl 33 rfl _ zv_Seg _ rfl hM ?_; clear hM; intro g5 W hM; replace hM := cn_last hM))
 refine contI_normal ⟨fun r hr => (by first | exact hM.get 3 hr | exact hM.get 4 hr), trivial⟩ ?_
 (try simp only [zz])
 refine wpI_one (i := 17) rfl (by kernel_rfl) ?_
 (try simp only [zz])
 go_wp2_with (first
   | go_skip
   | ((with_reducible refine at_store_ (T := 33) ?_); refine wpList_store_mem rfl 33 _ _ rfl 0 _ _ _ _ hM rfl rfl rfl rfl sz_Seg rfl ?_; clear hM; intro W hM; simp only [zF, zE] at hM))
 refine contI_late (by decide) ?_
 (try simp only [zz])
 refine wpI_done (by kernel_rfl) ?_ _
 (try simp only [zz])
 replace hM : MemX E w0 W (atR g5 33 [.int .u32 c.la, .int .i64 c.lp, .int .u32 c.ra, .int .i64 c.rp, .int .u32 ((c.iss + u32 at_) % 4294967296), .int .u32 0, .bool false, .bool false, .bool false, .bool false, .int .i64 2048, .int .i64 0, .string ⟨#[]⟩] :: atR g4 33 zSeg :: oqA k.go c.o k.vo :: oqB c.o k.vo :: cnA gc c k :: m) := hM
 have c4 := hM.cells 4 rfl 7
 replace c4 : W.cell? ⟨gc, 7, none⟩ = some (.pointer none) := by rw [← HI.out]; exact c4
 go_wp2_with (first | go_skip | ((with_reducible refine at_load_ (T := 33) ?_); refine wpList_loadg_mem (by go_simp) 33 _ rfl 0 _ _ _ hM rfl rfl _ Try.underlying33 rfl sz_Seg ?_) | ((with_reducible refine at_store_ (T := 33) ?_); refine wpList_store_mem rfl 33 _ _ rfl 1 _ _ _ _ hM rfl rfl rfl rfl sz_Seg rfl ?_; clear hM; intro W hM; simp only [zF, zE] at hM))
 have hcz := hM.cells 1 rfl
 refine bodyPost_ret (v := .agg (cSeg (cBare c at_)).toArray) (by rw [HB.out]; simp [results, Try.results42, go_sem, hcz, cSeg, u32, IntKind.wrap_u32]) rfl ?_
 have hM2 := (show MemX E w0 _ ([_, _] ++ (oqA k.go c.o k.vo :: oqB c.o k.vo :: cnA gc c k :: m)) from hM).drop_
 rw [HK.out] at hM2
 exact ⟨rfl, hM2⟩
set_option maxRecDepth 100000 in
set_option maxHeartbeats 8000000 in
theorem bare_some {E : Nat → Prop} {w0 : World} (gc : Nat) (c : KCn) (k : KPt) (gi : Nat) (q : IQ) (d : KWd) (at_ : Int) (m : List Res) (w : World) (hM0 : MemX E w0 w (oqA k.go c.o k.vo :: oqB c.o k.vo :: cnA gc c k :: tmR k.gt c.tm :: rsR k.vr c.rs :: iqR gi q :: m)) (hh : c.h = some (q, d)) (hi : k.vi = .pointer (some ⟨gi, 0, none⟩)) (hq : IqOk q) :
  Calls Try.prog 42 #[.pointer (some ⟨gc, 0, none⟩), .int .i64 at_] w fun e w' => e = .returned (.agg (cSeg (cBare c at_)).toArray) ∧ MemX E w0 w' (oqA k.go c.o k.vo :: oqB c.o k.vo :: cnA gc c k :: tmR k.gt c.tm :: rsR k.vr c.rs :: iqR gi q :: m) := by
 obtain ⟨kgo, kgt, kvo, kvr, kvi, kvw⟩ := k
 simp only at hi
 subst hi
 have hM := hM0
 clear hM0
 have HB := Lib.hid (show cBare c at_ = ⟨c.la, c.lp, c.ra, c.rp, u32 (c.iss + u32 at_), u32 (c.irs + u32 q.nx), false, true, false, false, 2048 - (endZ q - q.rd), 0, ⟨#[]⟩⟩ from by unfold cBare; rw [hh])
 obtain ⟨k, hk⟩ : ∃ z : KPt, z = ⟨kgo, kgt, kvo, kvr, .pointer (some ⟨gi, 0, none⟩), kvw⟩ := ⟨_, rfl⟩
 rw [← hk] at hM
 have HI := Lib.hid (show k.vi = .pointer (some ⟨gi, 0, none⟩) from by rw [hk])
 have HK := Lib.hid hk
 clear hh hk
 go_enter Try.func42, Try.ntmps42
 go_upto_region 1 with (first | go_skip | ((with_reducible refine at_alloc_ (T := 33) ?_); refine wpList_alloc_mem rfl 33 rfl _ zv_Seg _ rfl hM ?_; clear hM; intro g4 W hM; replace hM := cn_last hM))
 refine wp_region_M [3] [17] hM (by kernel_rfl) ?_
 clear hM
 intro wo hM
 refine tW 0 rfl ?_
 simp only [zz]
 refine tW 1 rfl ?_
 simp only [zz]
 refine tW 2 rfl ?_
 simp only [zz]
 refine tL 3 (v := .agg #[.int .u32 c.la, .int .i64 c.lp]) rfl ⟨fun r hr => (by first | exact hM.get 3 hr | exact hM.get 4 hr), trivial⟩ (Or.inl ⟨by rfl, ?hy⟩) ?_
 case hy => (rintro W ⟨i3, -⟩; have c3 := (show At W _ _ _ from i3 _ rfl).cell; (try simp only [cnC] at c3); exact exec_loadw _ _ rfl gc 0 rfl [.int .u32 c.la, .int .i64 c.lp] _ Try.underlying29 rfl sz_End (range_sub (cs := cnC c k) c3 0 _ rfl))
 simp only [zz]
 refine tW 4 rfl ?_
 simp only [zz]
 refine tW 5 rfl ?_
 simp only [zz]
 refine tW 6 rfl ?_
 simp only [zz]
 refine tL 7 (v := .agg #[.int .u32 c.ra, .int .i64 c.rp]) rfl ⟨fun r hr => (by first | exact hM.get 3 hr | exact hM.get 4 hr), trivial⟩ (Or.inl ⟨by rfl, ?hy⟩) ?_
 case hy => (rintro W ⟨i3, -⟩; have c3 := (show At W _ _ _ from i3 _ rfl).cell; (try simp only [cnC] at c3); exact exec_loadw _ _ rfl gc 2 rfl [.int .u32 c.ra, .int .i64 c.rp] _ Try.underlying29 rfl sz_End (range_sub (cs := cnC c k) c3 2 _ rfl))
 simp only [zz]
 refine tW 8 rfl ?_
 simp only [zz]
 refine tW 9 rfl ?_
 simp only [zz]
 refine tW 10 rfl ?_
 simp only [zz]
 refine tL 11 (v := ?_) rfl ⟨fun r hr => (by first | exact hM.get 3 hr | exact hM.get 4 hr), trivial⟩ (Or.inl ⟨by rfl, ?hy⟩) ?_
 case hy => (rintro W ⟨i3, -⟩; have c3 := (show At W _ _ _ from i3 _ rfl).cell; (try simp only [cnC] at c3); go_simp; (try with_reducible rfl))
 simp only [zz]
 refine tW 12 rfl ?_
 simp only [zz]
 refine tY 13 rfl ((.inl ⟨by rfl, fun w => exec_cv32 _ _ _ rfl Try.underlying3 Try.underlying22 _ rfl w⟩)) ?_
 simp only [zz]
 (try simp only [Bool.not_true, Bool.not_false])
 refine tW 14 rfl ?_
 simp only [zz]
 refine tW 15 rfl ?_
 simp only [zz]
 refine wpI_one (i := 16) rfl (by kernel_rfl) ?_
 (try simp only [zz])
 go_wp2_with (first
   | go_skip
   | ((with_reducible refine at_alloc_ (T := 33) ?_); refine wpList_alloc_mem rfl 33 rfl _ zv_Seg _ rfl hM ?_; clear hM; intro g5 W hM; replace hM := cn_last hM))
 refine contI_normal ⟨fun r hr => (by first | exact hM.get 3 hr | exact hM.get 4 hr), trivial⟩ ?_
 (try simp only [zz])
 refine wpI_one (i := 17) rfl (by kernel_rfl) ?_
 (try simp only [zz])
 go_wp2_with (first
   | go_skip
   | ((with_reducible refine at_store_ (T := 33) ?_); refine wpList_store_mem rfl 33 _ _ rfl 0 _ _ _ _ hM rfl rfl rfl rfl sz_Seg rfl ?_; clear hM; intro W hM; simp only [zF, zE] at hM))
 refine contI_late (by decide) ?_
 (try simp only [zz])
 refine wpI_done (by kernel_rfl) ?_ _
 (try simp only [zz])
 replace hM : MemX E w0 W (atR g5 33 [.int .u32 c.la, .int .i64 c.lp, .int .u32 c.ra, .int .i64 c.rp, .int .u32 ((c.iss + u32 at_) % 4294967296), .int .u32 0, .bool false, .bool false, .bool false, .bool false, .int .i64 2048, .int .i64 0, .string ⟨#[]⟩] :: atR g4 33 zSeg :: oqA k.go c.o k.vo :: oqB c.o k.vo :: cnA gc c k :: tmR k.gt c.tm :: rsR k.vr c.rs :: iqR gi q :: m) := hM
 have c4 : W.cell? ⟨gc, 7, none⟩ = some (.pointer (some ⟨gi, 0, none⟩)) := by rw [← HI.out]; exact hM.cells 4 rfl 7
 have HW := Lib.hid (fun (W : World) (h : InqAt W gi q) => Window_any gi q W h hq)
 go_upto_region 4 with (first | go_skip | (go_at_call 66; refine (HW.out _ (hM.at_ 7 rfl)).mono ?_; rintro e W ⟨rfl, hb⟩; replace hM := hM.kept hb; clear hb c4; dsimp only) | ((with_reducible refine at_store_ ?_); first | (refine sM 0 hM rfl rfl rfl ?_; clear hM; intro W hM; simp only [zF, zE] at hM)))
 refine wp_region_M [4,7] [14] hM (by kernel_rfl) ?_
 clear hM
 intro wo hM
 refine tW 0 rfl ?_
 simp only [zz]
 refine tW 1 rfl ?_
 simp only [zz]
 refine tW 2 rfl ?_
 simp only [zz]
 refine tL 3 (v := ?_) rfl ⟨fun r hr => hM.get 4 hr, fun r hr => hM.get 7 hr, trivial⟩ (Or.inl ⟨by rfl, ?hy⟩) ?_
 case hy => (rintro W ⟨i4, i7, -⟩; have c4 := (show At W _ _ _ from i4 _ rfl).cell; have c7 := (show At W _ _ _ from i7 _ rfl).cell; (try simp only [cnC] at c4 c7); (try simp only [HI.out] at c4); go_simp; (try with_reducible rfl))
 simp only [zz]
 refine tW 4 rfl ?_
 simp only [zz]
 refine tW 5 rfl ?_
 simp only [zz]
 refine tW 6 rfl ?_
 simp only [zz]
 refine tL 7 (v := ?_) rfl ⟨fun r hr => hM.get 4 hr, fun r hr => hM.get 7 hr, trivial⟩ (Or.inl ⟨by rfl, ?hy⟩) ?_
 case hy => (rintro W ⟨i4, i7, -⟩; have c4 := (show At W _ _ _ from i4 _ rfl).cell; have c7 := (show At W _ _ _ from i7 _ rfl).cell; (try simp only [cnC] at c4 c7); (try simp only [HI.out] at c4); go_simp; (try with_reducible rfl))
 simp only [zz]
 refine wpI_takeC (i := 8) rfl (by kernel_rfl) (by kernel_rfl) (by kernel_rfl) (by kernel_rfl) (by first | exact fun _ _ _ h => h | exact fun _ _ _ h => HQ0.out _ _ _ _ _ h) ⟨fun r hr => hM.get 4 hr, fun r hr => hM.get 7 hr, trivial⟩ ⟨by rfl, fun W hW => ⟨_, _, by (go_simp; first | done | rfl), (Next_any gi q W (hW.2.1 _ rfl))⟩⟩ ?_
 simp only [zz]
 refine tY 9 rfl ((.inl ⟨by rfl, fun w => exec_cv32 _ _ _ rfl Try.underlying3 Try.underlying22 _ rfl w⟩)) ?_
 simp only [zz]
 (try simp only [Bool.not_true, Bool.not_false])
 refine tW 10 rfl ?_
 simp only [zz]
 refine tW 11 rfl ?_
 simp only [zz]
 refine wpI_one (i := 12) rfl (by kernel_rfl) ?_
 (try simp only [zz])
 go_wp2_with (first
   | go_skip
   | (((with_reducible refine at_store_ ?_); first | (refine sM 0 hM rfl rfl rfl ?_; clear hM; intro W hM; simp only [zF, zE] at hM))))
 refine contI_normal ⟨fun r hr => hM.get 4 hr, fun r hr => hM.get 7 hr, trivial⟩ ?_
 (try simp only [zz])
 refine tW 13 rfl ?_
 simp only [zz]
 refine wpI_one (i := 14) rfl (by kernel_rfl) ?_
 (try simp only [zz])
 go_wp2_with (first
   | go_skip
   | (((with_reducible refine at_store_ ?_); first | (refine sM 0 hM rfl rfl rfl ?_; clear hM; intro W hM; simp only [zF, zE] at hM))))
 refine contI_late (by decide) ?_
 (try simp only [zz])
 refine wpI_done (by kernel_rfl) ?_ _
 (try simp only [zz])
 go_wp2_with (first | go_skip | ((with_reducible refine at_load_ (T := 33) ?_); refine wpList_loadg_mem (by go_simp) 33 _ rfl 0 _ _ _ hM rfl rfl _ Try.underlying33 rfl sz_Seg ?_) | ((with_reducible refine at_store_ (T := 33) ?_); refine wpList_store_mem rfl 33 _ _ rfl 1 _ _ _ _ hM rfl rfl rfl rfl sz_Seg rfl ?_; clear hM; intro W hM; simp only [zF, zE] at hM))
 have hcz := hM.cells 1 rfl
 refine bodyPost_ret (v := .agg (cSeg (cBare c at_)).toArray) (by rw [HB.out]; simp [results, Try.results42, go_sem, hcz, cSeg, u32, IntKind.wrap_u32]) rfl ?_
 have hM2 := (show MemX E w0 _ ([_, _] ++ (oqA k.go c.o k.vo :: oqB c.o k.vo :: cnA gc c k :: tmR k.gt c.tm :: rsR k.vr c.rs :: iqR gi q :: m)) from hM).drop_
 rw [HK.out] at hM2
 exact ⟨rfl, hM2⟩
end Go.Proofs.Ytfpifahkpkjfgaa
