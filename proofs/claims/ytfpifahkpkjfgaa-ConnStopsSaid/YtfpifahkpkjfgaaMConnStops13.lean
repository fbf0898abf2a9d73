/- What ConnStops needs, a part: CnC, CnM, CnA. -/
import Derived.Deep.CutBlock
import Derived.Test.YtfpifahkpkjfgaaMConnStops12
namespace Go.Proofs.Ytfpifahkpkjfgaa
open Go.RowKit Go.Lib
set_option linter.unusedVariables false
set_option linter.unusedSimpArgs false
def BareOk (gc : Nat) (c : KCn) (k : KPt) (m : List Res) : Prop := ∀ (E : Nat → Prop) (w0 : World) (x : List Res) (at_ : Int) (w : World), MemX E w0 w (oqA k.go c.o k.vo :: oqB c.o k.vo :: cnA gc c k :: (m ++ x)) →
  Calls Try.prog 42 #[.pointer (some ⟨gc, 0, none⟩), .int .i64 at_] w fun e w' => e = .returned (.agg (cSeg (cBare c at_)).toArray) ∧ MemX E w0 w' (oqA k.go c.o k.vo :: oqB c.o k.vo :: cnA gc c k :: (m ++ x))
set_option maxRecDepth 100000 in
set_option maxHeartbeats 8000000 in
theorem segment_any {E : Nat → Prop} {w0 : World} (gc : Nat) (c : KCn) (k : KPt) (p : KPiece) (m : List Res) (w : World) (hM0 : MemX E w0 w (oqA k.go c.o k.vo :: oqB c.o k.vo :: cnA gc c k :: m)) (hB : BareOk gc c k m) :
    Calls Try.prog 37 #[.pointer (some ⟨gc, 0, none⟩), .agg (cPiece p).toArray] w fun e w' => e = .returned (.agg (cSeg (cSegm c p)).toArray) ∧ MemX E w0 w' (oqA k.go c.o k.vo :: oqB c.o k.vo :: cnA gc c k :: m) := by
  have hM := hM0
  clear hM0
  have HB := Lib.hid hB
  clear hB
  obtain ⟨s, hs⟩ : ∃ z, z = cBare c p.at_ := ⟨_, rfl⟩
  have HS := Lib.hid (show cSegm c p = { s with syn := p.syn, fin := p.fin, b := p.b, mss := if p.syn then c.own else 0 } from by rw [hs]; rfl)
  have HBR := Lib.hid (fun (W : World) (X : List Res) (h : MemX E w0 W (oqA k.go c.o k.vo :: oqB c.o k.vo :: cnA gc c k :: (m ++ X))) => (by rw [hs]; exact HB.out E w0 X p.at_ W h : Calls Try.prog 42 #[.pointer (some ⟨gc, 0, none⟩), .int .i64 p.at_] W fun e w' => e = .returned (.agg (cSeg s).toArray) ∧ MemX E w0 w' (oqA k.go c.o k.vo :: oqB c.o k.vo :: cnA gc c k :: (m ++ X))))
  have HMS := Lib.hid (show s.mss = 0 from by rw [hs]; unfold cBare; split <;> rfl)
  clear hs HB
  obtain ⟨pa, ps, pf, pb⟩ := p
  obtain ⟨sfa, sfp, sta, stp, sseq, sack, ssyn, shas, sfin, srst, swin, smss, sb⟩ := s
  have hms : smss = 0 := HMS.out
  subst hms
  clear HMS
  go_enter Try.func37, Try.ntmps37
  go_upto_region 1 with (first | go_skip | ((with_reducible refine at_box_ ?_); refine wpList_box_mem rfl _ _ rfl [.int .i64 pa, .bool ps, .bool pf, .string pb] rfl hM ?_; clear hM; intro gp W hM; replace hM := cn_last hM) | ((with_reducible refine at_alloc_ (T := 33) ?_); refine wpList_alloc_mem rfl 33 rfl _ zv_Seg _ rfl hM ?_; clear hM; intro g4 W hM; replace hM := cn_last hM))
  replace hM : MemX E w0 W ([atR g4 33 zSeg, atR gp 87 [.int .i64 pa, .bool ps, .bool pf, .string pb]] ++ (oqA k.go c.o k.vo :: oqB c.o k.vo :: cnA gc c k :: m)) := hM
  go_upto_region 2 with (first | go_skip | ((with_reducible refine at_load_ ?_); refine at_wanted_ (by rfl) ?_; first | (refine lM 1 hM rfl rfl rfl rfl ?_)) | (go_at_call 42; refine (HBR.out _ _ (hM.perm List.perm_append_comm)).mono ?_; clear hM; rintro e W ⟨rfl, hM2⟩; have hM := (show MemX E w0 W ((oqA k.go c.o k.vo :: oqB c.o k.vo :: cnA gc c k :: m) ++ _) from hM2).perm List.perm_append_comm; clear hM2; dsimp only) | ((with_reducible refine at_alloc_ (T := 33) ?_); refine wpList_alloc_mem rfl 33 rfl _ zv_Seg _ rfl hM ?_; clear hM; intro g5 W hM; replace hM := cn_last hM) | ((with_reducible refine at_store_ (T := 33) ?_); refine wpList_store_mem rfl 33 _ _ rfl 0 _ _ _ _ hM rfl rfl rfl rfl sz_Seg rfl ?_; clear hM; intro W hM; simp only [zF, zE] at hM))
  replace hM : MemX E w0 W (atR g5 33 [.int .u32 sfa, .int .i64 sfp, .int .u32 sta, .int .i64 stp, .int .u32 sseq, .int .u32 sack, .bool ssyn, .bool shas, .bool sfin, .bool srst, .int .i64 swin, .int .i64 0, .string sb] :: atR g4 33 zSeg :: atR gp 87 [.int .i64 pa, .bool ps, .bool pf, .string pb] :: oqA k.go c.o k.vo :: oqB c.o k.vo :: cnA gc c k :: m) := hM
  refine wp_region_M [2] [11] hM (by kernel_rfl) ?_
  clear hM
  intro wo hM
  refine tW 0 rfl ?_
  simp only [zz]
  refine tL 1 (v := ?_) rfl ⟨fun r hr => hM.get 2 hr, trivial⟩ (Or.inl ⟨by rfl, ?hy⟩) ?_
  case hy => (rintro W ⟨i2, -⟩; have c2 := (show At W _ _ _ from i2 _ rfl).cell; go_simp; (try with_reducible rfl))
  simp only [zz]
  refine tW 2 rfl ?_
  simp only [zz]
  refine tL 3 (v := ?_) rfl ⟨fun r hr => hM.get 2 hr, trivial⟩ (Or.inl ⟨by rfl, ?hy⟩) ?_
  case hy => (rintro W ⟨i2, -⟩; have c2 := (show At W _ _ _ from i2 _ rfl).cell; go_simp; (try with_reducible rfl))
  simp only [zz]
  refine tW 4 rfl ?_
  simp only [zz]
  refine tL 5 (v := ?_) rfl ⟨fun r hr => hM.get 2 hr, trivial⟩ (Or.inl ⟨by rfl, ?hy⟩) ?_
  case hy => (rintro W ⟨i2, -⟩; have c2 := (show At W _ _ _ from i2 _ rfl).cell; go_simp; (try with_reducible rfl))
  simp only [zz]
  refine tW 6 rfl ?_
  simp only [zz]
  refine wpI_one (i := 7) rfl (by kernel_rfl) ?_
  (try simp only [zz])
  go_wp2_with (first
      | go_skip
      | (((with_reducible refine at_store_ ?_); first | (refine sM 0 hM rfl rfl rfl ?_; clear hM; intro W hM; simp only [zF, zE] at hM))))
  refine contI_normal ⟨fun r hr => hM.get 2 hr, trivial⟩ ?_
  (try simp only [zz])
  refine tW 8 rfl ?_
  simp only [zz]
  refine wpI_one (i := 9) rfl (by kernel_rfl) ?_
  (try simp only [zz])
  go_wp2_with (first
      | go_skip
      | (((with_reducible refine at_store_ ?_); first | (refine sM 0 hM rfl rfl rfl ?_; clear hM; intro W hM; simp only [zF, zE] at hM))))
  refine contI_normal ⟨fun r hr => hM.get 2 hr, trivial⟩ ?_
  (try simp only [zz])
  refine tW 10 rfl ?_
  simp only [zz]
  refine wpI_one (i := 11) rfl (by kernel_rfl) ?_
  (try simp only [zz])
  go_wp2_with (first
      | go_skip
      | (((with_reducible refine at_store_ ?_); first | (refine sM 0 hM rfl rfl rfl ?_; clear hM; intro W hM; simp only [zF, zE] at hM))))
  refine contI_late (by decide) ?_
  (try simp only [zz])
  refine wpI_done (by kernel_rfl) ?_ _
  (try simp only [zz])
  clear HBR
  cases ps with
  | true =>
    go_wp2_with (first | go_skip | ((with_reducible refine at_load_ (T := 33) ?_); refine wpList_loadg_mem (by go_simp) 33 _ rfl 0 _ _ _ hM rfl rfl _ Try.underlying33 rfl sz_Seg ?_) | ((with_reducible refine at_store_ (T := 33) ?_); refine wpList_store_mem rfl 33 _ _ rfl 1 _ _ _ _ hM rfl rfl rfl rfl sz_Seg rfl ?_; clear hM; intro W hM; simp only [zF, zE] at hM) | ((with_reducible refine at_load_ ?_); refine at_wanted_ (by rfl) ?_; first | (refine lM 2 hM rfl rfl rfl rfl ?_) | (refine lM 5 hM rfl rfl rfl rfl ?_)) | ((with_reducible refine at_store_ ?_); first | (refine sM 0 hM rfl rfl rfl ?_; clear hM; intro W hM; simp only [zF, zE] at hM)))
    have hcz := hM.cells 1 rfl
    refine bodyPost_ret (v := .agg (cSeg (cSegm c ⟨pa, true, pf, pb⟩)).toArray) (by rw [HS.out]; simp [results, Try.results37, go_sem, hcz, cSeg]) rfl ?_
    exact ⟨rfl, (show MemX E w0 _ ([_, _, _] ++ (oqA k.go c.o k.vo :: oqB c.o k.vo :: cnA gc c k :: m)) from hM).drop_⟩
  | false =>
    go_wp2_with (first | go_skip | ((with_reducible refine at_load_ (T := 33) ?_); refine wpList_loadg_mem (by go_simp) 33 _ rfl 0 _ _ _ hM rfl rfl _ Try.underlying33 rfl sz_Seg ?_) | ((with_reducible refine at_store_ (T := 33) ?_); refine wpList_store_mem rfl 33 _ _ rfl 1 _ _ _ _ hM rfl rfl rfl rfl sz_Seg rfl ?_; clear hM; intro W hM; simp only [zF, zE] at hM) | ((with_reducible refine at_load_ ?_); refine at_wanted_ (by rfl) ?_; first | (refine lM 2 hM rfl rfl rfl rfl ?_) | (refine lM 5 hM rfl rfl rfl rfl ?_)) | ((with_reducible refine at_store_ ?_); first | (refine sM 0 hM rfl rfl rfl ?_; clear hM; intro W hM; simp only [zF, zE] at hM)))
    have hcz := hM.cells 1 rfl
    refine bodyPost_ret (v := .agg (cSeg (cSegm c ⟨pa, false, pf, pb⟩)).toArray) (by rw [HS.out]; simp [results, Try.results37, go_sem, hcz, cSeg]) rfl ?_
    exact ⟨rfl, (show MemX E w0 _ ([_, _, _] ++ (oqA k.go c.o k.vo :: oqB c.o k.vo :: cnA gc c k :: m)) from hM).drop_⟩
set_option maxRecDepth 100000 in
set_option maxHeartbeats 8000000 in
theorem limit_zero {E : Nat → Prop} {w0 : World} (gc : Nat) (c : KCn) (k : KPt) (m : List Res) (w : World) (hM0 : MemX E w0 w (oqA k.go c.o k.vo :: oqB c.o k.vo :: cnA gc c k :: m))(h0 : c.o.una = 0) :
  Calls Try.prog 38 #[.pointer (some ⟨gc, 0, none⟩)] w fun e w' => e = .returned (.int .i64 (cLimit c)) ∧ MemX E w0 w' (oqA k.go c.o k.vo :: oqB c.o k.vo :: cnA gc c k :: m) := by
 have hM := hM0
 clear hM0
 have HL := Lib.hid (show cLimit c = 1 from by unfold cLimit; rw [if_pos h0])
 have HU := Lib.hid (Una_any k.go c.o k.vo w (hM.at_ 0 rfl))
 rw [h0] at HU
 clear h0
 have c6 : w.cell? ⟨gc, 6, none⟩ = some (.pointer (some ⟨k.go, 0, none⟩)) := hM.cells 2 rfl 6
 go_enter Try.func38, Try.ntmps38
 go_wp2_with (first | go_skip | (go_at_call 63; refine HU.out.mono ?_; rintro e W ⟨rfl, rfl⟩; dsimp only))
 go_ret
 exact ⟨by rw [HL.out]; rfl, hM⟩
set_option maxRecDepth 100000 in
set_option maxHeartbeats 8000000 in
theorem limit_some {E : Nat → Prop} {w0 : World} (gc : Nat) (c : KCn) (k : KPt) (gi gw : Nat) (q : IQ) (d : KWd) (m : List Res) (w : World) (hM0 : MemX E w0 w (oqA k.go c.o k.vo :: oqB c.o k.vo :: cnA gc c k :: tmR k.gt c.tm :: rsR k.vr c.rs :: iqR gi q :: wdR gw d :: m))(hh : c.h = some (q, d)) (hw : k.vw = .pointer (some ⟨gw, 0, none⟩)) (h0 : c.o.una ≠ 0) (hu : 0 ≤ c.o.una) (hu2 : c.o.una ≤ 4611686018427387904) (hn : 0 ≤ c.wnd) (hn2 : c.wnd ≤ 65535) (hd : 0 ≤ d.s) (hd2 : d.s ≤ 65535) :
    Calls Try.prog 38 #[.pointer (some ⟨gc, 0, none⟩)] w fun e w' => e = .returned (.int .i64 (cLimit c)) ∧ MemX E w0 w' (oqA k.go c.o k.vo :: oqB c.o k.vo :: cnA gc c k :: tmR k.gt c.tm :: rsR k.vr c.rs :: iqR gi q :: wdR gw d :: m) := by
  have hM := hM0
  clear hM0
  have HL := Lib.hid (show cLimit c = c.o.una + (if c.probe then (if (if d.s < c.wnd then d.s else c.wnd) < 1 then 1 else (if d.s < c.wnd then d.s else c.wnd)) else (if d.s < c.wnd then d.s else c.wnd)) from by unfold cLimit; rw [if_neg h0, hh])
  have HU := Lib.hid (Una_any k.go c.o k.vo w (hM.at_ 0 rfl))
  have HZ := Lib.hid (fun (u : Later w) => Size_any gw d.m d.s d.l u.now ((hM.at_ 6 rfl).kept u.still))
  have hlt := hM.lt 2 rfl
  have c6 : w.cell? ⟨gc, 6, none⟩ = some (.pointer (some ⟨k.go, 0, none⟩)) := hM.cells 2 rfl 6
  have c12 : w.cell? ⟨gc, 12, none⟩ = some (.int .i64 c.wnd) := hM.cells 2 rfl 12
  have c16 : w.cell? ⟨gc, 16, none⟩ = some (.pointer (some ⟨gw, 0, none⟩)) := by rw [← hw]; exact hM.cells 2 rfl 16
  have t0 : (c.o.una == 0) = false := by simpa using h0
  clear hh hw h0
  go_enter Try.func38, Try.ntmps38
  go_upto_region 4 with (first | go_skip | (go_at_call 63; refine HU.out.mono ?_; rintro e W ⟨rfl, rfl⟩; dsimp only))
  refine wp_region_later (by kernel_rfl) (by kernel_rfl) (fun hlc => ?_)
  repeat (go_big_quiet_step ((first | (go_at_call 64; exact later_same (HZ.out _)))))
  refine wpQuiet_nil ?_
  intro wq hbq
  clear hlc
  generalize hy : (if d.s < c.wnd then d.s else c.wnd) = y at HL ⊢
  have hy1 : 0 ≤ y ∧ y ≤ 65535 := by rw [← hy]; split <;> omega
  obtain ⟨hy1, hy2⟩ := hy1
  replace hM := hM.kept hbq
  have c24 : wq.cell? ⟨gc, 24, none⟩ = some (.bool c.probe) := hM.cells 2 rfl 24
  obtain ⟨pb, hpb⟩ : ∃ z, z = c.probe := ⟨_, rfl⟩
  rw [← hpb] at c24 HL
  clear hy hbq hpb c6 c12 c16 HU HZ hlt
  cases pb with
  | true =>
    by_cases h1 : y < 1
    · have e1 : (if y < 1 then 1 else y) = (1 : Int) := if_pos h1
      have HL2 := Lib.hid (show cLimit c = c.o.una + 1 from by rw [HL.out, if_pos rfl, e1])
      have hy0 : y = 0 := by omega
      subst hy0
      go_wp2_with fail
      go_ret
      exact ⟨by rw [HL2.out]; rfl, hM⟩
    · have e1 : (if y < 1 then 1 else y) = y := if_neg h1
      have HL2 := Lib.hid (show cLimit c = c.o.una + y from by rw [HL.out, if_pos rfl, e1])
      have t1 : decide (y < 1) = false := by simpa using h1
      go_wp2_with fail
      go_ret
      exact ⟨by rw [HL2.out]; rfl, hM⟩
  | false =>
    have HL2 := Lib.hid (show cLimit c = c.o.una + y from by rw [HL.out, if_neg (by decide)])
    go_wp2_with fail
    go_ret
    exact ⟨by rw [HL2.out]; rfl, hM⟩
theorem cq_put {E : Nat → Prop} {w W W' : World} {g : Nat} {q q' : OQ} {v v' : Value} {m : List Res} (hM : MemX E w W (oqA g q v :: oqB q v :: m)) (hN : OPre W W' g v q' v') : MemX E w W' (oqA g q' v' :: oqB q' v' :: m) :=
 hM.splice2 0 1 (by decide) rfl rfl (fun k hk => hk.elim (fun e => .inl (by rw [e]; rfl)) (fun e => .inr e)) hN
theorem cq_hand {E : Nat → Prop} {w W : World} {g : Nat} {q : OQ} {v : Value} {m : List Res} (hM : MemX E w W (oqA g q v :: oqB q v :: m)) : OPre W W g v q v := by
 have hA := hM.p (oqA g q v) (by simp)
 have hB := hM.p (oqB q v) (by simp)
 have hmem : ∀ r ∈ [oqA g q v, oqB q v], r ∈ oqA g q v :: oqB q v :: m := fun r hr => by
  rcases List.mem_cons.1 hr with rfl | hr
  ·simp
  ·have := List.mem_singleton.1 hr
   subst this; simp
 refine ⟨Fr.refl _ _, fun r hr => hM.p r (hmem r hr), fun r hr => hM.s r (hmem r hr), ?_, ?_⟩
 ·intro r hr k hk
  rcases List.mem_cons.1 hr with rfl | hr
  ·exact ⟨.inr (.inl (Option.some.inj (show some g = some k from hk)).symm), (hM.lo _ (by simp) k hk).2⟩
  ·have := List.mem_singleton.1 hr
   subst this
   exact ⟨.inr (.inr hk), (hM.lo _ (by simp) k hk).2⟩
 ·intro i j hij a b hi hj
  refine hM.ne i j hij a b ?_ ?_
  ·match i, hi with
   | 0, hi => exact hi
   | 1, hi => exact hi
   | i + 2, hi => simp at hi
  ·match j, hj with
   | 0, hj => exact hj
   | 1, hj => exact hj
   | j + 2, hj => simp at hj
theorem Lost_any (g : Nat) (m s l f : Int) (w : World) (hT : WindowAt w g m s l) (ho : WindowOk m s l) (hf : -9223372036854775808 ≤ f) (hf' : f ≤ 9223372036854775807) :
  Calls Try.prog 91 #[.pointer (some ⟨g, 0, none⟩), .int .i64 f] w fun e w' => e = .returned (.tuple #[]) ∧ WindowAt w' g m (halfZ m f) (halfZ m f) ∧ w.grownBy w' (some g) := by
 go_enter Try.func91, Try.ntmps91
 go_wp2_with fail
 refine (halve_any _ _ _ _ _ _ hT ho hf hf').mono ?_
 rintro e w1 ⟨rfl, hT1, hO1⟩
 have c1 : w1.cell? ⟨g, 1, none⟩ = some (.int .i64 s) := hT1.cell 1
 have c2 : w1.cell? ⟨g, 2, none⟩ = some (.int .i64 (halfZ m f)) := hT1.cell 2
 have f1 : w1.frozen? ⟨g, 1, none⟩ = false := hT1.free 1
 go_wp2_with fail
 go_end0
 exact ⟨rfl, hT1.set_ 1 _, only_set hO1 (.inl rfl) _⟩
theorem Silent_any (g : Nat) (m s l f : Int) (w : World) (hT : WindowAt w g m s l) (ho : WindowOk m s l) (hf : -9223372036854775808 ≤ f) (hf' : f ≤ 9223372036854775807) :
  Calls Try.prog 70 #[.pointer (some ⟨g, 0, none⟩), .int .i64 f] w fun e w' => e = .returned (.tuple #[]) ∧ WindowAt w' g m m (halfZ m f) ∧ w.grownBy w' (some g) := by
 go_enter Try.func70, Try.ntmps70
 go_wp2_with fail
 refine (halve_any _ _ _ _ _ _ hT ho hf hf').mono ?_
 rintro e w1 ⟨rfl, hT1, hO1⟩
 have c0 : w1.cell? ⟨g, 0, none⟩ = some (.int .i64 m) := hT1.cell 0
 have c1 : w1.cell? ⟨g, 1, none⟩ = some (.int .i64 s) := hT1.cell 1
 have f1 : w1.frozen? ⟨g, 1, none⟩ = false := hT1.free 1
 go_wp2_with fail
 go_end0
 exact ⟨rfl, hT1.set_ 1 _, only_set hO1 (.inl rfl) _⟩
def cLate (c : KCn) : KCn :=
 if c.gone = 8 then cClosed c 13 else
  if c.o.cur - c.o.una = 0 then { c with gone := c.gone + 1, tm := { c.tm with d := if c.tm.d < 6 then c.tm.d + 1 else 6 }, clock := c.now, probe := true } else
   { c with gone := c.gone + 1, tm := { c.tm with d := if c.tm.d < 6 then c.tm.d + 1 else 6 }, clock := c.now, o := { c.o with cur := c.o.una }, meas := 0, h := c.h.map fun x => (x.1, ⟨x.2.m, x.2.m, halfZ x.2.m (c.o.cur - c.o.una)⟩) }
def cTick (c : KCn) (n : Int) : KCn :=
 let c1 := { c with now := c.now + n }
 cSettle (if c1.st = 9 ∧ c1.ends ≤ c1.now then cClosed c1 0 else if 0 ≤ c1.clock ∧ valZ c1.tm.k c1.tm.m c1.tm.s c1.tm.d ≤ c1.now - c1.clock then cLate c1 else c1)
set_option maxRecDepth 100000 in
set_option maxHeartbeats 8000000 in
theorem closed_any {E : Nat → Prop} {w0 : World} (gc : Nat) (c : KCn) (k : KPt) (y : Int) (m : List Res) (w : World) (hM0 : MemX E w0 w (oqA k.go c.o k.vo :: oqB c.o k.vo :: cnA gc c k :: m)) :
  Calls Try.prog 44 #[.pointer (some ⟨gc, 0, none⟩), .int .i64 y] w fun e w' => e = .returned (.tuple #[]) ∧ MemX E w0 w' (oqA k.go c.o k.vo :: oqB c.o k.vo :: cnA gc (cClosed c y) k :: m) := by
 have hM := hM0
 clear hM0
 go_enter Try.func44, Try.ntmps44
 go_wp2_with (first | go_skip | ((with_reducible refine at_store_ ?_); first | (refine sM 2 hM rfl rfl rfl ?_; clear hM; intro W hM; simp only [zF, zE, cnA, cn4, cn5, cn7, cn9, cn11, cn12, cn13, cn14, cn16, cn17, cn18, cn19, cn20, cn21, cn22, cn23, cn24, cn25, cn26, cn27, cn28] at hM)))
 go_end0
 exact ⟨rfl, hM⟩
set_option maxRecDepth 100000 in
set_option maxHeartbeats 8000000 in
theorem waits_any {E : Nat → Prop} {w0 : World} (gc : Nat) (c : KCn) (k : KPt) (m : List Res) (w : World) (hM0 : MemX E w0 w (oqA k.go c.o k.vo :: oqB c.o k.vo :: cnA gc c k :: m))(hn : 0 ≤ c.now) (hn2 : c.now ≤ 1099511627776) :
  Calls Try.prog 78 #[.pointer (some ⟨gc, 0, none⟩)] w fun e w' => e = .returned (.tuple #[]) ∧ MemX E w0 w' (oqA k.go c.o k.vo :: oqB c.o k.vo :: cnA gc (cWait c) k :: m) := by
 have hM := hM0
 clear hM0
 go_enter Try.func78, Try.ntmps78
 go_wp2_with (first | go_skip | ((with_reducible refine at_load_ ?_); refine at_wanted_ (by rfl) ?_; first | (refine lM 2 hM rfl rfl rfl rfl ?_)) | ((with_reducible refine at_store_ ?_); first | (refine sM 2 hM rfl rfl rfl ?_; clear hM; intro W hM; simp only [zF, zE, cnA, cn4, cn5, cn7, cn9, cn11, cn12, cn13, cn14, cn16, cn17, cn18, cn19, cn20, cn21, cn22, cn23, cn24, cn25, cn26, cn27, cn28] at hM)))
 go_end0
 exact ⟨rfl, hM⟩
set_option maxRecDepth 100000 in
set_option maxHeartbeats 8000000 in
theorem settle_any {E : Nat → Prop} {w0 : World} (gc : Nat) (c : KCn) (k : KPt) (m : List Res) (w : World) (hM0 : MemX E w0 w (oqA k.go c.o k.vo :: oqB c.o k.vo :: cnA gc c k :: m)) (ok : OqOk c.o) (hb : c.o.base ≤ 4611686018427387904) :
  Calls Try.prog 43 #[.pointer (some ⟨gc, 0, none⟩)] w fun e w' => e = .returned (.tuple #[]) ∧ MemX E w0 w' (oqA k.go c.o k.vo :: oqB c.o k.vo :: cnA gc (cSettle c) k :: m) := by
 have hM := hM0
 clear hM0
 have HU := Lib.hid (fun (u : Later w) => Una_any k.go c.o k.vo u.now ((hM.at_ 0 rfl).kept u.still))
 have HC := Lib.hid (fun (u : Later w) => Cur_any k.go c.o k.vo u.now ((hM.at_ 0 rfl).kept u.still))
 have HE := Lib.hid (fun (u : Later w) => End_any k.go c.o k.vo u.now ((hM.at_ 0 rfl).kept u.still) ((hM.own 1 rfl).kept u.still) ok.len ok.ba hb)
 have hc := hM.cells 2 rfl
 have hlt := hM.lt 2 rfl
 simp only [cnC] at hc
 go_enter Try.func43, Try.ntmps43
 obtain ⟨wt, hwt⟩ : ∃ z, z = decide (cWaits c) := ⟨_, rfl⟩
 go_upto_region 0 with (fail)
 go_cut [2] (fun v2 W => v2 = .bool wt ∧ MemX E w0 W (oqA k.go c.o k.vo :: oqB c.o k.vo :: cnA gc c k :: m))
 case first =>
  by_cases h1 : c.o.una < c.o.cur
  ·have t1 : decide (c.o.una < c.o.cur) = true := by simpa using h1
   have hw : wt = true := by rw [hwt]; exact decide_eq_true (.inl h1)
   subst hw
   clear hwt
   refine wp_region_later (by kernel_rfl) (by kernel_rfl) (fun hlc => ?_)
   repeat (go_big_quiet_step ((first | (go_at_call 63; exact later_same (HU.out _)) | (go_at_call 41; exact later_same (HC.out _)) | (go_at_call 68; exact later_call (HE.out _)))))
   refine wpQuiet_nil ?_
   intro wq hbq
   clear hlc
   clear hc hlt HU HC HE
   replace hM := hM.kept hbq
   (go_wp2_with fail)
   go_meet
   case rel => exact ⟨rfl, hM⟩
  ·have t1 : decide (c.o.una < c.o.cur) = false := by simpa using h1
   by_cases h2 : c.wnd = 0
   ·have t2 : (c.wnd == 0) = true := by simpa using h2
    by_cases h3 : 0 < c.o.una
    ·have t3 : decide (0 < c.o.una) = true := by simpa using h3
     by_cases h4 : c.o.cur < qEnd c.o
     ·have t4 : decide (c.o.cur < qEnd c.o) = true := by simpa using h4
      have hw : wt = true := by rw [hwt]; exact decide_eq_true (.inr ⟨h2, h3, h4⟩)
      subst hw
      clear hwt
      refine wp_region_later (by kernel_rfl) (by kernel_rfl) (fun hlc => ?_)
      repeat (go_big_quiet_step ((first | (go_at_call 63; exact later_same (HU.out _)) | (go_at_call 41; exact later_same (HC.out _)) | (go_at_call 68; exact later_call (HE.out _)))))
      refine wpQuiet_nil ?_
      intro wq hbq
      clear hlc
      clear hc hlt HU HC HE
      replace hM := hM.kept hbq
      (go_wp2_with fail)
      go_meet
      case rel => exact ⟨rfl, hM⟩
     ·have t4 : decide (c.o.cur < qEnd c.o) = false := by simpa using h4
      have hw : wt = false := by rw [hwt]; exact decide_eq_false (fun h => h.elim h1 (fun h => h4 h.2.2))
      subst hw
      clear hwt
      refine wp_region_later (by kernel_rfl) (by kernel_rfl) (fun hlc => ?_)
      repeat (go_big_quiet_step ((first | (go_at_call 63; exact later_same (HU.out _)) | (go_at_call 41; exact later_same (HC.out _)) | (go_at_call 68; exact later_call (HE.out _)))))
      refine wpQuiet_nil ?_
      intro wq hbq
      clear hlc
      clear hc hlt HU HC HE
      replace hM := hM.kept hbq
      (go_wp2_with fail)
      go_meet
      case rel => exact ⟨rfl, hM⟩
    ·have t3 : decide (0 < c.o.una) = false := by simpa using h3
     have hw : wt = false := by rw [hwt]; exact decide_eq_false (fun h => h.elim h1 (fun h => h3 h.2.1))
     subst hw
     clear hwt
     refine wp_region_later (by kernel_rfl) (by kernel_rfl) (fun hlc => ?_)
     repeat (go_big_quiet_step ((first | (go_at_call 63; exact later_same (HU.out _)) | (go_at_call 41; exact later_same (HC.out _)) | (go_at_call 68; exact later_call (HE.out _)))))
     refine wpQuiet_nil ?_
     intro wq hbq
     clear hlc
     clear hc hlt HU HC HE
     replace hM := hM.kept hbq
     (go_wp2_with fail)
     go_meet
     case rel => exact ⟨rfl, hM⟩
   ·have t2 : (c.wnd == 0) = false := by simpa using h2
    have hw : wt = false := by rw [hwt]; exact decide_eq_false (fun h => h.elim h1 (fun h => h2 h.1))
    subst hw
    clear hwt
    refine wp_region_later (by kernel_rfl) (by kernel_rfl) (fun hlc => ?_)
    repeat (go_big_quiet_step ((first | (go_at_call 63; exact later_same (HU.out _)) | (go_at_call 41; exact later_same (HC.out _)) | (go_at_call 68; exact later_call (HE.out _)))))
    refine wpQuiet_nil ?_
    intro wq hbq
    clear hlc
    clear hc hlt HU HC HE
    replace hM := hM.kept hbq
    (go_wp2_with fail)
    go_meet
    case rel => exact ⟨rfl, hM⟩
 case rest =>
  clear hc hlt HU HC HE hM
  obtain ⟨rfl, hM⟩ := hcut
  have HSE : cSettle c = if c.st = 0 ∨ c.st = 9 ∨ wt = false then { c with clock := -1 } else if c.clock < 0 then { c with clock := c.now } else c := by
   unfold cSettle
   rw [hwt]
   congr 1
   simp
  clear hwt
  have HS := Lib.hid HSE
  clear HSE
  by_cases hs : c.st = 0 ∨ c.st = 9 ∨ wt = false
  ·have HK := Lib.hid (show cSettle c = { c with clock := -1 } from by rw [HS.out, if_pos hs])
   by_cases h0 : c.st = 0
   ·have t0 : (c.st == 0) = true := by simpa using h0
    clear hs HS h0
    go_wp2_with (first | go_skip | ((with_reducible refine at_load_ ?_); refine at_wanted_ (by rfl) ?_; first | (refine lM 2 hM rfl rfl rfl rfl ?_)) | ((with_reducible refine at_store_ ?_); first | (refine sM 2 hM rfl rfl rfl ?_; clear hM; intro W hM; simp only [zF, zE, cnA, cn4, cn5, cn7, cn9, cn11, cn12, cn13, cn14, cn16, cn17, cn18, cn19, cn20, cn21, cn22, cn23, cn24, cn25, cn26, cn27, cn28] at hM)))
    go_end0
    exact ⟨rfl, by rw [HK.out]; exact hM⟩
   ·have t0 : (c.st == 0) = false := by simpa using h0
    by_cases h9 : c.st = 9
    ·have t9 : (c.st == 9) = true := by simpa using h9
     clear hs HS h0 h9
     go_wp2_with (first | go_skip | ((with_reducible refine at_load_ ?_); refine at_wanted_ (by rfl) ?_; first | (refine lM 2 hM rfl rfl rfl rfl ?_)) | ((with_reducible refine at_store_ ?_); first | (refine sM 2 hM rfl rfl rfl ?_; clear hM; intro W hM; simp only [zF, zE, cnA, cn4, cn5, cn7, cn9, cn11, cn12, cn13, cn14, cn16, cn17, cn18, cn19, cn20, cn21, cn22, cn23, cn24, cn25, cn26, cn27, cn28] at hM)))
     go_end0
     exact ⟨rfl, by rw [HK.out]; exact hM⟩
    ·have t9 : (c.st == 9) = false := by simpa using h9
     have hw : wt = false := hs.elim (fun h => absurd h h0) (fun h => h.elim (fun h => absurd h h9) id)
     subst hw
     clear hs HS h0 h9
     go_wp2_with (first | go_skip | ((with_reducible refine at_load_ ?_); refine at_wanted_ (by rfl) ?_; first | (refine lM 2 hM rfl rfl rfl rfl ?_)) | ((with_reducible refine at_store_ ?_); first | (refine sM 2 hM rfl rfl rfl ?_; clear hM; intro W hM; simp only [zF, zE, cnA, cn4, cn5, cn7, cn9, cn11, cn12, cn13, cn14, cn16, cn17, cn18, cn19, cn20, cn21, cn22, cn23, cn24, cn25, cn26, cn27, cn28] at hM)))
     go_end0
     exact ⟨rfl, by rw [HK.out]; exact hM⟩
  ·have h0 : c.st ≠ 0 := fun h => hs (.inl h)
   have h9 : c.st ≠ 9 := fun h => hs (.inr (.inl h))
   have hw : wt = true := by cases wt with
    | true => rfl
    | false => exact absurd (.inr (.inr rfl)) hs
   subst hw
   have t0 : (c.st == 0) = false := by simpa using h0
   have t9 : (c.st == 9) = false := by simpa using h9
   by_cases hk : c.clock < 0
   ·have tk : decide (c.clock < 0) = true := by simpa using hk
    have HK := Lib.hid (show cSettle c = { c with clock := c.now } from by rw [HS.out, if_neg hs, if_pos hk])
    clear hs HS h0 h9 hk
    go_wp2_with (first | go_skip | ((with_reducible refine at_load_ ?_); refine at_wanted_ (by rfl) ?_; first | (refine lM 2 hM rfl rfl rfl rfl ?_)) | ((with_reducible refine at_store_ ?_); first | (refine sM 2 hM rfl rfl rfl ?_; clear hM; intro W hM; simp only [zF, zE, cnA, cn4, cn5, cn7, cn9, cn11, cn12, cn13, cn14, cn16, cn17, cn18, cn19, cn20, cn21, cn22, cn23, cn24, cn25, cn26, cn27, cn28] at hM)))
    go_end0
    exact ⟨rfl, by rw [HK.out]; exact hM⟩
   ·have tk : decide (c.clock < 0) = false := by simpa using hk
    have HK := Lib.hid (show cSettle c = c from by rw [HS.out, if_neg hs, if_neg hk])
    clear hs HS h0 h9 hk
    go_wp2_with (first | go_skip | ((with_reducible refine at_load_ ?_); refine at_wanted_ (by rfl) ?_; first | (refine lM 2 hM rfl rfl rfl rfl ?_)) | ((with_reducible refine at_store_ ?_); first | (refine sM 2 hM rfl rfl rfl ?_; clear hM; intro W hM; simp only [zF, zE, cnA, cn4, cn5, cn7, cn9, cn11, cn12, cn13, cn14, cn16, cn17, cn18, cn19, cn20, cn21, cn22, cn23, cn24, cn25, cn26, cn27, cn28] at hM)))
    go_end0
    exact ⟨rfl, by rw [HK.out]; exact hM⟩
end Go.Proofs.Ytfpifahkpkjfgaa
