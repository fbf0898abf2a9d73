/- What ConnStops needs, a part: CnWa. -/
import Derived.Deep.CutBlock
import Derived.Test.YtfpifahkpkjfgaaMConnStops29
namespace Go.Proofs.Ytfpifahkpkjfgaa
open Go.RowKit Go.Lib
set_option linter.unusedVariables false
set_option linter.unusedSimpArgs false
set_option linter.unusedSectionVars false
set_option maxRecDepth 100000
set_option maxRecDepth 100000 in
set_option maxHeartbeats 8000000 in
theorem cIn_any {E : Nat → Prop} {w0 : World} (gc gi gw : Nat) (c : KCn) (k : KPt) (m : List Res) (w : World) (hM0 : MemX E w0 w (cnL gc gi gw c k m)) (hk : KOk k gi gw c.h) (hc : CIn c) (g : KSeg) (hg : SegOk g) :
    Calls Try.prog 19 #[.pointer (some ⟨gc, 0, none⟩), .agg (cSeg g).toArray] w fun e w' => ∃ gi' gw' k', e = .returned (.int .i64 (cInE c g)) ∧ MemX E w0 w' (cnL gc gi' gw' (cIn c g) k' m) ∧ KOk k' gi' gw' (cIn c g).h := by
  unfold cnL at hM0
  have hM := hM0
  clear hM0
  have HC := Lib.hid hc
  have HK := Lib.hid hk
  have HCH := Lib.hid (fun (W : World) => tcCheck_any g W hg)
  have HG := Lib.hid hg
  obtain ⟨ck, hck⟩ : ∃ z, z = tcChk g := ⟨_, rfl⟩
  have HCK := Lib.hid hck
  rw [← hck] at HCH
  clear hck hc hk hg
  go_enter Try.func19, Try.ntmps19
  go_upto_block 0 with (first | go_skip | ((with_reducible refine at_box_ ?_); refine wpList_box_mem rfl _ _ rfl (cSeg g) rfl hM ?_; clear hM; intro gb W hM; replace hM := cn_in5 hM) | ((with_reducible refine at_load_ (T := 33) ?_); refine wpList_loadg_mem (by go_simp) 33 _ rfl 5 _ _ _ hM rfl rfl _ Try.underlying33 rfl sz_Seg ?_) | (go_at_call 47; refine (HCH.out _ ).mono ?_; rintro e W ⟨rfl, hb⟩; replace hM := hM.kept hb; clear hb; dsimp only))
  by_cases h0 : ck = 0
  · have t0 : (ck != 0) = false := by simpa using h0
    have HZ := Lib.hid (show tcChk g = 0 from by rw [← HCK.out]; exact h0)
    go_upto_region 5 with (fail)
    obtain ⟨b5, hb5⟩ : ∃ z, z = !decide (g.fa = c.ra ∧ g.fp = c.rp ∧ g.ta = c.la ∧ g.tp = c.lp) := ⟨_, rfl⟩
    have HB5 := Lib.hid hb5
    clear hb5 h0
    go_cut [4, 15] (fun v4 v W => v4 = .int .i64 0 ∧ v = .bool b5 ∧ MemX E w0 W (oqA k.go c.o k.vo :: oqB c.o k.vo :: cnA gc c k :: tmR k.gt c.tm :: rsR k.vr c.rs :: atR gb 33 (cSeg g) :: (hL gi gw c.h ++ m)))
    case first =>
      by_cases e1 : g.fa = c.ra ∧ g.fp = c.rp
      · have n1 : decide (g.fa = c.ra ∧ g.fp = c.rp) = true := decide_eq_true e1
        obtain ⟨x, hx⟩ : ∃ z, z = decide (g.ta = c.la ∧ g.tp = c.lp) := ⟨_, rfl⟩
        have hbx : b5 = !x := by
          rw [HB5.out, hx]
          by_cases e2 : g.ta = c.la ∧ g.tp = c.lp
          · rw [decide_eq_true e2, decide_eq_true ⟨e1.1, e1.2, e2⟩]
          · rw [decide_eq_false e2, decide_eq_false (fun h => e2 h.2.2)]
        have HBX := Lib.hid hbx
        have HX := Lib.hid (show ∀ W, (Op.equalIn 10000 29 (.agg #[.int .u32 g.ta, .int .i64 g.tp]) (.agg #[.int .u32 c.la, .int .i64 c.lp])).run Try.prog W = .ok x W from fun W => by rw [hx]; exact eqB_End _ _ _ _ W)
        clear HB5 e1 hbx hx
        refine wp_region_M [2,5] [] hM (by kernel_rfl) ?_
        clear hM
        intro wo hM
        refine tW 0 rfl ?_
        simp only [zz]
        refine tL 1 (v := .agg #[.int .u32 g.fa, .int .i64 g.fp]) rfl ⟨fun r hr => hM.get 2 hr, fun r hr => hM.get 5 hr, trivial⟩ (Or.inl ⟨by rfl, ?hy⟩) ?_
        case hy => (rintro W ⟨i2, i5, -⟩; have c2 := (show At W _ _ _ from i2 _ rfl).cell; have c5 := (show At W _ _ _ from i5 _ rfl).cell; (try simp only [cnC,cSeg] at c2 c5); exact exec_loadw _ _ rfl gb 0 rfl [.int .u32 g.fa, .int .i64 g.fp] _ Try.underlying29 rfl sz_End (range_sub (cs := cSeg g) c5 0 _ rfl))
        simp only [zz]
        refine tW 2 rfl ?_
        simp only [zz]
        refine tW 3 rfl ?_
        simp only [zz]
        refine tW 4 rfl ?_
        simp only [zz]
        refine tL 5 (v := .agg #[.int .u32 c.ra, .int .i64 c.rp]) rfl ⟨fun r hr => hM.get 2 hr, fun r hr => hM.get 5 hr, trivial⟩ (Or.inl ⟨by rfl, ?hy⟩) ?_
        case hy => (rintro W ⟨i2, i5, -⟩; have c2 := (show At W _ _ _ from i2 _ rfl).cell; have c5 := (show At W _ _ _ from i5 _ rfl).cell; (try simp only [cnC,cSeg] at c2 c5); exact exec_loadw _ _ rfl gc 2 rfl [.int .u32 c.ra, .int .i64 c.rp] _ Try.underlying29 rfl sz_End (range_sub (cs := cnC c k) c2 2 _ rfl))
        simp only [zz]
        refine tY 6 rfl ((.inl ⟨by rfl, fun w => exec_neq _ _ _ _ rfl #[.int .u32 g.fa, .int .i64 g.fp] #[.int .u32 c.ra, .int .i64 c.rp] rfl rfl eg_End (decide (g.fa = c.ra ∧ g.fp = c.rp)) (eqB_End _ _ _ _) w⟩)) ?_
        simp only [zz]
        (try simp only [Bool.not_true, Bool.not_false])
        refine tW 7 rfl ?_
        simp only [zz]
        first
        | (refine tW 8 rfl ?_)
        | (refine tU 8 rfl ?_)
        simp only [zz]
        first
        | (refine tL 9 (v := .agg #[.int .u32 g.ta, .int .i64 g.tp]) rfl ⟨fun r hr => hM.get 2 hr, fun r hr => hM.get 5 hr, trivial⟩ (Or.inl ⟨by rfl, ?hy⟩) ?_; (case hy => (rintro W ⟨i2, i5, -⟩; have c2 := (show At W _ _ _ from i2 _ rfl).cell; have c5 := (show At W _ _ _ from i5 _ rfl).cell; (try simp only [cnC,cSeg] at c2 c5); exact exec_loadw _ _ rfl gb 2 rfl [.int .u32 g.ta, .int .i64 g.tp] _ Try.underlying29 rfl sz_End (range_sub (cs := cSeg g) c5 2 _ rfl))))
        | (refine tU 9 rfl ?_)
        simp only [zz]
        first
        | (refine tW 10 rfl ?_)
        | (refine tU 10 rfl ?_)
        simp only [zz]
        first
        | (refine tW 11 rfl ?_)
        | (refine tU 11 rfl ?_)
        simp only [zz]
        first
        | (refine tW 12 rfl ?_)
        | (refine tU 12 rfl ?_)
        simp only [zz]
        first
        | (refine tL 13 (v := .agg #[.int .u32 c.la, .int .i64 c.lp]) rfl ⟨fun r hr => hM.get 2 hr, fun r hr => hM.get 5 hr, trivial⟩ (Or.inl ⟨by rfl, ?hy⟩) ?_; (case hy => (rintro W ⟨i2, i5, -⟩; have c2 := (show At W _ _ _ from i2 _ rfl).cell; have c5 := (show At W _ _ _ from i5 _ rfl).cell; (try simp only [cnC,cSeg] at c2 c5); exact exec_loadw _ _ rfl gc 0 rfl [.int .u32 c.la, .int .i64 c.lp] _ Try.underlying29 rfl sz_End (range_sub (cs := cnC c k) c2 0 _ rfl))))
        | (refine tU 13 rfl ?_)
        simp only [zz]
        first
        | (refine tY 14 rfl ((.inl ⟨by rfl, fun w => exec_neq _ _ _ _ rfl #[.int .u32 g.ta, .int .i64 g.tp] #[.int .u32 c.la, .int .i64 c.lp] rfl rfl eg_End x (fun W => HX.out W) w⟩)) ?_)
        | (refine tU 14 rfl ?_)
        simp only [zz]
        (try simp only [Bool.not_true, Bool.not_false])
        refine tW 15 rfl ?_
        simp only [zz]
        refine tW 16 rfl ?_
        simp only [zz]
        refine wpI_done (by kernel_rfl) ?_ _
        (try simp only [zz])
        (go_wp2_with fail)
        go_meet
        case rel => exact ⟨rfl, by rw [HBX.out], hM⟩
      · have n1 : decide (g.fa = c.ra ∧ g.fp = c.rp) = false := decide_eq_false e1
        have hbx : b5 = true := by rw [HB5.out, decide_eq_false (fun h => e1 ⟨h.1, h.2.1⟩)]; rfl
        subst hbx
        clear HB5 e1
        refine wp_region_M [2,5] [] hM (by kernel_rfl) ?_
        clear hM
        intro wo hM
        refine tW 0 rfl ?_
        simp only [zz]
        refine tL 1 (v := .agg #[.int .u32 g.fa, .int .i64 g.fp]) rfl ⟨fun r hr => hM.get 2 hr, fun r hr => hM.get 5 hr, trivial⟩ (Or.inl ⟨by rfl, ?hy⟩) ?_
        case hy => (rintro W ⟨i2, i5, -⟩; have c2 := (show At W _ _ _ from i2 _ rfl).cell; have c5 := (show At W _ _ _ from i5 _ rfl).cell; (try simp only [cnC,cSeg] at c2 c5); exact exec_loadw _ _ rfl gb 0 rfl [.int .u32 g.fa, .int .i64 g.fp] _ Try.underlying29 rfl sz_End (range_sub (cs := cSeg g) c5 0 _ rfl))
        simp only [zz]
        refine tW 2 rfl ?_
        simp only [zz]
        refine tW 3 rfl ?_
        simp only [zz]
        refine tW 4 rfl ?_
        simp only [zz]
        refine tL 5 (v := .agg #[.int .u32 c.ra, .int .i64 c.rp]) rfl ⟨fun r hr => hM.get 2 hr, fun r hr => hM.get 5 hr, trivial⟩ (Or.inl ⟨by rfl, ?hy⟩) ?_
        case hy => (rintro W ⟨i2, i5, -⟩; have c2 := (show At W _ _ _ from i2 _ rfl).cell; have c5 := (show At W _ _ _ from i5 _ rfl).cell; (try simp only [cnC,cSeg] at c2 c5); exact exec_loadw _ _ rfl gc 2 rfl [.int .u32 c.ra, .int .i64 c.rp] _ Try.underlying29 rfl sz_End (range_sub (cs := cnC c k) c2 2 _ rfl))
        simp only [zz]
        refine tY 6 rfl ((.inl ⟨by rfl, fun w => exec_neq _ _ _ _ rfl #[.int .u32 g.fa, .int .i64 g.fp] #[.int .u32 c.ra, .int .i64 c.rp] rfl rfl eg_End (decide (g.fa = c.ra ∧ g.fp = c.rp)) (eqB_End _ _ _ _) w⟩)) ?_
        simp only [zz]
        (try simp only [Bool.not_true, Bool.not_false])
        refine tW 7 rfl ?_
        simp only [zz]
        first
        | (refine tW 8 rfl ?_)
        | (refine tU 8 rfl ?_)
        simp only [zz]
        first
        | (refine tL 9 (v := .agg #[.int .u32 g.ta, .int .i64 g.tp]) rfl ⟨fun r hr => hM.get 2 hr, fun r hr => hM.get 5 hr, trivial⟩ (Or.inl ⟨by rfl, ?hy⟩) ?_; (case hy => (rintro W ⟨i2, i5, -⟩; have c2 := (show At W _ _ _ from i2 _ rfl).cell; have c5 := (show At W _ _ _ from i5 _ rfl).cell; (try simp only [cnC,cSeg] at c2 c5); exact exec_loadw _ _ rfl gb 2 rfl [.int .u32 g.ta, .int .i64 g.tp] _ Try.underlying29 rfl sz_End (range_sub (cs := cSeg g) c5 2 _ rfl))))
        | (refine tU 9 rfl ?_)
        simp only [zz]
        first
        | (refine tW 10 rfl ?_)
        | (refine tU 10 rfl ?_)
        simp only [zz]
        first
        | (refine tW 11 rfl ?_)
        | (refine tU 11 rfl ?_)
        simp only [zz]
        first
        | (refine tW 12 rfl ?_)
        | (refine tU 12 rfl ?_)
        simp only [zz]
        first
        | (refine tL 13 (v := .agg #[.int .u32 c.la, .int .i64 c.lp]) rfl ⟨fun r hr => hM.get 2 hr, fun r hr => hM.get 5 hr, trivial⟩ (Or.inl ⟨by rfl, ?hy⟩) ?_; (case hy => (rintro W ⟨i2, i5, -⟩; have c2 := (show At W _ _ _ from i2 _ rfl).cell; have c5 := (show At W _ _ _ from i5 _ rfl).cell; (try simp only [cnC,cSeg] at c2 c5); exact exec_loadw _ _ rfl gc 0 rfl [.int .u32 c.la, .int .i64 c.lp] _ Try.underlying29 rfl sz_End (range_sub (cs := cnC c k) c2 0 _ rfl))))
        | (refine tU 13 rfl ?_)
        simp only [zz]
        refine tY 14 rfl ((.inr ⟨by rfl, rfl⟩)) ?_
        simp only [zz]
        (try simp only [Bool.not_true, Bool.not_false])
        refine tW 15 rfl ?_
        simp only [zz]
        refine tW 16 rfl ?_
        simp only [zz]
        refine wpI_done (by kernel_rfl) ?_ _
        (try simp only [zz])
        (go_wp2_with fail)
        go_meet
        case rel => exact ⟨rfl, rfl, hM⟩
    case rest =>
      clear hM
      obtain ⟨rfl, rfl, hM⟩ := hcut
      cases b5 with
      | true =>
        have HE := Lib.hid (show cInE c g = 6 ∧ cIn c g = c from by
          have hd : ¬ (g.fa = c.ra ∧ g.fp = c.rp ∧ g.ta = c.la ∧ g.tp = c.lp) := fun h => by have := HB5.out; rw [decide_eq_true h] at this; cases this
          have h : cInE c g = 6 := by unfold cInE; rw [HZ.out, if_neg (by decide), if_pos hd]
          exact ⟨h, by unfold cIn; rw [h, if_pos (by decide)]⟩)
        (go_wp2_with fail)
        refine bodyPost_ret (v := .int .i64 6) (by simp [results, Try.results19, go_sem]) rfl ?_
        refine ⟨gi, gw, k, by rw [HE.out.1], ?_⟩
        rw [HE.out.2]
        exact ⟨cnL_drop (cnL_in hM), HK.out⟩
      | false =>
        have hd : g.fa = c.ra ∧ g.fp = c.rp ∧ g.ta = c.la ∧ g.tp = c.lp := by have := HB5.out; exact Decidable.byContradiction fun h => by rw [decide_eq_false h] at this; cases this
        by_cases hs0 : c.st = 0
        · have t0 : (c.st == 0) = true := by simpa using hs0
          have HE := Lib.hid (show cInE c g = 10 ∧ cIn c g = c from by
            have h : cInE c g = 10 := by unfold cInE; rw [HZ.out, if_neg (by decide), if_neg (fun h => h hd), if_pos hs0]
            exact ⟨h, by unfold cIn; rw [h, if_pos (by decide)]⟩)
          clear hs0 hd
          go_wp2_with (first | go_skip | ((with_reducible refine at_load_ ?_); refine at_wanted_ (by rfl) ?_; refine lM 2 hM rfl rfl rfl (by first  | rfl) ?_))
          refine bodyPost_ret (v := .int .i64 10) (by simp [results, Try.results19, go_sem]) rfl ?_
          refine ⟨gi, gw, k, by rw [HE.out.1], ?_⟩
          rw [HE.out.2]
          exact ⟨cnL_drop (cnL_in hM), HK.out⟩
        · have t0 : (c.st == 0) = false := by simpa using hs0
          obtain ⟨c2, hc2⟩ : ∃ z, z = if c.st = 1 then cFirst c g else cNext c g := ⟨_, rfl⟩
          have HE := Lib.hid (show cInE c g = 0 ∧ cIn c g = cSettle c2 from by
            have h : cInE c g = 0 := by unfold cInE; rw [HZ.out, if_neg (by decide), if_neg (fun h => h hd), if_neg hs0]
            exact ⟨h, by unfold cIn; rw [h, if_neg (by decide), hc2]⟩)
          have HC2 := Lib.hid hc2
          have HO2 := Lib.hid (show OqOk c2.o ∧ c2.o.base ≤ 4611686018427387904 from by
            rw [hc2]
            split
            · exact oq_keep HC.out.ok.ok HC.out.ok.hb (cFirst_o c g)
            · exact oq_keep HC.out.ok.ok HC.out.ok.hb ((cNext_o c g).elim .inl (fun h => .inr (.inl h))))
          have HS0 := Lib.hid hs0
          clear hc2 hs0 hd
          go_upto_if 38 with (first | go_skip | ((with_reducible refine at_load_ ?_); refine at_wanted_ (by rfl) ?_; refine lM 2 hM rfl rfl rfl (by first  | rfl) ?_))
          have HSE := Lib.hid (fun (W : World) (k' : KPt) (M : List Res) (h : MemX E w0 W (oqA k'.go c2.o k'.vo :: oqB c2.o k'.vo :: cnA gc c2 k' :: M)) => settle_any (E := E) (w0 := w0) gc c2 k' M W h HO2.out.1 HO2.out.2)
          have hbs : g.b.size ≤ 140737488351232 := by
            have := HZ.out; unfold tcChk at this
            split at this
            · cases this
            · split at this
              · cases this
              · split at this
                · cases this
                · omega
          have HBS := Lib.hid hbs
          clear hbs
          by_cases h1 : c.st = 1
          · have t1 : (c.st == 1) = true := by simpa using h1
            have HH := Lib.hid (HC.out.s1 h1)
            have HC3 := Lib.hid (show c2 = cFirst c g from by rw [HC2.out, if_pos h1])
            have hM2 : MemX E w0 wc (oqA k.go c.o k.vo :: oqB c.o k.vo :: cnA gc c k :: tmR k.gt c.tm :: rsR k.vr c.rs :: atR gb 33 (cSeg g) :: m) := by have h := hM; rw [HH.out] at h; exact h
            have HF := Lib.hid (fun (W : World) h => first_any (E := E) (w0 := w0) gc c k (atR gb 33 (cSeg g) :: m) W h g HH.out (HK.out.none' HH.out).1 (HK.out.none' HH.out).2 HC.out.own HC.out.ok HG.out.ack HC.out.iss HC.out.wh HC.out.me HC.out.rs)
            clear hM h1
            have hM := hM2
            clear hM2
            go_wp2_with (first | go_skip | ((with_reducible refine at_load_ (T := 33) ?_); refine wpList_loadg_mem (by go_simp) 33 _ rfl 5 _ _ _ hM rfl rfl _ Try.underlying33 rfl sz_Seg ?_) | (go_at_call 48; refine (HF.out _ hM).mono ?_; clear hM; rintro e W ⟨gi', gw', k', rfl, hM, hK'⟩; have HK' := Lib.hid hK'; clear hK'; rw [← HC3.out] at hM; unfold cnL at hM; dsimp only) | (go_at_call 43; refine (HSE.out _ _ _ hM).mono ?_; clear hM; rintro e W ⟨rfl, hM⟩; dsimp only))
            refine bodyPost_ret (v := .int .i64 0) (by simp [results, Try.results19, go_sem]) rfl ?_
            refine ⟨gi', gw', k', by rw [HE.out.1], ?_⟩
            obtain ⟨e1, e2, e3, e4⟩ := cSettle_o c2
            rw [HE.out.2]
            refine ⟨cnL_drop (A := atR gb 33 (cSeg g)) ?_, by rw [e4, HC3.out]; exact HK'.out⟩
            unfold cnL
            rw [e1, e2, e3, e4]
            exact hM
          · have t1 : (c.st == 1) = false := by simpa using h1
            have HNE := Lib.hid (HC.out.s2 HS0.out h1)
            have HC3 := Lib.hid (show c2 = cNext c g from by rw [HC2.out, if_neg h1])
            have hM2 := cnL_to HNE.out (cnL_in hM)
            have HS := Lib.hid (show c.h = some (cQ c, cW c) from by obtain ⟨x, hx⟩ := Option.ne_none_iff_exists'.1 HNE.out; unfold cQ cW; rw [hx])
            have HF := Lib.hid (fun (W : World) h => next_any (E := E) (w0 := w0) gc gi gw (cQ c) (cW c) c k (atR gb 33 (cSeg g) :: m) W h g HS.out (HK.out.ptr HNE.out).1 (HK.out.ptr HNE.out).2 HC.out.ok HBS.out HG.out.ack HG.out.seq HC.out.iss HC.out.irs HC.out.una HC.out.same HC.out.wh HC.out.me HC.out.rs (HC.out.ok.hs _ _ HS.out).1)
            clear hM h1
            have hM := hM2
            clear hM2
            go_wp2_with (first | go_skip | ((with_reducible refine at_load_ (T := 33) ?_); refine wpList_loadg_mem (by go_simp) 33 _ rfl 7 _ _ _ hM rfl rfl _ Try.underlying33 rfl sz_Seg ?_) | (go_at_call 49; refine (HF.out _ hM).mono ?_; clear hM; rintro e W ⟨vo', vr', rfl, hM⟩; replace hM := cnL_of (k := { k with vo := vo', vr := vr' }) (cNext_h HNE.out) hM; rw [← HC3.out] at hM; unfold cnL at hM; dsimp only) | (go_at_call 43; refine (HSE.out _ _ _ hM).mono ?_; clear hM; rintro e W ⟨rfl, hM⟩; dsimp only))
            refine bodyPost_ret (v := .int .i64 0) (by simp [results, Try.results19, go_sem]) rfl ?_
            refine ⟨by rw [HE.out.1], gi, gw, { k with vo := vo', vr := vr' }, ?_⟩
            obtain ⟨e1, e2, e3, e4⟩ := cSettle_o c2
            rw [HE.out.2]
            refine ⟨cnL_drop (A := atR gb 33 (cSeg g)) ?_, by rw [e4]; exact (by rw [HC3.out]; exact HK.out.some' HNE.out (cNext_h HNE.out) rfl rfl)⟩
            unfold cnL
            rw [e1, e2, e3, e4]
            exact hM
  · have t0 : (ck != 0) = true := by simpa using h0
    have HE := Lib.hid (show cInE c g = ck ∧ cIn c g = c from by
      have h : cInE c g = ck := by unfold cInE; rw [← HCK.out, if_pos h0]
      exact ⟨h, by unfold cIn; rw [h, if_pos h0]⟩)
    clear h0
    (go_wp2_with fail)
    refine bodyPost_ret (v := .int .i64 ck) (by simp [results, Try.results19, go_sem]) rfl ?_
    refine ⟨gi, gw, k, by rw [HE.out.1], ?_⟩
    rw [HE.out.2]
    exact ⟨cnL_drop (cnL_in hM), HK.out⟩
end Go.Proofs.Ytfpifahkpkjfgaa
