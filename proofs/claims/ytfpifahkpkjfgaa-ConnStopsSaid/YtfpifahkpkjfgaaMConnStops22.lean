/- What ConnStops needs, a part: CnL, Piece. -/
import Derived.Deep.CutBlock
import Derived.Test.YtfpifahkpkjfgaaMConnStops21
namespace Go.Proofs.Ytfpifahkpkjfgaa
open Go.RowKit Go.Lib
set_option linter.unusedVariables false
set_option linter.unusedSimpArgs false
theorem cn_in7 {E : Nat → Prop} {w W : World} {a b c d e f g A : Res} {l : List Res} (h : MemX E w W ((a :: b :: c :: d :: e :: f :: g :: l) ++ [A])) : MemX E w W (a :: b :: c :: d :: e :: f :: g :: A :: l) :=
 (show MemX E w W ([a, b, c, d, e, f, g] ++ (l ++ [A])) from h).perm (List.Perm.append_left _ List.perm_append_comm)
theorem cn_out7 {E : Nat → Prop} {w W : World} {a b c d e f g A : Res} {l : List Res} (h : MemX E w W (a :: b :: c :: d :: e :: f :: g :: A :: l)) : MemX E w W (a :: b :: c :: d :: e :: f :: g :: l) :=
 (show MemX E w W ([A] ++ (a :: b :: c :: d :: e :: f :: g :: l)) from h.perm (List.perm_middle (l₁ := [a, b, c, d, e, f, g]))).drop_
theorem cn_in5 {E : Nat → Prop} {w W : World} {a b c d e A : Res} {l : List Res} (h : MemX E w W ((a :: b :: c :: d :: e :: l) ++ [A])) : MemX E w W (a :: b :: c :: d :: e :: A :: l) :=
 (show MemX E w W ([a, b, c, d, e] ++ (l ++ [A])) from h).perm (List.Perm.append_left _ List.perm_append_comm)
theorem cn_out5 {E : Nat → Prop} {w W : World} {a b c d e A : Res} {l : List Res} (h : MemX E w W (a :: b :: c :: d :: e :: A :: l)) : MemX E w W (a :: b :: c :: d :: e :: l) :=
 (show MemX E w W ([A] ++ (a :: b :: c :: d :: e :: l)) from h.perm (List.perm_middle (l₁ := [a, b, c, d, e]))).drop_
theorem sgLen_bd (g : KSeg) : (g.b.size : Int) ≤ sgLen g ∧ sgLen g ≤ g.b.size + 2 := by
 unfold sgLen; constructor <;> (split <;> split <;> omega)
theorem cTakes1_a {c c2 : KCn} {g : KSeg} {at_ : Int} (hc : c2 = { c with h := c.h.map fun x => (putQ x.1 at_ g.b g.fin, x.2) }) (h : c.st = 3 ∨ c.st = 4 ∨ c.st = 5) :
  cTakes1 c g at_ = (if (cQ c2).over = true then (if c.st = 3 then { c2 with st := 6 } else if c.st = 4 then { c2 with st := 7 } else cWait c2) else c2) := by
 subst hc; unfold cTakes1; rw [if_pos h]
theorem cTakes1_ow (c : KCn) (g : KSeg) (at_ : Int) : (cTakes1 c g at_).owed = c.owed := by
 unfold cTakes1 cWait
 split
 ·dsimp only; split
  ·split
   ·rfl
   ·split <;> rfl
  ·rfl
 ·split <;> rfl
set_option maxRecDepth 100000 in
set_option maxHeartbeats 8000000 in
theorem takes_any {E : Nat → Prop} {w0 : World} (gc gi gw : Nat) (q : IQ) (d : KWd) (c : KCn) (k : KPt) (m : List Res) (w : World) (hM0 : MemX E w0 w (oqA k.go c.o k.vo :: oqB c.o k.vo :: cnA gc c k :: tmR k.gt c.tm :: rsR k.vr c.rs :: iqR gi q :: wdR gw d :: m)) (g : KSeg) (at_ : Int) (hh : c.h = some (q, d)) (hi : k.vi = .pointer (some ⟨gi, 0, none⟩)) (hq : IqOk q) (ha : -9223372036854775808 ≤ at_ ∧ at_ ≤ 9223372036854775807) (hs : g.b.size ≤ 140737488351232) (hn : 0 ≤ c.now ∧ c.now ≤ 1099511627776) :
    Calls Try.prog 80 #[.pointer (some ⟨gc, 0, none⟩), .agg (cSeg g).toArray, .int .i64 at_] w fun e w' => e = .returned (.tuple #[]) ∧ MemX E w0 w' (oqA k.go c.o k.vo :: oqB c.o k.vo :: cnA gc (cTakes c g at_) k :: tmR k.gt c.tm :: rsR k.vr c.rs :: iqR gi (cQ (cTakes c g at_)) :: wdR gw d :: m) := by
  have hM := hM0
  clear hM0
  obtain ⟨ha1, ha2⟩ := ha
  obtain ⟨hn1, hn2⟩ := hn
  have HP := Lib.hid (fun (W : World) h => Put_all gi q at_ g.b g.fin W h hq ha1 ha2 hs)
  have HO := Lib.hid (fun (W : World) h => Over_any gi (putQ q at_ g.b g.fin) W h)
  have HL := Lib.hid (fun (u : Later w) => tcLength_any g u.now hs)
  have HW := Lib.hid (fun (W : World) (M : List Res) h => waits_any (E := E) (w0 := w0) gc c k M W h hn1 hn2)
  have HLN := Lib.hid (fun (W : World) => tcLength_any g W hs)
  have HI := Lib.hid hi
  have HH := Lib.hid hh
  obtain ⟨q1, hq1⟩ : ∃ z, z = putQ q at_ g.b g.fin := ⟨_, rfl⟩
  have HQ1 := Lib.hid hq1
  rw [← hq1] at HP HO
  obtain ⟨sl, hsl⟩ : ∃ z, z = sgLen g := ⟨_, rfl⟩
  have hsl1 : 0 ≤ sl ∧ sl ≤ 140737488351234 := by rw [hsl]; have := sgLen_bd g; omega
  obtain ⟨hsl1, hsl2⟩ := hsl1
  have HSL := Lib.hid hsl
  rw [← hsl] at HL HLN
  obtain ⟨fb, hfb⟩ : ∃ z, z = g.fin := ⟨_, rfl⟩
  have HFB := Lib.hid hfb
  obtain ⟨cl, hcl⟩ : ∃ z, z = cSeg g := ⟨_, rfl⟩
  obtain ⟨ov, hov⟩ : ∃ z, z = q1.over := ⟨_, rfl⟩
  have HOV := Lib.hid hov
  rw [← hov] at HO
  obtain ⟨bd, hbd⟩ : ∃ z, z = g.b := ⟨_, rfl⟩
  clear hi hh hq hs hq1 hsl hfb hov hbd hcl
  go_enter Try.func80, Try.ntmps80
  go_upto_block 0 with (first | go_skip | ((with_reducible refine at_box_ ?_); refine wpList_box_mem rfl _ _ rfl (cSeg g) rfl hM ?_; clear hM; intro gb W hM; replace hM := cn_in7 hM) | ((with_reducible refine at_load_ ?_); refine at_wanted_ (by rfl) ?_; first | (refine lM 2 hM rfl rfl rfl rfl ?_)))
  obtain ⟨c1, hc1⟩ : ∃ z, z = cTakes1 c g at_ := ⟨_, rfl⟩
  have HC1 := Lib.hid hc1
  clear hc1
  go_frame
  go_cut [] (fun W => MemX E w0 W (oqA k.go c.o k.vo :: oqB c.o k.vo :: cnA gc c1 k :: tmR k.gt c.tm :: rsR k.vr c.rs :: iqR gi (cQ c1) :: wdR gw d :: atR gb 33 (cSeg g) :: m))
  case first =>
    go_upto_if 10 with (fail)
    obtain ⟨b, hb⟩ : ∃ z, z = decide (c.st = 3 ∨ c.st = 4 ∨ c.st = 5) := ⟨_, rfl⟩
    have HB := Lib.hid hb
    clear hb
    go_cut [10] (fun v W => v = .bool b ∧ MemX E w0 W (oqA k.go c.o k.vo :: oqB c.o k.vo :: cnA gc c k :: tmR k.gt c.tm :: rsR k.vr c.rs :: iqR gi q :: wdR gw d :: atR gb 33 (cSeg g) :: m))
    case first =>
      by_cases h3 : c.st = 3
      · have t3 : (c.st == 3) = true := by simpa using h3
        obtain rfl : b = true := by rw [HB.out]; exact decide_eq_true (.inl h3)
        clear HB h3
        go_wp2_with fail
        go_meet
        case rel => exact ⟨by rw [t3], hM⟩
      · have t3 : (c.st == 3) = false := by simpa using h3
        by_cases h4 : c.st = 4
        · have t4 : (c.st == 4) = true := by simpa using h4
          obtain rfl : b = true := by rw [HB.out]; exact decide_eq_true (.inr (.inl h4))
          clear HB h3 h4
          go_wp2_with fail
          go_meet
          case rel => exact ⟨rfl, hM⟩
        · have t4 : (c.st == 4) = false := by simpa using h4
          obtain ⟨b5, hb5⟩ : ∃ z, z = (c.st == 5) := ⟨_, rfl⟩
          have t5 : (c.st == 5) = b5 := hb5.symm
          obtain rfl : b = b5 := by rw [HB.out, hb5]; by_cases h5 : c.st = 5 <;> simp [h3, h4, h5]
          clear HB h3 h4 hb5
          go_wp2_with fail
          go_meet
          case rel => exact ⟨rfl, hM⟩
    case rest =>
      clear hM
      obtain ⟨rfl, hM⟩ := hcut
      cases b with
      | true =>
        go_upto_region 5 with (fail)
        refine wp_region_M [2,7] [] hM (by kernel_rfl) ?_
        clear hM
        intro wo hM
        refine tW 0 rfl ?_
        simp only [zz]
        refine tW 1 rfl ?_
        simp only [zz]
        refine tW 2 rfl ?_
        simp only [zz]
        refine tL 3 (v := ?_) rfl ⟨fun r hr => hM.get 2 hr, fun r hr => hM.get 7 hr, trivial⟩ (Or.inl ⟨by rfl, ?hy⟩) ?_
        case hy => (rintro W ⟨i2, i7, -⟩; have c2 := (show At W _ _ _ from i2 _ rfl).cell; have c7 := (show At W _ _ _ from i7 _ rfl).cell; (try simp only [cnC,cSeg] at c2 c7); (try simp only [HI.out] at c2); go_simp; (try with_reducible rfl))
        simp only [zz]
        refine tW 4 rfl ?_
        simp only [zz]
        refine tW 5 rfl ?_
        simp only [zz]
        refine tL 6 (v := ?_) rfl ⟨fun r hr => hM.get 2 hr, fun r hr => hM.get 7 hr, trivial⟩ (Or.inl ⟨by rfl, ?hy⟩) ?_
        case hy => (rintro W ⟨i2, i7, -⟩; have c2 := (show At W _ _ _ from i2 _ rfl).cell; have c7 := (show At W _ _ _ from i7 _ rfl).cell; (try simp only [cnC,cSeg] at c2 c7); (try simp only [HI.out] at c2); go_simp; (try with_reducible rfl))
        simp only [zz]
        refine tW 7 rfl ?_
        simp only [zz]
        refine tL 8 (v := ?_) rfl ⟨fun r hr => hM.get 2 hr, fun r hr => hM.get 7 hr, trivial⟩ (Or.inl ⟨by rfl, ?hy⟩) ?_
        case hy => (rintro W ⟨i2, i7, -⟩; have c2 := (show At W _ _ _ from i2 _ rfl).cell; have c7 := (show At W _ _ _ from i7 _ rfl).cell; (try simp only [cnC,cSeg] at c2 c7); (try simp only [HI.out] at c2); go_simp; (try with_reducible rfl))
        simp only [zz]
        refine wpI_one (i := 9) rfl (by kernel_rfl) ?_
        (try simp only [zz])
        go_wp2_with (first
            | go_skip
            | (go_at_call 92; refine (HP.out _ (hM.at_ 5 rfl)).mono ?_; rintro e W ⟨rfl, hT, hO⟩; replace hM := hM.atPut 5 rfl hO hT; clear hT hO; simp only [zF, zE] at hM; dsimp only))
        refine contI_normal ⟨fun r hr => hM.get 2 hr, fun r hr => hM.get 7 hr, trivial⟩ ?_
        (try simp only [zz])
        refine wpI_done (by kernel_rfl) ?_ _
        (try simp only [zz])
        have c7 : W.cell? ⟨gc, 7, none⟩ = some (.pointer (some ⟨gi, 0, none⟩)) := by rw [← HI.out]; exact hM.cells 2 rfl 7
        clear HP HL HLN
        obtain ⟨c2, hc2⟩ : ∃ z : KCn, z = { c with h := c.h.map fun x => (putQ x.1 at_ g.b g.fin, x.2) } := ⟨_, rfl⟩
        have HQ2 := Lib.hid (show cQ c2 = q1 from by unfold cQ; rw [hc2, HH.out]; exact HQ1.out.symm)
        have HX := Lib.hid (show c1 = (if q1.over = true then (if c.st = 3 then { c2 with st := 6 } else if c.st = 4 then { c2 with st := 7 } else cWait c2) else c2) from by
          rw [HC1.out, cTakes1_a hc2 (of_decide_eq_true HB.out.symm), HQ2.out])
        have HC2 := Lib.hid (show ∃ H1, c2 = { c with h := H1 } from ⟨_, hc2⟩)
        clear hc2
        go_upto_if 28 with (first | go_skip | (go_at_call 55; refine (HO.out _ (hM.at_ 5 rfl)).mono ?_; rintro e W ⟨rfl, rfl⟩; dsimp only))
        clear c7
        cases ov with
        | false =>
          have HE := Lib.hid (show c1 = c2 from by rw [HX.out, ← HOV.out, if_neg (by decide)])
          go_wp2_with fail
          go_meet
          case rel => (obtain ⟨H1, e2⟩ := HC2.out; rw [HE.out]; first | rw [HQ2.out] | rw [show ∀ x, cQ { c2 with st := x } = q1 from fun _ => HQ2.out] | rw [show cQ (cWait c2) = q1 from HQ2.out]); rw [e2]; exact hM
        | true =>
          by_cases h3 : c.st = 3
          · have t3 : (c.st == 3) = true := by simpa using h3
            have HE := Lib.hid (show c1 = { c2 with st := 6 } from by rw [HX.out, ← HOV.out, if_pos rfl, if_pos h3])
            clear h3 HX
            go_wp2_with (first | go_skip | ((with_reducible refine at_load_ ?_); refine at_wanted_ (by rfl) ?_; first | (refine lM 2 hM rfl rfl rfl rfl ?_)) | ((with_reducible refine at_store_ ?_); first | (refine sM 2 hM rfl rfl rfl ?_; clear hM; intro W hM; simp only [zF, zE, cnA, cn4, cn5, cn7, cn9, cn11, cn12, cn13, cn14, cn16, cn17, cn18, cn19, cn20, cn21, cn22, cn23, cn24, cn25, cn26, cn27, cn28] at hM)))
            go_meet
            case rel => (obtain ⟨H1, e2⟩ := HC2.out; rw [HE.out]; first | rw [HQ2.out] | rw [show ∀ x, cQ { c2 with st := x } = q1 from fun _ => HQ2.out] | rw [show cQ (cWait c2) = q1 from HQ2.out]); rw [e2]; exact hM
          · have t3 : (c.st == 3) = false := by simpa using h3
            by_cases h4 : c.st = 4
            · have t4 : (c.st == 4) = true := by simpa using h4
              have HE := Lib.hid (show c1 = { c2 with st := 7 } from by rw [HX.out, ← HOV.out, if_pos rfl, if_neg h3, if_pos h4])
              clear h3 h4 HX
              go_wp2_with (first | go_skip | ((with_reducible refine at_load_ ?_); refine at_wanted_ (by rfl) ?_; first | (refine lM 2 hM rfl rfl rfl rfl ?_)) | ((with_reducible refine at_store_ ?_); first | (refine sM 2 hM rfl rfl rfl ?_; clear hM; intro W hM; simp only [zF, zE, cnA, cn4, cn5, cn7, cn9, cn11, cn12, cn13, cn14, cn16, cn17, cn18, cn19, cn20, cn21, cn22, cn23, cn24, cn25, cn26, cn27, cn28] at hM)))
              go_meet
              case rel => (obtain ⟨H1, e2⟩ := HC2.out; rw [HE.out]; first | rw [HQ2.out] | rw [show ∀ x, cQ { c2 with st := x } = q1 from fun _ => HQ2.out] | rw [show cQ (cWait c2) = q1 from HQ2.out]); rw [e2]; exact hM
            · have t4 : (c.st == 4) = false := by simpa using h4
              have HE := Lib.hid (show c1 = cWait c2 from by rw [HX.out, ← HOV.out, if_pos rfl, if_neg h3, if_neg h4])
              clear h3 h4 HX
              go_wp2_with (first | go_skip | ((with_reducible refine at_load_ ?_); refine at_wanted_ (by rfl) ?_; first | (refine lM 2 hM rfl rfl rfl rfl ?_)) | (go_at_call 78; refine (HW.out _ _ hM).mono ?_; rintro e W ⟨rfl, hM2⟩; replace hM := hM2; clear hM2; dsimp only))
              go_meet
              case rel => (obtain ⟨H1, e2⟩ := HC2.out; rw [HE.out]; first | rw [HQ2.out] | rw [show ∀ x, cQ { c2 with st := x } = q1 from fun _ => HQ2.out] | rw [show cQ (cWait c2) = q1 from HQ2.out]); rw [e2]; exact hM
      | false =>
        have HQC := Lib.hid (show cQ c = q from by unfold cQ; rw [HH.out])
        have HX := Lib.hid (show c1 = if c.st = 9 ∧ g.fin = true then cWait c else c from by
          rw [HC1.out]; unfold cTakes1; rw [if_neg (of_decide_eq_false HB.out.symm)])
        clear HP HO HL HLN
        by_cases h9 : c.st = 9
        · have t9 : (c.st == 9) = true := by simpa using h9
          cases hf : g.fin with
          | true =>
            have cf : wc.cell? ⟨gb, 8, none⟩ = some (.bool true) := by rw [← hf]; exact hM.cells 7 rfl 8
            have HE := Lib.hid (show c1 = cWait c from by rw [HX.out, if_pos ⟨h9, hf⟩])
            clear h9 HX
            go_wp2_with (first | go_skip | (go_at_call 78; refine (HW.out _ _ hM).mono ?_; rintro e W ⟨rfl, hM2⟩; replace hM := hM2; clear hM2; dsimp only))
            go_meet
            case rel => rw [HE.out]; exact (by rw [show cQ (cWait c) = q from HQC.out]; exact hM)
          | false =>
            have cf : wc.cell? ⟨gb, 8, none⟩ = some (.bool false) := by rw [← hf]; exact hM.cells 7 rfl 8
            have HE := Lib.hid (show c1 = c from by rw [HX.out, if_neg (fun h => by rw [hf] at h; exact absurd h.2 (by decide))])
            clear h9 HX
            go_wp2_with fail
            go_meet
            case rel => rw [HE.out, HQC.out]; exact hM
        · have t9 : (c.st == 9) = false := by simpa using h9
          have HE := Lib.hid (show c1 = c from by rw [HX.out, if_neg (fun h => h9 h.1)])
          clear h9 HX
          go_wp2_with fail
          go_meet
          case rel => rw [HE.out, HQC.out]; exact hM
  case rest =>
    clear hM
    have hM := hcut
    clear hcut
    apply apK
    · assumption
    have HOW := Lib.hid (show c1.owed = c.owed from by rw [HC1.out]; exact cTakes1_ow c g at_)
    have HT := Lib.hid (show cTakes c g at_ = { c1 with owed := c1.owed || decide (0 < sl) } from by unfold cTakes; rw [HSL.out, HOW.out, HC1.out])
    have HQT := Lib.hid (show cQ (cTakes c g at_) = cQ c1 from by rw [HT.out]; rfl)
    clear HP HO HL HW
    obtain ⟨ow, how⟩ : ∃ z, z = c1.owed := ⟨_, rfl⟩
    have tw : c1.owed = ow := how.symm
    clear how
    cases ow with
    | true =>
      have HE := Lib.hid (show cTakes c g at_ = { c1 with owed := true } from by rw [HT.out, tw]; rfl)
      go_wp2_with (first | go_skip | ((with_reducible refine at_load_ ?_); refine at_wanted_ (by rfl) ?_; first | (refine lM 2 hM rfl rfl rfl rfl ?_)) | ((with_reducible refine at_store_ ?_); first | (refine sM 2 hM rfl rfl rfl ?_; clear hM; intro W hM; simp only [zF, zE, cnA, cn4, cn5, cn7, cn9, cn11, cn12, cn13, cn14, cn16, cn17, cn18, cn19, cn20, cn21, cn22, cn23, cn24, cn25, cn26, cn27, cn28] at hM)))
      go_end0
      replace hM := cn_out7 hM
      rw [HQT.out, HE.out]
      exact ⟨rfl, hM⟩
    | false =>
      by_cases hl : 0 < sl
      · have tl : decide (0 < sl) = true := decide_eq_true hl
        have HE := Lib.hid (show cTakes c g at_ = { c1 with owed := true } from by rw [HT.out, tw, tl]; rfl)
        clear hl
        go_wp2_with (first | go_skip | ((with_reducible refine at_load_ ?_); refine at_wanted_ (by rfl) ?_; first | (refine lM 2 hM rfl rfl rfl rfl ?_)) | ((with_reducible refine at_load_ (T := 33) ?_); refine wpList_loadg_mem (by go_simp) 33 _ rfl 7 _ _ _ hM rfl rfl _ Try.underlying33 rfl sz_Seg ?_) | (go_at_call 77; refine (HLN.out _ ).mono ?_; rintro e W ⟨rfl, hb⟩; replace hM := hM.kept hb; clear hb; dsimp only) | ((with_reducible refine at_store_ ?_); first | (refine sM 2 hM rfl rfl rfl ?_; clear hM; intro W hM; simp only [zF, zE, cnA, cn4, cn5, cn7, cn9, cn11, cn12, cn13, cn14, cn16, cn17, cn18, cn19, cn20, cn21, cn22, cn23, cn24, cn25, cn26, cn27, cn28] at hM)))
        go_end0
        replace hM := cn_out7 hM
        rw [HQT.out, HE.out]
        exact ⟨rfl, hM⟩
      · have tl : decide (0 < sl) = false := decide_eq_false hl
        have HE := Lib.hid (show cTakes c g at_ = { c1 with owed := false } from by rw [HT.out, tw, tl]; rfl)
        clear hl
        go_wp2_with (first | go_skip | ((with_reducible refine at_load_ ?_); refine at_wanted_ (by rfl) ?_; first | (refine lM 2 hM rfl rfl rfl rfl ?_)) | ((with_reducible refine at_load_ (T := 33) ?_); refine wpList_loadg_mem (by go_simp) 33 _ rfl 7 _ _ _ hM rfl rfl _ Try.underlying33 rfl sz_Seg ?_) | (go_at_call 77; refine (HLN.out _ ).mono ?_; rintro e W ⟨rfl, hb⟩; replace hM := hM.kept hb; clear hb; dsimp only) | ((with_reducible refine at_store_ ?_); first | (refine sM 2 hM rfl rfl rfl ?_; clear hM; intro W hM; simp only [zF, zE, cnA, cn4, cn5, cn7, cn9, cn11, cn12, cn13, cn14, cn16, cn17, cn18, cn19, cn20, cn21, cn22, cn23, cn24, cn25, cn26, cn27, cn28] at hM)))
        go_end0
        replace hM := cn_out7 hM
        rw [HQT.out, HE.out]
        exact ⟨rfl, hM⟩
end Go.Proofs.Ytfpifahkpkjfgaa
namespace Go.Proofs.Ytfpifahkpkjfgaa
open Go.RowKit
set_option linter.unusedVariables false
def blkIn (n : Nat) : Code → Option Code
  | .block m c => if m = n then some (.block m c) else blkIn n c
  | .seq a b => match blkIn n a with
    | some c => some c
    | none => blkIn n b
  | .loop c => blkIn n c
  | .scope c => blkIn n c
  | .cond _ a b => match blkIn n a with
    | some c => some c
    | none => blkIn n b
  | _ => none
def ifIn (n : Nat) : Code → Option Code
  | .block m c => ifIn n c
  | .seq a b => match ifIn n a with
    | some c => some c
    | none => ifIn n b
  | .loop c => ifIn n c
  | .scope c => ifIn n c
  | .cond (.tmp k) a b => if k = n then some (.cond (.tmp k) a b) else match ifIn n a with
    | some c => some c
    | none => ifIn n b
  | .cond _ a b => match ifIn n a with
    | some c => some c
    | none => ifIn n b
  | _ => none
end Go.Proofs.Ytfpifahkpkjfgaa
