/- What ConnStops needs, a part: CnY, CnZ, CnZa. -/
import Derived.Deep.CutBlock
import Derived.Test.YtfpifahkpkjfgaaMConnStops30
namespace Go.Proofs.Ytfpifahkpkjfgaa
open Go.RowKit Go.Lib
set_option linter.unusedVariables false
set_option linter.unusedSimpArgs false
set_option linter.unusedSectionVars false
set_option maxRecDepth 100000
def cWrite (c : KCn) (s : ByteArray) : KCn × Int × Int :=
 if c.st = 0 ∧ c.why ≠ 0 then (c, 0, c.why) else if c.st = 0 ∨ c.shut = true then (c, 0, 17) else
  (cSettle { c with o := oWrite c.o s }, if oN c.o s.size = 0 ∧ s.size ≠ 0 then (0, 14) else ((oN c.o s.size : Int), 0))
def cClose (c : KCn) : KCn × Int :=
 if c.st = 0 then (c, 10) else if c.shut = true then (c, 17) else if c.st = 1 then (cSettle (cClosed c 0), 0) else
  (cSettle { c with shut := true, o := { c.o with cl := true }, st := if c.st = 3 then 4 else if c.st = 6 then 8 else c.st }, 0)
def cAbort (c : KCn) : KCn × Int :=
 if c.st = 0 then (c, 10) else (cSettle (cClosed (if c.st = 1 ∨ c.st = 9 then c else { c with rs := c.rs ++ [u32 (c.iss + u32 c.o.sent)] }) 17), 0)
theorem cn_set {E : Nat → Prop} {w0 W : World} {gc gi gw : Nat} {c : KCn} {k : KPt} {m : List Res} (h : MemX E w0 W (oqA k.go c.o k.vo :: oqB c.o k.vo :: cnA gc (cSettle c) k :: tmR k.gt c.tm :: rsR k.vr c.rs :: (hL gi gw c.h ++ m))) : MemX E w0 W (cnL gc gi gw (cSettle c) k m) := by
 obtain ⟨e1, e2, e3, e4⟩ := cSettle_o c
 unfold cnL
 rw [e1, e2, e3, e4]
 exact h
theorem size_data {s : ByteArray} (h : s.size = 0) : s = ⟨#[]⟩ := by
 obtain ⟨d⟩ := s
 have h2 : d.size = 0 := h
 rw [Array.eq_empty_of_size_eq_zero h2]
set_option maxRecDepth 100000 in
set_option maxHeartbeats 8000000 in
theorem cWrite_any {E : Nat → Prop} {w0 : World} (gc gi gw : Nat) (c : KCn) (k : KPt) (m : List Res) (w : World) (hM0 : MemX E w0 w (cnL gc gi gw c k m)) (hk : KOk k gi gw c.h) (s : ByteArray) (ok : OqOk c.o) (hb : c.o.base ≤ 4611686018427387904) (hs : s.size ≤ 140737488351232) :
    Calls Try.prog 23 #[.pointer (some ⟨gc, 0, none⟩), .string s] w fun e w' => ∃ k', e = .returned (.tuple #[.int .i64 (cWrite c s).2.1, .int .i64 (cWrite c s).2.2]) ∧ MemX E w0 w' (cnL gc gi gw (cWrite c s).1 k' m) ∧ KOk k' gi gw (cWrite c s).1.h := by
  unfold cnL at hM0
  have hM := hM0
  clear hM0
  have HK := Lib.hid hk
  have HWR := Lib.hid (fun (W : World) h => Write_any k.go c.o k.vo s W h ok hs)
  have HSE := Lib.hid (fun (W : World) (k' : KPt) (M : List Res) (h : MemX E w0 W (oqA k'.go (oWrite c.o s) k'.vo :: oqB (oWrite c.o s) k'.vo :: cnA gc { c with o := oWrite c.o s } k' :: M)) => settle_any (E := E) (w0 := w0) gc { c with o := oWrite c.o s } k' M W h (write_ok ok s) hb)
  obtain ⟨n, hn⟩ : ∃ z, z = oN c.o s.size := ⟨_, rfl⟩
  have HN := Lib.hid hn
  rw [← hn] at HWR
  clear hk ok hb hn
  go_enter Try.func23, Try.ntmps23
  by_cases h0 : c.st = 0
  · have t0 : (c.st == 0) = true := by simpa using h0
    by_cases hy : c.why = 0
    · have ty : (c.why != 0) = false := by simpa using hy
      have HE := Lib.hid (show cWrite c s = (c, 0, 17) from by unfold cWrite; rw [if_neg (fun h => h.2 hy), if_pos (.inl h0)])
      clear h0 hy
      go_wp2_with (first | go_skip | ((with_reducible refine at_load_ ?_); refine at_wanted_ (by rfl) ?_; refine lM 2 hM rfl rfl rfl (by first  | rfl) ?_))
      refine bodyPost_ret (v := .tuple #[.int .i64 0, .int .i64 17]) (by simp [results, Try.results23, go_sem]) rfl ?_
      first | refine ⟨by rw [HE.out], k, ?_⟩ | refine ⟨k, by rw [HE.out], ?_⟩
      rw [HE.out]
      exact ⟨hM, HK.out⟩
    · have ty : (c.why != 0) = true := by simpa using hy
      have HE := Lib.hid (show cWrite c s = (c, 0, c.why) from by unfold cWrite; rw [if_pos ⟨h0, hy⟩])
      clear h0 hy
      go_upto_region 2 with (first | go_skip | ((with_reducible refine at_load_ ?_); refine at_wanted_ (by rfl) ?_; refine lM 2 hM rfl rfl rfl (by first  | rfl) ?_))
      have hcc := hM.cells 2 rfl
      have hlt := hM.lt 2 rfl
      simp only [cnC] at hcc
      refine wp_region_later (by kernel_rfl) (by kernel_rfl) (fun hlc => ?_)
      repeat (go_big_quiet_step (fail))
      refine wpQuiet_nil ?_
      intro wq hbq
      clear hlc
      clear hcc hlt
      replace hM := hM.kept hbq
      (go_wp2_with fail)
      refine bodyPost_ret (v := .tuple #[.int .i64 0, .int .i64 c.why]) (by simp [results, Try.results23, go_sem]) rfl ?_
      first | refine ⟨by rw [HE.out], k, ?_⟩ | refine ⟨k, by rw [HE.out], ?_⟩
      rw [HE.out]
      exact ⟨hM, HK.out⟩
  · have t0 : (c.st == 0) = false := by simpa using h0
    cases hsh : c.shut with
    | true =>
      have HF := Lib.hid (show (cnC c k)[25]? = some (.bool true) from by rw [← hsh]; rfl)
      have HE := Lib.hid (show cWrite c s = (c, 0, 17) from by unfold cWrite; rw [if_neg (fun h => h0 h.1), if_pos (.inr hsh)])
      clear h0
      go_wp2_with (first | go_skip | ((with_reducible refine at_load_ ?_); refine at_wanted_ (by rfl) ?_; refine lM 2 hM rfl rfl rfl (by first | exact HF.out | rfl) ?_))
      refine bodyPost_ret (v := .tuple #[.int .i64 0, .int .i64 17]) (by simp [results, Try.results23, go_sem]) rfl ?_
      first | refine ⟨by rw [HE.out], k, ?_⟩ | refine ⟨k, by rw [HE.out], ?_⟩
      rw [HE.out]
      exact ⟨hM, HK.out⟩
    | false =>
      have HF := Lib.hid (show (cnC c k)[25]? = some (.bool false) from by rw [← hsh]; rfl)
      have HE := Lib.hid (show cWrite c s = (cSettle { c with o := oWrite c.o s }, if n = 0 ∧ s.size ≠ 0 then (0, 14) else ((n : Int), 0)) from by
        unfold cWrite; rw [if_neg (fun h => h0 h.1), if_neg (fun h => h.elim h0 (fun h => by rw [hsh] at h; cases h)), HN.out])
      clear h0
      go_upto_region 7 with (first | go_skip | ((with_reducible refine at_load_ ?_); refine at_wanted_ (by rfl) ?_; refine lM 2 hM rfl rfl rfl (by first | exact HF.out | rfl) ?_) | (go_at_call 52; refine (HWR.out _ (cq_hand hM)).mono ?_; rintro e W ⟨vo', rfl, hN⟩; replace hM := cq_put hM hN; clear hN; dsimp only) | (go_at_call 43; refine (HSE.out _ { k with vo := vo' } _ hM).mono ?_; clear hM; rintro e W ⟨rfl, hM⟩; dsimp only))
      have HK2 := Lib.hid (show KOk { k with vo := vo' } gi gw (cSettle { c with o := oWrite c.o s }).h from by rw [(cSettle_o _).2.2.2]; cases hh : c.h with | none => exact HK.out.none' hh | some x => exact HK.out.ptr (by rw [hh]; exact fun e => by cases e))
      by_cases hz : n = 0
      · subst hz
        by_cases hs0 : s.size = 0
        · have HE2 := Lib.hid (show cWrite c s = (cSettle { c with o := oWrite c.o s }, 0, 0) from by rw [HE.out, if_neg (fun h => h.2 hs0)]; rfl)
          have ts := str_none' hs0
          have tz : (((0 : Nat) : Int) == 0) = true := rfl
          clear hs0
          (go_wp2_with fail)
          refine bodyPost_ret (v := .tuple #[.int .i64 0, .int .i64 0]) (by simp [results, Try.results23, go_sem]) rfl ?_
          first | refine ⟨by rw [HE2.out], { k with vo := vo' }, ?_⟩ | refine ⟨{ k with vo := vo' }, by rw [HE2.out], ?_⟩
          rw [HE2.out]
          exact ⟨cn_set (k := { k with vo := vo' }) hM, HK2.out⟩
        · have HE2 := Lib.hid (show cWrite c s = (cSettle { c with o := oWrite c.o s }, 0, 14) from by rw [HE.out, if_pos ⟨rfl, hs0⟩])
          have ts := str_some' (Nat.pos_of_ne_zero hs0)
          have tz : (((0 : Nat) : Int) == 0) = true := rfl
          clear hs0
          (go_wp2_with fail)
          refine bodyPost_ret (v := .tuple #[.int .i64 0, .int .i64 14]) (by simp [results, Try.results23, go_sem]) rfl ?_
          first | refine ⟨by rw [HE2.out], { k with vo := vo' }, ?_⟩ | refine ⟨{ k with vo := vo' }, by rw [HE2.out], ?_⟩
          rw [HE2.out]
          exact ⟨cn_set (k := { k with vo := vo' }) hM, HK2.out⟩
      · have HE2 := Lib.hid (show cWrite c s = (cSettle { c with o := oWrite c.o s }, (n : Int), 0) from by rw [HE.out, if_neg (fun h => hz h.1)])
        have tz : ((n : Int) == 0) = false := by simpa using hz
        clear hz
        (go_wp2_with fail)
        refine bodyPost_ret (v := .tuple #[.int .i64 n, .int .i64 0]) (by simp [results, Try.results23, go_sem]) rfl ?_
        first | refine ⟨by rw [HE2.out], { k with vo := vo' }, ?_⟩ | refine ⟨{ k with vo := vo' }, by rw [HE2.out], ?_⟩
        rw [HE2.out]
        exact ⟨cn_set (k := { k with vo := vo' }) hM, HK2.out⟩
set_option maxRecDepth 100000
set_option maxRecDepth 100000
def cReadT (c : KCn) : KCn × ByteArray × Bool × Int :=
 if c.st ≠ 0 then (c, ⟨#[]⟩, false, 14) else if c.why ≠ 0 then (c, ⟨#[]⟩, false, c.why) else (c, ⟨#[]⟩, true, 0)
def cRead (c : KCn) (most : Int) : KCn × ByteArray × Bool × Int :=
 if c.h ≠ none ∧ 0 < endZ (cQ c) - (cQ c).rd then
  ({ c with h := c.h.map fun x => ({ x.1 with rd := x.1.rd + readN x.1 most }, x.2) }, byteS (readL (cQ c) (readN (cQ c) most)), false, 0)
 else if c.h ≠ none ∧ (cQ c).over = true then (c, ⟨#[]⟩, true, 0) else cReadT c
set_option maxRecDepth 100000 in
set_option maxHeartbeats 8000000 in
theorem cRead_any {E : Nat → Prop} {w0 : World} (gc gi gw : Nat) (c : KCn) (k : KPt) (m : List Res) (w : World) (hM0 : MemX E w0 w (cnL gc gi gw c k m)) (hk : KOk k gi gw c.h) (most : Int) (hq : c.h ≠ none → IqOk (cQ c)) (hm : -9223372036854775808 ≤ most) (hm' : most ≤ 9223372036854775807) :
    Calls Try.prog 26 #[.pointer (some ⟨gc, 0, none⟩), .int .i64 most] w fun e w' => e = .returned (.tuple #[.string (cRead c most).2.1, .bool (cRead c most).2.2.1, .int .i64 (cRead c most).2.2.2]) ∧ MemX E w0 w' (cnL gc gi gw (cRead c most).1 k m) ∧ KOk k gi gw (cRead c most).1.h := by
  have HK := Lib.hid hk
  by_cases hh : c.h = none
  · have HE := Lib.hid (show cRead c most = cReadT c from by unfold cRead; rw [if_neg (fun h => h.1 hh), if_neg (fun h => h.1 hh)])
    have HF := Lib.hid (show (cnC c k)[7]? = some (.pointer none) from by rw [← (HK.out.none' hh).1]; rfl)
    unfold cnL at hM0
    have hM := hM0
    clear hM0 hh hk hq
    go_enter Try.func26, Try.ntmps26
    by_cases h0 : c.st = 0
    · have t0 : (c.st != 0) = false := by simpa using h0
      by_cases hy : c.why = 0
      · have ty : (c.why != 0) = false := by simpa using hy
        have HE2 := Lib.hid (show cRead c most = (c, ⟨#[]⟩, true, 0) from by rw [HE.out]; unfold cReadT; rw [if_neg (fun h => h h0), if_neg (fun h => h hy)])
        clear h0 hy
        go_wp2_with (first | go_skip | ((with_reducible refine at_load_ ?_); refine at_wanted_ (by rfl) ?_; refine lM 2 hM rfl rfl rfl (by first | exact HF.out | rfl) ?_))
        refine bodyPost_ret (v := .tuple #[.string ⟨#[]⟩, .bool true, .int .i64 0]) (by simp [results, Try.results26, go_sem]) rfl ?_
        refine ⟨by rw [HE2.out], ?_⟩
        rw [HE2.out]
        exact ⟨hM, HK.out⟩
      · have ty : (c.why != 0) = true := by simpa using hy
        have HE2 := Lib.hid (show cRead c most = (c, ⟨#[]⟩, false, c.why) from by rw [HE.out]; unfold cReadT; rw [if_neg (fun h => h h0), if_pos hy])
        clear h0 hy
        go_upto_region 8 with (first | go_skip | ((with_reducible refine at_load_ ?_); refine at_wanted_ (by rfl) ?_; refine lM 2 hM rfl rfl rfl (by first | exact HF.out | rfl) ?_))
        have hcc := hM.cells 2 rfl
        have hlt := hM.lt 2 rfl
        simp only [cnC] at hcc
        refine wp_region_later (by kernel_rfl) (by kernel_rfl) (fun hlc => ?_)
        repeat (go_big_quiet_step (fail))
        refine wpQuiet_nil ?_
        intro wq hbq
        clear hlc
        clear hcc hlt
        replace hM := hM.kept hbq
        (go_wp2_with fail)
        refine bodyPost_ret (v := .tuple #[.string ⟨#[]⟩, .bool false, .int .i64 c.why]) (by simp [results, Try.results26, go_sem]) rfl ?_
        refine ⟨by rw [HE2.out], ?_⟩
        rw [HE2.out]
        exact ⟨hM, HK.out⟩
    · have t0 : (c.st != 0) = true := by simpa using h0
      have HE2 := Lib.hid (show cRead c most = (c, ⟨#[]⟩, false, 14) from by rw [HE.out]; unfold cReadT; rw [if_pos h0])
      clear h0
      go_wp2_with (first | go_skip | ((with_reducible refine at_load_ ?_); refine at_wanted_ (by rfl) ?_; refine lM 2 hM rfl rfl rfl (by first | exact HF.out | rfl) ?_))
      refine bodyPost_ret (v := .tuple #[.string ⟨#[]⟩, .bool false, .int .i64 14]) (by simp [results, Try.results26, go_sem]) rfl ?_
      refine ⟨by rw [HE2.out], ?_⟩
      rw [HE2.out]
      exact ⟨hM, HK.out⟩
  · have HNE := Lib.hid hh
    have HF := Lib.hid (show (cnC c k)[7]? = some (.pointer (some ⟨gi, 0, none⟩)) from by rw [← (HK.out.ptr hh).1]; rfl)
    have HQ := Lib.hid (hq hh)
    obtain ⟨q, hqq⟩ : ∃ z, z = cQ c := ⟨_, rfl⟩
    have HQQ := Lib.hid hqq
    have HRD := Lib.hid (fun (W : World) h => Ready_any gi q W h (by rw [hqq]; exact hq hh))
    have HOV := Lib.hid (fun (W : World) h => Over_any gi q W h)
    have HRE := Lib.hid (fun (W : World) h => Read_any gi q most W h (by rw [hqq]; exact hq hh) hm hm')
    have hM := cnL_to hh hM0
    rw [← hqq] at hM
    clear hM0 hk hq hm hm' hqq
    by_cases hr : 0 < endZ q - q.rd
    · have HE := Lib.hid (show cRead c most = ({ c with h := c.h.map fun x => ({ x.1 with rd := x.1.rd + readN x.1 most }, x.2) }, byteS (readL q (readN q most)), false, 0) from by unfold cRead; rw [← HQQ.out, if_pos ⟨hh, hr⟩])
      have tr : decide (0 < endZ q - q.rd) = true := decide_eq_true hr
      clear hh
      go_enter Try.func26, Try.ntmps26
      go_wp2_with (first | go_skip | ((with_reducible refine at_load_ ?_); refine at_wanted_ (by rfl) ?_; refine lM 2 hM rfl rfl rfl (by first | exact HF.out | rfl) ?_) | (go_at_call 53; refine (HRD.out _ (hM.at_ 5 rfl)).mono ?_; rintro e W ⟨rfl, hb⟩; replace hM := hM.kept hb; clear hb; dsimp only) | (go_at_call 54; refine (HRE.out _ (hM.at_ 5 rfl)).mono ?_; rintro e W ⟨rfl, hT, hO⟩; replace hM := hM.atPut 5 rfl hO hT; clear hT hO; simp only [zF, zE] at hM; dsimp only))
      refine bodyPost_ret (v := .tuple #[.string (byteS (readL q (readN q most))), .bool false, .int .i64 0]) (by simp [results, Try.results26, go_sem]) rfl ?_
      refine ⟨by rw [HE.out], ?_⟩
      rw [HE.out]
      obtain ⟨x, hx⟩ := Option.ne_none_iff_exists'.1 HNE.out
      have hq2 : q = x.1 := by rw [HQQ.out]; unfold cQ; rw [hx]
      have hd2 : cW c = x.2 := by unfold cW; rw [hx]
      refine ⟨?_, ?_⟩
      · show MemX E w0 _ (cnL gc gi gw { c with h := c.h.map fun x => ({ x.1 with rd := x.1.rd + readN x.1 most }, x.2) } k m)
        unfold cnL hL
        dsimp only
        rw [hx]
        rw [hq2, hd2] at hM
        exact hM
      · show KOk k gi gw (c.h.map fun x => ({ x.1 with rd := x.1.rd + readN x.1 most }, x.2))
        rw [hx]
        exact HK.out.ptr HNE.out
    · have tr : decide (0 < endZ q - q.rd) = false := decide_eq_false hr
      cases hov : q.over with
      | true =>
        have HO2 := Lib.hid (fun (W : World) h => (show Calls Try.prog 55 #[.pointer (some ⟨gi, 0, none⟩)] W fun e w' => e = .returned (.bool true) ∧ W = w' from by have := HOV.out W h; rw [hov] at this; exact this))
        have HE := Lib.hid (show cRead c most = (c, ⟨#[]⟩, true, 0) from by unfold cRead; rw [← HQQ.out, if_neg (fun h => hr h.2), if_pos ⟨hh, hov⟩])
        clear hh
        go_enter Try.func26, Try.ntmps26
        go_wp2_with (first | go_skip | ((with_reducible refine at_load_ ?_); refine at_wanted_ (by rfl) ?_; refine lM 2 hM rfl rfl rfl (by first | exact HF.out | rfl) ?_) | (go_at_call 53; refine (HRD.out _ (hM.at_ 5 rfl)).mono ?_; rintro e W ⟨rfl, hb⟩; replace hM := hM.kept hb; clear hb; dsimp only) | (go_at_call 55; refine (HO2.out _ (hM.at_ 5 rfl)).mono ?_; rintro e W ⟨rfl, rfl⟩; dsimp only))
        refine bodyPost_ret (v := .tuple #[.string ⟨#[]⟩, .bool true, .int .i64 0]) (by simp [results, Try.results26, go_sem]) rfl ?_
        refine ⟨by rw [HE.out], ?_⟩
        rw [HE.out]
        exact ⟨cnL_of HNE.out (by rw [← HQQ.out]; exact hM), HK.out⟩
      | false =>
        have HO2 := Lib.hid (fun (W : World) h => (show Calls Try.prog 55 #[.pointer (some ⟨gi, 0, none⟩)] W fun e w' => e = .returned (.bool false) ∧ W = w' from by have := HOV.out W h; rw [hov] at this; exact this))
        have HE := Lib.hid (show cRead c most = cReadT c from by unfold cRead; rw [← HQQ.out, if_neg (fun h => hr h.2), if_neg (fun h => by rw [hov] at h; exact absurd h.2 (by decide))])
        clear hh
        go_enter Try.func26, Try.ntmps26
        by_cases h0 : c.st = 0
        · have t0 : (c.st != 0) = false := by simpa using h0
          by_cases hy : c.why = 0
          · have ty : (c.why != 0) = false := by simpa using hy
            have HE2 := Lib.hid (show cRead c most = (c, ⟨#[]⟩, true, 0) from by rw [HE.out]; unfold cReadT; rw [if_neg (fun h => h h0), if_neg (fun h => h hy)])
            clear h0 hy
            go_wp2_with (first | go_skip | ((with_reducible refine at_load_ ?_); refine at_wanted_ (by rfl) ?_; refine lM 2 hM rfl rfl rfl (by first | exact HF.out | rfl) ?_) | (go_at_call 53; refine (HRD.out _ (hM.at_ 5 rfl)).mono ?_; rintro e W ⟨rfl, hb⟩; replace hM := hM.kept hb; clear hb; dsimp only) | (go_at_call 55; refine (HO2.out _ (hM.at_ 5 rfl)).mono ?_; rintro e W ⟨rfl, rfl⟩; dsimp only))
            refine bodyPost_ret (v := .tuple #[.string ⟨#[]⟩, .bool true, .int .i64 0]) (by simp [results, Try.results26, go_sem]) rfl ?_
            refine ⟨by rw [HE2.out], ?_⟩
            rw [HE2.out]
            exact ⟨cnL_of HNE.out (by rw [← HQQ.out]; exact hM), HK.out⟩
          · have ty : (c.why != 0) = true := by simpa using hy
            have HE2 := Lib.hid (show cRead c most = (c, ⟨#[]⟩, false, c.why) from by rw [HE.out]; unfold cReadT; rw [if_neg (fun h => h h0), if_pos hy])
            clear h0 hy
            go_upto_region 8 with (first | go_skip | ((with_reducible refine at_load_ ?_); refine at_wanted_ (by rfl) ?_; refine lM 2 hM rfl rfl rfl (by first | exact HF.out | rfl) ?_) | (go_at_call 53; refine (HRD.out _ (hM.at_ 5 rfl)).mono ?_; rintro e W ⟨rfl, hb⟩; replace hM := hM.kept hb; clear hb; dsimp only) | (go_at_call 55; refine (HO2.out _ (hM.at_ 5 rfl)).mono ?_; rintro e W ⟨rfl, rfl⟩; dsimp only))
            have hcc := hM.cells 2 rfl
            have hlt := hM.lt 2 rfl
            simp only [cnC] at hcc
            refine wp_region_later (by kernel_rfl) (by kernel_rfl) (fun hlc => ?_)
            repeat (go_big_quiet_step (fail))
            refine wpQuiet_nil ?_
            intro wq hbq
            clear hlc
            clear hcc hlt
            replace hM := hM.kept hbq
            (go_wp2_with fail)
            refine bodyPost_ret (v := .tuple #[.string ⟨#[]⟩, .bool false, .int .i64 c.why]) (by simp [results, Try.results26, go_sem]) rfl ?_
            refine ⟨by rw [HE2.out], ?_⟩
            rw [HE2.out]
            exact ⟨cnL_of HNE.out (by rw [← HQQ.out]; exact hM), HK.out⟩
        · have t0 : (c.st != 0) = true := by simpa using h0
          have HE2 := Lib.hid (show cRead c most = (c, ⟨#[]⟩, false, 14) from by rw [HE.out]; unfold cReadT; rw [if_pos h0])
          clear h0
          go_wp2_with (first | go_skip | ((with_reducible refine at_load_ ?_); refine at_wanted_ (by rfl) ?_; refine lM 2 hM rfl rfl rfl (by first | exact HF.out | rfl) ?_) | (go_at_call 53; refine (HRD.out _ (hM.at_ 5 rfl)).mono ?_; rintro e W ⟨rfl, hb⟩; replace hM := hM.kept hb; clear hb; dsimp only) | (go_at_call 55; refine (HO2.out _ (hM.at_ 5 rfl)).mono ?_; rintro e W ⟨rfl, rfl⟩; dsimp only))
          refine bodyPost_ret (v := .tuple #[.string ⟨#[]⟩, .bool false, .int .i64 14]) (by simp [results, Try.results26, go_sem]) rfl ?_
          refine ⟨by rw [HE2.out], ?_⟩
          rw [HE2.out]
          exact ⟨cnL_of HNE.out (by rw [← HQQ.out]; exact hM), HK.out⟩
end Go.Proofs.Ytfpifahkpkjfgaa
