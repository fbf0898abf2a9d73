/- What ConnStops needs, a part: CnO. -/
import Derived.Deep.CutBlock
import Derived.Test.YtfpifahkpkjfgaaMConnStops15
import Derived.Test.YtfpifahkpkjfgaaMConnStops17
namespace Go.Proofs.Ytfpifahkpkjfgaa
open Go.RowKit Go.Lib
set_option linter.unusedVariables false
set_option linter.unusedSimpArgs false
theorem elem_Seg : (Try.prog.info? 33).map (fun i => (i.size, i.bytes, i.zero.map (·.cells.size))) = some (13, 80, some 13) := by kernel_rfl
theorem cSeg_len (s : KSeg) : (cSeg s).length = 13 := rfl
theorem one_cSeg (s : KSeg) : ∀ u ∈ cSeg s, u.oneCell' = true := by
 intro u hu
 unfold cSeg at hu
 simp only [List.mem_cons, List.not_mem_nil, or_false] at hu
 rcases hu with rfl | rfl | rfl | rfl | rfl | rfl | rfl | rfl | rfl | rfl | rfl | rfl | rfl <;> rfl
theorem apK {P : Program} {C : Code} {Q : Exit → Act → World → Prop} {K : Act → World → Prop} {a : Act} {w : World} (h : ∀ a w, Code.wp P C Q a w → K a w) (h2 : Code.wp P C Q a w) : K a w := h a w h2
def cnX (gc gi gw : Nat) (c : KCn) (k : KPt) (M : List Res) : List Res := oqA k.go c.o k.vo :: oqB c.o k.vo :: cnA gc c k :: tmR k.gt c.tm :: rsR k.vr c.rs :: M
theorem swap_mid {α : Type} (a g : α) (X M : List α) : (a :: (X ++ g :: M)).Perm (g :: (X ++ a :: M)) :=
 ((List.perm_middle).cons a).trans ((List.Perm.swap _ _ _).trans ((List.perm_middle).symm.cons g))
theorem cn_hand {E : Nat → Prop} {w0 W : World} {gc gi gw : Nat} {c : KCn} {k : KPt} {M m : List Res} (X : List Res) (h : MemX E w0 W (X ++ cnX gc gi gw c k M)) (hM : M = hL gi gw c.h ++ m) : MemX E w0 W (cnL gc gi gw c k (m ++ X)) := by
 have h2 : MemX E w0 W (cnX gc gi gw c k M ++ X) := h.perm List.perm_append_comm
 unfold cnL
 rw [← List.append_assoc, ← hM]
 exact h2
theorem cn_back {E : Nat → Prop} {w0 W : World} {gc gi gw : Nat} {c : KCn} {k : KPt} {M m : List Res} (X : List Res) (h : MemX E w0 W (cnL gc gi gw c k (m ++ X))) (hM : M = hL gi gw c.h ++ m) : MemX E w0 W (X ++ cnX gc gi gw c k M) := by
 unfold cnL at h
 rw [← List.append_assoc, ← hM] at h
 have h2 : MemX E w0 W (cnX gc gi gw c k M ++ X) := h
 exact h2.perm List.perm_append_comm
theorem COk.rs0 {c : KCn} (h : COk c) : COk { c with rs := [] } := ⟨h.ok, h.hb, h.ht, h.g1, h.g2, h.n1, h.n2, h.k1, h.k2, h.w1, h.w2, h.m1, h.m2, h.hn, h.hs⟩
set_option maxRecDepth 100000 in
set_option maxHeartbeats 8000000 in
theorem out_all {E : Nat → Prop} {w0 : World} (gc gi gw : Nat) (c : KCn) (k : KPt) (m : List Res) (w : World) (hM0 : MemX E w0 w (cnL gc gi gw c k m)) (hk : KOk k gi gw c.h) (hc : COk c) (hrn : c.rs.length ≤ 1000000000000) (hru : ∀ n ∈ c.rs, 0 ≤ n ∧ n ≤ 4294967295) :
    Calls Try.prog 15 #[.pointer (some ⟨gc, 0, none⟩)] w fun e w' => ∃ v k', e = .returned v ∧ MemX E w0 w' (rowR 13 cSeg v (cOut c).2 :: cnL gc gi gw (cOut c).1 k' m) ∧ KOk k' gi gw (cOut c).1.h := by
  obtain ⟨M, hMM⟩ : ∃ z, z = hL gi gw c.h ++ m := ⟨_, rfl⟩
  have hM := hM0
  clear hM0
  unfold cnL at hM
  rw [← hMM] at hM
  replace hM := cn_last (hM.rowNil 13 cSeg)
  have HMM := Lib.hid hMM
  have HK := Lib.hid hk
  have HCO := Lib.hid hc
  have HRU := Lib.hid hru
  clear hMM hk hc hru
  obtain ⟨Ar, cr, hvr⟩ := (hM.row (f := fU32) (rs := c.rs) 5 rfl).form
  have HVR := Lib.hid hvr
  obtain ⟨nr, hnr⟩ : ∃ z, z = c.rs.length := ⟨_, rfl⟩
  rw [← hnr] at HVR hrn
  have HNR := Lib.hid hnr
  have c28 : w.cell? ⟨gc, 28, none⟩ = some (.slice Ar nr cr) := by rw [← HVR.out]; exact hM.cells 3 rfl 28
  clear hvr hnr
  go_enter Try.func15, Try.ntmps15
  go_upto_region 3 with (fail)
  clear c28
  go_loopg [18, 3] nr (fun gh i vo wr => ∃ (j : Nat) (l : List KSeg), gh = nr - j ∧ j ≤ nr ∧ i = .int .i64 j ∧ MemX E w0 wr (rowR 13 cSeg vo l :: oqA k.go c.o k.vo :: oqB c.o k.vo :: cnA gc c k :: tmR k.gt c.tm :: rsR k.vr c.rs :: M) ∧ Hid (l = (c.rs.take j).map (cRst c)))
  case atStart => exact ⟨0, [], by omega, by omega, rfl, hM, Lib.hid (by simp)⟩
  case round =>
    clear hM
    obtain ⟨j, l, hgj, hj, rfl, hM, HLL⟩ := hrel
    have HGJ := Lib.hid hgj
    clear hgj
    have hll : l.length ≤ 1000000000000 := by rw [HLL.out, List.length_map, List.length_take]; omega
    by_cases hlt : j < nr
    · obtain ⟨x, hx⟩ : ∃ x, c.rs[j]? = some x := ⟨c.rs[j]'(by rw [← HNR.out]; exact hlt), List.getElem?_eq_getElem _⟩
      have hxb := HRU.out x (List.mem_of_getElem? hx)
      obtain ⟨hx1, hx2⟩ := hxb
      have hW : Win wr 0 1 k.vr c.rs.length (c.rs.flatMap fU32) := hM.row (f := fU32) (rs := c.rs) 5 rfl
      rw [HVR.out] at hW
      obtain ⟨gr, offr, cr', hv, -⟩ := hW.pos (by rw [← HNR.out]; omega)
      injection hv with hv1 hv3 hv2
      clear hv3
      subst hv1 hv2
      have hr0 := row_range (f := fU32) (size := 1) (fun _ => rfl) hW j x hx
      have hcell : wr.cell? ⟨gr, offr + j, none⟩ = some (.int .u32 x) := by
        have := hr0 0 _ rfl
        simpa using this
      clear hr0 hW
      go_upto_region 5 with (fail)
      clear hcell
      refine wp_region_M [3] [] hM (by kernel_rfl) ?_
      clear hM
      intro wo hM
      refine tW 0 rfl ?_
      simp only [Act.put, zA, zB, zC, zD, zE, zF]
      refine tW 1 rfl ?_
      simp only [Act.put, zA, zB, zC, zD, zE, zF]
      refine tW 2 rfl ?_
      simp only [Act.put, zA, zB, zC, zD, zE, zF]
      refine tW 3 rfl ?_
      simp only [Act.put, zA, zB, zC, zD, zE, zF]
      refine tL 4 (v := .agg #[.int .u32 c.la, .int .i64 c.lp]) rfl ⟨fun r hr => (by first | exact hM.get 3 hr | exact hM.get 4 hr), trivial⟩ (Or.inl ⟨by rfl, ?hy⟩) ?_
      case hy => (rintro W ⟨i3, -⟩; have c3 := (show At W _ _ _ from i3 _ rfl).cell; (try simp only [cnC] at c3); exact exec_loadw _ _ rfl gc 0 rfl [.int .u32 c.la, .int .i64 c.lp] _ Try.underlying29 rfl sz_End (range_sub (cs := cnC c k) c3 0 _ rfl))
      simp only [Act.put, zA, zB, zC, zD, zE, zF]
      refine tW 5 rfl ?_
      simp only [Act.put, zA, zB, zC, zD, zE, zF]
      refine tW 6 rfl ?_
      simp only [Act.put, zA, zB, zC, zD, zE, zF]
      refine tW 7 rfl ?_
      simp only [Act.put, zA, zB, zC, zD, zE, zF]
      refine tL 8 (v := .agg #[.int .u32 c.ra, .int .i64 c.rp]) rfl ⟨fun r hr => (by first | exact hM.get 3 hr | exact hM.get 4 hr), trivial⟩ (Or.inl ⟨by rfl, ?hy⟩) ?_
      case hy => (rintro W ⟨i3, -⟩; have c3 := (show At W _ _ _ from i3 _ rfl).cell; (try simp only [cnC] at c3); exact exec_loadw _ _ rfl gc 2 rfl [.int .u32 c.ra, .int .i64 c.rp] _ Try.underlying29 rfl sz_End (range_sub (cs := cnC c k) c3 2 _ rfl))
      simp only [Act.put, zA, zB, zC, zD, zE, zF]
      refine tW 9 rfl ?_
      simp only [Act.put, zA, zB, zC, zD, zE, zF]
      refine tW 10 rfl ?_
      simp only [Act.put, zA, zB, zC, zD, zE, zF]
      refine wpI_one (i := 11) rfl (by kernel_rfl) ?_
      (try simp only [Act.put, zA, zB, zC, zD, zE, zF])
      go_wp2_with (first
          | go_skip
          | ((with_reducible refine at_bslice_ ?_); refine wpList_bslice_mem rfl _ 33 _ rfl Try.underlying30 _ zv_Seg _ rfl rfl sz_Seg (Nat.le_of_ble_eq_true rfl) (Nat.le_of_ble_eq_true rfl) hM ?_; clear hM; intro gs W hM; replace hM := cn_last hM))
      refine contI_normal ⟨fun r hr => (by first | exact hM.get 3 hr | exact hM.get 4 hr), trivial⟩ ?_
      (try simp only [Act.put, zA, zB, zC, zD, zE, zF])
      refine wpI_one (i := 12) rfl (by kernel_rfl) ?_
      (try simp only [Act.put, zA, zB, zC, zD, zE, zF])
      go_wp2_with (first
          | go_skip
          | ((with_reducible refine at_append_ ?_); refine wpList_append_row (f := cSeg) (size := 13) rfl _ _ _ 33 rfl Try.underlying30 80 elem_Seg (by decide) 1 0 _ _ l (cRst c x) hM rfl rfl rfl 1 rfl rfl (one_cSeg _) (by omega) (by simp only [maxLen]; omega) ?_; clear hM; intro vN W hM; simp only [zF, zE] at hM))
      refine contI_normal ⟨fun r hr => (by first | exact hM.get 3 hr | exact hM.get 4 hr), trivial⟩ ?_
      (try simp only [Act.put, zA, zB, zC, zD, zE, zF])
      refine tW 13 rfl ?_
      simp only [Act.put, zA, zB, zC, zD, zE, zF]
      refine wpI_done (by kernel_rfl) ?_ _
      (try simp only [Act.put, zA, zB, zC, zD, zE, zF])
      have HL2 := Lib.hid (show l ++ [cRst c x] = (c.rs.take (j + 1)).map (cRst c) from by rw [List.take_add_one, hx, List.map_append, HLL.out]; rfl)
      have hM2 : MemX E w0 W ([_] ++ (rowR 13 cSeg vN (l ++ [cRst c x]) :: oqA k.go c.o k.vo :: oqB c.o k.vo :: cnA gc c k :: tmR k.gt c.tm :: rsR k.vr c.rs :: M)) := hM
      have hM3 := hM2.drop_
      clear hM hM2
      go_wp2_with fail
      go_roundg (nr - (j + 1))
      case measure => have := HGJ.out; omega
      case rel => exact ⟨j + 1, l ++ [cRst c x], rfl, by omega, by go_num, hM3, HL2⟩
    · obtain rfl : nr = j := by omega
      have hl0 : l = c.rs.map (cRst c) := by rw [HLL.out, HNR.out, List.take_length]
      have HL0 := Lib.hid hl0
      clear hl0 HLL HGJ HRU hlt hj
      obtain ⟨c0, hc0⟩ : ∃ z : KCn, z = { c with rs := [] } := ⟨_, rfl⟩
      obtain ⟨k0, hk0⟩ : ∃ z : KPt, z = { k with vr := .slice none 0 0 } := ⟨_, rfl⟩
      have HC0 := Lib.hid (show COk c0 from by rw [hc0]; exact HCO.out.rs0)
      have HKO := Lib.hid (show KOk k0 gi gw c0.h from by
        have h1 := HK.out
        rw [hc0, hk0]
        show KOk { k with vr := .slice none 0 0 } gi gw c.h
        cases hh : c.h with
        | none => rw [hh] at h1; exact h1
        | some x => rw [hh] at h1; exact h1)
      have HM0 := Lib.hid (show M = hL gi gw c0.h ++ m from by rw [hc0]; exact HMM.out)
      have HOUT := Lib.hid (show cOut c = if c.st = 0 then (c0, l) else cTail (cLoop 2100 c0 (cLimit c0) (cFirstL c0 l)) l.length from by
        unfold cOut
        simp only
        rw [← hc0, ← HL0.out])
      go_upto_region 8 with (first | go_skip | ((with_reducible refine at_store_ ?_); first | (refine sM 3 hM rfl rfl rfl ?_; clear hM; intro W hM; simp only [zF, zE, cnA, cn4, cn5, cn7, cn9, cn11, cn12, cn13, cn14, cn16, cn17, cn18, cn19, cn20, cn21, cn22, cn23, cn24, cn25, cn26, cn27, cn28] at hM)))
      have hM2 := cn_last (hM.rowNil 1 fU32)
      have hM3 := hM2.perm (swap_mid (rowR 1 fU32 (.slice none 0 0) []) (rsR k.vr c.rs) [rowR 13 cSeg u3 l, oqA k.go c.o k.vo, oqB c.o k.vo, cnA gc c { k with vr := .slice none 0 0 }, tmR k.gt c.tm] M)
      have hM4 := (show MemX E w0 _ ([_] ++ (rowR 13 cSeg u3 l :: cnX gc gi gw { c with rs := [] } { k with vr := .slice none 0 0 } M)) from hM3).drop_
      rw [← hc0, ← hk0] at hM4
      have hst : c0.st = c.st := by rw [hc0]
      clear hM hM2 hM3
      have hM := hM4
      clear hM4 hc0 hk0 HVR HK HCO HMM
      by_cases h0 : c.st = 0
      · have t0 : (c0.st == 0) = true := by rw [hst]; simpa using h0
        have HO := Lib.hid (show cOut c = (c0, l) from by rw [HOUT.out, if_pos h0])
        clear HOUT h0 hst
        go_wp2_with (first | go_skip | ((with_reducible refine at_load_ ?_); refine at_wanted_ (by rfl) ?_; first | (refine lM 3 hM rfl rfl rfl rfl ?_)))
        refine bodyPost_ret (v := u3) (by simp [results, Try.results15, go_sem]) rfl ?_
        rw [HO.out]
        have hM2 : MemX E w0 W (rowR 13 cSeg u3 l :: cnL gc gi gw c0 k0 m) := by
          unfold cnL
          rw [← HM0.out]; exact hM
        exact ⟨u3, k0, rfl, hM2, HKO.out⟩
      have t0 : (c0.st == 0) = false := by rw [hst]; simpa using h0
      have HO := Lib.hid (show cOut c = cTail (cLoop 2100 c0 (cLimit c0) (cFirstL c0 l)) l.length from by rw [HOUT.out, if_neg h0])
      obtain ⟨n0, hn0⟩ : ∃ z, z = l.length := ⟨_, rfl⟩
      obtain ⟨Ao, co, hvo⟩ := (hM.row (f := cSeg) (rs := l) 0 rfl).form
      rw [← hn0] at hvo HO
      subst hvo
      have HN0 := Lib.hid hn0
      clear HOUT h0 hst hn0
      have c4 : W.cell? ⟨gc, 4, none⟩ = some (.int .i64 c0.st) := hM.cells 3 rfl 4
      go_upto_region 11 with (fail)
      clear c4
      replace hM : MemX E w0 W ([rowR 13 cSeg (.slice Ao n0 co) l] ++ cnX gc gi gw c0 k0 M) := hM
      obtain ⟨ag, hag⟩ : ∃ z, z = c0.again := ⟨_, rfl⟩
      go_cut [50] (fun v W => v = .bool ag ∧ MemX E w0 W ([rowR 13 cSeg (.slice Ao n0 co) l] ++ cnX gc gi gw c0 k0 M))
      case first =>
        have HAG := Lib.hid hag
        clear hag
        go_wp2_with (first | go_skip | ((with_reducible refine at_load_ ?_); refine at_wanted_ (by rfl) ?_; first | (refine lM 3 hM rfl rfl rfl rfl ?_)))
        go_meet
        case rel => exact ⟨by rw [HAG.out], hM⟩
      case rest =>
        clear hM
        obtain ⟨rfl, hM⟩ := hcut
        obtain ⟨lf, hlf⟩ : ∃ z, z = cFirstL c0 l := ⟨_, rfl⟩
        rw [← hlf] at HO
        apply apK
        · assumption
        go_cut [3] (fun v3 W => ∃ (A3 : Option Addr) (n3 q3 : Nat), v3 = .slice A3 n3 q3 ∧ MemX E w0 W ([rowR 13 cSeg (.slice A3 n3 q3) lf] ++ cnX gc gi gw c0 k0 M) ∧ Hid (n3 = lf.length ∧ lf.length ≤ l.length + 1))
        case first =>
          cases ag with
          | false =>
            have h1 : lf = l := by rw [hlf]; unfold cFirstL; rw [if_neg (by rw [← hag]; rintro ⟨h, -⟩; cases h)]
            have H1 := Lib.hid h1
            clear h1 hlf hag
            go_wp2_with fail
            go_meet
            case rel => exact ⟨Ao, n0, co, rfl, by rw [H1.out]; exact hM, Lib.hid ⟨by rw [H1.out]; exact HN0.out, by rw [H1.out]; omega⟩⟩
          | true =>
            obtain ⟨p, hp⟩ : ∃ z, z = qPiece c0.o c0.o.una c0.o.sent c0.mss := ⟨_, rfl⟩
            obtain ⟨is, his⟩ : ∃ z, z = oIs c0.o c0.o.una c0.o.sent c0.mss := ⟨_, rfl⟩
            have h1 : lf = if is = true then l ++ [cSegm c0 p] else l := by
              rw [hlf]
              unfold cFirstL
              rw [← hag, ← hp, ← his]
              cases is <;> simp
            have H1 := Lib.hid h1
            have hmb : -9223372036854775808 ≤ c0.mss ∧ c0.mss ≤ 9223372036854775807 := by have := HC0.out.m1; have := HC0.out.m2; omega
            have hbb : c0.o.base ≤ 4611686018427387904 := by have := HC0.out.hb; omega
            have HFS := Lib.hid (fun (W : World) (X : List Res) (h : MemX E w0 W (X ++ cnX gc gi gw c0 k0 M)) => (by
              have h2 : MemX E w0 W (oqA k0.go c0.o k0.vo :: oqB c0.o k0.vo :: (cnA gc c0 k0 :: tmR k0.gt c0.tm :: rsR k0.vr c0.rs :: M ++ X)) := h.perm List.perm_append_comm
              refine (oFirst_any k0.go c0.o k0.vo c0.mss W (cq_hand h2) HC0.out.ok hbb hmb).mono ?_
              rintro e w' ⟨rfl, hb⟩
              rw [hp, his]
              exact ⟨rfl, h.kept hb⟩ : Calls Try.prog 36 #[.pointer (some ⟨k0.go, 0, none⟩), .int .i64 c0.mss] W fun e w' => e = .returned (.tuple #[.agg (cPiece p).toArray, .bool is]) ∧ MemX E w0 w' (X ++ cnX gc gi gw c0 k0 M)))
            clear hlf hag hp his h1 hmb hbb
            go_upto_region 12 with (fail)
            go_cut [7, 8] (fun v7 v8 W => ∃ gp : Nat, v7 = .pointer (some ⟨gp, 0, none⟩) ∧ v8 = .bool is ∧ MemX E w0 W ([atR gp 87 (cPiece p), rowR 13 cSeg (.slice Ao n0 co) l] ++ cnX gc gi gw c0 k0 M))
            case first =>
              refine wp_region_M [3] [13] hM (by kernel_rfl) ?_
              clear hM
              intro wo hM
              refine tW 0 rfl ?_
              simp only [Act.put, zA, zB, zC, zD, zE, zF]
              refine tW 1 rfl ?_
              simp only [Act.put, zA, zB, zC, zD, zE, zF]
              refine tW 2 rfl ?_
              simp only [Act.put, zA, zB, zC, zD, zE, zF]
              refine tL 3 (v := ?_) rfl ⟨fun r hr => (by first | exact hM.get 3 hr | exact hM.get 4 hr), trivial⟩ (Or.inl ⟨by rfl, ?hy⟩) ?_
              case hy => (rintro W ⟨i3, -⟩; have c3 := (show At W _ _ _ from i3 _ rfl).cell; (try simp only [cnC] at c3); go_simp; (try with_reducible rfl))
              simp only [Act.put, zA, zB, zC, zD, zE, zF]
              refine tW 4 rfl ?_
              simp only [Act.put, zA, zB, zC, zD, zE, zF]
              refine tW 5 rfl ?_
              simp only [Act.put, zA, zB, zC, zD, zE, zF]
              refine tW 6 rfl ?_
              simp only [Act.put, zA, zB, zC, zD, zE, zF]
              refine tL 7 (v := ?_) rfl ⟨fun r hr => (by first | exact hM.get 3 hr | exact hM.get 4 hr), trivial⟩ (Or.inl ⟨by rfl, ?hy⟩) ?_
              case hy => (rintro W ⟨i3, -⟩; have c3 := (show At W _ _ _ from i3 _ rfl).cell; (try simp only [cnC] at c3); go_simp; (try with_reducible rfl))
              simp only [Act.put, zA, zB, zC, zD, zE, zF]
              refine wpI_two (i := 8) (j := 12) rfl rfl (by kernel_rfl) ?_ ?_
              · (try simp only [Act.put, zA, zB, zC, zD, zE, zF])
                go_wp2_with (first
                    | go_skip
                    | (go_at_call 36; ((first | (refine (HFS.out _ [_] hM).mono ?_) | (refine (HFS.out _ [_, _] hM).mono ?_)); clear hM; rintro e W ⟨rfl, hM⟩; dsimp only)))
                refine contI_normal ⟨fun r hr => (by first | exact hM.get 3 hr | exact hM.get 4 hr), trivial⟩ ?_
                (try simp only [Act.put, zA, zB, zC, zD, zE, zF])
                refine tW 9 rfl ?_
                simp only [Act.put, zA, zB, zC, zD, zE, zF]
                refine tW 10 rfl ?_
                simp only [Act.put, zA, zB, zC, zD, zE, zF]
                refine tW 11 rfl ?_
                simp only [Act.put, zA, zB, zC, zD, zE, zF]
                refine wpI_one (i := 12) rfl (by kernel_rfl) ?_
                (try simp only [Act.put, zA, zB, zC, zD, zE, zF])
                go_wp2_with (first
                    | go_skip
                    | ((with_reducible refine at_alloc_ (T := 87) ?_); refine wpList_alloc_mem rfl 87 rfl _ zv_Piece _ rfl hM ?_; clear hM; intro gp W hM; replace hM := cn_last hM))
                refine contI_normal ⟨fun r hr => (by first | exact hM.get 3 hr | exact hM.get 4 hr), trivial⟩ ?_
                (try simp only [Act.put, zA, zB, zC, zD, zE, zF])
                refine wpI_one (i := 13) rfl (by kernel_rfl) ?_
                (try simp only [Act.put, zA, zB, zC, zD, zE, zF])
                go_wp2_with (first
                    | go_skip
                    | ((with_reducible refine at_store_ (T := 87) ?_); refine wpList_store_mem rfl 87 _ _ rfl 0 _ _ _ (cPiece p) hM rfl rfl rfl rfl sz_Piece rfl ?_; clear hM; intro W hM; simp only [List.cons_append, zE] at hM))
                refine contI_late (by decide) ?_
                (try simp only [Act.put, zA, zB, zC, zD, zE, zF])
                refine tW 14 rfl ?_
                simp only [Act.put, zA, zB, zC, zD, zE, zF]
                refine wpI_done (by kernel_rfl) ?_ _
                (try simp only [Act.put, zA, zB, zC, zD, zE, zF])
                (go_wp2_with fail; go_meet; case rel => exact ⟨gp, rfl, rfl, hM⟩)
              · (try simp only [Act.put, zA, zB, zC, zD, zE, zF])
                go_wp2_with (first
                    | go_skip
                    | ((with_reducible refine at_alloc_ (T := 87) ?_); refine wpList_alloc_mem rfl 87 rfl _ zv_Piece _ rfl hM ?_; clear hM; intro gp W hM; replace hM := cn_last hM))
                refine contI_normal ⟨fun r hr => (by first | exact hM.get 3 hr | exact hM.get 4 hr), trivial⟩ ?_
                (try simp only [Act.put, zA, zB, zC, zD, zE, zF])
                refine wpI_one (i := 8) rfl (by kernel_rfl) ?_
                (try simp only [Act.put, zA, zB, zC, zD, zE, zF])
                go_wp2_with (first
                    | go_skip
                    | (go_at_call 36; ((first | (refine (HFS.out _ [_] hM).mono ?_) | (refine (HFS.out _ [_, _] hM).mono ?_)); clear hM; rintro e W ⟨rfl, hM⟩; dsimp only)))
                refine contI_normal ⟨fun r hr => (by first | exact hM.get 3 hr | exact hM.get 4 hr), trivial⟩ ?_
                (try simp only [Act.put, zA, zB, zC, zD, zE, zF])
                refine tW 9 rfl ?_
                simp only [Act.put, zA, zB, zC, zD, zE, zF]
                refine tW 10 rfl ?_
                simp only [Act.put, zA, zB, zC, zD, zE, zF]
                refine tW 11 rfl ?_
                simp only [Act.put, zA, zB, zC, zD, zE, zF]
                refine wpI_one (i := 13) rfl (by kernel_rfl) ?_
                (try simp only [Act.put, zA, zB, zC, zD, zE, zF])
                go_wp2_with (first
                    | go_skip
                    | ((with_reducible refine at_store_ (T := 87) ?_); refine wpList_store_mem rfl 87 _ _ rfl 0 _ _ _ (cPiece p) hM rfl rfl rfl rfl sz_Piece rfl ?_; clear hM; intro W hM; simp only [List.cons_append, zE] at hM))
                refine contI_late (by decide) ?_
                (try simp only [Act.put, zA, zB, zC, zD, zE, zF])
                refine tW 14 rfl ?_
                simp only [Act.put, zA, zB, zC, zD, zE, zF]
                refine wpI_done (by kernel_rfl) ?_ _
                (try simp only [Act.put, zA, zB, zC, zD, zE, zF])
                (go_wp2_with fail; go_meet; case rel => exact ⟨gp, rfl, rfl, hM⟩)
            case rest =>
              clear hM HFS
              obtain ⟨gp, rfl, rfl, hM⟩ := hcut
              cases is with
              | false =>
                have hM2 : MemX E w0 _ ([_] ++ ([rowR 13 cSeg (.slice Ao n0 co) l] ++ cnX gc gi gw c0 k0 M)) := hM
                have hM3 := hM2.drop_
                clear hM hM2
                have h2 : lf = l := H1.out
                have H2 := Lib.hid h2
                clear h2
                go_wp2_with fail
                go_meet
                case rel => exact ⟨Ao, n0, co, rfl, by rw [H2.out]; exact hM3, Lib.hid ⟨by rw [H2.out]; exact HN0.out, by rw [H2.out]; omega⟩⟩
              | true =>
                obtain ⟨sf, hsf⟩ : ∃ z, z = cSegm c0 p := ⟨_, rfl⟩
                have h2 : lf = l ++ [sf] := by rw [hsf]; exact H1.out
                have H2 := Lib.hid h2
                have HSG := Lib.hid (fun (W : World) (X : List Res) (h : MemX E w0 W (X ++ cnX gc gi gw c0 k0 M)) => (by
                  refine (segment_all gc gi gw c0 k0 (m ++ X) W p (cn_hand X h HM0.out) HKO.out HC0.out).mono ?_
                  rintro e w' ⟨rfl, h3⟩
                  rw [← hsf]
                  exact ⟨rfl, cn_back X h3 HM0.out⟩ : Calls Try.prog 37 #[.pointer (some ⟨gc, 0, none⟩), .agg (cPiece p).toArray] W fun e w' => e = .returned (.agg (cSeg sf).toArray) ∧ MemX E w0 w' (X ++ cnX gc gi gw c0 k0 M)))
                clear h2 hsf H1
                have hll : l.length ≤ 1000000000000 := by rw [HL0.out, List.length_map]; rw [← HNR.out]; exact hrn
                go_wp2_with (first
                  | go_skip
                  | ((with_reducible refine at_load_ (T := 87) ?_); refine wpList_loadg_mem (by go_simp) 87 _ rfl 0 _ _ (cPiece p) hM rfl rfl _ Try.underlying87 rfl sz_Piece ?_)
                  | (go_at_call 37; refine (HSG.out _ [_, _] hM).mono ?_; clear hM; rintro e W ⟨rfl, hM⟩; dsimp only)
                  | ((with_reducible refine at_bslice_ ?_); refine wpList_bslice_mem rfl _ 33 _ rfl Try.underlying30 _ zv_Seg _ rfl rfl sz_Seg (Nat.le_of_ble_eq_true rfl) (Nat.le_of_ble_eq_true rfl) hM ?_; clear hM; intro gs W hM; replace hM := cn_last hM)
                  | ((with_reducible refine at_append_ ?_); refine wpList_append_row (f := cSeg) (size := 13) rfl _ _ _ 33 rfl Try.underlying30 80 elem_Seg (by decide) 2 0 _ _ l sf hM rfl rfl rfl 1 rfl rfl (one_cSeg _) (by omega) (by simp only [maxLen]; omega) ?_; clear hM; intro vN W hM; simp only [zF, zE] at hM))
                have hM2 : MemX E w0 W ([_] ++ (atR gp 87 (cPiece p) :: rowR 13 cSeg vN (l ++ [sf]) :: cnX gc gi gw c0 k0 M)) := hM
                have hM3 : MemX E w0 W ([_] ++ (rowR 13 cSeg vN (l ++ [sf]) :: cnX gc gi gw c0 k0 M)) := hM2.drop_
                have hM4 := hM3.drop_
                clear hM hM2 hM3
                obtain ⟨A3, q3, hv3⟩ := (hM4.row (f := cSeg) (rs := l ++ [sf]) 0 rfl).form
                rw [← H2.out] at hv3 hM4
                subst hv3
                go_meet
                case rel => exact ⟨A3, lf.length, q3, rfl, hM4, Lib.hid ⟨rfl, by rw [H2.out, List.length_append]; simp⟩⟩
        case rest =>
          clear hM hlf hag
          obtain ⟨A3, n3, q3, rfl, hM, HLF⟩ := hcut
          obtain ⟨lim, hlim⟩ : ∃ z, z = cLimit c0 := ⟨_, rfl⟩
          have HLM := Lib.hid (fun (W : World) (X : List Res) (h : MemX E w0 W (cnL gc gi gw c0 k0 (m ++ X))) => (by rw [hlim]; exact limit_all gc gi gw c0 k0 (m ++ X) W h HKO.out HC0.out : Calls Try.prog 38 #[.pointer (some ⟨gc, 0, none⟩)] W fun e w' => e = .returned (.int .i64 lim) ∧ MemX E w0 w' (cnL gc gi gw c0 k0 (m ++ X))))
          rw [← hlim] at HO
          have HLI := Lib.hid hlim
          clear hlim
          go_upto_region 15 with (fail)
          go_upto_region 16 with (first | go_skip | (go_at_call 38; refine (HLM.out _ _ (cn_hand [_] hM HM0.out)).mono ?_; rintro e W ⟨rfl, hM6⟩; replace hM := cn_back [_] hM6 HM0.out; clear hM6; dsimp only))
          have hlb : 0 ≤ lim ∧ lim ≤ 1152921504607000000 := by rw [HLI.out]; exact cLimit_bd HC0.out
          obtain ⟨hlb1, hlb2⟩ := hlb
          have hll : l.length ≤ 1000000000000 := by rw [HL0.out, List.length_map]; rw [← HNR.out]; exact hrn
          have hlf := cLeft_bd HC0.out
          go_loopg [3] (cLeft c0) (fun gh vo wr => ∃ (c1 : KCn) (l1 : List KSeg) (f n1 q1 : Nat) (A1 : Option Addr), gh = cLeft c1 ∧ vo = .slice A1 n1 q1 ∧ MemX E w0 wr ([rowR 13 cSeg (.slice A1 n1 q1) l1] ++ cnX gc gi gw c1 k0 M) ∧ Hid (COk c1 ∧ c1.h = c0.h ∧ n1 = l1.length ∧ cLeft c1 ≤ f ∧ l1.length + cLeft c1 ≤ lf.length + cLeft c0 ∧ cLoop f c1 lim l1 = cLoop 2100 c0 lim lf))
          case atStart => exact ⟨c0, lf, 2100, n3, q3, A3, rfl, rfl, hM, Lib.hid ⟨HC0.out, rfl, HLF.out.1, by omega, by omega, rfl⟩⟩
          case round =>
            clear hM HLM
            obtain ⟨c1, l1, f, n1, q1, A1, hgh, rfl, hM, HR⟩ := hrel
            have HGH := Lib.hid hgh
            clear hgh
            have hl1 : l1.length ≤ 1000000003000 := by have := HR.out.2.2.2.2.1; have := HLF.out.2; omega
            have HC1 := Lib.hid HR.out.1
            have HM1 := Lib.hid (show M = hL gi gw c1.h ++ m from by rw [HR.out.2.1]; exact HM0.out)
            have HK1 := Lib.hid (show KOk k0 gi gw c1.h from by rw [HR.out.2.1]; exact HKO.out)
            obtain ⟨p, hp⟩ : ∃ z, z = cPc c1 lim := ⟨_, rfl⟩
            obtain ⟨is, his⟩ : ∃ z, z = cIsP c1 lim := ⟨_, rfl⟩
            obtain ⟨c2, hc2⟩ : ∃ z : KCn, z = { c1 with o := oNext c1.o lim c1.mss } := ⟨_, rfl⟩
            have hmb : -9223372036854775808 ≤ c1.mss ∧ c1.mss ≤ 9223372036854775807 := by have := HC1.out.m1; have := HC1.out.m2; omega
            have hbb : c1.o.base ≤ 4611686018427387904 := by have := HC1.out.hb; omega
            have HNX := Lib.hid (fun (W : World) (X : List Res) (h : MemX E w0 W (X ++ cnX gc gi gw c1 k0 M)) => (by
              have h2 : MemX E w0 W (oqA k0.go c1.o k0.vo :: oqB c1.o k0.vo :: (cnA gc c1 k0 :: tmR k0.gt c1.tm :: rsR k0.vr c1.rs :: M ++ X)) := h.perm List.perm_append_comm
              refine (oNext_any k0.go c1.o k0.vo lim c1.mss W (cq_hand h2) HC1.out.ok hbb ⟨by omega, by omega⟩ hmb).mono ?_
              rintro e w' ⟨rfl, h3⟩
              have h4 := cq_put h2 h3
              have h5 : MemX E w0 w' (cnX gc gi gw { c1 with o := oNext c1.o lim c1.mss } k0 M ++ X) := h4
              rw [hp, his]
              exact ⟨rfl, h5.perm List.perm_append_comm⟩ : Calls Try.prog 40 #[.pointer (some ⟨k0.go, 0, none⟩), .int .i64 lim, .int .i64 c1.mss] W fun e w' => e = .returned (.tuple #[.agg (cPiece p).toArray, .bool is]) ∧ MemX E w0 w' (X ++ cnX gc gi gw { c1 with o := oNext c1.o lim c1.mss } k0 M)))
            have HSN := Lib.hid (fun (W : World) (h : OAt W k0.go c1.o k0.vo) => Sent_any k0.go c1.o k0.vo W h)
            have HP := Lib.hid hp
            have HIS := Lib.hid his
            have HC2 := Lib.hid hc2
            clear hp his hc2 hmb hbb
            go_upto_region 17 with (first | go_skip | ((with_reducible refine at_load_ ?_); refine at_wanted_ (by rfl) ?_; first | (refine lM 3 hM rfl rfl rfl rfl ?_)) | (go_at_call 39; refine (HSN.out _ (hM.at_ 1 rfl)).mono ?_; rintro e W ⟨rfl, rfl⟩; dsimp only))
            go_cut [11, 12] (fun v11 v12 W => ∃ gp : Nat, v11 = .pointer (some ⟨gp, 0, none⟩) ∧ v12 = .bool is ∧ MemX E w0 W ([atR gp 87 (cPiece p), rowR 13 cSeg (.slice A1 n1 q1) l1] ++ cnX gc gi gw c2 k0 M))
            case first =>
              refine wp_region_M [3] [14] hM (by kernel_rfl) ?_
              clear hM
              intro wo hM
              refine tW 0 rfl ?_
              simp only [Act.put, zA, zB, zC, zD, zE, zF]
              refine tW 1 rfl ?_
              simp only [Act.put, zA, zB, zC, zD, zE, zF]
              refine tW 2 rfl ?_
              simp only [Act.put, zA, zB, zC, zD, zE, zF]
              refine tL 3 (v := ?_) rfl ⟨fun r hr => (by first | exact hM.get 3 hr | exact hM.get 4 hr), trivial⟩ (Or.inl ⟨by rfl, ?hy⟩) ?_
              case hy => (rintro W ⟨i3, -⟩; have c3 := (show At W _ _ _ from i3 _ rfl).cell; (try simp only [cnC] at c3); go_simp; (try with_reducible rfl))
              simp only [Act.put, zA, zB, zC, zD, zE, zF]
              refine tW 4 rfl ?_
              simp only [Act.put, zA, zB, zC, zD, zE, zF]
              refine tW 5 rfl ?_
              simp only [Act.put, zA, zB, zC, zD, zE, zF]
              refine tW 6 rfl ?_
              simp only [Act.put, zA, zB, zC, zD, zE, zF]
              refine tW 7 rfl ?_
              simp only [Act.put, zA, zB, zC, zD, zE, zF]
              refine tL 8 (v := ?_) rfl ⟨fun r hr => (by first | exact hM.get 3 hr | exact hM.get 4 hr), trivial⟩ (Or.inl ⟨by rfl, ?hy⟩) ?_
              case hy => (rintro W ⟨i3, -⟩; have c3 := (show At W _ _ _ from i3 _ rfl).cell; (try simp only [cnC] at c3); go_simp; (try with_reducible rfl))
              simp only [Act.put, zA, zB, zC, zD, zE, zF]
              refine wpI_two (i := 9) (j := 13) rfl rfl (by kernel_rfl) ?_ ?_
              · (try simp only [Act.put, zA, zB, zC, zD, zE, zF])
                go_wp2_with (first
                    | go_skip
                    | (go_at_call 40; ((first | (refine (HNX.out _ [_] hM).mono ?_) | (refine (HNX.out _ [_, _] hM).mono ?_)); clear hM; rintro e W ⟨rfl, hM⟩; dsimp only)))
                refine contI_normal ⟨fun r hr => (by first | exact hM.get 3 hr | exact hM.get 4 hr), trivial⟩ ?_
                (try simp only [Act.put, zA, zB, zC, zD, zE, zF])
                refine tW 10 rfl ?_
                simp only [Act.put, zA, zB, zC, zD, zE, zF]
                refine tW 11 rfl ?_
                simp only [Act.put, zA, zB, zC, zD, zE, zF]
                refine tW 12 rfl ?_
                simp only [Act.put, zA, zB, zC, zD, zE, zF]
                refine wpI_one (i := 13) rfl (by kernel_rfl) ?_
                (try simp only [Act.put, zA, zB, zC, zD, zE, zF])
                go_wp2_with (first
                    | go_skip
                    | ((with_reducible refine at_alloc_ (T := 87) ?_); refine wpList_alloc_mem rfl 87 rfl _ zv_Piece _ rfl hM ?_; clear hM; intro gp W hM; replace hM := cn_last hM))
                refine contI_normal ⟨fun r hr => (by first | exact hM.get 3 hr | exact hM.get 4 hr), trivial⟩ ?_
                (try simp only [Act.put, zA, zB, zC, zD, zE, zF])
                refine wpI_one (i := 14) rfl (by kernel_rfl) ?_
                (try simp only [Act.put, zA, zB, zC, zD, zE, zF])
                go_wp2_with (first
                    | go_skip
                    | ((with_reducible refine at_store_ (T := 87) ?_); refine wpList_store_mem rfl 87 _ _ rfl 0 _ _ _ (cPiece p) hM rfl rfl rfl rfl sz_Piece rfl ?_; clear hM; intro W hM; simp only [List.cons_append, zE] at hM))
                refine contI_late (by decide) ?_
                (try simp only [Act.put, zA, zB, zC, zD, zE, zF])
                refine tW 15 rfl ?_
                simp only [Act.put, zA, zB, zC, zD, zE, zF]
                refine wpI_done (by kernel_rfl) ?_ _
                (try simp only [Act.put, zA, zB, zC, zD, zE, zF])
                (go_wp2_with fail; go_meet; case rel => exact ⟨gp, rfl, rfl, by rw [HC2.out]; exact hM⟩)
              · (try simp only [Act.put, zA, zB, zC, zD, zE, zF])
                go_wp2_with (first
                    | go_skip
                    | ((with_reducible refine at_alloc_ (T := 87) ?_); refine wpList_alloc_mem rfl 87 rfl _ zv_Piece _ rfl hM ?_; clear hM; intro gp W hM; replace hM := cn_last hM))
                refine contI_normal ⟨fun r hr => (by first | exact hM.get 3 hr | exact hM.get 4 hr), trivial⟩ ?_
                (try simp only [Act.put, zA, zB, zC, zD, zE, zF])
                refine wpI_one (i := 9) rfl (by kernel_rfl) ?_
                (try simp only [Act.put, zA, zB, zC, zD, zE, zF])
                go_wp2_with (first
                    | go_skip
                    | (go_at_call 40; ((first | (refine (HNX.out _ [_] hM).mono ?_) | (refine (HNX.out _ [_, _] hM).mono ?_)); clear hM; rintro e W ⟨rfl, hM⟩; dsimp only)))
                refine contI_normal ⟨fun r hr => (by first | exact hM.get 3 hr | exact hM.get 4 hr), trivial⟩ ?_
                (try simp only [Act.put, zA, zB, zC, zD, zE, zF])
                refine tW 10 rfl ?_
                simp only [Act.put, zA, zB, zC, zD, zE, zF]
                refine tW 11 rfl ?_
                simp only [Act.put, zA, zB, zC, zD, zE, zF]
                refine tW 12 rfl ?_
                simp only [Act.put, zA, zB, zC, zD, zE, zF]
                refine wpI_one (i := 14) rfl (by kernel_rfl) ?_
                (try simp only [Act.put, zA, zB, zC, zD, zE, zF])
                go_wp2_with (first
                    | go_skip
                    | ((with_reducible refine at_store_ (T := 87) ?_); refine wpList_store_mem rfl 87 _ _ rfl 0 _ _ _ (cPiece p) hM rfl rfl rfl rfl sz_Piece rfl ?_; clear hM; intro W hM; simp only [List.cons_append, zE] at hM))
                refine contI_late (by decide) ?_
                (try simp only [Act.put, zA, zB, zC, zD, zE, zF])
                refine tW 15 rfl ?_
                simp only [Act.put, zA, zB, zC, zD, zE, zF]
                refine wpI_done (by kernel_rfl) ?_ _
                (try simp only [Act.put, zA, zB, zC, zD, zE, zF])
                (go_wp2_with fail; go_meet; case rel => exact ⟨gp, rfl, rfl, by rw [HC2.out]; exact hM⟩)
            case rest =>
              clear hM HNX HSN
              obtain ⟨gp, rfl, rfl, hM⟩ := hcut
              cases is with
              | false =>
                have h12 : c2 = c1 := by rw [HC2.out, next_not HC1.out.ok lim c1.mss HIS.out.symm]
                have HFI := Lib.hid (show cOut c = cTail (c1, l1) n0 from by rw [HO.out, ← HR.out.2.2.2.2.2, cLoop_stop f HIS.out.symm])
                have hM2 : MemX E w0 wc ([atR gp 87 (cPiece p)] ++ (rowR 13 cSeg (.slice A1 n1 q1) l1 :: oqA k0.go c1.o k0.vo :: oqB c1.o k0.vo :: cnA gc c1 k0 :: tmR k0.gt c1.tm :: rsR k0.vr c1.rs :: M)) := by rw [h12] at hM; exact hM
                have hM3 := hM2.drop_
                clear hM hM2
                have hM := hM3
                clear hM3 h12 HC2 HP HIS
                have HSN := Lib.hid (fun (W : World) (h : OAt W k0.go c1.o k0.vo) => Sent_any k0.go c1.o k0.vo W h)
                obtain ⟨ow, how⟩ : ∃ z, z = decide (c1.owed = true ∧ n1 = n0) := ⟨_, rfl⟩
                go_upto_region 22 with (fail)
                go_cut [133] (fun v W => v = .bool ow ∧ MemX E w0 W (rowR 13 cSeg (.slice A1 n1 q1) l1 :: oqA k0.go c1.o k0.vo :: oqB c1.o k0.vo :: cnA gc c1 k0 :: tmR k0.gt c1.tm :: rsR k0.vr c1.rs :: M))
                case first =>
                  by_cases ha : c1.owed = true
                  · by_cases hm : n1 = n0
                    · have tn : ((n1 : Int) == (n0 : Int)) = true := by simp only [beq_iff_eq]; omega
                      obtain rfl : ow = true := by rw [how]; exact decide_eq_true ⟨ha, hm⟩
                      clear how hm
                      go_wp2_with (first | go_skip | ((with_reducible refine at_load_ ?_); refine at_wanted_ (by rfl) ?_; first | (refine lM 3 hM rfl rfl rfl rfl ?_)))
                      go_meet
                      case rel => exact ⟨rfl, hM⟩
                    · have tn : ((n1 : Int) == (n0 : Int)) = false := by simp only [beq_eq_false_iff_ne]; omega
                      obtain rfl : ow = false := by rw [how]; exact decide_eq_false (fun h => hm h.2)
                      clear how hm
                      go_wp2_with (first | go_skip | ((with_reducible refine at_load_ ?_); refine at_wanted_ (by rfl) ?_; first | (refine lM 3 hM rfl rfl rfl rfl ?_)))
                      go_meet
                      case rel => exact ⟨rfl, hM⟩
                  · have ta : c1.owed = false := by simpa using ha
                    obtain rfl : ow = false := by rw [how]; exact decide_eq_false (fun h => ha h.1)
                    clear how ha
                    go_wp2_with (first | go_skip | ((with_reducible refine at_load_ ?_); refine at_wanted_ (by rfl) ?_; first | (refine lM 3 hM rfl rfl rfl rfl ?_)))
                    go_meet
                    case rel => exact ⟨rfl, hM⟩
                case rest =>
                  clear hM
                  obtain ⟨rfl, hM⟩ := hcut
                  obtain ⟨sb, hsb⟩ : ∃ z, z = cBare c1 c1.o.sent := ⟨_, rfl⟩
                  have HBR := Lib.hid (fun (W : World) (X : List Res) (h : MemX E w0 W (X ++ cnX gc gi gw c1 k0 M)) => (by
                    refine (bare_all gc gi gw c1 k0 (m ++ X) W c1.o.sent (cn_hand X h HM1.out) HK1.out HC1.out).mono ?_
                    rintro e w' ⟨rfl, h3⟩
                    rw [← hsb]
                    exact ⟨rfl, cn_back X h3 HM1.out⟩ : Calls Try.prog 42 #[.pointer (some ⟨gc, 0, none⟩), .int .i64 c1.o.sent] W fun e w' => e = .returned (.agg (cSeg sb).toArray) ∧ MemX E w0 w' (X ++ cnX gc gi gw c1 k0 M)))
                  obtain ⟨l3, hl3⟩ : ∃ z, z = if c1.owed = true ∧ l1.length = n0 then l1 ++ [sb] else l1 := ⟨_, rfl⟩
                  obtain ⟨n3, hn3⟩ : ∃ z, z = l3.length := ⟨_, rfl⟩
                  have hn1 := HR.out.2.2.1
                  have hx : c1.owed = false ∨ (c1.owed = true ∧ n3 ≠ n0) := by
                    by_cases ha : c1.owed = true
                    · refine .inr ⟨ha, ?_⟩
                      by_cases hb : l1.length = n0
                      · rw [hn3, hl3, if_pos ⟨ha, hb⟩, List.length_append]; simp only [List.length_singleton]; omega
                      · rw [hn3, hl3, if_neg (fun h => hb h.2)]; exact hb
                    · exact .inl (by simpa using ha)
                  have HX := Lib.hid hx
                  have HF : Hid (cOut c = (cSettle { c1 with owed := false, again := false, probe := false }, l3)) := Lib.hid (by
                    rw [HFI.out]
                    unfold cTail
                    simp only
                    rw [← hsb, ← hl3, ← hn3]
                    have : (c1.owed && decide (n3 = n0)) = false := by
                      rcases hx with h | ⟨h1, h2⟩
                      · rw [h]; rfl
                      · rw [h1, decide_eq_false h2]; rfl
                    rw [this])
                  clear hx HFI hsb
                  have HL3 := Lib.hid hl3
                  have HN3 := Lib.hid hn3
                  have HN1 := Lib.hid hn1
                  clear hl3 hn3 hn1
                  apply apK
                  · assumption
                  go_cut [3] (fun v3 W => ∃ (A3 : Option Addr) (q3 : Nat), v3 = .slice A3 n3 q3 ∧ MemX E w0 W (rowR 13 cSeg (.slice A3 n3 q3) l3 :: oqA k0.go c1.o k0.vo :: oqB c1.o k0.vo :: cnA gc c1 k0 :: tmR k0.gt c1.tm :: rsR k0.vr c1.rs :: M))
                  case first =>
                    cases ow with
                    | false =>
                      have h1 : ¬(c1.owed = true ∧ n1 = n0) := of_decide_eq_false how.symm
                      have h2 : l3 = l1 := by rw [HL3.out, if_neg (by rw [← HN1.out]; exact h1)]
                      have h3 : n3 = n1 := by rw [HN3.out, h2, HN1.out]
                      rw [← h2, ← h3] at hM
                      have H3 := Lib.hid h3
                      clear h1 h2 h3 how
                      go_wp2_with fail
                      go_meet
                      case rel => exact ⟨A1, q1, by rw [H3.out], hM⟩
                    | true =>
                      have h1 : c1.owed = true ∧ n1 = n0 := of_decide_eq_true how.symm
                      have h2 : l3 = l1 ++ [sb] := by rw [HL3.out, if_pos (by rw [← HN1.out]; exact h1)]
                      have H2 := Lib.hid h2
                      clear h1 h2 how
                      go_wp2_with (first
                        | go_skip
                        | ((with_reducible refine at_load_ ?_); refine at_wanted_ (by rfl) ?_; first | (refine lM 3 hM rfl rfl rfl rfl ?_))
                        | (go_at_call 39; refine (HSN.out _ (hM.at_ 1 rfl)).mono ?_; rintro e W ⟨rfl, rfl⟩; dsimp only)
                        | (go_at_call 42; refine (HBR.out _ [_] hM).mono ?_; clear hM; rintro e W ⟨rfl, hM⟩; dsimp only)
                        | ((with_reducible refine at_bslice_ ?_); refine wpList_bslice_mem rfl _ 33 _ rfl Try.underlying30 _ zv_Seg _ rfl rfl sz_Seg (Nat.le_of_ble_eq_true rfl) (Nat.le_of_ble_eq_true rfl) hM ?_; clear hM; intro gs W hM; replace hM := cn_last hM)
                        | ((with_reducible refine at_append_ ?_); refine wpList_append_row (f := cSeg) (size := 13) rfl _ _ _ 33 rfl Try.underlying30 80 elem_Seg (by decide) 1 0 _ _ l1 sb hM rfl rfl rfl 1 rfl rfl (one_cSeg _) (by omega) (by simp only [maxLen]; omega) ?_; clear hM; intro vN W hM; simp only [zF, zE] at hM))
                      have hM2 : MemX E w0 W ([_] ++ (rowR 13 cSeg vN (l1 ++ [sb]) :: oqA k0.go c1.o k0.vo :: oqB c1.o k0.vo :: cnA gc c1 k0 :: tmR k0.gt c1.tm :: rsR k0.vr c1.rs :: M)) := hM
                      have hM3 := hM2.drop_
                      clear hM hM2
                      obtain ⟨A3, q3, hv3⟩ := (hM3.row (f := cSeg) (rs := l1 ++ [sb]) 0 rfl).form
                      have hv4 : vN = .slice A3 n3 q3 := by rw [hv3, HN3.out, H2.out]
                      rw [hv4, ← H2.out] at hM3
                      subst hv4
                      clear hv3
                      go_meet
                      case rel => exact ⟨A3, q3, rfl, hM3⟩
                  case rest =>
                    clear hM how HBR HSN
                    obtain ⟨A3, q3, rfl, hM⟩ := hcut
                    obtain ⟨c4, hc4⟩ : ∃ z : KCn, z = { c1 with owed := false } := ⟨_, rfl⟩
                    have HC4 := Lib.hid hc4
                    go_upto_region 24 with (fail)
                    go_cut [3] (fun v3 W => v3 = .slice A3 n3 q3 ∧ MemX E w0 W (rowR 13 cSeg (.slice A3 n3 q3) l3 :: oqA k0.go c1.o k0.vo :: oqB c1.o k0.vo :: cnA gc c4 k0 :: tmR k0.gt c1.tm :: rsR k0.vr c1.rs :: M))
                    case first =>
                      clear hc4
                      rcases HX.out with ta | ⟨ta, tb⟩
                      · go_wp2_with (first | go_skip | ((with_reducible refine at_load_ ?_); refine at_wanted_ (by rfl) ?_; first | (refine lM 3 hM rfl rfl rfl rfl ?_)) | ((with_reducible refine at_store_ ?_); first | (refine sM 3 hM rfl rfl rfl ?_; clear hM; intro W hM; simp only [zF, zE, cnA, cn4, cn5, cn7, cn9, cn11, cn12, cn13, cn14, cn16, cn17, cn18, cn19, cn20, cn21, cn22, cn23, cn24, cn25, cn26, cn27, cn28] at hM)))
                        go_meet
                        case rel => exact ⟨rfl, by rw [HC4.out]; exact hM⟩
                      · have tn : ((n3 : Int) == (n0 : Int)) = false := by simp only [beq_eq_false_iff_ne]; omega
                        clear tb
                        go_wp2_with (first | go_skip | ((with_reducible refine at_load_ ?_); refine at_wanted_ (by rfl) ?_; first | (refine lM 3 hM rfl rfl rfl rfl ?_)) | ((with_reducible refine at_store_ ?_); first | (refine sM 3 hM rfl rfl rfl ?_; clear hM; intro W hM; simp only [zF, zE, cnA, cn4, cn5, cn7, cn9, cn11, cn12, cn13, cn14, cn16, cn17, cn18, cn19, cn20, cn21, cn22, cn23, cn24, cn25, cn26, cn27, cn28] at hM)))
                        go_meet
                        case rel => exact ⟨rfl, by rw [HC4.out]; exact hM⟩
                    case rest =>
                      clear hM
                      obtain ⟨rfl, hM⟩ := hcut
                      obtain ⟨c5, hc5⟩ : ∃ z : KCn, z = { c1 with owed := false, again := false, probe := false } := ⟨_, rfl⟩
                      rw [← hc5] at HF
                      have HSE := Lib.hid (fun (W : World) (Z : List Res) (R : Res) (h : MemX E w0 W (R :: oqA k0.go c1.o k0.vo :: oqB c1.o k0.vo :: cnA gc c5 k0 :: Z)) => (by
                        have h2 : MemX E w0 W (oqA k0.go c5.o k0.vo :: oqB c5.o k0.vo :: cnA gc c5 k0 :: (Z ++ [R])) := by
                          have h3 := MemX.perm (show MemX E w0 W ([R] ++ (oqA k0.go c1.o k0.vo :: oqB c1.o k0.vo :: cnA gc c5 k0 :: Z)) from h) List.perm_append_comm
                          rw [hc5] at h3 ⊢
                          exact h3
                        refine (settle_any gc c5 k0 (Z ++ [R]) W h2 (by rw [hc5]; exact HC1.out.ok) (by rw [hc5]; have := HC1.out.hb; show c1.o.base ≤ _; omega)).mono ?_
                        rintro e w' ⟨rfl, h4⟩
                        exact ⟨rfl, MemX.perm (show MemX E w0 w' ((oqA k0.go c5.o k0.vo :: oqB c5.o k0.vo :: cnA gc (cSettle c5) k0 :: Z) ++ [R]) from h4) List.perm_append_comm⟩ : Calls Try.prog 43 #[.pointer (some ⟨gc, 0, none⟩)] W fun e w' => e = .returned (.tuple #[]) ∧ MemX E w0 w' ([R] ++ (oqA k0.go c5.o k0.vo :: oqB c5.o k0.vo :: cnA gc (cSettle c5) k0 :: Z))))
                      have HC5 := Lib.hid hc5
                      clear hc5
                      go_upto_region 26 with (first | go_skip | ((with_reducible refine at_store_ ?_); first | (refine sM 3 hM rfl rfl rfl ?_; clear hM; intro W hM; simp only [zF, zE, cnA, cn4, cn5, cn7, cn9, cn11, cn12, cn13, cn14, cn16, cn17, cn18, cn19, cn20, cn21, cn22, cn23, cn24, cn25, cn26, cn27, cn28] at hM)))
                      have hM2 : MemX E w0 _ (rowR 13 cSeg (.slice A3 n3 q3) l3 :: oqA k0.go c1.o k0.vo :: oqB c1.o k0.vo :: cnA gc { c4 with again := false, probe := false } k0 :: tmR k0.gt c1.tm :: rsR k0.vr c1.rs :: M) := hM
                      rw [show ({ c4 with again := false, probe := false } : KCn) = c5 from by rw [HC5.out, hc4]] at hM2
                      clear hM hc4
                      have hM := hM2
                      clear hM2
                      go_wp2_with (first | go_skip | (go_at_call 43; refine (HSE.out _ _ _ hM).mono ?_; clear hM; rintro e W ⟨rfl, hM⟩; dsimp only))
                      refine bodyPost_ret (v := .slice A3 n3 q3) (by simp [results, Try.results15, go_sem]) rfl ?_
                      rw [HF.out]
                      obtain ⟨e1, e2, e3, e4⟩ := cSettle_o c5
                      have e5 : c5.h = c1.h := by rw [HC5.out]
                      have e6 : c5.tm = c1.tm := by rw [HC5.out]
                      have e7 : c5.rs = c1.rs := by rw [HC5.out]
                      refine ⟨_, k0, rfl, ?_, by rw [e4, e5]; exact HK1.out⟩
                      unfold cnL
                      rw [e1, e2, e3, e4, e5, e6, e7, ← HM1.out]
                      exact hM
              | true =>
                have HC3 := Lib.hid (show COk c2 from by rw [HC2.out]; exact HC1.out.next lim)
                have HM2 := Lib.hid (show M = hL gi gw c2.h ++ m from by rw [HC2.out]; exact HM1.out)
                have HK2 := Lib.hid (show KOk k0 gi gw c2.h from by rw [HC2.out]; exact HK1.out)
                obtain ⟨sg, hsg⟩ : ∃ z, z = cSegm c1 p := ⟨_, rfl⟩
                have HSG := Lib.hid (fun (W : World) (X : List Res) (h : MemX E w0 W (X ++ cnX gc gi gw c2 k0 M)) => (by
                  refine (segment_all gc gi gw c2 k0 (m ++ X) W p (cn_hand X h HM2.out) HK2.out HC3.out).mono ?_
                  rintro e w' ⟨rfl, h3⟩
                  have e1 : cSegm c2 p = sg := by rw [hsg, HC2.out]; rfl
                  rw [e1]
                  exact ⟨rfl, cn_back X h3 HM2.out⟩ : Calls Try.prog 37 #[.pointer (some ⟨gc, 0, none⟩), .agg (cPiece p).toArray] W fun e w' => e = .returned (.agg (cSeg sg).toArray) ∧ MemX E w0 w' (X ++ cnX gc gi gw c2 k0 M)))
                have HSE := Lib.hid hsg
                clear hsg
                go_upto_region 20 with (first
                  | go_skip
                  | ((with_reducible refine at_load_ (T := 87) ?_); refine wpList_loadg_mem (by go_simp) 87 _ rfl 0 _ _ (cPiece p) hM rfl rfl _ Try.underlying87 rfl sz_Piece ?_)
                  | (go_at_call 37; refine (HSG.out _ [_, _] hM).mono ?_; clear hM; rintro e W ⟨rfl, hM⟩; dsimp only)
                  | ((with_reducible refine at_bslice_ ?_); refine wpList_bslice_mem rfl _ 33 _ rfl Try.underlying30 _ zv_Seg _ rfl rfl sz_Seg (Nat.le_of_ble_eq_true rfl) (Nat.le_of_ble_eq_true rfl) hM ?_; clear hM; intro gs W hM; replace hM := cn_last hM)
                  | ((with_reducible refine at_append_ ?_); refine wpList_append_row (f := cSeg) (size := 13) rfl _ _ _ 33 rfl Try.underlying30 80 elem_Seg (by decide) 2 0 _ _ l1 sg hM rfl rfl rfl 1 rfl rfl (one_cSeg _) (by omega) (by simp only [maxLen]; omega) ?_; clear hM; intro vN W hM; simp only [zF, zE] at hM))
                have hM2 : MemX E w0 W ([_] ++ (atR gp 87 (cPiece p) :: rowR 13 cSeg vN (l1 ++ [sg]) :: oqA k0.go c2.o k0.vo :: oqB c2.o k0.vo :: cnA gc c2 k0 :: tmR k0.gt c2.tm :: rsR k0.vr c2.rs :: M)) := hM
                have hM3 := hM2.drop_
                clear hM hM2
                have hM := hM3
                clear hM3 HSG
                obtain ⟨A4, q4, hv4⟩ := (hM.row (f := cSeg) (rs := l1 ++ [sg]) 1 rfl).form
                obtain ⟨n4, hn4⟩ : ∃ z, z = (l1 ++ [sg]).length := ⟨_, rfl⟩
                rw [← hn4] at hv4
                subst hv4
                have HST := Lib.hid (cStep_left HC1.out HIS.out.symm)
                have HEND : Hid (COk (cStep c1 lim) ∧ (cStep c1 lim).h = c0.h ∧ n4 = (l1 ++ [sg]).length ∧ cLeft (cStep c1 lim) ≤ f - 1 ∧ (l1 ++ [sg]).length + cLeft (cStep c1 lim) ≤ lf.length + cLeft c0 ∧ cLoop (f - 1) (cStep c1 lim) lim (l1 ++ [sg]) = cLoop 2100 c0 lim lf) := Lib.hid (by
                  have h1 := HST.out
                  have h2 := HR.out.2.2.2.1
                  have h3 := HR.out.2.2.2.2.1
                  refine ⟨HC1.out.step lim, by rw [(cStep_h c1 lim).1]; exact HR.out.2.1, hn4, by omega, by rw [List.length_append]; simp only [List.length_singleton]; omega, ?_⟩
                  rw [← HR.out.2.2.2.2.2]
                  obtain ⟨f', rfl⟩ : ∃ f', f = f' + 1 := ⟨f - 1, by omega⟩
                  rw [Nat.add_sub_cancel, cLoop_go f' HIS.out.symm, HSE.out, HP.out])
                clear hn4
                obtain ⟨tt, htt⟩ : ∃ z, z = decide (p.at_ = c1.o.sent ∧ c2.meas = 0) := ⟨_, rfl⟩
                go_cut [108] (fun v W => v = .bool tt ∧ MemX E w0 W (atR gp 87 (cPiece p) :: rowR 13 cSeg (.slice A4 n4 q4) (l1 ++ [sg]) :: oqA k0.go c2.o k0.vo :: oqB c2.o k0.vo :: cnA gc c2 k0 :: tmR k0.gt c2.tm :: rsR k0.vr c2.rs :: M))
                case first =>
                  by_cases ha : p.at_ = c1.o.sent
                  · have ta : (p.at_ == c1.o.sent) = true := by simpa using ha
                    by_cases hm : c2.meas = 0
                    · have tm : (c2.meas == 0) = true := by simpa using hm
                      obtain rfl : tt = true := by rw [htt]; exact decide_eq_true ⟨ha, hm⟩
                      clear htt ha hm
                      go_wp2_with (first | go_skip | ((with_reducible refine at_load_ ?_); refine at_wanted_ (by rfl) ?_; first | (refine lM 0 hM rfl rfl rfl rfl ?_)) | ((with_reducible refine at_load_ ?_); refine at_wanted_ (by rfl) ?_; first | (refine lM 4 hM rfl rfl rfl rfl ?_)))
                      go_meet
                      case rel => exact ⟨rfl, hM⟩
                    · have tm : (c2.meas == 0) = false := by simpa using hm
                      obtain rfl : tt = false := by rw [htt]; exact decide_eq_false (fun h => hm h.2)
                      clear htt ha hm
                      go_wp2_with (first | go_skip | ((with_reducible refine at_load_ ?_); refine at_wanted_ (by rfl) ?_; first | (refine lM 0 hM rfl rfl rfl rfl ?_)) | ((with_reducible refine at_load_ ?_); refine at_wanted_ (by rfl) ?_; first | (refine lM 4 hM rfl rfl rfl rfl ?_)))
                      go_meet
                      case rel => exact ⟨rfl, hM⟩
                  · have ta : (p.at_ == c1.o.sent) = false := by simpa using ha
                    obtain rfl : tt = false := by rw [htt]; exact decide_eq_false (fun h => ha h.1)
                    clear htt ha
                    go_wp2_with (first | go_skip | ((with_reducible refine at_load_ ?_); refine at_wanted_ (by rfl) ?_; first | (refine lM 0 hM rfl rfl rfl rfl ?_)) | ((with_reducible refine at_load_ ?_); refine at_wanted_ (by rfl) ?_; first | (refine lM 4 hM rfl rfl rfl rfl ?_)))
                    go_meet
                    case rel => exact ⟨rfl, hM⟩
                case rest =>
                  clear hM
                  obtain ⟨rfl, hM⟩ := hcut
                  cases tt with
                  | false =>
                    have hcs : cStep c1 lim = c2 := by
                      have h1 : ¬(p.at_ = c1.o.sent ∧ c2.meas = 0) := of_decide_eq_false htt.symm
                      have h2 : ¬((cPc c1 lim).at_ = c1.o.sent ∧ c1.meas = 0) := by rw [← HP.out]; rw [HC2.out] at h1; exact h1
                      unfold cStep
                      rw [if_neg h2, HC2.out]
                    have HCS := Lib.hid hcs
                    clear hcs htt
                    have hM2 : MemX E w0 _ ([_] ++ ([rowR 13 cSeg (.slice A4 n4 q4) (l1 ++ [sg])] ++ cnX gc gi gw c2 k0 M)) := hM
                    have hM3 := hM2.drop_
                    clear hM hM2
                    go_wp2_with fail
                    go_roundg (cLeft (cStep c1 lim))
                    case measure => have := HGH.out; have := HST.out; omega
                    case rel => exact ⟨cStep c1 lim, l1 ++ [sg], f - 1, n4, q4, A4, rfl, rfl, by rw [HCS.out]; exact hM3, HEND⟩
                  | true =>
                    have hcs : cStep c1 lim = { c2 with meas := c2.o.cur, wh := c2.now } := by
                      have h1 : p.at_ = c1.o.sent ∧ c2.meas = 0 := of_decide_eq_true htt.symm
                      have h2 : (cPc c1 lim).at_ = c1.o.sent ∧ c1.meas = 0 := by rw [← HP.out]; rw [HC2.out] at h1; exact h1
                      unfold cStep
                      rw [if_pos h2, HC2.out]
                    have HCS := Lib.hid hcs
                    clear hcs htt
                    go_upto_region 21 with (first | go_skip)
                    refine wp_region_M [2,4] [13, 16] hM (by kernel_rfl) ?_
                    clear hM
                    intro wo hM
                    refine tW 0 rfl ?_
                    simp only [Act.put, zA, zB, zC, zD, zE, zF]
                    refine tW 1 rfl ?_
                    simp only [Act.put, zA, zB, zC, zD, zE, zF]
                    refine tW 2 rfl ?_
                    simp only [Act.put, zA, zB, zC, zD, zE, zF]
                    refine tW 3 rfl ?_
                    simp only [Act.put, zA, zB, zC, zD, zE, zF]
                    refine tW 4 rfl ?_
                    simp only [Act.put, zA, zB, zC, zD, zE, zF]
                    refine tL 5 (v := ?_) rfl ⟨fun r hr => hM.get 2 hr, fun r hr => hM.get 4 hr, trivial⟩ (Or.inl ⟨by rfl, ?hy⟩) ?_
                    case hy => (rintro W ⟨i2, i4, -⟩; have c2 := (show At W _ _ _ from i2 _ rfl).cell; have c4 := (show At W _ _ _ from i4 _ rfl).cell; (try simp only [cnC] at c2 c4); go_simp; (try with_reducible rfl))
                    simp only [Act.put, zA, zB, zC, zD, zE, zF]
                    refine wpI_takeC (i := 6) rfl (by kernel_rfl) (by kernel_rfl) (by kernel_rfl) (by kernel_rfl) (by first | exact fun _ _ _ h => h | exact fun _ _ _ h => HQ0.out _ _ _ _ _ h) ⟨fun r hr => hM.get 2 hr, fun r hr => hM.get 4 hr, trivial⟩ ⟨by rfl, fun W hW => ⟨_, _, by (go_simp; first | done | rfl), (Cur_any k0.go c2.o k0.vo W (hW.1 _ rfl))⟩⟩ ?_
                    simp only [Act.put, zA, zB, zC, zD, zE, zF]
                    refine tW 7 rfl ?_
                    simp only [Act.put, zA, zB, zC, zD, zE, zF]
                    refine tW 8 rfl ?_
                    simp only [Act.put, zA, zB, zC, zD, zE, zF]
                    refine tW 9 rfl ?_
                    simp only [Act.put, zA, zB, zC, zD, zE, zF]
                    refine tL 10 (v := ?_) rfl ⟨fun r hr => hM.get 2 hr, fun r hr => hM.get 4 hr, trivial⟩ (Or.inl ⟨by rfl, ?hy⟩) ?_
                    case hy => (rintro W ⟨i2, i4, -⟩; have c2 := (show At W _ _ _ from i2 _ rfl).cell; have c4 := (show At W _ _ _ from i4 _ rfl).cell; (try simp only [cnC] at c2 c4); go_simp; (try with_reducible rfl))
                    simp only [Act.put, zA, zB, zC, zD, zE, zF]
                    refine tW 11 rfl ?_
                    simp only [Act.put, zA, zB, zC, zD, zE, zF]
                    refine tW 12 rfl ?_
                    simp only [Act.put, zA, zB, zC, zD, zE, zF]
                    refine wpI_one (i := 13) rfl (by kernel_rfl) ?_
                    (try simp only [Act.put, zA, zB, zC, zD, zE, zF])
                    go_wp2_with (first
                        | go_skip
                        | ((with_reducible refine at_store_ ?_); first | (refine sM 4 hM rfl rfl rfl ?_; clear hM; intro W hM; simp only [zF, zE, cnA, cn4, cn5, cn7, cn9, cn11, cn12, cn13, cn14, cn16, cn17, cn18, cn19, cn20, cn21, cn22, cn23, cn24, cn25, cn26, cn27, cn28] at hM)))
                    refine contI_late (by decide) ?_
                    (try simp only [Act.put, zA, zB, zC, zD, zE, zF])
                    refine tW 14 rfl ?_
                    simp only [Act.put, zA, zB, zC, zD, zE, zF]
                    refine tW 15 rfl ?_
                    simp only [Act.put, zA, zB, zC, zD, zE, zF]
                    refine wpI_one (i := 16) rfl (by kernel_rfl) ?_
                    (try simp only [Act.put, zA, zB, zC, zD, zE, zF])
                    go_wp2_with (first
                        | go_skip
                        | ((with_reducible refine at_store_ ?_); first | (refine sM 4 hM rfl rfl rfl ?_; clear hM; intro W hM; simp only [zF, zE, cnA, cn4, cn5, cn7, cn9, cn11, cn12, cn13, cn14, cn16, cn17, cn18, cn19, cn20, cn21, cn22, cn23, cn24, cn25, cn26, cn27, cn28] at hM)))
                    refine contI_late (by decide) ?_
                    (try simp only [Act.put, zA, zB, zC, zD, zE, zF])
                    refine wpI_done (by kernel_rfl) ?_ _
                    (try simp only [Act.put, zA, zB, zC, zD, zE, zF])
                    have hM2 : MemX E w0 _ ([_] ++ ([rowR 13 cSeg (.slice A4 n4 q4) (l1 ++ [sg])] ++ cnX gc gi gw { c2 with meas := c2.o.cur, wh := c2.now } k0 M)) := hM
                    have hM3 := hM2.drop_
                    clear hM hM2
                    go_wp2_with fail
                    go_roundg (cLeft (cStep c1 lim))
                    case measure => have := HGH.out; have := HST.out; omega
                    case rel => exact ⟨cStep c1 lim, l1 ++ [sg], f - 1, n4, q4, A4, rfl, rfl, by rw [HCS.out]; exact hM3, HEND⟩
end Go.Proofs.Ytfpifahkpkjfgaa
