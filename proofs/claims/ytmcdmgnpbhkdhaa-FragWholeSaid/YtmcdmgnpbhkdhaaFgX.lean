/- frag: Tick, the walk. -/
import Derived.Test.YtmcdmgnpbhkdhaaFgW
import Derived.Test.YtmcdmgnpbhkdhaaFgU
namespace Go.Proofs.Ytmcdmgnpbhkdhaa
open Go.RowKit Go.Lib
set_option linter.unusedVariables false
set_option linter.unusedSimpArgs false
set_option linter.unusedSectionVars false

theorem at_entry_ {P : Program} {ops : Array Oper} {rest : List Oper} {a : Act} {w : World} {Q : Exit → Act → World → Prop} {d : Option Tmp} {ty : TypeId} {x : Operand} {ps : String} {af : Array Edge} {g : Option (Nat × Bool)} (h : wpList P ops Q ({ dst := d, op := .entry x, type := ty, pos := ps, after := af, guard := g } :: rest) a w) : wpList P ops Q ({ dst := d, op := .entry x, type := ty, pos := ps, after := af, guard := g } :: rest) a w := h
theorem at_next_ {P : Program} {ops : Array Oper} {rest : List Oper} {a : Act} {w : World} {Q : Exit → Act → World → Prop} {d : Option Tmp} {ty : TypeId} {x : Operand} {b : Bool} {ps : String} {af : Array Edge} {g : Option (Nat × Bool)} (h : wpList P ops Q ({ dst := d, op := .next x b, type := ty, pos := ps, after := af, guard := g } :: rest) a w) : wpList P ops Q ({ dst := d, op := .next x b, type := ty, pos := ps, after := af, guard := g } :: rest) a w := h
theorem at_range_ {P : Program} {ops : Array Oper} {rest : List Oper} {a : Act} {w : World} {Q : Exit → Act → World → Prop} {d : Option Tmp} {ty T : TypeId} {x : Operand} {ps : String} {af : Array Edge} {g : Option (Nat × Bool)} (h : wpList P ops Q ({ dst := d, op := .range T x, type := ty, pos := ps, after := af, guard := g } :: rest) a w) : wpList P ops Q ({ dst := d, op := .range T x, type := ty, pos := ps, after := af, guard := g } :: rest) a w := h

theorem nat_len {l K : List Nat} (hn : l.Nodup) (h : ∀ x ∈ l, x ∈ K) : l.length ≤ K.length := by
  induction l generalizing K with
  | nil => simp
  | cons a t ih =>
    rw [List.nodup_cons] at hn
    have ha := h a List.mem_cons_self
    have := ih (K := K.erase a) hn.2 fun x hx => (List.mem_erase_of_ne (fun e => hn.1 (by rw [← e]; exact hx))).2 (h x (List.mem_cons_of_mem _ hx))
    rw [List.length_erase_of_mem ha] at this
    have := List.length_pos_of_mem ha
    simp only [List.length_cons]; omega
theorem left_sub {es es' : Array MapEntry} {clock : Nat} (hst : MapKept.Stamped es' clock) (hs : ∀ x ∈ es'.toList, x ∈ es.toList) (seen : Array Nat) : (leftOf es' seen).size ≤ (leftOf es seen).size := by
  have hl : ∀ (es : Array MapEntry), (leftOf es seen).toList = es.toList.filter (fun e => !seen.contains e.born) := fun es => by unfold leftOf; simp
  have := nat_len (l := (leftOf es' seen).toList.map (·.born)) (K := (leftOf es seen).toList.map (·.born)) (by
    rw [hl]
    exact hst.2.1.sublist (List.filter_sublist.map _)) (fun x hx => by
    obtain ⟨e, he, rfl⟩ := List.mem_map.1 hx
    rw [hl] at he
    obtain ⟨h1, h2⟩ := List.mem_filter.1 he
    refine List.mem_map.2 ⟨e, ?_, rfl⟩
    rw [hl]
    exact List.mem_filter.2 ⟨hs e h1, h2⟩)
  simpa using this
theorem Tick_neg (g gm : Nat) (es : List FE) (n : Int) (w : World) (hM0 : MemX (blkE (fgL g gm es)) w w (fgL g gm es)) (hn : n < 0) :
    Calls Try.prog 35 #[.pointer (some ⟨g, 0, none⟩), .int .i64 n] w fun e w' => e = .returned (.int .i64 1) ∧ MemX (blkE (fgL g gm es)) w w' (fgL g gm es) := by
  have hM : MemX (blkE (fgL g gm es)) w w (atR g 111 [.map (some gm)] :: mpR gm es :: es.map eR) := hM0
  go_enter Try.func35, Try.ntmps35
  go_wp2_with (first
    | go_skip
    | ((with_reducible refine at_box_ ?_); refine wpList_box_mem rfl _ _ rfl _ rfl hM ?_; clear hM; intro gb W hM; first | (simp only [List.nil_append] at hM) | (simp only [List.cons_append, List.nil_append] at hM))
    | ((with_reducible refine at_load_ ?_); refine at_wanted_ (by rfl) ?_; refine wpList_loadf_mem (by go_simp) _ _ rfl (by kernel_rfl) 0 _ _ _ _ _ hM rfl rfl (by first | rfl | assumption) ?_)
    | ((with_reducible refine at_store_ ?_); refine wpList_store1_mem rfl _ _ _ rfl 0 _ _ _ _ _ hM rfl rfl (by first | ((conv => lhs; whnf); done) | ((conv => lhs; whnf); rfl)) (by rfl) (by rfl) (by kernel_rfl) rfl ?_; clear hM; intro W hM; simp only [List.set_cons_succ, List.set_cons_zero] at hM))
  go_ret
  exact ⟨by simp, hM⟩
set_option maxRecDepth 100000 in
set_option maxHeartbeats 8000000 in
theorem Tick_any (g gm : Nat) (es : List FE) (n : Int) (w : World) (hM0 : MemX (blkE (fgL g gm es)) w w (fgL g gm es)) (hI : FInv es) (hn : 0 ≤ n) (hn2 : n ≤ 1000000) :
    Calls Try.prog 35 #[.pointer (some ⟨g, 0, none⟩), .int .i64 n] w fun e w' => e = .returned (.int .i64 0) ∧ MemX (blkE (fgL g gm es)) w w' (fgL g gm (es.filterMap (tkE n))) := by
  have hM : MemX (blkE (fgL g gm es)) w w (atR g 111 [.map (some gm)] :: mpR gm es :: es.map eR) := hM0
  obtain ⟨E, hE⟩ : ∃ E, E = blkE (fgL g gm es) := ⟨_, rfl⟩
  rw [← hE] at hM ⊢
  clear hE hM0
  have HI := Lib.hid hI
  clear hI
  obtain ⟨me0, clock, hes, hM⟩ := hM.mapOpen 1 rfl
  replace hM : MemX E w w (atR g 111 [.map (some gm)] :: mapE gm me0 clock :: es.map eR) := hM
  have HES := Lib.hid hes
  clear hes
  go_enter Try.func35, Try.ntmps35
  go_wp2_with (first
    | go_skip
    | ((with_reducible refine at_range_ ?_); refine wpList_range_m rfl _ rfl mapTy_frag.ht 1 me0 clock hM rfl rfl ?_; clear hM; intro rit W hM; replace hM := fg_last hM)
    | ((with_reducible refine at_box_ ?_); refine wpList_box_mem rfl _ _ rfl _ rfl hM ?_; clear hM; intro gb W hM; first | (simp only [List.nil_append] at hM) | (simp only [List.cons_append, List.nil_append] at hM))
    | ((with_reducible refine at_load_ ?_); refine at_wanted_ (by rfl) ?_; refine wpList_loadf_mem (by go_simp) _ _ rfl (by kernel_rfl) 0 _ _ _ _ _ hM rfl rfl (by first | rfl | assumption) ?_)
    | ((with_reducible refine at_store_ ?_); refine wpList_store1_mem rfl _ _ _ rfl 0 _ _ _ _ _ hM rfl rfl (by first | ((conv => lhs; whnf); done) | ((conv => lhs; whnf); rfl)) (by rfl) (by rfl) (by kernel_rfl) rfl ?_; clear hM; intro W hM; simp only [List.set_cons_succ, List.set_cons_zero] at hM))
  go_frame
  go_loopg [] (leftOf me0 #[]).size (fun gh wr => ∃ (mes : Array MapEntry) (seen : Array Nat) (S : List KNm), gh = (leftOf mes seen).size ∧ MemX E w wr (itR rit gm clock seen :: atR g 111 [.map (some gm)] :: mapE gm mes clock :: (es.filterMap (tkS n S)).map eR) ∧ Hid (SeenIs mes seen S) ∧ Hid (EsIs Try.prog 113 fNm fGP ((es.filterMap (tkS n S)).map eP) mes clock))
  case atStart => exact ⟨me0, #[], [], rfl, by rw [tk_nil]; exact hM, Lib.hid (seenIs_nil _), by rw [tk_nil]; exact HES⟩
  case round =>
    clear hM HES
    obtain ⟨mes, seen, S, hgs, hM, HSN, HES⟩ := hrel
    have HGS := Lib.hid hgs
    clear hgs
    obtain ⟨cur, hcur⟩ : ∃ z, z = es.filterMap (tkS n S) := ⟨_, rfl⟩
    have HCI := HI.out.tick hn (S := S)
    rw [← hcur] at hM HES HCI
    have HC := Lib.hid hcur
    have HCJ := Lib.hid HCI
    clear hcur HCI
    have hst := HES.out.st
    go_upto_region 5 with (first | go_skip | ((with_reducible refine at_next_ ?_); refine wpList_next_m rfl _ rfl 2 0 rit mes clock seen hM rfl rfl rfl hst (fun h0 => ?_) (fun e he W hM2 hls => ?_)))
    · have hall := HSN.out.end_ HES.out h0
      rw [HC.out] at hall
      have hfin := tk_all hall
      rw [← HC.out] at hfin
      have HFIN := Lib.hid hfin
      replace hM := hM.mapShut 2 rfl HES.out
      clear h0 hall hfin
      go_wp2_with (first | go_skip)
      go_ret
      rw [← HFIN.out]
      exact ⟨by simp, (show MemX E w _ ([itR rit gm clock seen] ++ fgL g gm cur) from hM).drop_⟩
    · obtain ⟨i, x, hi, hk, hv, hnS, hme⟩ := HSN.out.next HES.out he
      obtain ⟨xk, xg, xf⟩ := x
      have HPU := Lib.hid (HSN.out.push hst hme hk)
      have HST := Lib.hid (tk_step (n := n) hnS es)
      rw [← HC.out] at HST
      have HAT := Lib.hid (tk1_at (n := n) HCJ.out.nd hi)
      have HI2 := Lib.hid hi
      have hok := HCJ.out.ok _ (List.mem_of_getElem? hi)
      have hg1 := hok.age1
      have hg2 := hok.age2
      have HKO := Lib.hid (HES.out.ks _ (List.mem_map.2 ⟨_, List.mem_of_getElem? hi, rfl⟩))
      have HDL := Lib.hid (HCJ.out.del hi)
      have HSP := Lib.hid (fun f' => set_eP (e' := ⟨xk, xg, f'⟩) hi rfl rfl)
      have HSF := Lib.hid (fun f' => (set_front (e' := ⟨xk, xg, f'⟩) hi).map eR)
      have HPF := Lib.hid ((front_fe hi).map eR)
      have HLS := Lib.hid hls
      have HKN := Lib.hid hk
      have HME := Lib.hid hme
      have HST2 := Lib.hid hst
      have HSN2 := HSN
      replace hM := (show MemX E w W (itR rit gm clock (seen.push e.born) :: atR g 111 [.map (some gm)] :: mapE gm mes clock :: cur.map eR) from hM2)
      clear hM2 hls hi hnS hme hok hst HSN
      obtain ⟨ks, kd, kp, ki⟩ := xk
      have HKV := Lib.hid (show e.key = .agg #[.int .u32 ks, .int .u32 kd, .int .i64 kp, .int .i64 ki] from HKN.out)
      have HVV := Lib.hid (show e.val = .pointer (some ⟨xg, 0, none⟩) from hv)
      simp only at hg1 hg2
      obtain ⟨ag, hag⟩ : ∃ z, z = xf.age := ⟨_, rfl⟩
      rw [← hag] at hg1 hg2
      have HAG := Lib.hid hag
      clear hk hv hag
      go_upto_region 6 with (first | go_skip | ((with_reducible refine at_entry_ ?_); refine wpList_entry_m rfl _ rfl 2 0 rit mes clock seen e hM rfl rfl rfl HST2.out HME.out ?_; rw [HKV.out, HVV.out]) | ((with_reducible refine at_alloc_ (T := 113) ?_); refine wpList_alloc_mem rfl 113 rfl _ zv_Name _ rfl hM ?_; clear hM; intro gk W hM; replace hM := fg_last hM) | ((with_reducible refine at_store_ (T := 113) ?_); refine wpList_store_mem rfl 113 _ _ rfl 0 _ _ _ _ hM rfl rfl rfl rfl sz_Name rfl ?_; clear hM; intro W hM; simp only [List.set_cons_zero] at hM))
      replace hM : MemX E w W (wR xg xf :: atR gk 113 [.int .u32 ks, .int .u32 kd, .int .i64 kp, .int .i64 ki] :: itR rit gm clock (seen.push e.born) :: atR g 111 [.map (some gm)] :: mapE gm mes clock :: (cur.eraseIdx i).map eR) :=
        (show MemX E w W ([atR gk 113 [.int .u32 ks, .int .u32 kd, .int .i64 kp, .int .i64 ki], itR rit gm clock (seen.push e.born), atR g 111 [.map (some gm)], mapE gm mes clock] ++ cur.map eR) from hM).perm ((List.Perm.append_left _ HPF.out).trans List.perm_middle)
      have c0 : W.cell? ⟨xg, 8012, none⟩ = some (.int .i64 ag) := by rw [HAG.out]; exact (hM.cells 0 rfl 8012).trans (fgC_t xf 12)
      have hlt := hM.lt 0 rfl
      by_cases hq : 30 - ag ≤ n
      · have hq1 : decide (30 - ag ≤ n) = true := by simpa using hq
        have HT := Lib.hid (show tkE n ⟨⟨ks, kd, kp, ki⟩, xg, xf⟩ = none from if_pos (by show 30 - xf.age ≤ n; rw [← HAG.out]; exact hq))
        clear hq
        go_upto_region 7 with (first | go_skip)
        clear c0 hlt
        refine wp_region_M [1,3] [] hM (by kernel_rfl) ?_
        clear hM
        intro wo hM
        refine wpI_takeP (i := 0) (v := ?_) rfl (by kernel_rfl) (by kernel_rfl) (by kernel_rfl) (by first | exact fun _ _ _ h => h | exact fun _ _ _ h => HQ0.out _ _ _ _ _ h) (Or.inl ⟨by rfl, ?hy⟩) ?_
        case hy => (intro W; go_simp; (try with_reducible rfl))
        simp only [Act.put, List.getElem_toArray, List.getElem_cons_succ, List.getElem_cons_zero, List.setIfInBounds_toArray, List.set_cons_zero, List.set_cons_succ]
        refine wpI_takeP (i := 1) (v := ?_) rfl (by kernel_rfl) (by kernel_rfl) (by kernel_rfl) (by first | exact fun _ _ _ h => h | exact fun _ _ _ h => HQ0.out _ _ _ _ _ h) (Or.inl ⟨by rfl, ?hy⟩) ?_
        case hy => (intro W; go_simp; (try with_reducible rfl))
        simp only [Act.put, List.getElem_toArray, List.getElem_cons_succ, List.getElem_cons_zero, List.setIfInBounds_toArray, List.set_cons_zero, List.set_cons_succ]
        refine wpI_takeP (i := 2) (v := ?_) rfl (by kernel_rfl) (by kernel_rfl) (by kernel_rfl) (by first | exact fun _ _ _ h => h | exact fun _ _ _ h => HQ0.out _ _ _ _ _ h) (Or.inl ⟨by rfl, ?hy⟩) ?_
        case hy => (intro W; go_simp; (try with_reducible rfl))
        simp only [Act.put, List.getElem_toArray, List.getElem_cons_succ, List.getElem_cons_zero, List.setIfInBounds_toArray, List.set_cons_zero, List.set_cons_succ]
        refine wpI_take (i := 3) (v := ?_) rfl (by kernel_rfl) (by kernel_rfl) (by kernel_rfl) (by kernel_rfl) (by first | exact fun _ _ _ h => h | exact fun _ _ _ h => HQ0.out _ _ _ _ _ h) ⟨fun r hr => hM.get 1 hr, fun r hr => hM.get 3 hr, trivial⟩ (Or.inl ⟨by rfl, ?hy⟩) ?_
        case hy => (rintro W ⟨i1, i3, -⟩; have c1 := (show At W _ _ _ from i1 _ rfl).cell; have c3 := (show At W _ _ _ from i3 _ rfl).cell; go_simp; (try with_reducible rfl))
        simp only [Act.put, List.getElem_toArray, List.getElem_cons_succ, List.getElem_cons_zero, List.setIfInBounds_toArray, List.set_cons_zero, List.set_cons_succ]
        refine wpI_take (i := 4) (v := ?_) rfl (by kernel_rfl) (by kernel_rfl) (by kernel_rfl) (by kernel_rfl) (by first | exact fun _ _ _ h => h | exact fun _ _ _ h => HQ0.out _ _ _ _ _ h) ⟨fun r hr => hM.get 1 hr, fun r hr => hM.get 3 hr, trivial⟩ (Or.inl ⟨by rfl, ?hy⟩) ?_
        case hy => (rintro W ⟨i1, i3, -⟩; have c1 := (show At W _ _ _ from i1 _ rfl).cell; have c3 := (show At W _ _ _ from i3 _ rfl).cell; go_simp; (try with_reducible rfl))
        simp only [Act.put, List.getElem_toArray, List.getElem_cons_succ, List.getElem_cons_zero, List.setIfInBounds_toArray, List.set_cons_zero, List.set_cons_succ]
        refine wpI_one (i := 5) rfl (by kernel_rfl) ?_
        (try simp only [Act.put, List.getElem_toArray, List.getElem_cons_succ, List.getElem_cons_zero, List.setIfInBounds_toArray, List.set_cons_zero, List.set_cons_succ])
        go_wp2_with (first
            | go_skip
            | ((with_reducible refine at_delete_ ?_); refine wpList_delete_e rfl _ _ rfl mapTy_frag 4 hM rfl HES.out rfl (⟨ks, kd, kp, ki⟩ : KNm) rfl HKO.out HME.out HKN.out ?_; clear hM; intro W mes2 hM hes2 hsub)
            | ((with_reducible refine at_box_ ?_); refine wpList_box_mem rfl _ _ rfl _ rfl hM ?_; clear hM; intro gb W hM; first | (simp only [List.nil_append] at hM) | (simp only [List.cons_append, List.nil_append] at hM)))
        refine contI_normal ⟨fun r hr => hM.get 1 hr, fun r hr => hM.get 3 hr, trivial⟩ ?_
        (try simp only [Act.put, List.getElem_toArray, List.getElem_cons_succ, List.getElem_cons_zero, List.setIfInBounds_toArray, List.set_cons_zero, List.set_cons_succ])
        refine wpI_done (by kernel_rfl) ?_ _
        (try simp only [Act.put, List.getElem_toArray, List.getElem_cons_succ, List.getElem_cons_zero, List.setIfInBounds_toArray, List.set_cons_zero, List.set_cons_succ])
        replace hM : MemX E w W ([wR xg xf, atR gk 113 [.int .u32 ks, .int .u32 kd, .int .i64 kp, .int .i64 ki]] ++ (itR rit gm clock (seen.push e.born) :: atR g 111 [.map (some gm)] :: mapE gm mes2 clock :: (cur.eraseIdx i).map eR)) := hM
        have hM2 := hM.drop_
        have hdl : mDel (cur.map eP) (⟨ks, kd, kp, ki⟩ : KNm) = (cur.eraseIdx i).map eP := HDL.out
        rw [hdl] at hes2
        have hle := left_sub (es := mes) hes2.st (fun x hx => ((hsub x).1 hx).1) (seen.push e.born)
        have hat : cur.filterMap (tk1 n (⟨ks, kd, kp, ki⟩ : KNm)) = cur.eraseIdx i := by rw [HAT.out, HT.out]
        have hR := Lib.hid (show ∃ (mes : Array MapEntry) (seen' : Array Nat) (S : List KNm), (leftOf mes2 (seen.push e.born)).size = (leftOf mes seen').size ∧ MemX E w W (itR rit gm clock seen' :: atR g 111 [.map (some gm)] :: mapE gm mes clock :: (es.filterMap (tkS n S)).map eR) ∧ Hid (SeenIs mes seen' S) ∧ Hid (EsIs Try.prog 113 fNm fGP ((es.filterMap (tkS n S)).map eP) mes clock) from
          ⟨mes2, seen.push e.born, (⟨ks, kd, kp, ki⟩ : KNm) :: S, rfl, by rw [HST.out, hat]; exact hM2, Lib.hid (HPU.out.sub (fun x hx => ((hsub x).1 hx).1)), by rw [HST.out, hat]; exact Lib.hid hes2⟩)
        have HLE := Lib.hid (Nat.lt_of_le_of_lt hle HLS.out)
        clear hM2 hes2 hsub hdl hle hat
        go_wp2_with fail
        go_roundg (leftOf mes2 (seen.push e.born)).size
        case measure => have h1 := HLE.out; have h2 := HGS.out; omega
        case rel => exact hR.out
      · have hq1 : decide (30 - ag ≤ n) = false := by simpa using hq
        have HT := Lib.hid (show tkE n ⟨⟨ks, kd, kp, ki⟩, xg, xf⟩ = some ⟨⟨ks, kd, kp, ki⟩, xg, { xf with age := xf.age + n }⟩ from if_neg (by show ¬ 30 - xf.age ≤ n; rw [← HAG.out]; exact hq))
        clear hq
        go_upto_region 8 with (first | go_skip)
        go_wp2_with (first | go_skip | ((with_reducible refine at_store_ ?_); refine wpList_store1_mem rfl _ _ _ rfl 0 xg _ _ 8012 (.int .i64 (ag + n)) hM rfl rfl rfl rfl rfl (by kernel_rfl) (fgC_some _ _ (by omega)) ?_; clear hM; intro W hM))
        simp only [List.set_cons_zero] at hM
        rw [fgC_setage] at hM
        have hM3 : MemX E w W (wR xg { xf with age := xf.age + n } :: atR gk 113 [.int .u32 ks, .int .u32 kd, .int .i64 kp, .int .i64 ki] :: itR rit gm clock (seen.push e.born) :: atR g 111 [.map (some gm)] :: mapE gm mes clock :: (cur.eraseIdx i).map eR) := by rw [← HAG.out]; exact hM
        have hM4 := hM3.perm (show (wR xg { xf with age := xf.age + n } :: ([atR gk 113 [.int .u32 ks, .int .u32 kd, .int .i64 kp, .int .i64 ki], itR rit gm clock (seen.push e.born), atR g 111 [.map (some gm)], mapE gm mes clock] ++ (cur.eraseIdx i).map eR)).Perm ([atR gk 113 [.int .u32 ks, .int .u32 kd, .int .i64 kp, .int .i64 ki], itR rit gm clock (seen.push e.born), atR g 111 [.map (some gm)], mapE gm mes clock] ++ (cur.set i ⟨⟨ks, kd, kp, ki⟩, xg, { xf with age := xf.age + n }⟩).map eR) from
          (List.perm_middle.symm).trans (List.Perm.append_left _ (HSF.out _).symm))
        have hM2 := (show MemX E w W ([_] ++ (itR rit gm clock (seen.push e.born) :: atR g 111 [.map (some gm)] :: mapE gm mes clock :: (cur.set i ⟨⟨ks, kd, kp, ki⟩, xg, { xf with age := xf.age + n }⟩).map eR)) from hM4).drop_
        have hat : cur.filterMap (tk1 n (⟨ks, kd, kp, ki⟩ : KNm)) = cur.set i ⟨⟨ks, kd, kp, ki⟩, xg, { xf with age := xf.age + n }⟩ := by rw [HAT.out, HT.out]
        have hsp : (cur.set i ⟨⟨ks, kd, kp, ki⟩, xg, { xf with age := xf.age + n }⟩).map eP = cur.map eP := HSP.out _
        have hR := Lib.hid (show ∃ (mes' : Array MapEntry) (seen' : Array Nat) (S : List KNm), (leftOf mes (seen.push e.born)).size = (leftOf mes' seen').size ∧ MemX E w W (itR rit gm clock seen' :: atR g 111 [.map (some gm)] :: mapE gm mes' clock :: (es.filterMap (tkS n S)).map eR) ∧ Hid (SeenIs mes' seen' S) ∧ Hid (EsIs Try.prog 113 fNm fGP ((es.filterMap (tkS n S)).map eP) mes' clock) from
          ⟨mes, seen.push e.born, (⟨ks, kd, kp, ki⟩ : KNm) :: S, rfl, by rw [HST.out, hat]; exact hM2, HPU, by rw [HST.out, hat, hsp]; exact HES⟩)
        clear hM hM3 hM4 hM2 hat hsp
        go_roundg (leftOf mes (seen.push e.born)).size
        case measure => have h1 := HLS.out; have h2 := HGS.out; omega
        case rel => exact hR.out
end Go.Proofs.Ytmcdmgnpbhkdhaa
