/- addr.PrintPrefix, addr.ParsePrefix. -/
import Derived.Test.YtamckbjckgpniaaDoorAdU
namespace Go.Proofs.YtamckbjckgpniaaDoor
open Go.RowKit Go.Lib
set_option linter.unusedVariables false
set_option linter.unusedSimpArgs false

/-- what PrintPrefix answers -/
def ppL (a n : Int) : List UInt8 := if chkZ a n = 0 then prt a ++ 47 :: itoa n else []
theorem itoa_len (n : Int) (h : 0 ≤ n ∧ n ≤ 255) : (itoa n).length ≤ 3 := by
  have e : itoa n = dd n := by unfold itoa dd; rw [if_neg (by omega)]
  rw [e]; exact dd_len n h
def ppS (a n : Int) : ByteArray := ⟨(ppL a n).toArray⟩
theorem ppS_list (a n : Int) : (ppS a n).data.toList = ppL a n := by unfold ppS; simp
theorem cat_is (x y : List UInt8) : (⟨x.toArray⟩ ++ (⟨#[47]⟩ : ByteArray)) ++ ⟨y.toArray⟩ = (⟨(x ++ 47 :: y).toArray⟩ : ByteArray) := by
  refine str_ext ?_
  simp
set_option maxRecDepth 100000 in
set_option maxHeartbeats 2000000 in
theorem PrintPrefix_any (a n : Int) (w : World) (ha : 0 ≤ a ∧ a ≤ 4294967295) (hn : -9223372036854775808 ≤ n ∧ n ≤ 9223372036854775807) (hA : Ad w) :
    Calls Tryd.prog 6 #[.agg #[.int .u32 a, .int .i64 n]] w fun e w' => e = .returned (.tuple #[.string (ppS a n), .int .i64 (chkZ a n)]) ∧ Below w.heap.size w w' := by
  have HCK := Lib.hid (fun W => Check_any a n W ha.1 ha.2 hn.1 hn.2)
  have HAD := Lib.hid hA
  have HAA := Lib.hid ha
  have hM := Mem.nil w
  obtain ⟨k, hk⟩ : ∃ k, k = chkZ a n := ⟨_, rfl⟩
  rw [← hk] at HCK ⊢
  have HK := Lib.hid hk
  have HN := Lib.hid hn
  clear hA hk ha hn
  go_enter Tryd.func6, Tryd.ntmps6
  by_cases h0 : k = 0
  · subst h0
    have hb := chk_zero HK.out.symm
    go_upto_region 4 with         (first
          | go_skip
          | (go_at_call 8; go_must (refine (HCK.out _).mono ?_; rintro e W ⟨rfl, hb⟩; replace hM := hM.kept hb; clear hb))
          | ((with_reducible refine at_box_ ?_); refine wpList_box_mem rfl _ _ rfl _ rfl hM ?_; clear hM; intro gb W hM; first | (simp only [List.nil_append] at hM) | (simp only [List.cons_append, List.nil_append] at hM))
          | ((with_reducible refine at_alloc_ (T := 24) ?_); refine wpList_alloc_mem rfl 24 rfl _ zv_Prefix _ rfl hM ?_; clear hM; intro gb W hM; first | (simp only [List.nil_append] at hM) | (simp only [List.cons_append, List.nil_append] at hM))
          | ((with_reducible refine at_load_ (T := 24) ?_); refine at_wanted_ (by rfl) ?_; refine wpList_loadg_mem (by go_simp) 24 _ rfl 0 _ _ _ hM rfl rfl _ Tryd.underlying24 rfl sz_Prefix ?_)
          | ((with_reducible refine at_store_ (T := 24) ?_); refine wpList_store_mem rfl 24 _ _ rfl 0 _ _ _ _ hM rfl rfl rfl rfl sz_Prefix rfl ?_; clear hM; intro W hM; simp only [List.set_cons_zero] at hM))
    obtain ⟨P, hP⟩ : ∃ P : ByteArray, P = ⟨(prt a).toArray⟩ := ⟨_, rfl⟩
    obtain ⟨I, hI⟩ : ∃ I : ByteArray, I = ⟨(itoa n).toArray⟩ := ⟨_, rfl⟩
    have hPz : P.size ≤ 15 := by rw [hP]; have := prt_len a; show ((prt a).toArray).size ≤ 15; simpa using this
    have hIz : I.size ≤ 3 := by rw [hI]; have := itoa_len n (by omega); show ((itoa n).toArray).size ≤ 3; simpa using this
    have AW := HAD.out.kept hM.b
    have hc := hM.cells 0 rfl
    have hlt := hM.lt 0 rfl
    have H1 := Lib.hid (fun (u : Later W) => (by have h := Print_any a u.now HAA.out (AW.kept u.still); rw [← hP] at h; exact h : Calls Tryd.prog 5 #[.int .u32 a] u.now fun e w' => e = .returned (.string P) ∧ Below u.now.heap.size u.now w'))
    have H2 := Lib.hid (fun (u : Later W) => (by have h := itoa_any n u.now HN.out.1 HN.out.2 (AW.kept u.still); rw [← hI] at h; exact h : Calls Tryd.prog 11 #[.int .i64 n] u.now fun e w' => e = .returned (.string I) ∧ Below u.now.heap.size u.now w'))
    have HPI := Lib.hid (And.intro hP hI)
    have hs1 : P.size + 1 ≤ 9223372036854775807 := by omega
    have hs2 : P.size + 1 + I.size ≤ 9223372036854775807 := by omega
    clear hP hI AW hb
    refine wp_region_later (by kernel_rfl) (by kernel_rfl) (fun hlc => ?_)
    repeat (go_big_quiet_step ((first | (go_at_call 5; exact later_call (H1.out _)) | (go_at_call 11; exact later_call (H2.out _)))))
    refine wpQuiet_nil ?_
    intro wq hbq
    clear hlc hc hlt H1 H2
    replace hM := hM.kept hbq
    (go_wp2_with fail)
    refine bodyPost_ret (v := .tuple #[.string (P ++ ⟨#[47]⟩ ++ I), .int .i64 0]) (by simp [results, Tryd.results6, go_sem]) rfl ?_
    refine ⟨?_, hM.b⟩
    rw [HPI.out.1, HPI.out.2, cat_is]
    unfold ppS ppL
    rw [← HK.out, if_pos rfl]
  · have t1 : (k != 0) = true := by simpa using h0
    go_wp2_with (first
      | go_skip
      | (go_at_call 8; go_must (refine (HCK.out _).mono ?_; rintro e W ⟨rfl, hb⟩; replace hM := hM.kept hb; clear hb))
      | ((with_reducible refine at_box_ ?_); refine wpList_box_mem rfl _ _ rfl _ rfl hM ?_; clear hM; intro gb W hM; first | (simp only [List.nil_append] at hM) | (simp only [List.cons_append, List.nil_append] at hM))
      | ((with_reducible refine at_alloc_ (T := 24) ?_); refine wpList_alloc_mem rfl 24 rfl _ zv_Prefix _ rfl hM ?_; clear hM; intro gb W hM; first | (simp only [List.nil_append] at hM) | (simp only [List.cons_append, List.nil_append] at hM))
      | ((with_reducible refine at_load_ (T := 24) ?_); refine at_wanted_ (by rfl) ?_; refine wpList_loadg_mem (by go_simp) 24 _ rfl 0 _ _ _ hM rfl rfl _ Tryd.underlying24 rfl sz_Prefix ?_)
      | ((with_reducible refine at_store_ (T := 24) ?_); refine wpList_store_mem rfl 24 _ _ rfl 0 _ _ _ _ hM rfl rfl rfl rfl sz_Prefix rfl ?_; clear hM; intro W hM; simp only [List.set_cons_zero] at hM))
    refine bodyPost_ret (v := .tuple #[.string ⟨#[]⟩, .int .i64 k]) (by simp [results, Tryd.results6, go_sem]) rfl ?_
    refine ⟨?_, hM.b⟩
    unfold ppS ppL
    rw [← HK.out, if_neg h0]
/-- what ParsePrefix answers -/
def ppx (l : List UInt8) : (Int × Int) × Int :=
  if atB (cut l [47]).2.1 = true ∧ (prs (cut l [47]).1).2 = 0 ∧ chkZ (prs (cut l [47]).1).1 (atN (cut l [47]).2.1) = 0 ∧ ppL (prs (cut l [47]).1).1 (atN (cut l [47]).2.1) = l then
    (((prs (cut l [47]).1).1, atN (cut l [47]).2.1), 0) else ((0, 0), 4)
theorem cut_len (l : List UInt8) (d : UInt8) : (cut l [d]).1.length ≤ l.length ∧ (cut l [d]).2.1.length ≤ l.length := by
  unfold cut
  split
  · simp only [List.length_take, List.length_drop]; omega
  · exact ⟨Nat.le_refl _, Nat.zero_le _⟩
set_option maxRecDepth 100000 in
set_option maxHeartbeats 2000000 in
theorem ParsePrefix_any (s : ByteArray) (w : World) (hs : s.size ≤ 140737488355328) (hA : Ad w) :
    Calls Tryd.prog 7 #[.string s] w fun e w' => e = .returned (.tuple #[.agg #[.int .u32 (ppx s.data.toList).1.1, .int .i64 (ppx s.data.toList).1.2], .int .i64 (ppx s.data.toList).2]) ∧ Below w.heap.size w w' := by
  have HCU := Lib.hid (fun W => cut_any s W hs)
  have HAD := Lib.hid hA
  have hM := Mem.nil w
  have HS := Lib.hid hs
  clear hA hs
  go_enter Tryd.func7, Tryd.ntmps7
  go_upto_region 2 with         (first
          | go_skip
          | (go_at_call 13; refine (HCU.out _).mono ?_; rintro e W ⟨x, y, b, rfl, hx, hy, hb⟩; have HX := Lib.hid hx; have HY := Lib.hid hy; replace hM := hM.kept hb; clear hx hy hb; dsimp only)
          | ((with_reducible refine at_box_ ?_); refine wpList_box_mem rfl _ _ rfl _ rfl hM ?_; clear hM; intro gb W hM; first | (simp only [List.nil_append] at hM) | (simp only [List.cons_append, List.nil_append] at hM))
          | ((with_reducible refine at_alloc_ (T := 24) ?_); refine wpList_alloc_mem rfl 24 rfl _ zv_Prefix _ rfl hM ?_; clear hM; intro gb W hM; first | (simp only [List.nil_append] at hM) | (simp only [List.cons_append, List.nil_append] at hM))
          | ((with_reducible refine at_load_ (T := 24) ?_); refine at_wanted_ (by rfl) ?_; first | (refine wpList_loadg_mem (by go_simp) 24 _ rfl 0 _ _ _ hM rfl rfl _ Tryd.underlying24 rfl sz_Prefix ?_) | (refine wpList_loadg_mem (by go_simp) 24 _ rfl 1 _ _ _ hM rfl rfl _ Tryd.underlying24 rfl sz_Prefix ?_) | (refine wpList_loadg_mem (by go_simp) 24 _ rfl 2 _ _ _ hM rfl rfl _ Tryd.underlying24 rfl sz_Prefix ?_))
          | ((with_reducible refine at_store_ (T := 24) ?_); first | (refine wpList_store_mem rfl 24 _ _ rfl 0 _ _ _ _ hM rfl rfl rfl rfl sz_Prefix rfl ?_; clear hM; intro W hM; simp only [List.set_cons_zero] at hM) | (refine wpList_store_mem rfl 24 _ _ rfl 1 _ _ _ _ hM rfl rfl rfl rfl sz_Prefix rfl ?_; clear hM; intro W hM; simp only [List.set_cons_succ, List.set_cons_zero] at hM) | (refine wpList_store_mem rfl 24 _ _ rfl 2 _ _ _ _ hM rfl rfl rfl rfl sz_Prefix rfl ?_; clear hM; intro W hM; simp only [List.set_cons_succ, List.set_cons_zero] at hM)))
  obtain ⟨g2, hg2⟩ : ∃ x, x = gb := ⟨_, rfl⟩
  subst hg2
  have hcl := cut_len s.data.toList 47
  have hxz : x.size ≤ 140737488355328 := by have := HS.out; rw [← ba_len, HX.out]; rw [ba_len] at hcl; omega
  have hyz : y.size ≤ 140737488355328 := by have := HS.out; rw [← ba_len, HY.out]; rw [ba_len] at hcl; omega
  have HXZ := Lib.hid hxz
  have HYZ := Lib.hid hyz
  clear hcl hxz hyz HCU
  obtain ⟨vn, hvn⟩ : ∃ v, v = atN y.data.toList := ⟨_, rfl⟩
  obtain ⟨xa, hxa⟩ : ∃ v, v = (prs x.data.toList).1 := ⟨_, rfl⟩
  obtain ⟨xe, hxe⟩ : ∃ v, v = (prs x.data.toList).2 := ⟨_, rfl⟩
  obtain ⟨ck, hck⟩ : ∃ v, v = chkZ xa vn := ⟨_, rfl⟩
  obtain ⟨PP, hPP⟩ : ∃ v, v = ppS xa vn := ⟨_, rfl⟩
  have hvb := atN_bd y.data.toList
  have hxb := prs_bd x.data.toList
  rw [← hvn] at hvb
  rw [← hxa] at hxb
  have HPA := Lib.hid (fun (W : World) (h : Ad W) => (by have h2 := Parse_any x W HXZ.out h; rw [← hxa, ← hxe] at h2; exact h2 : Calls Tryd.prog 4 #[.string x] W fun e w' => e = .returned (.tuple #[.int .u32 xa, .int .i64 xe]) ∧ Below W.heap.size W w'))
  have HPP := Lib.hid (fun (W : World) (h : Ad W) => (by have h2 := PrintPrefix_any xa vn W hxb hvb h; rw [← hck, ← hPP] at h2; exact h2 : Calls Tryd.prog 6 #[.agg #[.int .u32 xa, .int .i64 vn]] W fun e w' => e = .returned (.tuple #[.string PP, .int .i64 ck]) ∧ Below W.heap.size W w'))
  have HE := Lib.hid (show ppx s.data.toList = if atB y.data.toList = true ∧ xe = 0 ∧ ck = 0 ∧ PP.data.toList = s.data.toList then ((xa, vn), 0) else ((0, 0), 4) from by
    unfold ppx; rw [← HX.out, ← HY.out, ← hxa, ← hxe, ← hvn, ← hck, hPP, ppS_list])
  rcases Bool.eq_false_or_eq_true (atB y.data.toList) with hB | hB
  · have HAT := Lib.hid (fun (W : World) (h : Ad W) => (by have h2 := atoi_any y W HYZ.out h; unfold atR_ at h2; simp only [hB, if_true, ← hvn] at h2; exact h2 : Calls Tryd.prog 14 #[.string y] W fun e w' => e = .returned (.tuple #[.int .i64 vn, .nilIface]) ∧ Below W.heap.size W w'))
    rw [hB] at HE
    clear hvn hxa hxe hck hPP hvb hxb hB
    go_upto_region 6 with         (first
          | go_skip
          | (go_at_call 14; refine (HAT.out _ (HAD.out.kept hM.b)).mono ?_; rintro e W ⟨rfl, hb⟩; replace hM := hM.kept hb; clear hb; dsimp only)
          | (go_at_call 4; refine (HPA.out _ (HAD.out.kept hM.b)).mono ?_; rintro e W ⟨rfl, hb⟩; replace hM := hM.kept hb; clear hb; dsimp only)
          | (go_at_call 6; refine (HPP.out _ (HAD.out.kept hM.b)).mono ?_; rintro e W ⟨rfl, hb⟩; replace hM := hM.kept hb; clear hb; dsimp only)
          | ((with_reducible refine at_box_ ?_); refine wpList_box_mem rfl _ _ rfl _ rfl hM ?_; clear hM; intro gb W hM; first | (simp only [List.nil_append] at hM) | (simp only [List.cons_append, List.nil_append] at hM))
          | ((with_reducible refine at_alloc_ (T := 24) ?_); refine wpList_alloc_mem rfl 24 rfl _ zv_Prefix _ rfl hM ?_; clear hM; intro gb W hM; first | (simp only [List.nil_append] at hM) | (simp only [List.cons_append, List.nil_append] at hM))
          | ((with_reducible refine at_load_ (T := 24) ?_); refine at_wanted_ (by rfl) ?_; first | (refine wpList_loadg_mem (by go_simp) 24 _ rfl 0 _ _ _ hM rfl rfl _ Tryd.underlying24 rfl sz_Prefix ?_) | (refine wpList_loadg_mem (by go_simp) 24 _ rfl 1 _ _ _ hM rfl rfl _ Tryd.underlying24 rfl sz_Prefix ?_) | (refine wpList_loadg_mem (by go_simp) 24 _ rfl 2 _ _ _ hM rfl rfl _ Tryd.underlying24 rfl sz_Prefix ?_))
          | ((with_reducible refine at_store_ (T := 24) ?_); first | (refine wpList_store_mem rfl 24 _ _ rfl 0 _ _ _ _ hM rfl rfl rfl rfl sz_Prefix rfl ?_; clear hM; intro W hM; simp only [List.set_cons_zero] at hM) | (refine wpList_store_mem rfl 24 _ _ rfl 1 _ _ _ _ hM rfl rfl rfl rfl sz_Prefix rfl ?_; clear hM; intro W hM; simp only [List.set_cons_succ, List.set_cons_zero] at hM) | (refine wpList_store_mem rfl 24 _ _ rfl 2 _ _ _ _ hM rfl rfl rfl rfl sz_Prefix rfl ?_; clear hM; intro W hM; simp only [List.set_cons_succ, List.set_cons_zero] at hM)))
    by_cases h1 : xe = 0
    · subst h1
      by_cases h2 : ck = 0
      · subst h2
        by_cases h3 : PP.toList = s.toList
        · have t3 : (PP.toList == s.toList) = true := by simpa using h3
          have H3 := Lib.hid h3
          clear h3
          go_wp2_with (first
            | go_skip
            | ((with_reducible refine at_box_ ?_); refine wpList_box_mem rfl _ _ rfl _ rfl hM ?_; clear hM; intro gb W hM; first | (simp only [List.nil_append] at hM) | (simp only [List.cons_append, List.nil_append] at hM))
            | ((with_reducible refine at_alloc_ (T := 24) ?_); refine wpList_alloc_mem rfl 24 rfl _ zv_Prefix _ rfl hM ?_; clear hM; intro gb W hM; first | (simp only [List.nil_append] at hM) | (simp only [List.cons_append, List.nil_append] at hM))
            | ((with_reducible refine at_load_ (T := 24) ?_); refine at_wanted_ (by rfl) ?_; first | (refine wpList_loadg_mem (by go_simp) 24 _ rfl 0 _ _ _ hM rfl rfl _ Tryd.underlying24 rfl sz_Prefix ?_) | (refine wpList_loadg_mem (by go_simp) 24 _ rfl 1 _ _ _ hM rfl rfl _ Tryd.underlying24 rfl sz_Prefix ?_) | (refine wpList_loadg_mem (by go_simp) 24 _ rfl 2 _ _ _ hM rfl rfl _ Tryd.underlying24 rfl sz_Prefix ?_))
            | ((with_reducible refine at_store_ (T := 24) ?_); first | (refine wpList_store_mem rfl 24 _ _ rfl 0 _ _ _ _ hM rfl rfl rfl rfl sz_Prefix rfl ?_; clear hM; intro W hM; simp only [List.set_cons_zero] at hM) | (refine wpList_store_mem rfl 24 _ _ rfl 1 _ _ _ _ hM rfl rfl rfl rfl sz_Prefix rfl ?_; clear hM; intro W hM; simp only [List.set_cons_succ, List.set_cons_zero] at hM) | (refine wpList_store_mem rfl 24 _ _ rfl 2 _ _ _ _ hM rfl rfl rfl rfl sz_Prefix rfl ?_; clear hM; intro W hM; simp only [List.set_cons_succ, List.set_cons_zero] at hM)))
          have hc := hM.cells 0 rfl
          refine bodyPost_ret (v := .tuple #[.agg #[.int .u32 xa, .int .i64 vn], .int .i64 0]) (by simp [results, Tryd.results7, go_sem, hc]) rfl ?_
          refine ⟨?_, hM.b⟩
          rw [HE.out, if_pos ⟨trivial, trivial, trivial, by have h := H3.out; rw [ByteArray.toList_eq, ByteArray.toList_eq] at h; exact h⟩]
        · have t3 : (PP.toList == s.toList) = false := by simpa using h3
          have H3 := Lib.hid h3
          clear h3
          go_wp2_with (first
            | go_skip
            | ((with_reducible refine at_box_ ?_); refine wpList_box_mem rfl _ _ rfl _ rfl hM ?_; clear hM; intro gb W hM; first | (simp only [List.nil_append] at hM) | (simp only [List.cons_append, List.nil_append] at hM))
            | ((with_reducible refine at_alloc_ (T := 24) ?_); refine wpList_alloc_mem rfl 24 rfl _ zv_Prefix _ rfl hM ?_; clear hM; intro gb W hM; first | (simp only [List.nil_append] at hM) | (simp only [List.cons_append, List.nil_append] at hM))
            | ((with_reducible refine at_load_ (T := 24) ?_); refine at_wanted_ (by rfl) ?_; first | (refine wpList_loadg_mem (by go_simp) 24 _ rfl 0 _ _ _ hM rfl rfl _ Tryd.underlying24 rfl sz_Prefix ?_) | (refine wpList_loadg_mem (by go_simp) 24 _ rfl 1 _ _ _ hM rfl rfl _ Tryd.underlying24 rfl sz_Prefix ?_) | (refine wpList_loadg_mem (by go_simp) 24 _ rfl 2 _ _ _ hM rfl rfl _ Tryd.underlying24 rfl sz_Prefix ?_))
            | ((with_reducible refine at_store_ (T := 24) ?_); first | (refine wpList_store_mem rfl 24 _ _ rfl 0 _ _ _ _ hM rfl rfl rfl rfl sz_Prefix rfl ?_; clear hM; intro W hM; simp only [List.set_cons_zero] at hM) | (refine wpList_store_mem rfl 24 _ _ rfl 1 _ _ _ _ hM rfl rfl rfl rfl sz_Prefix rfl ?_; clear hM; intro W hM; simp only [List.set_cons_succ, List.set_cons_zero] at hM) | (refine wpList_store_mem rfl 24 _ _ rfl 2 _ _ _ _ hM rfl rfl rfl rfl sz_Prefix rfl ?_; clear hM; intro W hM; simp only [List.set_cons_succ, List.set_cons_zero] at hM)))
          have hc := hM.cells 0 rfl
          refine bodyPost_ret (v := .tuple #[.agg #[.int .u32 0, .int .i64 0], .int .i64 4]) (by simp [results, Tryd.results7, go_sem, hc]) rfl ?_
          refine ⟨?_, hM.b⟩
          rw [HE.out, if_neg (fun h => H3.out (by rw [ByteArray.toList_eq, ByteArray.toList_eq]; exact h.2.2.2))]
      · have t2 : (ck != 0) = true := by simpa using h2
        have H2 := Lib.hid h2
        clear h2
        go_wp2_with (first
          | go_skip
          | ((with_reducible refine at_box_ ?_); refine wpList_box_mem rfl _ _ rfl _ rfl hM ?_; clear hM; intro gb W hM; first | (simp only [List.nil_append] at hM) | (simp only [List.cons_append, List.nil_append] at hM))
          | ((with_reducible refine at_alloc_ (T := 24) ?_); refine wpList_alloc_mem rfl 24 rfl _ zv_Prefix _ rfl hM ?_; clear hM; intro gb W hM; first | (simp only [List.nil_append] at hM) | (simp only [List.cons_append, List.nil_append] at hM))
          | ((with_reducible refine at_load_ (T := 24) ?_); refine at_wanted_ (by rfl) ?_; first | (refine wpList_loadg_mem (by go_simp) 24 _ rfl 0 _ _ _ hM rfl rfl _ Tryd.underlying24 rfl sz_Prefix ?_) | (refine wpList_loadg_mem (by go_simp) 24 _ rfl 1 _ _ _ hM rfl rfl _ Tryd.underlying24 rfl sz_Prefix ?_) | (refine wpList_loadg_mem (by go_simp) 24 _ rfl 2 _ _ _ hM rfl rfl _ Tryd.underlying24 rfl sz_Prefix ?_))
          | ((with_reducible refine at_store_ (T := 24) ?_); first | (refine wpList_store_mem rfl 24 _ _ rfl 0 _ _ _ _ hM rfl rfl rfl rfl sz_Prefix rfl ?_; clear hM; intro W hM; simp only [List.set_cons_zero] at hM) | (refine wpList_store_mem rfl 24 _ _ rfl 1 _ _ _ _ hM rfl rfl rfl rfl sz_Prefix rfl ?_; clear hM; intro W hM; simp only [List.set_cons_succ, List.set_cons_zero] at hM) | (refine wpList_store_mem rfl 24 _ _ rfl 2 _ _ _ _ hM rfl rfl rfl rfl sz_Prefix rfl ?_; clear hM; intro W hM; simp only [List.set_cons_succ, List.set_cons_zero] at hM)))
        have hc := hM.cells 0 rfl
        refine bodyPost_ret (v := .tuple #[.agg #[.int .u32 0, .int .i64 0], .int .i64 4]) (by simp [results, Tryd.results7, go_sem, hc]) rfl ?_
        refine ⟨?_, hM.b⟩
        rw [HE.out, if_neg (fun h => H2.out h.2.2.1)]
    · have t1 : (xe != 0) = true := by simpa using h1
      have H1 := Lib.hid h1
      clear h1
      go_wp2_with (first
        | go_skip
        | ((with_reducible refine at_box_ ?_); refine wpList_box_mem rfl _ _ rfl _ rfl hM ?_; clear hM; intro gb W hM; first | (simp only [List.nil_append] at hM) | (simp only [List.cons_append, List.nil_append] at hM))
        | ((with_reducible refine at_alloc_ (T := 24) ?_); refine wpList_alloc_mem rfl 24 rfl _ zv_Prefix _ rfl hM ?_; clear hM; intro gb W hM; first | (simp only [List.nil_append] at hM) | (simp only [List.cons_append, List.nil_append] at hM))
        | ((with_reducible refine at_load_ (T := 24) ?_); refine at_wanted_ (by rfl) ?_; first | (refine wpList_loadg_mem (by go_simp) 24 _ rfl 0 _ _ _ hM rfl rfl _ Tryd.underlying24 rfl sz_Prefix ?_) | (refine wpList_loadg_mem (by go_simp) 24 _ rfl 1 _ _ _ hM rfl rfl _ Tryd.underlying24 rfl sz_Prefix ?_) | (refine wpList_loadg_mem (by go_simp) 24 _ rfl 2 _ _ _ hM rfl rfl _ Tryd.underlying24 rfl sz_Prefix ?_))
        | ((with_reducible refine at_store_ (T := 24) ?_); first | (refine wpList_store_mem rfl 24 _ _ rfl 0 _ _ _ _ hM rfl rfl rfl rfl sz_Prefix rfl ?_; clear hM; intro W hM; simp only [List.set_cons_zero] at hM) | (refine wpList_store_mem rfl 24 _ _ rfl 1 _ _ _ _ hM rfl rfl rfl rfl sz_Prefix rfl ?_; clear hM; intro W hM; simp only [List.set_cons_succ, List.set_cons_zero] at hM) | (refine wpList_store_mem rfl 24 _ _ rfl 2 _ _ _ _ hM rfl rfl rfl rfl sz_Prefix rfl ?_; clear hM; intro W hM; simp only [List.set_cons_succ, List.set_cons_zero] at hM)))
      have hc := hM.cells 0 rfl
      refine bodyPost_ret (v := .tuple #[.agg #[.int .u32 0, .int .i64 0], .int .i64 4]) (by simp [results, Tryd.results7, go_sem, hc]) rfl ?_
      refine ⟨?_, hM.b⟩
      rw [HE.out, if_neg (fun h => H1.out h.2.1)]
  · have HAT := Lib.hid (fun (W : World) (h : Ad W) => (by have h2 := atoi_any y W HYZ.out h; unfold atR_ at h2; simp only [hB, Bool.false_eq_true, if_false, ← hvn] at h2; exact h2 : Calls Tryd.prog 14 #[.string y] W fun e w' => (∃ N, e = .returned (.tuple #[.int .i64 vn, .iface 66 (.pointer (some ⟨N, 0, none⟩))])) ∧ Below W.heap.size W w'))
    rw [hB] at HE
    clear hvn hxa hxe hck hPP hvb hxb hB
    go_wp2_with (first
      | go_skip
      | (go_at_call 14; refine (HAT.out _ (HAD.out.kept hM.b)).mono ?_; rintro e W ⟨⟨N, rfl⟩, hb⟩; replace hM := hM.kept hb; clear hb; dsimp only)
      | (go_at_call 4; refine (HPA.out _ (HAD.out.kept hM.b)).mono ?_; rintro e W ⟨rfl, hb⟩; replace hM := hM.kept hb; clear hb; dsimp only)
      | (go_at_call 6; refine (HPP.out _ (HAD.out.kept hM.b)).mono ?_; rintro e W ⟨rfl, hb⟩; replace hM := hM.kept hb; clear hb; dsimp only)
      | ((with_reducible refine at_box_ ?_); refine wpList_box_mem rfl _ _ rfl _ rfl hM ?_; clear hM; intro gb W hM; first | (simp only [List.nil_append] at hM) | (simp only [List.cons_append, List.nil_append] at hM))
      | ((with_reducible refine at_alloc_ (T := 24) ?_); refine wpList_alloc_mem rfl 24 rfl _ zv_Prefix _ rfl hM ?_; clear hM; intro gb W hM; first | (simp only [List.nil_append] at hM) | (simp only [List.cons_append, List.nil_append] at hM))
      | ((with_reducible refine at_load_ (T := 24) ?_); refine at_wanted_ (by rfl) ?_; first | (refine wpList_loadg_mem (by go_simp) 24 _ rfl 0 _ _ _ hM rfl rfl _ Tryd.underlying24 rfl sz_Prefix ?_) | (refine wpList_loadg_mem (by go_simp) 24 _ rfl 1 _ _ _ hM rfl rfl _ Tryd.underlying24 rfl sz_Prefix ?_) | (refine wpList_loadg_mem (by go_simp) 24 _ rfl 2 _ _ _ hM rfl rfl _ Tryd.underlying24 rfl sz_Prefix ?_))
      | ((with_reducible refine at_store_ (T := 24) ?_); first | (refine wpList_store_mem rfl 24 _ _ rfl 0 _ _ _ _ hM rfl rfl rfl rfl sz_Prefix rfl ?_; clear hM; intro W hM; simp only [List.set_cons_zero] at hM) | (refine wpList_store_mem rfl 24 _ _ rfl 1 _ _ _ _ hM rfl rfl rfl rfl sz_Prefix rfl ?_; clear hM; intro W hM; simp only [List.set_cons_succ, List.set_cons_zero] at hM) | (refine wpList_store_mem rfl 24 _ _ rfl 2 _ _ _ _ hM rfl rfl rfl rfl sz_Prefix rfl ?_; clear hM; intro W hM; simp only [List.set_cons_succ, List.set_cons_zero] at hM)))
    have hc := hM.cells 0 rfl
    refine bodyPost_ret (v := .tuple #[.agg #[.int .u32 0, .int .i64 0], .int .i64 4]) (by simp [results, Tryd.results7, go_sem, hc]) rfl ?_
    refine ⟨?_, hM.b⟩
    rw [HE.out, if_neg (fun h => absurd h.1 (by decide))]
end Go.Proofs.YtamckbjckgpniaaDoor
