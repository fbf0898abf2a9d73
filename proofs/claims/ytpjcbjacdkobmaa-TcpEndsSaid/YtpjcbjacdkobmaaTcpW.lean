/- The contract of tcp's Write. -/
import Derived.Test.YtpjcbjacdkobmaaTcpF
namespace Go.Proofs.Ytpjcbjacdkobmaa
open Go.RowKit Go.Lib
set_option linter.unusedVariables false

theorem tcChk_ok {g : KSeg} (h : tcChk g = 0) : (0 < g.fp ∧ g.fp ≤ 65535) ∧ (0 < g.tp ∧ g.tp ≤ 65535) ∧ (0 ≤ g.win ∧ g.win ≤ 65535) ∧ (0 ≤ g.mss ∧ g.mss ≤ 65535) ∧ tcForm g = false ∧ g.b.size ≤ 1000 := by
  unfold tcChk at h
  split at h
  · cases h
  · rename_i h1
    split at h
    · cases h
    · rename_i h2
      split at h
      · cases h
      · simp only [tcArg, portT, Bool.or_eq_true, Bool.not_eq_true', decide_eq_true_eq, decide_eq_false_iff_not] at h1
        refine ⟨by omega, by omega, by omega, by omega, by simpa using h2, by omega⟩
def tcOff (g : KSeg) : Int := if g.mss = 0 then 80 else 96
def tcOpt (g : KSeg) : List Int := if g.mss = 0 then [] else [2, 4, g.mss / 256, g.mss]
def tcFix (g : KSeg) (off : Int) : List Int := [g.fp / 256, g.fp, g.tp / 256, g.tp, g.seq / 16777216, g.seq / 65536, g.seq % 65536 / 256, g.seq % 65536, g.ack / 16777216, g.ack / 65536, g.ack % 65536 / 256, g.ack % 65536, off, tcFl g, g.win / 256, g.win, 0, 0, 0, 0]
def tcHead (g : KSeg) : List Int := tcFix g (tcOff g) ++ tcOpt g
def tcBare (g : KSeg) : List Int := tcHead g ++ sI g.b
def tcN (g : KSeg) : Int := tcSum g.fa g.ta (byteS (tcBare g))
def tcL (g : KSeg) : List Int := ((tcBare g).set 16 (tcN g / 256)).set 17 (tcN g)
def tcS (g : KSeg) : ByteArray := byteS (tcL g)
theorem tcSum_bd (s d : Int) (t : ByteArray) : 0 ≤ tcSum s d t ∧ tcSum s d t ≤ 65535 := by
  have h1 := sumZ_lo (byteL (pseuL s d 6 (t.size : Int)) ++ t.data.toList)
  have h2 := sumZ_hi (byteL (pseuL s d 6 (t.size : Int)) ++ t.data.toList)
  unfold tcSum tcX
  omega
theorem tcHead_len (g : KSeg) : 20 ≤ (tcHead g).length ∧ (tcHead g).length ≤ 24 := by
  unfold tcHead tcOpt tcFix
  split <;> simp
theorem tcBare_len (g : KSeg) : (tcBare g).length = (tcHead g).length + g.b.size := by unfold tcBare; rw [List.length_append, sI_len]
theorem tcL_len (g : KSeg) : (tcL g).length = (tcHead g).length + g.b.size := by unfold tcL; rw [List.length_set, List.length_set, tcBare_len]
theorem tcFl_bd (g : KSeg) : 0 ≤ tcFl g ∧ tcFl g ≤ 23 := by
  unfold tcFl zb
  split <;> split <;> split <;> split <;> omega
set_option maxRecDepth 100000 in
set_option maxHeartbeats 2000000 in
theorem tcWrite_no (g : KSeg) (w : World) (ok : SegOk g) (hc : tcChk g ≠ 0) :
    Calls Try.prog 20 #[.agg (cSeg g).toArray] w fun e w' => e = .returned (.tuple #[.string ⟨#[]⟩, .int .i64 (tcChk g)]) ∧ Below w.heap.size w w' := by
  have HC := Lib.hid (fun W => tcCheck_any g W ok)
  have hne : ((tcChk g : Int) != 0) = true := by simpa using hc
  have hM := Mem.nil w
  go_enter Try.func20, Try.ntmps20
  go_wp2_with (first
    | (go_at_call 22; go_must (refine (HC.out _).mono ?_; rintro e W ⟨rfl, hb⟩; replace hM := hM.kept hb; clear hb))
    | (refine at_box_ ?_; refine wpList_box_mem rfl _ _ rfl _ rfl hM ?_; clear hM; intro gb W hM; first | (simp only [List.nil_append] at hM) | (simp only [List.cons_append, List.nil_append] at hM))
    | (refine at_alloc_ (T := 47) ?_; refine wpList_alloc_mem rfl 47 rfl _ zv_Seg _ rfl hM ?_; clear hM; intro gb W hM; first | (simp only [List.nil_append] at hM) | (simp only [List.cons_append, List.nil_append] at hM))
    | (refine at_load_ (T := 47) ?_; refine wpList_loadg_mem (by go_simp) 47 _ rfl 0 _ _ _ hM rfl rfl _ Try.underlying47 rfl sz_Seg ?_)
    | (refine at_store_ (T := 47) ?_; refine wpList_store_mem rfl 47 _ _ rfl 0 _ _ _ _ hM rfl rfl rfl rfl sz_Seg rfl ?_; clear hM; intro W hM; simp only [List.set_cons_zero] at hM))
  go_ret2
  exact ⟨rfl, hM.b⟩
set_option maxRecDepth 100000 in
set_option maxHeartbeats 4000000 in
theorem tcWrite_ok (g : KSeg) (w : World) (ok : SegOk g) (hc : tcChk g = 0) :
    Calls Try.prog 20 #[.agg (cSeg g).toArray] w fun e w' => e = .returned (.tuple #[.string (tcS g), .int .i64 0]) ∧ Below w.heap.size w w' := by
  have hck := fun W => tcCheck_any g W ok
  rw [hc] at hck
  have HCK := Lib.hid hck
  have HFL := Lib.hid (fun W => tcflags_any g W)
  obtain ⟨fl1, fl2⟩ := tcFl_bd g
  obtain ⟨⟨f1, f2⟩, ⟨t1, t2⟩, ⟨wi1, wi2⟩, ⟨ms1, ms2⟩, _, b1⟩ := tcChk_ok hc
  obtain ⟨fa1, fa2⟩ := ok.fa
  obtain ⟨ta1, ta2⟩ := ok.ta
  obtain ⟨sq1, sq2⟩ := ok.seq
  obtain ⟨ak1, ak2⟩ := ok.ack
  have HOK := Lib.hid ok
  have hM := Mem.nil w
  clear hck hc ok
  go_enter Try.func20, Try.ntmps20
  go_upto_region 4 with         (first
          | (go_at_call 22; go_must (refine (HCK.out _).mono ?_; rintro e W ⟨rfl, hb⟩; replace hM := hM.kept hb; clear hb))
          | (refine at_load_ (T := 22) ?_; refine wpList_load1_mem (by go_simp) 22 _ rfl _ Try.underlying22 rfl 0 _ _ _ _ _ hM rfl rfl rfl ?_)
          | (refine at_load_ (T := 3) ?_; refine wpList_load1_mem (by go_simp) 3 _ rfl _ Try.underlying3 rfl 0 _ _ _ _ _ hM rfl rfl rfl ?_)
          | (refine at_load_ (T := 4) ?_; refine wpList_load1_mem (by go_simp) 4 _ rfl _ Try.underlying4 rfl 0 _ _ _ _ _ hM rfl rfl rfl ?_)
          | (refine at_load_ (T := 9) ?_; refine wpList_load1_mem (by go_simp) 9 _ rfl _ Try.underlying9 rfl 0 _ _ _ _ _ hM rfl rfl rfl ?_)
          | (refine at_box_ ?_; refine wpList_box_mem rfl _ _ rfl _ rfl hM ?_; clear hM; intro gb W hM; first | (simp only [List.nil_append] at hM) | (simp only [List.cons_append, List.nil_append] at hM))
          | (refine at_alloc_ (T := 47) ?_; refine wpList_alloc_mem rfl 47 rfl _ zv_Seg _ rfl hM ?_; clear hM; intro gb W hM; first | (simp only [List.nil_append] at hM) | (simp only [List.cons_append, List.nil_append] at hM))
          | (refine at_load_ (T := 47) ?_; refine wpList_loadg_mem (by go_simp) 47 _ rfl 0 _ _ _ hM rfl rfl _ Try.underlying47 rfl sz_Seg ?_)
          | (refine at_store_ (T := 47) ?_; refine wpList_store_mem rfl 47 _ _ rfl 0 _ _ _ _ hM rfl rfl rfl rfl sz_Seg rfl ?_; clear hM; intro W hM; simp only [List.set_cons_zero] at hM))
  replace hM := hM.ownNil w.heap.size
  simp only [List.cons_append, List.nil_append] at hM
  go_wp2_with (first
    | (go_at_call 45; go_must (refine (HFL.out _).mono ?_; rintro e W ⟨rfl, hb⟩; replace hM := hM.kept hb; clear hb))
    | (refine at_load_ (T := 22) ?_; refine wpList_load1_mem (by go_simp) 22 _ rfl _ Try.underlying22 rfl 0 _ _ _ _ _ hM rfl rfl rfl ?_)
    | (refine at_load_ (T := 3) ?_; refine wpList_load1_mem (by go_simp) 3 _ rfl _ Try.underlying3 rfl 0 _ _ _ _ _ hM rfl rfl rfl ?_)
    | (refine at_load_ (T := 4) ?_; refine wpList_load1_mem (by go_simp) 4 _ rfl _ Try.underlying4 rfl 0 _ _ _ _ _ hM rfl rfl rfl ?_)
    | (refine at_load_ (T := 9) ?_; refine wpList_load1_mem (by go_simp) 9 _ rfl _ Try.underlying9 rfl 0 _ _ _ _ _ hM rfl rfl rfl ?_)
    | (refine at_box_ ?_; refine wpList_box_mem rfl _ _ rfl _ rfl hM ?_; clear hM; intro gb W hM; first | (simp only [List.nil_append] at hM) | (simp only [List.cons_append, List.nil_append] at hM))
    | (refine at_alloc_ (T := 47) ?_; refine wpList_alloc_mem rfl 47 rfl _ zv_Seg _ rfl hM ?_; clear hM; intro gb W hM; first | (simp only [List.nil_append] at hM) | (simp only [List.cons_append, List.nil_append] at hM))
    | (refine at_load_ (T := 47) ?_; refine wpList_loadg_mem (by go_simp) 47 _ rfl 0 _ _ _ hM rfl rfl _ Try.underlying47 rfl sz_Seg ?_)
    | (refine at_store_ (T := 47) ?_; refine wpList_store_mem rfl 47 _ _ rfl 0 _ _ _ _ hM rfl rfl rfl rfl sz_Seg rfl ?_; clear hM; intro W hM; simp only [List.set_cons_zero] at hM))
  refine (Append16_any w.heap.size _ _ _ _ (hM.own 1 rfl) (by omega) (by omega) (by simp) hM.b.size).mono ?_
  rintro e W1 ⟨v1, rfl, hV, hO, hat⟩
  replace hM := hM.ownPut 1 rfl hV hO hat
  clear hV hO hat
  simp only [List.set_cons_succ, List.set_cons_zero, List.nil_append] at hM
  obtain ⟨A1, c1, rfl⟩ := (hM.own 1 rfl).form
  go_wp2_with (first
    | (go_at_call 45; go_must (refine (HFL.out _).mono ?_; rintro e W ⟨rfl, hb⟩; replace hM := hM.kept hb; clear hb))
    | (refine at_load_ (T := 22) ?_; refine wpList_load1_mem (by go_simp) 22 _ rfl _ Try.underlying22 rfl 0 _ _ _ _ _ hM rfl rfl rfl ?_)
    | (refine at_load_ (T := 3) ?_; refine wpList_load1_mem (by go_simp) 3 _ rfl _ Try.underlying3 rfl 0 _ _ _ _ _ hM rfl rfl rfl ?_)
    | (refine at_load_ (T := 4) ?_; refine wpList_load1_mem (by go_simp) 4 _ rfl _ Try.underlying4 rfl 0 _ _ _ _ _ hM rfl rfl rfl ?_)
    | (refine at_load_ (T := 9) ?_; refine wpList_load1_mem (by go_simp) 9 _ rfl _ Try.underlying9 rfl 0 _ _ _ _ _ hM rfl rfl rfl ?_)
    | (refine at_box_ ?_; refine wpList_box_mem rfl _ _ rfl _ rfl hM ?_; clear hM; intro gb W hM; first | (simp only [List.nil_append] at hM) | (simp only [List.cons_append, List.nil_append] at hM))
    | (refine at_alloc_ (T := 47) ?_; refine wpList_alloc_mem rfl 47 rfl _ zv_Seg _ rfl hM ?_; clear hM; intro gb W hM; first | (simp only [List.nil_append] at hM) | (simp only [List.cons_append, List.nil_append] at hM))
    | (refine at_load_ (T := 47) ?_; refine wpList_loadg_mem (by go_simp) 47 _ rfl 0 _ _ _ hM rfl rfl _ Try.underlying47 rfl sz_Seg ?_)
    | (refine at_store_ (T := 47) ?_; refine wpList_store_mem rfl 47 _ _ rfl 0 _ _ _ _ hM rfl rfl rfl rfl sz_Seg rfl ?_; clear hM; intro W hM; simp only [List.set_cons_zero] at hM))
  refine (Append16_any w.heap.size _ _ _ _ (hM.own 1 rfl) (by omega) (by omega) (by simp) hM.b.size).mono ?_
  rintro e W2 ⟨v2, rfl, hV, hO, hat⟩
  replace hM := hM.ownPut 1 rfl hV hO hat
  clear hV hO hat
  simp only [List.set_cons_succ, List.set_cons_zero, List.cons_append, List.nil_append] at hM
  obtain ⟨A2, c2, rfl⟩ := (hM.own 1 rfl).form
  go_wp2_with (first
    | (go_at_call 45; go_must (refine (HFL.out _).mono ?_; rintro e W ⟨rfl, hb⟩; replace hM := hM.kept hb; clear hb))
    | (refine at_load_ (T := 22) ?_; refine wpList_load1_mem (by go_simp) 22 _ rfl _ Try.underlying22 rfl 0 _ _ _ _ _ hM rfl rfl rfl ?_)
    | (refine at_load_ (T := 3) ?_; refine wpList_load1_mem (by go_simp) 3 _ rfl _ Try.underlying3 rfl 0 _ _ _ _ _ hM rfl rfl rfl ?_)
    | (refine at_load_ (T := 4) ?_; refine wpList_load1_mem (by go_simp) 4 _ rfl _ Try.underlying4 rfl 0 _ _ _ _ _ hM rfl rfl rfl ?_)
    | (refine at_load_ (T := 9) ?_; refine wpList_load1_mem (by go_simp) 9 _ rfl _ Try.underlying9 rfl 0 _ _ _ _ _ hM rfl rfl rfl ?_)
    | (refine at_box_ ?_; refine wpList_box_mem rfl _ _ rfl _ rfl hM ?_; clear hM; intro gb W hM; first | (simp only [List.nil_append] at hM) | (simp only [List.cons_append, List.nil_append] at hM))
    | (refine at_alloc_ (T := 47) ?_; refine wpList_alloc_mem rfl 47 rfl _ zv_Seg _ rfl hM ?_; clear hM; intro gb W hM; first | (simp only [List.nil_append] at hM) | (simp only [List.cons_append, List.nil_append] at hM))
    | (refine at_load_ (T := 47) ?_; refine wpList_loadg_mem (by go_simp) 47 _ rfl 0 _ _ _ hM rfl rfl _ Try.underlying47 rfl sz_Seg ?_)
    | (refine at_store_ (T := 47) ?_; refine wpList_store_mem rfl 47 _ _ rfl 0 _ _ _ _ hM rfl rfl rfl rfl sz_Seg rfl ?_; clear hM; intro W hM; simp only [List.set_cons_zero] at hM))
  refine (Append32_any w.heap.size _ _ _ _ (hM.own 1 rfl) (by omega) (by omega) (by simp) hM.b.size).mono ?_
  rintro e W3 ⟨v3, rfl, hV, hBx, hO, hat⟩
  replace hM := hM.ownPut 1 rfl hV hO hat
  clear hV hO hat hBx
  simp only [List.set_cons_succ, List.set_cons_zero, List.cons_append, List.nil_append] at hM
  obtain ⟨A3, c3, rfl⟩ := (hM.own 1 rfl).form
  go_wp2_with (first
    | (go_at_call 45; go_must (refine (HFL.out _).mono ?_; rintro e W ⟨rfl, hb⟩; replace hM := hM.kept hb; clear hb))
    | (refine at_load_ (T := 22) ?_; refine wpList_load1_mem (by go_simp) 22 _ rfl _ Try.underlying22 rfl 0 _ _ _ _ _ hM rfl rfl rfl ?_)
    | (refine at_load_ (T := 3) ?_; refine wpList_load1_mem (by go_simp) 3 _ rfl _ Try.underlying3 rfl 0 _ _ _ _ _ hM rfl rfl rfl ?_)
    | (refine at_load_ (T := 4) ?_; refine wpList_load1_mem (by go_simp) 4 _ rfl _ Try.underlying4 rfl 0 _ _ _ _ _ hM rfl rfl rfl ?_)
    | (refine at_load_ (T := 9) ?_; refine wpList_load1_mem (by go_simp) 9 _ rfl _ Try.underlying9 rfl 0 _ _ _ _ _ hM rfl rfl rfl ?_)
    | (refine at_box_ ?_; refine wpList_box_mem rfl _ _ rfl _ rfl hM ?_; clear hM; intro gb W hM; first | (simp only [List.nil_append] at hM) | (simp only [List.cons_append, List.nil_append] at hM))
    | (refine at_alloc_ (T := 47) ?_; refine wpList_alloc_mem rfl 47 rfl _ zv_Seg _ rfl hM ?_; clear hM; intro gb W hM; first | (simp only [List.nil_append] at hM) | (simp only [List.cons_append, List.nil_append] at hM))
    | (refine at_load_ (T := 47) ?_; refine wpList_loadg_mem (by go_simp) 47 _ rfl 0 _ _ _ hM rfl rfl _ Try.underlying47 rfl sz_Seg ?_)
    | (refine at_store_ (T := 47) ?_; refine wpList_store_mem rfl 47 _ _ rfl 0 _ _ _ _ hM rfl rfl rfl rfl sz_Seg rfl ?_; clear hM; intro W hM; simp only [List.set_cons_zero] at hM))
  refine (Append32_any w.heap.size _ _ _ _ (hM.own 1 rfl) (by omega) (by omega) (by simp) hM.b.size).mono ?_
  rintro e W4 ⟨v4, rfl, hV, hBx, hO, hat⟩
  replace hM := hM.ownPut 1 rfl hV hO hat
  clear hV hO hat hBx
  simp only [List.set_cons_succ, List.set_cons_zero, List.cons_append, List.nil_append] at hM
  obtain ⟨A4, c4, rfl⟩ := (hM.own 1 rfl).form
  go_upto_region 8 with fail
  go_wp2_with (first
    | (go_at_call 45; go_must (refine (HFL.out _).mono ?_; rintro e W ⟨rfl, hb⟩; replace hM := hM.kept hb; clear hb; have hV2 := hM.own 1 rfl))
    | (refine at_load_ (T := 47) ?_; refine wpList_loadg_mem (by go_simp) 47 _ rfl 0 _ _ _ hM rfl rfl _ Try.underlying47 rfl sz_Seg ?_)
    | (at_builtin; obtain ⟨iG, zG, iG0, iG1, iG2, iG3, iG4⟩ := elem_u8; refine wpList_append_win rfl _ _ 79 rfl w.heap.size 5 iG zG 1 1 Try.underlying79 iG0 iG1 iG2 iG3 iG4 (by decide) _ _ _ rfl (hV2.alloc _) ⟨W.heap.size, 0, none⟩ 2 2 ([80, tcFl g].map b8) rfl rfl ?news ?one (by decide) ?mx ?byt ?ba ?_))
  case news =>
    have e : ([80, tcFl g].map b8) = [.int .u8 80, .int .u8 (tcFl g)] := by
      simp [b8]; omega
    rw [e]
    exact At.news (At.new_ _ 5 _)
  case one => exact b8_one _
  case mx => simp [maxLen]
  case byt => simp
  case ba => have := hM.b.size; simp; omega
  intro v8 W8 hV hO hat
  have hM3 : Mem w W8 [atR _ 47 (cSeg g), ownR w.heap.size v8 [g.fp / 256, g.fp, g.tp / 256, g.tp, g.seq / 16777216, g.seq / 65536, g.seq % 65536 / 256, g.seq % 65536, g.ack / 16777216, g.ack / 65536, g.ack % 65536 / 256, g.ack % 65536, 80, tcFl g]] := (hM.kept (below_ca (Below.refl _ _) _)).ownPut 1 rfl hV hO (by
    rcases hat with h | ⟨k, h, hk⟩
    · exact .inl h
    · exact .inr ⟨k, h, by simpa using hk⟩)
  clear hM hV2 hV hO hat
  have hM := hM3
  clear hM3
  obtain ⟨A8, c8, rfl⟩ := (hM.own 1 rfl).form
  go_wp2_with (first
    | (go_at_call 45; go_must (refine (HFL.out _).mono ?_; rintro e W ⟨rfl, hb⟩; replace hM := hM.kept hb; clear hb))
    | (refine at_load_ (T := 22) ?_; refine wpList_load1_mem (by go_simp) 22 _ rfl _ Try.underlying22 rfl 0 _ _ _ _ _ hM rfl rfl rfl ?_)
    | (refine at_load_ (T := 3) ?_; refine wpList_load1_mem (by go_simp) 3 _ rfl _ Try.underlying3 rfl 0 _ _ _ _ _ hM rfl rfl rfl ?_)
    | (refine at_load_ (T := 4) ?_; refine wpList_load1_mem (by go_simp) 4 _ rfl _ Try.underlying4 rfl 0 _ _ _ _ _ hM rfl rfl rfl ?_)
    | (refine at_load_ (T := 9) ?_; refine wpList_load1_mem (by go_simp) 9 _ rfl _ Try.underlying9 rfl 0 _ _ _ _ _ hM rfl rfl rfl ?_)
    | (refine at_box_ ?_; refine wpList_box_mem rfl _ _ rfl _ rfl hM ?_; clear hM; intro gb W hM; first | (simp only [List.nil_append] at hM) | (simp only [List.cons_append, List.nil_append] at hM))
    | (refine at_alloc_ (T := 47) ?_; refine wpList_alloc_mem rfl 47 rfl _ zv_Seg _ rfl hM ?_; clear hM; intro gb W hM; first | (simp only [List.nil_append] at hM) | (simp only [List.cons_append, List.nil_append] at hM))
    | (refine at_load_ (T := 47) ?_; refine wpList_loadg_mem (by go_simp) 47 _ rfl 0 _ _ _ hM rfl rfl _ Try.underlying47 rfl sz_Seg ?_)
    | (refine at_store_ (T := 47) ?_; refine wpList_store_mem rfl 47 _ _ rfl 0 _ _ _ _ hM rfl rfl rfl rfl sz_Seg rfl ?_; clear hM; intro W hM; simp only [List.set_cons_zero] at hM))
  refine (Append16_any w.heap.size _ _ _ _ (hM.own 1 rfl) (by omega) (by omega) (by simp) hM.b.size).mono ?_
  rintro e W10 ⟨v10, rfl, hV, hO, hat⟩
  replace hM := hM.ownPut 1 rfl hV hO hat
  clear hV hO hat
  simp only [List.set_cons_succ, List.set_cons_zero, List.cons_append, List.nil_append] at hM
  obtain ⟨A10, c10, rfl⟩ := (hM.own 1 rfl).form
  go_upto_region 10 with fail
  have hV2 := hM.own 1 rfl
  go_wp2_with (at_builtin; obtain ⟨iG, zG, iG0, iG1, iG2, iG3, iG4⟩ := elem_u8; refine wpList_append_win rfl _ _ 79 rfl w.heap.size 5 iG zG 1 1 Try.underlying79 iG0 iG1 iG2 iG3 iG4 (by decide) _ _ _ rfl (hV2.alloc _) ⟨W10.heap.size, 0, none⟩ 4 4 ([0, 0, 0, 0].map b8) rfl rfl ?news ?one (by decide) ?mx ?byt ?ba ?_)
  case news =>
    have e : ([0, 0, 0, 0].map b8) = [.int .u8 0, .int .u8 0, .int .u8 0, .int .u8 0] := by
      simp [b8]
    rw [e]
    exact At.news (At.new_ _ 5 _)
  case one => exact b8_one _
  case mx => simp [maxLen]
  case byt => simp
  case ba => have := hM.b.size; simp; omega
  intro v11 W11 hV hO hat
  have hM3 : Mem w W11 [atR _ 47 (cSeg g), ownR w.heap.size v11 [g.fp / 256, g.fp, g.tp / 256, g.tp, g.seq / 16777216, g.seq / 65536, g.seq % 65536 / 256, g.seq % 65536, g.ack / 16777216, g.ack / 65536, g.ack % 65536 / 256, g.ack % 65536, 80, tcFl g, g.win / 256, g.win, 0, 0, 0, 0]] := (hM.kept (below_ca (Below.refl _ _) _)).ownPut 1 rfl hV hO (by
    rcases hat with h | ⟨k, h, hk⟩
    · exact .inl h
    · exact .inr ⟨k, h, by simpa using hk⟩)
  clear hM hV2 hV hO hat
  have hM := hM3
  clear hM3
  obtain ⟨A11, c11, rfl⟩ := (hM.own 1 rfl).form
  have hM3 : Mem w W11 [atR _ 47 (cSeg g), ownR w.heap.size (.slice A11 20 c11) (tcFix g 80)] := hM
  clear hM
  have hM := hM3
  clear hM3
  go_upto_if 45 with         (first
          | (refine at_load_ (T := 22) ?_; refine wpList_load1_mem (by go_simp) 22 _ rfl _ Try.underlying22 rfl 0 _ _ _ _ _ hM rfl rfl rfl ?_)
          | (refine at_load_ (T := 3) ?_; refine wpList_load1_mem (by go_simp) 3 _ rfl _ Try.underlying3 rfl 0 _ _ _ _ _ hM rfl rfl rfl ?_)
          | (refine at_load_ (T := 4) ?_; refine wpList_load1_mem (by go_simp) 4 _ rfl _ Try.underlying4 rfl 0 _ _ _ _ _ hM rfl rfl rfl ?_)
          | (refine at_load_ (T := 9) ?_; refine wpList_load1_mem (by go_simp) 9 _ rfl _ Try.underlying9 rfl 0 _ _ _ _ _ hM rfl rfl rfl ?_)
          | (refine at_box_ ?_; refine wpList_box_mem rfl _ _ rfl _ rfl hM ?_; clear hM; intro gb W hM; first | (simp only [List.nil_append] at hM) | (simp only [List.cons_append, List.nil_append] at hM))
          | (refine at_alloc_ (T := 47) ?_; refine wpList_alloc_mem rfl 47 rfl _ zv_Seg _ rfl hM ?_; clear hM; intro gb W hM; first | (simp only [List.nil_append] at hM) | (simp only [List.cons_append, List.nil_append] at hM))
          | (refine at_load_ (T := 47) ?_; refine wpList_loadg_mem (by go_simp) 47 _ rfl 0 _ _ _ hM rfl rfl _ Try.underlying47 rfl sz_Seg ?_)
          | (refine at_store_ (T := 47) ?_; refine wpList_store_mem rfl 47 _ _ rfl 0 _ _ _ _ hM rfl rfl rfl rfl sz_Seg rfl ?_; clear hM; intro W hM; simp only [List.set_cons_zero] at hM))
  go_cut [5] (fun v W => Mem w W [atR gb 47 (cSeg g), ownR w.heap.size v (tcHead g)])
  case first =>
    by_cases m0 : g.mss = 0
    · have t0 : (g.mss != 0) = false := by simpa using m0
      have hh : tcHead g = tcFix g 80 := by unfold tcHead tcOff tcOpt; rw [if_pos m0, if_pos m0, List.append_nil]
      rw [← hh] at hM
      have HM := Lib.hid hM
      clear hM hh
      go_wp2_with fail
      go_meet
      case rel => exact HM.out
    · have t0 : (g.mss != 0) = true := by simpa using m0
      have hV2 := hM.own 1 rfl
      have hba := hM.b.size
      go_upto_region 13 with (at_builtin; obtain ⟨iG, zG, iG0, iG1, iG2, iG3, iG4⟩ := elem_u8; go_must (refine wpList_append_win rfl _ _ 79 rfl w.heap.size 5 iG zG 1 1 Try.underlying79 iG0 iG1 iG2 iG3 iG4 (by decide) _ _ _ rfl (hV2.alloc _) ⟨W11.heap.size, 0, none⟩ 2 2 ([2, 4].map b8) rfl rfl (At.news (At.new_ _ 5 [.int .u8 2, .int .u8 4])) (b8_one _) (by decide) (by simp [maxLen, tcFix]) (by simp [tcFix]) (by simp; omega) ?_; intro v20 W20 hV hO hat))
      have hM3 : Mem w W20 [atR _ 47 (cSeg g), ownR w.heap.size v20 (tcFix g 80 ++ [2, 4])] := (hM.kept (below_ca (Below.refl _ _) _)).ownPut 1 rfl hV hO (by
        rcases hat with h | ⟨k, h, hk⟩
        · exact .inl h
        · exact .inr ⟨k, h, by simpa using hk⟩)
      clear hM hV2 hV hO hat hba
      have hM := hM3
      clear hM3
      obtain ⟨A20, c20, rfl⟩ := (hM.own 1 rfl).form
      go_upto_region 14 with (first | (go_at_call 35; go_must (refine (Append16_any w.heap.size _ _ _ _ (hM.own 1 rfl) (by omega) (by omega) (by simp [tcFix]) hM.b.size).mono ?_; rintro e W21 ⟨v21, rfl, hV, hO, hat⟩; replace hM := hM.ownPut 1 rfl hV hO hat; clear hV hO hat)) | (refine at_load_ (T := 3) ?_; refine wpList_load1_mem (by go_simp) 3 _ rfl _ Try.underlying3 rfl 0 _ _ _ _ _ hM rfl rfl rfl ?_))
      simp only [List.set_cons_succ, List.set_cons_zero] at hM
      have hl24 : (tcFix g 80 ++ [2, 4] ++ [g.mss / 256, g.mss]).length = 24 := rfl
      obtain ⟨gs, off, cap, rfl, hW⟩ := (hM.own 1 rfl).pos (by rw [hl24]; omega)
      rw [hl24] at hW
      have hcap := hW.le
      have hmx := hW.mx
      unfold maxLen at hmx
      obtain ⟨u12, c12⟩ : ∃ u, W21.cell? ⟨gs, off + 12, none⟩ = some u := ⟨_, hW.here 12 (b8 80) rfl⟩
      have z12 := hW.soft 12 (by omega)
      have hgl := hW.lt
      have hS := hW.store (by rfl) 12 (by omega) (.int .u8 96)
      have hM' : Mem w W21 [atR gb 47 (cSeg g), ownR w.heap.size (.slice (some ⟨gs, off, none⟩) 24 cap) (tcFix g 80 ++ [2, 4] ++ [g.mss / 256, g.mss])] := hM
      have HM := Lib.hid hM'
      have HS := Lib.hid hS
      clear hM hM' hW hS hl24
      have hh : tcHead g = (tcFix g 80 ++ [2, 4] ++ [g.mss / 256, g.mss]).set 12 96 := by unfold tcHead tcOff tcOpt; rw [if_neg m0, if_neg m0]; rfl
      have HH := Lib.hid hh
      have hlf : (tcFix g 80).length = 20 := rfl
      clear hh m0 t0
      go_wp2_with fail
      go_meet
      case rel =>
        rw [HH.out]
        refine HM.out.ownSet 1 rfl rfl rfl HS.out ?_
        refine only_set ?_ (.inl rfl) _
        exact only_refl _ _
  case rest =>
    clear hM
    have hM := hcut
    clear hcut
    obtain ⟨hh1, hh2⟩ := tcHead_len g
    go_wp2_with (first
      | (refine at_load_ (T := 9) ?_; refine wpList_load1_mem (by go_simp) 9 _ rfl _ Try.underlying9 rfl 0 _ _ _ _ _ hM rfl rfl rfl ?_)
      | (refine wpList_append_str rfl _ _ rfl w.heap.size _ (tcHead g) rfl (hM.own 1 rfl) g.b rfl ?hb hM.b.size ?_))
    case hb => omega
    intro v30 W30 hV6 hO6 hat6
    replace hM := hM.ownPut 1 rfl hV6 hO6 hat6
    clear hV6 hO6 hat6
    simp only [List.set_cons_succ, List.set_cons_zero] at hM
    rw [show tcHead g ++ sI g.b = tcBare g from rfl] at hM
    have hlb : (tcBare g).length = (tcHead g).length + g.b.size := tcBare_len g
    obtain ⟨gs, off, cap, rfl, hW⟩ := (hM.own 1 rfl).pos (by omega)
    have hlc : (tcL g).length = (tcBare g).length := by rw [tcL_len, hlb]
    have hn1 : 20 ≤ (tcBare g).length := by omega
    have hn2 : (tcBare g).length ≤ 1024 := by omega
    (generalize hN : (tcBare g).length = N at *)
    have hcap := hW.le
    have hmx := hW.mx
    unfold maxLen at hmx
    have hgl := hW.lt
    have hcv : ∀ u : Later W30, (convert 79 9 (.slice (some ⟨gs, off, none⟩) N cap)).run Try.prog u.now = .ok (.string (byteS (tcBare g))) u.now := by
      intro u
      have hWu := hW.move (Nat.lt_of_lt_of_le hgl u.still.size) (u.still.block gs hgl)
      rw [← hN] at hWu
      have hback := run_convert_bytes_back (P := Try.prog) u.now 79 9 5 ⟨gs, off, none⟩ cap (byteL (tcBare g)) Try.underlying79 Try.underlying5 Try.underlying9 (own_back hWu)
      rw [byteL_len, hN] at hback
      exact hback
    have hsc := fun (u : Later W30) => tccheck_any g.fa g.ta (byteS (tcBare g)) u.now fa1 fa2 ta1 ta2 (by rw [byteS_sz, hN]; omega)
    have hsum : tcSum g.fa g.ta (byteS (tcBare g)) = tcN g := rfl
    rw [hsum] at hsc
    have hsb : 0 ≤ tcN g ∧ tcN g ≤ 65535 := tcSum_bd _ _ _
    obtain ⟨hsb1, hsb2⟩ := hsb
    have hhd : ((tcBare g).set 16 (tcN g / 256)).set 17 (tcN g) = tcL g := rfl
    have hput := fun (W : World) (h : WinAt W w.heap.size 1 gs off cap N ((tcBare g).map b8)) => Put16_win w.heap.size gs off cap N 16 (tcBare g) (tcN g) W h hN (by omega) hsb1 hsb2
    rw [hhd] at hput
    have hc := hM.cells 0 rfl
    simp only [cSeg] at hc
    have hgb := hM.lt 0 rfl
    have HW := Lib.hid hW
    have HM := Lib.hid hM
    have HN := Lib.hid hN
    have HLC := Lib.hid hlc
    (generalize byteS (tcBare g) = S9 at hcv hsc)
    (generalize tcN g = sm at hsc hput hsb1 hsb2)
    have HSC := Lib.hid hsc
    have HPUT := Lib.hid hput
    clear hsc hput hsum hhd hlb hM hW hcap hlc hN hh1 hh2
    have k1 : (16 : Int) < (cap : Int) := by have := HW.out.le; omega
    have k4 : ¬ cap = 16 := by omega
    have k5 : 16 ≤ cap := by omega
    have k6 : 16 ≤ N := by omega
    have k7 : (16 : Int) ≤ (N : Int) := by omega
    go_upto_region 16 with (fail)
    refine wp_region_later_tail 11 (by kernel_rfl) (by kernel_rfl) (fun hlc => ?_)
    simp only [List.take_succ_cons, List.take_zero, List.drop_succ_cons, List.drop_zero]
    repeat (go_big_quiet_step ((go_at_call 46; exact later_call (HSC.out _))))
    refine wpQuiet_nil ?_
    intro wq hbq
    clear hlc hcv hc hgb
    have hWq := HW.out.move (Nat.lt_of_lt_of_le hgl hbq.size) (hbq.block gs hgl)
    have hMq := HM.out.kept hbq
    go_wp2_with fail
    refine (HPUT.out _ hWq).mono ?_
    rintro e w4 ⟨rfl, hW4, hO4⟩
    have hhl : (tcL g).length = N := HLC.out
    have hM4 := hMq.ownSet 1 rfl HN.out hhl hW4 hO4
    have hback := run_convert_bytes_back (P := Try.prog) w4 79 9 5 ⟨gs, off, none⟩ cap (byteL (tcL g)) Try.underlying79 Try.underlying5 Try.underlying9 (own_back (by rw [hhl]; exact hW4))
    rw [byteL_len, hhl, show (⟨(byteL (tcL g)).toArray⟩ : ByteArray) = tcS g from rfl] at hback
    have hb4 := hM4.b
    clear hM4 hMq hWq hW4 hhl hO4 hbq
    go_wp2_with fail
    go_ret2
    exact ⟨rfl, hb4⟩
end Go.Proofs.Ytpjcbjacdkobmaa
