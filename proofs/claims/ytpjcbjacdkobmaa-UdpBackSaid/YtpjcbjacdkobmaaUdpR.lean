/- The contract of udp's Read. -/
import Derived.Test.YtpjcbjacdkobmaaUdpW
import Derived.Test.YtpjcbjacdkobmaaBuf
import Derived.Deep.CutBlock
namespace Go.Proofs.Ytpjcbjacdkobmaa
open Go.RowKit Go.Lib
set_option linter.unusedVariables false

/-- a text whose sum was blanked -/
def udZ (s : ByteArray) : List UInt8 := (s.data.toList.set 6 0).set 7 0
def rdG (s d : Int) (t : ByteArray) : KGram := { fa := s, fp := w16 (lb t.data.toList) 0, ta := d, tp := w16 (lb t.data.toList) 2, b := t.extract 8 t.size }
def udErr (s d : Int) (t : ByteArray) : Int :=
  if t.size < 8 then 3 else if (t.size : Int) < w16 (lb t.data.toList) 4 then 3 else if w16 (lb t.data.toList) 4 < (t.size : Int) ∨ w16 (lb t.data.toList) 6 = 0 then 4
  else if udSum s d ⟨(udZ t).toArray⟩ ≠ w16 (lb t.data.toList) 6 then 5 else udChk (rdG s d t)
theorem rdG_ok (s d : Int) (t : ByteArray) (hs : 0 ≤ s ∧ s ≤ 4294967295) (hd : 0 ≤ d ∧ d ≤ 4294967295) (ht : t.size ≤ 9223372036854775807) : GramOk (rdG s d t) := by
  have h1 := w16_bd _ (lb_ok t.data.toList) 0
  have h2 := w16_bd _ (lb_ok t.data.toList) 2
  refine ⟨hs, ⟨by show _ ≤ w16 (lb t.data.toList) 0; omega, by show w16 (lb t.data.toList) 0 ≤ _; omega⟩, hd, ⟨by show _ ≤ w16 (lb t.data.toList) 2; omega, by show w16 (lb t.data.toList) 2 ≤ _; omega⟩, ?_⟩
  show (t.extract 8 t.size).size ≤ _
  rw [ByteArray.size_extract]; omega
set_option maxRecDepth 100000 in
set_option maxHeartbeats 4000000 in
theorem udRead_short (s d : Int) (t : ByteArray) (w : World) (h : t.size < 8) :
    Calls Try.prog 13 #[.int .u32 s, .int .u32 d, .string t] w fun e w' => e = .returned (.tuple #[.agg (cGram oGram).toArray, .int .i64 3]) ∧ Below w.heap.size w w' := by
  go_enter Try.func13, Try.ntmps13
  go_wp2_with fail
  refine bodyPost_ret (v := .tuple #[.agg (cGram oGram).toArray, .int .i64 3]) (by simp [results, Try.results13, go_sem, cGram, oGram]) rfl ⟨rfl, ?_⟩
  repeat' (first | with_reducible exact Below.refl _ _ | with_reducible assumption | with_reducible refine Below.drew ?_ | with_reducible refine below_dn ?_ _ | with_reducible refine below_ca ?_ _ | with_reducible refine Below.setCell ?_ ?_ _ | (refine below_c ?_ (by with_reducible assumption)) | (simp <;> omega) | omega)
set_option maxRecDepth 100000 in
set_option maxHeartbeats 4000000 in
theorem udRead_any (s d : Int) (t : ByteArray) (w : World) (h : 8 ≤ t.size) (ht : t.size ≤ 140737488354000) (hs : 0 ≤ s ∧ s ≤ 4294967295) (hd : 0 ≤ d ∧ d ≤ 4294967295) :
    Calls Try.prog 13 #[.int .u32 s, .int .u32 d, .string t] w fun e w' => e = .returned (.tuple #[.agg (cGram (if udErr s d t = 0 then rdG s d t else oGram)).toArray, .int .i64 (udErr s d t)]) ∧ Below w.heap.size w w' := by
  have hge : ¬ (t.size : Int) < 8 := by omega
  have hM := Mem.nil w
  go_enter Try.func13, Try.ntmps13
  go_upto_region 3 with         (first
          | (refine at_box_ ?_; refine wpList_box_mem rfl _ _ rfl _ rfl hM ?_; clear hM; intro gb W hM; first | (simp only [List.nil_append] at hM) | (simp only [List.cons_append, List.nil_append] at hM))
          | (refine at_alloc_ (T := 26) ?_; refine wpList_alloc_mem rfl 26 rfl _ zv_Gram _ rfl hM ?_; clear hM; intro gb W hM; first | (simp only [List.nil_append] at hM) | (simp only [List.cons_append, List.nil_append] at hM))
          | (refine at_load_ (T := 26) ?_; refine wpList_loadg_mem (by go_simp) 26 _ rfl 0 _ _ _ hM rfl rfl _ Try.underlying26 rfl sz_Gram ?_)
          | (refine at_store_ (T := 26) ?_; refine wpList_store_mem rfl 26 _ _ rfl 0 _ _ _ _ hM rfl rfl rfl rfl sz_Gram rfl ?_; clear hM; intro W hM; simp only [List.set_cons_zero] at hM))
  go_wp2_with (refine wpList_bytes_mem rfl _ rfl t rfl (by omega) hM ?_; clear hM; intro gy c W hc1 hc2 hM; simp only [List.cons_append, List.nil_append] at hM)
  have hB := lb_ok t.data.toList
  have hlt := data_len' t
  have hbt : ∀ (u : World), Mem w u [atR gb 26 zGram, bufR gy t.data.toList] → Bts u gy t.size (lb t.data.toList) := fun u hu => by have := (hu.buf 1 rfl).bts; rwa [hlt] at this
  have a4 := fun (u : World) (hu : Mem w u [atR gb 26 zGram, bufR gy t.data.toList]) => Get16_at gy 4 t.size (c - 4) (lb t.data.toList) (t.size - 4) u hB (hbt u hu) (by omega) (by omega) (by omega)
  have a6 := fun (u : World) (hu : Mem w u [atR gb 26 zGram, bufR gy t.data.toList]) => Get16_at gy 6 t.size (c - 6) (lb t.data.toList) (t.size - 6) u hB (hbt u hu) (by omega) (by omega) (by omega)
  have a0 := fun (u : World) (hu : Mem w u [atR gb 26 zGram, bufR gy t.data.toList]) => Get16_at gy 0 t.size c (lb t.data.toList) t.size u hB (hbt u hu) (by omega) (by omega) (by omega)
  have a2 := fun (u : World) (hu : Mem w u [atR gb 26 zGram, bufR gy t.data.toList]) => Get16_at gy 2 t.size (c - 2) (lb t.data.toList) (t.size - 2) u hB (hbt u hu) (by omega) (by omega) (by omega)
  have r4 : lb t.data.toList 4 * 256 + lb t.data.toList (4 + 1) = w16 (lb t.data.toList) 4 := rfl
  have r6 : lb t.data.toList 6 * 256 + lb t.data.toList (6 + 1) = w16 (lb t.data.toList) 6 := rfl
  have r0 : lb t.data.toList 0 * 256 + lb t.data.toList (0 + 1) = w16 (lb t.data.toList) 0 := rfl
  have r2 : lb t.data.toList 2 * 256 + lb t.data.toList (2 + 1) = w16 (lb t.data.toList) 2 := rfl
  rw [r4] at a4
  rw [r6] at a6
  rw [r0] at a0
  rw [r2] at a2
  obtain ⟨m40, m41⟩ := w16_bd _ hB 4
  obtain ⟨m60, m61⟩ := w16_bd _ hB 6
  obtain ⟨m00, m01⟩ := w16_bd _ hB 0
  obtain ⟨m20, m21⟩ := w16_bd _ hB 2
  have A4 := Lib.hid (fun u : Later W => a4 u.now (hM.kept u.still))
  have A6 := Lib.hid (fun u : Later W => a6 u.now (hM.kept u.still))
  have A0 := Lib.hid a0
  have A2 := Lib.hid a2
  clear a4 a6 a0 a2 r4 r6 r0 r2 hbt hlt
  have k1 : (2 : Int) < (c : Int) := by omega
  have k2 : (4 : Int) < (c : Int) := by omega
  have k3 : (6 : Int) < (c : Int) := by omega
  have k4 : ¬ c = 2 := by omega
  have k5 : ¬ c = 4 := by omega
  have k6 : ¬ c = 6 := by omega
  have k7 : (8 : Int) ≤ (t.size : Int) := by omega
  have k8 : 6 ≤ t.size := by omega
  have k9 : 7 < t.size := by omega
  refine wp_region_later (by kernel_rfl) (by kernel_rfl) (fun hlc => ?_)
  repeat (go_big_quiet_step ((go_at_call 38; first | (with_reducible exact later_call (A4.out _)) | (with_reducible exact later_call (A6.out _)))))
  refine wpQuiet_nil ?_
  intro W2 hB2
  clear hlc A4 A6
  replace hM := hM.kept hB2
  clear hB2
  go_upto_region 5 with fail
  refine wp_region_mix0 14 16 [.al 26 zGram, .st 14 26 (cGram (rdG s d t))] _ hM (by kernel_rfl) (by kernel_rfl) (by kernel_rfl) (by kernel_rfl) rfl ?_
  apply Exists.intro
  refine ⟨?hq, ?hr⟩
  case hq =>
    intro w1 hM1 hlc
    have B0 := Lib.hid (fun u : Later w1 => A0.out u.now (hM1.kept u.still))
    have B2 := Lib.hid (fun u : Later w1 => A2.out u.now (hM1.kept u.still))
    simp only [List.take_succ_cons, List.take_zero]
    repeat (go_big_quiet_step ((go_at_call 38; first | (with_reducible exact later_call (B0.out _)) | (with_reducible exact later_call (B2.out _)))))
    exact wpQuiet_nil rfl
  simp only [List.drop_succ_cons, List.drop_zero]
  refine ⟨rfl, rfl, zv_Gram, rfl, fun gx => ?_⟩
  refine ⟨_, _, _, _, rfl, rfl, rfl, rfl, rfl, rfl, rfl, sz_Gram, rfl, ?_⟩
  intro W3 hF
  clear hM A0 A2
  have hM : Mem w W3 [atR gb 26 zGram, bufR gy t.data.toList, atR gx 26 (cGram (rdG s d t))] := Mem.ofLf hF [16, 17, 14] (by decide) rfl
  clear hF
  simp only [Act.put, List.setIfInBounds_toArray, List.set_cons_zero, List.set_cons_succ]
  have hb := hM.buf 1 rfl
  have hl := data_len' t
  obtain ⟨u6, c6⟩ : ∃ u, W3.cell? ⟨gy, 6, none⟩ = some u := ⟨_, hb.bts 6 (by omega)⟩
  obtain ⟨u7, c7⟩ : ∃ u, W3.cell? ⟨gy, 7, none⟩ = some u := ⟨_, hb.bts 7 (by omega)⟩
  have z6 := hb.free 6 (by omega)
  have z7 := hb.free 7 (by omega)
  have hgl := hb.lt
  have HB := Lib.hid hb
  have HM := Lib.hid hM
  clear hb hM hl
  go_upto_block 0 with fail
  refine wp_gen (fun W => Mem w W [atR gb 26 zGram, bufR gy (udZ t), atR gx 26 (cGram (rdG s d t))]) (HM.out.bufPut 1 rfl ?hO ?hU) ?_
  case hO => repeat' (first | with_reducible exact only_refl _ _ | with_reducible refine only_set ?_ (.inl rfl) _)
  case hU => exact (HB.out.set_ 6 0 0 rfl).set_ 7 0 0 rfl
  clear c6 c7 z6 z7 hgl HM HB
  intro W4 hM
  have hzl : (udZ t).length = t.size := by unfold udZ; simp
  have hcv := run_convert_bytes_back (P := Try.prog) W4 79 9 5 ⟨gy, 0, none⟩ c (udZ t) Try.underlying79 Try.underlying5 Try.underlying9 ((hM.buf 1 rfl).back)
  rw [hzl] at hcv
  have hsum := fun W => udcheck_any s d ⟨(udZ t).toArray⟩ W hs.1 hs.2 hd.1 hd.2 (by show (udZ t).toArray.size ≤ _; rw [List.size_toArray, hzl]; omega)
  have hchk := fun W => udCheck_any (rdG s d t) W (rdG_ok s d t hs hd (by omega))
  have hsb := udSum_bd s d ⟨(udZ t).toArray⟩
  have h8 : ¬ t.size < 8 := by omega
  have HCV := Lib.hid hcv
  have HSUM := Lib.hid hsum
  have HCHK := Lib.hid hchk
  clear hcv hsum hchk hzl
  go_cut [12] (fun r W => r = .int .i64 (udErr s d t) ∧ Mem w W [atR gb 26 zGram, bufR gy (udZ t), atR gx 26 (cGram (rdG s d t))])
  case first =>
    by_cases e3 : (t.size : Int) < w16 (lb t.data.toList) 4
    · have hr : udErr s d t = 3 := by unfold udErr; rw [if_neg h8, if_pos e3]
      have HR := Lib.hid hr
      clear hr h8
      go_wp2_with fail
      go_meet
      case rel => exact ⟨by rw [HR.out], hM⟩
    · by_cases e4 : w16 (lb t.data.toList) 4 < (t.size : Int)
      · have hr : udErr s d t = 4 := by unfold udErr; rw [if_neg h8, if_neg e3, if_pos (.inl e4)]
        have HR := Lib.hid hr
        clear hr h8
        go_wp2_with fail
        go_meet
        case rel => exact ⟨by rw [HR.out], hM⟩
      · by_cases e5 : w16 (lb t.data.toList) 6 = 0
        · have hr : udErr s d t = 4 := by unfold udErr; rw [if_neg h8, if_neg e3, if_pos (.inr e5)]
          have HR := Lib.hid hr
          have t5 : (w16 (lb t.data.toList) 6 == 0) = true := by simpa using e5
          clear hr h8 e5
          go_wp2_with fail
          go_meet
          case rel => exact ⟨by rw [HR.out], hM⟩
        · have t5 : (w16 (lb t.data.toList) 6 == 0) = false := by simpa using e5
          by_cases e6 : udSum s d ⟨(udZ t).toArray⟩ = w16 (lb t.data.toList) 6
          · have hr : udErr s d t = udChk (rdG s d t) := by unfold udErr; rw [if_neg h8, if_neg e3, if_neg (by omega), if_neg (by simpa using e6)]
            have HR := Lib.hid hr
            have t6 : (udSum s d ⟨(udZ t).toArray⟩ != w16 (lb t.data.toList) 6) = false := by simpa using e6
            have hcv := HCV.out
            clear hr h8 e5 e6
            go_upto_region 8 with         (first
          | (go_at_call 37; go_must (refine (HSUM.out _).mono ?_; rintro e W ⟨rfl, hb⟩; replace hM := hM.kept hb; clear hb))
          | (refine at_box_ ?_; refine wpList_box_mem rfl _ _ rfl _ rfl hM ?_; clear hM; intro gb W hM; first | (simp only [List.nil_append] at hM) | (simp only [List.cons_append, List.nil_append] at hM)))
            clear hcv
            go_wp2_with (first
              | (go_at_call 14; go_must (refine (HCHK.out _).mono ?_; rintro e W ⟨rfl, hb⟩; replace hM := hM.kept hb; clear hb))
              | (refine at_box_ ?_; refine wpList_box_mem rfl _ _ rfl _ rfl hM ?_; clear hM; intro gb W hM; first | (simp only [List.nil_append] at hM) | (simp only [List.cons_append, List.nil_append] at hM))
              | (refine at_alloc_ (T := 26) ?_; refine wpList_alloc_mem rfl 26 rfl _ zv_Gram _ rfl hM ?_; clear hM; intro gb W hM; first | (simp only [List.nil_append] at hM) | (simp only [List.cons_append, List.nil_append] at hM))
              | (refine at_load_ (T := 26) ?_; first | (refine wpList_loadg_mem (by go_simp) 26 _ rfl 0 _ _ _ hM rfl rfl _ Try.underlying26 rfl sz_Gram ?_) | (refine wpList_loadg_mem (by go_simp) 26 _ rfl 1 _ _ _ hM rfl rfl _ Try.underlying26 rfl sz_Gram ?_) | (refine wpList_loadg_mem (by go_simp) 26 _ rfl 2 _ _ _ hM rfl rfl _ Try.underlying26 rfl sz_Gram ?_))
              | (refine at_store_ (T := 26) ?_; first | (refine wpList_store_mem rfl 26 _ _ rfl 0 _ _ _ _ hM rfl rfl rfl rfl sz_Gram rfl ?_; clear hM; intro W hM; simp only [List.set_cons_zero] at hM) | (refine wpList_store_mem rfl 26 _ _ rfl 1 _ _ _ _ hM rfl rfl rfl rfl sz_Gram rfl ?_; clear hM; intro W hM; simp only [List.set_cons_succ, List.set_cons_zero] at hM) | (refine wpList_store_mem rfl 26 _ _ rfl 2 _ _ _ _ hM rfl rfl rfl rfl sz_Gram rfl ?_; clear hM; intro W hM; simp only [List.set_cons_succ, List.set_cons_zero] at hM)))
            go_meet
            case rel => exact ⟨by rw [HR.out], hM⟩
          · have hr : udErr s d t = 5 := by unfold udErr; rw [if_neg h8, if_neg e3, if_neg (by omega), if_pos e6]
            have HR := Lib.hid hr
            have t6 : (udSum s d ⟨(udZ t).toArray⟩ != w16 (lb t.data.toList) 6) = true := by simpa using e6
            have hcv := HCV.out
            clear hr h8 e5 e6
            go_wp2_with (first
              | (go_at_call 37; go_must (refine (HSUM.out _).mono ?_; rintro e W ⟨rfl, hb⟩; replace hM := hM.kept hb; clear hb))
              | (refine at_box_ ?_; refine wpList_box_mem rfl _ _ rfl _ rfl hM ?_; clear hM; intro gb W hM; first | (simp only [List.nil_append] at hM) | (simp only [List.cons_append, List.nil_append] at hM)))
            go_meet
            case rel => exact ⟨by rw [HR.out], hM⟩
  case rest =>
    obtain ⟨rfl, hM9⟩ := hcut
    clear hM HCV
    have hM := hM9
    clear hM9
    by_cases hr : udErr s d t = 0
    · have t8 : ((udErr s d t : Int) != 0) = false := by simpa using hr
      have HR := Lib.hid hr
      clear hr
      go_wp2_with (first
        | (refine at_box_ ?_; refine wpList_box_mem rfl _ _ rfl _ rfl hM ?_; clear hM; intro gb W hM; first | (simp only [List.nil_append] at hM) | (simp only [List.cons_append, List.nil_append] at hM))
        | (refine at_alloc_ (T := 26) ?_; refine wpList_alloc_mem rfl 26 rfl _ zv_Gram _ rfl hM ?_; clear hM; intro gb W hM; first | (simp only [List.nil_append] at hM) | (simp only [List.cons_append, List.nil_append] at hM))
        | (refine at_load_ (T := 26) ?_; first | (refine wpList_loadg_mem (by go_simp) 26 _ rfl 0 _ _ _ hM rfl rfl _ Try.underlying26 rfl sz_Gram ?_) | (refine wpList_loadg_mem (by go_simp) 26 _ rfl 1 _ _ _ hM rfl rfl _ Try.underlying26 rfl sz_Gram ?_) | (refine wpList_loadg_mem (by go_simp) 26 _ rfl 2 _ _ _ hM rfl rfl _ Try.underlying26 rfl sz_Gram ?_))
        | (refine at_store_ (T := 26) ?_; first | (refine wpList_store_mem rfl 26 _ _ rfl 0 _ _ _ _ hM rfl rfl rfl rfl sz_Gram rfl ?_; clear hM; intro W hM; simp only [List.set_cons_zero] at hM) | (refine wpList_store_mem rfl 26 _ _ rfl 1 _ _ _ _ hM rfl rfl rfl rfl sz_Gram rfl ?_; clear hM; intro W hM; simp only [List.set_cons_succ, List.set_cons_zero] at hM) | (refine wpList_store_mem rfl 26 _ _ rfl 2 _ _ _ _ hM rfl rfl rfl rfl sz_Gram rfl ?_; clear hM; intro W hM; simp only [List.set_cons_succ, List.set_cons_zero] at hM)))
      have hc := hM.cells 0 rfl
      simp only [cGram] at hc
      refine bodyPost_ret (v := .tuple #[.agg (cGram (rdG s d t)).toArray, .int .i64 0]) (by simp [results, Try.results13, go_sem, hc, cGram]) rfl ⟨rfl, hM.b⟩
    · have t8 : ((udErr s d t : Int) != 0) = true := by simpa using hr
      have HR := Lib.hid hr
      clear hr
      go_wp2_with (first
        | (refine at_box_ ?_; refine wpList_box_mem rfl _ _ rfl _ rfl hM ?_; clear hM; intro gb W hM; first | (simp only [List.nil_append] at hM) | (simp only [List.cons_append, List.nil_append] at hM))
        | (refine at_alloc_ (T := 26) ?_; refine wpList_alloc_mem rfl 26 rfl _ zv_Gram _ rfl hM ?_; clear hM; intro gb W hM; first | (simp only [List.nil_append] at hM) | (simp only [List.cons_append, List.nil_append] at hM))
        | (refine at_load_ (T := 26) ?_; first | (refine wpList_loadg_mem (by go_simp) 26 _ rfl 0 _ _ _ hM rfl rfl _ Try.underlying26 rfl sz_Gram ?_) | (refine wpList_loadg_mem (by go_simp) 26 _ rfl 1 _ _ _ hM rfl rfl _ Try.underlying26 rfl sz_Gram ?_) | (refine wpList_loadg_mem (by go_simp) 26 _ rfl 2 _ _ _ hM rfl rfl _ Try.underlying26 rfl sz_Gram ?_))
        | (refine at_store_ (T := 26) ?_; first | (refine wpList_store_mem rfl 26 _ _ rfl 0 _ _ _ _ hM rfl rfl rfl rfl sz_Gram rfl ?_; clear hM; intro W hM; simp only [List.set_cons_zero] at hM) | (refine wpList_store_mem rfl 26 _ _ rfl 1 _ _ _ _ hM rfl rfl rfl rfl sz_Gram rfl ?_; clear hM; intro W hM; simp only [List.set_cons_succ, List.set_cons_zero] at hM) | (refine wpList_store_mem rfl 26 _ _ rfl 2 _ _ _ _ hM rfl rfl rfl rfl sz_Gram rfl ?_; clear hM; intro W hM; simp only [List.set_cons_succ, List.set_cons_zero] at hM)))
      have hc := hM.cells 0 rfl
      refine bodyPost_ret (v := .tuple #[.agg (cGram oGram).toArray, .int .i64 (udErr s d t)]) (by simp [results, Try.results13, go_sem, hc, cGram, oGram]) rfl ⟨rfl, hM.b⟩
end Go.Proofs.Ytpjcbjacdkobmaa
