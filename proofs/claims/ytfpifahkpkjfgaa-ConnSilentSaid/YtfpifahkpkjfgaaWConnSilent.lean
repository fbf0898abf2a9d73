/- The walk of ConnSilent. Written by my gencn.py. -/
import Derived.Test.YtfpifahkpkjfgaaCnS
import Derived.Test.YtfpifahkpkjfgaaRest
import Derived.Deep.CutBlock
namespace Go.Proofs.Ytfpifahkpkjfgaa
open Go.RowKit Go.Lib
set_option linter.unusedVariables false
set_option linter.unusedSimpArgs false

theorem sSyn_is {a ms : Int} (h0 : 0 ≤ a) (h1 : a ≤ 4294967295) : sSyn a ms = ⟨1, 2, 3, 4, a, 0, true, false, false, false, 2048, ms, ⟨#[]⟩⟩ := by
  have : u32 (a + u32 0) = a := by unfold u32; omega
  unfold sSyn
  rw [this]
set_option maxRecDepth 100000 in
set_option maxHeartbeats 8000000 in
theorem w_ConnSilent (a0 : Int) (a1 : Int) (w : World) (ha0 : 0 ≤ a0) (ha0' : a0 ≤ 4294967295) (ha1 : -9223372036854775808 ≤ a1) (ha1' : a1 ≤ 9223372036854775807) :
    Calls Try.prog 3 #[.int .u32 a0, .int .i64 a1] w fun e w' => e = .returned (.bool true) ∧ Below w.heap.size w w' := by
  have HR := Lib.hid (fun W => Rest_any a1 993 W ha1 ha1' (by decide) (by decide))
  have hz : 0 ≤ a1 % 993 ∧ a1 % 993 ≤ 992 := by omega
  obtain ⟨hz1, hz2⟩ := hz
  go_enter Try.func3, Try.ntmps3
  go_upto_region 2 with (first | go_skip | (go_at_call 13; refine (HR.out _).mono ?_; rintro e W ⟨rfl, rfl⟩))
  obtain ⟨ms, hms⟩ : ∃ z, z = 8 + a1 % 993 := ⟨_, rfl⟩
  rw [← hms]
  have hm : 8 ≤ ms ∧ ms ≤ 1000 := by omega
  clear hms hz1 hz2 HR
  have HM := Lib.hid hm
  have HSY := Lib.hid (sSyn_is (ms := ms) ha0 ha0')
  have HD := Lib.hid (fun W => Dial_ok 1 2 3 4 a0 ms W (by decide) (by decide) hm)
  clear hm
  go_upto_region 5 with (first | go_skip | (go_at_call 14; refine (HD.out _).mono ?_; rintro e W ⟨gc, go, gt, rfl, hM⟩; dsimp only))
  clear HD
  go_upto_region 7 with (first | go_skip)
  obtain ⟨cc, hcc⟩ : ∃ z : KCn, z = { cNew 1 2 3 4 a0 ms with st := 1 } := ⟨_, rfl⟩
  rw [← hcc] at hM
  have HS := Lib.hid (show SIn a0 ms 0 cc 0 from by rw [hcc]; exact sin_0 a0 ms)
  have HKK := Lib.hid (show KOk (kNew go gt) 0 0 cc.h from by rw [hcc]; exact ⟨rfl, rfl⟩)
  generalize kNew go gt = kk at *
  clear hcc
  go_loopg [28, 7] 1000 (fun gh i many wr => ∃ (t n : Int) (c : KCn) (k : KPt), gh = (1000 - t).toNat ∧ i = .int .i64 t ∧ many = .int .i64 n ∧ Mem w wr (cnL gc 0 0 c k []) ∧ Hid (SIn a0 ms t c n ∧ KOk k 0 0 c.h))
  case atStart => exact ⟨0, 0, cc, kk, rfl, rfl, rfl, hM, Lib.hid ⟨HS.out, HKK.out⟩⟩
  case round =>
    clear hM HS HKK
    obtain ⟨t, n, c, k, hgh, rfl, rfl, hM, HI⟩ := hrel
    obtain ⟨hok, hag, hrs, hh, ht1, ht2, hn1, hn2⟩ := sin_ok HM.out HI.out.1
    have HGH := Lib.hid hgh
    have tt : decide (t < 1000) = true := decide_eq_true (by omega)
    have HO := Lib.hid (fun (W : World) (h : MemX noE w W (cnL gc 0 0 c k [])) => out_all gc 0 0 c k [] W h HI.out.2 hok (by rw [hrs]; decide) (by rw [hrs]; intro n hn; cases hn) hag)
    have hout := sin_out HM.out.1 HI.out.1
    obtain ⟨l, hl⟩ : ∃ z, z = (cOut c).2 := ⟨_, rfl⟩
    obtain ⟨c1, hc1⟩ : ∃ z, z = (cOut c).1 := ⟨_, rfl⟩
    rw [← hl, ← hc1] at HO hout
    have hall : ∀ x ∈ l, x = sSyn a0 ms := by
      rcases hout with ⟨_, _, _, _, _, _, _, _, _, e | e⟩ | ⟨_, _, _, _, e⟩
      · rw [e]; intro x hx; cases hx
      · rw [e]; intro x hx; exact List.mem_singleton.1 hx
      · rw [e]; intro x hx; cases hx
    have hln : l.length ≤ 1 := by
      rcases hout with ⟨_, _, _, _, _, _, _, _, _, e | e⟩ | ⟨_, _, _, _, e⟩ <;> rw [e] <;> simp
    have HOU := Lib.hid hout
    have HAL := Lib.hid hall
    obtain ⟨n0, hn0⟩ : ∃ z, z = l.length := ⟨_, rfl⟩
    have HN0 := Lib.hid hn0
    have hn0b : n0 ≤ 1 := by omega
    clear hgh hok hag hrs hh hout hl hc1 hall hln hn0
    go_upto_region 10 with (first | go_skip | (go_at_call 15; refine (HO.out _ hM).mono ?_; clear hM; rintro e W ⟨v, k1, rfl, hM, hK⟩; obtain ⟨A, q, hv⟩ := (hM.row (f := cSeg) (rs := l) 0 rfl).form; rw [← HN0.out] at hv; subst hv; have HK1 := Lib.hid hK; clear hK; dsimp only))
    clear HO
    go_loopg [34, 7] n0 (fun gh i many wr => ∃ (j : Nat), gh = n0 - j ∧ j ≤ n0 ∧ i = .int .i64 j ∧ many = .int .i64 (n + j) ∧ MemX noE w wr (rowR 13 cSeg (.slice A n0 q) l :: cnL gc 0 0 c1 k1 []))
    case atStart => exact ⟨0, by omega, by omega, rfl, by simp, hM⟩
    case round =>
      clear hM
      obtain ⟨j, hgj, hj, rfl, rfl, hM⟩ := hrel
      have HGJ := Lib.hid hgj
      clear hgj
      by_cases hlt : j < n0
      · obtain ⟨x, hx⟩ : ∃ x, l[j]? = some x := ⟨l[j]'(by rw [← HN0.out]; exact hlt), List.getElem?_eq_getElem _⟩
        have hxs := HAL.out x (List.mem_of_getElem? hx)
        subst hxs
        have hr := hx
        clear hx
        obtain ⟨gr, offr, cr', hv, -⟩ := (hM.row (f := cSeg) (rs := l) 0 rfl).pos (by rw [← HN0.out]; omega)
        injection hv with hv1 hv3 hv2
        clear hv3
        subst hv1 hv2
        go_upto_region 13 with (first | go_skip | ((with_reducible refine at_load_ (T := 33) ?_); refine wpList_load_row (f := cSeg) rfl _ _ rfl 0 _ _ hM rfl hr rfl cSeg_len _ Try.underlying33 rfl sz_Seg ?_) | ((with_reducible refine at_alloc_ (T := 33) ?_); refine wpList_alloc_mem rfl 33 rfl _ zv_Seg _ rfl hM ?_; clear hM; intro gs W hM; replace hM := cn_last hM) | ((with_reducible refine at_store_ (T := 33) ?_); refine wpList_store_mem rfl 33 _ _ rfl 0 _ _ _ (cSeg (sSyn a0 ms)) hM rfl rfl rfl rfl sz_Seg rfl ?_; clear hM; intro W hM; simp only [List.cons_append, List.set_cons_zero] at hM))
        rw [HSY.out] at hM
        go_wp2_with (first | go_skip | ((with_reducible refine at_load_ ?_); refine at_wanted_ (by rfl) ?_; first | (refine wpList_loadf_mem (by go_simp) _ _ rfl (by kernel_rfl) 0 _ _ _ _ _ hM rfl rfl rfl ?_)))
        have hM2 : MemX noE w W ([_] ++ (rowR 13 cSeg (.slice (some ⟨gr, offr, none⟩) n0 q) l :: cnL gc 0 0 c1 k1 [])) := hM
        have hM3 := hM2.drop_
        clear hM hM2
        go_roundg (n0 - (j + 1))
        case measure => have := HGJ.out; omega
        case rel => exact ⟨j + 1, rfl, by omega, by go_num, by rw [show n + (j : Int) + 1 = n + ((j + 1 : Nat) : Int) from by omega], hM3⟩
      · obtain rfl : n0 = j := by omega
        rcases HOU.out with ⟨jj, meas, wh, j1, j2, j3, j4, j5, j6, j7⟩ | ⟨e1, e2, e3, e4, e5⟩
        · have hst : c1.st = 1 := by rw [j6]; rfl
          have t0 : (c1.st == 0) = false := by rw [hst]; decide
          have HST := Lib.hid (sin_tick (iss := a0) (mss := ms) (t := t) (meas := meas) (wh := wh) j1 j2 j3 j4)
          have hcok : COk c1 := by
            obtain ⟨v1, v2, v3, v4, v5, v6, v7⟩ := sAt_val jj ⟨j1, j2⟩
            rw [j6]
            exact sil_ok HM.out ⟨j1, j2⟩ ⟨v6, v7⟩ ⟨by omega, by omega⟩ ⟨by omega, by omega⟩ (by decide)
          have hnow : c1.now = t := by rw [j6]; rfl
          rw [← j6] at HST
          have HT := Lib.hid (fun (W : World) (h : MemX noE w W (cnL gc 0 0 c1 k1 [])) => tick_all gc 0 0 c1 k1 [] W 1 h HK1.out hcok (by decide) (by rw [hnow]; omega))
          have HN := Lib.hid (show n + (n0 : Int) = jj + 1 from by have := HN0.out; omega)
          clear j5 j6 j7 hcok hnow j1 j2 j3 j4 hst
          go_upto_region 18 with (first | go_skip | (go_at_call 16; refine (State_any gc c1 k1 _ (hM.at_ 3 rfl)).mono ?_; rintro e W ⟨rfl, rfl⟩; dsimp only))
          have hM2 : MemX noE w _ ([_] ++ cnL gc 0 0 c1 k1 []) := hM
          have hM3 := hM2.drop_
          clear hM hM2
          have hM := hM3
          clear hM3
          go_wp2_with (first | go_skip | (go_at_call 18; refine (HT.out _ hM).mono ?_; clear hM; rintro e W ⟨rfl, hM, hK2⟩; have HK2 := Lib.hid hK2; clear hK2; dsimp only))
          go_roundg (1000 - (t + 1)).toNat
          case measure => have := HGH.out; omega
          case rel => exact ⟨t + 1, n + n0, cTick c1 1, k1, rfl, rfl, rfl, hM, Lib.hid ⟨by rw [HN.out]; exact HST.out, HK2.out⟩⟩
        · have t0 : (c1.st == 0) = true := by rw [e3]; decide
          have t1 : (c1.why == 13) = true := by rw [e4]; decide
          have h0 : n0 = 0 := by rw [HN0.out, e5]; rfl
          have t2 : (n + (n0 : Int) == 9) = true := by rw [h0, e2]; decide
          have t3 : decide (100 < t) = true := decide_eq_true (by omega)
          clear e1 e2 e3 e4 e5 h0
          go_wp2_with (first | go_skip | (go_at_call 16; refine (State_any gc c1 k1 _ (hM.at_ 3 rfl)).mono ?_; rintro e W ⟨rfl, rfl⟩; dsimp only) | (go_at_call 17; refine (Why_any gc c1 k1 _ (hM.at_ 3 rfl)).mono ?_; rintro e W ⟨rfl, rfl⟩; dsimp only))
          refine bodyPost_ret (v := .bool true) (by simp [results, Try.results3, go_sem]) rfl ?_
          exact ⟨rfl, hM.b⟩
end Go.Proofs.Ytfpifahkpkjfgaa
