/- The contract of tcp's Read. -/
import Derived.Test.YtpjcbjacdkobmaaTcpO
namespace Go.Proofs.Ytpjcbjacdkobmaa
open Go.RowKit Go.Lib
set_option linter.unusedVariables false

/-- a text whose sum was blanked -/
def tz (t : ByteArray) : List UInt8 := (t.data.toList.set 16 0).set 17 0
def tcTo (t : ByteArray) : Int := lb (tz t) 12 / 16 * 4
def tcOpts (t : ByteArray) : List UInt8 := ((tz t).drop 20).take ((tcTo t).toNat - 20)
def tcR0 (s d : Int) (t : ByteArray) : KSeg := { fa := s, fp := w16 (lb (tz t)) 0, ta := d, tp := w16 (lb (tz t)) 2, seq := w32 (lb (tz t)) 4, ack := w32 (lb (tz t)) 8, syn := decide (0 < lb (tz t) 13 / 2 % 2 * 2), has := decide (0 < lb (tz t) 13 / 16 % 2 * 16), fin := decide (0 < lb (tz t) 13 % 2), rst := decide (0 < lb (tz t) 13 / 4 % 2 * 4), win := w16 (lb (tz t)) 14, mss := 0, b := t.extract (tcTo t).toNat t.size }
def tcOR (t : ByteArray) : Int × Int := optR (tcOpts t).length (tcOpts t) 0
def tcR (s d : Int) (t : ByteArray) : KSeg := { tcR0 s d t with mss := (tcOR t).2 }
def tcErr (s d : Int) (t : ByteArray) : Int :=
  if t.size < 20 then 3 else if tcTo t < 20 ∨ lb (tz t) 12 % 16 ≠ 0 then 4 else if (t.size : Int) < tcTo t then 3 else if tcSum s d ⟨(tz t).toArray⟩ ≠ w16 (lb t.data.toList) 16 then 5
  else if 32 ≤ lb (tz t) 13 ∨ lb (tz t) 18 ≠ 0 ∨ lb (tz t) 19 ≠ 0 then 4 else if (tcOR t).1 ≠ 0 then (tcOR t).1 else tcChk (tcR s d t)
theorem u8_and_nat (x m : Nat) (hx : x < 256) (hm : m < 256) : bits .and .u8 (x : Int) (m : Int) = ((x &&& m : Nat) : Int) := by
  have h1 : (BitVec.ofInt 8 ((x : Nat) : Int)).toNat = x := by rw [BitVec.ofInt_natCast, BitVec.toNat_ofNat]; exact Nat.mod_eq_of_lt hx
  have h2 : (BitVec.ofInt 8 ((m : Nat) : Int)).toNat = m := by rw [BitVec.ofInt_natCast, BitVec.toNat_ofNat]; exact Nat.mod_eq_of_lt hm
  show IntKind.u8.wrap ((BitVec.ofInt 8 ((x : Nat) : Int) &&& BitVec.ofInt 8 ((m : Nat) : Int)).toNat : Int) = _
  rw [BitVec.toNat_and, h1, h2, IntKind.wrap_u8]
  have : x &&& m ≤ x := Nat.and_le_left
  omega
theorem u8_bit (x : Int) (k : Nat) (hk : k < 8) (h : 0 ≤ x) (h' : x ≤ 255) : bits .and .u8 x (2 ^ k) = x / 2 ^ k % 2 * 2 ^ k := by
  obtain ⟨n, rfl⟩ := Int.eq_ofNat_of_zero_le h
  have hp : ((2 : Int) ^ k) = ((2 ^ k : Nat) : Int) := by push_cast; rfl
  have hlt : 2 ^ k < 256 := Nat.pow_lt_pow_right (a := 2) (by omega) (n := 8) hk
  rw [hp, u8_and_nat n _ (by omega) hlt]
  have h3 : (n &&& 2 ^ k) / 2 ^ k = n / 2 ^ k % 2 := by rw [Nat.and_div_two_pow, Nat.div_self (Nat.two_pow_pos k), Nat.and_one_is_mod]
  have h4 : (n &&& 2 ^ k) % 2 ^ k = 0 := by rw [Nat.and_mod_two_pow, Nat.mod_self, Nat.and_zero]
  have h5 := Nat.div_add_mod (n &&& 2 ^ k) (2 ^ k)
  rw [h3, h4, Nat.add_zero] at h5
  rw [← h5]
  have hm : ((n : Int) / ((2 ^ k : Nat) : Int) % 2) = ((n / 2 ^ k % 2 : Nat) : Int) := by push_cast; rfl
  rw [hm, Nat.mul_comm]
  push_cast
  rfl
theorem u8_low4 (x : Int) (h : 0 ≤ x) (h' : x ≤ 255) : bits .and .u8 x 15 = x % 16 := by
  obtain ⟨n, rfl⟩ := Int.eq_ofNat_of_zero_le h
  have := u8_and_nat n 15 (by omega) (by omega)
  rw [show ((15 : Nat) : Int) = 15 from rfl] at this
  rw [this, show (15 : Nat) = 2 ^ 4 - 1 by rfl, Nat.and_two_pow_sub_one_eq_mod]
  push_cast
  rfl
theorem tcR_ok (s d : Int) (t : ByteArray) (hs : 0 ≤ s ∧ s ≤ 4294967295) (hd : 0 ≤ d ∧ d ≤ 4294967295) (ht : t.size ≤ 9223372036854775807) (hm : -9223372036854775808 ≤ (tcOR t).2 ∧ (tcOR t).2 ≤ 9223372036854775807) : SegOk (tcR s d t) := by
  have h1 := w16_bd _ (lb_ok (tz t)) 0
  have h2 := w16_bd _ (lb_ok (tz t)) 2
  have h3 := w16_bd _ (lb_ok (tz t)) 14
  refine ⟨hs, ⟨by show _ ≤ w16 (lb (tz t)) 0; omega, by show w16 (lb (tz t)) 0 ≤ _; omega⟩, hd, ⟨by show _ ≤ w16 (lb (tz t)) 2; omega, by show w16 (lb (tz t)) 2 ≤ _; omega⟩, w32_bd _ (lb_ok (tz t)) 4, w32_bd _ (lb_ok (tz t)) 8, ⟨by show _ ≤ w16 (lb (tz t)) 14; omega, by show w16 (lb (tz t)) 14 ≤ _; omega⟩, hm, ?_⟩
  show (t.extract (tcTo t).toNat t.size).size ≤ _
  rw [ByteArray.size_extract]; omega
theorem optR_bd : ∀ (f : Nat) (L : List UInt8) (m : Int), 0 ≤ m → m ≤ 65535 → 0 ≤ (optR f L m).2 ∧ (optR f L m).2 ≤ 65535
  | 0, _, m, h, h' => ⟨h, h'⟩
  | _ + 1, [], m, h, h' => ⟨h, h'⟩
  | f + 1, x :: r, m, h, h' => by
    have hw := w16_bd _ (lb_ok (x :: r)) 2
    unfold optR
    split
    · exact ⟨h, h'⟩
    split
    · exact optR_bd f r m h h'
    split
    · exact ⟨h, h'⟩
    split
    · split
      · exact ⟨h, h'⟩
      · exact optR_bd f _ _ hw.1 hw.2
    · exact optR_bd f _ m h h'
set_option maxRecDepth 100000 in
set_option maxHeartbeats 4000000 in
theorem tcRead_short (s d : Int) (t : ByteArray) (w : World) (h : t.size < 20) :
    Calls Try.prog 21 #[.int .u32 s, .int .u32 d, .string t] w fun e w' => e = .returned (.tuple #[.agg (cSeg oSeg).toArray, .int .i64 3]) ∧ Below w.heap.size w w' := by
  go_enter Try.func21, Try.ntmps21
  go_wp2_with fail
  refine bodyPost_ret (v := .tuple #[.agg (cSeg oSeg).toArray, .int .i64 3]) (by simp [results, Try.results21, go_sem, cSeg, oSeg]) rfl ⟨rfl, ?_⟩
  repeat' (first | with_reducible exact Below.refl _ _ | with_reducible assumption | with_reducible refine Below.drew ?_ | with_reducible refine below_dn ?_ _ | with_reducible refine below_ca ?_ _ | with_reducible refine Below.setCell ?_ ?_ _ | (refine below_c ?_ (by with_reducible assumption)) | (simp <;> omega) | omega)
set_option maxRecDepth 100000 in
set_option maxHeartbeats 8000000 in
theorem tcRead_any (s d : Int) (t : ByteArray) (w : World) (h : 20 ≤ t.size) (ht : t.size ≤ 140737488354000) (hs : 0 ≤ s ∧ s ≤ 4294967295) (hd : 0 ≤ d ∧ d ≤ 4294967295) :
    Calls Try.prog 21 #[.int .u32 s, .int .u32 d, .string t] w fun e w' => e = .returned (.tuple #[.agg (cSeg (if tcErr s d t = 0 then tcR s d t else oSeg)).toArray, .int .i64 (tcErr s d t)]) ∧ Below w.heap.size w w' := by
  have hge : ¬ (t.size : Int) < 20 := by omega
  have hM := Mem.nil w
  go_enter Try.func21, Try.ntmps21
  go_upto_region 3 with         (first
          | (refine at_box_ ?_; refine wpList_box_mem rfl _ _ rfl _ rfl hM ?_; clear hM; intro gb W hM; first | (simp only [List.nil_append] at hM) | (simp only [List.cons_append, List.nil_append] at hM))
          | (refine at_alloc_ (T := 47) ?_; refine wpList_alloc_mem rfl 47 rfl _ zv_Seg _ rfl hM ?_; clear hM; intro gb W hM; first | (simp only [List.nil_append] at hM) | (simp only [List.cons_append, List.nil_append] at hM))
          | (refine at_load_ (T := 47) ?_; refine wpList_loadg_mem (by go_simp) 47 _ rfl 0 _ _ _ hM rfl rfl _ Try.underlying47 rfl sz_Seg ?_)
          | (refine at_store_ (T := 47) ?_; refine wpList_store_mem rfl 47 _ _ rfl 0 _ _ _ _ hM rfl rfl rfl rfl sz_Seg rfl ?_; clear hM; intro W hM; simp only [List.set_cons_zero] at hM))
  go_wp2_with (refine wpList_bytes_mem rfl _ rfl t rfl (by omega) hM ?_; clear hM; intro gy c W hc1 hc2 hM; simp only [List.cons_append, List.nil_append] at hM)
  have hlt := data_len' t
  have hZ12 : lb t.data.toList 12 = lb (tz t) 12 := by unfold tz lb; rw [List.getElem?_set_ne (by omega), List.getElem?_set_ne (by omega)]
  have hb := hM.buf 1 rfl
  have hbt := hb.bts
  rw [hlt] at hbt
  have c12 := hbt 12 (by omega)
  rw [hZ12] at c12
  have hgl := hb.lt
  have a16 := Lib.hid (fun (u : Later W) => Get16_at gy 16 t.size (c - 16) (lb t.data.toList) (t.size - 16) u.now (lb_ok _) (hbt.kept u.still) (by omega) (by omega) (by omega))
  have r16 : lb t.data.toList 16 * 256 + lb t.data.toList (16 + 1) = w16 (lb t.data.toList) 16 := rfl
  rw [r16] at a16
  obtain ⟨m160, m161⟩ := w16_bd _ (lb_ok t.data.toList) 16
  obtain ⟨x12, y12⟩ := lb_ok (tz t) 12
  have hto : tcTo t = lb (tz t) 12 / 16 * 4 := rfl
  have HTO := Lib.hid hto
  clear hto hbt hb hZ12 r16
  have k1 : (16 : Int) < (c : Int) := by omega
  have k2 : ¬ c = 16 := by omega
  have k3 : (16 : Int) ≤ (t.size : Int) := by omega
  have k4 : 16 ≤ t.size := by omega
  have k5 : 12 < t.size := by omega
  refine wp_region_later (by kernel_rfl) (by kernel_rfl) (fun hlc => ?_)
  repeat (go_big_quiet_step ((go_at_call 38; (with_reducible exact later_call (a16.out _)))))
  refine wpQuiet_nil ?_
  intro W2 hB2
  clear hlc a16 c12
  replace hM := hM.kept hB2
  clear hB2
  go_upto_region 5 with fail
  have hb := hM.buf 1 rfl
  obtain ⟨u16, c16⟩ : ∃ u, W2.cell? ⟨gy, 16, none⟩ = some u := ⟨_, hb.bts 16 (by omega)⟩
  obtain ⟨u17, c17⟩ : ∃ u, W2.cell? ⟨gy, 17, none⟩ = some u := ⟨_, hb.bts 17 (by omega)⟩
  have z16 := hb.free 16 (by omega)
  have z17 := hb.free 17 (by omega)
  have k6 : 17 < t.size := by omega
  have hgl2 := hb.lt
  have HB := Lib.hid hb
  have HM := Lib.hid hM
  clear hb hM
  go_upto_region 6 with fail
  refine wp_gen (fun W => Mem w W [atR gb 47 zSeg, bufR gy (tz t)]) (HM.out.bufPut 1 rfl ?hO ?hU) ?_
  case hO => repeat' (first | with_reducible exact only_refl _ _ | with_reducible refine only_set ?_ (.inl rfl) _)
  case hU => exact (HB.out.set_ 16 0 0 rfl).set_ 17 0 0 rfl
  clear c16 c17 z16 z17 hgl hgl2 HM HB
  intro W4 hM
  have hzl : (tz t).length = t.size := by unfold tz; simp
  have hb := hM.buf 1 rfl
  have hbt := hb.bts
  rw [hzl] at hbt
  have c12 := hbt 12 (by omega)
  have hgl := hb.lt
  have hand := u8_low4 _ x12 y12
  have h20 := Lib.hid (show ¬ t.size < 20 by omega)
  have hcv := run_convert_bytes_back (P := Try.prog) W4 79 9 5 ⟨gy, 0, none⟩ c (tz t) Try.underlying79 Try.underlying5 Try.underlying9 (hb.back)
  rw [hzl] at hcv
  have HCV := Lib.hid hcv
  have HSUM := Lib.hid (fun W => tccheck_any s d ⟨(tz t).toArray⟩ W hs.1 hs.2 hd.1 hd.2 (by show (tz t).toArray.size ≤ _; rw [List.size_toArray, hzl]; omega))
  have hsb := tcSum_bd s d ⟨(tz t).toArray⟩
  have hbz : ∀ (W : World), Mem w W [atR gb 47 zSeg, bufR gy (tz t)] → Bts W gy t.size (lb (tz t)) := fun W h => by have := (h.buf 1 rfl).bts; rwa [hzl] at this
  have HBZ := Lib.hid hbz
  have HZL := Lib.hid hzl
  clear hb hbt hcv hbz hzl
  by_cases e1 : lb (tz t) 12 / 16 * 4 < 20
  · have hr : tcErr s d t = 4 := by unfold tcErr; rw [if_neg h20.out, if_pos (.inl (by rw [HTO.out]; exact e1))]
    skip
    clear h20
    go_wp2_with (first
      | (refine at_box_ ?_; refine wpList_box_mem rfl _ _ rfl _ rfl hM ?_; clear hM; intro gb W hM; first | (simp only [List.nil_append] at hM) | (simp only [List.cons_append, List.nil_append] at hM))
      | (refine at_alloc_ (T := 47) ?_; refine wpList_alloc_mem rfl 47 rfl _ zv_Seg _ rfl hM ?_; clear hM; intro gb W hM; first | (simp only [List.nil_append] at hM) | (simp only [List.cons_append, List.nil_append] at hM))
      | (refine at_load_ (T := 47) ?_; first | (refine wpList_loadg_mem (by go_simp) 47 _ rfl 0 _ _ _ hM rfl rfl _ Try.underlying47 rfl sz_Seg ?_) | (refine wpList_loadg_mem (by go_simp) 47 _ rfl 1 _ _ _ hM rfl rfl _ Try.underlying47 rfl sz_Seg ?_))
      | (refine at_store_ (T := 47) ?_; first | (refine wpList_store_mem rfl 47 _ _ rfl 0 _ _ _ _ hM rfl rfl rfl rfl sz_Seg rfl ?_; clear hM; intro W hM; simp only [List.set_cons_zero] at hM) | (refine wpList_store_mem rfl 47 _ _ rfl 1 _ _ _ _ hM rfl rfl rfl rfl sz_Seg rfl ?_; clear hM; intro W hM; simp only [List.set_cons_succ, List.set_cons_zero] at hM)))
    have hc := hM.cells 0 rfl
    refine bodyPost_ret (v := .tuple #[.agg (cSeg oSeg).toArray, .int .i64 4]) (by simp [results, Try.results21, go_sem, hc, cSeg, oSeg]) rfl ⟨by first | rfl | (rw [hr]; rfl), hM.b⟩
  by_cases e2 : lb (tz t) 12 % 16 = 0
  case neg =>
    have hr : tcErr s d t = 4 := by unfold tcErr; rw [if_neg h20.out, if_pos (.inr e2)]
    have t2 : (lb (tz t) 12 % 16 != 0) = true := by simpa using e2
    skip
    clear h20
    go_wp2_with (first
      | (refine at_box_ ?_; refine wpList_box_mem rfl _ _ rfl _ rfl hM ?_; clear hM; intro gb W hM; first | (simp only [List.nil_append] at hM) | (simp only [List.cons_append, List.nil_append] at hM))
      | (refine at_alloc_ (T := 47) ?_; refine wpList_alloc_mem rfl 47 rfl _ zv_Seg _ rfl hM ?_; clear hM; intro gb W hM; first | (simp only [List.nil_append] at hM) | (simp only [List.cons_append, List.nil_append] at hM))
      | (refine at_load_ (T := 47) ?_; first | (refine wpList_loadg_mem (by go_simp) 47 _ rfl 0 _ _ _ hM rfl rfl _ Try.underlying47 rfl sz_Seg ?_) | (refine wpList_loadg_mem (by go_simp) 47 _ rfl 1 _ _ _ hM rfl rfl _ Try.underlying47 rfl sz_Seg ?_))
      | (refine at_store_ (T := 47) ?_; first | (refine wpList_store_mem rfl 47 _ _ rfl 0 _ _ _ _ hM rfl rfl rfl rfl sz_Seg rfl ?_; clear hM; intro W hM; simp only [List.set_cons_zero] at hM) | (refine wpList_store_mem rfl 47 _ _ rfl 1 _ _ _ _ hM rfl rfl rfl rfl sz_Seg rfl ?_; clear hM; intro W hM; simp only [List.set_cons_succ, List.set_cons_zero] at hM)))
    have hc := hM.cells 0 rfl
    refine bodyPost_ret (v := .tuple #[.agg (cSeg oSeg).toArray, .int .i64 4]) (by simp [results, Try.results21, go_sem, hc, cSeg, oSeg]) rfl ⟨by first | rfl | (rw [hr]; rfl), hM.b⟩
  have t2 : (lb (tz t) 12 % 16 != 0) = false := by simpa using e2
  have hA := Lib.hid (show ¬ (tcTo t < 20 ∨ lb (tz t) 12 % 16 ≠ 0) by rw [HTO.out]; omega)
  by_cases e3 : (t.size : Int) < lb (tz t) 12 / 16 * 4
  · have hr : tcErr s d t = 3 := by unfold tcErr; rw [if_neg h20.out, if_neg hA.out, if_pos (by rw [HTO.out]; exact e3)]
    clear hA
    skip
    clear h20
    go_wp2_with (first
      | (refine at_box_ ?_; refine wpList_box_mem rfl _ _ rfl _ rfl hM ?_; clear hM; intro gb W hM; first | (simp only [List.nil_append] at hM) | (simp only [List.cons_append, List.nil_append] at hM))
      | (refine at_alloc_ (T := 47) ?_; refine wpList_alloc_mem rfl 47 rfl _ zv_Seg _ rfl hM ?_; clear hM; intro gb W hM; first | (simp only [List.nil_append] at hM) | (simp only [List.cons_append, List.nil_append] at hM))
      | (refine at_load_ (T := 47) ?_; first | (refine wpList_loadg_mem (by go_simp) 47 _ rfl 0 _ _ _ hM rfl rfl _ Try.underlying47 rfl sz_Seg ?_) | (refine wpList_loadg_mem (by go_simp) 47 _ rfl 1 _ _ _ hM rfl rfl _ Try.underlying47 rfl sz_Seg ?_))
      | (refine at_store_ (T := 47) ?_; first | (refine wpList_store_mem rfl 47 _ _ rfl 0 _ _ _ _ hM rfl rfl rfl rfl sz_Seg rfl ?_; clear hM; intro W hM; simp only [List.set_cons_zero] at hM) | (refine wpList_store_mem rfl 47 _ _ rfl 1 _ _ _ _ hM rfl rfl rfl rfl sz_Seg rfl ?_; clear hM; intro W hM; simp only [List.set_cons_succ, List.set_cons_zero] at hM)))
    have hc := hM.cells 0 rfl
    refine bodyPost_ret (v := .tuple #[.agg (cSeg oSeg).toArray, .int .i64 3]) (by simp [results, Try.results21, go_sem, hc, cSeg, oSeg]) rfl ⟨by first | rfl | (rw [hr]; rfl), hM.b⟩
  have hB' := Lib.hid (show ¬ (t.size : Int) < tcTo t by rw [HTO.out]; exact e3)
  by_cases e4 : tcSum s d ⟨(tz t).toArray⟩ = w16 (lb t.data.toList) 16
  case neg =>
    have hr : tcErr s d t = 5 := by unfold tcErr; rw [if_neg h20.out, if_neg hA.out, if_neg (by have := hB'.out; omega), if_pos e4]
    have t4 : (tcSum s d ⟨(tz t).toArray⟩ != w16 (lb t.data.toList) 16) = true := by simpa using e4
    have hcv := HCV.out
    clear hA hB' e4
    go_upto_if 50 with         (first
          | (go_at_call 46; go_must (refine (HSUM.out _).mono ?_; rintro e W ⟨rfl, hb⟩; replace hM := hM.kept hb; clear hb))
          | (refine at_box_ ?_; refine wpList_box_mem rfl _ _ rfl _ rfl hM ?_; clear hM; intro gb W hM; first | (simp only [List.nil_append] at hM) | (simp only [List.cons_append, List.nil_append] at hM))
          | (refine at_alloc_ (T := 47) ?_; refine wpList_alloc_mem rfl 47 rfl _ zv_Seg _ rfl hM ?_; clear hM; intro gb W hM; first | (simp only [List.nil_append] at hM) | (simp only [List.cons_append, List.nil_append] at hM))
          | (refine at_load_ (T := 47) ?_; first | (refine wpList_loadg_mem (by go_simp) 47 _ rfl 0 _ _ _ hM rfl rfl _ Try.underlying47 rfl sz_Seg ?_) | (refine wpList_loadg_mem (by go_simp) 47 _ rfl 1 _ _ _ hM rfl rfl _ Try.underlying47 rfl sz_Seg ?_))
          | (refine at_store_ (T := 47) ?_; first | (refine wpList_store_mem rfl 47 _ _ rfl 0 _ _ _ _ hM rfl rfl rfl rfl sz_Seg rfl ?_; clear hM; intro W hM; simp only [List.set_cons_zero] at hM) | (refine wpList_store_mem rfl 47 _ _ rfl 1 _ _ _ _ hM rfl rfl rfl rfl sz_Seg rfl ?_; clear hM; intro W hM; simp only [List.set_cons_succ, List.set_cons_zero] at hM)))
    clear hcv
    skip
    clear h20
    go_wp2_with (first
      | (refine at_box_ ?_; refine wpList_box_mem rfl _ _ rfl _ rfl hM ?_; clear hM; intro gb W hM; first | (simp only [List.nil_append] at hM) | (simp only [List.cons_append, List.nil_append] at hM))
      | (refine at_alloc_ (T := 47) ?_; refine wpList_alloc_mem rfl 47 rfl _ zv_Seg _ rfl hM ?_; clear hM; intro gb W hM; first | (simp only [List.nil_append] at hM) | (simp only [List.cons_append, List.nil_append] at hM))
      | (refine at_load_ (T := 47) ?_; first | (refine wpList_loadg_mem (by go_simp) 47 _ rfl 0 _ _ _ hM rfl rfl _ Try.underlying47 rfl sz_Seg ?_) | (refine wpList_loadg_mem (by go_simp) 47 _ rfl 1 _ _ _ hM rfl rfl _ Try.underlying47 rfl sz_Seg ?_))
      | (refine at_store_ (T := 47) ?_; first | (refine wpList_store_mem rfl 47 _ _ rfl 0 _ _ _ _ hM rfl rfl rfl rfl sz_Seg rfl ?_; clear hM; intro W hM; simp only [List.set_cons_zero] at hM) | (refine wpList_store_mem rfl 47 _ _ rfl 1 _ _ _ _ hM rfl rfl rfl rfl sz_Seg rfl ?_; clear hM; intro W hM; simp only [List.set_cons_succ, List.set_cons_zero] at hM)))
    have hc := hM.cells 0 rfl
    refine bodyPost_ret (v := .tuple #[.agg (cSeg oSeg).toArray, .int .i64 5]) (by simp [results, Try.results21, go_sem, hc, cSeg, oSeg]) rfl ⟨by first | rfl | (rw [hr]; rfl), hM.b⟩
  have t4 : (tcSum s d ⟨(tz t).toArray⟩ != w16 (lb t.data.toList) 16) = false := by simpa using e4
  have hcv := HCV.out
  go_upto_region 12 with         (first
          | (go_at_call 46; go_must (refine (HSUM.out _).mono ?_; rintro e W ⟨rfl, hb⟩; replace hM := hM.kept hb; clear hb))
          | (refine at_box_ ?_; refine wpList_box_mem rfl _ _ rfl _ rfl hM ?_; clear hM; intro gb W hM; first | (simp only [List.nil_append] at hM) | (simp only [List.cons_append, List.nil_append] at hM))
          | (refine at_alloc_ (T := 47) ?_; refine wpList_alloc_mem rfl 47 rfl _ zv_Seg _ rfl hM ?_; clear hM; intro gb W hM; first | (simp only [List.nil_append] at hM) | (simp only [List.cons_append, List.nil_append] at hM))
          | (refine at_load_ (T := 47) ?_; first | (refine wpList_loadg_mem (by go_simp) 47 _ rfl 0 _ _ _ hM rfl rfl _ Try.underlying47 rfl sz_Seg ?_) | (refine wpList_loadg_mem (by go_simp) 47 _ rfl 1 _ _ _ hM rfl rfl _ Try.underlying47 rfl sz_Seg ?_))
          | (refine at_store_ (T := 47) ?_; first | (refine wpList_store_mem rfl 47 _ _ rfl 0 _ _ _ _ hM rfl rfl rfl rfl sz_Seg rfl ?_; clear hM; intro W hM; simp only [List.set_cons_zero] at hM) | (refine wpList_store_mem rfl 47 _ _ rfl 1 _ _ _ _ hM rfl rfl rfl rfl sz_Seg rfl ?_; clear hM; intro W hM; simp only [List.set_cons_succ, List.set_cons_zero] at hM)))
  clear hcv HCV HSUM c12 hand
  have hbt := HBZ.out _ hM
  have c13 := hbt 13 (by omega)
  have c18 := hbt 18 (by omega)
  have c19 := hbt 19 (by omega)
  have hgl5 := hM.buf 1 rfl |>.lt
  have k7 : 19 < t.size := by omega
  have k8 : 18 < t.size := by omega
  have k9 : 13 < t.size := by omega
  have hC := Lib.hid (show ¬ tcSum s d ⟨(tz t).toArray⟩ ≠ w16 (lb t.data.toList) 16 from fun h => h e4)
  clear hbt e4 t4
  by_cases e5 : 32 ≤ lb (tz t) 13
  · have hr : tcErr s d t = 4 := by unfold tcErr; rw [if_neg h20.out, if_neg hA.out, if_neg (by have := hB'.out; omega), if_neg hC.out, if_pos (.inl e5)]
    clear hA hB' hC
    skip
    clear h20
    go_wp2_with (first
      | (refine at_box_ ?_; refine wpList_box_mem rfl _ _ rfl _ rfl hM ?_; clear hM; intro gb W hM; first | (simp only [List.nil_append] at hM) | (simp only [List.cons_append, List.nil_append] at hM))
      | (refine at_alloc_ (T := 47) ?_; refine wpList_alloc_mem rfl 47 rfl _ zv_Seg _ rfl hM ?_; clear hM; intro gb W hM; first | (simp only [List.nil_append] at hM) | (simp only [List.cons_append, List.nil_append] at hM))
      | (refine at_load_ (T := 47) ?_; first | (refine wpList_loadg_mem (by go_simp) 47 _ rfl 0 _ _ _ hM rfl rfl _ Try.underlying47 rfl sz_Seg ?_) | (refine wpList_loadg_mem (by go_simp) 47 _ rfl 1 _ _ _ hM rfl rfl _ Try.underlying47 rfl sz_Seg ?_))
      | (refine at_store_ (T := 47) ?_; first | (refine wpList_store_mem rfl 47 _ _ rfl 0 _ _ _ _ hM rfl rfl rfl rfl sz_Seg rfl ?_; clear hM; intro W hM; simp only [List.set_cons_zero] at hM) | (refine wpList_store_mem rfl 47 _ _ rfl 1 _ _ _ _ hM rfl rfl rfl rfl sz_Seg rfl ?_; clear hM; intro W hM; simp only [List.set_cons_succ, List.set_cons_zero] at hM)))
    have hc := hM.cells 0 rfl
    refine bodyPost_ret (v := .tuple #[.agg (cSeg oSeg).toArray, .int .i64 4]) (by simp [results, Try.results21, go_sem, hc, cSeg, oSeg]) rfl ⟨by first | rfl | (rw [hr]; rfl), hM.b⟩
  by_cases e6 : lb (tz t) 18 = 0
  case neg =>
    have hr : tcErr s d t = 4 := by unfold tcErr; rw [if_neg h20.out, if_neg hA.out, if_neg (by have := hB'.out; omega), if_neg hC.out, if_pos (.inr (.inl e6))]
    have t6 : (lb (tz t) 18 != 0) = true := by simpa using e6
    clear hA hB' hC
    skip
    clear h20
    go_wp2_with (first
      | (refine at_box_ ?_; refine wpList_box_mem rfl _ _ rfl _ rfl hM ?_; clear hM; intro gb W hM; first | (simp only [List.nil_append] at hM) | (simp only [List.cons_append, List.nil_append] at hM))
      | (refine at_alloc_ (T := 47) ?_; refine wpList_alloc_mem rfl 47 rfl _ zv_Seg _ rfl hM ?_; clear hM; intro gb W hM; first | (simp only [List.nil_append] at hM) | (simp only [List.cons_append, List.nil_append] at hM))
      | (refine at_load_ (T := 47) ?_; first | (refine wpList_loadg_mem (by go_simp) 47 _ rfl 0 _ _ _ hM rfl rfl _ Try.underlying47 rfl sz_Seg ?_) | (refine wpList_loadg_mem (by go_simp) 47 _ rfl 1 _ _ _ hM rfl rfl _ Try.underlying47 rfl sz_Seg ?_))
      | (refine at_store_ (T := 47) ?_; first | (refine wpList_store_mem rfl 47 _ _ rfl 0 _ _ _ _ hM rfl rfl rfl rfl sz_Seg rfl ?_; clear hM; intro W hM; simp only [List.set_cons_zero] at hM) | (refine wpList_store_mem rfl 47 _ _ rfl 1 _ _ _ _ hM rfl rfl rfl rfl sz_Seg rfl ?_; clear hM; intro W hM; simp only [List.set_cons_succ, List.set_cons_zero] at hM)))
    have hc := hM.cells 0 rfl
    refine bodyPost_ret (v := .tuple #[.agg (cSeg oSeg).toArray, .int .i64 4]) (by simp [results, Try.results21, go_sem, hc, cSeg, oSeg]) rfl ⟨by first | rfl | (rw [hr]; rfl), hM.b⟩
  have t6 : (lb (tz t) 18 != 0) = false := by simpa using e6
  by_cases e7 : lb (tz t) 19 = 0
  case neg =>
    have hr : tcErr s d t = 4 := by unfold tcErr; rw [if_neg h20.out, if_neg hA.out, if_neg (by have := hB'.out; omega), if_neg hC.out, if_pos (.inr (.inr e7))]
    have t7 : (lb (tz t) 19 != 0) = true := by simpa using e7
    clear hA hB' hC
    skip
    clear h20
    go_wp2_with (first
      | (refine at_box_ ?_; refine wpList_box_mem rfl _ _ rfl _ rfl hM ?_; clear hM; intro gb W hM; first | (simp only [List.nil_append] at hM) | (simp only [List.cons_append, List.nil_append] at hM))
      | (refine at_alloc_ (T := 47) ?_; refine wpList_alloc_mem rfl 47 rfl _ zv_Seg _ rfl hM ?_; clear hM; intro gb W hM; first | (simp only [List.nil_append] at hM) | (simp only [List.cons_append, List.nil_append] at hM))
      | (refine at_load_ (T := 47) ?_; first | (refine wpList_loadg_mem (by go_simp) 47 _ rfl 0 _ _ _ hM rfl rfl _ Try.underlying47 rfl sz_Seg ?_) | (refine wpList_loadg_mem (by go_simp) 47 _ rfl 1 _ _ _ hM rfl rfl _ Try.underlying47 rfl sz_Seg ?_))
      | (refine at_store_ (T := 47) ?_; first | (refine wpList_store_mem rfl 47 _ _ rfl 0 _ _ _ _ hM rfl rfl rfl rfl sz_Seg rfl ?_; clear hM; intro W hM; simp only [List.set_cons_zero] at hM) | (refine wpList_store_mem rfl 47 _ _ rfl 1 _ _ _ _ hM rfl rfl rfl rfl sz_Seg rfl ?_; clear hM; intro W hM; simp only [List.set_cons_succ, List.set_cons_zero] at hM)))
    have hc := hM.cells 0 rfl
    refine bodyPost_ret (v := .tuple #[.agg (cSeg oSeg).toArray, .int .i64 4]) (by simp [results, Try.results21, go_sem, hc, cSeg, oSeg]) rfl ⟨by first | rfl | (rw [hr]; rfl), hM.b⟩
  have t7 : (lb (tz t) 19 != 0) = false := by simpa using e7
  have hD := Lib.hid (show ¬ (32 ≤ lb (tz t) 13 ∨ lb (tz t) 18 ≠ 0 ∨ lb (tz t) 19 ≠ 0) by omega)
  go_upto_region 15 with fail
  have a0 := fun (w1 : World) (h1 : Mem w w1 [atR gb 47 zSeg, bufR gy (tz t)]) (u : Later w1) => Get16_at gy 0 t.size c (lb (tz t)) t.size u.now (lb_ok _) ((HBZ.out _ h1).kept u.still) (by omega) (by omega) (by omega)
  rw [show lb (tz t) 0 * 256 + lb (tz t) (0 + 1) = w16 (lb (tz t)) 0 from rfl] at a0
  have A0 := Lib.hid a0
  have a2 := fun (w1 : World) (h1 : Mem w w1 [atR gb 47 zSeg, bufR gy (tz t)]) (u : Later w1) => Get16_at gy 2 t.size (c - 2) (lb (tz t)) (t.size - 2) u.now (lb_ok _) ((HBZ.out _ h1).kept u.still) (by omega) (by omega) (by omega)
  rw [show lb (tz t) 2 * 256 + lb (tz t) (2 + 1) = w16 (lb (tz t)) 2 from rfl] at a2
  have A2 := Lib.hid a2
  have a14 := fun (w1 : World) (h1 : Mem w w1 [atR gb 47 zSeg, bufR gy (tz t)]) (u : Later w1) => Get16_at gy 14 t.size (c - 14) (lb (tz t)) (t.size - 14) u.now (lb_ok _) ((HBZ.out _ h1).kept u.still) (by omega) (by omega) (by omega)
  rw [show lb (tz t) 14 * 256 + lb (tz t) (14 + 1) = w16 (lb (tz t)) 14 from rfl] at a14
  have A14 := Lib.hid a14
  have a4 := fun (w1 : World) (h1 : Mem w w1 [atR gb 47 zSeg, bufR gy (tz t)]) (u : Later w1) => Get32_at gy 4 t.size (c - 4) (lb (tz t)) (t.size - 4) u.now (lb_ok _) ((HBZ.out _ h1).kept u.still) (by omega) (by omega) (by omega) (by omega)
  have A4 := Lib.hid a4
  have a8 := fun (w1 : World) (h1 : Mem w w1 [atR gb 47 zSeg, bufR gy (tz t)]) (u : Later w1) => Get32_at gy 8 t.size (c - 8) (lb (tz t)) (t.size - 8) u.now (lb_ok _) ((HBZ.out _ h1).kept u.still) (by omega) (by omega) (by omega) (by omega)
  have A8 := Lib.hid a8
  clear a0 a2 a14 a4 a8
  obtain ⟨p0, q0⟩ := w16_bd _ (lb_ok (tz t)) 0
  obtain ⟨p2, q2⟩ := w16_bd _ (lb_ok (tz t)) 2
  obtain ⟨p14, q14⟩ := w16_bd _ (lb_ok (tz t)) 14
  obtain ⟨p4, q4⟩ := w32_bd _ (lb_ok (tz t)) 4
  obtain ⟨p8, q8⟩ := w32_bd _ (lb_ok (tz t)) 8
  obtain ⟨p13, q13⟩ := lb_ok (tz t) 13
  have f0 := u8_bit (lb (tz t) 13) 0 (by omega) p13 q13
  have f1 := u8_bit (lb (tz t) 13) 1 (by omega) p13 q13
  have f2 := u8_bit (lb (tz t) 13) 2 (by omega) p13 q13
  have f4 := u8_bit (lb (tz t) 13) 4 (by omega) p13 q13
  simp only [show ((2 : Int) ^ 0) = 1 by rfl, Int.ediv_one, Int.mul_one] at f0
  simp only [show ((2 : Int) ^ 1) = 2 by rfl] at f1
  simp only [show ((2 : Int) ^ 2) = 4 by rfl] at f2
  simp only [show ((2 : Int) ^ 4) = 16 by rfl] at f4
  clear c13 c18 c19 hgl5 k7 k8 k9 t2 t6 t7 e5 e6 e7
  have l2 : (2 : Int) < (c : Int) := by omega
  have l4 : (4 : Int) < (c : Int) := by omega
  have l8 : (8 : Int) < (c : Int) := by omega
  have l14 : (14 : Int) < (c : Int) := by omega
  have n2 : ¬ c = 2 := by omega
  have n4 : ¬ c = 4 := by omega
  have n8 : ¬ c = 8 := by omega
  have n14 : ¬ c = 14 := by omega
  have g2 : (2 : Int) ≤ (t.size : Int) := by omega
  have g4 : (4 : Int) ≤ (t.size : Int) := by omega
  have g8 : (8 : Int) ≤ (t.size : Int) := by omega
  have g14 : (14 : Int) ≤ (t.size : Int) := by omega
  have to1 : 0 ≤ lb (tz t) 12 / 16 * 4 := by omega
  have to2 : lb (tz t) 12 / 16 * 4 ≤ (t.size : Int) := by omega
  refine wp_region_mix0 37 39 [.al 47 zSeg, .st 37 47 (cSeg (tcR0 s d t))] _ hM (by kernel_rfl) (by kernel_rfl) (by kernel_rfl) (by kernel_rfl) rfl ?_
  apply Exists.intro
  refine ⟨?hq, ?hr⟩
  case hq =>
    intro w1 hM1 hlc
    simp only [List.take_succ_cons, List.take_zero]
    repeat (go_big_quiet_step (first | (go_at_call 38; first | (with_reducible exact later_call (A0.out _ hM1 _)) | (with_reducible exact later_call (A2.out _ hM1 _)) | (with_reducible exact later_call (A14.out _ hM1 _))) | (go_at_call 42; first | (with_reducible exact later_call (A4.out _ hM1 _)) | (with_reducible exact later_call (A8.out _ hM1 _)))))
    exact wpQuiet_nil rfl
  simp only [List.drop_succ_cons, List.drop_zero]
  refine ⟨rfl, rfl, zv_Seg, rfl, fun gx0 => ?_⟩
  refine ⟨_, _, _, _, rfl, rfl, rfl, rfl, rfl, rfl, rfl, sz_Seg, rfl, ?_⟩
  intro W hF
  clear hM
  have hM : Mem _ W [atR _ _ _, bufR _ _, atR _ _ _] := Mem.ofLf hF [39, 40, 37] (by decide) rfl
  clear hF
  simp only [Act.put, List.setIfInBounds_toArray, List.set_cons_zero, List.set_cons_succ]
  clear A0 A2 A14 A4 A8 f0 f1 f2 f4 HBZ
  have hx := hM.at_ 2 rfl
  have hy := hM.buf 1 rfl
  have hne : gy ≠ gx0 := fun e => hM.ne 1 2 (by decide) _ _ rfl rfl gy rfl (by rw [e]; rfl)
  have hzl := HZL.out
  have hol : (tcOpts t).length = (lb (tz t) 12 / 16 * 4).toNat - 20 := by
    show (((tz t).drop 20).take ((lb (tz t) 12 / 16 * 4).toNat - 20)).length = _
    rw [List.length_take, List.length_drop, hzl]; omega
  have hgy := hy.lt
  have hgx := hx.lt
  have hto2 : (lb (tz t) 12 / 16 * 4).toNat ≤ t.size := by omega
  have to3 : (20 : Int) ≤ lb (tz t) 12 / 16 * 4 := by omega
  have to4 : lb (tz t) 12 / 16 * 4 ≤ (c : Int) := by omega
  have l20 : (20 : Int) ≤ (c : Int) := by omega
  have hol' := hol
  clear hzl HZL
  (generalize lb (tz t) 12 / 16 * 4 = tq at *)
  by_cases c20 : c = 20
  · have hto20 : tq = 20 := by omega
    subst c20
    subst hto20
    have he : tcOpts t = [] := List.eq_nil_of_length_eq_zero (by rw [hol]; rfl)
    have hopt := tcopt_any (tcR0 s d t) gx0 gy 0 0 (tz t) (tcOpts t) W hx hy hne (by rw [he]; exact Nat.le_refl _) (by omega) (by rw [he]; intro k u hk; simp at hk)
    rw [show (tcOpts t).length = 0 by rw [he]; rfl] at hopt
    have hl0 : (tcOpts t).length = 0 := by rw [he]; rfl
    have HL0 := Lib.hid hl0
    have HOPT := Lib.hid hopt
    clear hopt hx hy hne hol hol' he hl0
    go_upto_region 16 with fail
    go_wp2_with fail
    refine HOPT.out.mono ?_
    rintro e W6 ⟨rfl, hA6, hO6⟩
    have e0 : optR 0 (tcOpts t) (tcR0 s d t).mss = tcOR t := by unfold tcOR; rw [HL0.out]; rfl
    rw [e0] at hA6 ⊢
    clear e0
    have hM7 : Mem w W6 [atR gb 47 zSeg, bufR gy (tz t), atR gx0 47 (cSeg (tcR s d t))] := hM.atPut 2 rfl hO6 hA6
    clear hM hA6 hO6
    have hM := hM7
    clear hM7
    have hcr := Lib.hid (fun W => tcCheck_any (tcR s d t) W (tcR_ok s d t hs hd (by omega) ⟨by have := (optR_bd (tcOpts t).length (tcOpts t) 0 (by omega) (by omega)).1; show _ ≤ (optR (tcOpts t).length (tcOpts t) 0).2; omega, by have := (optR_bd (tcOpts t).length (tcOpts t) 0 (by omega) (by omega)).2; show (optR (tcOpts t).length (tcOpts t) 0).2 ≤ _; omega⟩))
    have hpre : tcErr s d t = if (tcOR t).1 ≠ 0 then (tcOR t).1 else tcChk (tcR s d t) := by unfold tcErr; rw [if_neg h20.out, if_neg hA.out, if_neg (by have := hB'.out; omega), if_neg hC.out, if_neg hD.out]
    clear h20 hA hB' hC hD
    by_cases o0 : (tcOR t).1 = 0
    · rw [if_neg (by simpa using o0)] at hpre
      rw [o0]
      by_cases k0 : tcChk (tcR s d t) = 0
      · have t8 : ((tcChk (tcR s d t) : Int) != 0) = false := by simpa using k0
        have hr : tcErr s d t = 0 := by rw [hpre, k0]
        rw [k0] at hcr
        clear hpre o0
        go_wp2_with (first
          | (go_at_call 22; go_must (refine (hcr.out _).mono ?_; rintro e W ⟨rfl, hb⟩; replace hM := hM.kept hb; clear hb))
          | (refine at_box_ ?_; refine wpList_box_mem rfl _ _ rfl _ rfl hM ?_; clear hM; intro gb W hM; first | (simp only [List.nil_append] at hM) | (simp only [List.cons_append, List.nil_append] at hM))
          | (refine at_alloc_ (T := 47) ?_; refine wpList_alloc_mem rfl 47 rfl _ zv_Seg _ rfl hM ?_; clear hM; intro gb W hM; first | (simp only [List.nil_append] at hM) | (simp only [List.cons_append, List.nil_append] at hM))
          | (refine at_load_ (T := 47) ?_; first | (refine wpList_loadg_mem (by go_simp) 47 _ rfl 0 _ _ _ hM rfl rfl _ Try.underlying47 rfl sz_Seg ?_) | (refine wpList_loadg_mem (by go_simp) 47 _ rfl 1 _ _ _ hM rfl rfl _ Try.underlying47 rfl sz_Seg ?_) | (refine wpList_loadg_mem (by go_simp) 47 _ rfl 2 _ _ _ hM rfl rfl _ Try.underlying47 rfl sz_Seg ?_))
          | (refine at_store_ (T := 47) ?_; first | (refine wpList_store_mem rfl 47 _ _ rfl 0 _ _ _ _ hM rfl rfl rfl rfl sz_Seg rfl ?_; clear hM; intro W hM; simp only [List.set_cons_zero] at hM) | (refine wpList_store_mem rfl 47 _ _ rfl 1 _ _ _ _ hM rfl rfl rfl rfl sz_Seg rfl ?_; clear hM; intro W hM; simp only [List.set_cons_succ, List.set_cons_zero] at hM) | (refine wpList_store_mem rfl 47 _ _ rfl 2 _ _ _ _ hM rfl rfl rfl rfl sz_Seg rfl ?_; clear hM; intro W hM; simp only [List.set_cons_succ, List.set_cons_zero] at hM)))
        have hc := hM.cells 0 rfl
        simp only [cSeg] at hc
        refine bodyPost_ret (v := .tuple #[.agg (cSeg (tcR s d t)).toArray, .int .i64 0]) (by simp [results, Try.results21, go_sem, hc, cSeg]) rfl ⟨by first | rfl | (rw [hr]; rfl), hM.b⟩
      · have t8 : ((tcChk (tcR s d t) : Int) != 0) = true := by simpa using k0
        have hr : tcErr s d t = tcChk (tcR s d t) := hpre
        clear hpre o0
        go_wp2_with (first
          | (go_at_call 22; go_must (refine (hcr.out _).mono ?_; rintro e W ⟨rfl, hb⟩; replace hM := hM.kept hb; clear hb))
          | (refine at_box_ ?_; refine wpList_box_mem rfl _ _ rfl _ rfl hM ?_; clear hM; intro gb W hM; first | (simp only [List.nil_append] at hM) | (simp only [List.cons_append, List.nil_append] at hM))
          | (refine at_alloc_ (T := 47) ?_; refine wpList_alloc_mem rfl 47 rfl _ zv_Seg _ rfl hM ?_; clear hM; intro gb W hM; first | (simp only [List.nil_append] at hM) | (simp only [List.cons_append, List.nil_append] at hM))
          | (refine at_load_ (T := 47) ?_; first | (refine wpList_loadg_mem (by go_simp) 47 _ rfl 0 _ _ _ hM rfl rfl _ Try.underlying47 rfl sz_Seg ?_) | (refine wpList_loadg_mem (by go_simp) 47 _ rfl 1 _ _ _ hM rfl rfl _ Try.underlying47 rfl sz_Seg ?_) | (refine wpList_loadg_mem (by go_simp) 47 _ rfl 2 _ _ _ hM rfl rfl _ Try.underlying47 rfl sz_Seg ?_))
          | (refine at_store_ (T := 47) ?_; first | (refine wpList_store_mem rfl 47 _ _ rfl 0 _ _ _ _ hM rfl rfl rfl rfl sz_Seg rfl ?_; clear hM; intro W hM; simp only [List.set_cons_zero] at hM) | (refine wpList_store_mem rfl 47 _ _ rfl 1 _ _ _ _ hM rfl rfl rfl rfl sz_Seg rfl ?_; clear hM; intro W hM; simp only [List.set_cons_succ, List.set_cons_zero] at hM) | (refine wpList_store_mem rfl 47 _ _ rfl 2 _ _ _ _ hM rfl rfl rfl rfl sz_Seg rfl ?_; clear hM; intro W hM; simp only [List.set_cons_succ, List.set_cons_zero] at hM)))
        have hc := hM.cells 0 rfl
        refine bodyPost_ret (v := .tuple #[.agg (cSeg oSeg).toArray, .int .i64 (tcChk (tcR s d t))]) (by simp [results, Try.results21, go_sem, hc, cSeg, oSeg]) rfl ⟨by first | rfl | (rw [hr, if_neg k0]), hM.b⟩
    · rw [if_pos (by simpa using o0)] at hpre
      have hr : tcErr s d t = (tcOR t).1 := hpre
      have t9 : (((tcOR t).1 : Int) == 0) = false := by simpa using o0
      have t8 : (((tcOR t).1 : Int) != 0) = true := by simpa using o0
      clear hpre
      go_wp2_with (first
        | (go_at_call 22; go_must (refine (hcr.out _).mono ?_; rintro e W ⟨rfl, hb⟩; replace hM := hM.kept hb; clear hb))
        | (refine at_box_ ?_; refine wpList_box_mem rfl _ _ rfl _ rfl hM ?_; clear hM; intro gb W hM; first | (simp only [List.nil_append] at hM) | (simp only [List.cons_append, List.nil_append] at hM))
        | (refine at_alloc_ (T := 47) ?_; refine wpList_alloc_mem rfl 47 rfl _ zv_Seg _ rfl hM ?_; clear hM; intro gb W hM; first | (simp only [List.nil_append] at hM) | (simp only [List.cons_append, List.nil_append] at hM))
        | (refine at_load_ (T := 47) ?_; first | (refine wpList_loadg_mem (by go_simp) 47 _ rfl 0 _ _ _ hM rfl rfl _ Try.underlying47 rfl sz_Seg ?_) | (refine wpList_loadg_mem (by go_simp) 47 _ rfl 1 _ _ _ hM rfl rfl _ Try.underlying47 rfl sz_Seg ?_) | (refine wpList_loadg_mem (by go_simp) 47 _ rfl 2 _ _ _ hM rfl rfl _ Try.underlying47 rfl sz_Seg ?_))
        | (refine at_store_ (T := 47) ?_; first | (refine wpList_store_mem rfl 47 _ _ rfl 0 _ _ _ _ hM rfl rfl rfl rfl sz_Seg rfl ?_; clear hM; intro W hM; simp only [List.set_cons_zero] at hM) | (refine wpList_store_mem rfl 47 _ _ rfl 1 _ _ _ _ hM rfl rfl rfl rfl sz_Seg rfl ?_; clear hM; intro W hM; simp only [List.set_cons_succ, List.set_cons_zero] at hM) | (refine wpList_store_mem rfl 47 _ _ rfl 2 _ _ _ _ hM rfl rfl rfl rfl sz_Seg rfl ?_; clear hM; intro W hM; simp only [List.set_cons_succ, List.set_cons_zero] at hM)))
      have hc := hM.cells 0 rfl
      refine bodyPost_ret (v := .tuple #[.agg (cSeg oSeg).toArray, .int .i64 (tcOR t).1]) (by simp [results, Try.results21, go_sem, hc, cSeg, oSeg]) rfl ⟨by first | rfl | (rw [hr, if_neg o0]), hM.b⟩
  · have hopt := tcopt_any (tcR0 s d t) gx0 gy 20 (c - 20) (tz t) (tcOpts t) W hx hy hne (by rw [hol]; omega) (by omega) (fun k u hk => by
      unfold tcOpts at hk
      rw [List.getElem?_take] at hk
      split at hk
      · rw [List.getElem?_drop] at hk; exact hk
      · cases hk)
    have HOL := Lib.hid hol
    rw [hol] at hopt
    have HOPT := Lib.hid hopt
    clear hopt hx hy hne hol hol'
    go_upto_region 16 with fail
    go_wp2_with fail
    refine HOPT.out.mono ?_
    rintro e W6 ⟨rfl, hA6, hO6⟩
    rw [← HOL.out] at hA6 ⊢
    have hM7 : Mem w W6 [atR gb 47 zSeg, bufR gy (tz t), atR gx0 47 (cSeg (tcR s d t))] := hM.atPut 2 rfl hO6 hA6
    clear hM hA6 hO6
    have hM := hM7
    clear hM7
    have hcr := Lib.hid (fun W => tcCheck_any (tcR s d t) W (tcR_ok s d t hs hd (by omega) ⟨by have := (optR_bd (tcOpts t).length (tcOpts t) 0 (by omega) (by omega)).1; show _ ≤ (optR (tcOpts t).length (tcOpts t) 0).2; omega, by have := (optR_bd (tcOpts t).length (tcOpts t) 0 (by omega) (by omega)).2; show (optR (tcOpts t).length (tcOpts t) 0).2 ≤ _; omega⟩))
    rw [show (optR (tcOpts t).length (tcOpts t) (tcR0 s d t).mss).1 = (tcOR t).1 from rfl]
    have hpre : tcErr s d t = if (tcOR t).1 ≠ 0 then (tcOR t).1 else tcChk (tcR s d t) := by unfold tcErr; rw [if_neg h20.out, if_neg hA.out, if_neg (by have := hB'.out; omega), if_neg hC.out, if_neg hD.out]
    clear h20 hA hB' hC hD
    by_cases o0 : (tcOR t).1 = 0
    · rw [if_neg (by simpa using o0)] at hpre
      rw [o0]
      by_cases k0 : tcChk (tcR s d t) = 0
      · have t8 : ((tcChk (tcR s d t) : Int) != 0) = false := by simpa using k0
        have hr : tcErr s d t = 0 := by rw [hpre, k0]
        rw [k0] at hcr
        clear hpre o0
        go_wp2_with (first
          | (go_at_call 22; go_must (refine (hcr.out _).mono ?_; rintro e W ⟨rfl, hb⟩; replace hM := hM.kept hb; clear hb))
          | (refine at_box_ ?_; refine wpList_box_mem rfl _ _ rfl _ rfl hM ?_; clear hM; intro gb W hM; first | (simp only [List.nil_append] at hM) | (simp only [List.cons_append, List.nil_append] at hM))
          | (refine at_alloc_ (T := 47) ?_; refine wpList_alloc_mem rfl 47 rfl _ zv_Seg _ rfl hM ?_; clear hM; intro gb W hM; first | (simp only [List.nil_append] at hM) | (simp only [List.cons_append, List.nil_append] at hM))
          | (refine at_load_ (T := 47) ?_; first | (refine wpList_loadg_mem (by go_simp) 47 _ rfl 0 _ _ _ hM rfl rfl _ Try.underlying47 rfl sz_Seg ?_) | (refine wpList_loadg_mem (by go_simp) 47 _ rfl 1 _ _ _ hM rfl rfl _ Try.underlying47 rfl sz_Seg ?_) | (refine wpList_loadg_mem (by go_simp) 47 _ rfl 2 _ _ _ hM rfl rfl _ Try.underlying47 rfl sz_Seg ?_))
          | (refine at_store_ (T := 47) ?_; first | (refine wpList_store_mem rfl 47 _ _ rfl 0 _ _ _ _ hM rfl rfl rfl rfl sz_Seg rfl ?_; clear hM; intro W hM; simp only [List.set_cons_zero] at hM) | (refine wpList_store_mem rfl 47 _ _ rfl 1 _ _ _ _ hM rfl rfl rfl rfl sz_Seg rfl ?_; clear hM; intro W hM; simp only [List.set_cons_succ, List.set_cons_zero] at hM) | (refine wpList_store_mem rfl 47 _ _ rfl 2 _ _ _ _ hM rfl rfl rfl rfl sz_Seg rfl ?_; clear hM; intro W hM; simp only [List.set_cons_succ, List.set_cons_zero] at hM)))
        have hc := hM.cells 0 rfl
        simp only [cSeg] at hc
        refine bodyPost_ret (v := .tuple #[.agg (cSeg (tcR s d t)).toArray, .int .i64 0]) (by simp [results, Try.results21, go_sem, hc, cSeg]) rfl ⟨by first | rfl | (rw [hr]; rfl), hM.b⟩
      · have t8 : ((tcChk (tcR s d t) : Int) != 0) = true := by simpa using k0
        have hr : tcErr s d t = tcChk (tcR s d t) := hpre
        clear hpre o0
        go_wp2_with (first
          | (go_at_call 22; go_must (refine (hcr.out _).mono ?_; rintro e W ⟨rfl, hb⟩; replace hM := hM.kept hb; clear hb))
          | (refine at_box_ ?_; refine wpList_box_mem rfl _ _ rfl _ rfl hM ?_; clear hM; intro gb W hM; first | (simp only [List.nil_append] at hM) | (simp only [List.cons_append, List.nil_append] at hM))
          | (refine at_alloc_ (T := 47) ?_; refine wpList_alloc_mem rfl 47 rfl _ zv_Seg _ rfl hM ?_; clear hM; intro gb W hM; first | (simp only [List.nil_append] at hM) | (simp only [List.cons_append, List.nil_append] at hM))
          | (refine at_load_ (T := 47) ?_; first | (refine wpList_loadg_mem (by go_simp) 47 _ rfl 0 _ _ _ hM rfl rfl _ Try.underlying47 rfl sz_Seg ?_) | (refine wpList_loadg_mem (by go_simp) 47 _ rfl 1 _ _ _ hM rfl rfl _ Try.underlying47 rfl sz_Seg ?_) | (refine wpList_loadg_mem (by go_simp) 47 _ rfl 2 _ _ _ hM rfl rfl _ Try.underlying47 rfl sz_Seg ?_))
          | (refine at_store_ (T := 47) ?_; first | (refine wpList_store_mem rfl 47 _ _ rfl 0 _ _ _ _ hM rfl rfl rfl rfl sz_Seg rfl ?_; clear hM; intro W hM; simp only [List.set_cons_zero] at hM) | (refine wpList_store_mem rfl 47 _ _ rfl 1 _ _ _ _ hM rfl rfl rfl rfl sz_Seg rfl ?_; clear hM; intro W hM; simp only [List.set_cons_succ, List.set_cons_zero] at hM) | (refine wpList_store_mem rfl 47 _ _ rfl 2 _ _ _ _ hM rfl rfl rfl rfl sz_Seg rfl ?_; clear hM; intro W hM; simp only [List.set_cons_succ, List.set_cons_zero] at hM)))
        have hc := hM.cells 0 rfl
        refine bodyPost_ret (v := .tuple #[.agg (cSeg oSeg).toArray, .int .i64 (tcChk (tcR s d t))]) (by simp [results, Try.results21, go_sem, hc, cSeg, oSeg]) rfl ⟨by first | rfl | (rw [hr, if_neg k0]), hM.b⟩
    · rw [if_pos (by simpa using o0)] at hpre
      have hr : tcErr s d t = (tcOR t).1 := hpre
      have t9 : (((tcOR t).1 : Int) == 0) = false := by simpa using o0
      have t8 : (((tcOR t).1 : Int) != 0) = true := by simpa using o0
      clear hpre
      go_wp2_with (first
        | (go_at_call 22; go_must (refine (hcr.out _).mono ?_; rintro e W ⟨rfl, hb⟩; replace hM := hM.kept hb; clear hb))
        | (refine at_box_ ?_; refine wpList_box_mem rfl _ _ rfl _ rfl hM ?_; clear hM; intro gb W hM; first | (simp only [List.nil_append] at hM) | (simp only [List.cons_append, List.nil_append] at hM))
        | (refine at_alloc_ (T := 47) ?_; refine wpList_alloc_mem rfl 47 rfl _ zv_Seg _ rfl hM ?_; clear hM; intro gb W hM; first | (simp only [List.nil_append] at hM) | (simp only [List.cons_append, List.nil_append] at hM))
        | (refine at_load_ (T := 47) ?_; first | (refine wpList_loadg_mem (by go_simp) 47 _ rfl 0 _ _ _ hM rfl rfl _ Try.underlying47 rfl sz_Seg ?_) | (refine wpList_loadg_mem (by go_simp) 47 _ rfl 1 _ _ _ hM rfl rfl _ Try.underlying47 rfl sz_Seg ?_) | (refine wpList_loadg_mem (by go_simp) 47 _ rfl 2 _ _ _ hM rfl rfl _ Try.underlying47 rfl sz_Seg ?_))
        | (refine at_store_ (T := 47) ?_; first | (refine wpList_store_mem rfl 47 _ _ rfl 0 _ _ _ _ hM rfl rfl rfl rfl sz_Seg rfl ?_; clear hM; intro W hM; simp only [List.set_cons_zero] at hM) | (refine wpList_store_mem rfl 47 _ _ rfl 1 _ _ _ _ hM rfl rfl rfl rfl sz_Seg rfl ?_; clear hM; intro W hM; simp only [List.set_cons_succ, List.set_cons_zero] at hM) | (refine wpList_store_mem rfl 47 _ _ rfl 2 _ _ _ _ hM rfl rfl rfl rfl sz_Seg rfl ?_; clear hM; intro W hM; simp only [List.set_cons_succ, List.set_cons_zero] at hM)))
      have hc := hM.cells 0 rfl
      refine bodyPost_ret (v := .tuple #[.agg (cSeg oSeg).toArray, .int .i64 (tcOR t).1]) (by simp [results, Try.results21, go_sem, hc, cSeg, oSeg]) rfl ⟨by first | rfl | (rw [hr, if_neg o0]), hM.b⟩
end Go.Proofs.Ytpjcbjacdkobmaa
