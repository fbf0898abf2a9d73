/- The walk of OutqWhole: it returns true. -/
import Derived.Test.YtmcdmgnpbhkdhaaOutqL
namespace Go.Proofs.Ytmcdmgnpbhkdhaa
open Go.RowKit Go.Lib
set_option linter.unusedVariables false

theorem wholeN (t : ByteArray) (h : t.size ≤ 2048) (s : ByteArray) : oN (wq t) s.size ≤ s.size ∧ t.size + oN (wq t) s.size ≤ 2048 := by
  have h1 := (oN_le (wq_ok t h) s.size).1
  have h2 := (oN_le (wq_ok t h) s.size).2
  rw [wq_room] at h2
  omega
set_option maxRecDepth 100000 in
set_option maxHeartbeats 8000000 in
theorem w_OutqWhole (A0 : Option Addr) (n0 c0 : Nat) (css0 : Nat → List Value) (A1 : Option Addr) (n1 c1 : Nat) (css1 : Nat → List Value) (w : World) (hR0 : Rows_ w A0 n0 [.str] css0) (hl0 : n0 ≤ 140737488351232) (hR1 : Rows_ w A1 n1 [.int .i64] css1) (hl1 : n1 ≤ 140737488351232) :
    Calls Try.prog 3 #[.slice A0 n0 c0, .slice A1 n1 c1] w fun e w' => e = .returned (.bool true) ∧ Below w.heap.size w w' := by
  have HR0 := Lib.hid hR0
  have HR1 := Lib.hid hR1
  clear hR0 hR1
  have hM := Mem.nil w
  go_enter Try.func3, Try.ntmps3
  go_upto_region 2 with (go_at_call 12; refine (newq_any _).mono ?_; rintro e W ⟨g, rfl, hN⟩; replace hM := hN; clear hN)
  go_wp2_with fail
  go_loopw [6, 22] (fun va vi wr => ∃ (k : Nat) (t : ByteArray) (v : Value), k ≤ n0 ∧ vi = .int .i64 (k : Int) ∧ va = .string t ∧ t.size ≤ 2048 ∧ Mem w wr [oqA g (wq t) v, oqB (wq t) v]) (fun va vi _ => n0 - (intOf vi).toNat)
  case atStart => exact ⟨0, ⟨#[]⟩, .slice none 0 0, by omega, rfl, rfl, by show (0 : Nat) ≤ 2048; omega, hM⟩
  case round =>
    obtain ⟨k, t, v, hk, rfl, rfl, ht, hM⟩ := hrel
    by_cases hlt : k < n0
    · obtain ⟨b, off, hA, hrg⟩ := HR0.out.at_ k hlt
      have hok := HR0.out.ok k hlt
      obtain ⟨s, hcs, hs⟩ : ∃ s : ByteArray, css0 k = [.string s] ∧ s.size ≤ 140737488351232 := by
        generalize css0 k = l at hok
        match l, hok with
        | [x], hok => obtain ⟨s, rfl, hs⟩ := hok.1; exact ⟨s, rfl, hs⟩
      rw [hcs] at hrg
      subst hA
      have hb0 := hrg 0 _ rfl
      have hbl := block_of_cell hb0
      have hb1 := keep_cell hM.b hb0
      simp only [List.length_cons, List.length_nil, Nat.zero_add, Nat.mul_one, Nat.add_zero] at hb1 hbl
      have hwn := wholeN t ht s
      have HWR := Lib.hid (fun W (h : OPre W W g v (wq t) v) => Write_any g (wq t) v s W h (wq_ok t ht) hs)
      rw [wq_write] at HWR
      generalize oN (wq t) s.size = m at *
      obtain ⟨hm1, hm2⟩ := hwn
      have hts : (t ++ s.extract 0 m).size = t.size + m := by rw [ByteArray.size_append, ByteArray.size_extract]; omega
      have HRM := Lib.hid (fun W v2 (h1 : OAt W g (wq (t ++ s.extract 0 m)) v2) (h2 : OwnB W 0 v2 (wq (t ++ s.extract 0 m)).l) => Room_any g (wq (t ++ s.extract 0 m)) v2 W h1 h2 (by simp only [wq, sI_len]; omega))
      have hrm : oRoom (wq (t ++ s.extract 0 m)) = 2048 - ((t.size : Int) + (m : Int)) := by rw [wq_room, hts]; omega
      rw [hrm] at HRM
      have HTS := Lib.hid hts
      clear hts hrm hrg hok hcs
      have q1 : decide ((m : Int) < 0) = false := by simp
      have q2 : decide ((s.size : Int) < (m : Int)) = false := by simp; omega
      have q3 : decide (s.size < m) = false := by simp; omega
      have q4 : ((2048 : Int) - ((t.size : Int) + (m : Int)) != 2048 - (t.size : Int) - (m : Int)) = false := by simp; omega
      have q5 : (0 : Int) ≤ (m : Int) := by omega
      have q6 : (m : Int) ≤ (s.size : Int) := by omega
      go_wp2_with (first | (go_at_call 13; refine (HWR.out _ (oq_hand hM)).mono ?_; rintro e W ⟨v2, rfl, hN⟩; replace hM := oq_put hM hN; clear hN) | (go_at_call 14; refine (HRM.out _ _ (hM.at_ 0 rfl) (hM.own 1 rfl)).mono ?_; rintro e W ⟨rfl, rfl⟩))
      go_roundw
      case rel => exact ⟨k + 1, t ++ s.extract 0 m, v2, by omega, by go_num, rfl, by rw [HTS.out]; omega, hM⟩
      case measure => simp [intOf]; omega
    · obtain rfl : k = n0 := by omega
      clear hlt hk
      go_wp2_with (go_at_call 15; refine (Close_any _ _ _ _ (oq_hand hM)).mono ?_; rintro e W ⟨rfl, hN⟩; replace hM := oq_put hM hN; clear hN)
      replace hM : Mem w W [oqA g (cq t ((0 : Nat) : Int)) v, oqB (cq t ((0 : Nat) : Int)) v] := hM
      go_loopw [10, 11, 12, 13] (fun vg vs vf vi wr => ∃ (c i : Nat), c ≤ t.size + 2 ∧ i ≤ c ∧ vi = .int .i64 (i : Int) ∧ vg = .string (t.extract 0 (min (c - 1) t.size)) ∧ vs = .int .i64 (if c = 0 then 0 else 1) ∧ vf = .int .i64 (if c = t.size + 2 then 1 else 0) ∧ Mem w wr [oqA g (cq t c) v, oqB (cq t c) v]) (fun vg vs vf vi _ => t.size + 3 - (intOf vi).toNat)
      case atStart => exact ⟨0, 0, by omega, by omega, rfl, congrArg Value.string (by rw [show min (0 - 1) t.size = 0 by omega, ext_none]), rfl, by rw [if_neg (by omega)], hM⟩
      case round =>
        obtain ⟨c, i, hc, hi, rfl, rfl, rfl, rfl, hM⟩ := hrel
        have q0 : decide ((4000 : Int) < (i : Int)) = false := by simp; omega
        have q0' : decide (4000 < i) = false := by simp; omega
        by_cases hin : i < n1
        · obtain ⟨b, off, hA, hrg⟩ := HR1.out.at_ i hin
          have hok := HR1.out.ok i hin
          obtain ⟨x, hcs, hx1, hx2⟩ := one_i64 hok
          rw [hcs] at hrg
          subst hA
          have hb0 := hrg 0 _ rfl
          have hbl := block_of_cell hb0
          have hb1 := keep_cell hM.b hb0
          simp only [List.length_cons, List.length_nil, Nat.zero_add, Nat.mul_one, Nat.add_zero] at hb1 hbl
          have HRS := Lib.hid (fun W => Rest_any x 300 W hx1 hx2 (by omega) (by omega))
          obtain ⟨r, hr⟩ : ∃ r, x % 300 = r := ⟨_, rfl⟩
          have hr1 : 0 ≤ r ∧ r < 300 := by omega
          rw [hr] at HRS
          have z1 : decide (i < n1) = true := by simpa using hin
          clear hr hx1 hx2 hrg hok hcs hb0
          have hm1 : 1 ≤ 1 + r := by omega
          have hm2 : 1 + r ≤ 1048576 := by omega
          by_cases hcN : c = t.size + 2
          · have HNX := Lib.hid (fun W h => next_step g t v c (1 + r) ht hc hm1 hm2 ⟨0, false, false, ⟨#[]⟩⟩ c false (by unfold qPiece; rw [cq_is t c _ ht hm1, decide_eq_false (by omega)]; rfl) (by rw [cq_is t c _ ht hm1, decide_eq_false (by omega)]) (by rfl) W h)
            obtain ⟨hh, hok3, hu3, he3, hb3⟩ := cq_acked t c ht hcN
            have HAK := Lib.hid (fun W (h : OPre W W g v (cq t c) v) => (ack_yes g (cq t c) v ((t.size : Int) + 2) W h (cq_ok t c ht (by omega) (by omega)) (by simp [cq]) hh : Calls _ _ _ _ fun e w' => ∃ v', e = .returned (.int .i64 ((t.size : Int) + 2 - 0)) ∧ OPre W w' g v (oAck (cq t c) ((t.size : Int) + 2)) v'))
            have HE1 := Lib.hid (fun W (h1 : OAt W g (cq t c) v) (h2 : OwnB W 0 v (cq t c).l) => (End_any g (cq t c) v W h1 h2 (by simp only [cq, sI_len]; exact ht) (by simp [cq]) (by simp [cq])))
            rw [cq_end] at HE1
            generalize oAck (cq t c) ((t.size : Int) + 2) = q3 at *
            have HE2 := Lib.hid (fun W v3 (h1 : OAt W g q3 v3) (h2 : OwnB W 0 v3 q3.l) => End_any g q3 v3 W h1 h2 hok3.len hok3.ba (by omega))
            rw [he3] at HE2
            have HU := Lib.hid (fun W v3 (h1 : OAt W g q3 v3) => Una_any g q3 v3 W h1)
            rw [hu3] at HU
            have hgN : t.extract 0 (min (c - 1) t.size) = t := by rw [show min (c - 1) t.size = t.size by omega, ext_full]
            have hc0 : ¬ c = 0 := by omega
            have y1 : ((t.size : Int) + 2 - 0 == (t.size : Int) + 2) = true := by simp
            simp only [hgN, if_neg hc0, if_pos hcN]
            have HCN := Lib.hid hcN
            clear hh hok3 hu3 he3 hb3 hgN hc0 hcN
            go_upto_region 22 with         (first
          | (go_at_call 17; refine (HNX.out _ (oq_hand hM)).mono ?_; rintro e W ⟨rfl, hN⟩; replace hM := oq_put hM hN; clear hN)
          | (go_at_call 16; refine (HRS.out _).mono ?_; rintro e W ⟨rfl, rfl⟩)
          | (refine at_box_ ?_; refine wpList_box_mem rfl _ _ rfl _ rfl hM ?_; clear hM; intro gb W hM; first | (simp only [List.nil_append] at hM) | (simp only [List.cons_append, List.nil_append] at hM))
          | (refine at_alloc_ (T := 30) ?_; refine wpList_alloc_mem rfl 30 rfl _ zv_Piece _ rfl hM ?_; clear hM; intro gb W hM; first | (simp only [List.nil_append] at hM) | (simp only [List.cons_append, List.nil_append] at hM))
          | (refine at_load_ (T := 30) ?_; refine at_wanted_ (by go_simp) ?_; first | (refine wpList_loadg_mem (by go_simp) 30 _ rfl 0 _ _ _ hM rfl rfl _ Try.underlying30 rfl sz_Piece ?_) | (refine wpList_loadg_mem (by go_simp) 30 _ rfl 1 _ _ _ hM rfl rfl _ Try.underlying30 rfl sz_Piece ?_) | (refine wpList_loadg_mem (by go_simp) 30 _ rfl 2 _ _ _ hM rfl rfl _ Try.underlying30 rfl sz_Piece ?_))
          | (refine at_store_ (T := 30) ?_; first | (refine wpList_store_mem rfl 30 _ _ rfl 0 _ _ _ _ hM rfl rfl rfl rfl sz_Piece rfl ?_; clear hM; intro W hM; simp only [List.set_cons_zero] at hM) | (refine wpList_store_mem rfl 30 _ _ rfl 1 _ _ _ _ hM rfl rfl rfl rfl sz_Piece rfl ?_; clear hM; intro W hM; simp only [List.set_cons_succ, List.set_cons_zero] at hM) | (refine wpList_store_mem rfl 30 _ _ rfl 2 _ _ _ _ hM rfl rfl rfl rfl sz_Piece rfl ?_; clear hM; intro W hM; simp only [List.set_cons_succ, List.set_cons_zero] at hM))
          | (refine at_load_ ?_; refine at_wanted_ (by go_simp) ?_; first | (refine wpList_loadf_mem (by go_simp) _ _ rfl (by kernel_rfl) 0 _ _ _ _ _ hM rfl rfl rfl ?_) | (refine wpList_loadf_mem (by go_simp) _ _ rfl (by kernel_rfl) 1 _ _ _ _ _ hM rfl rfl rfl ?_) | (refine wpList_loadf_mem (by go_simp) _ _ rfl (by kernel_rfl) 2 _ _ _ _ _ hM rfl rfl rfl ?_))
          | (refine at_store_ ?_; first | (refine wpList_store1_mem rfl _ _ _ rfl 0 _ _ _ _ _ hM rfl rfl (by first | ((conv => lhs; whnf); done) | ((conv => lhs; whnf); rfl)) (by rfl) (by rfl) (by kernel_rfl) rfl ?_; clear hM; intro W hM; simp only [List.set_cons_succ, List.set_cons_zero] at hM) | (refine wpList_store1_mem rfl _ _ _ rfl 1 _ _ _ _ _ hM rfl rfl (by first | ((conv => lhs; whnf); done) | ((conv => lhs; whnf); rfl)) (by rfl) (by rfl) (by kernel_rfl) rfl ?_; clear hM; intro W hM; simp only [List.set_cons_succ, List.set_cons_zero] at hM) | (refine wpList_store1_mem rfl _ _ _ rfl 2 _ _ _ _ _ hM rfl rfl (by first | ((conv => lhs; whnf); done) | ((conv => lhs; whnf); rfl)) (by rfl) (by rfl) (by kernel_rfl) rfl ?_; clear hM; intro W hM; simp only [List.set_cons_succ, List.set_cons_zero] at hM)))
            refine (HE1.out _ (hM.at_ 0 rfl) (hM.own 1 rfl)).mono ?_
            rintro e W ⟨rfl, hb⟩
            replace hM := hM.kept hb
            clear hb HE1
            go_wp2_with (first | (go_at_call 18; refine (HAK.out _ (oq_hand hM)).mono ?_; rintro e W ⟨v2, rfl, hN⟩; replace hM := oq_put hM hN; clear hN) | (go_at_call 20; refine (HU.out _ _ (hM.at_ 0 rfl)).mono ?_; rintro e W ⟨rfl, rfl⟩) | (go_at_call 19; refine (HE2.out _ _ (hM.at_ 0 rfl) (hM.own 1 rfl)).mono ?_; rintro e W ⟨rfl, hb⟩; replace hM := hM.kept hb; clear hb))
            go_ret
            exact ⟨rfl, hM.b⟩
          · by_cases hc0 : c = 0
            · subst hc0
              have HNX := Lib.hid (fun W h => next_step g t v 0 (1 + r) ht hc hm1 hm2 ⟨0, true, false, ⟨#[]⟩⟩ 1 true (cq_first t _ ht hm1) (by rw [cq_is t _ _ ht hm1, decide_eq_true (by omega)]) (by rfl) W h)
              have hg0 : t.extract 0 (min (0 - 1) t.size) = ⟨#[]⟩ := by rw [show min (0 - 1) t.size = 0 by omega, ext_none]
              simp only [hg0, if_neg hcN]
              clear hg0
              go_upto_region 22 with         (first
          | (go_at_call 17; refine (HNX.out _ (oq_hand hM)).mono ?_; rintro e W ⟨rfl, hN⟩; replace hM := oq_put hM hN; clear hN)
          | (go_at_call 16; refine (HRS.out _).mono ?_; rintro e W ⟨rfl, rfl⟩)
          | (refine at_box_ ?_; refine wpList_box_mem rfl _ _ rfl _ rfl hM ?_; clear hM; intro gb W hM; first | (simp only [List.nil_append] at hM) | (simp only [List.cons_append, List.nil_append] at hM))
          | (refine at_alloc_ (T := 30) ?_; refine wpList_alloc_mem rfl 30 rfl _ zv_Piece _ rfl hM ?_; clear hM; intro gb W hM; first | (simp only [List.nil_append] at hM) | (simp only [List.cons_append, List.nil_append] at hM))
          | (refine at_load_ (T := 30) ?_; refine at_wanted_ (by go_simp) ?_; first | (refine wpList_loadg_mem (by go_simp) 30 _ rfl 0 _ _ _ hM rfl rfl _ Try.underlying30 rfl sz_Piece ?_) | (refine wpList_loadg_mem (by go_simp) 30 _ rfl 1 _ _ _ hM rfl rfl _ Try.underlying30 rfl sz_Piece ?_) | (refine wpList_loadg_mem (by go_simp) 30 _ rfl 2 _ _ _ hM rfl rfl _ Try.underlying30 rfl sz_Piece ?_))
          | (refine at_store_ (T := 30) ?_; first | (refine wpList_store_mem rfl 30 _ _ rfl 0 _ _ _ _ hM rfl rfl rfl rfl sz_Piece rfl ?_; clear hM; intro W hM; simp only [List.set_cons_zero] at hM) | (refine wpList_store_mem rfl 30 _ _ rfl 1 _ _ _ _ hM rfl rfl rfl rfl sz_Piece rfl ?_; clear hM; intro W hM; simp only [List.set_cons_succ, List.set_cons_zero] at hM) | (refine wpList_store_mem rfl 30 _ _ rfl 2 _ _ _ _ hM rfl rfl rfl rfl sz_Piece rfl ?_; clear hM; intro W hM; simp only [List.set_cons_succ, List.set_cons_zero] at hM))
          | (refine at_load_ ?_; refine at_wanted_ (by go_simp) ?_; first | (refine wpList_loadf_mem (by go_simp) _ _ rfl (by kernel_rfl) 0 _ _ _ _ _ hM rfl rfl rfl ?_) | (refine wpList_loadf_mem (by go_simp) _ _ rfl (by kernel_rfl) 1 _ _ _ _ _ hM rfl rfl rfl ?_) | (refine wpList_loadf_mem (by go_simp) _ _ rfl (by kernel_rfl) 2 _ _ _ _ _ hM rfl rfl rfl ?_))
          | (refine at_store_ ?_; first | (refine wpList_store1_mem rfl _ _ _ rfl 0 _ _ _ _ _ hM rfl rfl (by first | ((conv => lhs; whnf); done) | ((conv => lhs; whnf); rfl)) (by rfl) (by rfl) (by kernel_rfl) rfl ?_; clear hM; intro W hM; simp only [List.set_cons_succ, List.set_cons_zero] at hM) | (refine wpList_store1_mem rfl _ _ _ rfl 1 _ _ _ _ _ hM rfl rfl (by first | ((conv => lhs; whnf); done) | ((conv => lhs; whnf); rfl)) (by rfl) (by rfl) (by kernel_rfl) rfl ?_; clear hM; intro W hM; simp only [List.set_cons_succ, List.set_cons_zero] at hM) | (refine wpList_store1_mem rfl _ _ _ rfl 2 _ _ _ _ _ hM rfl rfl (by first | ((conv => lhs; whnf); done) | ((conv => lhs; whnf); rfl)) (by rfl) (by rfl) (by kernel_rfl) rfl ?_; clear hM; intro W hM; simp only [List.set_cons_succ, List.set_cons_zero] at hM)))
              have hcp := hM.cells 2 rfl
              simp only [cPiece] at hcp
              go_wp2_with fail
              go_roundw
              case rel => exact ⟨1, i + 1, by omega, by omega, by go_num, congrArg Value.string (by rw [show min (1 - 1) t.size = 0 by omega, ext_none]; rfl), rfl, by rw [if_neg (by omega)], hM.take_ 2⟩
              case measure => simp [intOf]; omega
            · obtain ⟨n, hn1, hP, hn2⟩ := cq_piece t c (1 + r) ht hm1 (by omega) (by omega)
              have hgs : (t.extract 0 (c - 1)).size = c - 1 := by rw [ByteArray.size_extract]; omega
              have hbs : (t.extract (c - 1) (c - 1 + n)).size = n := by rw [ByteArray.size_extract]; omega
              have hjn := ext_join t (c - 1) (c - 1 + n) (by omega) hn1
              have hgc : t.extract 0 (min (c - 1) t.size) = t.extract 0 (c - 1) := by rw [show min (c - 1) t.size = c - 1 by omega]
              simp only [hgc, if_neg hc0, if_neg hcN]
              generalize hgd : t.extract 0 (c - 1) = gd at *
              generalize hbd : t.extract (c - 1) (c - 1 + n) = bd at *
              clear hgd hbd
              have HJN := Lib.hid hjn
              by_cases hf : c - 1 + n = t.size
              · rw [decide_eq_true hf] at hP
                have HNX := Lib.hid (fun W h => next_step g t v c (1 + r) ht hc hm1 hm2 ⟨c, false, true, bd⟩ (c + n + 1) true hP (by rw [cq_is t _ _ ht hm1, decide_eq_true (by omega)]) (by show (c : Int) + ((bd.size : Int) + 0 + 1) = _; omega) W h)
                have HF := Lib.hid hf
                have HC0 := Lib.hid hc0
                clear hP hjn hf hgc hc0 hcN
                go_upto_region 22 with         (first
          | (go_at_call 17; refine (HNX.out _ (oq_hand hM)).mono ?_; rintro e W ⟨rfl, hN⟩; replace hM := oq_put hM hN; clear hN)
          | (go_at_call 16; refine (HRS.out _).mono ?_; rintro e W ⟨rfl, rfl⟩)
          | (refine at_box_ ?_; refine wpList_box_mem rfl _ _ rfl _ rfl hM ?_; clear hM; intro gb W hM; first | (simp only [List.nil_append] at hM) | (simp only [List.cons_append, List.nil_append] at hM))
          | (refine at_alloc_ (T := 30) ?_; refine wpList_alloc_mem rfl 30 rfl _ zv_Piece _ rfl hM ?_; clear hM; intro gb W hM; first | (simp only [List.nil_append] at hM) | (simp only [List.cons_append, List.nil_append] at hM))
          | (refine at_load_ (T := 30) ?_; refine at_wanted_ (by go_simp) ?_; first | (refine wpList_loadg_mem (by go_simp) 30 _ rfl 0 _ _ _ hM rfl rfl _ Try.underlying30 rfl sz_Piece ?_) | (refine wpList_loadg_mem (by go_simp) 30 _ rfl 1 _ _ _ hM rfl rfl _ Try.underlying30 rfl sz_Piece ?_) | (refine wpList_loadg_mem (by go_simp) 30 _ rfl 2 _ _ _ hM rfl rfl _ Try.underlying30 rfl sz_Piece ?_))
          | (refine at_store_ (T := 30) ?_; first | (refine wpList_store_mem rfl 30 _ _ rfl 0 _ _ _ _ hM rfl rfl rfl rfl sz_Piece rfl ?_; clear hM; intro W hM; simp only [List.set_cons_zero] at hM) | (refine wpList_store_mem rfl 30 _ _ rfl 1 _ _ _ _ hM rfl rfl rfl rfl sz_Piece rfl ?_; clear hM; intro W hM; simp only [List.set_cons_succ, List.set_cons_zero] at hM) | (refine wpList_store_mem rfl 30 _ _ rfl 2 _ _ _ _ hM rfl rfl rfl rfl sz_Piece rfl ?_; clear hM; intro W hM; simp only [List.set_cons_succ, List.set_cons_zero] at hM))
          | (refine at_load_ ?_; refine at_wanted_ (by go_simp) ?_; first | (refine wpList_loadf_mem (by go_simp) _ _ rfl (by kernel_rfl) 0 _ _ _ _ _ hM rfl rfl rfl ?_) | (refine wpList_loadf_mem (by go_simp) _ _ rfl (by kernel_rfl) 1 _ _ _ _ _ hM rfl rfl rfl ?_) | (refine wpList_loadf_mem (by go_simp) _ _ rfl (by kernel_rfl) 2 _ _ _ _ _ hM rfl rfl rfl ?_))
          | (refine at_store_ ?_; first | (refine wpList_store1_mem rfl _ _ _ rfl 0 _ _ _ _ _ hM rfl rfl (by first | ((conv => lhs; whnf); done) | ((conv => lhs; whnf); rfl)) (by rfl) (by rfl) (by kernel_rfl) rfl ?_; clear hM; intro W hM; simp only [List.set_cons_succ, List.set_cons_zero] at hM) | (refine wpList_store1_mem rfl _ _ _ rfl 1 _ _ _ _ _ hM rfl rfl (by first | ((conv => lhs; whnf); done) | ((conv => lhs; whnf); rfl)) (by rfl) (by rfl) (by kernel_rfl) rfl ?_; clear hM; intro W hM; simp only [List.set_cons_succ, List.set_cons_zero] at hM) | (refine wpList_store1_mem rfl _ _ _ rfl 2 _ _ _ _ _ hM rfl rfl (by first | ((conv => lhs; whnf); done) | ((conv => lhs; whnf); rfl)) (by rfl) (by rfl) (by kernel_rfl) rfl ?_; clear hM; intro W hM; simp only [List.set_cons_succ, List.set_cons_zero] at hM)))
                have hcp := hM.cells 2 rfl
                simp only [cPiece] at hcp
                go_wp2_with fail
                go_roundw
                case rel => exact ⟨c + n + 1, i + 1, by have := HF.out; have := HC0.out; omega, by omega, by go_num, congrArg Value.string (by rw [show min (c + n + 1 - 1) t.size = c - 1 + n by have := HF.out; have := HC0.out; omega]; exact HJN.out), by rw [if_neg (show ¬ (c + n + 1 = 0) by omega)], by rw [if_pos (show c + n + 1 = t.size + 2 by have := HF.out; have := HC0.out; omega)], hM.take_ 2⟩
                case measure => simp [intOf]; omega
              · rw [decide_eq_false hf] at hP
                rw [if_neg hf] at hn2
                have HNX := Lib.hid (fun W h => next_step g t v c (1 + r) ht hc hm1 hm2 ⟨c, false, false, bd⟩ (c + n) true hP (by rw [cq_is t _ _ ht hm1, decide_eq_true (by omega)]) (by show (c : Int) + ((bd.size : Int) + 0 + 0) = _; omega) W h)
                have HF := Lib.hid hf
                have HC0 := Lib.hid hc0
                clear hP hjn hf hgc hc0 hcN
                go_upto_region 22 with         (first
          | (go_at_call 17; refine (HNX.out _ (oq_hand hM)).mono ?_; rintro e W ⟨rfl, hN⟩; replace hM := oq_put hM hN; clear hN)
          | (go_at_call 16; refine (HRS.out _).mono ?_; rintro e W ⟨rfl, rfl⟩)
          | (refine at_box_ ?_; refine wpList_box_mem rfl _ _ rfl _ rfl hM ?_; clear hM; intro gb W hM; first | (simp only [List.nil_append] at hM) | (simp only [List.cons_append, List.nil_append] at hM))
          | (refine at_alloc_ (T := 30) ?_; refine wpList_alloc_mem rfl 30 rfl _ zv_Piece _ rfl hM ?_; clear hM; intro gb W hM; first | (simp only [List.nil_append] at hM) | (simp only [List.cons_append, List.nil_append] at hM))
          | (refine at_load_ (T := 30) ?_; refine at_wanted_ (by go_simp) ?_; first | (refine wpList_loadg_mem (by go_simp) 30 _ rfl 0 _ _ _ hM rfl rfl _ Try.underlying30 rfl sz_Piece ?_) | (refine wpList_loadg_mem (by go_simp) 30 _ rfl 1 _ _ _ hM rfl rfl _ Try.underlying30 rfl sz_Piece ?_) | (refine wpList_loadg_mem (by go_simp) 30 _ rfl 2 _ _ _ hM rfl rfl _ Try.underlying30 rfl sz_Piece ?_))
          | (refine at_store_ (T := 30) ?_; first | (refine wpList_store_mem rfl 30 _ _ rfl 0 _ _ _ _ hM rfl rfl rfl rfl sz_Piece rfl ?_; clear hM; intro W hM; simp only [List.set_cons_zero] at hM) | (refine wpList_store_mem rfl 30 _ _ rfl 1 _ _ _ _ hM rfl rfl rfl rfl sz_Piece rfl ?_; clear hM; intro W hM; simp only [List.set_cons_succ, List.set_cons_zero] at hM) | (refine wpList_store_mem rfl 30 _ _ rfl 2 _ _ _ _ hM rfl rfl rfl rfl sz_Piece rfl ?_; clear hM; intro W hM; simp only [List.set_cons_succ, List.set_cons_zero] at hM))
          | (refine at_load_ ?_; refine at_wanted_ (by go_simp) ?_; first | (refine wpList_loadf_mem (by go_simp) _ _ rfl (by kernel_rfl) 0 _ _ _ _ _ hM rfl rfl rfl ?_) | (refine wpList_loadf_mem (by go_simp) _ _ rfl (by kernel_rfl) 1 _ _ _ _ _ hM rfl rfl rfl ?_) | (refine wpList_loadf_mem (by go_simp) _ _ rfl (by kernel_rfl) 2 _ _ _ _ _ hM rfl rfl rfl ?_))
          | (refine at_store_ ?_; first | (refine wpList_store1_mem rfl _ _ _ rfl 0 _ _ _ _ _ hM rfl rfl (by first | ((conv => lhs; whnf); done) | ((conv => lhs; whnf); rfl)) (by rfl) (by rfl) (by kernel_rfl) rfl ?_; clear hM; intro W hM; simp only [List.set_cons_succ, List.set_cons_zero] at hM) | (refine wpList_store1_mem rfl _ _ _ rfl 1 _ _ _ _ _ hM rfl rfl (by first | ((conv => lhs; whnf); done) | ((conv => lhs; whnf); rfl)) (by rfl) (by rfl) (by kernel_rfl) rfl ?_; clear hM; intro W hM; simp only [List.set_cons_succ, List.set_cons_zero] at hM) | (refine wpList_store1_mem rfl _ _ _ rfl 2 _ _ _ _ _ hM rfl rfl (by first | ((conv => lhs; whnf); done) | ((conv => lhs; whnf); rfl)) (by rfl) (by rfl) (by kernel_rfl) rfl ?_; clear hM; intro W hM; simp only [List.set_cons_succ, List.set_cons_zero] at hM)))
                have hcp := hM.cells 2 rfl
                simp only [cPiece] at hcp
                go_wp2_with fail
                go_roundw
                case rel => exact ⟨c + n, i + 1, by omega, by omega, by go_num, congrArg Value.string (by rw [show min (c + n - 1) t.size = c - 1 + n by have := HC0.out; omega]; exact HJN.out), by rw [if_neg (show ¬ (c + n = 0) by have := HC0.out; omega)], by rw [if_neg (show ¬ (c + n = t.size + 2) by have := HF.out; have := HC0.out; omega)], hM.take_ 2⟩
                case measure => simp [intOf]; omega
        · have z1 : decide (i < n1) = false := by simpa using hin
          have hm1 : (1 : Int) ≤ 1048576 := by omega
          have hm2 : (1048576 : Int) ≤ 1048576 := by omega
          by_cases hcN : c = t.size + 2
          · have HNX := Lib.hid (fun W h => next_step g t v c (1048576) ht hc hm1 hm2 ⟨0, false, false, ⟨#[]⟩⟩ c false (by unfold qPiece; rw [cq_is t c _ ht hm1, decide_eq_false (by omega)]; rfl) (by rw [cq_is t c _ ht hm1, decide_eq_false (by omega)]) (by rfl) W h)
            obtain ⟨hh, hok3, hu3, he3, hb3⟩ := cq_acked t c ht hcN
            have HAK := Lib.hid (fun W (h : OPre W W g v (cq t c) v) => (ack_yes g (cq t c) v ((t.size : Int) + 2) W h (cq_ok t c ht (by omega) (by omega)) (by simp [cq]) hh : Calls _ _ _ _ fun e w' => ∃ v', e = .returned (.int .i64 ((t.size : Int) + 2 - 0)) ∧ OPre W w' g v (oAck (cq t c) ((t.size : Int) + 2)) v'))
            have HE1 := Lib.hid (fun W (h1 : OAt W g (cq t c) v) (h2 : OwnB W 0 v (cq t c).l) => (End_any g (cq t c) v W h1 h2 (by simp only [cq, sI_len]; exact ht) (by simp [cq]) (by simp [cq])))
            rw [cq_end] at HE1
            generalize oAck (cq t c) ((t.size : Int) + 2) = q3 at *
            have HE2 := Lib.hid (fun W v3 (h1 : OAt W g q3 v3) (h2 : OwnB W 0 v3 q3.l) => End_any g q3 v3 W h1 h2 hok3.len hok3.ba (by omega))
            rw [he3] at HE2
            have HU := Lib.hid (fun W v3 (h1 : OAt W g q3 v3) => Una_any g q3 v3 W h1)
            rw [hu3] at HU
            have hgN : t.extract 0 (min (c - 1) t.size) = t := by rw [show min (c - 1) t.size = t.size by omega, ext_full]
            have hc0 : ¬ c = 0 := by omega
            have y1 : ((t.size : Int) + 2 - 0 == (t.size : Int) + 2) = true := by simp
            simp only [hgN, if_neg hc0, if_pos hcN]
            have HCN := Lib.hid hcN
            clear hh hok3 hu3 he3 hb3 hgN hc0 hcN
            go_upto_region 22 with         (first
          | (go_at_call 17; refine (HNX.out _ (oq_hand hM)).mono ?_; rintro e W ⟨rfl, hN⟩; replace hM := oq_put hM hN; clear hN)
          | (refine at_box_ ?_; refine wpList_box_mem rfl _ _ rfl _ rfl hM ?_; clear hM; intro gb W hM; first | (simp only [List.nil_append] at hM) | (simp only [List.cons_append, List.nil_append] at hM))
          | (refine at_alloc_ (T := 30) ?_; refine wpList_alloc_mem rfl 30 rfl _ zv_Piece _ rfl hM ?_; clear hM; intro gb W hM; first | (simp only [List.nil_append] at hM) | (simp only [List.cons_append, List.nil_append] at hM))
          | (refine at_load_ (T := 30) ?_; refine at_wanted_ (by go_simp) ?_; first | (refine wpList_loadg_mem (by go_simp) 30 _ rfl 0 _ _ _ hM rfl rfl _ Try.underlying30 rfl sz_Piece ?_) | (refine wpList_loadg_mem (by go_simp) 30 _ rfl 1 _ _ _ hM rfl rfl _ Try.underlying30 rfl sz_Piece ?_) | (refine wpList_loadg_mem (by go_simp) 30 _ rfl 2 _ _ _ hM rfl rfl _ Try.underlying30 rfl sz_Piece ?_))
          | (refine at_store_ (T := 30) ?_; first | (refine wpList_store_mem rfl 30 _ _ rfl 0 _ _ _ _ hM rfl rfl rfl rfl sz_Piece rfl ?_; clear hM; intro W hM; simp only [List.set_cons_zero] at hM) | (refine wpList_store_mem rfl 30 _ _ rfl 1 _ _ _ _ hM rfl rfl rfl rfl sz_Piece rfl ?_; clear hM; intro W hM; simp only [List.set_cons_succ, List.set_cons_zero] at hM) | (refine wpList_store_mem rfl 30 _ _ rfl 2 _ _ _ _ hM rfl rfl rfl rfl sz_Piece rfl ?_; clear hM; intro W hM; simp only [List.set_cons_succ, List.set_cons_zero] at hM))
          | (refine at_load_ ?_; refine at_wanted_ (by go_simp) ?_; first | (refine wpList_loadf_mem (by go_simp) _ _ rfl (by kernel_rfl) 0 _ _ _ _ _ hM rfl rfl rfl ?_) | (refine wpList_loadf_mem (by go_simp) _ _ rfl (by kernel_rfl) 1 _ _ _ _ _ hM rfl rfl rfl ?_) | (refine wpList_loadf_mem (by go_simp) _ _ rfl (by kernel_rfl) 2 _ _ _ _ _ hM rfl rfl rfl ?_))
          | (refine at_store_ ?_; first | (refine wpList_store1_mem rfl _ _ _ rfl 0 _ _ _ _ _ hM rfl rfl (by first | ((conv => lhs; whnf); done) | ((conv => lhs; whnf); rfl)) (by rfl) (by rfl) (by kernel_rfl) rfl ?_; clear hM; intro W hM; simp only [List.set_cons_succ, List.set_cons_zero] at hM) | (refine wpList_store1_mem rfl _ _ _ rfl 1 _ _ _ _ _ hM rfl rfl (by first | ((conv => lhs; whnf); done) | ((conv => lhs; whnf); rfl)) (by rfl) (by rfl) (by kernel_rfl) rfl ?_; clear hM; intro W hM; simp only [List.set_cons_succ, List.set_cons_zero] at hM) | (refine wpList_store1_mem rfl _ _ _ rfl 2 _ _ _ _ _ hM rfl rfl (by first | ((conv => lhs; whnf); done) | ((conv => lhs; whnf); rfl)) (by rfl) (by rfl) (by kernel_rfl) rfl ?_; clear hM; intro W hM; simp only [List.set_cons_succ, List.set_cons_zero] at hM)))
            refine (HE1.out _ (hM.at_ 0 rfl) (hM.own 1 rfl)).mono ?_
            rintro e W ⟨rfl, hb⟩
            replace hM := hM.kept hb
            clear hb HE1
            go_wp2_with (first | (go_at_call 18; refine (HAK.out _ (oq_hand hM)).mono ?_; rintro e W ⟨v2, rfl, hN⟩; replace hM := oq_put hM hN; clear hN) | (go_at_call 20; refine (HU.out _ _ (hM.at_ 0 rfl)).mono ?_; rintro e W ⟨rfl, rfl⟩) | (go_at_call 19; refine (HE2.out _ _ (hM.at_ 0 rfl) (hM.own 1 rfl)).mono ?_; rintro e W ⟨rfl, hb⟩; replace hM := hM.kept hb; clear hb))
            go_ret
            exact ⟨rfl, hM.b⟩
          · by_cases hc0 : c = 0
            · subst hc0
              have HNX := Lib.hid (fun W h => next_step g t v 0 (1048576) ht hc hm1 hm2 ⟨0, true, false, ⟨#[]⟩⟩ 1 true (cq_first t _ ht hm1) (by rw [cq_is t _ _ ht hm1, decide_eq_true (by omega)]) (by rfl) W h)
              have hg0 : t.extract 0 (min (0 - 1) t.size) = ⟨#[]⟩ := by rw [show min (0 - 1) t.size = 0 by omega, ext_none]
              simp only [hg0, if_neg hcN]
              clear hg0
              go_upto_region 22 with         (first
          | (go_at_call 17; refine (HNX.out _ (oq_hand hM)).mono ?_; rintro e W ⟨rfl, hN⟩; replace hM := oq_put hM hN; clear hN)
          | (refine at_box_ ?_; refine wpList_box_mem rfl _ _ rfl _ rfl hM ?_; clear hM; intro gb W hM; first | (simp only [List.nil_append] at hM) | (simp only [List.cons_append, List.nil_append] at hM))
          | (refine at_alloc_ (T := 30) ?_; refine wpList_alloc_mem rfl 30 rfl _ zv_Piece _ rfl hM ?_; clear hM; intro gb W hM; first | (simp only [List.nil_append] at hM) | (simp only [List.cons_append, List.nil_append] at hM))
          | (refine at_load_ (T := 30) ?_; refine at_wanted_ (by go_simp) ?_; first | (refine wpList_loadg_mem (by go_simp) 30 _ rfl 0 _ _ _ hM rfl rfl _ Try.underlying30 rfl sz_Piece ?_) | (refine wpList_loadg_mem (by go_simp) 30 _ rfl 1 _ _ _ hM rfl rfl _ Try.underlying30 rfl sz_Piece ?_) | (refine wpList_loadg_mem (by go_simp) 30 _ rfl 2 _ _ _ hM rfl rfl _ Try.underlying30 rfl sz_Piece ?_))
          | (refine at_store_ (T := 30) ?_; first | (refine wpList_store_mem rfl 30 _ _ rfl 0 _ _ _ _ hM rfl rfl rfl rfl sz_Piece rfl ?_; clear hM; intro W hM; simp only [List.set_cons_zero] at hM) | (refine wpList_store_mem rfl 30 _ _ rfl 1 _ _ _ _ hM rfl rfl rfl rfl sz_Piece rfl ?_; clear hM; intro W hM; simp only [List.set_cons_succ, List.set_cons_zero] at hM) | (refine wpList_store_mem rfl 30 _ _ rfl 2 _ _ _ _ hM rfl rfl rfl rfl sz_Piece rfl ?_; clear hM; intro W hM; simp only [List.set_cons_succ, List.set_cons_zero] at hM))
          | (refine at_load_ ?_; refine at_wanted_ (by go_simp) ?_; first | (refine wpList_loadf_mem (by go_simp) _ _ rfl (by kernel_rfl) 0 _ _ _ _ _ hM rfl rfl rfl ?_) | (refine wpList_loadf_mem (by go_simp) _ _ rfl (by kernel_rfl) 1 _ _ _ _ _ hM rfl rfl rfl ?_) | (refine wpList_loadf_mem (by go_simp) _ _ rfl (by kernel_rfl) 2 _ _ _ _ _ hM rfl rfl rfl ?_))
          | (refine at_store_ ?_; first | (refine wpList_store1_mem rfl _ _ _ rfl 0 _ _ _ _ _ hM rfl rfl (by first | ((conv => lhs; whnf); done) | ((conv => lhs; whnf); rfl)) (by rfl) (by rfl) (by kernel_rfl) rfl ?_; clear hM; intro W hM; simp only [List.set_cons_succ, List.set_cons_zero] at hM) | (refine wpList_store1_mem rfl _ _ _ rfl 1 _ _ _ _ _ hM rfl rfl (by first | ((conv => lhs; whnf); done) | ((conv => lhs; whnf); rfl)) (by rfl) (by rfl) (by kernel_rfl) rfl ?_; clear hM; intro W hM; simp only [List.set_cons_succ, List.set_cons_zero] at hM) | (refine wpList_store1_mem rfl _ _ _ rfl 2 _ _ _ _ _ hM rfl rfl (by first | ((conv => lhs; whnf); done) | ((conv => lhs; whnf); rfl)) (by rfl) (by rfl) (by kernel_rfl) rfl ?_; clear hM; intro W hM; simp only [List.set_cons_succ, List.set_cons_zero] at hM)))
              have hcp := hM.cells 2 rfl
              simp only [cPiece] at hcp
              go_wp2_with fail
              go_roundw
              case rel => exact ⟨1, i + 1, by omega, by omega, by go_num, congrArg Value.string (by rw [show min (1 - 1) t.size = 0 by omega, ext_none]; rfl), rfl, by rw [if_neg (by omega)], hM.take_ 2⟩
              case measure => simp [intOf]; omega
            · obtain ⟨n, hn1, hP, hn2⟩ := cq_piece t c (1048576) ht hm1 (by omega) (by omega)
              have hgs : (t.extract 0 (c - 1)).size = c - 1 := by rw [ByteArray.size_extract]; omega
              have hbs : (t.extract (c - 1) (c - 1 + n)).size = n := by rw [ByteArray.size_extract]; omega
              have hjn := ext_join t (c - 1) (c - 1 + n) (by omega) hn1
              have hgc : t.extract 0 (min (c - 1) t.size) = t.extract 0 (c - 1) := by rw [show min (c - 1) t.size = c - 1 by omega]
              simp only [hgc, if_neg hc0, if_neg hcN]
              generalize hgd : t.extract 0 (c - 1) = gd at *
              generalize hbd : t.extract (c - 1) (c - 1 + n) = bd at *
              clear hgd hbd
              have HJN := Lib.hid hjn
              by_cases hf : c - 1 + n = t.size
              · rw [decide_eq_true hf] at hP
                have HNX := Lib.hid (fun W h => next_step g t v c (1048576) ht hc hm1 hm2 ⟨c, false, true, bd⟩ (c + n + 1) true hP (by rw [cq_is t _ _ ht hm1, decide_eq_true (by omega)]) (by show (c : Int) + ((bd.size : Int) + 0 + 1) = _; omega) W h)
                have HF := Lib.hid hf
                have HC0 := Lib.hid hc0
                clear hP hjn hf hgc hc0 hcN
                go_upto_region 22 with         (first
          | (go_at_call 17; refine (HNX.out _ (oq_hand hM)).mono ?_; rintro e W ⟨rfl, hN⟩; replace hM := oq_put hM hN; clear hN)
          | (refine at_box_ ?_; refine wpList_box_mem rfl _ _ rfl _ rfl hM ?_; clear hM; intro gb W hM; first | (simp only [List.nil_append] at hM) | (simp only [List.cons_append, List.nil_append] at hM))
          | (refine at_alloc_ (T := 30) ?_; refine wpList_alloc_mem rfl 30 rfl _ zv_Piece _ rfl hM ?_; clear hM; intro gb W hM; first | (simp only [List.nil_append] at hM) | (simp only [List.cons_append, List.nil_append] at hM))
          | (refine at_load_ (T := 30) ?_; refine at_wanted_ (by go_simp) ?_; first | (refine wpList_loadg_mem (by go_simp) 30 _ rfl 0 _ _ _ hM rfl rfl _ Try.underlying30 rfl sz_Piece ?_) | (refine wpList_loadg_mem (by go_simp) 30 _ rfl 1 _ _ _ hM rfl rfl _ Try.underlying30 rfl sz_Piece ?_) | (refine wpList_loadg_mem (by go_simp) 30 _ rfl 2 _ _ _ hM rfl rfl _ Try.underlying30 rfl sz_Piece ?_))
          | (refine at_store_ (T := 30) ?_; first | (refine wpList_store_mem rfl 30 _ _ rfl 0 _ _ _ _ hM rfl rfl rfl rfl sz_Piece rfl ?_; clear hM; intro W hM; simp only [List.set_cons_zero] at hM) | (refine wpList_store_mem rfl 30 _ _ rfl 1 _ _ _ _ hM rfl rfl rfl rfl sz_Piece rfl ?_; clear hM; intro W hM; simp only [List.set_cons_succ, List.set_cons_zero] at hM) | (refine wpList_store_mem rfl 30 _ _ rfl 2 _ _ _ _ hM rfl rfl rfl rfl sz_Piece rfl ?_; clear hM; intro W hM; simp only [List.set_cons_succ, List.set_cons_zero] at hM))
          | (refine at_load_ ?_; refine at_wanted_ (by go_simp) ?_; first | (refine wpList_loadf_mem (by go_simp) _ _ rfl (by kernel_rfl) 0 _ _ _ _ _ hM rfl rfl rfl ?_) | (refine wpList_loadf_mem (by go_simp) _ _ rfl (by kernel_rfl) 1 _ _ _ _ _ hM rfl rfl rfl ?_) | (refine wpList_loadf_mem (by go_simp) _ _ rfl (by kernel_rfl) 2 _ _ _ _ _ hM rfl rfl rfl ?_))
          | (refine at_store_ ?_; first | (refine wpList_store1_mem rfl _ _ _ rfl 0 _ _ _ _ _ hM rfl rfl (by first | ((conv => lhs; whnf); done) | ((conv => lhs; whnf); rfl)) (by rfl) (by rfl) (by kernel_rfl) rfl ?_; clear hM; intro W hM; simp only [List.set_cons_succ, List.set_cons_zero] at hM) | (refine wpList_store1_mem rfl _ _ _ rfl 1 _ _ _ _ _ hM rfl rfl (by first | ((conv => lhs; whnf); done) | ((conv => lhs; whnf); rfl)) (by rfl) (by rfl) (by kernel_rfl) rfl ?_; clear hM; intro W hM; simp only [List.set_cons_succ, List.set_cons_zero] at hM) | (refine wpList_store1_mem rfl _ _ _ rfl 2 _ _ _ _ _ hM rfl rfl (by first | ((conv => lhs; whnf); done) | ((conv => lhs; whnf); rfl)) (by rfl) (by rfl) (by kernel_rfl) rfl ?_; clear hM; intro W hM; simp only [List.set_cons_succ, List.set_cons_zero] at hM)))
                have hcp := hM.cells 2 rfl
                simp only [cPiece] at hcp
                go_wp2_with fail
                go_roundw
                case rel => exact ⟨c + n + 1, i + 1, by have := HF.out; have := HC0.out; omega, by omega, by go_num, congrArg Value.string (by rw [show min (c + n + 1 - 1) t.size = c - 1 + n by have := HF.out; have := HC0.out; omega]; exact HJN.out), by rw [if_neg (show ¬ (c + n + 1 = 0) by omega)], by rw [if_pos (show c + n + 1 = t.size + 2 by have := HF.out; have := HC0.out; omega)], hM.take_ 2⟩
                case measure => simp [intOf]; omega
              · rw [decide_eq_false hf] at hP
                rw [if_neg hf] at hn2
                have HNX := Lib.hid (fun W h => next_step g t v c (1048576) ht hc hm1 hm2 ⟨c, false, false, bd⟩ (c + n) true hP (by rw [cq_is t _ _ ht hm1, decide_eq_true (by omega)]) (by show (c : Int) + ((bd.size : Int) + 0 + 0) = _; omega) W h)
                have HF := Lib.hid hf
                have HC0 := Lib.hid hc0
                clear hP hjn hf hgc hc0 hcN
                go_upto_region 22 with         (first
          | (go_at_call 17; refine (HNX.out _ (oq_hand hM)).mono ?_; rintro e W ⟨rfl, hN⟩; replace hM := oq_put hM hN; clear hN)
          | (refine at_box_ ?_; refine wpList_box_mem rfl _ _ rfl _ rfl hM ?_; clear hM; intro gb W hM; first | (simp only [List.nil_append] at hM) | (simp only [List.cons_append, List.nil_append] at hM))
          | (refine at_alloc_ (T := 30) ?_; refine wpList_alloc_mem rfl 30 rfl _ zv_Piece _ rfl hM ?_; clear hM; intro gb W hM; first | (simp only [List.nil_append] at hM) | (simp only [List.cons_append, List.nil_append] at hM))
          | (refine at_load_ (T := 30) ?_; refine at_wanted_ (by go_simp) ?_; first | (refine wpList_loadg_mem (by go_simp) 30 _ rfl 0 _ _ _ hM rfl rfl _ Try.underlying30 rfl sz_Piece ?_) | (refine wpList_loadg_mem (by go_simp) 30 _ rfl 1 _ _ _ hM rfl rfl _ Try.underlying30 rfl sz_Piece ?_) | (refine wpList_loadg_mem (by go_simp) 30 _ rfl 2 _ _ _ hM rfl rfl _ Try.underlying30 rfl sz_Piece ?_))
          | (refine at_store_ (T := 30) ?_; first | (refine wpList_store_mem rfl 30 _ _ rfl 0 _ _ _ _ hM rfl rfl rfl rfl sz_Piece rfl ?_; clear hM; intro W hM; simp only [List.set_cons_zero] at hM) | (refine wpList_store_mem rfl 30 _ _ rfl 1 _ _ _ _ hM rfl rfl rfl rfl sz_Piece rfl ?_; clear hM; intro W hM; simp only [List.set_cons_succ, List.set_cons_zero] at hM) | (refine wpList_store_mem rfl 30 _ _ rfl 2 _ _ _ _ hM rfl rfl rfl rfl sz_Piece rfl ?_; clear hM; intro W hM; simp only [List.set_cons_succ, List.set_cons_zero] at hM))
          | (refine at_load_ ?_; refine at_wanted_ (by go_simp) ?_; first | (refine wpList_loadf_mem (by go_simp) _ _ rfl (by kernel_rfl) 0 _ _ _ _ _ hM rfl rfl rfl ?_) | (refine wpList_loadf_mem (by go_simp) _ _ rfl (by kernel_rfl) 1 _ _ _ _ _ hM rfl rfl rfl ?_) | (refine wpList_loadf_mem (by go_simp) _ _ rfl (by kernel_rfl) 2 _ _ _ _ _ hM rfl rfl rfl ?_))
          | (refine at_store_ ?_; first | (refine wpList_store1_mem rfl _ _ _ rfl 0 _ _ _ _ _ hM rfl rfl (by first | ((conv => lhs; whnf); done) | ((conv => lhs; whnf); rfl)) (by rfl) (by rfl) (by kernel_rfl) rfl ?_; clear hM; intro W hM; simp only [List.set_cons_succ, List.set_cons_zero] at hM) | (refine wpList_store1_mem rfl _ _ _ rfl 1 _ _ _ _ _ hM rfl rfl (by first | ((conv => lhs; whnf); done) | ((conv => lhs; whnf); rfl)) (by rfl) (by rfl) (by kernel_rfl) rfl ?_; clear hM; intro W hM; simp only [List.set_cons_succ, List.set_cons_zero] at hM) | (refine wpList_store1_mem rfl _ _ _ rfl 2 _ _ _ _ _ hM rfl rfl (by first | ((conv => lhs; whnf); done) | ((conv => lhs; whnf); rfl)) (by rfl) (by rfl) (by kernel_rfl) rfl ?_; clear hM; intro W hM; simp only [List.set_cons_succ, List.set_cons_zero] at hM)))
                have hcp := hM.cells 2 rfl
                simp only [cPiece] at hcp
                go_wp2_with fail
                go_roundw
                case rel => exact ⟨c + n, i + 1, by omega, by omega, by go_num, congrArg Value.string (by rw [show min (c + n - 1) t.size = c - 1 + n by have := HC0.out; omega]; exact HJN.out), by rw [if_neg (show ¬ (c + n = 0) by have := HC0.out; omega)], by rw [if_neg (show ¬ (c + n = t.size + 2) by have := HF.out; have := HC0.out; omega)], hM.take_ 2⟩
                case measure => simp [intOf]; omega
end Go.Proofs.Ytmcdmgnpbhkdhaa
