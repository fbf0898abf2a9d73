/- The walk of FragLacks: it returns true. -/
import Derived.Test.YtmcdmgnpbhkdhaaFgZ
import Derived.Test.YtmcdmgnpbhkdhaaFgY
import Derived.Test.YtmcdmgnpbhkdhaaRest
import Derived.Test.YtmcdmgnpbhkdhaaKit
import Derived.Test.YtmcdmgnpbhkdhaaDat
import Derived.Deep.CutBlock
namespace Go.Proofs.Ytmcdmgnpbhkdhaa
open Go.RowKit Go.Lib
set_option linter.unusedVariables false
set_option linter.unusedSimpArgs false

theorem eg_Packet : Try.prog.eqGuardType Try.prog.depth 40 = false := by kernel_rfl
set_option maxRecDepth 100000 in
set_option maxHeartbeats 2000000 in
theorem eqc_Packet (a0 : Int) (a1 : Int) (a2 : Int) (a3 : Int) (a4 : Int) (a5 : Bool) (a6 : Bool) (a7 : Int) (a8 : ByteArray) (b0 : Int) (b1 : Int) (b2 : Int) (b3 : Int) (b4 : Int) (b5 : Bool) (b6 : Bool) (b7 : Int) (b8 : ByteArray) (w : World) : (Op.equalIn 10000 40 (.agg #[.int .u32 a0, .int .u32 a1, .int .i64 a2, .int .i64 a3, .int .i64 a4, .bool a5, .bool a6, .int .i64 a7, .string a8]) (.agg #[.int .u32 b0, .int .u32 b1, .int .i64 b2, .int .i64 b3, .int .i64 b4, .bool b5, .bool b6, .int .i64 b7, .string b8])).run Try.prog w = .ok (decide (a0 = b0) && (decide (a1 = b1) && (decide (a2 = b2) && (decide (a3 = b3) && (decide (a4 = b4) && (decide (a5 = b5) && (decide (a6 = b6) && (decide (a7 = b7) && (decide (a8.toList = b8.toList)))))))))) w := by
  have hS : Try.prog.underlying 40 = some (.struct (Try.prog.fieldsOf 40)) := by kernel_rfl
  have hp : Try.prog.stoodInHeld 40 = false := by kernel_rfl
  rw [show (10000 : Nat) = 9999 + 1 from rfl, run_equalIn_agg w 9999 40 _ _ hS hp]
  simp only [Program.fieldsOf, Try.underlying40]
  go_simp
  simp only [ite_okb, Bool.and_true]
theorem eqT_Packet (p : Pk) (w : World) : (Op.equalIn 10000 40 (.agg (pkC p).toArray) (.agg (pkC p).toArray)).run Try.prog w = .ok true w := by
  unfold pkC
  rw [eqc_Packet]
  simp
theorem eqF_Packet (p q : Pk) (h : p ≠ q) (w : World) : (Op.equalIn 10000 40 (.agg (pkC p).toArray) (.agg (pkC q).toArray)).run Try.prog w = .ok false w := by
  unfold pkC
  rw [eqc_Packet]
  congr 1
  refine Bool.eq_false_iff.2 fun e => h ?_
  simp only [Bool.and_eq_true, decide_eq_true_eq, ByteArray.toList_eq] at e
  cases p; cases q
  obtain ⟨e0, e1, e2, e3, e4, e5, e6, e7, e8⟩ := e
  simp only at e0 e1 e2 e3 e4 e5 e6 e7 e8
  have e8 := str_ext e8
  subst e0 e1 e2 e3 e4 e5 e6 e7 e8
  rfl
theorem lacks_one {cs : List Value} (h : okAll [.int .i64] cs) : ∃ n : Int, cs = [.int .i64 n] ∧ -9223372036854775808 ≤ n ∧ n ≤ 9223372036854775807 := by
  have hl := okAll_len h
  obtain ⟨v, hv, n, rfl, h1, h2⟩ := okAll_at 0 h rfl
  match cs, hl, hv with
  | [x], _, hv =>
    have : x = .int .i64 n := by simpa using hv
    exact ⟨n, by rw [this], h1, h2⟩
/-- one that does not lack comes -/
theorem lacks_in {p : Pk} {m n k i : Nat} (h : Pcs p m n) (hk : k ≤ n) (hi : i ≤ n) (hne : i ≠ k) {es es' : List FE} {S : Nat → Bool} {r : Pk} {is : Bool} {er : Int}
    (hI : FInv es) (hI' : FInv es') (h1 : S k = false) (h2 : PInv p m n S ((stAt es (keyP p)).getD newF)) (h3 : ∀ c, c ≠ keyP p → stAt es c = none) (hr : InR es (frAt p m n i) r is er es') :
    (r = zPk ∧ is = false ∧ er = 0) ∧ ∃ S', S' k = false ∧ PInv p m n S' ((stAt es' (keyP p)).getD newF) ∧ ∀ c, c ≠ keyP p → stAt es' c = none := by
  have hl := st_len hI (K := [keyP p]) (fun c hc => h3 c (by simpa using hc))
  obtain ⟨e1, e2, e3, e4, e5⟩ := in_pcs h hI h2 hi hr (by simp at hl; omega)
  have hS : addS S i k = false := by unfold addS; rw [h1, decide_eq_false (fun e => hne e.symm)]; rfl
  have ha : allS n (addS S i) = false := by
    cases hc : allS n (addS S i) with
    | false => rfl
    | true => rw [allS_iff.1 hc k hk] at hS; cases hS
  rw [ha] at e2
  subst e2
  refine ⟨⟨by rw [e3]; rfl, rfl, e1⟩, addS S i, hS, by simpa using e4, fun c hc => by rw [e5 c hc, h3 c hc]⟩
def LkI (p : Pk) (m n k : Nat) (es : List FE) : Prop := FInv es ∧ ∃ S : Nat → Bool, S k = false ∧ PInv p m n S ((stAt es (keyP p)).getD newF) ∧ ∀ c, c ≠ keyP p → stAt es c = none
theorem LkI.new (p : Pk) (m n k : Nat) : LkI p m n k [] := ⟨finv_nil, noneS, rfl, pinv_new, fun _ _ => rfl⟩
theorem LkI.len {p : Pk} {m n k : Nat} {es : List FE} (h : LkI p m n k es) : es.length ≤ 1 := by
  obtain ⟨hI, S, h1, h2, h3⟩ := h
  have := st_len hI (K := [keyP p]) (fun c hc => h3 c (by simpa using hc))
  simpa using this
set_option maxRecDepth 100000 in
set_option maxHeartbeats 8000000 in
theorem fragLacks_any (p : Pk) (mtu a2 : Int) (A3 : Option Addr) (n3 c3 : Nat) (css3 : Nat → List Value) (w : World) (ok : PkOk p) (hm : I64 mtu) (ha2 : -9223372036854775808 ≤ a2) (ha2' : a2 ≤ 9223372036854775807) (hR3 : Rows_ w A3 n3 [.int .i64] css3) (hl3 : n3 ≤ 140737488351232) :
    Calls Try.prog 11 #[.agg (pkC p).toArray, .int .i64 mtu, .int .i64 a2, .slice A3 n3 c3] w fun e w' => e = .returned (.bool true) ∧ Below w.heap.size w w' := by
  obtain ⟨hm1, hm2⟩ := hm
  have ok2 : PkOk { p with df := false, mf := false, off := 0 } := ⟨ok.s, ok.d, ok.pr, ok.tl, ok.id, (by decide : I64 0), ok.b⟩
  have H1 := Lib.hid (fun W => split_any { p with df := false, mf := false, off := 0 } mtu W ok2 ⟨hm1, hm2⟩)
  have OK2 := Lib.hid ok2
  obtain ⟨ps, pd, ppr, ptl, pid, pdf, pmf, poff, pb⟩ := p
  have hM := Mem.nil w
  have hb := ok.b
  clear ok ok2
  go_enter Try.func11, Try.ntmps11
  go_upto_region 1 with         (first
          | go_skip
          | ((with_reducible refine at_box_ ?_); refine wpList_box_mem rfl _ _ rfl _ rfl hM ?_; clear hM; intro gb W hM; first | (simp only [List.nil_append] at hM) | (simp only [List.cons_append, List.nil_append] at hM))
          | ((with_reducible refine at_alloc_ (T := 40) ?_); refine wpList_alloc_mem rfl 40 rfl _ zv_Packet _ rfl hM ?_; clear hM; intro gb W hM; first | (simp only [List.nil_append] at hM) | (simp only [List.cons_append, List.nil_append] at hM))
          | ((with_reducible refine at_load_ (T := 40) ?_); refine at_wanted_ (by rfl) ?_; first | (refine wpList_loadg_mem (by go_simp) 40 _ rfl 0 _ _ _ hM rfl rfl _ Try.underlying40 rfl sz_Packet ?_) | (refine wpList_loadg_mem (by go_simp) 40 _ rfl 1 _ _ _ hM rfl rfl _ Try.underlying40 rfl sz_Packet ?_) | (refine wpList_loadg_mem (by go_simp) 40 _ rfl 2 _ _ _ hM rfl rfl _ Try.underlying40 rfl sz_Packet ?_))
          | ((with_reducible refine at_store_ (T := 40) ?_); first | (refine wpList_store_mem rfl 40 _ _ rfl 0 _ _ _ _ hM rfl rfl rfl rfl sz_Packet rfl ?_; clear hM; intro W hM; simp only [List.set_cons_zero] at hM) | (refine wpList_store_mem rfl 40 _ _ rfl 1 _ _ _ _ hM rfl rfl rfl rfl sz_Packet rfl ?_; clear hM; intro W hM; simp only [List.set_cons_succ, List.set_cons_zero] at hM) | (refine wpList_store_mem rfl 40 _ _ rfl 2 _ _ _ _ hM rfl rfl rfl rfl sz_Packet rfl ?_; clear hM; intro W hM; simp only [List.set_cons_succ, List.set_cons_zero] at hM))
          | ((with_reducible refine at_load_ ?_); refine at_wanted_ (by rfl) ?_; first | (refine wpList_loadf_mem (by go_simp) _ _ rfl (by kernel_rfl) 0 _ _ _ _ _ hM rfl rfl (by first | rfl | assumption) ?_) | (refine wpList_loadf_mem (by go_simp) _ _ rfl (by kernel_rfl) 1 _ _ _ _ _ hM rfl rfl (by first | rfl | assumption) ?_) | (refine wpList_loadf_mem (by go_simp) _ _ rfl (by kernel_rfl) 2 _ _ _ _ _ hM rfl rfl (by first | rfl | assumption) ?_))
          | ((with_reducible refine at_store_ ?_); first | (refine wpList_store1_mem rfl _ _ _ rfl 0 _ _ _ _ _ hM rfl rfl (by first | ((conv => lhs; whnf); done) | ((conv => lhs; whnf); rfl)) (by rfl) (by rfl) (by kernel_rfl) rfl ?_; clear hM; intro W hM; simp only [pkC, List.set_cons_succ, List.set_cons_zero] at hM) | (refine wpList_store1_mem rfl _ _ _ rfl 1 _ _ _ _ _ hM rfl rfl (by first | ((conv => lhs; whnf); done) | ((conv => lhs; whnf); rfl)) (by rfl) (by rfl) (by kernel_rfl) rfl ?_; clear hM; intro W hM; simp only [pkC, List.set_cons_succ, List.set_cons_zero] at hM) | (refine wpList_store1_mem rfl _ _ _ rfl 2 _ _ _ _ _ hM rfl rfl (by first | ((conv => lhs; whnf); done) | ((conv => lhs; whnf); rfl)) (by rfl) (by rfl) (by kernel_rfl) rfl ?_; clear hM; intro W hM; simp only [pkC, List.set_cons_succ, List.set_cons_zero] at hM)))
  obtain ⟨gp, hg2⟩ : ∃ x, x = gb := ⟨_, rfl⟩
  subst hg2
  go_upto_region 3 with         (first
          | go_skip
          | (go_at_call 38; refine (H1.out _).mono ?_; rintro e W ⟨v1, rs, E, rfl, hN, hS⟩; replace hM := hM.join hN; simp only [List.cons_append, List.nil_append] at hM; clear hN)
          | ((with_reducible refine at_box_ ?_); refine wpList_box_mem rfl _ _ rfl _ rfl hM ?_; clear hM; intro gb W hM; first | (simp only [List.nil_append] at hM) | (simp only [List.cons_append, List.nil_append] at hM))
          | ((with_reducible refine at_alloc_ (T := 40) ?_); refine wpList_alloc_mem rfl 40 rfl _ zv_Packet _ rfl hM ?_; clear hM; intro gb W hM; first | (simp only [List.nil_append] at hM) | (simp only [List.cons_append, List.nil_append] at hM))
          | ((with_reducible refine at_load_ (T := 40) ?_); refine at_wanted_ (by rfl) ?_; first | (refine wpList_loadg_mem (by go_simp) 40 _ rfl 0 _ _ _ hM rfl rfl _ Try.underlying40 rfl sz_Packet ?_) | (refine wpList_loadg_mem (by go_simp) 40 _ rfl 1 _ _ _ hM rfl rfl _ Try.underlying40 rfl sz_Packet ?_) | (refine wpList_loadg_mem (by go_simp) 40 _ rfl 2 _ _ _ hM rfl rfl _ Try.underlying40 rfl sz_Packet ?_))
          | ((with_reducible refine at_store_ (T := 40) ?_); first | (refine wpList_store_mem rfl 40 _ _ rfl 0 _ _ _ _ hM rfl rfl rfl rfl sz_Packet rfl ?_; clear hM; intro W hM; simp only [List.set_cons_zero] at hM) | (refine wpList_store_mem rfl 40 _ _ rfl 1 _ _ _ _ hM rfl rfl rfl rfl sz_Packet rfl ?_; clear hM; intro W hM; simp only [List.set_cons_succ, List.set_cons_zero] at hM) | (refine wpList_store_mem rfl 40 _ _ rfl 2 _ _ _ _ hM rfl rfl rfl rfl sz_Packet rfl ?_; clear hM; intro W hM; simp only [List.set_cons_succ, List.set_cons_zero] at hM))
          | ((with_reducible refine at_load_ ?_); refine at_wanted_ (by rfl) ?_; first | (refine wpList_loadf_mem (by go_simp) _ _ rfl (by kernel_rfl) 0 _ _ _ _ _ hM rfl rfl (by first | rfl | assumption) ?_) | (refine wpList_loadf_mem (by go_simp) _ _ rfl (by kernel_rfl) 1 _ _ _ _ _ hM rfl rfl (by first | rfl | assumption) ?_) | (refine wpList_loadf_mem (by go_simp) _ _ rfl (by kernel_rfl) 2 _ _ _ _ _ hM rfl rfl (by first | rfl | assumption) ?_))
          | ((with_reducible refine at_store_ ?_); first | (refine wpList_store1_mem rfl _ _ _ rfl 0 _ _ _ _ _ hM rfl rfl (by first | ((conv => lhs; whnf); done) | ((conv => lhs; whnf); rfl)) (by rfl) (by rfl) (by kernel_rfl) rfl ?_; clear hM; intro W hM; simp only [pkC, List.set_cons_succ, List.set_cons_zero] at hM) | (refine wpList_store1_mem rfl _ _ _ rfl 1 _ _ _ _ _ hM rfl rfl (by first | ((conv => lhs; whnf); done) | ((conv => lhs; whnf); rfl)) (by rfl) (by rfl) (by kernel_rfl) rfl ?_; clear hM; intro W hM; simp only [pkC, List.set_cons_succ, List.set_cons_zero] at hM) | (refine wpList_store1_mem rfl _ _ _ rfl 2 _ _ _ _ _ hM rfl rfl (by first | ((conv => lhs; whnf); done) | ((conv => lhs; whnf); rfl)) (by rfl) (by rfl) (by kernel_rfl) rfl ?_; clear hM; intro W hM; simp only [pkC, List.set_cons_succ, List.set_cons_zero] at hM)))
  go_upto_region 4 with (first | go_skip | (go_at_call 34; refine (newfrag_any _).mono ?_; rintro e W ⟨g, gm, rfl, hM2⟩; replace hM := (hM.new_ hM2).perm List.perm_append_comm; clear hM2; dsimp only))
  go_upto_region 6 with (first | go_skip | (go_at_call 35; refine (Tick_neg g gm [] (-1) _ (fg_hand [_, _] hM) (by decide)).mono ?_; rintro e W ⟨rfl, hM6⟩; replace hM := fg_back [_, _] hM hM6; clear hM6; dsimp only))
  obtain ⟨p, hp⟩ : ∃ z : Pk, z = ⟨ps, pd, ppr, ptl, pid, false, false, 0, pb⟩ := ⟨_, rfl⟩
  rw [← hp] at hS
  replace hM : Mem w W ([atR gp 40 (pkC p), rowR 9 pkC v1 rs] ++ fgL g gm []) := by rw [hp]; exact hM
  rw [← hp] at OK2
  clear hp H1
  have hE0 : E ≠ 0 → rs = [] := fun hE => by
    cases hS with
    | no E h => rfl
    | one h1 => exact absurd rfl hE
    | many m n h1 => exact absurd rfl hE
  obtain ⟨A, c, rfl⟩ := (hM.row 1 rfl).form
  by_cases hE : E = 0
  rotate_left
  · obtain rfl := hE0 hE
    have t1 : ((E : Int) != 0) = true := by simpa using hE
    have t2 : ((E : Int) == 0) = false := by simpa using hE
    simp only [List.length_nil]
    clear hE hE0 hS
    go_wp2_with fail
    go_ret
    exact ⟨rfl, hM.b⟩
  subst hE
  obtain ⟨N, hN⟩ : ∃ N, N = rs.length := ⟨_, rfl⟩
  by_cases h2 : rs.length < 2
  · rw [← hN] at h2 ⊢
    have t1 : decide ((N : Int) < 2) = true := by simp; omega
    clear hE0 hS hN
    go_wp2_with fail
    go_ret
    exact ⟨rfl, hM.b⟩
  obtain ⟨m, n, rfl, hP⟩ := pcs_of hS (by omega)
  have HP := Lib.hid hP
  have hN2 : N = n + 1 := by rw [hN, frAll_len]
  have hn4 : n ≤ 4000 := by
    have h1 := hP.lo
    have h3 := hP.m1
    have h4 := hP.sz
    have h5 : 1 * n ≤ m * n := Nat.mul_le_mul_right _ (by omega)
    omega
  rw [← hN] at h2 ⊢
  have t1 : decide ((N : Int) < 2) = false := by simp; omega
  have HN := Lib.hid hN2
  have hn1 : 2 ≤ N := by omega
  have hn2 : N ≤ 4001 := by omega
  obtain ⟨gr, off, cr, hv, hW⟩ := (hM.row 1 rfl).pos (by rw [← hN]; omega)
  injection hv with hv1 hv2 hv3
  subst hv1 hv3
  clear hv2 hW
  rw [← hN] at hM
  clear hE0 hS hP hN hN2 h2 hn4
  obtain ⟨kf, hkf⟩ : ∃ z, z = a2 % (N : Int) := ⟨_, rfl⟩
  have HR := Lib.hid (fun W => (Rest_any a2 N W ha2 ha2' (by omega) (by omega)).mono (fun e w' h => (by rw [hkf]; exact h : e = .returned (.int .i64 kf) ∧ W = w')))
  obtain ⟨k, hk⟩ : ∃ k : Nat, kf = (k : Int) := ⟨kf.toNat, by have := Int.emod_nonneg a2 (show (N : Int) ≠ 0 by omega); omega⟩
  have hkN : k < N := by have := Int.emod_lt_of_pos a2 (show (0 : Int) < N by omega); omega
  rw [hk] at HR
  clear hkf hk kf
  go_upto_region 9 with (first | go_skip | (go_at_call 16; refine (HR.out _).mono ?_; rintro e W ⟨rfl, rfl⟩; dsimp only))
  go_wp2_with fail
  go_loopg [56] n3 (fun gh i wr => ∃ (j : Nat) (es : List FE), gh = n3 - j ∧ j ≤ n3 ∧ i = .int .i64 j ∧ Mem w wr ([atR gp 40 (pkC p), rowR 9 pkC (.slice (some ⟨gr, off, none⟩) N c) (frAll p m n)] ++ fgL g gm es) ∧ Hid (LkI p m n k es))
  case atStart => exact ⟨0, [], by omega, by omega, rfl, hM, Lib.hid (LkI.new p m n k)⟩
  case round =>
    clear hM HR
    obtain ⟨j, es, hgk, hj, rfl, hM, HI⟩ := hrel
    have HGK := Lib.hid hgk
    clear hgk
    by_cases hlt : j < n3
    · obtain ⟨b3, off3, hA, hrg⟩ := hR3.at_ j hlt
      subst hA
      have hokx := hR3.ok j hlt
      obtain ⟨x, hcs, hx1, hx2⟩ := lacks_one hokx
      have hcell : wr.cell? ⟨b3, off3 + j, none⟩ = some (.int .i64 x) := by
        have := range_kept hrg hM.b 0 (.int .i64 x) (by rw [hcs]; rfl)
        simpa using this
      obtain ⟨xi, hxi⟩ : ∃ z, z = x % (N : Int) := ⟨_, rfl⟩
      have HR := Lib.hid (fun W => (Rest_any x N W hx1 hx2 (by omega) (by omega)).mono (fun e w' h => (by rw [hxi]; exact h : e = .returned (.int .i64 xi) ∧ W = w')))
      obtain ⟨i, hi⟩ : ∃ i : Nat, xi = (i : Int) := ⟨xi.toNat, by have := Int.emod_nonneg x (show (N : Int) ≠ 0 by omega); omega⟩
      have hiN : i < N := by have := Int.emod_lt_of_pos x (show (0 : Int) < N by omega); omega
      rw [hi] at HR
      clear hxi hi xi hcs hrg hokx
      go_upto_region 13 with (first | go_skip | (go_at_call 16; refine (HR.out _).mono ?_; rintro e W ⟨rfl, rfl⟩; dsimp only))
      by_cases hik : i = k
      · have q1 : ((i : Int) == (k : Int)) = true := by simp [hik]
        have HIK := Lib.hid hik
        clear hik
        go_wp2_with fail
        go_roundg (n3 - (j + 1))
        case measure => have := HGK.out; omega
        case rel => exact ⟨j + 1, es, rfl, by omega, by go_num, hM, HI⟩
      · have q1 : ((i : Int) == (k : Int)) = false := by simp; omega
        have hr : (frAll p m n)[i]? = some (frAt p m n i) := frAll_at (by have := HN.out; omega)
        have HIN := Lib.hid (fun (W : World) (h : Mem w W ([atR gp 40 (pkC p), rowR 9 pkC (.slice (some ⟨gr, off, none⟩) N c) (frAll p m n)] ++ fgL g gm es)) =>
          (In_any g gm es (frAt p m n i) W (fg_hand _ h) HI.out.1 (HP.out.lim OK2.out (by have := HN.out; omega))).mono (fun e w' h2 => (by
            obtain ⟨r, is, er, es', rfl, h3, h4, h5⟩ := h2
            obtain ⟨S, a1, a2, a3⟩ := HI.out.2
            obtain ⟨⟨rfl, rfl, rfl⟩, b1⟩ := lacks_in HP.out (k := k) (i := i) (by have := HN.out; omega) (by have := HN.out; omega) hik HI.out.1 h4 a1 a2 a3 h5
            exact ⟨es', rfl, fg_back _ h h3, Lib.hid ⟨h4, b1⟩⟩ : ∃ es', e = .returned (.tuple #[.agg (pkC zPk).toArray, .bool false, .int .i64 0]) ∧ Mem w w' ([atR gp 40 (pkC p), rowR 9 pkC (.slice (some ⟨gr, off, none⟩) N c) (frAll p m n)] ++ fgL g gm es') ∧ Hid (LkI p m n k es'))))
        have HIK := Lib.hid hik
        clear hik HR hcell
        have HR2 := Lib.hid hr
        clear hr
        go_wp2_with (first
          | go_skip
          | ((with_reducible refine at_load_ (T := 40) ?_); refine wpList_load_row (f := pkC) rfl _ _ rfl 1 i _ hM rfl HR2.out rfl pkC_len _ Try.underlying40 rfl sz_Packet ?_)
          | (go_at_call 36; refine (HIN.out _ hM).mono ?_; clear hM; rintro e W ⟨es', rfl, hM, HI'⟩; dsimp only)
          | ((with_reducible refine at_alloc_ (T := 40) ?_); refine wpList_alloc_mem rfl 40 rfl _ zv_Packet _ rfl hM ?_; clear hM; intro gx W hM; replace hM := fg_last hM)
          | ((with_reducible refine at_store_ (T := 40) ?_); refine wpList_store_mem rfl 40 _ _ rfl 0 _ _ _ _ hM rfl rfl rfl rfl sz_Packet rfl ?_; clear hM; intro W hM; simp only [List.set_cons_zero] at hM)
          | ((with_reducible refine at_load_ (T := 40) ?_); refine wpList_loadg_mem (by go_simp) 40 _ rfl 0 _ _ _ hM rfl rfl _ Try.underlying40 rfl sz_Packet ?_)
          | ((with_reducible refine at_ne_ (T := 40) ?_); refine wpList_ne_mem (by go_simp) 40 _ _ _ rfl _ _ rfl rfl eg_Packet _ (eqT_Packet zPk) ?_))
        replace hM := (show MemX noE w _ ([_] ++ ([atR gp 40 (pkC p), rowR 9 pkC (.slice (some ⟨gr, off, none⟩) N c) (frAll p m n)] ++ fgL g gm es')) from hM).drop_
        go_roundg (n3 - (j + 1))
        case measure => have := HGK.out; omega
        case rel => exact ⟨j + 1, es', rfl, by omega, by go_num, hM, HI'⟩
    · have hl := HI.out.len
      obtain ⟨L, hL⟩ : ∃ L, L = es.length := ⟨_, rfl⟩
      have HO := Lib.hid (fun W (h : Mem w W ([atR gp 40 (pkC p), rowR 9 pkC (.slice (some ⟨gr, off, none⟩) N c) (frAll p m n)] ++ fgL g gm es)) => (Open_any g gm es W (fg_hand _ h) HI.out.1.len).mono (fun e w' h2 => (⟨by rw [h2.1, hL], fg_back _ h h2.2⟩ : e = .returned (.int .i64 (L : Int)) ∧ Mem w w' ([atR gp 40 (pkC p), rowR 9 pkC (.slice (some ⟨gr, off, none⟩) N c) (frAll p m n)] ++ fgL g gm es))))
      rw [← hL] at hl
      have q1 : decide ((L : Int) ≤ 1) = true := by simp; omega
      clear hL
      go_wp2_with (first | go_skip | (go_at_call 37; refine (HO.out _ hM).mono ?_; clear hM; rintro e W ⟨rfl, hM⟩; dsimp only))
      go_ret
      exact ⟨by simp, hM.b⟩
theorem w_FragLacks (a0a : Int) (a0b : Int) (a0c : Int) (a0d : Int) (a0e : Int) (b0f : Bool) (b0g : Bool) (a0i : Int) (s0j : ByteArray) (a1 : Int) (a2 : Int) (A3 : Option Addr) (n3 c3 : Nat) (css3 : Nat → List Value) (w : World) (ha0a : 0 ≤ a0a) (ha0a' : a0a ≤ 4294967295) (ha0b : 0 ≤ a0b) (ha0b' : a0b ≤ 4294967295) (ha0c : -9223372036854775808 ≤ a0c) (ha0c' : a0c ≤ 9223372036854775807) (ha0d : -9223372036854775808 ≤ a0d) (ha0d' : a0d ≤ 9223372036854775807) (ha0e : -9223372036854775808 ≤ a0e) (ha0e' : a0e ≤ 9223372036854775807) (ha0i : -9223372036854775808 ≤ a0i) (ha0i' : a0i ≤ 9223372036854775807) (hs0j : s0j.size ≤ 9223372036854775807) (ha1 : -9223372036854775808 ≤ a1) (ha1' : a1 ≤ 9223372036854775807) (ha2 : -9223372036854775808 ≤ a2) (ha2' : a2 ≤ 9223372036854775807) (hR3 : Rows_ w A3 n3 [.int .i64] css3) (hl3 : n3 ≤ 140737488351232) :
    Calls Try.prog 11 #[.agg #[.int .u32 a0a, .int .u32 a0b, .int .i64 a0c, .int .i64 a0d, .int .i64 a0e, .bool b0f, .bool b0g, .int .i64 a0i, .string s0j], .int .i64 a1, .int .i64 a2, .slice A3 n3 c3] w fun e w' => e = .returned (.bool true) ∧ Below w.heap.size w w' :=
  fragLacks_any ⟨a0a, a0b, a0c, a0d, a0e, b0f, b0g, a0i, s0j⟩ a1 a2 A3 n3 c3 css3 w ⟨⟨ha0a, ha0a'⟩, ⟨ha0b, ha0b'⟩, ⟨ha0c, ha0c'⟩, ⟨ha0d, ha0d'⟩, ⟨ha0e, ha0e'⟩, ⟨ha0i, ha0i'⟩, hs0j⟩ ⟨ha1, ha1'⟩ ha2 ha2' hR3 hl3
end Go.Proofs.Ytmcdmgnpbhkdhaa
