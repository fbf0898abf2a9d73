/- The walk of FragSizes: it returns true. -/
import Derived.Test.YtlehknaiddidaaaFragC
namespace Go.Proofs.Ytlehknaiddidaaa
open Go.RowKit
set_option linter.unusedVariables false

theorem eg_Packet : Try.prog.eqGuardType Try.prog.depth 49 = false := by kernel_rfl
set_option maxRecDepth 100000 in
set_option maxHeartbeats 2000000 in
theorem eqc_Packet (a0 : Int) (a1 : Int) (a2 : Int) (a3 : Int) (a4 : Int) (a5 : Bool) (a6 : Bool) (a7 : Int) (a8 : ByteArray) (b0 : Int) (b1 : Int) (b2 : Int) (b3 : Int) (b4 : Int) (b5 : Bool) (b6 : Bool) (b7 : Int) (b8 : ByteArray) (w : World) : (Op.equalIn 10000 49 (.agg #[.int .u32 a0, .int .u32 a1, .int .i64 a2, .int .i64 a3, .int .i64 a4, .bool a5, .bool a6, .int .i64 a7, .string a8]) (.agg #[.int .u32 b0, .int .u32 b1, .int .i64 b2, .int .i64 b3, .int .i64 b4, .bool b5, .bool b6, .int .i64 b7, .string b8])).run Try.prog w = .ok (decide (a0 = b0) && (decide (a1 = b1) && (decide (a2 = b2) && (decide (a3 = b3) && (decide (a4 = b4) && (decide (a5 = b5) && (decide (a6 = b6) && (decide (a7 = b7) && (decide (a8.toList = b8.toList)))))))))) w := by
  have hS : Try.prog.underlying 49 = some (.struct (Try.prog.fieldsOf 49)) := by kernel_rfl
  have hp : Try.prog.stoodInHeld 49 = false := by kernel_rfl
  rw [show (10000 : Nat) = 9999 + 1 from rfl, run_equalIn_agg w 9999 49 _ _ hS hp]
  simp only [Program.fieldsOf, Try.underlying49]
  go_simp
  simp only [ite_okb, Bool.and_true]
theorem eqT_Packet (p : Pk) (w : World) : (Op.equalIn 10000 49 (.agg (pkC p).toArray) (.agg (pkC p).toArray)).run Try.prog w = .ok true w := by
  unfold pkC
  rw [eqc_Packet]
  simp
theorem eqF_Packet (p q : Pk) (h : p ≠ q) (w : World) : (Op.equalIn 10000 49 (.agg (pkC p).toArray) (.agg (pkC q).toArray)).run Try.prog w = .ok false w := by
  unfold pkC
  rw [eqc_Packet]
  congr 1
  refine Bool.eq_false_iff.2 fun e => h ?_
  simp only [Bool.and_eq_true, decide_eq_true_eq, ByteArray.toList_eq] at e
  cases p; cases q
  obtain ⟨e0, e1, e2, e3, e4, e5, e6, e7, e8⟩ := e
  simp only at e0 e1 e2 e3 e4 e5 e6 e7 e8
  have e8 := str_ext e8
  subst e0 e1 e2 e3 e4 e5 e6 e7 e8
  rfl
theorem split_zero (w : World) : Calls Try.prog 27 #[.agg (pkC ⟨0, 0, 0, 0, 0, false, false, 0, ⟨#[]⟩⟩).toArray, .int .i64 0] w fun e w' => ∃ v, e = .returned (.tuple #[v, .int .i64 1]) ∧ Mem w w' [rowR 9 pkC v []] := by
  refine (split_any ⟨0, 0, 0, 0, 0, false, false, 0, ⟨#[]⟩⟩ 0 w ⟨by decide, by decide, by decide, by decide, by decide, by decide, by show (0 : Nat) ≤ _; omega⟩ (by decide)).mono ?_
  rintro e w' ⟨v, rs, E, rfl, hM, hS⟩
  cases hS with
  | no E h h1 => exact ⟨v, by rw [h1 (by omega)], hM⟩
  | one h1 => omega
  | many m n h1 => omega
/-- the fragments of a packet, one behind the other: T i is where fragment i begins -/
structure Frs (p : Pk) (mtu : Int) (rs : List Pk) (T : Nat → Nat) : Prop where
  pos : 0 < rs.length
  few : rs.length ≤ 4096
  t0 : T 0 = 0
  tn : T rs.length = p.b.size
  le : ∀ i, i < rs.length → T i ≤ T (i + 1) ∧ T (i + 1) ≤ p.b.size ∧ T i ≤ 4096
  r : ∀ i, i < rs.length → rs[i]? = some ⟨p.s, p.d, p.pr, p.tl, p.id, p.df, decide (i + 1 < rs.length), (T i : Int) / 8, p.b.extract (T i) (T (i + 1))⟩
  sz : ∀ i, i < rs.length → ((T (i + 1) - T i : Nat) : Int) + 20 ≤ mtu ∧ T i % 8 = 0
theorem frs_one (p : Pk) (mtu : Int) (h3 : p.mf = false) (h4 : p.off = 0) (h6 : (p.b.size : Int) + 20 ≤ mtu) : Frs p mtu [p] (fun i => if i = 0 then 0 else p.b.size) := by
  refine ⟨by simp, by simp, by simp, by simp, fun i hi => ?_, fun i hi => ?_, fun i hi => ?_⟩
  all_goals
    have h0 : i = 0 := by simpa using hi
    subst h0
  · simp
  · obtain ⟨ps, pd, ppr, ptl, pid, pdf, pmf, poff, pb⟩ := p
    simp only at h3 h4
    subst h3 h4
    simp
  · simp; omega
theorem frs_many (p : Pk) (mtu : Int) (m n : Nat) (h3 : p.mf = false) (h2 : mtu ≤ 1420) (h1 : 28 ≤ mtu) (h7 : p.b.size ≤ 4000) (hm : (m : Int) = (mtu - 20) / 8 * 8) (hn : m * n < p.b.size) (hn2 : p.b.size ≤ m * n + m) :
    Frs p mtu (frAll p m n) (fun i => if i ≤ n then m * i else p.b.size) := by
  have hl := frAll_len p m n
  have hm8 : m % 8 = 0 := by omega
  have hm0 : 8 ≤ m := by omega
  have hnn : n ≤ m * n := Nat.le_mul_of_pos_left _ (by omega)
  have hk : ∀ i, i ≤ n → m * i ≤ m * n := fun i hi => Nat.mul_le_mul_left _ hi
  have hs : ∀ i, m * (i + 1) = m * i + m := fun i => Nat.mul_succ _ _
  have h8 : ∀ i, m * i % 8 = 0 := fun i => by rw [Nat.mul_mod, hm8]; simp
  refine ⟨by omega, by omega, by simp, by rw [hl]; exact if_neg (by omega), fun i hi => ?_, fun i hi => ?_, fun i hi => ?_⟩
  all_goals
    rw [hl] at hi
    have hi' : i ≤ n := by omega
    have := hk i hi'
    have := hs i
  · rw [if_pos hi']
    split
    · have := hk (i + 1) (by omega); omega
    · omega
  · rw [frAll_get p m n i hi', hl]
    simp only [if_pos hi']
    by_cases hin : i < n
    · rw [if_pos hin, if_pos (show i + 1 ≤ n by omega)]
      unfold frK
      rw [hs]
      simp [hin]
    · obtain rfl : i = n := by omega
      rw [if_neg hin, if_neg (show ¬ i + 1 ≤ i by omega)]
      unfold frZ
      simp [h3]
  · rw [if_pos hi']
    refine ⟨?_, h8 i⟩
    split
    · omega
    · have : i = n := by omega
      subst this; omega
theorem frs_of {p : Pk} {mtu : Int} {rs : List Pk} (h : SplitIs p mtu rs 0) : p.mf = false ∧ p.off = 0 ∧ 28 ≤ mtu ∧ mtu ≤ 1420 ∧ ∃ T, Frs p mtu rs T := by
  generalize hE : (0 : Int) = E at h
  cases h with
  | no E h => exact absurd hE.symm h
  | one h1 h2 h3 h4 h5 h6 => exact ⟨h3, h4, h1, h2, _, frs_one p mtu h3 h4 h6⟩
  | many m n h1 h2 h3 h4 h5 h6 h7 hm hn hn2 => exact ⟨h3, h4, h1, h2, _, frs_many p mtu m n h3 h2 h1 h7 hm hn hn2⟩
theorem frs_no {p : Pk} {mtu : Int} {rs : List Pk} {E : Int} (h : SplitIs p mtu rs E) (hE : E ≠ 0) : rs = [] := by
  cases h with
  | no E h => rfl
  | one h1 => exact absurd rfl hE
  | many m n h1 => exact absurd rfl hE
set_option maxRecDepth 100000 in
set_option maxHeartbeats 4000000 in
theorem fragSizes_any (p : Pk) (mtu : Int) (w : World) (ok : PkOk p) (hm : I64 mtu) :
    Calls Try.prog 12 #[.agg (pkC p).toArray, .int .i64 mtu] w fun e w' => e = .returned (.bool true) ∧ Below w.heap.size w w' := by
  have H1 := Lib.hid (fun W => split_any p mtu W ok hm)
  have H2 := Lib.hid split_zero
  have hb := ok.b
  have hM := Mem.nil w
  go_enter Try.func12, Try.ntmps12
  go_upto_region 1 with         (first
          | (refine at_box_ ?_; refine wpList_box_mem rfl _ _ rfl _ rfl hM ?_; clear hM; intro gb W hM; first | (simp only [List.nil_append] at hM) | (simp only [List.cons_append, List.nil_append] at hM))
          | (refine at_alloc_ (T := 49) ?_; refine wpList_alloc_mem rfl 49 rfl _ zv_Packet _ rfl hM ?_; clear hM; intro gb W hM; first | (simp only [List.nil_append] at hM) | (simp only [List.cons_append, List.nil_append] at hM))
          | (refine at_load_ (T := 49) ?_; first | (refine wpList_loadg_mem (by go_simp) 49 _ rfl 0 _ _ _ hM rfl rfl _ Try.underlying49 rfl sz_Packet ?_) | (refine wpList_loadg_mem (by go_simp) 49 _ rfl 1 _ _ _ hM rfl rfl _ Try.underlying49 rfl sz_Packet ?_) | (refine wpList_loadg_mem (by go_simp) 49 _ rfl 2 _ _ _ hM rfl rfl _ Try.underlying49 rfl sz_Packet ?_))
          | (refine at_store_ (T := 49) ?_; first | (refine wpList_store_mem rfl 49 _ _ rfl 0 _ _ _ _ hM rfl rfl rfl rfl sz_Packet rfl ?_; clear hM; intro W hM; simp only [List.set_cons_zero] at hM) | (refine wpList_store_mem rfl 49 _ _ rfl 1 _ _ _ _ hM rfl rfl rfl rfl sz_Packet rfl ?_; clear hM; intro W hM; simp only [List.set_cons_succ, List.set_cons_zero] at hM) | (refine wpList_store_mem rfl 49 _ _ rfl 2 _ _ _ _ hM rfl rfl rfl rfl sz_Packet rfl ?_; clear hM; intro W hM; simp only [List.set_cons_succ, List.set_cons_zero] at hM))
          | (refine at_load_ ?_; first | (refine wpList_loadf_mem (by go_simp) _ _ rfl (by kernel_rfl) 0 _ _ _ _ _ hM rfl rfl rfl ?_) | (refine wpList_loadf_mem (by go_simp) _ _ rfl (by kernel_rfl) 1 _ _ _ _ _ hM rfl rfl rfl ?_) | (refine wpList_loadf_mem (by go_simp) _ _ rfl (by kernel_rfl) 2 _ _ _ _ _ hM rfl rfl rfl ?_))
          | (refine at_store_ ?_; first | (refine wpList_store1_mem rfl _ _ _ rfl 0 _ _ _ _ _ hM rfl rfl (by first | ((conv => lhs; whnf); done) | ((conv => lhs; whnf); rfl)) (by rfl) (by rfl) (by kernel_rfl) rfl ?_; clear hM; intro W hM; simp only [pkC, List.set_cons_succ, List.set_cons_zero] at hM) | (refine wpList_store1_mem rfl _ _ _ rfl 1 _ _ _ _ _ hM rfl rfl (by first | ((conv => lhs; whnf); done) | ((conv => lhs; whnf); rfl)) (by rfl) (by rfl) (by kernel_rfl) rfl ?_; clear hM; intro W hM; simp only [pkC, List.set_cons_succ, List.set_cons_zero] at hM) | (refine wpList_store1_mem rfl _ _ _ rfl 2 _ _ _ _ _ hM rfl rfl (by first | ((conv => lhs; whnf); done) | ((conv => lhs; whnf); rfl)) (by rfl) (by rfl) (by kernel_rfl) rfl ?_; clear hM; intro W hM; simp only [pkC, List.set_cons_succ, List.set_cons_zero] at hM)))
  obtain ⟨g2, hg2⟩ : ∃ x, x = gb := ⟨_, rfl⟩
  subst hg2
  go_upto_region 2 with         (first
          | (go_at_call 27; refine (H1.out _).mono ?_; rintro e W ⟨v1, rs, E, rfl, hN, hS⟩; replace hM := hM.join hN; simp only [List.cons_append, List.nil_append] at hM; clear hN)
          | (refine at_box_ ?_; refine wpList_box_mem rfl _ _ rfl _ rfl hM ?_; clear hM; intro gb W hM; first | (simp only [List.nil_append] at hM) | (simp only [List.cons_append, List.nil_append] at hM))
          | (refine at_alloc_ (T := 49) ?_; refine wpList_alloc_mem rfl 49 rfl _ zv_Packet _ rfl hM ?_; clear hM; intro gb W hM; first | (simp only [List.nil_append] at hM) | (simp only [List.cons_append, List.nil_append] at hM))
          | (refine at_load_ (T := 49) ?_; first | (refine wpList_loadg_mem (by go_simp) 49 _ rfl 0 _ _ _ hM rfl rfl _ Try.underlying49 rfl sz_Packet ?_) | (refine wpList_loadg_mem (by go_simp) 49 _ rfl 1 _ _ _ hM rfl rfl _ Try.underlying49 rfl sz_Packet ?_) | (refine wpList_loadg_mem (by go_simp) 49 _ rfl 2 _ _ _ hM rfl rfl _ Try.underlying49 rfl sz_Packet ?_))
          | (refine at_store_ (T := 49) ?_; first | (refine wpList_store_mem rfl 49 _ _ rfl 0 _ _ _ _ hM rfl rfl rfl rfl sz_Packet rfl ?_; clear hM; intro W hM; simp only [List.set_cons_zero] at hM) | (refine wpList_store_mem rfl 49 _ _ rfl 1 _ _ _ _ hM rfl rfl rfl rfl sz_Packet rfl ?_; clear hM; intro W hM; simp only [List.set_cons_succ, List.set_cons_zero] at hM) | (refine wpList_store_mem rfl 49 _ _ rfl 2 _ _ _ _ hM rfl rfl rfl rfl sz_Packet rfl ?_; clear hM; intro W hM; simp only [List.set_cons_succ, List.set_cons_zero] at hM))
          | (refine at_load_ ?_; first | (refine wpList_loadf_mem (by go_simp) _ _ rfl (by kernel_rfl) 0 _ _ _ _ _ hM rfl rfl rfl ?_) | (refine wpList_loadf_mem (by go_simp) _ _ rfl (by kernel_rfl) 1 _ _ _ _ _ hM rfl rfl rfl ?_) | (refine wpList_loadf_mem (by go_simp) _ _ rfl (by kernel_rfl) 2 _ _ _ _ _ hM rfl rfl rfl ?_))
          | (refine at_store_ ?_; first | (refine wpList_store1_mem rfl _ _ _ rfl 0 _ _ _ _ _ hM rfl rfl (by first | ((conv => lhs; whnf); done) | ((conv => lhs; whnf); rfl)) (by rfl) (by rfl) (by kernel_rfl) rfl ?_; clear hM; intro W hM; simp only [pkC, List.set_cons_succ, List.set_cons_zero] at hM) | (refine wpList_store1_mem rfl _ _ _ rfl 1 _ _ _ _ _ hM rfl rfl (by first | ((conv => lhs; whnf); done) | ((conv => lhs; whnf); rfl)) (by rfl) (by rfl) (by kernel_rfl) rfl ?_; clear hM; intro W hM; simp only [pkC, List.set_cons_succ, List.set_cons_zero] at hM) | (refine wpList_store1_mem rfl _ _ _ rfl 2 _ _ _ _ _ hM rfl rfl (by first | ((conv => lhs; whnf); done) | ((conv => lhs; whnf); rfl)) (by rfl) (by rfl) (by kernel_rfl) rfl ?_; clear hM; intro W hM; simp only [pkC, List.set_cons_succ, List.set_cons_zero] at hM)))
  go_upto_region 5 with         (first
          | (go_at_call 27; refine (H2.out _).mono ?_; rintro e W ⟨v2, rfl, hN⟩; replace hM := hM.kept hN.b; clear hN)
          | (refine at_box_ ?_; refine wpList_box_mem rfl _ _ rfl _ rfl hM ?_; clear hM; intro gb W hM; first | (simp only [List.nil_append] at hM) | (simp only [List.cons_append, List.nil_append] at hM))
          | (refine at_alloc_ (T := 49) ?_; refine wpList_alloc_mem rfl 49 rfl _ zv_Packet _ rfl hM ?_; clear hM; intro gb W hM; first | (simp only [List.nil_append] at hM) | (simp only [List.cons_append, List.nil_append] at hM))
          | (refine at_load_ (T := 49) ?_; first | (refine wpList_loadg_mem (by go_simp) 49 _ rfl 0 _ _ _ hM rfl rfl _ Try.underlying49 rfl sz_Packet ?_) | (refine wpList_loadg_mem (by go_simp) 49 _ rfl 1 _ _ _ hM rfl rfl _ Try.underlying49 rfl sz_Packet ?_) | (refine wpList_loadg_mem (by go_simp) 49 _ rfl 2 _ _ _ hM rfl rfl _ Try.underlying49 rfl sz_Packet ?_))
          | (refine at_store_ (T := 49) ?_; first | (refine wpList_store_mem rfl 49 _ _ rfl 0 _ _ _ _ hM rfl rfl rfl rfl sz_Packet rfl ?_; clear hM; intro W hM; simp only [List.set_cons_zero] at hM) | (refine wpList_store_mem rfl 49 _ _ rfl 1 _ _ _ _ hM rfl rfl rfl rfl sz_Packet rfl ?_; clear hM; intro W hM; simp only [List.set_cons_succ, List.set_cons_zero] at hM) | (refine wpList_store_mem rfl 49 _ _ rfl 2 _ _ _ _ hM rfl rfl rfl rfl sz_Packet rfl ?_; clear hM; intro W hM; simp only [List.set_cons_succ, List.set_cons_zero] at hM))
          | (refine at_load_ ?_; first | (refine wpList_loadf_mem (by go_simp) _ _ rfl (by kernel_rfl) 0 _ _ _ _ _ hM rfl rfl rfl ?_) | (refine wpList_loadf_mem (by go_simp) _ _ rfl (by kernel_rfl) 1 _ _ _ _ _ hM rfl rfl rfl ?_) | (refine wpList_loadf_mem (by go_simp) _ _ rfl (by kernel_rfl) 2 _ _ _ _ _ hM rfl rfl rfl ?_))
          | (refine at_store_ ?_; first | (refine wpList_store1_mem rfl _ _ _ rfl 0 _ _ _ _ _ hM rfl rfl (by first | ((conv => lhs; whnf); done) | ((conv => lhs; whnf); rfl)) (by rfl) (by rfl) (by kernel_rfl) rfl ?_; clear hM; intro W hM; simp only [pkC, List.set_cons_succ, List.set_cons_zero] at hM) | (refine wpList_store1_mem rfl _ _ _ rfl 1 _ _ _ _ _ hM rfl rfl (by first | ((conv => lhs; whnf); done) | ((conv => lhs; whnf); rfl)) (by rfl) (by rfl) (by kernel_rfl) rfl ?_; clear hM; intro W hM; simp only [pkC, List.set_cons_succ, List.set_cons_zero] at hM) | (refine wpList_store1_mem rfl _ _ _ rfl 2 _ _ _ _ _ hM rfl rfl (by first | ((conv => lhs; whnf); done) | ((conv => lhs; whnf); rfl)) (by rfl) (by rfl) (by kernel_rfl) rfl ?_; clear hM; intro W hM; simp only [pkC, List.set_cons_succ, List.set_cons_zero] at hM)))
  by_cases hE : E = 0
  rotate_left
  · have t1 : ((E : Int) != 0) = true := by simpa using hE
    obtain rfl := frs_no hS hE
    obtain ⟨A, c, rfl⟩ := (hM.row 1 rfl).form
    simp only [List.length_nil]
    go_wp2_with (first
      | (refine at_box_ ?_; refine wpList_box_mem rfl _ _ rfl _ rfl hM ?_; clear hM; intro gb W hM; first | (simp only [List.nil_append] at hM) | (simp only [List.cons_append, List.nil_append] at hM))
      | (refine at_alloc_ (T := 49) ?_; refine wpList_alloc_mem rfl 49 rfl _ zv_Packet _ rfl hM ?_; clear hM; intro gb W hM; first | (simp only [List.nil_append] at hM) | (simp only [List.cons_append, List.nil_append] at hM))
      | (refine at_load_ (T := 49) ?_; first | (refine wpList_loadg_mem (by go_simp) 49 _ rfl 0 _ _ _ hM rfl rfl _ Try.underlying49 rfl sz_Packet ?_) | (refine wpList_loadg_mem (by go_simp) 49 _ rfl 1 _ _ _ hM rfl rfl _ Try.underlying49 rfl sz_Packet ?_) | (refine wpList_loadg_mem (by go_simp) 49 _ rfl 2 _ _ _ hM rfl rfl _ Try.underlying49 rfl sz_Packet ?_))
      | (refine at_store_ (T := 49) ?_; first | (refine wpList_store_mem rfl 49 _ _ rfl 0 _ _ _ _ hM rfl rfl rfl rfl sz_Packet rfl ?_; clear hM; intro W hM; simp only [List.set_cons_zero] at hM) | (refine wpList_store_mem rfl 49 _ _ rfl 1 _ _ _ _ hM rfl rfl rfl rfl sz_Packet rfl ?_; clear hM; intro W hM; simp only [List.set_cons_succ, List.set_cons_zero] at hM) | (refine wpList_store_mem rfl 49 _ _ rfl 2 _ _ _ _ hM rfl rfl rfl rfl sz_Packet rfl ?_; clear hM; intro W hM; simp only [List.set_cons_succ, List.set_cons_zero] at hM))
      | (refine at_load_ ?_; first | (refine wpList_loadf_mem (by go_simp) _ _ rfl (by kernel_rfl) 0 _ _ _ _ _ hM rfl rfl rfl ?_) | (refine wpList_loadf_mem (by go_simp) _ _ rfl (by kernel_rfl) 1 _ _ _ _ _ hM rfl rfl rfl ?_) | (refine wpList_loadf_mem (by go_simp) _ _ rfl (by kernel_rfl) 2 _ _ _ _ _ hM rfl rfl rfl ?_))
      | (refine at_store_ ?_; first | (refine wpList_store1_mem rfl _ _ _ rfl 0 _ _ _ _ _ hM rfl rfl (by first | ((conv => lhs; whnf); done) | ((conv => lhs; whnf); rfl)) (by rfl) (by rfl) (by kernel_rfl) rfl ?_; clear hM; intro W hM; simp only [pkC, List.set_cons_succ, List.set_cons_zero] at hM) | (refine wpList_store1_mem rfl _ _ _ rfl 1 _ _ _ _ _ hM rfl rfl (by first | ((conv => lhs; whnf); done) | ((conv => lhs; whnf); rfl)) (by rfl) (by rfl) (by kernel_rfl) rfl ?_; clear hM; intro W hM; simp only [pkC, List.set_cons_succ, List.set_cons_zero] at hM) | (refine wpList_store1_mem rfl _ _ _ rfl 2 _ _ _ _ _ hM rfl rfl (by first | ((conv => lhs; whnf); done) | ((conv => lhs; whnf); rfl)) (by rfl) (by rfl) (by kernel_rfl) rfl ?_; clear hM; intro W hM; simp only [pkC, List.set_cons_succ, List.set_cons_zero] at hM)))
    go_ret
    exact ⟨rfl, hM.b⟩
  subst hE
  obtain ⟨k3, k4, k1, k2, T, hF⟩ := frs_of hS
  obtain ⟨g, off, c, rfl, hW⟩ := (hM.row 1 rfl).pos hF.pos
  obtain ⟨P, hP⟩ : ∃ P, P = p := ⟨_, rfl⟩
  rw [← hP] at hF
  obtain ⟨ps, pd, ppr, ptl, pid, pdf, pmf, poff, pb⟩ := p
  simp only at k3 k4 hb
  subst k3 k4
  clear H1 H2 ok hS hW
  rw [hP] at hF
  have HF := Lib.hid hF
  have hn0 := hF.pos
  have hn1 := hF.few
  obtain ⟨N, hN⟩ : ∃ N, rs.length = N := ⟨_, rfl⟩
  simp only [hN] at hM hn0 hn1 ⊢
  go_wp2_with (first
    | (refine at_box_ ?_; refine wpList_box_mem rfl _ _ rfl _ rfl hM ?_; clear hM; intro gb W hM; first | (simp only [List.nil_append] at hM) | (simp only [List.cons_append, List.nil_append] at hM))
    | (refine at_alloc_ (T := 49) ?_; refine wpList_alloc_mem rfl 49 rfl _ zv_Packet _ rfl hM ?_; clear hM; intro gb W hM; first | (simp only [List.nil_append] at hM) | (simp only [List.cons_append, List.nil_append] at hM))
    | (refine at_load_ (T := 49) ?_; first | (refine wpList_loadg_mem (by go_simp) 49 _ rfl 0 _ _ _ hM rfl rfl _ Try.underlying49 rfl sz_Packet ?_) | (refine wpList_loadg_mem (by go_simp) 49 _ rfl 1 _ _ _ hM rfl rfl _ Try.underlying49 rfl sz_Packet ?_) | (refine wpList_loadg_mem (by go_simp) 49 _ rfl 2 _ _ _ hM rfl rfl _ Try.underlying49 rfl sz_Packet ?_))
    | (refine at_store_ (T := 49) ?_; first | (refine wpList_store_mem rfl 49 _ _ rfl 0 _ _ _ _ hM rfl rfl rfl rfl sz_Packet rfl ?_; clear hM; intro W hM; simp only [List.set_cons_zero] at hM) | (refine wpList_store_mem rfl 49 _ _ rfl 1 _ _ _ _ hM rfl rfl rfl rfl sz_Packet rfl ?_; clear hM; intro W hM; simp only [List.set_cons_succ, List.set_cons_zero] at hM) | (refine wpList_store_mem rfl 49 _ _ rfl 2 _ _ _ _ hM rfl rfl rfl rfl sz_Packet rfl ?_; clear hM; intro W hM; simp only [List.set_cons_succ, List.set_cons_zero] at hM))
    | (refine at_load_ ?_; first | (refine wpList_loadf_mem (by go_simp) _ _ rfl (by kernel_rfl) 0 _ _ _ _ _ hM rfl rfl rfl ?_) | (refine wpList_loadf_mem (by go_simp) _ _ rfl (by kernel_rfl) 1 _ _ _ _ _ hM rfl rfl rfl ?_) | (refine wpList_loadf_mem (by go_simp) _ _ rfl (by kernel_rfl) 2 _ _ _ _ _ hM rfl rfl rfl ?_))
    | (refine at_store_ ?_; first | (refine wpList_store1_mem rfl _ _ _ rfl 0 _ _ _ _ _ hM rfl rfl (by first | ((conv => lhs; whnf); done) | ((conv => lhs; whnf); rfl)) (by rfl) (by rfl) (by kernel_rfl) rfl ?_; clear hM; intro W hM; simp only [pkC, List.set_cons_succ, List.set_cons_zero] at hM) | (refine wpList_store1_mem rfl _ _ _ rfl 1 _ _ _ _ _ hM rfl rfl (by first | ((conv => lhs; whnf); done) | ((conv => lhs; whnf); rfl)) (by rfl) (by rfl) (by kernel_rfl) rfl ?_; clear hM; intro W hM; simp only [pkC, List.set_cons_succ, List.set_cons_zero] at hM) | (refine wpList_store1_mem rfl _ _ _ rfl 2 _ _ _ _ _ hM rfl rfl (by first | ((conv => lhs; whnf); done) | ((conv => lhs; whnf); rfl)) (by rfl) (by rfl) (by kernel_rfl) rfl ?_; clear hM; intro W hM; simp only [pkC, List.set_cons_succ, List.set_cons_zero] at hM)))
  go_loopw [9, 32] (fun va vi wr => ∃ i : Nat, i ≤ N ∧ vi = .int .i64 (i : Int) ∧ va = .string (pb.extract 0 (T i)) ∧ MemX noE w wr [atR g2 49 [.int .u32 ps, .int .u32 pd, .int .i64 ppr, .int .i64 ptl, .int .i64 pid, .bool pdf, .bool false, .int .i64 0, .string pb], rowR 9 pkC (.slice (some ⟨g, off, none⟩) N c) rs]) (fun va vi _ => N - (intOf vi).toNat)
  case atStart => exact ⟨0, by omega, rfl, by rw [HF.out.t0]; exact congrArg Value.string (str_ext (by simp)), hM⟩
  case round =>
    obtain ⟨i, hi, rfl, rfl, hM⟩ := hrel
    by_cases hin : i < N
    · have hr := HF.out.r i (by omega)
      obtain ⟨x1, x2, x3⟩ := HF.out.le i (by omega)
      obtain ⟨y1, y2⟩ := HF.out.sz i (by omega)
      have ht := fr_text pb (T i) (T (i + 1)) x1 x2
      simp only [hN] at hr x2
      have hbs : (pb.extract (T i) (T (i + 1))).size = T (i + 1) - T i := by rw [ByteArray.size_extract]; omega
      have has : (pb.extract 0 (T i)).size = T i := by rw [ByteArray.size_extract]; omega
      generalize hx : T i = x at *
      generalize hy : T (i + 1) = y at *
      generalize hbi : pb.extract x y = bi at *
      generalize hac : pb.extract 0 x = ac at *
      have HT := Lib.hid ht
      have HBI := Lib.hid hbi
      have HAC := Lib.hid hac
      have HX := Lib.hid hx
      have HY := Lib.hid hy
      clear ht hbi hac hx hy
      have q1 : decide (mtu < (bi.size : Int) + 20) = false := by simp; omega
      have q2 : ((8 * ((x : Int) / 8) : Int) != (ac.size : Int)) = false := by simp; omega
      by_cases hmo : i + 1 < N
      · have q3 : decide (i + 1 < N) = true := by simpa using hmo
        have q4 : decide ((i : Int) < (N : Int) - 1) = true := by simp; omega
        rw [q3] at hr
        go_wp2_with (first
          | (refine at_load_ (T := 49) ?_; refine wpList_load_row (f := pkC) rfl _ _ rfl 1 i _ hM rfl hr rfl pkC_len _ Try.underlying49 rfl sz_Packet ?_)
          | (refine at_ne_ (T := 49) ?_; refine wpList_ne_mem (by go_simp) 49 _ _ _ rfl _ _ rfl rfl eg_Packet _ (eqT_Packet ⟨ps, pd, ppr, ptl, pid, pdf, false, 0, pb⟩) ?_)
          | (refine at_box_ ?_; refine wpList_box_mem rfl _ _ rfl _ rfl hM ?_; clear hM; intro gb W hM; first | (simp only [List.nil_append] at hM) | (simp only [List.cons_append, List.nil_append] at hM))
          | (refine at_alloc_ (T := 49) ?_; refine wpList_alloc_mem rfl 49 rfl _ zv_Packet _ rfl hM ?_; clear hM; intro gb W hM; first | (simp only [List.nil_append] at hM) | (simp only [List.cons_append, List.nil_append] at hM))
          | (refine at_load_ (T := 49) ?_; first | (refine wpList_loadg_mem (by go_simp) 49 _ rfl 0 _ _ _ hM rfl rfl _ Try.underlying49 rfl sz_Packet ?_) | (refine wpList_loadg_mem (by go_simp) 49 _ rfl 1 _ _ _ hM rfl rfl _ Try.underlying49 rfl sz_Packet ?_) | (refine wpList_loadg_mem (by go_simp) 49 _ rfl 2 _ _ _ hM rfl rfl _ Try.underlying49 rfl sz_Packet ?_))
          | (refine at_store_ (T := 49) ?_; first | (refine wpList_store_mem rfl 49 _ _ rfl 0 _ _ _ _ hM rfl rfl rfl rfl sz_Packet rfl ?_; clear hM; intro W hM; simp only [List.set_cons_zero] at hM) | (refine wpList_store_mem rfl 49 _ _ rfl 1 _ _ _ _ hM rfl rfl rfl rfl sz_Packet rfl ?_; clear hM; intro W hM; simp only [List.set_cons_succ, List.set_cons_zero] at hM) | (refine wpList_store_mem rfl 49 _ _ rfl 2 _ _ _ _ hM rfl rfl rfl rfl sz_Packet rfl ?_; clear hM; intro W hM; simp only [List.set_cons_succ, List.set_cons_zero] at hM))
          | (refine at_load_ ?_; first | (refine wpList_loadf_mem (by go_simp) _ _ rfl (by kernel_rfl) 0 _ _ _ _ _ hM rfl rfl rfl ?_) | (refine wpList_loadf_mem (by go_simp) _ _ rfl (by kernel_rfl) 1 _ _ _ _ _ hM rfl rfl rfl ?_) | (refine wpList_loadf_mem (by go_simp) _ _ rfl (by kernel_rfl) 2 _ _ _ _ _ hM rfl rfl rfl ?_))
          | (refine at_store_ ?_; first | (refine wpList_store1_mem rfl _ _ _ rfl 0 _ _ _ _ _ hM rfl rfl (by first | ((conv => lhs; whnf); done) | ((conv => lhs; whnf); rfl)) (by rfl) (by rfl) (by kernel_rfl) rfl ?_; clear hM; intro W hM; simp only [pkC, List.set_cons_succ, List.set_cons_zero] at hM) | (refine wpList_store1_mem rfl _ _ _ rfl 1 _ _ _ _ _ hM rfl rfl (by first | ((conv => lhs; whnf); done) | ((conv => lhs; whnf); rfl)) (by rfl) (by rfl) (by kernel_rfl) rfl ?_; clear hM; intro W hM; simp only [pkC, List.set_cons_succ, List.set_cons_zero] at hM) | (refine wpList_store1_mem rfl _ _ _ rfl 2 _ _ _ _ _ hM rfl rfl (by first | ((conv => lhs; whnf); done) | ((conv => lhs; whnf); rfl)) (by rfl) (by rfl) (by kernel_rfl) rfl ?_; clear hM; intro W hM; simp only [pkC, List.set_cons_succ, List.set_cons_zero] at hM)))
        go_roundw
        case rel => exact ⟨i + 1, by omega, by go_num, congrArg Value.string (HT.out.trans (by rw [HY.out])), hM.take_ 2⟩
        case measure => simp [intOf]; omega
      · have q3 : decide (i + 1 < N) = false := by simpa using hmo
        have q4 : decide ((i : Int) < (N : Int) - 1) = false := by simp; omega
        rw [q3] at hr
        go_wp2_with (first
          | (refine at_load_ (T := 49) ?_; refine wpList_load_row (f := pkC) rfl _ _ rfl 1 i _ hM rfl hr rfl pkC_len _ Try.underlying49 rfl sz_Packet ?_)
          | (refine at_ne_ (T := 49) ?_; refine wpList_ne_mem (by go_simp) 49 _ _ _ rfl _ _ rfl rfl eg_Packet _ (eqT_Packet ⟨ps, pd, ppr, ptl, pid, pdf, false, 0, pb⟩) ?_)
          | (refine at_box_ ?_; refine wpList_box_mem rfl _ _ rfl _ rfl hM ?_; clear hM; intro gb W hM; first | (simp only [List.nil_append] at hM) | (simp only [List.cons_append, List.nil_append] at hM))
          | (refine at_alloc_ (T := 49) ?_; refine wpList_alloc_mem rfl 49 rfl _ zv_Packet _ rfl hM ?_; clear hM; intro gb W hM; first | (simp only [List.nil_append] at hM) | (simp only [List.cons_append, List.nil_append] at hM))
          | (refine at_load_ (T := 49) ?_; first | (refine wpList_loadg_mem (by go_simp) 49 _ rfl 0 _ _ _ hM rfl rfl _ Try.underlying49 rfl sz_Packet ?_) | (refine wpList_loadg_mem (by go_simp) 49 _ rfl 1 _ _ _ hM rfl rfl _ Try.underlying49 rfl sz_Packet ?_) | (refine wpList_loadg_mem (by go_simp) 49 _ rfl 2 _ _ _ hM rfl rfl _ Try.underlying49 rfl sz_Packet ?_))
          | (refine at_store_ (T := 49) ?_; first | (refine wpList_store_mem rfl 49 _ _ rfl 0 _ _ _ _ hM rfl rfl rfl rfl sz_Packet rfl ?_; clear hM; intro W hM; simp only [List.set_cons_zero] at hM) | (refine wpList_store_mem rfl 49 _ _ rfl 1 _ _ _ _ hM rfl rfl rfl rfl sz_Packet rfl ?_; clear hM; intro W hM; simp only [List.set_cons_succ, List.set_cons_zero] at hM) | (refine wpList_store_mem rfl 49 _ _ rfl 2 _ _ _ _ hM rfl rfl rfl rfl sz_Packet rfl ?_; clear hM; intro W hM; simp only [List.set_cons_succ, List.set_cons_zero] at hM))
          | (refine at_load_ ?_; first | (refine wpList_loadf_mem (by go_simp) _ _ rfl (by kernel_rfl) 0 _ _ _ _ _ hM rfl rfl rfl ?_) | (refine wpList_loadf_mem (by go_simp) _ _ rfl (by kernel_rfl) 1 _ _ _ _ _ hM rfl rfl rfl ?_) | (refine wpList_loadf_mem (by go_simp) _ _ rfl (by kernel_rfl) 2 _ _ _ _ _ hM rfl rfl rfl ?_))
          | (refine at_store_ ?_; first | (refine wpList_store1_mem rfl _ _ _ rfl 0 _ _ _ _ _ hM rfl rfl (by first | ((conv => lhs; whnf); done) | ((conv => lhs; whnf); rfl)) (by rfl) (by rfl) (by kernel_rfl) rfl ?_; clear hM; intro W hM; simp only [pkC, List.set_cons_succ, List.set_cons_zero] at hM) | (refine wpList_store1_mem rfl _ _ _ rfl 1 _ _ _ _ _ hM rfl rfl (by first | ((conv => lhs; whnf); done) | ((conv => lhs; whnf); rfl)) (by rfl) (by rfl) (by kernel_rfl) rfl ?_; clear hM; intro W hM; simp only [pkC, List.set_cons_succ, List.set_cons_zero] at hM) | (refine wpList_store1_mem rfl _ _ _ rfl 2 _ _ _ _ _ hM rfl rfl (by first | ((conv => lhs; whnf); done) | ((conv => lhs; whnf); rfl)) (by rfl) (by rfl) (by kernel_rfl) rfl ?_; clear hM; intro W hM; simp only [pkC, List.set_cons_succ, List.set_cons_zero] at hM)))
        go_roundw
        case rel => exact ⟨i + 1, by omega, by go_num, congrArg Value.string (HT.out.trans (by rw [HY.out])), hM.take_ 2⟩
        case measure => simp [intOf]; omega
    · obtain rfl : i = N := by omega
      have ht := HF.out.tn
      rw [hN] at ht
      simp only [ht, ext_all] at *
      go_wp2_with (first
        | (refine at_box_ ?_; refine wpList_box_mem rfl _ _ rfl _ rfl hM ?_; clear hM; intro gb W hM; first | (simp only [List.nil_append] at hM) | (simp only [List.cons_append, List.nil_append] at hM))
        | (refine at_alloc_ (T := 49) ?_; refine wpList_alloc_mem rfl 49 rfl _ zv_Packet _ rfl hM ?_; clear hM; intro gb W hM; first | (simp only [List.nil_append] at hM) | (simp only [List.cons_append, List.nil_append] at hM))
        | (refine at_load_ (T := 49) ?_; first | (refine wpList_loadg_mem (by go_simp) 49 _ rfl 0 _ _ _ hM rfl rfl _ Try.underlying49 rfl sz_Packet ?_) | (refine wpList_loadg_mem (by go_simp) 49 _ rfl 1 _ _ _ hM rfl rfl _ Try.underlying49 rfl sz_Packet ?_) | (refine wpList_loadg_mem (by go_simp) 49 _ rfl 2 _ _ _ hM rfl rfl _ Try.underlying49 rfl sz_Packet ?_))
        | (refine at_store_ (T := 49) ?_; first | (refine wpList_store_mem rfl 49 _ _ rfl 0 _ _ _ _ hM rfl rfl rfl rfl sz_Packet rfl ?_; clear hM; intro W hM; simp only [List.set_cons_zero] at hM) | (refine wpList_store_mem rfl 49 _ _ rfl 1 _ _ _ _ hM rfl rfl rfl rfl sz_Packet rfl ?_; clear hM; intro W hM; simp only [List.set_cons_succ, List.set_cons_zero] at hM) | (refine wpList_store_mem rfl 49 _ _ rfl 2 _ _ _ _ hM rfl rfl rfl rfl sz_Packet rfl ?_; clear hM; intro W hM; simp only [List.set_cons_succ, List.set_cons_zero] at hM))
        | (refine at_load_ ?_; first | (refine wpList_loadf_mem (by go_simp) _ _ rfl (by kernel_rfl) 0 _ _ _ _ _ hM rfl rfl rfl ?_) | (refine wpList_loadf_mem (by go_simp) _ _ rfl (by kernel_rfl) 1 _ _ _ _ _ hM rfl rfl rfl ?_) | (refine wpList_loadf_mem (by go_simp) _ _ rfl (by kernel_rfl) 2 _ _ _ _ _ hM rfl rfl rfl ?_))
        | (refine at_store_ ?_; first | (refine wpList_store1_mem rfl _ _ _ rfl 0 _ _ _ _ _ hM rfl rfl (by first | ((conv => lhs; whnf); done) | ((conv => lhs; whnf); rfl)) (by rfl) (by rfl) (by kernel_rfl) rfl ?_; clear hM; intro W hM; simp only [pkC, List.set_cons_succ, List.set_cons_zero] at hM) | (refine wpList_store1_mem rfl _ _ _ rfl 1 _ _ _ _ _ hM rfl rfl (by first | ((conv => lhs; whnf); done) | ((conv => lhs; whnf); rfl)) (by rfl) (by rfl) (by kernel_rfl) rfl ?_; clear hM; intro W hM; simp only [pkC, List.set_cons_succ, List.set_cons_zero] at hM) | (refine wpList_store1_mem rfl _ _ _ rfl 2 _ _ _ _ _ hM rfl rfl (by first | ((conv => lhs; whnf); done) | ((conv => lhs; whnf); rfl)) (by rfl) (by rfl) (by kernel_rfl) rfl ?_; clear hM; intro W hM; simp only [pkC, List.set_cons_succ, List.set_cons_zero] at hM)))
      go_ret
      exact ⟨rfl, hM.b⟩
theorem w_FragSizes (a0a : Int) (a0b : Int) (a0c : Int) (a0d : Int) (a0e : Int) (b0f : Bool) (b0g : Bool) (a0i : Int) (s0j : ByteArray) (a1 : Int) (w : World) (ha0a : 0 ≤ a0a) (ha0a' : a0a ≤ 4294967295) (ha0b : 0 ≤ a0b) (ha0b' : a0b ≤ 4294967295) (ha0c : -9223372036854775808 ≤ a0c) (ha0c' : a0c ≤ 9223372036854775807) (ha0d : -9223372036854775808 ≤ a0d) (ha0d' : a0d ≤ 9223372036854775807) (ha0e : -9223372036854775808 ≤ a0e) (ha0e' : a0e ≤ 9223372036854775807) (ha0i : -9223372036854775808 ≤ a0i) (ha0i' : a0i ≤ 9223372036854775807) (hs0j : s0j.size ≤ 9223372036854775807) (ha1 : -9223372036854775808 ≤ a1) (ha1' : a1 ≤ 9223372036854775807) :
    Calls Try.prog 12 #[.agg #[.int .u32 a0a, .int .u32 a0b, .int .i64 a0c, .int .i64 a0d, .int .i64 a0e, .bool b0f, .bool b0g, .int .i64 a0i, .string s0j], .int .i64 a1] w fun e w' => e = .returned (.bool true) ∧ Below w.heap.size w w' :=
  fragSizes_any ⟨a0a, a0b, a0c, a0d, a0e, b0f, b0g, a0i, s0j⟩ a1 w ⟨⟨ha0a, ha0a'⟩, ⟨ha0b, ha0b'⟩, ⟨ha0c, ha0c'⟩, ⟨ha0d, ha0d'⟩, ⟨ha0e, ha0e'⟩, ⟨ha0i, ha0i'⟩, hs0j⟩ ⟨ha1, ha1'⟩
end Go.Proofs.Ytlehknaiddidaaa
