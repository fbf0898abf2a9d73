/- route: Add and Drop whole; packetboatkeep.routes. Written by my genrt.py. -/
import Derived.Test.YtppjmhkecogbcaaRtH
import Derived.Test.YtppjmhkecogbcaaStep
import Derived.Test.YtppjmhkecogbcaaStepM
import Derived.Test.YtppjmhkecogbcaaPiece
namespace Go.Proofs.Ytppjmhkecogbcaa
open Go.RowKit Go.Lib
set_option linter.unusedVariables false
set_option linter.unusedSimpArgs false


def AddR (t : RT) (m : Nat) (a : Nat) (n via e : Int) (t' : RT) (m' : Nat) : Prop :=
  (chkZ a n ≠ 0 ∧ e = chkZ a n ∧ t' = t ∧ m' = m) ∨ ∃ k : Nat, n = k ∧ okP a k ∧
    (((t.get (path a k)).isSome = true ∧ e = 8 ∧ t' = t ∧ m' = m) ∨ (t.get (path a k) = none ∧ m = 64 ∧ e = 9 ∧ t' = t ∧ m' = m) ∨
      (t.get (path a k) = none ∧ m < 64 ∧ e = 0 ∧ m' = m + 1 ∧ ∀ q, t'.get q = if q = path a k then some via else t.get q))
def DropR (t : RT) (m : Nat) (a : Nat) (n e : Int) (t' : RT) (m' : Nat) : Prop :=
  (chkZ a n ≠ 0 ∧ e = chkZ a n ∧ t' = t ∧ m' = m) ∨ ∃ k : Nat, n = k ∧ okP a k ∧
    ((t.get (path a k) = none ∧ e = 7 ∧ t' = t ∧ m' = m) ∨ ((t.get (path a k)).isSome = true ∧ e = 0 ∧ 0 < m ∧ m' = m - 1 ∧ ∀ q, t'.get q = if q = path a k then none else t.get q))
theorem okP_of {a : Nat} {n : Int} (ha : a ≤ 4294967295) (h : chkZ a n = 0) : ∃ k : Nat, n = k ∧ okP a k := by
  obtain ⟨h1, h2, _⟩ := chk_zero h
  obtain ⟨k, rfl⟩ := Int.eq_ofNat_of_zero_le h1
  exact ⟨k, rfl, chk_nat (by omega) h⟩
theorem Add_any (g m : Nat) (t : RT) (a : Nat) (n via : Int) (w : World) (hM0 : MemX (blkE t.res) w w t.res) (hT : Tab g t m) (ha : a ≤ 4294967295) (hn : -9223372036854775808 ≤ n ∧ n ≤ 9223372036854775807) :
    Calls Try.prog 15 #[.pointer (some ⟨g, 0, none⟩), .agg #[.int .u32 a, .int .i64 n], .int .i64 via] w fun e w' => ∃ e' t' m', e = .returned (.int .i64 e') ∧ MemX (blkE t.res) w w' t'.res ∧ Tab g t' m' ∧ AddR t m a n via e' t' m' := by
  by_cases hc : chkZ a n = 0
  · obtain ⟨k, rfl, hok⟩ := okP_of ha hc
    cases hg : t.get (path a k) with
    | none =>
      by_cases hm : m = 64
      · refine (Add_full g m t a k via w hM0 hT ha hok hg hm).mono ?_
        rintro e w' ⟨rfl, h⟩
        exact ⟨9, t, m, rfl, h, hT, .inr ⟨k, rfl, hok, .inr (.inl ⟨hg, hm, rfl, rfl, rfl⟩)⟩⟩
      · have hm' : m < 64 := by have := hT.m64; omega
        refine (Add_ok g m t a k via w hM0 hT ha hok hg hm').mono ?_
        rintro e w' ⟨t', rfl, h, hT', hq⟩
        exact ⟨0, t', m + 1, rfl, h, hT', .inr ⟨k, rfl, hok, .inr (.inr ⟨hg, hm', rfl, rfl, hq⟩)⟩⟩
    | some v =>
      refine (Add_twice g m t a k via w hM0 hT ha hok (by rw [hg]; rfl)).mono ?_
      rintro e w' ⟨rfl, h⟩
      exact ⟨8, t, m, rfl, h, hT, .inr ⟨k, rfl, hok, .inl ⟨by rw [hg]; rfl, rfl, rfl, rfl⟩⟩⟩
  · refine (Add_chk g m t a n via w ha hn hc).mono ?_
    rintro e w' ⟨rfl, h⟩
    exact ⟨_, t, m, rfl, hM0.kept h, hT, .inl ⟨hc, rfl, rfl, rfl⟩⟩
theorem Drop_any (g m : Nat) (t : RT) (a : Nat) (n : Int) (w : World) (hM0 : MemX (blkE t.res) w w t.res) (hT : Tab g t m) (ha : a ≤ 4294967295) (hn : -9223372036854775808 ≤ n ∧ n ≤ 9223372036854775807) :
    Calls Try.prog 12 #[.pointer (some ⟨g, 0, none⟩), .agg #[.int .u32 a, .int .i64 n]] w fun e w' => ∃ e' t' m', e = .returned (.int .i64 e') ∧ MemX (blkE t.res) w w' t'.res ∧ Tab g t' m' ∧ DropR t m a n e' t' m' := by
  by_cases hc : chkZ a n = 0
  · obtain ⟨k, rfl, hok⟩ := okP_of ha hc
    cases hg : t.get (path a k) with
    | none =>
      refine (Drop_none g m t a k w hM0 hT ha hok hg).mono ?_
      rintro e w' ⟨rfl, h⟩
      exact ⟨7, t, m, rfl, h, hT, .inr ⟨k, rfl, hok, .inl ⟨hg, rfl, rfl, rfl⟩⟩⟩
    | some v =>
      refine (Drop_ok g m t a k w hM0 hT ha hok (by rw [hg]; rfl)).mono ?_
      rintro e w' ⟨t', rfl, h, hT', hm, hq⟩
      exact ⟨0, t', m - 1, rfl, h, hT', .inr ⟨k, rfl, hok, .inr ⟨by rw [hg]; rfl, rfl, hm, rfl, hq⟩⟩⟩
  · refine (Drop_chk g m t a n w ha hn hc).mono ?_
    rintro e w' ⟨rfl, h⟩
    exact ⟨_, t, m, rfl, hM0.kept h, hT, .inl ⟨hc, rfl, rfl, rfl⟩⟩
/-- the Prefix of a step -/
theorem step_pre {cs : List Value} (h : okAll ksStep cs) : ∃ (a : Nat) (n : Int), a ≤ 4294967295 ∧ (-9223372036854775808 ≤ n ∧ n ≤ 9223372036854775807) ∧ (cs.drop 5).take [Value.int .u32 a, .int .i64 n].length = [.int .u32 a, .int .i64 n] := by
  obtain ⟨v0, hv0, n0, rfl, a0, b0⟩ := okAll_at 5 h rfl
  obtain ⟨v1, hv1, n1, rfl, a1, b1⟩ := okAll_at 6 h rfl
  obtain ⟨a, rfl⟩ := Int.eq_ofNat_of_zero_le a0
  refine ⟨a, n1, ?_, ⟨a1, b1⟩, ?_⟩
  · have : (a : Int) ≤ 4294967295 := b0
    omega
  have hl := step_len h
  have hd : ∀ (i : Nat) (v : Value), cs[i]? = some v → cs.drop i = v :: cs.drop (i + 1) := fun i v hv => by
    have hi := (List.getElem?_eq_some_iff.1 hv).1
    rw [List.drop_eq_getElem_cons hi]
    rw [List.getElem?_eq_getElem hi] at hv
    rw [Option.some.inj hv]
  rw [hd 5 _ hv0, hd 6 _ hv1]
  rfl

set_option maxRecDepth 100000 in
set_option maxHeartbeats 8000000 in
theorem routes_any (A0 : Option Addr) (n0 c0 : Nat) (css0 : Nat → List Value) (w : World) (hR0 : Rows_ w A0 n0 ksStep css0) (hl0 : n0 ≤ 140737488351232) :
    Calls Try.prog 4 #[.slice A0 n0 c0] w fun e w' => ∃ (g m : Nat) (t : RT), e = .returned (.pointer (some ⟨g, 0, none⟩)) ∧ Mem w w' t.res ∧ Tab g t m ∧ (n0 = 0 → m = 0 ∧ ∀ q, t.get q = none) := by
  go_enter Try.func4, Try.ntmps4
  go_wp2_with fail
  refine (newroute_any _).mono ?_
  rintro e W1 ⟨g, rfl, hM⟩
  dsimp only
  have HA := Lib.hid (fun W => Add_chk g 0 (newT g) 0 33 0 W (by omega) (by omega) (by decide))
  rw [show chkZ ((0 : Nat) : Int) 33 = 1 by decide] at HA
  have HT0 := Lib.hid (newT_tab g)
  go_upto_region 5 with         (first
          | go_skip
          | (go_at_call 15; go_must (refine (HA.out _).mono ?_; rintro e W ⟨rfl, hb⟩; replace hM := hM.kept hb; clear hb))
          | ((with_reducible refine at_box_ ?_); refine wpList_box_mem rfl _ _ rfl _ rfl hM ?_; clear hM; intro gb W hM; first | (simp only [List.nil_append] at hM) | (simp only [List.cons_append, List.nil_append] at hM)))
  clear HA
  go_loopg [17] n0 (fun gh i wr => ∃ (k m : Nat) (t : RT), gh = n0 - k ∧ k ≤ n0 ∧ i = .int .i64 k ∧ Mem w wr t.res ∧ Hid (Tab g t m) ∧ Hid (k = 0 → m = 0 ∧ ∀ q, t.get q = none))
  case atStart => exact ⟨0, 0, newT g, by omega, by omega, rfl, hM, HT0, Lib.hid (fun _ => ⟨rfl, newT_get g⟩)⟩
  case round =>
    clear hM HT0
    obtain ⟨k, m, t, hgk, hk, rfl, hM, HT, HZ⟩ := hrel
    have HGK := Lib.hid hgk
    clear hgk
    by_cases hlt : k < n0
    · have hBk := hM.b
      obtain ⟨b, off, hA, hrg⟩ := hR0.at_ k hlt
      subst hA
      have hrg : wr.rangeAt b (off + k * 45) (css0 k) := range_kept hrg hBk
      have hokx := hR0.ok k hlt
      have hlen : (css0 k).length = 45 := okAll_len hokx
      have hone := all_oneCell_toArray (okAll_one hokx)
      have hi1 : (Try.prog.info? 56).map (·.size) = some (css0 k).length := by rw [hlen]; exact info_Step
      have hi2 : (Try.prog.info? 56).map (·.size) = some (css0 k).toArray.size := by rw [List.size_toArray]; exact hi1
      go_upto_region 7 with (first | (refine wpList_load_mid rfl 56 (.tmp 19) rfl b (off + k * 45) rfl (css0 k) _ hrg Try.underlying56 rfl hi1 ?_) | (refine wpList_store_mid rfl 56 (.tmp 5) (.tmp 20) rfl _ 0 (css0 k).toArray rfl rfl (there_new _ _ _ _ (by rw [List.size_toArray, hlen]; exact Nat.le_refl _)) hi2 hone ?_))
      refine wp_gen (fun W => MemX noE w W ((t.res) ++ [atR wr.heap.size 56 (css0 k)])) ?hgen ?_
      case hgen => (refine hM.boxed _ _ _ ?_; rw [hlen]; rfl)
      intro W2 hM2
      obtain ⟨kd, hkd, hkd1, hkd2⟩ := step_int hokx 0 rfl
      obtain ⟨xa, hxa, hxa1, hxa2⟩ := step_int hokx 1 rfl
      obtain ⟨a, n, ha, hn, hpre⟩ := step_pre hokx
      replace hM2 := res_back hM2
      go_wp2_with (refine wpList_load_mid rfl 56 (.tmp 5) rfl wr.heap.size 0 rfl (css0 k) _ (hM2.range 0 rfl) Try.underlying56 rfl hi1 ?_)
      refine (Of_any (css0 k) kd 4 _ hkd hkd1 hkd2 (by omega) (by omega)).mono ?_
      rintro e w4 ⟨rfl, hB4⟩
      have hM1 := hM2.kept hB4
      clear hM hM2 hB4 hBk
      have hM := hM1
      clear hM1
      generalize wr.heap.size = gx at *
      by_cases hd : kd % 4 = 0
      · rw [hd]
        have HD := Lib.hid (fun W h => Drop_any g m t a n W h HT.out ha hn)
        go_wp2_with         (first
          | go_skip
          | ((with_reducible refine at_load_ (T := 33) ?_); refine wpList_loads_mem (by go_simp) _ _ rfl 0 _ 5 _ _ [.int .u32 a, .int .i64 n] hM rfl rfl hpre _ Try.underlying33 rfl sz_Prefix ?_)
          | (go_at_call 12; refine (HD.out _ (res_front hM).hand).mono ?_; rintro e W ⟨e', t', m', rfl, hM6, hT', hR'⟩; replace hM := (res_front hM).back hM6; clear hM6; dsimp only)
          | ((with_reducible refine at_box_ ?_); refine wpList_box_mem rfl _ _ rfl _ rfl hM ?_; clear hM; intro gb W hM; first | (simp only [List.nil_append] at hM) | (simp only [List.cons_append, List.nil_append] at hM))
          | ((with_reducible refine at_load_ ?_); refine at_wanted_ (by rfl) ?_; refine wpList_loadf_mem (by go_simp) _ _ rfl (by kernel_rfl) 0 _ _ _ _ _ hM rfl rfl (by first | rfl | assumption) ?_)
          | ((with_reducible refine at_store_ ?_); refine wpList_store1_mem rfl _ _ _ rfl 0 _ _ _ _ _ hM rfl rfl (by first | ((conv => lhs; whnf); done) | ((conv => lhs; whnf); rfl)) (by rfl) (by rfl) (by kernel_rfl) rfl ?_; clear hM; intro W hM; simp only [List.set_cons_succ, List.set_cons_zero] at hM))
        have HT' := Lib.hid hT'
        have hM3 := keep_left hM
        clear hM hT' hR'
        go_roundg (n0 - (k + 1))
        case measure => have := HGK.out; omega
        case rel => exact ⟨k + 1, m', t', rfl, by omega, by go_num, hM3, HT', Lib.hid (fun h => by omega)⟩
      · have hdf : (kd % 4 == 0) = false := by simpa using hd
        have HA := Lib.hid (fun W h => Add_any g m t a n xa W h HT.out ha hn)
        clear hd
        go_wp2_with         (first
          | go_skip
          | ((with_reducible refine at_load_ (T := 33) ?_); refine wpList_loads_mem (by go_simp) _ _ rfl 0 _ 5 _ _ [.int .u32 a, .int .i64 n] hM rfl rfl hpre _ Try.underlying33 rfl sz_Prefix ?_)
          | (go_at_call 15; refine (HA.out _ (res_front hM).hand).mono ?_; rintro e W ⟨e', t', m', rfl, hM6, hT', hR'⟩; replace hM := (res_front hM).back hM6; clear hM6; dsimp only)
          | ((with_reducible refine at_box_ ?_); refine wpList_box_mem rfl _ _ rfl _ rfl hM ?_; clear hM; intro gb W hM; first | (simp only [List.nil_append] at hM) | (simp only [List.cons_append, List.nil_append] at hM))
          | ((with_reducible refine at_load_ ?_); refine at_wanted_ (by rfl) ?_; refine wpList_loadf_mem (by go_simp) _ _ rfl (by kernel_rfl) 0 _ _ _ _ _ hM rfl rfl (by first | rfl | assumption) ?_)
          | ((with_reducible refine at_store_ ?_); refine wpList_store1_mem rfl _ _ _ rfl 0 _ _ _ _ _ hM rfl rfl (by first | ((conv => lhs; whnf); done) | ((conv => lhs; whnf); rfl)) (by rfl) (by rfl) (by kernel_rfl) rfl ?_; clear hM; intro W hM; simp only [List.set_cons_succ, List.set_cons_zero] at hM))
        have HT' := Lib.hid hT'
        have hM3 := keep_left hM
        clear hM hT' hR'
        go_roundg (n0 - (k + 1))
        case measure => have := HGK.out; omega
        case rel => exact ⟨k + 1, m', t', rfl, by omega, by go_num, hM3, HT', Lib.hid (fun h => by omega)⟩
    · go_wp2_with fail
      go_ret
      have hkn : n0 = 0 → k = 0 := by omega
      exact ⟨g, m, t, rfl, hM, HT.out, fun h => HZ.out (hkn h)⟩

end Go.Proofs.Ytppjmhkecogbcaa
