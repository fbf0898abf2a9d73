/- What ConnStops needs, a part: CnR. -/
import Derived.Deep.CutBlock
import Derived.Test.YtfpifahkpkjfgaaMConnStops18
namespace Go.Proofs.Ytfpifahkpkjfgaa
open Go.RowKit Go.Lib
set_option linter.unusedVariables false
set_option linter.unusedSimpArgs false
def cNew (la lp ra rp iss mss : Int) : KCn := ⟨la, lp, ra, rp, 0, 0, newOQ, iss, 0, mss, mss, 0, 0, 0, ⟨false, 0, 0, 0⟩, 0, -1, 0, 0, 0, false, false, false, false, 0, 0, [], none⟩
def kNew (go gt : Nat) : KPt := ⟨go, gt, .slice none 0 0, .slice none 0 0, .pointer none, .pointer none⟩
theorem tm_push {E : Nat → Prop} {w0 W W' : World} {l : List Res} (h : MemX E w0 W l) (hT : TimerAt W' W.heap.size false 0 0 0) (hB : Below W.heap.size W W') : MemX E w0 W' (l ++ [tmR W.heap.size ⟨false, 0, 0, 0⟩]) :=
 h.push hB (atR_stab _ _ _) hT (fun g hg => (Option.some.inj (show some W.heap.size = some g from hg)) ▸ ⟨Nat.le_refl _, hT.lt⟩)
set_option maxRecDepth 100000 in
set_option maxHeartbeats 8000000 in
theorem fresh_any (la lp ra rp iss mss : Int) (w : World) :
  Calls Try.prog 35 #[.agg #[.int .u32 la, .int .i64 lp], .agg #[.int .u32 ra, .int .i64 rp], .int .u32 iss, .int .i64 mss] w fun e w' => ∃ gc go gt, e = .returned (.pointer (some ⟨gc, 0, none⟩)) ∧ Mem w w' (cnL gc 0 0 (cNew la lp ra rp iss mss) (kNew go gt) []) := by
 have hM := Mem.nil w
 go_enter Try.func35, Try.ntmps35
 go_upto_region 1 with (first | go_skip | ((with_reducible refine at_box_ ?_); refine wpList_box_mem rfl _ _ rfl _ rfl hM ?_; clear hM; intro gb W hM; first | (simp only [List.nil_append] at hM) | (simp only [List.cons_append, List.nil_append] at hM)))
 obtain ⟨g2, hg2⟩ : ∃ x, x = gb := ⟨_, rfl⟩
 subst hg2
 refine wp_region_M [0,1] [] hM (by kernel_rfl) ?_
 clear hM
 intro wo hM
 refine tL 0 (v := .agg #[.int .u32 la, .int .i64 lp]) rfl ⟨fun r hr => hM.get 0 hr, fun r hr => hM.get 1 hr, trivial⟩ (Or.inl ⟨by rfl, ?hy⟩) ?_
 case hy => (rintro W ⟨i0, i1, -⟩; have c0 := (show At W _ _ _ from i0 _ rfl).cell; have c1 := (show At W _ _ _ from i1 _ rfl).cell; exact exec_loadw _ _ rfl gb 0 rfl [.int .u32 la, .int .i64 lp] _ Try.underlying29 rfl sz_End (range_cells c0))
 simp only [zz]
 refine tL 1 (v := .agg #[.int .u32 ra, .int .i64 rp]) rfl ⟨fun r hr => hM.get 0 hr, fun r hr => hM.get 1 hr, trivial⟩ (Or.inl ⟨by rfl, ?hy⟩) ?_
 case hy => (rintro W ⟨i0, i1, -⟩; have c0 := (show At W _ _ _ from i0 _ rfl).cell; have c1 := (show At W _ _ _ from i1 _ rfl).cell; exact exec_loadw _ _ rfl g2 0 rfl [.int .u32 ra, .int .i64 rp] _ Try.underlying29 rfl sz_End (range_cells c1))
 simp only [zz]
 refine tW 2 rfl ?_
 simp only [zz]
 refine tW 3 rfl ?_
 simp only [zz]
 refine tW 4 rfl ?_
 simp only [zz]
 refine wpI_one (i := 5) rfl (by kernel_rfl) ?_
 (try simp only [zz])
 go_wp2_with (first
   | go_skip
   | (go_at_call 60; refine (newq_any _).mono ?_; rintro e W2 ⟨go, rfl, hN⟩; replace hM := MemX.perm (hM.new_ hN) List.perm_append_comm; clear hN; simp only [List.cons_append, List.nil_append] at hM; dsimp only)
   | (go_at_call 61; refine (rtoNew_any _).mono ?_; rintro e W3 ⟨rfl, hT, hB⟩; replace hM := tm_push hM hT hB; clear hT hB; simp only [List.cons_append, List.nil_append] at hM; dsimp only))
 refine contI_normal ⟨fun r hr => hM.get 0 hr, fun r hr => hM.get 1 hr, trivial⟩ ?_
 (try simp only [zz])
 refine wpI_one (i := 6) rfl (by kernel_rfl) ?_
 (try simp only [zz])
 go_wp2_with (first
   | go_skip
   | (go_at_call 60; refine (newq_any _).mono ?_; rintro e W2 ⟨go, rfl, hN⟩; replace hM := MemX.perm (hM.new_ hN) List.perm_append_comm; clear hN; simp only [List.cons_append, List.nil_append] at hM; dsimp only)
   | (go_at_call 61; refine (rtoNew_any _).mono ?_; rintro e W3 ⟨rfl, hT, hB⟩; replace hM := tm_push hM hT hB; clear hT hB; simp only [List.cons_append, List.nil_append] at hM; dsimp only))
 refine contI_normal ⟨fun r hr => hM.get 0 hr, fun r hr => hM.get 1 hr, trivial⟩ ?_
 (try simp only [zz])
 refine tW 7 rfl ?_
 simp only [zz]
 refine wpI_one (i := 8) rfl (by kernel_rfl) ?_
 (try simp only [zz])
 go_wp2_with (first
   | go_skip
   | ((with_reducible refine at_box_ ?_); refine wpList_box_mem rfl _ _ rfl _ rfl hM ?_; clear hM; intro gc W hM; simp only [List.cons_append, List.nil_append] at hM)
   | ((with_reducible refine at_box_ ?_); refine wpList_box_mem rfl _ _ rfl _ rfl hM ?_; clear hM; intro gb W hM; first | (simp only [List.nil_append] at hM) | (simp only [List.cons_append, List.nil_append] at hM)))
 refine contI_normal ⟨fun r hr => hM.get 0 hr, fun r hr => hM.get 1 hr, trivial⟩ ?_
 (try simp only [zz])
 refine tW 9 rfl ?_
 simp only [zz]
 refine wpI_done (by kernel_rfl) ?_ _
 (try simp only [zz])
 have hM2 : Mem w W ([_, _] ++ [oqA go newOQ (.slice none 0 0), oqB newOQ (.slice none 0 0), tmR W2.heap.size ⟨false, 0, 0, 0⟩, cnA gc (cNew la lp ra rp iss mss) (kNew go W2.heap.size)]) := hM
 have hM3 := (hM2.drop_.rowNil 1 fU32).perm (((List.Perm.swap _ _ _).cons _).cons _ : List.Perm _ [oqA go newOQ (.slice none 0 0), oqB newOQ (.slice none 0 0), cnA gc (cNew la lp ra rp iss mss) (kNew go W2.heap.size), tmR W2.heap.size ⟨false, 0, 0, 0⟩, rsR (.slice none 0 0) []])
 clear hM hM2
 go_wp2_with fail
 go_ret
 exact ⟨gc, go, W2.heap.size, rfl, hM3⟩
set_option maxRecDepth 100000 in
set_option maxHeartbeats 8000000 in
theorem cnisPort_ok (x : Int) (w : World) (h1 : 1 ≤ x) (h2 : x ≤ 65535) : Calls Try.prog 33 #[.int .i64 x] w fun e w' => e = .returned (.bool true) ∧ w = w' := by
 have t1 : decide (0 < x) = true := decide_eq_true (by omega)
 have t2 : decide (x ≤ 65535) = true := decide_eq_true h2
 clear h1 h2
 go_enter Try.func33, Try.ntmps33
 go_wp2_with fail
 go_ret
 exact ⟨rfl, rfl⟩
set_option maxRecDepth 100000 in
set_option maxHeartbeats 8000000 in
theorem cnisMss_ok (x : Int) (w : World) (h1 : 8 ≤ x) (h2 : x ≤ 1000) : Calls Try.prog 34 #[.int .i64 x] w fun e w' => e = .returned (.bool true) ∧ w = w' := by
 have t1 : decide (8 ≤ x) = true := decide_eq_true (by omega)
 have t2 : decide (x ≤ 1000) = true := decide_eq_true h2
 clear h1 h2
 go_enter Try.func34, Try.ntmps34
 go_wp2_with fail
 go_ret
 exact ⟨rfl, rfl⟩
set_option maxRecDepth 100000 in
set_option maxHeartbeats 8000000 in
theorem State_any (gc : Nat) (c : KCn) (k : KPt) (w : World) (hA : At w gc 85 (cnC c k)) : Calls Try.prog 16 #[.pointer (some ⟨gc, 0, none⟩)] w fun e w' => e = .returned (.int .i64 c.st) ∧ w = w' := by
 have hc := hA.cell
 have hlt := hA.lt
 simp only [cnC] at hc
 go_enter Try.func16, Try.ntmps16
 go_wp2_with fail
 go_ret
 exact ⟨rfl, rfl⟩
set_option maxRecDepth 100000 in
set_option maxHeartbeats 8000000 in
theorem Why_any (gc : Nat) (c : KCn) (k : KPt) (w : World) (hA : At w gc 85 (cnC c k)) : Calls Try.prog 17 #[.pointer (some ⟨gc, 0, none⟩)] w fun e w' => e = .returned (.int .i64 c.why) ∧ w = w' := by
 have hc := hA.cell
 have hlt := hA.lt
 simp only [cnC] at hc
 go_enter Try.func17, Try.ntmps17
 go_wp2_with fail
 go_ret
 exact ⟨rfl, rfl⟩
set_option maxRecDepth 100000 in
set_option maxHeartbeats 8000000 in
theorem Dial_ok (la lp ra rp iss mss : Int) (w : World) (h1 : 1 ≤ lp ∧ lp ≤ 65535) (h2 : 1 ≤ rp ∧ rp ≤ 65535) (h3 : 8 ≤ mss ∧ mss ≤ 1000) :
  Calls Try.prog 14 #[.agg #[.int .u32 la, .int .i64 lp], .agg #[.int .u32 ra, .int .i64 rp], .int .u32 iss, .int .i64 mss] w fun e w' => ∃ gc go gt, e = .returned (.tuple #[.pointer (some ⟨gc, 0, none⟩), .int .i64 0]) ∧ Mem w w' (cnL gc 0 0 { cNew la lp ra rp iss mss with st := 1 } (kNew go gt) []) := by
 have hM := Mem.nil w
 have HA := Lib.hid (fun W => cnisPort_ok lp W h1.1 h1.2)
 have HB := Lib.hid (fun W => cnisPort_ok rp W h2.1 h2.2)
 have HC := Lib.hid (fun W => cnisMss_ok mss W h3.1 h3.2)
 clear h1 h2 h3
 go_enter Try.func14, Try.ntmps14
 go_wp2_with (first
  | go_skip
  | ((with_reducible refine at_box_ ?_); refine wpList_box_mem rfl _ _ rfl _ rfl hM ?_; clear hM; intro gb W hM; first | (simp only [List.nil_append] at hM) | (simp only [List.cons_append, List.nil_append] at hM))
  | ((with_reducible refine at_load_ (T := 29) ?_); first | (refine wpList_loadg_mem (by go_simp) 29 _ rfl 0 _ _ [.int .u32 la, .int .i64 lp] hM rfl rfl _ Try.underlying29 rfl sz_End ?_) | (refine wpList_loadg_mem (by go_simp) 29 _ rfl 1 _ _ [.int .u32 ra, .int .i64 rp] hM rfl rfl _ Try.underlying29 rfl sz_End ?_))
  | ((with_reducible refine at_load_ ?_); refine at_wanted_ (by rfl) ?_; first | (refine lM 0 hM rfl rfl rfl rfl ?_) | (refine lM 1 hM rfl rfl rfl rfl ?_))
  | (go_at_call 33; first | ((with_reducible refine (HA.out _).mono ?_); rintro e W ⟨rfl, rfl⟩) | ((with_reducible refine (HB.out _).mono ?_); rintro e W ⟨rfl, rfl⟩))
  | (go_at_call 34; refine (HC.out _).mono ?_; rintro e W ⟨rfl, rfl⟩)
  | (go_at_call 35; refine (fresh_any _ _ _ _ _ _ _).mono ?_; rintro e W ⟨gc, go, gt, rfl, hN⟩; replace hM := hM.new_ hN; clear hN; dsimp only)
  | ((with_reducible refine at_store_ ?_); first | (refine sM 2 hM rfl rfl rfl ?_; clear hM; intro W hM; simp only [zF, zE, cnA, cn4, cn5, cn7, cn9, cn11, cn12, cn13, cn14, cn16, cn17, cn18, cn19, cn20, cn21, cn22, cn23, cn24, cn25, cn26, cn27, cn28] at hM)))
 have hM2 : Mem w W ([_, _] ++ cnL gc 0 0 { cNew la lp ra rp iss mss with st := 1 } (kNew go gt) []) := MemX.perm (show Mem w W (cnL gc 0 0 { cNew la lp ra rp iss mss with st := 1 } (kNew go gt) [] ++ [_, _]) from hM) List.perm_append_comm
 go_ret2
 exact ⟨gc, go, gt, rfl, hM2.drop_⟩
end Go.Proofs.Ytfpifahkpkjfgaa
