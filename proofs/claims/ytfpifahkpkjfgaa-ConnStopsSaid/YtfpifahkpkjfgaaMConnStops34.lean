/- What ConnStops needs, a part: CnPb, CnPc, CnQp. -/
import Derived.Deep.CutBlock
import Derived.Test.YtfpifahkpkjfgaaMConnStops33
namespace Go.Proofs.Ytfpifahkpkjfgaa
open Go.RowKit Go.Lib
set_option linter.unusedVariables false
set_option linter.unusedSimpArgs false
theorem cn_front {E : Nat → Prop} {w W : World} {gc gi gw : Nat} {c : KCn} {k : KPt} {A : List Res} (h : MemX E w W (A ++ cnL gc gi gw c k [])) : MemX E w W (cnL gc gi gw c k A) := by
 rw [cnL_eq, List.append_nil] at h
 rw [cnL_eq]
 exact h.perm List.perm_append_comm
theorem row_one {E : Nat → Prop} {w W : World} {v : Value} {g : KSeg} {m : List Res} (h : MemX E w W (rowR 13 cSeg v [g] :: m)) : ∃ b off q, v = .slice (some ⟨b, off, none⟩) 1 q := by
 obtain ⟨g', off', cap', e, _⟩ := (h.row (f := cSeg) (rs := [g]) 0 rfl).pos (by show 0 < 1; decide)
 exact ⟨g', off', cap', e⟩
theorem pr_make {E : Nat → Prop} {w W : World} {A B : List Res} {r g p n : Res} (h : MemX E w W ((r :: ((A ++ [g, p]) ++ B)) ++ [n])) : MemX E w W (p :: n :: (A ++ (B ++ []))) := by
 have h2 : MemX E w W ([r, g] ++ (p :: n :: (A ++ (B ++ [])))) := by
  refine h.perm ?_
  simp only [List.cons_append, List.append_assoc, List.nil_append, List.append_nil]
  refine List.Perm.cons r ?_
  refine (List.perm_middle).trans (List.Perm.cons g ?_)
  refine (List.perm_middle).trans (List.Perm.cons p ?_)
  rw [← List.append_assoc]
  exact List.perm_append_comm (l₂ := [n])
 exact h2.drop_
instance (n : Int) : Decidable (okP n) := by unfold okP; infer_instance
def pa0 : KPa := ⟨[], ⟨#[]⟩, ⟨#[]⟩, ⟨#[]⟩, ⟨#[]⟩, false, false, false, false, 0, 0, false, false, false⟩
def prC0 : List Value := [.pointer none, .pointer none, .int .u32 1, .int .i64 40000, .int .u32 2, .int .i64 80, .slice none 0 0, .string ⟨#[]⟩, .string ⟨#[]⟩, .string ⟨#[]⟩, .string ⟨#[]⟩, .bool false, .bool false, .bool false, .bool false, .int .u32 0, .int .u32 0, .bool false, .bool false, .bool false]
def pr0 (iss irs ma mb : Int) : KPr := ⟨cA1 1 40000 2 80 iss ma, cTake 2 80 (gSyn 1 40000 2 80 iss ma) irs mb, pa0⟩
def KPl.ok (l : KPl) (x : KPr) : Prop := KOk l.ka l.gia l.gwa x.a.h ∧ KOk l.kb l.gib l.gwb x.b.h
theorem syn_ok {la lp ra rp iss mss : Int} (h1 : 0 ≤ la ∧ la ≤ 4294967295) (h2 : okP lp) (h3 : 0 ≤ ra ∧ ra ≤ 4294967295) (h4 : okP rp) (hi : 0 ≤ iss ∧ iss ≤ 4294967295) (hm : 8 ≤ mss ∧ mss ≤ 1000) : SegOk (gSyn la lp ra rp iss mss) := by
 unfold okP at h2 h4
 refine ⟨h1, ⟨?_, ?_⟩, h3, ⟨?_, ?_⟩, hi, ?_, ?_, ⟨?_, ?_⟩, ?_⟩ <;> simp only [gSyn] <;> first | omega | decide
theorem dial_cok {la lp ra rp iss mss : Int} (hm : 8 ≤ mss ∧ mss ≤ 1000) (hi : 0 ≤ iss ∧ iss ≤ 4294967295) : COk { cNew la lp ra rp iss mss with st := 1 } := (CI.begin la lp ra rp iss mss hi hm).cok (by decide)
set_option maxRecDepth 100000 in
set_option maxHeartbeats 8000000 in
theorem paired_any (iss irs a b : Int) (w : World) (hi : 0 ≤ iss) (hi' : iss ≤ 4294967295) (hj : 0 ≤ irs) (hj' : irs ≤ 4294967295) (ha : -9223372036854775808 ≤ a) (ha' : a ≤ 9223372036854775807) (hb : -9223372036854775808 ≤ b) (hb' : b ≤ 9223372036854775807) :
  Calls Try.prog 20 #[.int .u32 iss, .int .u32 irs, .agg #[.int .i64 a, .int .i64 b]] w fun e w' => ∃ l : KPl, e = .returned (.tuple #[.pointer (some ⟨l.gp, 0, none⟩), .bool true]) ∧ Mem w w' (prM l (pr0 iss irs (8 + a % 993) (8 + b % 993)) []) ∧ l.ok (pr0 iss irs (8 + a % 993) (8 + b % 993)) := by
 have hM := Mem.nil w
 have HRA := Lib.hid (fun W => Rest_any a 993 W ha ha' (by decide) (by decide))
 have HRB := Lib.hid (fun W => Rest_any b 993 W hb hb' (by decide) (by decide))
 obtain ⟨ra, hra⟩ : ∃ z, z = a % 993 := ⟨_, rfl⟩
 obtain ⟨rb, hrb⟩ : ∃ z, z = b % 993 := ⟨_, rfl⟩
 have hza : 0 ≤ ra ∧ ra ≤ 992 := by omega
 have hzb : 0 ≤ rb ∧ rb ≤ 992 := by omega
 rw [← hra] at HRA ⊢
 rw [← hrb] at HRB ⊢
 obtain ⟨ma, hma⟩ : ∃ z, z = 8 + ra := ⟨_, rfl⟩
 obtain ⟨mb, hmb⟩ : ∃ z, z = 8 + rb := ⟨_, rfl⟩
 have HA := Lib.hid (show 8 ≤ ma ∧ ma ≤ 1000 by omega)
 have HB := Lib.hid (show 8 ≤ mb ∧ mb ≤ 1000 by omega)
 have HMA := Lib.hid (show 0 ≤ ra ∧ ra ≤ 992 ∧ 8 + ra = ma by omega)
 have HMB := Lib.hid (show 0 ≤ rb ∧ rb ≤ 992 ∧ 8 + rb = mb by omega)
 rw [← hma, ← hmb]
 have HI := Lib.hid (show 0 ≤ iss ∧ iss ≤ 4294967295 from ⟨hi, hi'⟩)
 have HJ := Lib.hid (show 0 ≤ irs ∧ irs ≤ 4294967295 from ⟨hj, hj'⟩)
 have HDI := Lib.hid (fun W => Dial_ok 1 40000 2 80 iss ma W (by decide) (by decide) HA.out)
 have HTA := Lib.hid (fun W => Take_ok 2 80 (gSyn 1 40000 2 80 iss ma) irs mb W (by decide) HB.out (chk_syn (by decide) (by decide) HA.out) ⟨rfl, rfl⟩ rfl rfl (syn_ok (by decide) (by decide) (by decide) (by decide) HI.out HA.out))
 have HOU := Lib.hid (fun (W : World) (go gt gc : Nat) (M : List Res) (h : MemX noE w W (cnL gc 0 0 { cNew 1 40000 2 80 iss ma with st := 1 } (kNew go gt) M)) => (by
  have h2 := out_all gc 0 0 { cNew 1 40000 2 80 iss ma with st := 1 } (kNew go gt) M W h ⟨rfl, rfl⟩ (dial_cok HA.out HI.out) (Nat.zero_le _) (fun n hn => by cases hn)
  rw [out_dial HI.out HA.out.1] at h2
  exact h2 : Calls Try.prog 15 #[.pointer (some ⟨gc, 0, none⟩)] W fun e w' => ∃ v k', e = .returned v ∧ MemX noE w w' (rowR 13 cSeg v [gSyn 1 40000 2 80 iss ma] :: cnL gc 0 0 (cA1 1 40000 2 80 iss ma) k' M) ∧ KOk k' 0 0 (cA1 1 40000 2 80 iss ma).h))
 clear hra hrb hma hmb hza hzb ha ha' hb hb' hi hi' hj hj'
 have tii : ((gSyn 1 40000 2 80 iss ma).seq != iss) = false := by simp [gSyn]
 go_enter Try.func20, Try.ntmps20
 go_upto_region 1 with (first | go_skip | ((with_reducible refine at_box_ ?_); refine wpList_box_mem rfl _ _ rfl [.int .i64 a, .int .i64 b] rfl hM ?_; clear hM; intro gb W hM; first | (simp only [List.nil_append] at hM) | (simp only [List.cons_append, List.nil_append] at hM)))
 obtain ⟨gm, hgm⟩ : ∃ x, x = gb := ⟨_, rfl⟩
 subst hgm
 go_upto_region 2 with (first | go_skip | ((with_reducible refine at_box_ ?_); refine wpList_box_mem rfl _ _ rfl prC0 rfl hM ?_; clear hM; intro gb W hM; first | (simp only [List.nil_append] at hM) | (simp only [List.cons_append, List.nil_append] at hM)))
 obtain ⟨gp, hgp⟩ : ∃ x, x = gb := ⟨_, rfl⟩
 subst hgp
 (go_wp2_with fail)
 go_loopg [19] 2 (fun gh v wr => ∃ t x y : Int, gh = (2 - t).toNat ∧ v = .int .i64 t ∧ ((t = 0 ∧ a = x ∧ b = y) ∨ (t = 1 ∧ ma = x ∧ b = y) ∨ (t = 2 ∧ ma = x ∧ mb = y)) ∧ Mem w wr [atR gm 43 [.int .i64 x, .int .i64 y], atR gp 51 prC0])
 case atStart => exact ⟨0, a, b, rfl, rfl, .inl ⟨rfl, rfl, rfl⟩, hM⟩
 case round =>
  clear hM
  obtain ⟨t, x, y, hgh, rfl, ht3, hM⟩ := hrel
  have HGH := Lib.hid hgh
  clear hgh
  rcases ht3 with ⟨rfl, rfl, rfl⟩ | ⟨rfl, rfl, rfl⟩ | ⟨rfl, rfl, rfl⟩
  ·have hz := HMA.out
   obtain ⟨hz1, hz2, hz3⟩ := hz
   go_wp2_with (first | go_skip | ((with_reducible refine at_load_ ?_); refine at_wanted_ (by rfl) ?_; first | (refine lM 0 hM rfl rfl rfl rfl ?_)) | (go_at_call 13; refine (HRA.out _).mono ?_; rintro e W ⟨rfl, rfl⟩; dsimp only) | ((with_reducible refine at_store_ ?_); refine sM 0 hM rfl rfl rfl ?_; clear hM; intro W hM; simp only [zF, zE] at hM))
   go_roundg 1
   case measure => have h := HGH.out; omega
   case rel => exact ⟨1, _, _, rfl, rfl, .inr (.inl ⟨rfl, rfl, rfl⟩), hM⟩
  ·have hz := HMB.out
   obtain ⟨hz1, hz2, hz3⟩ := hz
   go_wp2_with (first | go_skip | ((with_reducible refine at_load_ ?_); refine at_wanted_ (by rfl) ?_; first | (refine lM 0 hM rfl rfl rfl rfl ?_)) | (go_at_call 13; refine (HRB.out _).mono ?_; rintro e W ⟨rfl, rfl⟩; dsimp only) | ((with_reducible refine at_store_ ?_); refine sM 0 hM rfl rfl rfl ?_; clear hM; intro W hM; simp only [zF, zE] at hM))
   go_roundg 0
   case measure => have h := HGH.out; omega
   case rel => exact ⟨2, _, _, rfl, rfl, .inr (.inr ⟨rfl, rfl, rfl⟩), hM⟩
  ·go_upto_region 7 with (fail)
   refine wp_region_M [0,1] [] hM (by kernel_rfl) ?_
   clear hM
   intro wo hM
   refine tW 0 rfl ?_
   simp only [zz]
   refine tW 1 rfl ?_
   simp only [zz]
   refine tW 2 rfl ?_
   simp only [zz]
   refine tW 3 rfl ?_
   simp only [zz]
   refine tL 4 (v := .agg #[.int .u32 1, .int .i64 40000]) rfl ⟨fun r hr => hM.get 0 hr, fun r hr => hM.get 1 hr, trivial⟩ (Or.inl ⟨by rfl, ?hy⟩) ?_
   case hy => (rintro W ⟨i0, i1, -⟩; have c0 := (show At W _ _ _ from i0 _ rfl).cell; have c1 := (show At W _ _ _ from i1 _ rfl).cell; (try simp only [prC0] at c0 c1); exact exec_loadw _ _ rfl gp 2 rfl [.int .u32 1, .int .i64 40000] _ Try.underlying29 rfl sz_End (range_sub (cs := prC0) c1 2 _ rfl))
   simp only [zz]
   refine tW 5 rfl ?_
   simp only [zz]
   refine tW 6 rfl ?_
   simp only [zz]
   refine tW 7 rfl ?_
   simp only [zz]
   refine tW 8 rfl ?_
   simp only [zz]
   refine tL 9 (v := .agg #[.int .u32 2, .int .i64 80]) rfl ⟨fun r hr => hM.get 0 hr, fun r hr => hM.get 1 hr, trivial⟩ (Or.inl ⟨by rfl, ?hy⟩) ?_
   case hy => (rintro W ⟨i0, i1, -⟩; have c0 := (show At W _ _ _ from i0 _ rfl).cell; have c1 := (show At W _ _ _ from i1 _ rfl).cell; (try simp only [prC0] at c0 c1); exact exec_loadw _ _ rfl gp 4 rfl [.int .u32 2, .int .i64 80] _ Try.underlying29 rfl sz_End (range_sub (cs := prC0) c1 4 _ rfl))
   simp only [zz]
   refine tW 10 rfl ?_
   simp only [zz]
   refine tW 11 rfl ?_
   simp only [zz]
   refine tL 12 (v := ?_) rfl ⟨fun r hr => hM.get 0 hr, fun r hr => hM.get 1 hr, trivial⟩ (Or.inl ⟨by rfl, ?hy⟩) ?_
   case hy => (rintro W ⟨i0, i1, -⟩; have c0 := (show At W _ _ _ from i0 _ rfl).cell; have c1 := (show At W _ _ _ from i1 _ rfl).cell; (try simp only [prC0] at c0 c1); go_simp; (try with_reducible rfl))
   simp only [zz]
   refine wpI_one (i := 13) rfl (by kernel_rfl) ?_
   (try simp only [zz])
   go_wp2_with (first
     | go_skip
     | ((go_at_call 14; refine (HDI.out _).mono ?_; rintro e W ⟨ga, go, gt, rfl, hN⟩; replace hM := MemX.perm (hM.new_ hN) List.perm_append_comm; clear hN; simp only [List.cons_append, List.nil_append] at hM; dsimp only)))
   refine contI_normal ⟨fun r hr => hM.get 0 hr, fun r hr => hM.get 1 hr, trivial⟩ ?_
   (try simp only [zz])
   refine tW 14 rfl ?_
   simp only [zz]
   refine tW 15 rfl ?_
   simp only [zz]
   refine tW 16 rfl ?_
   simp only [zz]
   refine tW 17 rfl ?_
   simp only [zz]
   refine tW 18 rfl ?_
   simp only [zz]
   refine wpI_done (by kernel_rfl) ?_ _
   (try simp only [zz])
   replace hM := cn_front (A := [_, _]) hM
   go_upto_region 11 with (first | go_skip | (go_at_call 15; refine (HOU.out _ go gt ga _ hM).mono ?_; clear hM; rintro e W ⟨v, ka, rfl, hM, hK⟩; have HKA := Lib.hid hK; clear hK; obtain ⟨gr, off, q, rfl⟩ := row_one hM; dsimp only))
   go_upto_region 13 with (first | go_skip | ((with_reducible refine at_load_ ?_); refine at_wanted_ (by rfl) ?_; first | (refine wpList_loadrf (by go_simp) _ _ rfl (by kernel_rfl) 0 0 6 (gSyn 1 40000 2 80 iss ma) _ hM rfl (fun _ _ => rfl) rfl rfl (by first  | rfl) ?_) | (refine wpList_loadrf (by go_simp) _ _ rfl (by kernel_rfl) 0 0 7 (gSyn 1 40000 2 80 iss ma) _ hM rfl (fun _ _ => rfl) rfl rfl (by first  | rfl) ?_) | (refine wpList_loadrf (by go_simp) _ _ rfl (by kernel_rfl) 0 0 4 (gSyn 1 40000 2 80 iss ma) _ hM rfl (fun _ _ => rfl) rfl rfl (by first  | rfl) ?_)))
   have HW0 := Lib.hid (fun (W : World) (h : (rowR 13 cSeg (.slice (some ⟨gr, off, none⟩) 1 q) [gSyn 1 40000 2 80 iss ma]).P W) => h)
   refine wp_region_M [0,6,7] [] hM (by kernel_rfl) ?_
   clear hM
   intro wo hM
   refine tW 0 rfl ?_
   simp only [zz]
   refine tW 1 rfl ?_
   simp only [zz]
   refine tW 2 rfl ?_
   simp only [zz]
   refine tW 3 rfl ?_
   simp only [zz]
   refine tL 4 (v := .agg #[.int .u32 2, .int .i64 80]) rfl ⟨fun r hr => hM.get 0 hr, fun r hr => hM.get 6 hr, fun r hr => hM.get 7 hr, trivial⟩ (Or.inl ⟨by rfl, ?hy⟩) ?_
   case hy => (rintro W ⟨i0, i6, i7, -⟩; have c0 := HW0.out W (i0 _ rfl); have c6 := (show At W _ _ _ from i6 _ rfl).cell; have c7 := (show At W _ _ _ from i7 _ rfl).cell; (try simp only [prC0] at c6 c7); exact exec_loadw _ _ rfl gp 4 rfl [.int .u32 2, .int .i64 80] _ Try.underlying29 rfl sz_End (range_sub (cs := prC0) c7 4 _ rfl))
   simp only [zz]
   refine tW 5 rfl ?_
   simp only [zz]
   refine tW 6 rfl ?_
   simp only [zz]
   refine tL 7 (v := .agg (cSeg (gSyn 1 40000 2 80 iss ma)).toArray) rfl ⟨fun r hr => hM.get 0 hr, fun r hr => hM.get 6 hr, fun r hr => hM.get 7 hr, trivial⟩ (Or.inl ⟨by rfl, ?hy⟩) ?_
   case hy => (rintro W ⟨i0, i6, i7, -⟩; have c0 := HW0.out W (i0 _ rfl); have c6 := (show At W _ _ _ from i6 _ rfl).cell; have c7 := (show At W _ _ _ from i7 _ rfl).cell; (try simp only [prC0] at c6 c7); exact exec_loadw _ _ rfl gr (off + 0 * 13) rfl (cSeg (gSyn 1 40000 2 80 iss ma)) _ Try.underlying33 rfl sz_Seg (row_range (f := cSeg) (size := 13) (rs := [gSyn 1 40000 2 80 iss ma]) (fun _ => rfl) (i0 _ rfl) 0 _ rfl))
   simp only [zz]
   refine tW 8 rfl ?_
   simp only [zz]
   refine tW 9 rfl ?_
   simp only [zz]
   refine tL 10 (v := ?_) rfl ⟨fun r hr => hM.get 0 hr, fun r hr => hM.get 6 hr, fun r hr => hM.get 7 hr, trivial⟩ (Or.inl ⟨by rfl, ?hy⟩) ?_
   case hy => (rintro W ⟨i0, i6, i7, -⟩; have c0 := HW0.out W (i0 _ rfl); have c6 := (show At W _ _ _ from i6 _ rfl).cell; have c7 := (show At W _ _ _ from i7 _ rfl).cell; (try simp only [prC0] at c6 c7); go_simp; (try with_reducible rfl))
   simp only [zz]
   refine wpI_one (i := 11) rfl (by kernel_rfl) ?_
   (try simp only [zz])
   go_wp2_with (first
     | go_skip
     | ((go_at_call 50; refine (HTA.out _).mono ?_; rintro e W ⟨gb, gib, gwb, kb, rfl, hN, hK⟩; have HKB := Lib.hid hK; clear hK; replace hM := MemX.perm (hM.new_ hN) List.perm_append_comm; clear hN; simp only [List.cons_append, List.nil_append] at hM; dsimp only)))
   refine contI_normal ⟨fun r hr => hM.get 0 hr, fun r hr => hM.get 6 hr, fun r hr => hM.get 7 hr, trivial⟩ ?_
   (try simp only [zz])
   refine tW 12 rfl ?_
   simp only [zz]
   refine tW 13 rfl ?_
   simp only [zz]
   refine tW 14 rfl ?_
   simp only [zz]
   refine tW 15 rfl ?_
   simp only [zz]
   refine tW 16 rfl ?_
   simp only [zz]
   refine wpI_done (by kernel_rfl) ?_ _
   (try simp only [zz])
   go_wp2_with (first | go_skip | ((with_reducible refine at_store_ ?_); refine wpList_store2_mem rfl _ _ _ rfl 7 _ _ _ 0 _ _ hM rfl rfl rfl rfl rfl (by kernel_rfl) (by decide) ?_; clear hM; intro W hM))
   go_ret2
   refine ⟨⟨gp, ga, 0, 0, ka, gb, gib, gwb, kb, .slice none 0 0⟩, rfl, ?_, HKA.out, HKB.out⟩
   have hM2 : Mem w W ((rowR 13 cSeg (.slice (some ⟨gr, off, none⟩) 1 q) [gSyn 1 40000 2 80 iss ma] :: ((cnH ga 0 0 (cA1 1 40000 2 80 iss ma) ka ++ [atR gm 43 [.int .i64 ma, .int .i64 mb], prR gp ga gb (.slice none 0 0) pa0]) ++ cnH gb gib gwb (cTake 2 80 (gSyn 1 40000 2 80 iss ma) irs mb) kb)) ++ [rowR 13 cSeg (.slice none 0 0) []]) := by
    rw [← List.append_nil (cnH gb gib gwb (cTake 2 80 (gSyn 1 40000 2 80 iss ma) irs mb) kb)]
    exact MemX.rowNil hM 13 cSeg
   exact pr_make hM2
set_option linter.unusedSectionVars false
section
variable {E : Nat → Prop} {w W : World} {gc gi gw : Nat} {c : KCn} {k : KPt}
theorem cn_at {F m : List Res} (h : MemX E w W (F ++ (cnH gc gi gw c k ++ m))) : MemX E w W (cnL gc gi gw c k (F ++ m)) := by
 rw [cnL_eq]
 exact h.perm (List.perm_append_comm_assoc F (cnH gc gi gw c k) m)
theorem cn_un {F m : List Res} (h : MemX E w W (cnL gc gi gw c k (F ++ m))) : MemX E w W (F ++ (cnH gc gi gw c k ++ m)) := by
 rw [cnL_eq] at h
 exact h.perm (List.perm_append_comm_assoc (cnH gc gi gw c k) F m)
theorem outF (F m : List Res) {t : Int} (h : MemX E w W (F ++ (cnH gc gi gw c k ++ m))) (hk : KOk k gi gw c.h) (hc : CI c t) (ht : t ≤ 1000000000000) :
  Calls Try.prog 15 #[.pointer (some ⟨gc, 0, none⟩)] W fun e W' => ∃ v k', e = .returned v ∧ MemX E w W' (rowR 13 cSeg v (cOut c).2 :: (F ++ (cnH gc gi gw (cOut c).1 k' ++ m))) ∧ KOk k' gi gw (cOut c).1.h := by
 refine (out_all gc gi gw c k (F ++ m) W (cn_at h) hk (hc.cok (by omega)) (by have := hc.rsl; omega) hc.rsu).mono ?_
 rintro e W' ⟨v, k', rfl, h2, hk'⟩
 have h3 : MemX E w W' (cnL gc gi gw (cOut c).1 k' ((rowR 13 cSeg v (cOut c).2 :: F) ++ m)) := by
  rw [cnL_eq] at h2 ⊢
  exact h2.perm (List.perm_middle (l₁ := cnH gc gi gw (cOut c).1 k')).symm
 exact ⟨v, k', rfl, cn_un h3, hk'⟩
theorem inF (F m : List Res) {t : Int} (h : MemX E w W (F ++ (cnH gc gi gw c k ++ m))) (hk : KOk k gi gw c.h) (hc : CI c t) (ht : t ≤ 1000000000000) (g : KSeg) (hg : SegOk g) :
  Calls Try.prog 19 #[.pointer (some ⟨gc, 0, none⟩), .agg (cSeg g).toArray] W fun e W' => ∃ gi' gw' k', e = .returned (.int .i64 (cInE c g)) ∧ MemX E w W' (F ++ (cnH gc gi' gw' (cIn c g) k' ++ m)) ∧ KOk k' gi' gw' (cIn c g).h := by
 refine (cIn_any gc gi gw c k (F ++ m) W (cn_at h) hk (hc.cin ht) g hg).mono ?_
 rintro e W' ⟨gi', gw', k', rfl, h2, hk'⟩
 exact ⟨gi', gw', k', rfl, cn_un h2, hk'⟩
theorem stateF (F m : List Res) (h : MemX E w W (F ++ (cnH gc gi gw c k ++ m))) :
  Calls Try.prog 16 #[.pointer (some ⟨gc, 0, none⟩)] W fun e W' => e = .returned (.int .i64 c.st) ∧ W = W' :=
 State_any gc c k W ((cn_at h).at_ 2 rfl)
theorem whyF (F m : List Res) (h : MemX E w W (F ++ (cnH gc gi gw c k ++ m))) :
  Calls Try.prog 17 #[.pointer (some ⟨gc, 0, none⟩)] W fun e W' => e = .returned (.int .i64 c.why) ∧ W = W' :=
 Why_any gc c k W ((cn_at h).at_ 2 rfl)
theorem tickF (F m : List Res) {t : Int} (h : MemX E w W (F ++ (cnH gc gi gw c k ++ m))) (hk : KOk k gi gw c.h) (hc : CI c t) (ht : t ≤ 1000000000000) (n : Int) (hn : 0 ≤ n) (hn2 : n ≤ 1099511627776 - c.now) :
  Calls Try.prog 18 #[.pointer (some ⟨gc, 0, none⟩), .int .i64 n] W fun e W' => e = .returned (.int .i64 0) ∧ MemX E w W' (F ++ (cnH gc gi gw (cTick c n) k ++ m)) ∧ KOk k gi gw (cTick c n).h := by
 refine (tick_all gc gi gw c k (F ++ m) W n (cn_at h) hk (hc.cok (by omega)) hn hn2).mono ?_
 rintro e W' ⟨rfl, h2, hk'⟩
 exact ⟨rfl, cn_un h2, hk'⟩
end
section
variable {la lp ra rp iss irs own m : Int}
theorem ci_a1 (hi : 0 ≤ iss ∧ iss ≤ 4294967295) (hm : 8 ≤ own ∧ own ≤ 1000) : CI (cA1 la lp ra rp iss own) 0 := by
 have h := (CI.begin la lp ra rp iss own hi hm).out.1
 rw [out_dial hi hm.1] at h
 exact h
theorem ci_take (hi : 0 ≤ iss ∧ iss ≤ 4294967295) (hm : 8 ≤ own ∧ own ≤ 1000) (g : KSeg) (hw : 0 ≤ g.win ∧ g.win ≤ 65535) (hgs : 0 ≤ g.seq ∧ g.seq ≤ 4294967295) : CI (cTake la lp g iss own) 0 := by
 have h := ((CI.begin la lp g.fa g.fp iss own hi hm).cj.syn g rfl hw hgs).1.i
 exact h
end
structure POk (p : KPa) : Prop where
 e0 : 0 ≤ p.e0 ∧ p.e0 ≤ 4294967295
 e1 : 0 ≤ p.e1 ∧ p.e1 ≤ 4294967295
theorem sdTell_t (p : KPa) (g : KSeg) : sdTell true p g = if g.has = true ∧ g.rst = false ∧ (p.t1 = false ∨ lessB p.e1 (sdEdge g) = true) then { p with e1 := sdEdge g, t1 := true } else p := rfl
theorem sdTell_f (p : KPa) (g : KSeg) : sdTell false p g = if g.has = true ∧ g.rst = false ∧ (p.t0 = false ∨ lessB p.e0 (sdEdge g) = true) then { p with e0 := sdEdge g, t0 := true } else p := rfl
theorem sdOk_t {p : KPa} {g : KSeg} (hok : sdOk true p g = true) : (p.t0 && (decide (0 < (g.b.size : Int)) && decide (dZ ((p.e0 + 1) % 4294967296) ((g.seq + u32 g.b.size) % 4294967296) < 0))) = false := by
 unfold sdOk at hok
 simp only [Bool.and_eq_true, Bool.not_eq_true'] at hok
 exact hok.2
theorem sdOk_f {p : KPa} {g : KSeg} (hok : sdOk false p g = true) : (p.t1 && (decide (0 < (g.b.size : Int)) && decide (dZ ((p.e1 + 1) % 4294967296) ((g.seq + u32 g.b.size) % 4294967296) < 0))) = false := by
 unfold sdOk at hok
 simp only [Bool.and_eq_true, Bool.not_eq_true'] at hok
 exact hok.2
theorem POk.step {p : KPa} (h : POk p) (i : Bool) (g : KSeg) : POk (sdStep i p g) := by
  have hu := u32_bd (g.ack + u32 g.win)
  have h1 : POk (sdTell i p g) := by
    cases i with
    | true =>
      rw [sdTell_t]
      split
      · exact ⟨h.e0, hu⟩
      · exact h
    | false =>
      rw [sdTell_f]
      split
      · exact ⟨hu, h.e1⟩
      · exact h
  unfold sdStep sdAir
  split
  · exact ⟨h1.e0, h1.e1⟩
  · exact h1
theorem sdTell_air (i : Bool) (p : KPa) (g : KSeg) : (sdTell i p g).air = p.air := by
 cases i with
 | true => rw [sdTell_t]; split <;> rfl
 | false => rw [sdTell_f]; split <;> rfl
theorem sdStep_air (i : Bool) (p : KPa) (g : KSeg) (n : Nat) (h : p.air.length ≤ n) (hn : 200 ≤ n) : (sdStep i p g).air.length ≤ n := by
 unfold sdStep sdAir
 rw [sdTell_air]
 split
 ·simp only [List.length_append, List.length_singleton, sdTell_air]; omega
 ·rw [sdTell_air]; exact h
theorem sdList_bd (i : Bool) (n : Nat) (hn : 200 ≤ n) : ∀ (l : List KSeg) (p q : KPa), sdList i p l = some q → POk p → p.air.length ≤ n → POk q ∧ q.air.length ≤ n
  | [], p, q, h, h1, h2 => by
    have : p = q := by simpa [sdList] using h
    subst this
    exact ⟨h1, h2⟩
  | g :: l, p, q, h, h1, h2 => by
    unfold sdList at h
    split at h
    · exact sdList_bd i n hn l _ q h (h1.step i g) (sdStep_air i p g n h2 hn)
    · cases h
theorem prM_app {l : KPl} {x : KPr} {m : List Res} : prM l x [] ++ m = prM l x m := by
 unfold prM
 simp only [List.cons_append, List.append_assoc, List.nil_append]
theorem MemX.cut {E : Nat → Prop} {w W : World} {l : List Res} {α : Type} {f : α → List Value} {size g off n cap : Nat} {r : α} {rs : List α} (h : MemX E w W l) (k : Nat) (hk : l[k]? = some (rowR size f (.slice (some ⟨g, off, none⟩) (n + 1) cap) (r :: rs))) (hn : rs.length = n) (hf : ∀ r, (f r).length = size) :
  MemX E w W (l.set k (rowR size f (.slice (if cap = 1 then some ⟨g, off, none⟩ else some ⟨g, off + size, none⟩) n (cap - 1)) rs)) := by
 have hW : Win W 0 size (.slice (some ⟨g, off, none⟩) (n + 1) cap) (r :: rs).length ((r :: rs).flatMap f) := h.row k hk
 obtain ⟨g', off', cap', e, hA⟩ := hW.pos (by simp)
 injection e with e1 _ e3
 injection e1 with e1
 injection e1 with e4 e5 _
 subst e4; subst e5; subst e3
 rw [List.length_cons, hn, List.flatMap_cons] at hA
 have hl : (rs.flatMap f).length = n * size := by rw [rows_len rs fun q _ => hf q, hn]
 have hC := hA.cut (hf r) hl
 have hlt := hA.lt
 refine h.upd k hk (World.grownBy.refl _ _) (winR_stab _ _ _ _ _) (by show Win _ _ _ _ _ _; rw [hn]; exact hC) (fun j hj => ?_)
 have hj' : (if cap = 1 then some (⟨g, off, none⟩ : Addr) else some ⟨g, off + size, none⟩).map (·.block) = some j := by
  have h2 : (Value.slice (if cap = 1 then some (⟨g, off, none⟩ : Addr) else some ⟨g, off + size, none⟩) n (cap - 1)).ownBlock = some j := hj
  split at h2 <;> (rename_i hc; first | rw [if_pos hc] | rw [if_neg hc]) <;> exact h2
 have e : j = g := by
  split at hj' <;> (injection hj' with hj'; exact hj'.symm)
 subst e
 exact ⟨.inl rfl, hlt⟩
end Go.Proofs.Ytfpifahkpkjfgaa
