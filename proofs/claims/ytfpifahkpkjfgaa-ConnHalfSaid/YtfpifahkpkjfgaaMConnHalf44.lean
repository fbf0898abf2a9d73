/- What ConnHalf needs, a part: CnQv, CnFh, CnFi. -/
import Derived.Deep.CutBlock
import Derived.Test.YtfpifahkpkjfgaaMZ
import Derived.Test.YtfpifahkpkjfgaaMConnHalf1
import Derived.Test.YtfpifahkpkjfgaaMConnHalf43
/- conn: meet. Written by my gencn.py. -/
namespace Go.Proofs.Ytfpifahkpkjfgaa
open Go.RowKit Go.Lib
set_option linter.unusedVariables false
set_option linter.unusedSimpArgs false
theorem qv_init {E : Nat → Prop} {w W : World} {l : List Res} {A : Res} (h : MemX E w W (l ++ [A])) : MemX E w W l := by
 have := h.take_ l.length
 rwa [List.take_left] at this
set_option maxRecDepth 100000 in
set_option maxHeartbeats 8000000 in
theorem meet_any (iss irs a b : Int) (hi : 0 ≤ iss) (hi' : iss ≤ 4294967295) (hj : 0 ≤ irs) (hj' : irs ≤ 4294967295) (ha : -9223372036854775808 ≤ a) (ha' : a ≤ 9223372036854775807) (hb : -9223372036854775808 ≤ b) (hb' : b ≤ 9223372036854775807) :
  ∃ y : KPr, PI iss irs 0 2 (gh gh0 y) ∧ y.a = cE 1 40000 2 80 iss irs (8 + a % 993) (cMss (8 + a % 993) (8 + b % 993)) 0 0 0 false ∧ y.b = cE 2 80 1 40000 irs iss (8 + b % 993) (cMss (8 + b % 993) (8 + a % 993)) 1 1 0 false ∧ y.p.air = [] ∧
   ∀ w, Calls Try.prog 22 #[.int .u32 iss, .int .u32 irs, .agg #[.int .i64 a, .int .i64 b]] w fun e w' => ∃ gp ga gia gwa ka gb gib gwb kb va, e = .returned (.pointer (some ⟨gp, 0, none⟩)) ∧ Mem w w' (prM (⟨gp, ga, gia, gwa, ka, gb, gib, gwb, kb, va⟩ : KPl) y []) ∧ KPl.ok (⟨gp, ga, gia, gwa, ka, gb, gib, gwb, kb, va⟩ : KPl) y := by
 obtain ⟨y0, y, s0, P0, sa, sb, q2, P2, ya, yb, yair⟩ := meet_plain (iss := iss) (irs := irs) (ma := 8 + a % 993) (mb := 8 + b % 993) ⟨hi, hi'⟩ ⟨hj, hj'⟩ (by omega) (by omega)
 refine ⟨y, P2, ya, yb, yair, fun w => ?_⟩
 have hM := Mem.nil w
 have hPA := fun W => paired_any iss irs a b W hi hi' hj hj' ha ha' hb hb'
 obtain ⟨x0, hx0⟩ : ∃ z, z = pr0 iss irs (8 + a % 993) (8 + b % 993) := ⟨_, rfl⟩
 rw [← hx0] at hPA s0 P0 sa sb
 have HPA := Lib.hid hPA
 have hl0 := P0.len
 have hs0 : SOk x0 y0 := ⟨0, by decide, P0.ciA, P0.ciB, P0.ok, by omega, s0, sa, sb⟩
 have HS := Lib.hid hs0
 have HQ := Lib.hid q2
 have HST := Lib.hid (show y.a.st = 3 ∧ y.b.st = 3 from ⟨by rw [ya]; rfl, by rw [yb]; rfl⟩)
 clear hPA hx0 s0 P0 sa sb q2 P2 ya yb yair hi hi' hj hj' ha ha' hb hb' hs0 hl0
 go_enter Try.func22, Try.ntmps22
 go_upto_region 1 with (first | go_skip | ((with_reducible refine at_box_ ?_); refine wpList_box_mem rfl _ _ rfl [.int .i64 a, .int .i64 b] rfl hM ?_; clear hM; intro gb W hM; first | (simp only [List.nil_append] at hM) | (simp only [List.cons_append, List.nil_append] at hM)))
 obtain ⟨gm, hgm⟩ : ∃ x, x = gb := ⟨_, rfl⟩
 subst hgm
 go_upto_region 2 with (first | go_skip | ((with_reducible refine at_load_ (T := 43) ?_); refine wpList_load_mem rfl 43 _ rfl 0 _ _ [.int .i64 a, .int .i64 b] hM rfl rfl _ Try.underlying43 rfl (by kernel_rfl) ?_) | (go_at_call 20; refine (HPA.out _).mono ?_; rintro e W ⟨⟨gp, ga, gia, gwa, ka, gb, gib, gwb, kb, va⟩, rfl, hN, hok⟩; have HOK := Lib.hid hok; clear hok; replace hM := hM.new_ hN; rw [prM_app] at hM; clear hN; dsimp only))
 go_upto_region 4 with (first | go_skip | (go_at_call 21; refine (sends_p gp ga gia gwa ka gb gib gwb kb va _ _ _ HS.out hM HOK.out).mono ?_; clear hM HOK; rintro e W ⟨rfl, ka1, kb1, va1, hM, hok⟩; have HOK := Lib.hid hok; clear hok; dsimp only) | (go_at_call 24; refine (quiet_p gp ga gia gwa ka1 gb gib gwb kb1 va1 _ _ _ 2 (by decide) HQ.out hM HOK.out).mono ?_; clear hM HOK; rintro e W ⟨rfl, gia2, gwa2, ka2, gib2, gwb2, kb2, va2, hM, hok⟩; have HOK := Lib.hid hok; clear hok; dsimp only))
 have HSA := Lib.hid (fun (W : World) (h : Mem w W (prM (⟨gp, ga, gia2, gwa2, ka2, gb, gib2, gwb2, kb2, va2⟩ : KPl) y [atR gm 43 [.int .i64 a, .int .i64 b]])) => (by have h2 := st_p0 gp ga gia2 gwa2 ka2 gb gib2 gwb2 kb2 va2 y _ h; rw [HST.out.1] at h2; exact h2 : Calls Try.prog 16 #[.pointer (some ⟨ga, 0, none⟩)] W fun e W' => e = .returned (.int .i64 3) ∧ W = W'))
 have HSB := Lib.hid (fun (W : World) (h : Mem w W (prM (⟨gp, ga, gia2, gwa2, ka2, gb, gib2, gwb2, kb2, va2⟩ : KPl) y [atR gm 43 [.int .i64 a, .int .i64 b]])) => (by have h2 := st_p1 gp ga gia2 gwa2 ka2 gb gib2 gwb2 kb2 va2 y _ h; rw [HST.out.2] at h2; exact h2 : Calls Try.prog 16 #[.pointer (some ⟨gb, 0, none⟩)] W fun e W' => e = .returned (.int .i64 3) ∧ W = W'))
 clear HPA HS HQ HST
 go_wp2_with (first | go_skip | ((with_reducible refine at_load_ ?_); refine at_wanted_ (by rfl) ?_; first | (refine lM 0 hM rfl rfl rfl rfl ?_)) | (go_at_call 16; first | ((with_reducible refine (HSA.out _ hM).mono ?_); rintro e W ⟨rfl, rfl⟩; dsimp only) | ((with_reducible refine (HSB.out _ hM).mono ?_); rintro e W ⟨rfl, rfl⟩; dsimp only)))
 refine bodyPost_ret (v := .pointer (some ⟨gp, 0, none⟩)) (by simp [results, Try.results22, go_sem]) rfl ?_
 rw [← prM_app] at hM
 exact ⟨gp, ga, gia2, gwa2, ka2, gb, gib2, gwb2, kb2, va2, rfl, qv_init hM, HOK.out⟩
end Go.Proofs.Ytfpifahkpkjfgaa
/- conn: one side closes, the other one goes on (plain): the steps of ConnHalf. -/
namespace Go.Proofs.Ytfpifahkpkjfgaa
open Go.RowKit Go.Lib
set_option linter.unusedVariables false
set_option linter.unusedSimpArgs false
/-- what goes out of the second one: it begins to flow -/
theorem flow_go_b {iss irs : Int} {N : Nat} {t : Int} {h : KGh} {x y : KPr} {q : IQ} {V D U w E : Int} {R : Option Int} {W : KWd} {mr : Int} {sr : Bool} {O : OQ} (hP : PI iss irs N t (gh h x)) (hy : sends x = some y) (hair : x.p.air = []) (ht : t ≤ 1000000)
  (hR : ∀ x, R = some x → 2048 - (endZ q - q.rd) = x) (hs : FS (adB irs) (adA iss) x.b q V U U w E) (hr : FR (adB irs) (adA iss) x.a U V D R W mr sr O false false) (hw : w ≤ 30000 + U) (hE : 1500 ≤ E) (hq : qEnd x.b.o ≤ D + 2047 ∧ qEnd x.b.o ≤ 1100) (hsh : x.b.shut = true → U < qEnd x.b.o) :
  PI iss irs N t (gh h y) ∧ ∃ (k : Nat) (z : KPr), k ≤ 2200 ∧ Qx k y z ∧ PI iss irs N (t + k) (gh h z) ∧ FP false iss irs q V D R W mr sr O z ∧ z.p.air = [] ∧ Kep x.b z.b := by
 obtain ⟨f1, f2, f3, f4, f5, f6, f7⟩ := FI.start hR hs hr (ad_from iss irs) (hP.ciB.cok (by omega)) hw hE hq hsh
 obtain ⟨z1, z2, z3, z4⟩ := sends_outs hy
 rw [f2, List.foldl_nil, hair, airP_app _ _ (by rw [List.nil_append]; omega), List.nil_append] at z3
 rw [f2, List.append_nil] at f1
 obtain ⟨y', hy', hPy, _, _⟩ := hP.sends
 rw [gh_sends, hy] at hy'
 have hyy : y' = gh h y := (Option.some.inj hy').symm
 rw [hyy] at hPy
 have hF : FP false iss irs q V D R W mr sr O y := by
  show FI _ _ _ _ _ _ _ _ _ _ y.b y.a y.p.air
  rw [z1, z2, z3]; exact f1
 have hu := hs.u1
 have hmu : muF (sdC false y) y.p.air ≤ 2200 := by
  show muF y.b y.p.air ≤ 2200
  rw [z2, z3]; omega
 obtain ⟨k, z, k1, k2, k3, k4, k5, k6⟩ := flow_all false 2200 t y hPy hF hmu (by omega)
 refine ⟨hPy, k, z, k1, k2, k3, k4, k5, ?_⟩
 have k6' : Kep y.b z.b := k6
 obtain ⟨a1, a2, a3⟩ := k6'
 rw [z2] at a1 a2 a3
 refine ⟨a1.trans f5, a2.trans f6, ?_⟩
 rw [f6, f7] at a3
 exact a3
theorem flow_end_b {iss irs : Int} {q : IQ} {V D : Int} {R : Option Int} {W : KWd} {mr : Int} {sr : Bool} {O : OQ} {x : KPr} (hF : FP false iss irs q V D R W mr sr O x) (hair : x.p.air = []) :
  (x.b.shut = false → ∃ w E, FS (adB irs) (adA iss) x.b q V (qEnd x.b.o) (qEnd x.b.o) w E ∧ FR (adB irs) (adA iss) x.a (qEnd x.b.o) V D R W mr sr O false false ∧ w ≤ 30000 + qEnd x.b.o ∧ 1500 ≤ E) ∧
  (x.b.shut = true → FE (adB irs) (adA iss) x.b q (qEnd x.b.o) ∧ FR (adB irs) (adA iss) x.a (qEnd x.b.o) V D R W mr sr O true false) := by
 have hF' : FI (adB irs) (adA iss) q V D R W mr sr O x.b x.a x.p.air := hF
 rw [hair] at hF'
 rcases hF' with ⟨U, C, N, w, E, o, h⟩ | ⟨h1, h2, _⟩
 ·obtain ⟨d1, d2, d3, d4⟩ := h.done
  refine ⟨fun _ => ⟨w, E, ?_, ?_, ?_, h.q2⟩, (fun e => by rw [d1] at e; cases e)⟩
  ·have := h.fs; rw [d2, d3] at this; exact this
  ·have := h.fr
   rw [d1, Bool.false_and, d4] at this
   exact this
  ·have := h.w; rw [d2] at this; exact this
 ·exact ⟨(fun e => by rw [h1.sh] at e; cases e), fun _ => ⟨h1, h2⟩⟩
/-- the queue of one that has said nothing -/
def oq0 : OQ := ⟨[], 1, 1, 1, 1, false⟩
theorem write_g {c : KCn} {T : ByteArray} (hT : T.size ≤ 1000) (h0 : c.st = 3 ∨ c.st = 6) (hs : c.shut = false) (ho : c.o = oq0) :
  ∃ x, (cWrite c T).1 = { c with o := oWrite oq0 T, clock := x } ∧ (cWrite c T).2.1 = T.size ∧ (cWrite c T).2.2 = 0 := by
 have hn : oN c.o T.size = T.size := by
  rw [ho]
  unfold oN oRoom oq0
  simp
  omega
 obtain ⟨x, hx, -⟩ := cSettle_is { c with o := oWrite oq0 T }
 have e : cWrite c T = (cSettle { c with o := oWrite oq0 T }, ((T.size : Int), 0)) := by
  unfold cWrite
  rw [if_neg (fun e => by have := e.1; omega), if_neg (fun e => by rcases e with e | e; (omega); rw [hs] at e; cases e), hn, if_neg (fun e => e.2 e.1), ho]
 rw [e]
 exact ⟨x, hx, rfl, rfl⟩
theorem close_g {c : KCn} (h0 : c.st = 3 ∨ c.st = 6) (hs : c.shut = false) :
  ∃ x, (cClose c).1 = { c with shut := true, o := { c.o with cl := true }, st := (if c.st = 3 then 4 else 8), clock := x } ∧ (cClose c).2 = 0 := by
 have hst : (if c.st = 3 then (4 : Int) else if c.st = 6 then 8 else c.st) = (if c.st = 3 then 4 else 8) := by
  rcases h0 with h | h
  ·rw [if_pos h, if_pos h]
  ·rw [if_neg (show ¬ c.st = 3 by omega), if_pos h, if_neg (show ¬ c.st = 3 by omega)]
 obtain ⟨x, hx, -⟩ := cSettle_is { c with shut := true, o := { c.o with cl := true }, st := (if c.st = 3 then 4 else 8) }
 have e : cClose c = (cSettle { c with shut := true, o := { c.o with cl := true }, st := (if c.st = 3 then 4 else 8) }, 0) := by
  unfold cClose
  rw [if_neg (by omega), if_neg (by rw [hs]; exact fun e => by cases e), if_neg (by omega), hst]
 rw [e]
 exact ⟨x, hx, rfl⟩
/-- all that is there is read -/
theorem read_g {c : KCn} {q : IQ} {W : KWd} {n : Nat} (hh : c.h = some (q, W)) (hn : endZ q - q.rd = n) (h5 : n ≤ 5000) (h0 : n ≠ 0) :
  cRead c 5000 = ({ c with h := some ({ q with rd := q.rd + n }, W) }, byteS (readL q n), false, 0) := by
 have hcq : cQ c = q := by unfold cQ; rw [hh]
 have hrn : readN q 5000 = n := by
  unfold readN
  rw [hn]
  rw [if_neg (by omega)]
  omega
 have hmp : (c.h.map fun x => (({ x.1 with rd := x.1.rd + readN x.1 5000 } : IQ), x.2)) = some ({ q with rd := q.rd + n }, W) := by
  rw [hh]
  show some (({ q with rd := q.rd + readN q 5000 } : IQ), _) = _
  rw [hrn]
 unfold cRead
 rw [if_pos ⟨(by rw [hh]; exact fun e => (by cases e)), (by rw [hcq, hn]; omega)⟩, hmp, hcq, hrn]
theorem read_z {c : KCn} {q : IQ} {W : KWd} (hh : c.h = some (q, W)) (hn : endZ q - q.rd = 0) (h0 : c.st ≠ 0) :
    cRead c 5000 = (c, ⟨#[]⟩, q.over, if q.over then 0 else 14) := by
  have hcq : cQ c = q := by unfold cQ; rw [hh]
  have hne : c.h ≠ none := by rw [hh]; exact fun e => by cases e
  unfold cRead
  rw [if_neg (fun e => by have := e.2; rw [hcq, hn] at this; omega), hcq]
  cases hq : q.over with
  | true => rw [if_pos ⟨hne, rfl⟩]; rfl
  | false =>
    rw [if_neg (fun e => by cases e.2)]
    unfold cReadT
    rw [if_pos h0]; rfl
theorem rd_same {c : KCn} {q : IQ} {W : KWd} (hh : c.h = some (q, W)) {n : Int} (h0 : n = 0) : c = { c with h := some ({ q with rd := q.rd + n }, W) } := by
 subst h0
 have : ({ q with rd := q.rd + 0 } : IQ) = q := by rw [Int.add_zero]
 rw [this, ← hh]
theorem ext_size (T : ByteArray) : T.extract 0 T.size = T := ByteArray.extract_zero_size
theorem rsz (q : IQ) (n : Nat) : (byteS (readL q n)).size = n := by rw [byteS_sz]; exact fnL_len _ _
section
variable {iss irs : Int} {N : Nat} {t : Int} {h : KGh} {x : KPr} {q : IQ} {W : KWd}
/-- the second one reads all that the first one wrote -/
theorem read_b (hP : PI iss irs N t (gh h x)) (hg : h.G1 = ⟨#[]⟩) (hh : x.b.h = some (q, W)) (hn : endZ q - q.rd = h.T0.size) (h5 : h.T0.size ≤ 5000) (h0 : x.b.st ≠ 0) :
  PI iss irs N (t + 1) (gh ⟨h.T0, h.T1, h.G0, h.T0, h.s0, h.s1⟩ ⟨x.a, (cRead x.b 5000).1, x.p⟩) ∧ (cRead x.b 5000).1 = { x.b with h := some ({ q with rd := q.rd + h.T0.size }, W) } ∧ (cRead x.b 5000).2.1 = h.T0 ∧
   (h.T0.size ≠ 0 → (cRead x.b 5000).2.2 = (false, 0)) ∧ (h.T0.size = 0 → (cRead x.b 5000).2.2 = (q.over, if q.over then 0 else 14)) := by
 obtain ⟨p1, _, _, p4, p5⟩ := hP.read1 5000 x.p.o1
 have hg1 : ∀ T : ByteArray, (gh h x).p.g1 ++ T = T := by
  intro T
  show h.G1 ++ T = T
  rw [hg]; exact ByteArray.empty_append
 replace p1 : PI iss irs N (t + 1) ⟨x.a, (cRead x.b 5000).1, { (gh h x).p with g1 := (gh h x).p.g1 ++ (cRead x.b 5000).2.1, o1 := x.p.o1 }⟩ := p1
 replace p5 : h.T0.extract 0 ((gh h x).p.g1 ++ (cRead x.b 5000).2.1).size = (gh h x).p.g1 ++ (cRead x.b 5000).2.1 := p5
 rw [hg1] at p1 p5
 by_cases hz : h.T0.size = 0
 ·have e := read_z hh (by rw [hn, hz]; rfl) h0
  have eT : h.T0 = ⟨#[]⟩ := size_data hz
  rw [e] at p1 ⊢
  refine ⟨?_, ?_, eT.symm, fun h => absurd hz h, fun _ => rfl⟩
  ·have e2 : (⟨h.T0, h.T1, h.G0, h.T0, h.s0, h.s1⟩ : KGh) = ⟨h.T0, h.T1, h.G0, ⟨#[]⟩, h.s0, h.s1⟩ := by rw [eT]
   rw [e2]; exact p1
  ·exact rd_same hh (by rw [hz]; rfl)
 ·have e := read_g hh hn h5 hz
  rw [e] at p1 p5 ⊢
  dsimp only at p1 p5 ⊢
  rw [rsz, ext_size] at p5
  rw [← p5] at p1 ⊢
  exact ⟨p1, rfl, rfl, fun _ => rfl, fun h => absurd h hz⟩
/-- the first one reads all that the second one wrote -/
theorem read_a (hP : PI iss irs N t (gh h x)) (hg : h.G0 = ⟨#[]⟩) (hh : x.a.h = some (q, W)) (hn : endZ q - q.rd = h.T1.size) (h5 : h.T1.size ≤ 5000) (h0 : x.a.st ≠ 0) :
  PI iss irs N (t + 1) (gh ⟨h.T0, h.T1, h.T1, h.G1, h.s0, h.s1⟩ ⟨(cRead x.a 5000).1, x.b, x.p⟩) ∧ (cRead x.a 5000).1 = { x.a with h := some ({ q with rd := q.rd + h.T1.size }, W) } ∧ (cRead x.a 5000).2.1 = h.T1 ∧
   (h.T1.size ≠ 0 → (cRead x.a 5000).2.2 = (false, 0)) ∧ (h.T1.size = 0 → (cRead x.a 5000).2.2 = (q.over, if q.over then 0 else 14)) := by
 obtain ⟨p1, _, _, p4, p5⟩ := hP.read0 5000 x.p.o0
 have hg1 : ∀ T : ByteArray, (gh h x).p.g0 ++ T = T := by
  intro T
  show h.G0 ++ T = T
  rw [hg]; exact ByteArray.empty_append
 replace p1 : PI iss irs N (t + 1) ⟨(cRead x.a 5000).1, x.b, { (gh h x).p with g0 := (gh h x).p.g0 ++ (cRead x.a 5000).2.1, o0 := x.p.o0 }⟩ := p1
 replace p5 : h.T1.extract 0 ((gh h x).p.g0 ++ (cRead x.a 5000).2.1).size = (gh h x).p.g0 ++ (cRead x.a 5000).2.1 := p5
 rw [hg1] at p1 p5
 by_cases hz : h.T1.size = 0
 ·have e := read_z hh (by rw [hn, hz]; rfl) h0
  have eT : h.T1 = ⟨#[]⟩ := size_data hz
  rw [e] at p1 ⊢
  refine ⟨?_, ?_, eT.symm, fun h => absurd hz h, fun _ => rfl⟩
  ·have e2 : (⟨h.T0, h.T1, h.T1, h.G1, h.s0, h.s1⟩ : KGh) = ⟨h.T0, h.T1, ⟨#[]⟩, h.G1, h.s0, h.s1⟩ := by rw [eT]
   rw [e2]; exact p1
  ·exact rd_same hh (by rw [hz]; rfl)
 ·have e := read_g hh hn h5 hz
  rw [e] at p1 p5 ⊢
  dsimp only at p1 p5 ⊢
  rw [rsz, ext_size] at p5
  rw [← p5] at p1 ⊢
  exact ⟨p1, rfl, rfl, fun _ => rfl, fun h => absurd h hz⟩
end
theorem fin_c {q : OQ} (h : q.cl = false) : qEnd { q with cl := true } = qEnd q + 1 := by
 unfold qEnd oFin
 rw [h]
 simp
section
variable {A B : KAd} {s r : KCn} {q : IQ} {N V D U w E Z mr : Int} {R : Option Int} {W : KWd} {sr : Bool} {O : OQ}
/-- one that was told of the end writes -/
theorem FR.says (h : FR A B r N V D (some 2048) ⟨mr, 2 * mr + 1, 65535⟩ mr false oq0 true false) (hm : 8 ≤ mr ∧ mr ≤ 1000) (T : ByteArray) (hT : T.size ≤ 1000) (x : Int) (hN : N - 1 - D ≤ 2047) (hD : D ≤ N - 1) :
  ∃ q, r.h = some (q, ⟨mr, 2 * mr + 1, 65535⟩) ∧ q.over = true ∧ q.rd = D ∧ q.nx = N ∧ FS B A { r with o := oWrite oq0 T, clock := x } q N 1 1 (2 * mr + 1) 2049 := by
 obtain ⟨q, hh, ok, hn, hc, ho, hr⟩ := h.h
 have hst := h.st
 simp only [Bool.false_eq_true, if_true, if_false] at hst
 have hqe : qEnd (oWrite oq0 T) = 1 + T.size := by
  have := fin_w (T := T) hT
  unfold qEnd
  rw [show (oWrite oq0 T).cl = false from rfl, show oFin (oWrite oq0 T) = 1 + T.size from this]
  rfl
 refine ⟨q, hh, ho, hr, hn, ⟨⟨h.ad.la, h.ad.lp, h.ad.ra, h.ad.rp, h.ad.iss⟩, h.irs, .inl ⟨h.sh, .inr hst⟩, ?_, h.rs, h.ag, h.pr, h.ow, write_ok ok_e T, rfl, rfl, rfl, Int.le_refl 1, ?_, ?_, ?_, ?_, ?_, ok, .inl ho, hn, ?_, ?_, h.n1⟩⟩
 ·show false = r.shut; rw [h.sh]
 ·show qEnd (oWrite oq0 T) ≤ _; rw [hqe]; omega
 ·show 8 ≤ r.mss ∧ r.mss ≤ 1000; rw [h.ms]; exact hm
 ·show r.wnd = 2049 - 1; rw [h.wn 2048 rfl]; rfl
 ·show r.h = some (q, ⟨r.mss, 2 * mr + 1, 65535⟩); rw [h.ms]; exact hh
 ·show r.mss ≤ _ ∧ _; rw [h.ms]; omega
 ·intro h34
  have : r.st = 3 ∨ r.st = 4 := h34
  omega
 ·rw [end_over ho, hn, hr]; omega
/-- one that has closed, and was answered, goes on to receive -/
theorem FE.hears (h : FE A B s newIQ Z) (h5 : s.st = 5) (hZ : 1 ≤ Z ∧ Z ≤ 2097152) : ∃ W, s.h = some (newIQ, W) ∧ FR B A s 1 Z 1 none W s.mss true s.o false false := by
 obtain ⟨W, hh⟩ := h.wd
 exact ⟨W, hh, ⟨⟨h.ad.la, h.ad.lp, h.ad.ra, h.ad.rp, h.ad.iss⟩, h.irs, h5, h.sh, (fun e => by cases e), h.pr, rfl, h.rs, h.ag, h.ow, h.una, h.cur, h.sent, h.end_, hZ, ⟨by decide, by decide⟩, (fun x e => by cases e), rfl, newIQ, hh, new_iq_ok, rfl, fun _ => ⟨fun _ => rfl, rfl, rfl⟩, rfl, rfl⟩⟩
/-- it has read -/
theorem FR.reads (h : FR A B r N V D R W mr sr O false false) {q : IQ} (hh : r.h = some (q, W)) {n : Int} (hok : IqOk { q with rd := q.rd + n }) : FR A B { r with h := some ({ q with rd := q.rd + n }, W) } N V (D + n) R W mr sr O false false := by
 obtain ⟨q', hh', ok, hn, hc, ho, hr⟩ := h.h
 have e : q' = q := by rw [hh'] at hh; exact (Prod.mk.inj (Option.some.inj hh)).1
 subst e
 refine ⟨⟨h.ad.la, h.ad.lp, h.ad.ra, h.ad.rp, h.ad.iss⟩, h.irs, h.st, h.sh, h.en, h.pr, h.oc, h.rs, h.ag, h.ow, h.una, h.cur, h.sent, h.end_, h.v1, h.n1, h.wn, h.ms, _, rfl, hok, hn, fun e => ⟨(hc e).h, (hc e).ov, (hc e).fin⟩, ho, ?_⟩
 show q'.rd + n = D + n
 rw [hr]
/-- it has read, and closes -/
theorem FS.ends (h : FS A B s q V U U w E) (h6 : s.st = 6) (hsh : s.shut = false) (x : Int) {n : Int} (hov : q.over = true) (hok : IqOk { q with rd := q.rd + n }) (hn : 0 ≤ endZ q - (q.rd + n) ∧ endZ q - (q.rd + n) ≤ 2047) {d : KWd} (hd : s.h = some (q, d)) (he : qEnd s.o + 1 ≤ 2097152) :
  FS A B { s with h := some ({ q with rd := q.rd + n }, d), shut := true, o := { s.o with cl := true }, st := 8, clock := x } { q with rd := q.rd + n } V U U w E := by
 have e : d = ⟨s.mss, w, 65535⟩ := by have := h.wd; rw [hd] at this; exact (Prod.mk.inj (Option.some.inj this)).2
 have hcl := h.cl
 rw [hsh] at hcl
 refine ⟨⟨h.ad.la, h.ad.lp, h.ad.ra, h.ad.rp, h.ad.iss⟩, h.irs, .inr ⟨rfl, .inr rfl⟩, rfl, h.rs, h.ag, h.pr, h.ow, close_ok h.ok, h.una, h.cur, h.sent, h.u1, ?_, h.m, h.wnd, ?_, h.w1, hok, .inl hov, h.qnx, ?_, hn, h.v1⟩
 ·show qEnd { s.o with cl := true } ≤ _
  rw [fin_c hcl]; omega
 ·show some _ = some _
  rw [e]
 ·intro h34
  exact absurd (show (8 : Int) = 3 ∨ (8 : Int) = 4 from h34) (by decide)
theorem tick_end (h : FR A B r N V D R W mr true O true false) : (cTick r 20).st = 0 ∧ (cTick r 20).why = 0 := by
 have h9 := h.st
 simp only [if_true] at h9
 have he := h.en rfl rfl
 obtain ⟨x, hx, -⟩ := cSettle_is (cClosed { r with now := r.now + 20 } 0)
 have e : cTick r 20 = cSettle (cClosed { r with now := r.now + 20 } 0) := by
  unfold cTick
  dsimp only
  rw [if_pos ⟨h9, by omega⟩]
 rw [e, hx]
 exact ⟨rfl, rfl⟩
end
end Go.Proofs.Ytfpifahkpkjfgaa
/- conn: one side closes, the other one goes on (plain): all that ConnHalf sees. -/
namespace Go.Proofs.Ytfpifahkpkjfgaa
open Go.RowKit Go.Lib
set_option linter.unusedVariables false
set_option linter.unusedSimpArgs false
/-- all that ConnHalf sees, from the meeting on -/
structure HalfAll (y : KPr) (H T : ByteArray) (x3 x4 x6 x7 x11 x12 : KPr) : Prop where
 wn : (cWrite y.a H).2.1 = H.size
 we : (cWrite y.a H).2.2 = 0
 c1 : ∃ t : Int, t ≤ 1000000000000 ∧ CI (cWrite y.a H).1 t
 ce : (cClose (cWrite y.a H).1).2 = 0
 s3 : SOk ⟨(cClose (cWrite y.a H).1).1, y.b, y.p⟩ x3
 q4 : ∃ k : Nat, k ≤ 9001 ∧ Qx k x3 x4
 c4 : ∃ t : Int, t ≤ 1000000000000 ∧ CI x4.b t
 wn2 : (cWrite x4.b T).2.1 = T.size
 we2 : (cWrite x4.b T).2.2 = 0
 s6 : SOk ⟨x4.a, (cWrite x4.b T).1, x4.p⟩ x6
 q7 : ∃ k : Nat, k ≤ 9001 ∧ Qx k x6 x7
 c7b : ∃ t : Int, t ≤ 1000000000000 ∧ CI x7.b t
 rb : (cRead x7.b 5000).2 = (H, decide (H.size = 0), 0)
 c7a : ∃ t : Int, t ≤ 1000000000000 ∧ CI x7.a t
 ra : (cRead x7.a 5000).2 = (T, false, if T.size = 0 then 14 else 0)
 st9a : (cRead x7.a 5000).1.st = 5
 st9b : (cRead x7.b 5000).1.st = 6
 c9 : ∃ t : Int, t ≤ 1000000000000 ∧ CI (cRead x7.b 5000).1 t
 ce2 : (cClose (cRead x7.b 5000).1).2 = 0
 s11 : SOk ⟨(cRead x7.a 5000).1, (cClose (cRead x7.b 5000).1).1, x7.p⟩ x11
 q12 : ∃ k : Nat, k ≤ 9001 ∧ Qx k x11 x12
 st12b : x12.b.st = 0
 wy12b : x12.b.why = 0
 st12a : x12.a.st = 9
 c12 : ∃ t : Int, t ≤ 1000000000000 ∧ CI x12.a t
 n12 : x12.a.now ≤ 100000000000
 ts : (cTick x12.a 20).st = 0
 tw : (cTick x12.a 20).why = 0
theorem half_all {iss irs ma mb : Int} {y : KPr} (hi : 0 ≤ iss ∧ iss ≤ 4294967295) (hj : 0 ≤ irs ∧ irs ≤ 4294967295) (hA : 8 ≤ ma ∧ ma ≤ 1000) (hB : 8 ≤ mb ∧ mb ≤ 1000) (H T : ByteArray) (hH : H.size ≤ 1000) (hT : T.size ≤ 1000)
  (hP : PI iss irs 0 2 (gh gh0 y)) (ha : y.a = cE 1 40000 2 80 iss irs ma (cMss ma mb) 0 0 0 false) (hb : y.b = cE 2 80 1 40000 irs iss mb (cMss mb ma) 1 1 0 false) (hair : y.p.air = []) : ∃ x3 x4 x6 x7 x11 x12, HalfAll y H T x3 x4 x6 x7 x11 x12 := by
 have hma := cMss_in (m := mb) hA
 have hmb := cMss_in (m := ma) hB
 obtain ⟨cx, w1, w2, w3⟩ := write_e (la := 1) (lp := 40000) (ra := 2) (rp := 80) (iss := iss) (irs := irs) (own := ma) (m := cMss ma mb) (wat := 0) (wak := 0) (now := 0) (T := H) hH
 rw [← ha] at w2 w3
 obtain ⟨c1, hc1⟩ : ∃ z, z = (cWrite y.a H).1 := ⟨_, rfl⟩
 replace w1 : c1 = { cE 1 40000 2 80 iss irs ma (cMss ma mb) 0 0 0 false with o := oWrite oq0 H, clock := cx } := by rw [hc1, ha]; exact w1
 have hqe : qEnd (oWrite oq0 H) = 1 + H.size := by
  have := fin_w (T := H) hH
  unfold qEnd
  rw [show (oWrite oq0 H).cl = false from rfl, show oFin (oWrite oq0 H) = 1 + H.size from this]
  rfl
 have hqt : qEnd (oWrite oq0 T) = 1 + T.size := by
  have := fin_w (T := T) hT
  unfold qEnd
  rw [show (oWrite oq0 T).cl = false from rfl, show oFin (oWrite oq0 T) = 1 + T.size from this]
  rfl
 -- the first one writes
 have hP1 := hP.write0 H (by omega)
 have P1 : PI iss irs (0 + H.size) (2 + 1) (gh ⟨H, ⟨#[]⟩, ⟨#[]⟩, ⟨#[]⟩, false, false⟩ ⟨c1, y.b, y.p⟩) := by
  have e : (⟨#[]⟩ : ByteArray) ++ H.extract 0 (cWrite y.a H).2.1.toNat = H := by rw [w2]; exact ext_all H
  have hP4 : PI iss irs (0 + H.size) (2 + 1) (gh ⟨(⟨#[]⟩ : ByteArray) ++ H.extract 0 (cWrite y.a H).2.1.toNat, ⟨#[]⟩, ⟨#[]⟩, ⟨#[]⟩, false, false⟩ ⟨(cWrite y.a H).1, y.b, y.p⟩) := hP1
  rw [e, ← hc1] at hP4
  exact hP4
 -- and closes
 obtain ⟨cy, z1, z2⟩ := close_g (c := c1) (.inl (by rw [w1]; rfl)) (by rw [w1]; rfl)
 have P2 : PI iss irs (0 + H.size) (2 + 1) (gh ⟨H, ⟨#[]⟩, ⟨#[]⟩, ⟨#[]⟩, true, false⟩ ⟨(cClose c1).1, y.b, y.p⟩) := by
  have e : (false || decide ((cClose c1).2 = 0)) = true := by rw [z2]; rfl
  have h2 : PI iss irs (0 + H.size) (2 + 1) (gh ⟨H, ⟨#[]⟩, ⟨#[]⟩, ⟨#[]⟩, (false || decide ((cClose c1).2 = 0)), false⟩ ⟨(cClose c1).1, y.b, y.p⟩) := P1.close0
  rw [e] at h2
  exact h2
 obtain ⟨a2, ha2⟩ : ∃ z, z = (cClose c1).1 := ⟨_, rfl⟩
 rw [← ha2] at P2 z1
 have hz1 : a2 = { cE 1 40000 2 80 iss irs ma (cMss ma mb) 0 0 0 false with o := { oWrite oq0 H with cl := true }, shut := true, st := 4, clock := cy } := by
  rw [z1, w1]; rfl
 have hqa : qEnd a2.o = H.size + 2 := by
  rw [hz1]
  show qEnd { oWrite oq0 H with cl := true } = _
  rw [fin_c rfl, hqe]; omega
 have hsh2 : a2.shut = true := by rw [hz1]
 have hst2 : a2.st = 4 := by rw [hz1]
 obtain ⟨x3, so3, P3⟩ := sok_pi P2 (by decide)
 have hs3 : sends ⟨a2, y.b, y.p⟩ = some x3 := by obtain ⟨_, _, _, _, _, _, h, _⟩ := so3; exact h
 have hfs : FS (adA iss) (adB irs) a2 newIQ 1 1 1 (2 * cMss ma mb + 1) 2049 :=
  fs_e (la := 1) (lp := 40000) (ra := 2) (rp := 80) (iss := iss) (irs := irs) (own := ma) (wat := 0) (wak := 0) (now := 0) (st := 4) (o := { oWrite oq0 H with cl := true }) (sh := true) rfl rfl hma cy hz1 (close_ok (write_ok ok_e H)) rfl rfl rfl rfl (by rw [fin_c rfl, hqe]; omega) (.inr ⟨rfl, rfl⟩)
 have hfr : FR (adA iss) (adB irs) y.b 1 1 1 (some 2048) ⟨cMss mb ma, 2 * cMss mb ma + 1, 65535⟩ (cMss mb ma) false oq0 false false := by
  rw [hb]; exact fr_e rfl rfl
 obtain ⟨_, k, x4, k1, k2, P4, k4, k5, k6⟩ := flow_go (D := 1) P2 hs3 hair (by decide) (fun x e => by cases e; decide) hfs hfr (by omega) (by decide) (by dsimp only; rw [hqa]; omega) (by dsimp only; rw [hqa]; intro _; omega)
 obtain ⟨k6a, k6b, k6c⟩ := k6
 dsimp only at k6a k6b k6c
 rw [hqa] at k6a
 rw [hsh2] at k6b k6c
 rw [hst2] at k6c
 obtain ⟨e4, r4⟩ := (flow_end k4 k5).2 k6b
 rw [k6a] at e4 r4
 obtain ⟨Q, hQ⟩ : ∃ z, z = (H.size : Int) + 2 := ⟨_, rfl⟩
 rw [← hQ] at e4 r4 k6a
 have hst4 : x4.a.st = 5 := by
  rcases e4.st with e | ⟨e, _⟩
  ·exact e
  ·rcases k6c with e' | ⟨_, e' | e'⟩ <;> omega
 have hst4b : x4.b.st = 6 := by have h := r4.st; simpa using h
 have hkt : (0 : Int) ≤ k ∧ (k : Int) ≤ 2200 := by omega
 -- the second one writes
 obtain ⟨cz, y1, y2, y3⟩ := write_g (c := x4.b) hT (.inr hst4b) r4.sh r4.oc
 have hP5 := P4.write1 T (by omega)
 have P5 : PI iss irs (0 + H.size + T.size) (2 + 1 + k + 1) (gh ⟨H, T, ⟨#[]⟩, ⟨#[]⟩, true, false⟩ ⟨x4.a, (cWrite x4.b T).1, x4.p⟩) := by
  have e : (⟨#[]⟩ : ByteArray) ++ T.extract 0 (cWrite x4.b T).2.1.toNat = T := by rw [y2]; exact ext_all T
  have hP4 : PI iss irs (0 + H.size + T.size) (2 + 1 + k + 1) (gh ⟨H, (⟨#[]⟩ : ByteArray) ++ T.extract 0 (cWrite x4.b T).2.1.toNat, ⟨#[]⟩, ⟨#[]⟩, true, false⟩ ⟨x4.a, (cWrite x4.b T).1, x4.p⟩) := hP5
  rw [e] at hP4
  exact hP4
 obtain ⟨x6, so6, P6⟩ := sok_pi P5 (by omega)
 have hs6 : sends ⟨x4.a, (cWrite x4.b T).1, x4.p⟩ = some x6 := by obtain ⟨_, _, _, _, _, _, h, _⟩ := so6; exact h
 obtain ⟨q, hq1, hq2, hq3, hq4, hfs5⟩ := r4.says hmb T hT cz (by omega) (by omega)
 rw [← y1] at hfs5
 obtain ⟨Wa, hWa, hfr5⟩ := e4.hears hst4 (by omega)
 have hqb : qEnd (cWrite x4.b T).1.o = 1 + T.size := by rw [y1]; exact hqt
 have hsh5 : (cWrite x4.b T).1.shut = false := by rw [y1]; exact r4.sh
 have hst5 : (cWrite x4.b T).1.st = 6 := by rw [y1]; exact hst4b
 obtain ⟨_, l, x7, l1, l2, P7, l4, l5, l6⟩ := flow_go_b (D := 1) P5 hs6 k5 (by omega) (fun x e => by cases e) hfs5 hfr5 (by omega) (by decide) (by dsimp only; rw [hqb]; omega) (by dsimp only; rw [hsh5]; exact fun e => by cases e)
 obtain ⟨l6a, l6b, l6c⟩ := l6
 dsimp only at l6a l6b l6c
 rw [hqb] at l6a
 rw [hsh5] at l6b l6c
 rw [hst5] at l6c
 have hst7 : x7.b.st = 6 := by
  rcases l6c with e | ⟨e, _⟩
  ·exact e
  ·cases e
 obtain ⟨w, Ew, f1, f2, f3, f4⟩ := (flow_end_b l4 l5).1 l6b
 rw [l6a] at f1 f2 f3
 obtain ⟨Z, hZ⟩ : ∃ z, z = 1 + (T.size : Int) := ⟨_, rfl⟩
 rw [← hZ] at f1 f2 f3 l6a
 have hlt : (0 : Int) ≤ l ∧ (l : Int) ≤ 2200 := by omega
 have hst7a : x7.a.st = 5 := by have h := f2.st; simpa using h
 -- both read
 obtain ⟨P8, e8, t8, r8, r8'⟩ := read_b P7 rfl f1.wd (by rw [end_over hq2, hq3, hq4]; show Q - 1 - 1 = (H.size : Int); omega) (by show H.size ≤ 5000; omega) (by rw [hst7]; decide)
 obtain ⟨q2, g1, g2, g3, g4, g5, g6⟩ := f2.h
 obtain ⟨P9, e9, t9, r9, r9'⟩ := read_a P8 rfl (show x7.a.h = some (q2, _) from g1) (by rw [end_open g5, g3, g6]; show Z - 1 = (T.size : Int); omega) (by show T.size ≤ 5000; omega) (by show x7.a.st ≠ 0; rw [hst7a]; decide)
 replace e8 : (cRead x7.b 5000).1 = { x7.b with h := some ({ q with rd := q.rd + H.size }, ⟨x7.b.mss, w, 65535⟩) } := e8
 replace e9 : (cRead x7.a 5000).1 = { x7.a with h := some ({ q2 with rd := q2.rd + T.size }, Wa) } := e9
 replace P9 : PI iss irs (0 + H.size + T.size) (2 + 1 + k + 1 + l + 1 + 1) (gh ⟨H, T, T, H, true, false⟩ ⟨(cRead x7.a 5000).1, (cRead x7.b 5000).1, x7.p⟩) := P9
 obtain ⟨a9, ha9⟩ : ∃ z, z = (cRead x7.a 5000).1 := ⟨_, rfl⟩
 obtain ⟨b9, hb9⟩ : ∃ z, z = (cRead x7.b 5000).1 := ⟨_, rfl⟩
 rw [← ha9] at e9 P9
 rw [← hb9] at e8 P9
 have hokb : IqOk { q with rd := q.rd + H.size } := ((P9.ciB).hs _ _ (show b9.h = some _ by rw [e8])).1
 have hoka : IqOk { q2 with rd := q2.rd + T.size } := ((P9.ciA).hs _ _ (show a9.h = some _ by rw [e9])).1
 have hst9b : b9.st = 6 := by rw [e8]; exact hst7
 have hsh9b : b9.shut = false := by rw [e8]; exact l6b
 -- the second one closes
 obtain ⟨cu, u1, u2⟩ := close_g (c := b9) (.inr hst9b) hsh9b
 have P10 : PI iss irs (0 + H.size + T.size) (2 + 1 + k + 1 + l + 1 + 1) (gh ⟨H, T, T, H, true, true⟩ ⟨a9, (cClose b9).1, x7.p⟩) := by
  have e : (false || decide ((cClose b9).2 = 0)) = true := by rw [u2]; rfl
  have h2 : PI iss irs (0 + H.size + T.size) (2 + 1 + k + 1 + l + 1 + 1) (gh ⟨H, T, T, H, true, (false || decide ((cClose b9).2 = 0))⟩ ⟨a9, (cClose b9).1, x7.p⟩) := P9.close1
  rw [e] at h2
  exact h2
 obtain ⟨b10, hb10⟩ : ∃ z, z = (cClose b9).1 := ⟨_, rfl⟩
 rw [← hb10] at P10 u1
 have hu1 : b10 = { x7.b with h := some ({ q with rd := q.rd + H.size }, ⟨x7.b.mss, w, 65535⟩), shut := true, o := { x7.b.o with cl := true }, st := 8, clock := cu } := by
  rw [u1, if_neg (by rw [hst9b]; decide), e8]
 have hf10 : FS (adB irs) (adA iss) b10 { q with rd := q.rd + H.size } Q Z Z w Ew := by
  rw [hu1]
  refine f1.ends hst7 l6b cu hq2 hokb ?_ f1.wd (by rw [l6a]; omega)
  rw [end_over hq2, hq3, hq4]
  omega
 have hr10 : FR (adB irs) (adA iss) a9 Z Q (1 + T.size) none Wa x4.a.mss true x4.a.o false false := by
  rw [e9]
  exact f2.reads g1 hoka
 have hcl7 : x7.b.o.cl = false := f1.cl.trans l6b
 have hq10 : qEnd b10.o = Z + 1 := by
  rw [hu1]
  show qEnd { x7.b.o with cl := true } = _
  rw [fin_c hcl7, l6a]
 have hsh10 : b10.shut = true := by rw [hu1]
 have hst10 : b10.st = 8 := by rw [hu1]
 obtain ⟨x11, so11, P11⟩ := sok_pi P10 (by omega)
 have hs11 : sends ⟨a9, b10, x7.p⟩ = some x11 := by obtain ⟨_, _, _, _, _, _, h, _⟩ := so11; exact h
 obtain ⟨_, j, x12, j1, j2, P12, j4, j5, j6⟩ := flow_go_b (D := 1 + T.size) P10 hs11 l5 (by omega) (fun x e => by cases e) hf10 hr10 (by omega) f4 (by dsimp only; rw [hq10]; omega) (by dsimp only; rw [hq10]; intro _; omega)
 obtain ⟨j6a, j6b, j6c⟩ := j6
 dsimp only at j6a j6b j6c
 rw [hq10] at j6a
 rw [hsh10] at j6b j6c
 rw [hst10] at j6c
 obtain ⟨e12, r12⟩ := (flow_end_b j4 j5).2 j6b
 rw [j6a] at e12 r12
 have hst12 : x12.b.st = 0 ∧ x12.b.why = 0 := by
  rcases e12.st with e | e
  ·rcases j6c with e' | ⟨_, e' | e'⟩ <;> omega
  ·exact e
 have hst12a : x12.a.st = 9 := by have h := r12.st; simpa using h
 obtain ⟨tk1, tk2⟩ := tick_end r12
 have hjt : (0 : Int) ≤ j ∧ (j : Int) ≤ 2200 := by omega
 have hn12 : x12.a.now ≤ 100000000000 := by
  have := P12.na
  have h2 : (gh ⟨H, T, T, H, true, true⟩ x12).a.now = x12.a.now := rfl
  omega
 refine ⟨x3, x4, x6, x7, x11, x12, ?_⟩
 refine { wn := w2, we := w3, c1 := ⟨2 + 1, by decide, ?_⟩, ce := ?_, s3 := ?_, q4 := ⟨k, by omega, k2⟩, c4 := ⟨2 + 1 + k, by omega, P4.ciB⟩, wn2 := y2, we2 := y3, s6 := so6, q7 := ⟨l, by omega, l2⟩, c7b := ⟨2 + 1 + k + 1 + l, by omega, P7.ciB⟩, rb := ?_, c7a := ⟨2 + 1 + k + 1 + l, by omega, P7.ciA⟩, ra := ?_, st9a := ?_, st9b := ?_, c9 := ⟨2 + 1 + k + 1 + l + 1 + 1, by omega, ?_⟩, ce2 := ?_, s11 := ?_, q12 := ⟨j, by omega, j2⟩, st12b := hst12.1, wy12b := hst12.2, st12a := hst12a, c12 := ⟨2 + 1 + k + 1 + l + 1 + 1 + j, by omega, P12.ciA⟩, n12 := hn12, ts := tk1, tw := tk2 }
 ·rw [← hc1]; exact P1.ciA
 ·rw [← hc1]; exact z2
 ·rw [← hc1, ← ha2]; exact so3
 ·by_cases h0 : H.size = 0
  ·have h1 := r8' h0
   rw [hq2, if_pos rfl] at h1
   rw [decide_eq_true h0]
   exact Prod.ext t8 h1
  ·rw [decide_eq_false h0]
   exact Prod.ext t8 (r8 h0)
 ·by_cases h0 : T.size = 0
  ·have h1 := r9' h0
   rw [g5, if_neg (by decide)] at h1
   rw [if_pos h0]
   exact Prod.ext t9 h1
  ·rw [if_neg h0]
   exact Prod.ext t9 (r9 h0)
 ·rw [← ha9, e9]; exact hst7a
 ·rw [← hb9]; exact hst9b
 ·rw [← hb9]; exact P9.ciB
 ·rw [← hb9]; exact u2
 ·rw [← ha9, ← hb9, ← hb10]; exact so11
end Go.Proofs.Ytfpifahkpkjfgaa
