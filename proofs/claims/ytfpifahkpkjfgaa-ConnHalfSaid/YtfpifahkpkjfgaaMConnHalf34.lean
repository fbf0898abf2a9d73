/- What ConnHalf needs, a part: RowF, CnPb, CnPc. -/
import Derived.Deep.CutBlock
import Derived.Test.YtfpifahkpkjfgaaMZ
import Derived.Test.YtfpifahkpkjfgaaMConnHalf1
import Derived.Test.YtfpifahkpkjfgaaMConnHalf4
import Derived.Test.YtfpifahkpkjfgaaMConnHalf10
import Derived.Test.YtfpifahkpkjfgaaMConnHalf22
import Derived.Test.YtfpifahkpkjfgaaMConnHalf32
import Derived.Test.YtfpifahkpkjfgaaMConnHalf33
/- One cell of a struct in a row read; two cells of a thing written at once. -/
namespace Go.Proofs.Ytfpifahkpkjfgaa
open Go.RowKit
set_option linter.unusedVariables false
set_option linter.unusedSectionVars false
theorem flat_get {α : Type} {f : α → List Value} {size : Nat} : ∀ (rs : List α) (i j : Nat) (r : α) (v : Value), (∀ r ∈ rs, (f r).length = size) → rs[i]? = some r → (f r)[j]? = some v → (rs.flatMap f)[i * size + j]? = some v
  | [], i, j, r, v, _, h, _ => by cases h
  | q :: rs, 0, j, r, v, hf, h, hv => by
    have e : q = r := by simpa using h
    subst e
    rw [List.flatMap_cons, Nat.zero_mul, Nat.zero_add, List.getElem?_append_left (by have := (List.getElem?_eq_some_iff.1 hv).1; exact this)]
    exact hv
  | q :: rs, i + 1, j, r, v, hf, h, hv => by
    have hq := hf q List.mem_cons_self
    rw [List.flatMap_cons, List.getElem?_append_right (by rw [hq, Nat.succ_mul]; omega), hq, show (i + 1) * size + j - size = i * size + j by rw [Nat.succ_mul]; omega]
    exact flat_get rs i j r v (fun r hr => hf r (List.mem_cons_of_mem _ hr)) (by simpa using h) hv
section
variable {E : Nat → Prop} {P : Program} {ops : Array Oper} {rest : List Oper} {op : Oper} {a : Act} {w0 w : World} {Q : Exit → Act → World → Prop} {l : List Res}
theorem row_cell {α : Type} {f : α → List Value} {size g off n cap : Nat} {rs : List α} (k i j : Nat) (r : α) (v : Value) (hM : MemX E w0 w l) (hk : l[k]? = some (rowR size f (.slice (some ⟨g, off, none⟩) n cap) rs))
  (hf : ∀ r ∈ rs, (f r).length = size) (hr : rs[i]? = some r) (hv : (f r)[j]? = some v) : w.cell? ⟨g, off + i * size + j, none⟩ = some v := by
 have hW : Win w 0 size (.slice (some ⟨g, off, none⟩) n cap) rs.length (rs.flatMap f) := hM.row k hk
 have hi := (List.getElem?_eq_some_iff.1 hr).1
 obtain ⟨g', off', cap', e, hA⟩ := hW.pos (by omega)
 injection e with e1 _ e3
 injection e1 with e1
 injection e1 with e4 e5 _
 subst e4; subst e5; subst e3
 have h := hA.here (i * size + j) v (flat_get rs i j r v hf hr hv)
 rw [← Nat.add_assoc] at h
 exact h
/-- one field of the i-th struct of a row -/
theorem wpList_loadrf {α : Type} {f : α → List Value} {size g off n cap : Nat} {rs : List α} (hgd : Region.wanted op (yielded ops a.tmps) = true) (T : TypeId) (x : Operand) (ho : op.op = .load T x) (hrow : (P.underlying T).map (·.isRow) = some false) (k i j : Nat) (r : α) (v : Value) (hM : MemX E w0 w l) (hk : l[k]? = some (rowR size f (.slice (some ⟨g, off, none⟩) n cap) rs))
    (hf : ∀ r ∈ rs, (f r).length = size) (hr : rs[i]? = some r) (hx : a.eval x = .pointer (some ⟨g, off + i * size + j, none⟩)) (hv : (f r)[j]? = some v) (h : wpList P ops Q rest (a.put op.dst v) w) : wpList P ops Q (op :: rest) a w := by
  cases hu : P.underlying T with
  | none => rw [hu] at hrow; cases hrow
  | some d =>
    rw [hu] at hrow
    refine wpList_step fun K hK => ?_
    rw [if_pos hgd]
    unfold Oper.wp execOp
    simp only [ho, hx, Instr.loadAt, Instr.sureAddr, Sem.run_bind, Sem.run_pure, Result.andThen_ok, run_loadVar_one g (off + i * size + j) T v (row_cell k i j r v hM hk hf hr hv) hu (Option.some.inj hrow)]
    exact hK _ _ h
/-- two cells of what is known, written -/
theorem wpList_store2_mem (hgd : op.guard = none) (T : TypeId) (x y : Operand) (ho : op.op = .store T x y) (k : Nat) (g : Nat) (t : TypeId) (cs : List Value) (i : Nat) (v1 v2 : Value) (hM : MemX E w0 w l) (hk : l[k]? = some (atR g t cs)) (hx : a.eval x = .pointer (some ⟨g, i, none⟩)) (hy : a.eval y = .agg #[v1, v2])
  (h1 : v1.oneCell' = true) (h2 : v2.oneCell' = true) (hi : (P.info? T).map (·.size) = some 2) (hlt : i + 1 < cs.length)
  (h : ∀ W, MemX E w0 W (l.set k (atR g t ((cs.set i v1).set (i + 1) v2))) → wpList P ops Q rest (a.put op.dst undef) W) : wpList P ops Q (op :: rest) a w := by
 have hA := hM.at_ k hk
 have ht : w.there g i (#[v1, v2] : Array Value).size := fun j hj => by
  have hj' : i + j < cs.length := by
   have : j < 2 := hj
   omega
  exact ⟨by rw [hA.cell, List.getElem?_eq_getElem hj']; rfl, hA.free _⟩
 refine wpList_store_mid hgd T x y ho g i #[v1, v2] hx hy ht (by exact hi) (all_oneCell_toArray (cs := [v1, v2]) (fun v hv => by
  rcases List.mem_cons.1 hv with rfl | hv
  ·exact h1
  ·rw [List.mem_singleton.1 hv]; exact h2)) (h _ ?_)
 have e : w.setCells g i [v1, v2] = (w.setCell ⟨g, i, none⟩ v1).setCell ⟨g, i + 1, none⟩ v2 := rfl
 rw [show (#[v1, v2] : Array Value).toList = [v1, v2] from rfl, e]
 exact hM.atPut k hk (only_set (p := ⟨g, i + 1, none⟩) (only_set (p := ⟨g, i, none⟩) (only_refl w (some g)) (.inl rfl) v1) (.inl rfl) v2) ((hA.set_ i v1).set_ (i + 1) v2)
end
end Go.Proofs.Ytfpifahkpkjfgaa
/- conn: paired, Ready. Written by my gencn.py. -/
namespace Go.Proofs.Ytfpifahkpkjfgaa
open Go.RowKit Go.Lib
set_option linter.unusedVariables false
set_option linter.unusedSimpArgs false
theorem cn_front {E : Nat → Prop} {w W : World} {gc gi gw : Nat} {c : KCn} {k : KPt} {A : List Res} (h : MemX E w W (A ++ cnL gc gi gw c k [])) : MemX E w W (cnL gc gi gw c k A) := by
 rw [cnL_eq, List.append_nil] at h
 rw [cnL_eq]
 exact h.perm List.perm_append_comm
theorem row_one {E : Nat → Prop} {w W : World} {v : Value} {g : KSeg} {m : List Res} (h : MemX E w W (rowR 13 cSeg v [g] :: m)) : ∃ b off q, v = .slice (some ⟨b, off, none⟩) 1 q := by
 obtain ⟨g', off', cap', e, _⟩ := (h.row (f := cSeg) (rs := [g]) 0 rfl).pos (by show 0 < 1; decide)
 exact ⟨g', off', cap', e⟩
theorem pr_make {E : Nat → Prop} {w W : World} {A B : List Res} {r g p n : Res} (h : MemX E w W ((r :: ((A ++ [g, p]) ++ B)) ++ [n])) : MemX E w W (p :: n :: (A ++ (B ++ []))) := by
 have h2 : MemX E w W ([r, g] ++ (p :: n :: (A ++ (B ++ [])))) := by
  refine h.perm ?_
  simp only [List.cons_append, List.append_assoc, List.nil_append, List.append_nil]
  refine List.Perm.cons r ?_
  refine (List.perm_middle).trans (List.Perm.cons g ?_)
  refine (List.perm_middle).trans (List.Perm.cons p ?_)
  rw [← List.append_assoc]
  exact List.perm_append_comm (l₂ := [n])
 exact h2.drop_
instance (n : Int) : Decidable (okP n) := by unfold okP; infer_instance
def pa0 : KPa := ⟨[], ⟨#[]⟩, ⟨#[]⟩, ⟨#[]⟩, ⟨#[]⟩, false, false, false, false, 0, 0, false, false, false⟩
def prC0 : List Value := [.pointer none, .pointer none, .int .u32 1, .int .i64 40000, .int .u32 2, .int .i64 80, .slice none 0 0, .string ⟨#[]⟩, .string ⟨#[]⟩, .string ⟨#[]⟩, .string ⟨#[]⟩, .bool false, .bool false, .bool false, .bool false, .int .u32 0, .int .u32 0, .bool false, .bool false, .bool false]
def pr0 (iss irs ma mb : Int) : KPr := ⟨cA1 1 40000 2 80 iss ma, cTake 2 80 (gSyn 1 40000 2 80 iss ma) irs mb, pa0⟩
def KPl.ok (l : KPl) (x : KPr) : Prop := KOk l.ka l.gia l.gwa x.a.h ∧ KOk l.kb l.gib l.gwb x.b.h
theorem syn_ok {la lp ra rp iss mss : Int} (h1 : 0 ≤ la ∧ la ≤ 4294967295) (h2 : okP lp) (h3 : 0 ≤ ra ∧ ra ≤ 4294967295) (h4 : okP rp) (hi : 0 ≤ iss ∧ iss ≤ 4294967295) (hm : 8 ≤ mss ∧ mss ≤ 1000) : SegOk (gSyn la lp ra rp iss mss) := by
 unfold okP at h2 h4
 refine ⟨h1, ⟨?_, ?_⟩, h3, ⟨?_, ?_⟩, hi, ?_, ?_, ⟨?_, ?_⟩, ?_⟩ <;> simp only [gSyn] <;> first | omega | decide
theorem dial_cok {la lp ra rp iss mss : Int} (hm : 8 ≤ mss ∧ mss ≤ 1000) (hi : 0 ≤ iss ∧ iss ≤ 4294967295) : COk { cNew la lp ra rp iss mss with st := 1 } := (CI.begin la lp ra rp iss mss hi hm).cok (by decide)
set_option maxRecDepth 100000 in
set_option maxHeartbeats 8000000 in
theorem paired_any (iss irs a b : Int) (w : World) (hi : 0 ≤ iss) (hi' : iss ≤ 4294967295) (hj : 0 ≤ irs) (hj' : irs ≤ 4294967295) (ha : -9223372036854775808 ≤ a) (ha' : a ≤ 9223372036854775807) (hb : -9223372036854775808 ≤ b) (hb' : b ≤ 9223372036854775807) :
  Calls Try.prog 20 #[.int .u32 iss, .int .u32 irs, .agg #[.int .i64 a, .int .i64 b]] w fun e w' => ∃ l : KPl, e = .returned (.tuple #[.pointer (some ⟨l.gp, 0, none⟩), .bool true]) ∧ Mem w w' (prM l (pr0 iss irs (8 + a % 993) (8 + b % 993)) []) ∧ l.ok (pr0 iss irs (8 + a % 993) (8 + b % 993)) := by
 have hM := Mem.nil w
 have HRA := Lib.hid (fun W => Rest_any a 993 W ha ha' (by decide) (by decide))
 have HRB := Lib.hid (fun W => Rest_any b 993 W hb hb' (by decide) (by decide))
 obtain ⟨ra, hra⟩ : ∃ z, z = a % 993 := ⟨_, rfl⟩
 obtain ⟨rb, hrb⟩ : ∃ z, z = b % 993 := ⟨_, rfl⟩
 have hza : 0 ≤ ra ∧ ra ≤ 992 := by omega
 have hzb : 0 ≤ rb ∧ rb ≤ 992 := by omega
 rw [← hra] at HRA ⊢
 rw [← hrb] at HRB ⊢
 obtain ⟨ma, hma⟩ : ∃ z, z = 8 + ra := ⟨_, rfl⟩
 obtain ⟨mb, hmb⟩ : ∃ z, z = 8 + rb := ⟨_, rfl⟩
 have HA := Lib.hid (show 8 ≤ ma ∧ ma ≤ 1000 by omega)
 have HB := Lib.hid (show 8 ≤ mb ∧ mb ≤ 1000 by omega)
 have HMA := Lib.hid (show 0 ≤ ra ∧ ra ≤ 992 ∧ 8 + ra = ma by omega)
 have HMB := Lib.hid (show 0 ≤ rb ∧ rb ≤ 992 ∧ 8 + rb = mb by omega)
 rw [← hma, ← hmb]
 have HI := Lib.hid (show 0 ≤ iss ∧ iss ≤ 4294967295 from ⟨hi, hi'⟩)
 have HJ := Lib.hid (show 0 ≤ irs ∧ irs ≤ 4294967295 from ⟨hj, hj'⟩)
 have HDI := Lib.hid (fun W => Dial_ok 1 40000 2 80 iss ma W (by decide) (by decide) HA.out)
 have HTA := Lib.hid (fun W => Take_ok 2 80 (gSyn 1 40000 2 80 iss ma) irs mb W (by decide) HB.out (chk_syn (by decide) (by decide) HA.out) ⟨rfl, rfl⟩ rfl rfl (syn_ok (by decide) (by decide) (by decide) (by decide) HI.out HA.out))
 have HOU := Lib.hid (fun (W : World) (go gt gc : Nat) (M : List Res) (h : MemX noE w W (cnL gc 0 0 { cNew 1 40000 2 80 iss ma with st := 1 } (kNew go gt) M)) => (by
  have h2 := out_all gc 0 0 { cNew 1 40000 2 80 iss ma with st := 1 } (kNew go gt) M W h ⟨rfl, rfl⟩ (dial_cok HA.out HI.out) (Nat.zero_le _) (fun n hn => by cases hn)
  rw [out_dial HI.out HA.out.1] at h2
  exact h2 : Calls Try.prog 15 #[.pointer (some ⟨gc, 0, none⟩)] W fun e w' => ∃ v k', e = .returned v ∧ MemX noE w w' (rowR 13 cSeg v [gSyn 1 40000 2 80 iss ma] :: cnL gc 0 0 (cA1 1 40000 2 80 iss ma) k' M) ∧ KOk k' 0 0 (cA1 1 40000 2 80 iss ma).h))
 clear hra hrb hma hmb hza hzb ha ha' hb hb' hi hi' hj hj'
 have tii : ((gSyn 1 40000 2 80 iss ma).seq != iss) = false := by simp [gSyn]
 go_enter Try.func20, Try.ntmps20
 go_upto_region 1 with (first | go_skip | ((with_reducible refine at_box_ ?_); refine wpList_box_mem rfl _ _ rfl [.int .i64 a, .int .i64 b] rfl hM ?_; clear hM; intro gb W hM; first | (simp only [List.nil_append] at hM) | (simp only [List.cons_append, List.nil_append] at hM)))
 obtain ⟨gm, hgm⟩ : ∃ x, x = gb := ⟨_, rfl⟩
 subst hgm
 go_upto_region 2 with (first | go_skip | ((with_reducible refine at_box_ ?_); refine wpList_box_mem rfl _ _ rfl prC0 rfl hM ?_; clear hM; intro gb W hM; first | (simp only [List.nil_append] at hM) | (simp only [List.cons_append, List.nil_append] at hM)))
 obtain ⟨gp, hgp⟩ : ∃ x, x = gb := ⟨_, rfl⟩
 subst hgp
 (go_wp2_with fail)
 go_loopg [19] 2 (fun gh v wr => ∃ t x y : Int, gh = (2 - t).toNat ∧ v = .int .i64 t ∧ ((t = 0 ∧ a = x ∧ b = y) ∨ (t = 1 ∧ ma = x ∧ b = y) ∨ (t = 2 ∧ ma = x ∧ mb = y)) ∧ Mem w wr [atR gm 43 [.int .i64 x, .int .i64 y], atR gp 51 prC0])
 case atStart => exact ⟨0, a, b, rfl, rfl, .inl ⟨rfl, rfl, rfl⟩, hM⟩
 case round =>
  clear hM
  obtain ⟨t, x, y, hgh, rfl, ht3, hM⟩ := hrel
  have HGH := Lib.hid hgh
  clear hgh
  rcases ht3 with ⟨rfl, rfl, rfl⟩ | ⟨rfl, rfl, rfl⟩ | ⟨rfl, rfl, rfl⟩
  ·have hz := HMA.out
   obtain ⟨hz1, hz2, hz3⟩ := hz
   go_wp2_with (first | go_skip | ((with_reducible refine at_load_ ?_); refine at_wanted_ (by rfl) ?_; first | (refine lM 0 hM rfl rfl rfl rfl ?_)) | (go_at_call 13; refine (HRA.out _).mono ?_; rintro e W ⟨rfl, rfl⟩; dsimp only) | ((with_reducible refine at_store_ ?_); refine sM 0 hM rfl rfl rfl ?_; clear hM; intro W hM; simp only [zF, zE] at hM))
   go_roundg 1
   case measure => have h := HGH.out; omega
   case rel => exact ⟨1, _, _, rfl, rfl, .inr (.inl ⟨rfl, rfl, rfl⟩), hM⟩
  ·have hz := HMB.out
   obtain ⟨hz1, hz2, hz3⟩ := hz
   go_wp2_with (first | go_skip | ((with_reducible refine at_load_ ?_); refine at_wanted_ (by rfl) ?_; first | (refine lM 0 hM rfl rfl rfl rfl ?_)) | (go_at_call 13; refine (HRB.out _).mono ?_; rintro e W ⟨rfl, rfl⟩; dsimp only) | ((with_reducible refine at_store_ ?_); refine sM 0 hM rfl rfl rfl ?_; clear hM; intro W hM; simp only [zF, zE] at hM))
   go_roundg 0
   case measure => have h := HGH.out; omega
   case rel => exact ⟨2, _, _, rfl, rfl, .inr (.inr ⟨rfl, rfl, rfl⟩), hM⟩
  ·go_upto_region 7 with (fail)
   refine wp_region_M [0,1] [] hM (by kernel_rfl) ?_
   clear hM
   intro wo hM
   refine tW 0 rfl ?_
   simp only [zz]
   refine tW 1 rfl ?_
   simp only [zz]
   refine tW 2 rfl ?_
   simp only [zz]
   refine tW 3 rfl ?_
   simp only [zz]
   refine tL 4 (v := .agg #[.int .u32 1, .int .i64 40000]) rfl ⟨fun r hr => hM.get 0 hr, fun r hr => hM.get 1 hr, trivial⟩ (Or.inl ⟨by rfl, ?hy⟩) ?_
   case hy => (rintro W ⟨i0, i1, -⟩; have c0 := (show At W _ _ _ from i0 _ rfl).cell; have c1 := (show At W _ _ _ from i1 _ rfl).cell; (try simp only [prC0] at c0 c1); exact exec_loadw _ _ rfl gp 2 rfl [.int .u32 1, .int .i64 40000] _ Try.underlying29 rfl sz_End (range_sub (cs := prC0) c1 2 _ rfl))
   simp only [zz]
   refine tW 5 rfl ?_
   simp only [zz]
   refine tW 6 rfl ?_
   simp only [zz]
   refine tW 7 rfl ?_
   simp only [zz]
   refine tW 8 rfl ?_
   simp only [zz]
   refine tL 9 (v := .agg #[.int .u32 2, .int .i64 80]) rfl ⟨fun r hr => hM.get 0 hr, fun r hr => hM.get 1 hr, trivial⟩ (Or.inl ⟨by rfl, ?hy⟩) ?_
   case hy => (rintro W ⟨i0, i1, -⟩; have c0 := (show At W _ _ _ from i0 _ rfl).cell; have c1 := (show At W _ _ _ from i1 _ rfl).cell; (try simp only [prC0] at c0 c1); exact exec_loadw _ _ rfl gp 4 rfl [.int .u32 2, .int .i64 80] _ Try.underlying29 rfl sz_End (range_sub (cs := prC0) c1 4 _ rfl))
   simp only [zz]
   refine tW 10 rfl ?_
   simp only [zz]
   refine tW 11 rfl ?_
   simp only [zz]
   refine tL 12 (v := ?_) rfl ⟨fun r hr => hM.get 0 hr, fun r hr => hM.get 1 hr, trivial⟩ (Or.inl ⟨by rfl, ?hy⟩) ?_
   case hy => (rintro W ⟨i0, i1, -⟩; have c0 := (show At W _ _ _ from i0 _ rfl).cell; have c1 := (show At W _ _ _ from i1 _ rfl).cell; (try simp only [prC0] at c0 c1); go_simp; (try with_reducible rfl))
   simp only [zz]
   refine wpI_one (i := 13) rfl (by kernel_rfl) ?_
   (try simp only [zz])
   go_wp2_with (first
     | go_skip
     | ((go_at_call 14; refine (HDI.out _).mono ?_; rintro e W ⟨ga, go, gt, rfl, hN⟩; replace hM := MemX.perm (hM.new_ hN) List.perm_append_comm; clear hN; simp only [List.cons_append, List.nil_append] at hM; dsimp only)))
   refine contI_normal ⟨fun r hr => hM.get 0 hr, fun r hr => hM.get 1 hr, trivial⟩ ?_
   (try simp only [zz])
   refine tW 14 rfl ?_
   simp only [zz]
   refine tW 15 rfl ?_
   simp only [zz]
   refine tW 16 rfl ?_
   simp only [zz]
   refine tW 17 rfl ?_
   simp only [zz]
   refine tW 18 rfl ?_
   simp only [zz]
   refine wpI_done (by kernel_rfl) ?_ _
   (try simp only [zz])
   replace hM := cn_front (A := [_, _]) hM
   go_upto_region 11 with (first | go_skip | (go_at_call 15; refine (HOU.out _ go gt ga _ hM).mono ?_; clear hM; rintro e W ⟨v, ka, rfl, hM, hK⟩; have HKA := Lib.hid hK; clear hK; obtain ⟨gr, off, q, rfl⟩ := row_one hM; dsimp only))
   go_upto_region 13 with (first | go_skip | ((with_reducible refine at_load_ ?_); refine at_wanted_ (by rfl) ?_; first | (refine wpList_loadrf (by go_simp) _ _ rfl (by kernel_rfl) 0 0 6 (gSyn 1 40000 2 80 iss ma) _ hM rfl (fun _ _ => rfl) rfl rfl (by first  | rfl) ?_) | (refine wpList_loadrf (by go_simp) _ _ rfl (by kernel_rfl) 0 0 7 (gSyn 1 40000 2 80 iss ma) _ hM rfl (fun _ _ => rfl) rfl rfl (by first  | rfl) ?_) | (refine wpList_loadrf (by go_simp) _ _ rfl (by kernel_rfl) 0 0 4 (gSyn 1 40000 2 80 iss ma) _ hM rfl (fun _ _ => rfl) rfl rfl (by first  | rfl) ?_)))
   have HW0 := Lib.hid (fun (W : World) (h : (rowR 13 cSeg (.slice (some ⟨gr, off, none⟩) 1 q) [gSyn 1 40000 2 80 iss ma]).P W) => h)
   refine wp_region_M [0,6,7] [] hM (by kernel_rfl) ?_
   clear hM
   intro wo hM
   refine tW 0 rfl ?_
   simp only [zz]
   refine tW 1 rfl ?_
   simp only [zz]
   refine tW 2 rfl ?_
   simp only [zz]
   refine tW 3 rfl ?_
   simp only [zz]
   refine tL 4 (v := .agg #[.int .u32 2, .int .i64 80]) rfl ⟨fun r hr => hM.get 0 hr, fun r hr => hM.get 6 hr, fun r hr => hM.get 7 hr, trivial⟩ (Or.inl ⟨by rfl, ?hy⟩) ?_
   case hy => (rintro W ⟨i0, i6, i7, -⟩; have c0 := HW0.out W (i0 _ rfl); have c6 := (show At W _ _ _ from i6 _ rfl).cell; have c7 := (show At W _ _ _ from i7 _ rfl).cell; (try simp only [prC0] at c6 c7); exact exec_loadw _ _ rfl gp 4 rfl [.int .u32 2, .int .i64 80] _ Try.underlying29 rfl sz_End (range_sub (cs := prC0) c7 4 _ rfl))
   simp only [zz]
   refine tW 5 rfl ?_
   simp only [zz]
   refine tW 6 rfl ?_
   simp only [zz]
   refine tL 7 (v := .agg (cSeg (gSyn 1 40000 2 80 iss ma)).toArray) rfl ⟨fun r hr => hM.get 0 hr, fun r hr => hM.get 6 hr, fun r hr => hM.get 7 hr, trivial⟩ (Or.inl ⟨by rfl, ?hy⟩) ?_
   case hy => (rintro W ⟨i0, i6, i7, -⟩; have c0 := HW0.out W (i0 _ rfl); have c6 := (show At W _ _ _ from i6 _ rfl).cell; have c7 := (show At W _ _ _ from i7 _ rfl).cell; (try simp only [prC0] at c6 c7); exact exec_loadw _ _ rfl gr (off + 0 * 13) rfl (cSeg (gSyn 1 40000 2 80 iss ma)) _ Try.underlying33 rfl sz_Seg (row_range (f := cSeg) (size := 13) (rs := [gSyn 1 40000 2 80 iss ma]) (fun _ => rfl) (i0 _ rfl) 0 _ rfl))
   simp only [zz]
   refine tW 8 rfl ?_
   simp only [zz]
   refine tW 9 rfl ?_
   simp only [zz]
   refine tL 10 (v := ?_) rfl ⟨fun r hr => hM.get 0 hr, fun r hr => hM.get 6 hr, fun r hr => hM.get 7 hr, trivial⟩ (Or.inl ⟨by rfl, ?hy⟩) ?_
   case hy => (rintro W ⟨i0, i6, i7, -⟩; have c0 := HW0.out W (i0 _ rfl); have c6 := (show At W _ _ _ from i6 _ rfl).cell; have c7 := (show At W _ _ _ from i7 _ rfl).cell; (try simp only [prC0] at c6 c7); go_simp; (try with_reducible rfl))
   simp only [zz]
   refine wpI_one (i := 11) rfl (by kernel_rfl) ?_
   (try simp only [zz])
   go_wp2_with (first
     | go_skip
     | ((go_at_call 50; refine (HTA.out _).mono ?_; rintro e W ⟨gb, gib, gwb, kb, rfl, hN, hK⟩; have HKB := Lib.hid hK; clear hK; replace hM := MemX.perm (hM.new_ hN) List.perm_append_comm; clear hN; simp only [List.cons_append, List.nil_append] at hM; dsimp only)))
   refine contI_normal ⟨fun r hr => hM.get 0 hr, fun r hr => hM.get 6 hr, fun r hr => hM.get 7 hr, trivial⟩ ?_
   (try simp only [zz])
   refine tW 12 rfl ?_
   simp only [zz]
   refine tW 13 rfl ?_
   simp only [zz]
   refine tW 14 rfl ?_
   simp only [zz]
   refine tW 15 rfl ?_
   simp only [zz]
   refine tW 16 rfl ?_
   simp only [zz]
   refine wpI_done (by kernel_rfl) ?_ _
   (try simp only [zz])
   go_wp2_with (first | go_skip | ((with_reducible refine at_store_ ?_); refine wpList_store2_mem rfl _ _ _ rfl 7 _ _ _ 0 _ _ hM rfl rfl rfl rfl rfl (by kernel_rfl) (by decide) ?_; clear hM; intro W hM))
   go_ret2
   refine ⟨⟨gp, ga, 0, 0, ka, gb, gib, gwb, kb, .slice none 0 0⟩, rfl, ?_, HKA.out, HKB.out⟩
   have hM2 : Mem w W ((rowR 13 cSeg (.slice (some ⟨gr, off, none⟩) 1 q) [gSyn 1 40000 2 80 iss ma] :: ((cnH ga 0 0 (cA1 1 40000 2 80 iss ma) ka ++ [atR gm 43 [.int .i64 ma, .int .i64 mb], prR gp ga gb (.slice none 0 0) pa0]) ++ cnH gb gib gwb (cTake 2 80 (gSyn 1 40000 2 80 iss ma) irs mb) kb)) ++ [rowR 13 cSeg (.slice none 0 0) []]) := by
    rw [← List.append_nil (cnH gb gib gwb (cTake 2 80 (gSyn 1 40000 2 80 iss ma) irs mb) kb)]
    exact MemX.rowNil hM 13 cSeg
   exact pr_make hM2
end Go.Proofs.Ytfpifahkpkjfgaa
/- conn: calls of a connection that lies among other things; what always holds of two that meet. -/
namespace Go.Proofs.Ytfpifahkpkjfgaa
open Go.RowKit Go.Lib
set_option linter.unusedVariables false
set_option linter.unusedSimpArgs false
set_option linter.unusedSectionVars false
section
variable {E : Nat → Prop} {w W : World} {gc gi gw : Nat} {c : KCn} {k : KPt}
theorem cn_at {F m : List Res} (h : MemX E w W (F ++ (cnH gc gi gw c k ++ m))) : MemX E w W (cnL gc gi gw c k (F ++ m)) := by
 rw [cnL_eq]
 exact h.perm (List.perm_append_comm_assoc F (cnH gc gi gw c k) m)
theorem cn_un {F m : List Res} (h : MemX E w W (cnL gc gi gw c k (F ++ m))) : MemX E w W (F ++ (cnH gc gi gw c k ++ m)) := by
 rw [cnL_eq] at h
 exact h.perm (List.perm_append_comm_assoc (cnH gc gi gw c k) F m)
theorem outF (F m : List Res) {t : Int} (h : MemX E w W (F ++ (cnH gc gi gw c k ++ m))) (hk : KOk k gi gw c.h) (hc : CI c t) (ht : t ≤ 1000000000000) :
  Calls Try.prog 15 #[.pointer (some ⟨gc, 0, none⟩)] W fun e W' => ∃ v k', e = .returned v ∧ MemX E w W' (rowR 13 cSeg v (cOut c).2 :: (F ++ (cnH gc gi gw (cOut c).1 k' ++ m))) ∧ KOk k' gi gw (cOut c).1.h := by
 refine (out_all gc gi gw c k (F ++ m) W (cn_at h) hk (hc.cok (by omega)) (by have := hc.rsl; omega) hc.rsu).mono ?_
 rintro e W' ⟨v, k', rfl, h2, hk'⟩
 have h3 : MemX E w W' (cnL gc gi gw (cOut c).1 k' ((rowR 13 cSeg v (cOut c).2 :: F) ++ m)) := by
  rw [cnL_eq] at h2 ⊢
  exact h2.perm (List.perm_middle (l₁ := cnH gc gi gw (cOut c).1 k')).symm
 exact ⟨v, k', rfl, cn_un h3, hk'⟩
theorem inF (F m : List Res) {t : Int} (h : MemX E w W (F ++ (cnH gc gi gw c k ++ m))) (hk : KOk k gi gw c.h) (hc : CI c t) (ht : t ≤ 1000000000000) (g : KSeg) (hg : SegOk g) :
  Calls Try.prog 19 #[.pointer (some ⟨gc, 0, none⟩), .agg (cSeg g).toArray] W fun e W' => ∃ gi' gw' k', e = .returned (.int .i64 (cInE c g)) ∧ MemX E w W' (F ++ (cnH gc gi' gw' (cIn c g) k' ++ m)) ∧ KOk k' gi' gw' (cIn c g).h := by
 refine (cIn_any gc gi gw c k (F ++ m) W (cn_at h) hk (hc.cin ht) g hg).mono ?_
 rintro e W' ⟨gi', gw', k', rfl, h2, hk'⟩
 exact ⟨gi', gw', k', rfl, cn_un h2, hk'⟩
theorem stateF (F m : List Res) (h : MemX E w W (F ++ (cnH gc gi gw c k ++ m))) :
  Calls Try.prog 16 #[.pointer (some ⟨gc, 0, none⟩)] W fun e W' => e = .returned (.int .i64 c.st) ∧ W = W' :=
 State_any gc c k W ((cn_at h).at_ 2 rfl)
theorem whyF (F m : List Res) (h : MemX E w W (F ++ (cnH gc gi gw c k ++ m))) :
  Calls Try.prog 17 #[.pointer (some ⟨gc, 0, none⟩)] W fun e W' => e = .returned (.int .i64 c.why) ∧ W = W' :=
 Why_any gc c k W ((cn_at h).at_ 2 rfl)
theorem tickF (F m : List Res) {t : Int} (h : MemX E w W (F ++ (cnH gc gi gw c k ++ m))) (hk : KOk k gi gw c.h) (hc : CI c t) (ht : t ≤ 1000000000000) (n : Int) (hn : 0 ≤ n) (hn2 : n ≤ 1099511627776 - c.now) :
  Calls Try.prog 18 #[.pointer (some ⟨gc, 0, none⟩), .int .i64 n] W fun e W' => e = .returned (.int .i64 0) ∧ MemX E w W' (F ++ (cnH gc gi gw (cTick c n) k ++ m)) ∧ KOk k gi gw (cTick c n).h := by
 refine (tick_all gc gi gw c k (F ++ m) W n (cn_at h) hk (hc.cok (by omega)) hn hn2).mono ?_
 rintro e W' ⟨rfl, h2, hk'⟩
 exact ⟨rfl, cn_un h2, hk'⟩
end
section
variable {la lp ra rp iss irs own m : Int}
theorem ci_a1 (hi : 0 ≤ iss ∧ iss ≤ 4294967295) (hm : 8 ≤ own ∧ own ≤ 1000) : CI (cA1 la lp ra rp iss own) 0 := by
 have h := (CI.begin la lp ra rp iss own hi hm).out.1
 rw [out_dial hi hm.1] at h
 exact h
theorem ci_take (hi : 0 ≤ iss ∧ iss ≤ 4294967295) (hm : 8 ≤ own ∧ own ≤ 1000) (g : KSeg) (hw : 0 ≤ g.win ∧ g.win ≤ 65535) (hgs : 0 ≤ g.seq ∧ g.seq ≤ 4294967295) : CI (cTake la lp g iss own) 0 := by
 have h := ((CI.begin la lp g.fa g.fp iss own hi hm).cj.syn g rfl hw hgs).1.i
 exact h
end
end Go.Proofs.Ytfpifahkpkjfgaa
