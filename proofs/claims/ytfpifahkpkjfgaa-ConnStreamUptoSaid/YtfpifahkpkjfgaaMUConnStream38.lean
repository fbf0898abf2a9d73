/- What UConnStream needs, a part: CnTl, CnTm, InqG. -/
import Derived.Deep.CutBlock
import Derived.Test.YtfpifahkpkjfgaaMZ
import Derived.Test.YtfpifahkpkjfgaaMUConnStream4
import Derived.Test.YtfpifahkpkjfgaaMUConnStream9
import Derived.Test.YtfpifahkpkjfgaaMUConnStream21
import Derived.Test.YtfpifahkpkjfgaaMUConnStream37
/- R.Copy of segments. -/
namespace Go.Proofs.Ytfpifahkpkjfgaa
open Go.RowKit Go.Lib
set_option linter.unusedVariables false
set_option linter.unusedSimpArgs false
theorem run_append_zero {P : Program} (w : World) (t e ty : TypeId) (i : TypeInfo) (ht : P.underlying t = some (.slice e)) (hi : P.info? e = some i) (A B : Option Addr) (n c d : Nat) (hn : n ≤ c) : (Builtin.append_ #[t, t] ty #[.slice A n c, .slice B 0 d]).run P w = .ok (.slice A n c) w := by
 cases A <;> cases B <;> simp [Builtin.append_, run_underlying ht, sizeOf, typeInfo, hi, Builtin.lenOf, Builtin.firstCells, hn, storeCells, loadCells, loadCellsFrom]
set_option maxRecDepth 100000 in
theorem copy_seg (A : Option Addr) (n c : Nat) (rs : List KSeg) (w : World) (hn : n = rs.length) (hW : Win w 0 13 (.slice A n c) rs.length (rs.flatMap cSeg)) (hl : rs.length ≤ 1000000000) :
  Calls Try.prog 59 #[.slice A n c] w fun e w' => ∃ v, e = .returned v ∧ Mem w w' [rowR 13 cSeg v rs] := by
 by_cases h0 : 0 < rs.length
 ·go_enter Try.func59, Try.ntmps59
  go_wp2_with (first | ((with_reducible refine at_append_ ?_); refine wpList_clone_row (f := cSeg) (size := 13) rfl _ _ _ 33 rfl Try.underlying30 80 elem_Seg (by decide) none rfl _ rs rfl hW h0 cSeg_len one_cSeg (by omega) (by simp only [maxLen]; omega) ?_; intro v W hM))
  refine bodyPost_ret (v := v) (by simp [results, Try.results59, go_sem]) rfl ?_
  exact ⟨v, rfl, hM⟩
 ·have hrs : rs = [] := List.eq_nil_of_length_eq_zero (by omega)
  subst hrs
  have hn0 : n = 0 := hn
  subst hn0
  clear hW hl hn h0
  have hi : ∃ i, Try.prog.info? 33 = some i := by
   have h := elem_Seg
   cases hx : Try.prog.info? 33 with
   | none => rw [hx] at h; cases h
   | some i => exact ⟨i, rfl⟩
  obtain ⟨i, hi⟩ := hi
  have HRZ := Lib.hid (fun ty => run_append_zero (P := Try.prog) w 30 33 ty i Try.underlying30 hi none A 0 0 c (Nat.le_refl 0))
  clear hi
  go_enter Try.func59, Try.ntmps59
  go_wp2_with (first | ((with_reducible refine at_append_ ?_); refine wpList_clone_nil rfl _ _ _ 33 rfl _ _ (HRZ.out _) rfl rfl ?_))
  refine bodyPost_ret (v := .slice none 0 0) (by simp [results, Try.results59, go_sem]) rfl ?_
  exact ⟨_, rfl, (Mem.nil w).push (Below.refl _ _) (winR_stab _ _ _ _ _) (Win.nil _ _ _) (fun g hg => by cases hg)⟩
end Go.Proofs.Ytfpifahkpkjfgaa
/- conn: take. Written by my gencn.py. -/
namespace Go.Proofs.Ytfpifahkpkjfgaa
open Go.RowKit Go.Lib
set_option linter.unusedVariables false
set_option linter.unusedSimpArgs false
theorem rows_range {W : World} {b : Nat} : ∀ {l : List KSeg} {off k : Nat} {g : KSeg}, W.rangeAt b off (l.flatMap cSeg) → l[k]? = some g → W.rangeAt b (off + k * 13) (cSeg g)
  | [], _, _, _, _, hg => by simp at hg
  | x :: l, off, 0, g, h, hg => by
    have e : x = g := by simpa using hg
    subst e
    intro j u hj
    have := h j u (by rw [List.flatMap_cons, List.getElem?_append_left (List.getElem?_eq_some_iff.1 hj).1]; exact hj)
    rwa [Nat.zero_mul, Nat.add_zero]
  | x :: l, off, k + 1, g, h, hg => by
    have h2 : W.rangeAt b (off + 13) (l.flatMap cSeg) := by
      intro j u hj
      have := h (13 + j) u (by rw [List.flatMap_cons, List.getElem?_append_right (by rw [cSeg_len]; omega), cSeg_len, show 13 + j - 13 = j by omega]; exact hj)
      rwa [← Nat.add_assoc] at this
    have h3 := rows_range h2 (by simpa using hg : l[k]? = some g)
    rw [show off + (k + 1) * 13 = off + 13 + k * 13 by omega]
    exact h3
theorem part_pre {W : World} {b off cap k : Nat} {l : List KSeg} (h : Win W 0 13 (.slice (some ⟨b, off, none⟩) l.length cap) l.length (l.flatMap cSeg)) (hk : k ≤ l.length) : Win W 0 13 (.slice (some ⟨b, off, none⟩) k cap) (l.take k).length ((l.take k).flatMap cSeg) := by
 have hl : (l.take k).length = k := by rw [List.length_take]; omega
 rw [hl]
 refine ⟨by rw [rows_len (l.take k) fun q _ => cSeg_len q, hl], .inr ⟨b, off, cap, rfl, ?_⟩⟩
 obtain ⟨_, h2⟩ := h
 rcases h2 with ⟨h2, _⟩ | ⟨b', off', cap', e, h2⟩
 ·cases h2
 ·injection e with e1 e2 e3
  injection e1 with e1
  injection e1 with e1 e4
  subst e1 e4 e3
  rw [← List.take_append_drop k l, List.flatMap_append, List.take_append_drop k l] at h2
  exact h2.pre (by rw [rows_len (l.take k) fun q _ => cSeg_len q, hl]) (by rw [rows_len (l.drop k) fun q _ => cSeg_len q, List.length_drop]) hk
theorem part_suf {W : World} {b off cap : Nat} {l : List KSeg} (h : Win W 0 13 (.slice (some ⟨b, off, none⟩) l.length cap) l.length (l.flatMap cSeg)) (k : Nat) : 0 < (l.drop (k + 1)).length → ∃ g o, (if cap = k + 1 then some (⟨b, off, none⟩ : Addr) else some ⟨b, off + (k + 1) * 13, none⟩) = some ⟨g, o, none⟩ ∧ W.rangeAt g o ((l.drop (k + 1)).flatMap cSeg) := by
 intro hp
 rw [List.length_drop] at hp
 obtain ⟨_, h2⟩ := h
 rcases h2 with ⟨h2, _⟩ | ⟨b', off', cap', e, h2⟩
 ·cases h2
 ·injection e with e1 e2 e3
  injection e1 with e1
  injection e1 with e1 e4
  subst e1 e4 e3
  have hle := h2.le
  rw [if_neg (by omega)]
  refine ⟨b, _, rfl, ?_⟩
  have h3 := h2
  rw [← List.take_append_drop (k + 1) l, List.flatMap_append, List.take_append_drop (k + 1) l] at h3
  exact (h3.suf (k := k + 1) (by rw [rows_len (l.take (k + 1)) fun q _ => cSeg_len q, List.length_take]; congr 1; omega) (by omega)).here
theorem wpList_append_part {E : Nat → Prop} {P : Program} {ops : Array Oper} {rest : List Oper} {op : Oper} {a : Act} {w0 w : World} {Q : Exit → Act → World → Prop} {l : List Res} {α : Type} {f : α → List Value} {size : Nat} (hgd : op.guard = none) (s x : Operand) (t e : TypeId) (ho : op.op = .call { callee := .builtin .append, args := #[s, x], argTypes := #[t, t] }) (ht : P.underlying t = some (.slice e))
  (bytes : Nat) (he : (P.info? e).map (fun i => (i.size, i.bytes, i.zero.map (·.cells.size))) = some (size, bytes, some size)) (hsz : 0 < size)
  (k : Nat) (v : Value) (B : Option Addr) (n c : Nat) (rs rs2 : List α) (hM : MemX E w0 w l) (hk : l[k]? = some (rowR size f v rs)) (hs : a.eval s = v) (hx : a.eval x = .slice B n c) (hn : n = rs2.length)
  (hsrc : 0 < rs2.length → ∃ g off, B = some ⟨g, off, none⟩ ∧ w.rangeAt g off (rs2.flatMap f)) (hf : ∀ r, (f r).length = size)
  (h1 : ∀ r, ∀ u ∈ f r, u.oneCell' = true) (hb : (rs.length + rs2.length) * bytes ≤ 140737488355328) (hb2 : rs.length + rs2.length ≤ maxLen)
  (h : ∀ v' W, MemX E w0 W (l.set k (rowR size f v' (rs ++ rs2))) → wpList P ops Q rest (a.put op.dst v') W) : wpList P ops Q (op :: rest) a w := by
 obtain ⟨i, z, i0, i1, i2, i3, i4⟩ := elem_of he
 have hV : Win w 0 size v rs.length (rs.flatMap f) := hM.row k hk
 by_cases hp : 0 < rs2.length
 ·obtain ⟨g, off, rfl, hr⟩ := hsrc hp
  subst hn
  refine wpList_append_win hgd s x t ho 0 e i z size bytes ht i0 i1 i2 i3 i4 hsz v rs.length _ hs hV ⟨g, off, none⟩ rs2.length c (rs2.flatMap f) hx (rows_len rs2 fun r _ => hf r) (fun q u hq => by rw [Addr.add_mid]; exact hr q u hq) (fun u hu => by
   obtain ⟨r, _, hu⟩ := List.mem_flatMap.1 hu
   exact h1 r u hu) hp hb2 hb (Nat.zero_le _) ?_
  intro v' W hV' hO hat
  refine h v' W (hM.upd k hk hO (winR_stab _ _ _ _ _) (by
   show Win W 0 size v' (rs ++ rs2).length ((rs ++ rs2).flatMap f)
   rw [List.length_append, List.flatMap_append]
   exact hV') (fun j' hj' => ⟨?_, (hV'.lt j' hj').2⟩))
  have hj2 : v'.ownBlock = some j' := hj'
  rcases hat with e1 | ⟨m, e1, hm⟩
  ·left; show v.ownBlock = some j'; rw [← e1]; exact hj2
  ·right; rw [e1] at hj2; cases hj2; exact hm
 ·have hz : rs2 = [] := List.eq_nil_of_length_eq_zero (by omega)
  subst hz
  have hn0 : n = 0 := hn
  subst hn0
  obtain ⟨A, q, hv, hq⟩ : ∃ A q, v = .slice A rs.length q ∧ rs.length ≤ q := by
   rcases hV.2 with ⟨e1, e2⟩ | ⟨g, off, cap, e1, e2⟩
   ·exact ⟨none, 0, by rw [e1, e2], by rw [e2]; exact Nat.le_refl _⟩
   ·exact ⟨_, cap, e1, e2.le⟩
  have hl : l.set k (rowR size f v (rs ++ [])) = l := by
   rw [List.append_nil]
   obtain ⟨hlt, he⟩ := List.getElem?_eq_some_iff.1 hk
   rw [← he]; exact List.set_getElem_self hlt
  refine wpList_clone_nil hgd s x t e ho v (.slice B 0 c) ?_ hs hx (h v w (by rw [hl]; exact hM))
  rw [hv]
  exact run_append_zero w t e op.type i ht i0 A B rs.length q c hq
theorem tk_tidy {E : Nat → Prop} {w0 W : World} {N G R X K P O : Res} {m : List Res} (h : MemX E w0 W (N :: G :: R :: X :: K :: P :: O :: m)) : MemX E w0 W (G :: R :: X :: K :: P :: N :: m) := by
 have h1 : (N :: G :: R :: X :: K :: P :: O :: m).Perm (O :: G :: R :: X :: K :: P :: N :: m) := by
  have e1 : ([N, G, R, X, K, P] ++ ([O] ++ m)).Perm ([O] ++ ([N, G, R, X, K, P] ++ m)) := List.perm_append_comm_assoc _ _ _
  have e2 : ([N] ++ ([G, R, X, K, P] ++ m)).Perm ([G, R, X, K, P] ++ ([N] ++ m)) := List.perm_append_comm_assoc _ _ _
  exact e1.trans (List.Perm.cons O e2)
 exact (show MemX E w0 W ([_] ++ _) from h.perm h1).drop_
set_option maxRecDepth 100000 in
set_option maxHeartbeats 8000000 in
theorem take_any {E : Nat → Prop} {w0 : World} (gx gk gp ga gb : Nat) (va : Value) (p : KPa) (k : Nat) (g : KSeg) (m : List Res) (w : World) (hM0 : MemX E w0 w (atR gx 40 [.pointer (some ⟨gp, 0, none⟩)] :: atR gk 3 [.int .i64 k] :: prR gp ga gb va p :: arR va p.air :: m)) (hg : p.air[k]? = some g) (hl : p.air.length ≤ 1000000000) :
  Calls Try.prog 58 #[.pointer (some ⟨gx, 0, none⟩), .pointer (some ⟨gk, 0, none⟩)] w fun e w' => e = .returned (.agg (cSeg g).toArray) ∧ ∃ v', MemX E w0 w' (atR gx 40 [.pointer (some ⟨gp, 0, none⟩)] :: atR gk 3 [.int .i64 k] :: prR gp ga gb v' ({ p with air := p.air.eraseIdx k } : KPa) :: arR v' ({ p with air := p.air.eraseIdx k } : KPa).air :: m) := by
 have hM := hM0
 clear hM0
 go_enter Try.func58, Try.ntmps58
 have hk : k < p.air.length := (List.getElem?_eq_some_iff.1 hg).1
 obtain ⟨b, off, cap, hva, hwa⟩ := (hM.row (f := cSeg) (rs := p.air) 3 rfl).pos (by omega)
 have hcap : (p.air.length : Int) ≤ 9223372036854775807 := by omega
 subst hva
 have HHW := Lib.hid (fun (W : World) (h : (arR (.slice (some ⟨b, off, none⟩) p.air.length cap) p.air).P W) => (by
  obtain ⟨b', off', cap', e, h2⟩ := (show Win W 0 13 (.slice (some ⟨b, off, none⟩) p.air.length cap) p.air.length (p.air.flatMap cSeg) from h).pos (by omega)
  injection e with e1 e2 e3
  injection e1 with e1
  injection e1 with e1 e4
  subst e1 e4
  exact rows_range h2.here hg : W.rangeAt b (off + k * 13) (cSeg g)))
 have HK := Lib.hid hk
 have HCAP := Lib.hid hwa.le
 have HLL := Lib.hid hl
 have HLB := Lib.hid (show ((p.air.take k).length + (p.air.drop (k + 1)).length) * 80 ≤ 140737488355328 ∧ (p.air.take k).length + (p.air.drop (k + 1)).length ≤ maxLen from by
  rw [List.length_take, List.length_drop]
  simp only [maxLen]
  omega)
 have HBD := Lib.hid (show p.air.length ≤ cap from hwa.le)
 have HCP := Lib.hid (fun (W : World) (h : (arR (.slice (some ⟨b, off, none⟩) p.air.length cap) p.air).P W) => copy_seg (some ⟨b, off, none⟩) k cap (p.air.take k) W (by rw [List.length_take]; omega) (part_pre h (by omega)) (by rw [List.length_take]; omega))
 have HSR := Lib.hid (fun (W : World) (h : (arR (.slice (some ⟨b, off, none⟩) p.air.length cap) p.air).P W) => part_suf h k)
 clear hwa hg hl hk hcap
 go_upto_region 1 with (first | go_skip | ((with_reducible refine at_alloc_ (T := 33) ?_); refine wpList_alloc_mem rfl 33 rfl _ zv_Seg _ rfl hM ?_; clear hM; intro gs W hM; replace hM := cn_last hM))
 obtain ⟨gr, hgr⟩ : ∃ x, x = gs := ⟨_, rfl⟩
 subst hgr
 have HW4 := HHW
 refine wp_region_M [1,2,3,4] [8] hM (by kernel_rfl) ?_
 clear hM
 intro wo hM
 refine tL 0 (v := ?_) rfl ⟨fun r hr => (by first | exact hM.get 1 hr | exact hM.get 2 hr), fun r hr => (by first | exact hM.get 2 hr | exact hM.get 3 hr), fun r hr => (by first | exact hM.get 3 hr | exact hM.get 4 hr), fun r hr => (by first | exact hM.get 4 hr | exact hM.get 5 hr), trivial⟩ (Or.inl ⟨by rfl, ?hy⟩) ?_
 case hy => (rintro W ⟨i1, i2, i3, i4, -⟩; have c1 := (show At W _ _ _ from i1 _ rfl).cell; have c2 := (show At W _ _ _ from i2 _ rfl).cell; have c3 := (show At W _ _ _ from i3 _ rfl).cell; have c4 := HW4.out W (i4 _ rfl); (try simp only [prC] at c1 c2 c3); go_simp; (try with_reducible rfl))
 simp only [zz]
 refine tW 1 rfl ?_
 simp only [zz]
 refine tW 2 rfl ?_
 simp only [zz]
 refine tL 3 (v := ?_) rfl ⟨fun r hr => (by first | exact hM.get 1 hr | exact hM.get 2 hr), fun r hr => (by first | exact hM.get 2 hr | exact hM.get 3 hr), fun r hr => (by first | exact hM.get 3 hr | exact hM.get 4 hr), fun r hr => (by first | exact hM.get 4 hr | exact hM.get 5 hr), trivial⟩ (Or.inl ⟨by rfl, ?hy⟩) ?_
 case hy => (rintro W ⟨i1, i2, i3, i4, -⟩; have c1 := (show At W _ _ _ from i1 _ rfl).cell; have c2 := (show At W _ _ _ from i2 _ rfl).cell; have c3 := (show At W _ _ _ from i3 _ rfl).cell; have c4 := HW4.out W (i4 _ rfl); (try simp only [prC] at c1 c2 c3); go_simp; (try with_reducible rfl))
 simp only [zz]
 refine tL 4 (v := ?_) rfl ⟨fun r hr => (by first | exact hM.get 1 hr | exact hM.get 2 hr), fun r hr => (by first | exact hM.get 2 hr | exact hM.get 3 hr), fun r hr => (by first | exact hM.get 3 hr | exact hM.get 4 hr), fun r hr => (by first | exact hM.get 4 hr | exact hM.get 5 hr), trivial⟩ (Or.inl ⟨by rfl, ?hy⟩) ?_
 case hy => (rintro W ⟨i1, i2, i3, i4, -⟩; have c1 := (show At W _ _ _ from i1 _ rfl).cell; have c2 := (show At W _ _ _ from i2 _ rfl).cell; have c3 := (show At W _ _ _ from i3 _ rfl).cell; have c4 := HW4.out W (i4 _ rfl); (try simp only [prC] at c1 c2 c3); go_simp; (try with_reducible rfl))
 simp only [zz]
 refine tL 5 (v := .pointer (some ⟨b, off + k * 13, none⟩)) rfl ⟨fun r hr => (by first | exact hM.get 1 hr | exact hM.get 2 hr), fun r hr => (by first | exact hM.get 2 hr | exact hM.get 3 hr), fun r hr => (by first | exact hM.get 3 hr | exact hM.get 4 hr), fun r hr => (by first | exact hM.get 4 hr | exact hM.get 5 hr), trivial⟩ (Or.inl ⟨by rfl, ?hy⟩) ?_
 case hy => (rintro W ⟨i1, i2, i3, i4, -⟩; have c1 := (show At W _ _ _ from i1 _ rfl).cell; have c2 := (show At W _ _ _ from i2 _ rfl).cell; have c3 := (show At W _ _ _ from i3 _ rfl).cell; have c4 := HW4.out W (i4 _ rfl); (try simp only [prC] at c1 c2 c3); (go_simp; exact fun h => absurd HK.out (Nat.not_lt.2 h)))
 simp only [zz]
 refine tL 6 (v := .agg (cSeg g).toArray) rfl ⟨fun r hr => (by first | exact hM.get 1 hr | exact hM.get 2 hr), fun r hr => (by first | exact hM.get 2 hr | exact hM.get 3 hr), fun r hr => (by first | exact hM.get 3 hr | exact hM.get 4 hr), fun r hr => (by first | exact hM.get 4 hr | exact hM.get 5 hr), trivial⟩ (Or.inl ⟨by rfl, ?hy⟩) ?_
 case hy => (rintro W ⟨i1, i2, i3, i4, -⟩; have c1 := (show At W _ _ _ from i1 _ rfl).cell; have c2 := (show At W _ _ _ from i2 _ rfl).cell; have c3 := (show At W _ _ _ from i3 _ rfl).cell; have c4 := HW4.out W (i4 _ rfl); (try simp only [prC] at c1 c2 c3); exact exec_loadw _ _ rfl b (off + k * 13) rfl (cSeg g) _ Try.underlying33 rfl sz_Seg c4)
 simp only [zz]
 refine wpI_one (i := 7) rfl (by kernel_rfl) ?_
 (try simp only [zz])
 go_wp2_with (first
   | go_skip
   | (((with_reducible refine at_alloc_ (T := 33) ?_); refine wpList_alloc_mem rfl 33 rfl _ zv_Seg _ rfl hM ?_; clear hM; intro gs W hM; replace hM := cn_last hM)))
 refine contI_normal ⟨fun r hr => (by first | exact hM.get 1 hr | exact hM.get 2 hr), fun r hr => (by first | exact hM.get 2 hr | exact hM.get 3 hr), fun r hr => (by first | exact hM.get 3 hr | exact hM.get 4 hr), fun r hr => (by first | exact hM.get 4 hr | exact hM.get 5 hr), trivial⟩ ?_
 (try simp only [zz])
 refine wpI_one (i := 8) rfl (by kernel_rfl) ?_
 (try simp only [zz])
 go_wp2_with (first
   | go_skip
   | (((with_reducible refine at_store_ (T := 33) ?_); refine wpList_store_mem rfl 33 _ _ rfl 0 _ _ _ (cSeg g) hM rfl rfl rfl rfl sz_Seg rfl ?_; clear hM; intro W hM; simp only [List.cons_append, zE] at hM)))
 refine contI_late (by decide) ?_
 (try simp only [zz])
 refine wpI_done (by kernel_rfl) ?_ _
 (try simp only [zz])
 have hM0 := hM
 clear hM
 have hM := (show MemX E w0 W (atR gs 33 (cSeg g) :: atR gr 33 zSeg :: (atR gx 40 [.pointer (some ⟨gp, 0, none⟩)] :: atR gk 3 [.int .i64 k] :: prR gp ga gb (.slice (some ⟨b, off, none⟩) p.air.length cap) p :: arR (.slice (some ⟨b, off, none⟩) p.air.length cap) p.air :: m)) from hM0)
 clear hM0
 obtain ⟨n, hn⟩ : ∃ z, z = p.air.length := ⟨_, rfl⟩
 have HN := Lib.hid hn
 rw [← hn] at hM HCP HSR HBD
 clear hn
 obtain ⟨Bd, hBd⟩ : ∃ z : Option Addr, z = (if cap = k + 1 then some ⟨b, off, none⟩ else some ⟨b, off + (k + 1) * 13, none⟩) := ⟨_, rfl⟩
 rw [← hBd] at HSR
 have HBd := Lib.hid hBd
 clear hBd
 have HKW := Lib.hid (show IntKind.i64.wrap ((k : Int) + 1) = ((k + 1 : Nat) : Int) from by rw [IntWalk.i64_in _ (by have := HK.out; have := HLL.out; have := HN.out; omega)]; rfl)
 go_upto_region 2 with (fail)
 refine wp_region_M [2,3,4] [18] hM (by kernel_rfl) ?_
 clear hM
 intro wo hM
 refine tL 0 (v := ?_) rfl ⟨fun r hr => (by first | exact hM.get 2 hr | exact hM.get 3 hr), fun r hr => (by first | exact hM.get 3 hr | exact hM.get 4 hr), fun r hr => (by first | exact hM.get 4 hr | exact hM.get 5 hr), trivial⟩ (Or.inl ⟨by rfl, ?hy⟩) ?_
 case hy => (rintro W ⟨i2, i3, i4, -⟩; have c2 := (show At W _ _ _ from i2 _ rfl).cell; have c3 := (show At W _ _ _ from i3 _ rfl).cell; have c4 := (show At W _ _ _ from i4 _ rfl).cell; (try simp only [prC] at c2 c3 c4); go_simp; (try with_reducible rfl))
 simp only [zz]
 refine tL 1 (v := ?_) rfl ⟨fun r hr => (by first | exact hM.get 2 hr | exact hM.get 3 hr), fun r hr => (by first | exact hM.get 3 hr | exact hM.get 4 hr), fun r hr => (by first | exact hM.get 4 hr | exact hM.get 5 hr), trivial⟩ (Or.inl ⟨by rfl, ?hy⟩) ?_
 case hy => (rintro W ⟨i2, i3, i4, -⟩; have c2 := (show At W _ _ _ from i2 _ rfl).cell; have c3 := (show At W _ _ _ from i3 _ rfl).cell; have c4 := (show At W _ _ _ from i4 _ rfl).cell; (try simp only [prC] at c2 c3 c4); go_simp; (try with_reducible rfl))
 simp only [zz]
 refine tW 2 rfl ?_
 simp only [zz]
 refine tW 3 rfl ?_
 simp only [zz]
 refine tL 4 (v := ?_) rfl ⟨fun r hr => (by first | exact hM.get 2 hr | exact hM.get 3 hr), fun r hr => (by first | exact hM.get 3 hr | exact hM.get 4 hr), fun r hr => (by first | exact hM.get 4 hr | exact hM.get 5 hr), trivial⟩ (Or.inl ⟨by rfl, ?hy⟩) ?_
 case hy => (rintro W ⟨i2, i3, i4, -⟩; have c2 := (show At W _ _ _ from i2 _ rfl).cell; have c3 := (show At W _ _ _ from i3 _ rfl).cell; have c4 := (show At W _ _ _ from i4 _ rfl).cell; (try simp only [prC] at c2 c3 c4); go_simp; (try with_reducible rfl))
 simp only [zz]
 refine tL 5 (v := ?_) rfl ⟨fun r hr => (by first | exact hM.get 2 hr | exact hM.get 3 hr), fun r hr => (by first | exact hM.get 3 hr | exact hM.get 4 hr), fun r hr => (by first | exact hM.get 4 hr | exact hM.get 5 hr), trivial⟩ (Or.inl ⟨by rfl, ?hy⟩) ?_
 case hy => (rintro W ⟨i2, i3, i4, -⟩; have c2 := (show At W _ _ _ from i2 _ rfl).cell; have c3 := (show At W _ _ _ from i3 _ rfl).cell; have c4 := (show At W _ _ _ from i4 _ rfl).cell; (try simp only [prC] at c2 c3 c4); go_simp; (try with_reducible rfl))
 simp only [zz]
 refine tL 6 (v := .slice (some ⟨b, off, none⟩) k cap) rfl ⟨fun r hr => (by first | exact hM.get 2 hr | exact hM.get 3 hr), fun r hr => (by first | exact hM.get 3 hr | exact hM.get 4 hr), fun r hr => (by first | exact hM.get 4 hr | exact hM.get 5 hr), trivial⟩ (Or.inl ⟨by rfl, ?hy⟩) ?_
 case hy => (rintro W ⟨i2, i3, i4, -⟩; have c2 := (show At W _ _ _ from i2 _ rfl).cell; have c3 := (show At W _ _ _ from i3 _ rfl).cell; have c4 := (show At W _ _ _ from i4 _ rfl).cell; (try simp only [prC] at c2 c3 c4); (go_simp; exact fun h => absurd h (Nat.not_lt.2 (by have := HK.out; have := HCAP.out; omega))))
 simp only [zz]
 refine tL 8 (v := ?_) rfl ⟨fun r hr => (by first | exact hM.get 2 hr | exact hM.get 3 hr), fun r hr => (by first | exact hM.get 3 hr | exact hM.get 4 hr), fun r hr => (by first | exact hM.get 4 hr | exact hM.get 5 hr), trivial⟩ (Or.inl ⟨by rfl, ?hy⟩) ?_
 case hy => (rintro W ⟨i2, i3, i4, -⟩; have c2 := (show At W _ _ _ from i2 _ rfl).cell; have c3 := (show At W _ _ _ from i3 _ rfl).cell; have c4 := (show At W _ _ _ from i4 _ rfl).cell; (try simp only [prC] at c2 c3 c4); go_simp; (try with_reducible rfl))
 simp only [zz]
 refine tW 9 rfl ?_
 simp only [zz]
 refine tW 10 rfl ?_
 simp only [zz]
 refine tL 11 (v := ?_) rfl ⟨fun r hr => (by first | exact hM.get 2 hr | exact hM.get 3 hr), fun r hr => (by first | exact hM.get 3 hr | exact hM.get 4 hr), fun r hr => (by first | exact hM.get 4 hr | exact hM.get 5 hr), trivial⟩ (Or.inl ⟨by rfl, ?hy⟩) ?_
 case hy => (rintro W ⟨i2, i3, i4, -⟩; have c2 := (show At W _ _ _ from i2 _ rfl).cell; have c3 := (show At W _ _ _ from i3 _ rfl).cell; have c4 := (show At W _ _ _ from i4 _ rfl).cell; (try simp only [prC] at c2 c3 c4); go_simp; (try with_reducible rfl))
 simp only [zz]
 refine tL 12 (v := ?_) rfl ⟨fun r hr => (by first | exact hM.get 2 hr | exact hM.get 3 hr), fun r hr => (by first | exact hM.get 3 hr | exact hM.get 4 hr), fun r hr => (by first | exact hM.get 4 hr | exact hM.get 5 hr), trivial⟩ (Or.inl ⟨by rfl, ?hy⟩) ?_
 case hy => (rintro W ⟨i2, i3, i4, -⟩; have c2 := (show At W _ _ _ from i2 _ rfl).cell; have c3 := (show At W _ _ _ from i3 _ rfl).cell; have c4 := (show At W _ _ _ from i4 _ rfl).cell; (try simp only [prC] at c2 c3 c4); go_simp; (try with_reducible rfl))
 simp only [zz]
 refine tW 13 rfl ?_
 simp only [zz]
 refine tL 14 (v := .slice Bd (n - (k + 1)) (cap - (k + 1))) rfl ⟨fun r hr => (by first | exact hM.get 2 hr | exact hM.get 3 hr), fun r hr => (by first | exact hM.get 3 hr | exact hM.get 4 hr), fun r hr => (by first | exact hM.get 4 hr | exact hM.get 5 hr), trivial⟩ (Or.inl ⟨by rfl, ?hy⟩) ?_
 case hy => (rintro W ⟨i2, i3, i4, -⟩; have c2 := (show At W _ _ _ from i2 _ rfl).cell; have c3 := (show At W _ _ _ from i3 _ rfl).cell; have c4 := (show At W _ _ _ from i4 _ rfl).cell; (try simp only [prC] at c2 c3 c4); (go_simp; simp only [HKW.out, Int.toNat_natCast]; rw [if_pos ⟨by omega, by have := HK.out; have := HN.out; omega⟩, HBd.out]))
 simp only [zz]
 refine wpI_one (i := 7) rfl (by kernel_rfl) ?_
 (try simp only [zz])
 go_wp2_with (first
   | go_skip
   | ((go_at_call 59; refine (HCP.out _ (hM.get 5 rfl)).mono ?_; rintro e W ⟨vc, rfl, hN⟩; replace hM := hM.new_ hN; clear hN; dsimp only)))
 refine contI_normal ⟨fun r hr => (by first | exact hM.get 2 hr | exact hM.get 3 hr), fun r hr => (by first | exact hM.get 3 hr | exact hM.get 4 hr), fun r hr => (by first | exact hM.get 4 hr | exact hM.get 5 hr), trivial⟩ ?_
 (try simp only [zz])
 refine wpI_one (i := 15) rfl (by kernel_rfl) ?_
 (try simp only [zz])
 go_wp2_with (first
   | go_skip
   | (((with_reducible refine at_append_ ?_); refine wpList_append_part (f := cSeg) (size := 13) rfl _ _ _ 33 rfl Try.underlying30 80 elem_Seg (by decide) 0 _ Bd (n - (k + 1)) (cap - (k + 1)) _ (p.air.drop (k + 1)) hM rfl rfl rfl ?hn1 ?hs1 cSeg_len one_cSeg HLB.out.1 HLB.out.2 ?hfin; (case hn1 => (rw [List.length_drop, HN.out])); (case hs1 => exact (HSR.out _ (hM.get 6 rfl))); clear hM; intro vN W hM; (first | (simp only [List.singleton_append, zE] at hM) | (simp only [List.cons_append, List.nil_append, zE] at hM)); rw [← List.eraseIdx_eq_take_drop_succ] at hM; obtain ⟨An, qn, hvn⟩ := (hM.row (f := cSeg) (size := 13) (rs := p.air.eraseIdx k) 0 rfl).form; obtain ⟨nN, hnN⟩ : ∃ z, z = (p.air.eraseIdx k).length := ⟨_, rfl⟩; rw [← hnN] at hvn; clear hnN; subst hvn)))
 refine contI_normal ⟨fun r hr => (by first | exact hM.get 2 hr | exact hM.get 3 hr), fun r hr => (by first | exact hM.get 3 hr | exact hM.get 4 hr), fun r hr => (by first | exact hM.get 4 hr | exact hM.get 5 hr), trivial⟩ ?_
 (try simp only [zz])
 refine tW 16 rfl ?_
 simp only [zz]
 refine tW 17 rfl ?_
 simp only [zz]
 refine wpI_one (i := 18) rfl (by kernel_rfl) ?_
 (try simp only [zz])
 go_wp2_with (first
   | go_skip
   | (((with_reducible refine at_store_ ?_); refine sM 5 hM rfl rfl rfl ?_; clear hM; intro W hM; simp only [zF, zE, prR, pr6, pr7, pr8, pr9, pr10, pr11, pr12, pr13, pr14, pr15, pr16, pr17, pr18, pr19] at hM)))
 refine contI_late (by decide) ?_
 (try simp only [zz])
 refine wpI_done (by kernel_rfl) ?_ _
 (try simp only [zz])
 go_upto_region 3 with (fail)
 replace hM := tk_tidy (show MemX E w0 W (rowR 13 cSeg (.slice An nN qn) (p.air.eraseIdx k) :: atR gs 33 (cSeg g) :: atR gr 33 zSeg :: atR gx 40 [.pointer (some ⟨gp, 0, none⟩)] :: atR gk 3 [.int .i64 k] :: prR gp ga gb (.slice An nN qn) ({ p with air := p.air.eraseIdx k } : KPa) :: arR (.slice (some ⟨b, off, none⟩) n cap) p.air :: m) from hM)
 go_wp2_with (first | go_skip | ((with_reducible refine at_load_ (T := 33) ?_); refine wpList_load_mem rfl 33 _ rfl 0 _ _ (cSeg g) hM rfl rfl _ Try.underlying33 rfl sz_Seg ?_) | ((with_reducible refine at_store_ (T := 33) ?_); refine wpList_store_mem rfl 33 _ _ rfl 1 _ _ _ (cSeg g) hM rfl rfl rfl rfl sz_Seg rfl ?_; clear hM; intro W hM; simp only [zF, zE] at hM))
 have hcz := hM.cells 1 rfl
 refine bodyPost_ret (v := .agg (cSeg g).toArray) (by simp [results, Try.results58, go_sem, hcz, cSeg]) rfl ?_
 exact ⟨rfl, _, (show MemX E w0 W ([_, _] ++ _) from hM).drop_⟩
end Go.Proofs.Ytfpifahkpkjfgaa
/- The queue takes a text: what stays true. -/
namespace Go.Proofs.Ytfpifahkpkjfgaa
open Go.RowKit
set_option linter.unusedVariables false
structure Good (T : ByteArray) (fin : Bool) (q : IQ) (n : Nat) : Prop where
 ok : IqOk q
 stop : Stop q
 rd : q.rd = n + 1
 end_ : endZ q ≤ T.size + 1
 got : ∀ p, q.rd ≤ p → p < endZ q → q.r (p % 2048).toNat = byteZ T (p - 1)
 have_ : q.over = false → ∀ p, q.nx ≤ p → p < q.rd + 2048 → q.h (p % 2048).toNat = true → p ≤ T.size ∧ q.r (p % 2048).toNat = byteZ T (p - 1)
 low : q.over = false → ∀ p, q.rd ≤ p → p < q.nx → q.h (p % 2048).toNat = false
 fn : q.fin = -1 ∨ (q.fin = T.size + 1 ∧ fin = true)
 ov : q.over = true → q.nx = T.size + 2 ∧ fin = true
theorem end_open {q : IQ} (h : q.over = false) : endZ q = q.nx := by unfold endZ; rw [h]; rfl
theorem end_over {q : IQ} (h : q.over = true) : endZ q = q.nx - 1 := by unfold endZ; rw [h]; rfl
theorem good_new (T : ByteArray) (fin : Bool) : Good T fin newIQ 0 := by
 refine ⟨⟨by decide, by decide, by decide, by decide, by decide, by decide, fun k => by simp [newIQ]⟩, .inr ⟨.inr rfl, by decide⟩, rfl, ?_, ?_, ?_, ?_, .inl rfl, fun h => by cases h⟩
 ·show (1 : Int) ≤ T.size + 1; omega
 ·intro p h1 h2
  have e1 : newIQ.rd = 1 := rfl
  have e2 : endZ newIQ = 1 := rfl
  omega
 ·intro _ p h1 h2 h3; cases h3
 ·intro _ p h1 h2; rfl
/-- the first piece of a text from a on, up to t -/
structure PieceOf (T S : ByteArray) (a t : Nat) : Prop where
 le : a ≤ t
 lt : t ≤ T.size
 sz : S.size = t - a
 at_ : ∀ i : Int, 0 ≤ i → i < S.size → byteZ S i = byteZ T (a + i)
theorem piece_extract (T : ByteArray) (a t : Nat) (h : a ≤ t) (h' : t ≤ T.size) : PieceOf T (T.extract a t) a t := by
 have hs : (T.extract a t).size = t - a := by rw [ByteArray.size_extract]; omega
 refine ⟨h, h', hs, fun i h1 h2 => ?_⟩
 unfold byteZ
 obtain ⟨k, rfl⟩ := Int.eq_ofNat_of_zero_le h1
 have hk : k < t - a := by omega
 rw [show ((a : Int) + (k : Int)).toNat = a + k by omega, Int.toNat_natCast, ByteArray.data_extract]
 congr 2
 rw [Array.getElem?_extract]
 have hsz : T.data.size = T.size := rfl
 rw [if_pos (by rw [hsz]; omega)]
section
variable {T S : ByteArray} {fin : Bool} {q : IQ} {n a t : Nat}
theorem good_hit (g : Good T fin q n) (ho : q.over = false) (hp : PieceOf T S a t) (p : Int) (h1 : q.nx ≤ p) (h2 : p < q.rd + 2048) :
  plc q.nx (p % 2048).toNat = p ∧ (hitB q (a + 1) S.size (p % 2048).toNat = true ↔ ((a : Int) + 1 ≤ p ∧ p < (t : Int) + 1 ∧ (q.fin < 0 ∨ p < q.fin))) := by
 obtain ⟨o1, o2⟩ := ok_open g.ok ho
 have hr := g.ok.rd1
 have hpl : plc q.nx (p % 2048).toNat = p := plc_of _ _ _ h1 (by omega) (by omega)
 refine ⟨hpl, ?_⟩
 unfold hitB
 rw [hpl, decide_eq_true_eq]
 have := hp.sz
 have := hp.le
 constructor
 ·intro h; omega
 ·intro h; omega
/-- a slot that holds a byte to be read takes none -/
theorem good_low (g : Good T fin q n) (ho : q.over = false) (at_ len : Int) (p : Int) (h1 : q.rd ≤ p) (h2 : p < q.nx) : hitB q at_ len (p % 2048).toNat = false := by
 obtain ⟨o1, o2⟩ := ok_open g.ok ho
 have hr := g.ok.rd1
 have hpl : plc q.nx (p % 2048).toNat = p + 2048 := plc_of _ _ _ (by omega) (by omega) (by omega)
 unfold hitB
 rw [hpl, decide_eq_false_iff_not]
 omega
theorem good_rPut (g : Good T fin q n) (ho : q.over = false) (hp : PieceOf T S a t) (p : Int) (h1 : q.nx ≤ p) (h2 : p < q.rd + 2048) (h : hPut q (a + 1) S.size (p % 2048).toNat = true) :
  p ≤ T.size ∧ rPut q (a + 1) S (p % 2048).toNat = byteZ T (p - 1) := by
 obtain ⟨hpl, hit⟩ := good_hit g ho hp p h1 h2
 have hlt := hp.lt
 unfold hPut at h
 unfold rPut
 cases hh : q.h (p % 2048).toNat
 ·rw [hh] at h
  simp only [Bool.false_or] at h
  obtain ⟨k1, k2, k3⟩ := hit.1 h
  rw [h, hpl]
  refine ⟨by omega, ?_⟩
  simp only [Bool.not_false, Bool.and_self, if_true]
  have hsz := hp.sz
  rw [hp.at_ (p - (a + 1)) (by omega) (by omega), show (a : Int) + (p - (a + 1)) = p - 1 by omega]
 ·obtain ⟨k1, k2⟩ := g.have_ ho p h1 h2 hh
  exact ⟨k1, by simpa using k2⟩
end
end Go.Proofs.Ytfpifahkpkjfgaa
