/- '^' of two ints; R.Copy of packets. -/
import Derived.Test.YtmcdmgnpbhkdhaaFgC
import Derived.Test.YtmcdmgnpbhkdhaaSlR
import Derived.IntWalk
namespace Go.Proofs.Ytmcdmgnpbhkdhaa
open Go.RowKit Go.Lib
set_option linter.unusedVariables false
set_option linter.unusedSimpArgs false

def bXor (x y : Int) : Int := IntKind.i64.wrap ((BitVec.ofInt IntKind.i64.bits x ^^^ BitVec.ofInt IntKind.i64.bits y).toNat)
theorem exec_xor {P : Program} {o : Oper} {a : Act} (T : TypeId) (x y : Operand) (R : TypeId) (ho : o.op = .binOp .xor T x y R) (X Y : Int) (hx : a.eval x = .int .i64 X) (hy : a.eval y = .int .i64 Y) (w : World) : (execOp a.eval o).run P w = .ok (.value (.int .i64 (bXor X Y))) w := by
  unfold execOp
  simp [ho, hx, hy, eqGuard, binOp, Op.intBits, bXor]
theorem bXor_i64 (x y : Int) : I64 (bXor x y) := by
  unfold bXor
  rw [IntKind.wrap_i64]
  constructor <;> omega
theorem bXor_ne (x : Int) : bXor x 1 ≠ x := by
  intro h
  have hb : IntKind.i64.bits = 64 := rfl
  unfold bXor at h
  rw [IntKind.wrap_i64, hb] at h
  have h1 : (BitVec.ofInt 64 x ^^^ BitVec.ofInt 64 1).toNat % 2 = x % 2 := by omega
  have h2 : (BitVec.ofInt 64 x).toNat = (x % 18446744073709551616).toNat := by rw [BitVec.toNat_ofInt]; rfl
  have h3 : (BitVec.ofInt 64 1).toNat = 1 := rfl
  rw [BitVec.toNat_xor, h2, h3] at h1
  generalize hn : (x % 18446744073709551616).toNat = n at h1
  have h4 : (n ^^^ 1).testBit 0 = !n.testBit 0 := by rw [Nat.testBit_xor]; simp
  rw [Nat.testBit_zero, Nat.testBit_zero] at h4
  by_cases h5 : n % 2 = 1
  · rw [decide_eq_true h5] at h4
    have : (n ^^^ 1) % 2 ≠ 1 := by simpa using h4
    omega
  · rw [decide_eq_false h5] at h4
    have : (n ^^^ 1) % 2 = 1 := by simpa using h4
    omega
theorem one_pkC (r : Pk) : ∀ u ∈ pkC r, u.oneCell' = true := by
  intro u hu
  unfold pkC at hu
  simp only [List.mem_cons, List.not_mem_nil, or_false] at hu
  rcases hu with rfl | rfl | rfl | rfl | rfl | rfl | rfl | rfl | rfl <;> rfl
theorem wpList_append_rows {E : Nat → Prop} {P : Program} {ops : Array Oper} {rest : List Oper} {op : Oper} {a : Act} {w0 w : World} {Q : Exit → Act → World → Prop} {l : List Res} {α : Type} {f : α → List Value} {size : Nat} (hgd : op.guard = none) (s x : Operand) (t e : TypeId) (ho : op.op = .call { callee := .builtin .append, args := #[s, x], argTypes := #[t, t] }) (ht : P.underlying t = some (.slice e))
    (bytes : Nat) (he : (P.info? e).map (fun i => (i.size, i.bytes, i.zero.map (·.cells.size))) = some (size, bytes, some size)) (hsz : 0 < size)
    (k j : Nat) (v v2 : Value) (rs rs2 : List α) (hM : MemX E w0 w l) (hk : l[k]? = some (rowR size f v rs)) (hj : l[j]? = some (rowR size f v2 rs2)) (hs : a.eval s = v) (hx : a.eval x = v2) (hn : 0 < rs2.length)
    (h1 : ∀ r, ∀ u ∈ f r, u.oneCell' = true) (hb : (rs.length + rs2.length) * bytes ≤ 140737488355328) (hb2 : rs.length + rs2.length ≤ maxLen)
    (h : ∀ v' W, MemX E w0 W (l.set k (rowR size f v' (rs ++ rs2))) → wpList P ops Q rest (a.put op.dst v') W) : wpList P ops Q (op :: rest) a w := by
  obtain ⟨i, z, i0, i1, i2, i3, i4⟩ := elem_of he
  have hV : Win w 0 size v rs.length (rs.flatMap f) := hM.row k hk
  have hV2 : Win w 0 size v2 rs2.length (rs2.flatMap f) := hM.row j hj
  obtain ⟨g, off, cap, rfl, hWA⟩ := hV2.pos hn
  refine wpList_append_win hgd s x t ho 0 e i z size bytes ht i0 i1 i2 i3 i4 hsz v rs.length _ hs hV ⟨g, off, none⟩ rs2.length cap (rs2.flatMap f) hx hV2.1 (fun q u hq => by rw [Addr.add_mid]; exact hWA.here q u hq) (fun u hu => by
    obtain ⟨r, _, hu⟩ := List.mem_flatMap.1 hu
    exact h1 r u hu) hn hb2 hb (Nat.zero_le _) ?_
  intro v' W hV' hO hat
  refine h v' W (hM.upd k hk hO (winR_stab _ _ _ _ _) (by
    show Win W 0 size v' (rs ++ rs2).length ((rs ++ rs2).flatMap f)
    rw [List.length_append, List.flatMap_append]
    exact hV') (fun j' hj' => ⟨?_, (hV'.lt j' hj').2⟩))
  have hj2 : v'.ownBlock = some j' := hj'
  rcases hat with e1 | ⟨m, e1, hm⟩
  · left; show v.ownBlock = some j'; rw [← e1]; exact hj2
  · right; rw [e1] at hj2; cases hj2; exact hm
/-- some of them, in another order -/
theorem MemX.pick {E : Nat → Prop} {w W : World} {l : List Res} (h : MemX E w W l) (js : List Nat) (hn : js.Nodup) (hl : ∀ j ∈ js, j < l.length) : MemX E w W (js.filterMap (fun j => l[j]?)) := by
  have hm : ∀ r ∈ js.filterMap (fun j => l[j]?), r ∈ l := fun r hr => by
    obtain ⟨j, _, hj⟩ := List.mem_filterMap.1 hr
    exact List.mem_of_getElem? hj
  have hmap : js.filterMap (fun j => l[j]?) = js.filterMap (fun j => l[j]?) := rfl
  have hlen : (js.filterMap (fun j => l[j]?)).length = js.length := by
    clear hm hmap
    induction js with
    | nil => rfl
    | cons j t ih =>
      rw [List.nodup_cons] at hn
      rw [List.filterMap_cons, List.getElem?_eq_getElem (hl j List.mem_cons_self)]
      simp only [List.length_cons]
      rw [ih hn.2 fun i hi => hl i (List.mem_cons_of_mem _ hi)]
  have hget : ∀ (i : Nat) (r : Res), (js.filterMap (fun j => l[j]?))[i]? = some r → ∃ j : Nat, js[i]? = some j ∧ l[j]? = some r := by
    clear hm hmap hlen
    induction js with
    | nil => intro i r hi; simp at hi
    | cons j t ih =>
      rw [List.nodup_cons] at hn
      intro i r hi
      rw [List.filterMap_cons, List.getElem?_eq_getElem (hl j List.mem_cons_self)] at hi
      cases i with
      | zero =>
        refine ⟨j, rfl, ?_⟩
        rw [List.getElem?_eq_getElem (hl j List.mem_cons_self)]
        simpa using hi
      | succ i =>
        have := ih hn.2 (fun i hi => hl i (List.mem_cons_of_mem _ hi)) i r (by simpa using hi)
        simpa using this
  refine ⟨h.fr, fun r hr => h.p r (hm r hr), fun r hr => h.s r (hm r hr), fun r hr => h.lo r (hm r hr), fun i j hij r q hi hj => ?_⟩
  obtain ⟨i', a1, a2⟩ := hget i r hi
  obtain ⟨j', b1, b2⟩ := hget j q hj
  refine h.ne i' j' (fun e => hij ?_) r q a2 b2
  subst e
  exact (List.getElem?_inj (List.getElem?_eq_some_iff.1 a1).1 hn).1 (a1.trans b1.symm)
theorem copy_pk (A : Option Addr) (n c : Nat) (rs : List Pk) (w : World) (hn : n = rs.length) (hW : Win w 0 9 (.slice A n c) rs.length (rs.flatMap pkC)) (h0 : 0 < rs.length) (hl : rs.length ≤ 8002) :
    Calls Try.prog 39 #[.slice A n c] w fun e w' => ∃ v, e = .returned v ∧ Mem w w' [rowR 9 pkC v rs] := by
  go_enter Try.func39, Try.ntmps39
  go_wp2_with (first | ((with_reducible refine at_append_ ?_); refine wpList_clone_row (f := pkC) (size := 9) rfl _ _ _ 40 rfl Try.underlying81 64 elem_pkt (by decide) none rfl _ rs rfl hW h0 pkC_len one_pkC (by omega) (by simp only [maxLen]; omega) ?_; intro v W hM))
  refine bodyPost_ret (v := v) (by simp [results, Try.results39, go_sem]) rfl ?_
  exact ⟨v, rfl, hM⟩
/-- all that is known between two rounds -/
def FwRel (gp ga gq gt gall gs gl gsm g gm g7 off7 c7 la lb N : Nat) (Aa : Option Addr) (ca : Nat) (p q : Pk) (a b : List Pk) (E : Nat → Prop) (w0 W : World) : Prop :=
  ∃ (T : Nat → Bool) (m : List (Int × Int)) (es : List FE) (L0 L1 : Nat), MemX E w0 W (atR gp 40 (pkC p) :: atR ga 81 [.slice Aa la ca] :: atR gq 40 (pkC q) :: atR gt 75 [.pointer (some ⟨g, 0, none⟩)] :: atR gall 81 [.slice (some ⟨g7, off7, none⟩) N c7] :: atR gs 86 [.map (some gsm)] :: atR gl 85 [.int .i64 L0, .int .i64 L1] :: rowR 9 pkC (.slice (some ⟨g7, off7, none⟩) N c7) (a ++ b) :: mapR Try.prog 3 fInt fInt gsm m :: fgL g gm es) ∧ Hid (WInv p q a b T m es) ∧ Hid (L0 = cntF T la) ∧ Hid (L1 = cntF (fun j => T (la + j)) lb)
theorem FwRel.mem {gp ga gq gt gall gs gl gsm g gm g7 off7 c7 la lb N : Nat} {Aa : Option Addr} {ca : Nat} {p q : Pk} {a b : List Pk} {E : Nat → Prop} {w0 W : World} (h : FwRel gp ga gq gt gall gs gl gsm g gm g7 off7 c7 la lb N Aa ca p q a b E w0 W) : MemX E w0 W (atR gp 40 (pkC p) :: atR ga 81 [.slice Aa la ca] :: atR gq 40 (pkC q) :: atR gt 75 [.pointer (some ⟨g, 0, none⟩)] :: atR gall 81 [.slice (some ⟨g7, off7, none⟩) N c7] :: []) := by
  obtain ⟨T, m, es, L0, L1, hM, _⟩ := h
  exact hM.take_ 5
theorem fw_any (gp ga gq gt gall gs gl gsm g gm g7 off7 c7 la lb N : Nat) (Aa : Option Addr) (ca : Nat) (p q : Pk) (a b : List Pk) {E : Nat → Prop} {w0 : World} (w : World) (k : Nat)
    (hR : FwRel gp ga gq gt gall gs gl gsm g gm g7 off7 c7 la lb N Aa ca p q a b E w0 w)
    (hla : a.length = la) (hlb : b.length = lb) (hN : N = la + lb) (hN2 : N ≤ 8002) (hp : FPk p a) (hq : FPk q b) (hne : keyP p ≠ keyP q) (hk : k < N) :
    Calls Try.prog 40 #[.int .i64 (k : Nat), .pointer (some ⟨gp, 0, none⟩), .pointer (some ⟨ga, 0, none⟩), .pointer (some ⟨gq, 0, none⟩), .pointer (some ⟨gt, 0, none⟩), .pointer (some ⟨gall, 0, none⟩), .pointer (some ⟨gs, 0, none⟩), .pointer (some ⟨gl, 0, none⟩)] w fun e w' =>
      e = .returned (.bool true) ∧ FwRel gp ga gq gt gall gs gl gsm g gm g7 off7 c7 la lb N Aa ca p q a b E w0 w' := by
  obtain ⟨T, m, es, L0, L1, hM, HI, H0, H1⟩ := hR
  have hmo : mOk m := (hM.map_ 8 rfl).mok
  by_cases hc : k < la
  · have hx : a[k]? = some (a[k]'(by omega)) := List.getElem?_eq_getElem _
    exact fw_lo gp ga gq gt gall gs gl gsm g gm g7 off7 c7 la lb N Aa ca p q a b T m es L0 L1 k _ w hM hla hlb hN hN2 hp hq hne HI.out hmo hc H0.out H1.out hx (by rw [List.getElem?_append_left (by omega)]; exact hx)
  · have hx : b[k - la]? = some (b[k - la]'(by omega)) := List.getElem?_eq_getElem _
    exact fw_hi gp ga gq gt gall gs gl gsm g gm g7 off7 c7 la lb N Aa ca p q a b T m es L0 L1 (k - la) k _ w hM hla hlb hN hN2 hp hq hne HI.out hmo (by omega) (by omega) H0.out H1.out hx (by rw [List.getElem?_append_right (by omega), hla]; exact hx)
end Go.Proofs.Ytmcdmgnpbhkdhaa
