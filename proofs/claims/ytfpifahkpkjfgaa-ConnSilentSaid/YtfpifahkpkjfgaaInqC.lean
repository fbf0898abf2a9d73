/- Contracts of the package inq: the queue in memory, and its small methods. -/
import Derived.Test.YtfpifahkpkjfgaaInqP
import Derived.Outline
namespace Go.Proofs.Ytfpifahkpkjfgaa
open Go.RowKit
set_option linter.unusedVariables false

def inqC (q : IQ) : List Value := fnL 2048 (fun k => Value.int .u8 (q.r k)) ++ (fnL 2048 (fun k => Value.bool (q.h k)) ++ [.int .i64 q.rd, .int .i64 q.nx, .int .i64 q.fin, .bool q.over])
abbrev InqAt (w : World) (g : Nat) (q : IQ) : Prop := At w g 121 (inqC q)
theorem inqC_r (q : IQ) (k : Nat) (h : k < 2048) : (inqC q)[k]? = some (.int .u8 (q.r k)) := by
  unfold inqC
  rw [List.getElem?_append_left (by rw [fnL_len]; exact h), fnL_get _ _ _ h]
theorem inqC_h (q : IQ) (k : Nat) (h : k < 2048) : (inqC q)[2048 + k]? = some (.bool (q.h k)) := by
  unfold inqC
  rw [List.getElem?_append_right (by rw [fnL_len]; omega), fnL_len, List.getElem?_append_left (by rw [fnL_len]; omega), show 2048 + k - 2048 = k by omega, fnL_get _ _ _ h]
theorem inqC_t (q : IQ) (k : Nat) : (inqC q)[4096 + k]? = ([.int .i64 q.rd, .int .i64 q.nx, .int .i64 q.fin, .bool q.over] : List Value)[k]? := by
  unfold inqC
  rw [List.getElem?_append_right (by rw [fnL_len]; omega), fnL_len, List.getElem?_append_right (by rw [fnL_len]; omega), fnL_len, show 4096 + k - 2048 - 2048 = k by omega]
theorem inqC_congr (q q' : IQ) (h1 : ∀ k, k < 2048 → q.r k = q'.r k) (h2 : ∀ k, k < 2048 → q.h k = q'.h k) (h3 : q.rd = q'.rd) (h4 : q.nx = q'.nx) (h5 : q.fin = q'.fin) (h6 : q.over = q'.over) : inqC q = inqC q' := by
  unfold inqC
  rw [fnL_congr 2048 (fun k => Value.int .u8 (q.r k)) (fun k => Value.int .u8 (q'.r k)) (fun k hk => by rw [h1 k hk]), fnL_congr 2048 (fun k => Value.bool (q.h k)) (fun k => Value.bool (q'.h k)) (fun k hk => by rw [h2 k hk]), h3, h4, h5, h6]
theorem inqC_setr (q : IQ) (K : Nat) (x : Int) (h : K < 2048) : (inqC q).set K (.int .u8 x) = inqC { q with r := fun k => if k = K then x else q.r k } := by
  unfold inqC
  rw [List.set_append_left _ _ (by rw [fnL_len]; exact h), fnL_set]
  simp only
  congr 1
  exact fnL_congr _ _ _ (fun k _ => by split <;> rfl)
theorem inqC_seth (q : IQ) (K : Nat) (x : Bool) (h : K < 2048) : (inqC q).set (2048 + K) (.bool x) = inqC { q with h := fun k => if k = K then x else q.h k } := by
  unfold inqC
  rw [List.set_append_right _ _ (by rw [fnL_len]; omega), fnL_len, show 2048 + K - 2048 = K by omega, List.set_append_left _ _ (by rw [fnL_len]; exact h), fnL_set]
  simp only
  congr 2
  exact fnL_congr _ _ _ (fun k _ => by split <;> rfl)
theorem inqC_sett (q : IQ) (i : Nat) (v : Value) : (inqC q).set (4096 + i) v = fnL 2048 (fun k => Value.int .u8 (q.r k)) ++ (fnL 2048 (fun k => Value.bool (q.h k)) ++ ([.int .i64 q.rd, .int .i64 q.nx, .int .i64 q.fin, .bool q.over] : List Value).set i v) := by
  unfold inqC
  rw [List.set_append_right _ _ (by rw [fnL_len]; omega), fnL_len, List.set_append_right _ _ (by rw [fnL_len]; omega), fnL_len, show 4096 + i - 2048 - 2048 = i by omega]
theorem inqC_setrd (q : IQ) (x : Int) : (inqC q).set 4096 (.int .i64 x) = inqC { q with rd := x } := inqC_sett q 0 _
theorem inqC_setnx (q : IQ) (x : Int) : (inqC q).set 4097 (.int .i64 x) = inqC { q with nx := x } := inqC_sett q 1 _
theorem inqC_setfin (q : IQ) (x : Int) : (inqC q).set 4098 (.int .i64 x) = inqC { q with fin := x } := inqC_sett q 2 _
theorem inqC_setover (q : IQ) (x : Bool) : (inqC q).set 4099 (.bool x) = inqC { q with over := x } := inqC_sett q 3 _
attribute [irreducible] inqC
section
variable {w : World} {g : Nat} {q : IQ} (hQ : InqAt w g q)
include hQ
theorem InqAt.r_ (k : Nat) (h : k < 2048) : w.cell? ⟨g, k, none⟩ = some (.int .u8 (q.r k)) := by rw [At.cell hQ]; exact inqC_r q k h
theorem InqAt.h_ (k : Nat) (h : k < 2048) : w.cell? ⟨g, 2048 + k, none⟩ = some (.bool (q.h k)) := by rw [At.cell hQ]; exact inqC_h q k h
theorem InqAt.rd_ : w.cell? ⟨g, 4096, none⟩ = some (.int .i64 q.rd) := by rw [At.cell hQ]; exact inqC_t q 0
theorem InqAt.nx_ : w.cell? ⟨g, 4097, none⟩ = some (.int .i64 q.nx) := by rw [At.cell hQ]; exact inqC_t q 1
theorem InqAt.fin_ : w.cell? ⟨g, 4098, none⟩ = some (.int .i64 q.fin) := by rw [At.cell hQ]; exact inqC_t q 2
theorem InqAt.over_ : w.cell? ⟨g, 4099, none⟩ = some (.bool q.over) := by rw [At.cell hQ]; exact inqC_t q 3
end
/-- a queue's numbers are in their bounds -/
structure IqOk (q : IQ) : Prop where
  rd1 : 1 ≤ q.rd
  rdn : q.rd ≤ (if q.over then q.nx - 1 else q.nx)
  nxr : (if q.over then q.nx - 1 else q.nx) ≤ q.rd + 2048
  nxm : q.nx ≤ 1152921504606846976
  fin1 : -1 ≤ q.fin
  finm : q.fin ≤ 2305843009213693952
  rok : ∀ k, 0 ≤ q.r k ∧ q.r k ≤ 255
def endZ (q : IQ) : Int := if q.over then q.nx - 1 else q.nx
def newIQ : IQ := ⟨fun _ => 0, fun _ => false, 1, 1, -1, false⟩
set_option maxRecDepth 100000 in
theorem Next_any (g : Nat) (q : IQ) (w : World) (hQ : InqAt w g q) :
    Calls Try.prog 67 #[.pointer (some ⟨g, 0, none⟩)] w fun e w' => e = .returned (.int .i64 q.nx) ∧ w = w' := by
  have c := InqAt.nx_ hQ
  go_enter Try.func67, Try.ntmps67
  go_wp2
  go_ret
  exact ⟨rfl, rfl⟩
theorem Over_any (g : Nat) (q : IQ) (w : World) (hQ : InqAt w g q) :
    Calls Try.prog 55 #[.pointer (some ⟨g, 0, none⟩)] w fun e w' => e = .returned (.bool q.over) ∧ w = w' := by
  have c := InqAt.over_ hQ
  go_enter Try.func55, Try.ntmps55
  go_wp2
  go_ret
  exact ⟨rfl, rfl⟩
theorem end_any (g : Nat) (q : IQ) (w : World) (hQ : InqAt w g q) (ok : IqOk q) :
    Calls Try.prog 82 #[.pointer (some ⟨g, 0, none⟩)] w fun e w' => e = .returned (.int .i64 (endZ q)) ∧ w = w' := by
  have c := InqAt.over_ hQ
  have c1 := InqAt.nx_ hQ
  have h1 := ok.rd1
  have h2 := ok.rdn
  have h3 := ok.nxm
  unfold endZ
  cases ho : q.over
  · rw [ho] at c h2
    simp at h2 ⊢
    clear ho
    go_enter Try.func82, Try.ntmps82
    go_wp2
    go_ret
    exact ⟨rfl, rfl⟩
  · rw [ho] at c h2
    simp at h2 ⊢
    clear ho
    go_enter Try.func82, Try.ntmps82
    go_wp2
    go_ret
    exact ⟨rfl, rfl⟩
theorem end_bd (q : IQ) (ok : IqOk q) : q.rd ≤ endZ q ∧ endZ q ≤ q.rd + 2048 ∧ 1 ≤ endZ q ∧ endZ q ≤ 1152921504606846976 := by
  have h1 := ok.rd1
  have h2 := ok.rdn
  have h3 := ok.nxr
  have h4 := ok.nxm
  unfold endZ
  cases ho : q.over <;> rw [ho] at h2 h3 <;> simp at h2 h3 ⊢ <;> omega
theorem Ready_any (g : Nat) (q : IQ) (w : World) (hQ : InqAt w g q) (ok : IqOk q) :
    Calls Try.prog 53 #[.pointer (some ⟨g, 0, none⟩)] w fun e w' => e = .returned (.int .i64 (endZ q - q.rd)) ∧ Below w.heap.size w w' := by
  have c := InqAt.rd_ hQ
  obtain ⟨b1, b2, b3, b4⟩ := end_bd q ok
  have hlt := hQ.lt
  have he := fun (u : Later w) => end_any g q u.now (hQ.kept u.still) ok
  have h1 := ok.rd1
  have HE := Lib.hid he
  clear he
  go_enter Try.func53, Try.ntmps53
  go_wp2_with fail
  refine wp_region_later (by kernel_rfl) (by kernel_rfl) (fun hlc => ?_)
  repeat (go_big_quiet_step ((go_at_call 82; exact later_same (HE.out _))))
  refine wpQuiet_nil ?_
  intro wq hbq
  clear hlc
  go_wp2_with fail
  go_ret
  exact ⟨rfl, hbq⟩
theorem Window_any (g : Nat) (q : IQ) (w : World) (hQ : InqAt w g q) (ok : IqOk q) :
    Calls Try.prog 66 #[.pointer (some ⟨g, 0, none⟩)] w fun e w' => e = .returned (.int .i64 (2048 - (endZ q - q.rd))) ∧ Below w.heap.size w w' := by
  obtain ⟨b1, b2, b3, b4⟩ := end_bd q ok
  go_enter Try.func66, Try.ntmps66
  go_wp2_with fail
  refine (Ready_any g q _ hQ ok).mono ?_
  rintro e w1 ⟨rfl, hB1⟩
  go_wp2_with fail
  go_ret
  exact ⟨rfl, hB1⟩
def zeroIQ : IQ := ⟨fun _ => 0, fun _ => false, 0, 0, 0, false⟩
set_option maxRecDepth 1000000 in
theorem inq_zero (W : World) : (zeroValue 121).run Try.prog W = .ok (.agg (inqC zeroIQ).toArray) W := by kernel_rfl
theorem inqC_len (q : IQ) : (inqC q).length = 4100 := by
  unfold inqC
  simp [fnL_len]
set_option maxRecDepth 100000 in
theorem inqNew_any (w : World) : Calls Try.prog 85 #[] w fun e w' => e = .returned (.pointer (some ⟨w.heap.size, 0, none⟩)) ∧ InqAt w' w.heap.size newIQ ∧ Below w.heap.size w w' := by
  have hz := inq_zero
  have hl := inqC_len zeroIQ
  have hn : ((inqC zeroIQ).set 4096 (.int .i64 1)).set 4097 (.int .i64 1) = ((inqC zeroIQ).set 4096 (.int .i64 1)).set 4097 (.int .i64 1) := rfl
  have h3 : (((inqC zeroIQ).set 4096 (.int .i64 1)).set 4097 (.int .i64 1)).set 4098 (.int .i64 (-1)) = inqC newIQ := by rw [inqC_setrd, inqC_setnx, inqC_setfin]; rfl
  clear hn
  generalize inqC zeroIQ = Z at *
  have hs : Z.toArray.size = 4100 := by rw [List.size_toArray]; exact hl
  have h4 : ((Z.toArray.setIfInBounds 4096 (.int .i64 1)).setIfInBounds 4097 (.int .i64 1)).setIfInBounds 4098 (.int .i64 (-1)) = (inqC newIQ).toArray := by
    rw [List.setIfInBounds_toArray, List.setIfInBounds_toArray, List.setIfInBounds_toArray, h3]
  generalize Z.toArray = Y at *
  clear h3 hl
  have H4 := Lib.hid h4
  clear h4
  go_enter Try.func85, Try.ntmps85
  go_wp2_with fail
  go_ret
  refine ⟨rfl, ?_, below_ca (Below.refl _ _) _⟩
  rw [H4.out]
  exact At.new_ _ _ _
end Go.Proofs.Ytfpifahkpkjfgaa
