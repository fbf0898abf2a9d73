/- The contracts of the queue of what goes out: what only reads. -/
import Derived.Test.YtfpifahkpkjfgaaOutqP
namespace Go.Proofs.Ytfpifahkpkjfgaa
open Go.RowKit Go.Lib
set_option linter.unusedVariables false

def oqC (q : OQ) (v : Value) : List Value := [v, .int .i64 q.base, .int .i64 q.una, .int .i64 q.cur, .int .i64 q.sent, .bool q.cl]
abbrev OAt (w : World) (g : Nat) (q : OQ) (v : Value) : Prop := At w g 106 (oqC q v)
def oqA (g : Nat) (q : OQ) (v : Value) : Res := atR g 106 (oqC q v)
def oqB (q : OQ) (v : Value) : Res := ownR 0 v q.l
def oqE (g : Nat) (v : Value) : Nat → Prop := fun k => k = g ∨ v.ownBlock = some k
section
variable (g : Nat) (q : OQ) (v : Value) (w : World) (hA : OAt w g q v)
include hA
set_option maxRecDepth 100000 in
theorem Una_any : Calls Try.prog 63 #[.pointer (some ⟨g, 0, none⟩)] w fun e w' => e = .returned (.int .i64 q.una) ∧ w = w' := by
  have hc := hA.cell
  simp only [oqC] at hc
  go_enter Try.func63, Try.ntmps63
  go_wp2_with fail
  go_ret
  exact ⟨rfl, rfl⟩
set_option maxRecDepth 100000 in
theorem Cur_any : Calls Try.prog 41 #[.pointer (some ⟨g, 0, none⟩)] w fun e w' => e = .returned (.int .i64 q.cur) ∧ w = w' := by
  have hc := hA.cell
  simp only [oqC] at hc
  go_enter Try.func41, Try.ntmps41
  go_wp2_with fail
  go_ret
  exact ⟨rfl, rfl⟩
set_option maxRecDepth 100000 in
theorem Sent_any : Calls Try.prog 39 #[.pointer (some ⟨g, 0, none⟩)] w fun e w' => e = .returned (.int .i64 q.sent) ∧ w = w' := by
  have hc := hA.cell
  simp only [oqC] at hc
  go_enter Try.func39, Try.ntmps39
  go_wp2_with fail
  go_ret
  exact ⟨rfl, rfl⟩
variable (hV : OwnB w 0 v q.l) (hl : q.l.length ≤ 2048) (hb : 1 ≤ q.base) (hb2 : q.base ≤ 4611686018427387904)
include hV hl
set_option maxRecDepth 100000 in
theorem Room_any : Calls Try.prog 56 #[.pointer (some ⟨g, 0, none⟩)] w fun e w' => e = .returned (.int .i64 (oRoom q)) ∧ w = w' := by
  obtain ⟨A, c, rfl⟩ := hV.form
  have hc := hA.cell
  simp only [oqC] at hc
  have hr : oRoom q = if q.cl then 0 else 2048 - (q.l.length : Int) := rfl
  clear hA hV
  cases hcl : q.cl
  all_goals
    rw [hcl] at hr hc
    have HR := Lib.hid hr
    clear hr
    go_enter Try.func56, Try.ntmps56
    go_wp2_with fail
    go_ret
    exact ⟨by rw [HR.out]; rfl, rfl⟩
include hb hb2
set_option maxRecDepth 100000 in
theorem fin_any : Calls Try.prog 83 #[.pointer (some ⟨g, 0, none⟩)] w fun e w' => e = .returned (.int .i64 (oFin q)) ∧ Below w.heap.size w w' := by
  obtain ⟨A, c, rfl⟩ := hV.form
  have hc := hA.cell
  have hlt := hA.lt
  simp only [oqC] at hc
  clear hA hV
  go_enter Try.func83, Try.ntmps83
  go_wp2_with fail
  (try go_quiet (fail))
  (try go_wp2_with fail)
  go_ret
  exact ⟨rfl, by repeat' (first | with_reducible exact Below.refl _ _ | with_reducible assumption | with_reducible refine Below.drew ?_ | with_reducible refine below_dn ?_ _ | with_reducible refine below_ca ?_ _ | with_reducible refine Below.setCell ?_ ?_ _ | (refine below_c ?_ (by with_reducible assumption)) | (simp <;> omega) | omega)⟩
set_option maxRecDepth 100000 in
theorem End_any : Calls Try.prog 68 #[.pointer (some ⟨g, 0, none⟩)] w fun e w' => e = .returned (.int .i64 (qEnd q)) ∧ Below w.heap.size w w' := by
  have hc := hA.cell
  simp only [oqC] at hc
  have hr : qEnd q = if q.cl then oFin q + 1 else oFin q := rfl
  have HF := Lib.hid (fin_any g q v w hA hV hl hb hb2)
  have hf : oFin q = q.base + q.l.length := rfl
  have hf1 : oFin q ≤ 4611686018427390000 := by omega
  have hf2 : 1 ≤ oFin q := by omega
  clear hA hV hf
  cases hcl : q.cl
  all_goals
    rw [hcl] at hr hc
    have HR := Lib.hid hr
    clear hr
    go_enter Try.func68, Try.ntmps68
    go_wp2_with (go_at_call 83; go_must (refine HF.out.mono ?_; rintro e W ⟨rfl, hB⟩))
    go_ret
    exact ⟨by rw [HR.out]; rfl, hB⟩
end
theorem newq_any (w : World) : Calls Try.prog 60 #[] w fun e w' => ∃ g, e = .returned (.pointer (some ⟨g, 0, none⟩)) ∧ Mem w w' [oqA g newOQ (.slice none 0 0), oqB newOQ (.slice none 0 0)] := by
  have hM := Mem.nil w
  go_enter Try.func60, Try.ntmps60
  go_wp2_with (first
    | go_skip
    | ((with_reducible refine at_box_ ?_); refine wpList_box_mem rfl _ _ rfl _ rfl hM ?_; clear hM; intro gb W hM; first | (simp only [List.nil_append] at hM) | (simp only [List.cons_append, List.nil_append] at hM))
    | ((with_reducible refine at_load_ ?_); refine at_wanted_ (by rfl) ?_; refine wpList_loadf_mem (by go_simp) _ _ rfl (by kernel_rfl) 0 _ _ _ _ _ hM rfl rfl (by first | rfl | assumption) ?_)
    | ((with_reducible refine at_store_ ?_); refine wpList_store1_mem rfl _ _ _ rfl 0 _ _ _ _ _ hM rfl rfl (by first | ((conv => lhs; whnf); done) | ((conv => lhs; whnf); rfl)) (by rfl) (by rfl) (by kernel_rfl) rfl ?_; clear hM; intro W hM; simp only [List.set_cons_succ, List.set_cons_zero] at hM))
  go_ret
  exact ⟨_, rfl, hM.ownNil 0⟩
def oLn (p : KPiece) : Int := oLen p
set_option maxRecDepth 100000 in
theorem length_any (p : KPiece) (w : World) (hs : p.b.size ≤ 1000000) : Calls Try.prog 65 #[.agg (cPiece p).toArray] w fun e w' => e = .returned (.int .i64 (oLen p)) ∧ Below w.heap.size w w' := by
  have hr : oLen p = p.b.size + (if p.syn then 1 else 0) + (if p.fin then 1 else 0) := rfl
  obtain ⟨pa, ps, pf, pb⟩ := p
  simp only at hr hs
  cases ps
  all_goals
    cases pf
    all_goals
      have HR := Lib.hid hr
      clear hr
      have hM := Mem.nil w
      go_enter Try.func65, Try.ntmps65
      go_wp2_with (first
        | go_skip
        | ((with_reducible refine at_box_ ?_); refine wpList_box_mem rfl _ _ rfl _ rfl hM ?_; clear hM; intro gb W hM; first | (simp only [List.nil_append] at hM) | (simp only [List.cons_append, List.nil_append] at hM))
        | ((with_reducible refine at_load_ ?_); refine at_wanted_ (by rfl) ?_; refine wpList_loadf_mem (by go_simp) _ _ rfl (by kernel_rfl) 0 _ _ _ _ _ hM rfl rfl (by first | rfl | assumption) ?_)
        | ((with_reducible refine at_store_ ?_); refine wpList_store1_mem rfl _ _ _ rfl 0 _ _ _ _ _ hM rfl rfl (by first | ((conv => lhs; whnf); done) | ((conv => lhs; whnf); rfl)) (by rfl) (by rfl) (by kernel_rfl) rfl ?_; clear hM; intro W hM; simp only [List.set_cons_succ, List.set_cons_zero] at hM))
      go_ret
      exact ⟨by rw [HR.out]; simp <;> (try rfl), hM.b⟩
end Go.Proofs.Ytfpifahkpkjfgaa
