/- Contracts of udp's isPort, Check, check. -/
import Derived.Test.YtpjcbjacdkobmaaPseu
namespace Go.Proofs.Ytpjcbjacdkobmaa
open Go.RowKit
set_option linter.unusedVariables false

def portB (n : Int) : Bool := decide (0 < n ∧ n ≤ 65535)
theorem udPort_is (n : Int) (b : Bool) (w : World) (h : portB n = b) : Calls Try.prog 39 #[.int .i64 n] w fun e w' => e = .returned (.bool b) ∧ w = w' := by
  unfold portB at h
  by_cases h1 : 0 < n
  · by_cases h2 : n ≤ 65535
    · obtain rfl : b = true := by rw [← h]; simp [h1, h2]
      clear h
      go_enter Try.func39, Try.ntmps39
      go_wp2
      go_ret
      exact ⟨rfl, rfl⟩
    · obtain rfl : b = false := by rw [← h]; simp [h2]
      have d1 : decide (0 < n) = true := by simpa using h1
      have d2 : decide (n ≤ 65535) = false := by simpa using h2
      clear h
      go_enter Try.func39, Try.ntmps39
      go_wp2
      go_ret
      exact ⟨rfl, rfl⟩
  · obtain rfl : b = false := by rw [← h]; simp [h1]
    have d1 : decide (0 < n) = false := by simpa using h1
    clear h
    go_enter Try.func39, Try.ntmps39
    go_wp2
    go_ret
    exact ⟨rfl, rfl⟩
structure GramOk (g : KGram) : Prop where
  fa : 0 ≤ g.fa ∧ g.fa ≤ 4294967295
  fp : -9223372036854775808 ≤ g.fp ∧ g.fp ≤ 9223372036854775807
  ta : 0 ≤ g.ta ∧ g.ta ≤ 4294967295
  tp : -9223372036854775808 ≤ g.tp ∧ g.tp ≤ 9223372036854775807
  b : g.b.size ≤ 9223372036854775807
def udChk (g : KGram) : Int := if portB g.fp = true ∧ portB g.tp = true then (if 1000 < g.b.size then 2 else 0) else 1
theorem udChk_ok {g : KGram} (h : udChk g = 0) : (0 < g.fp ∧ g.fp ≤ 65535) ∧ (0 < g.tp ∧ g.tp ≤ 65535) ∧ g.b.size ≤ 1000 := by
  unfold udChk at h
  split at h
  · rename_i h1
    split at h
    · cases h
    · unfold portB at h1
      simp at h1
      omega
  · cases h
set_option maxRecDepth 100000 in
set_option maxHeartbeats 2000000 in
theorem udCheck_any (g : KGram) (w : World) (ok : GramOk g) :
    Calls Try.prog 14 #[.agg (cGram g).toArray] w fun e w' => e = .returned (.int .i64 (udChk g)) ∧ Below w.heap.size w w' := by
  have hb := ok.b
  have hv : udChk g = if portB g.fp = true ∧ portB g.tp = true then (if 1000 < g.b.size then 2 else 0) else 1 := rfl
  have o1 := fun W => calls_b (udPort_is g.fp _ W rfl)
  have o2 := fun W => calls_b (udPort_is g.tp _ W rfl)
  have hM := Mem.nil w
  cases h1 : portB g.fp <;> cases h2 : portB g.tp <;> by_cases h3 : 1000 < g.b.size <;> rw [h1] at o1 <;> rw [h2] at o2
  all_goals
    rw [h1, h2] at hv
    simp [h3] at hv
    have O1 := Lib.hid o1
    have O2 := Lib.hid o2
    have HV := Lib.hid hv
    clear o1 o2 hv h1 h2
    go_enter Try.func14, Try.ntmps14
    go_upto_region 1 with         (first
          | (refine at_box_ ?_; refine wpList_box_mem rfl _ _ rfl _ rfl hM ?_; clear hM; intro gb W hM; first | (simp only [List.nil_append] at hM) | (simp only [List.cons_append, List.nil_append] at hM)))
    have hc := hM.cells 0 rfl
    simp only [cGram] at hc
    go_wp2_with (go_at_call 39; first | (with_reducible refine (O1.out _).mono ?_; rintro e W ⟨rfl, hb⟩; replace hM := hM.kept hb; clear hb; clear hc; have hc := hM.cells 0 rfl; simp only [cGram] at hc) | (with_reducible refine (O2.out _).mono ?_; rintro e W ⟨rfl, hb⟩; replace hM := hM.kept hb; clear hb; clear hc; have hc := hM.cells 0 rfl; simp only [cGram] at hc))
    go_ret
    exact ⟨ret_int HV.out.symm, hM.b⟩
/-- the sum of a datagram's bytes -/
def udX (s d : Int) (t : ByteArray) : Int := sumZ (byteL (pseuL s d 17 (t.size : Int)) ++ t.data.toList)
def udSum (s d : Int) (t : ByteArray) : Int := if 65535 - udX s d t = 0 then 65535 else 65535 - udX s d t
set_option maxRecDepth 100000 in
set_option maxHeartbeats 2000000 in
theorem udcheck_any (s d : Int) (t : ByteArray) (w : World) (hs : 0 ≤ s) (hs' : s ≤ 4294967295) (hd : 0 ≤ d) (hd' : d ≤ 4294967295) (ht : t.size ≤ 140737488354000) :
    Calls Try.prog 37 #[.int .u32 s, .int .u32 d, .string t] w fun e w' => e = .returned (.int .u16 (udSum s d t)) ∧ Below w.heap.size w w' := by
  have hps := fun W => Pseudo_any s d 17 (t.size : Int) W hs hs' hd hd' (by omega) (by omega) (by omega) (by omega)
  have hl : (byteS (pseuL s d 17 (t.size : Int))).size = 12 := by rw [byteS_sz]; rfl
  have hadd := fun W => run_string_add_sum (P := Try.prog) (w := W) (byteS (pseuL s d 17 (t.size : Int))) t (by omega)
  have hck := fun W => Check16_any (byteS (pseuL s d 17 (t.size : Int)) ++ t) W (by rw [ByteArray.size_append]; omega)
  have e1 : (byteS (pseuL s d 17 (t.size : Int)) ++ t).data.toList = byteL (pseuL s d 17 (t.size : Int)) ++ t.data.toList := by rw [ByteArray.data_append, Array.toList_append]; rfl
  have e2 : sumZ (byteL (pseuL s d 17 (t.size : Int)) ++ t.data.toList) = udX s d t := rfl
  rw [e1, e2] at hck
  have hv : udSum s d t = if 65535 - udX s d t = 0 then 65535 else 65535 - udX s d t := rfl
  clear e1 e2 hl
  generalize byteS (pseuL s d 17 (t.size : Int)) = S at *
  have HP := Lib.hid hps
  have HC := Lib.hid hck
  have HV := Lib.hid hv
  clear hps hck hv
  have hM := Mem.nil w
  by_cases h0 : 65535 - udX s d t = 0
  · have hv := HV.out
    rw [if_pos h0] at hv
    have HV := Lib.hid hv
    have h1 : (65535 - udX s d t == 0) = true := by simpa using h0
    clear hv h0
    go_enter Try.func37, Try.ntmps37
    go_wp2_with (first
      | (go_at_call 61; go_must (refine (HP.out _).mono ?_; rintro e W ⟨rfl, hb⟩; replace hM := hM.kept hb; clear hb))
      | (go_at_call 41; go_must (refine (HC.out _).mono ?_; rintro e W ⟨rfl, hb⟩; replace hM := hM.kept hb; clear hb))
      | (refine at_box_ ?_; refine wpList_box_mem rfl _ _ rfl _ rfl hM ?_; clear hM; intro gb W hM; first | (simp only [List.nil_append] at hM) | (simp only [List.cons_append, List.nil_append] at hM)))
    go_ret
    exact ⟨ret_int HV.out.symm, hM.b⟩
  · have hv := HV.out
    rw [if_neg h0] at hv
    have HV := Lib.hid hv
    have h1 : (65535 - udX s d t == 0) = false := by simpa using h0
    clear hv h0
    go_enter Try.func37, Try.ntmps37
    go_wp2_with (first
      | (go_at_call 61; go_must (refine (HP.out _).mono ?_; rintro e W ⟨rfl, hb⟩; replace hM := hM.kept hb; clear hb))
      | (go_at_call 41; go_must (refine (HC.out _).mono ?_; rintro e W ⟨rfl, hb⟩; replace hM := hM.kept hb; clear hb))
      | (refine at_box_ ?_; refine wpList_box_mem rfl _ _ rfl _ rfl hM ?_; clear hM; intro gb W hM; first | (simp only [List.nil_append] at hM) | (simp only [List.cons_append, List.nil_append] at hM)))
    go_ret
    exact ⟨ret_int HV.out.symm, hM.b⟩
end Go.Proofs.Ytpjcbjacdkobmaa
