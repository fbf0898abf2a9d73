/- What ConnStops needs, a part: TcpC. -/
import Derived.Outline
import Derived.Test.YtfpifahkpkjfgaaMConnStops4
namespace Go.Proofs.Ytfpifahkpkjfgaa
open Go.RowKit
set_option linter.unusedVariables false
def portT (n : Int) : Bool := decide (0 < n ∧ n ≤ 65535)
theorem tcPort_is (n : Int) (b : Bool) (w : World) (h : portT n = b) : Calls Try.prog 72 #[.int .i64 n] w fun e w' => e = .returned (.bool b) ∧ w = w' := by
 unfold portT at h
 by_cases h1 : 0 < n
 ·by_cases h2 : n ≤ 65535
  ·obtain rfl : b = true := by rw [← h]; simp [h1, h2]
   clear h
   go_enter Try.func72, Try.ntmps72
   go_wp2
   go_ret
   exact ⟨rfl, rfl⟩
  ·obtain rfl : b = false := by rw [← h]; simp [h2]
   have d1 : decide (0 < n) = true := by simpa using h1
   have d2 : decide (n ≤ 65535) = false := by simpa using h2
   clear h
   go_enter Try.func72, Try.ntmps72
   go_wp2
   go_ret
   exact ⟨rfl, rfl⟩
 ·obtain rfl : b = false := by rw [← h]; simp [h1]
  have d1 : decide (0 < n) = false := by simpa using h1
  clear h
  go_enter Try.func72, Try.ntmps72
  go_wp2
  go_ret
  exact ⟨rfl, rfl⟩
structure SegOk (g : KSeg) : Prop where
 fa : 0 ≤ g.fa ∧ g.fa ≤ 4294967295
 fp : -9223372036854775808 ≤ g.fp ∧ g.fp ≤ 9223372036854775807
 ta : 0 ≤ g.ta ∧ g.ta ≤ 4294967295
 tp : -9223372036854775808 ≤ g.tp ∧ g.tp ≤ 9223372036854775807
 seq : 0 ≤ g.seq ∧ g.seq ≤ 4294967295
 ack : 0 ≤ g.ack ∧ g.ack ≤ 4294967295
 win : -9223372036854775808 ≤ g.win ∧ g.win ≤ 9223372036854775807
 mss : -9223372036854775808 ≤ g.mss ∧ g.mss ≤ 9223372036854775807
 b : g.b.size ≤ 9223372036854775807
def tcArg (g : KSeg) : Bool := !portT g.fp || !portT g.tp || decide (g.win < 0) || decide (65535 < g.win) || decide (g.mss < 0) || decide (65535 < g.mss)
def tcForm (g : KSeg) : Bool := (decide (g.mss ≠ 0) && !g.syn) || (g.syn && (g.fin || g.rst)) || (g.fin && g.rst) || (decide (g.ack ≠ 0) && !g.has)
def tcChk (g : KSeg) : Int := if tcArg g = true then 1 else if tcForm g = true then 4 else if 1000 < g.b.size then 2 else 0
set_option maxRecDepth 100000 in
set_option maxHeartbeats 4000000 in
theorem tcCheck_any (g : KSeg) (w : World) (ok : SegOk g) :
    Calls Try.prog 47 #[.agg (cSeg g).toArray] w fun e w' => e = .returned (.int .i64 (tcChk g)) ∧ Below w.heap.size w w' := by
  have hb := ok.b
  have O1 := Lib.hid (fun W => calls_b (tcPort_is g.fp _ W rfl))
  have O2 := Lib.hid (fun W => calls_b (tcPort_is g.tp _ W rfl))
  have hv : tcChk g = if tcArg g = true then 1 else if tcForm g = true then 4 else if 1000 < g.b.size then 2 else 0 := rfl
  have ha : tcArg g = (!portT g.fp || !portT g.tp || decide (g.win < 0) || decide (65535 < g.win) || decide (g.mss < 0) || decide (65535 < g.mss)) := rfl
  have hf : tcForm g = ((decide (g.mss ≠ 0) && !g.syn) || (g.syn && (g.fin || g.rst)) || (g.fin && g.rst) || (decide (g.ack ≠ 0) && !g.has)) := rfl
  have HV := Lib.hid hv
  have HA := Lib.hid ha
  have HF := Lib.hid hf
  clear hv ha hf ok
  have hM := Mem.nil w
  obtain ⟨fa, fp, ta, tp, seq, ack, syn, has, fin, rst, win, mss, b⟩ := g
  simp only at *
  have o1 := O1.out
  have o2 := O2.out
  clear O1 O2
  cases c1 : portT fp <;> rw [c1] at o1
  · have O1 := Lib.hid o1
    have O2 := Lib.hid o2
    clear o1 o2
    go_enter Try.func47, Try.ntmps47
    go_upto_region 1 with         (first
          | go_skip
          | ((with_reducible refine at_box_ ?_); refine wpList_box_mem rfl _ _ rfl _ rfl hM ?_; clear hM; intro gb W hM; first | (simp only [List.nil_append] at hM) | (simp only [List.cons_append, List.nil_append] at hM)))
    have hc := hM.cells 0 rfl
    simp only [cSeg] at hc
    go_wp2_with (go_at_call 72; first | (with_reducible refine (O1.out _).mono ?_; rintro e W ⟨rfl, hb⟩; replace hM := hM.kept hb; clear hb; clear hc; have hc := hM.cells 0 rfl; simp only [cSeg] at hc) | (with_reducible refine (O2.out _).mono ?_; rintro e W ⟨rfl, hb⟩; replace hM := hM.kept hb; clear hb; clear hc; have hc := hM.cells 0 rfl; simp only [cSeg] at hc))
    go_ret
    refine ⟨ret_int ?_, hM.b⟩
    clear hM hc
    rw [HV.out, HA.out, HF.out]
    simp [*]
  cases c2 : portT tp <;> rw [c2] at o2
  · have O1 := Lib.hid o1
    have O2 := Lib.hid o2
    clear o1 o2
    go_enter Try.func47, Try.ntmps47
    go_upto_region 1 with         (first
          | go_skip
          | ((with_reducible refine at_box_ ?_); refine wpList_box_mem rfl _ _ rfl _ rfl hM ?_; clear hM; intro gb W hM; first | (simp only [List.nil_append] at hM) | (simp only [List.cons_append, List.nil_append] at hM)))
    have hc := hM.cells 0 rfl
    simp only [cSeg] at hc
    go_wp2_with (go_at_call 72; first | (with_reducible refine (O1.out _).mono ?_; rintro e W ⟨rfl, hb⟩; replace hM := hM.kept hb; clear hb; clear hc; have hc := hM.cells 0 rfl; simp only [cSeg] at hc) | (with_reducible refine (O2.out _).mono ?_; rintro e W ⟨rfl, hb⟩; replace hM := hM.kept hb; clear hb; clear hc; have hc := hM.cells 0 rfl; simp only [cSeg] at hc))
    go_ret
    refine ⟨ret_int ?_, hM.b⟩
    clear hM hc
    rw [HV.out, HA.out, HF.out]
    simp [*]
  have O1 := Lib.hid o1
  have O2 := Lib.hid o2
  clear o1 o2
  by_cases c3 : win < 0
  · skip
    go_enter Try.func47, Try.ntmps47
    go_upto_region 1 with         (first
          | go_skip
          | ((with_reducible refine at_box_ ?_); refine wpList_box_mem rfl _ _ rfl _ rfl hM ?_; clear hM; intro gb W hM; first | (simp only [List.nil_append] at hM) | (simp only [List.cons_append, List.nil_append] at hM)))
    have hc := hM.cells 0 rfl
    simp only [cSeg] at hc
    go_wp2_with (go_at_call 72; first | (with_reducible refine (O1.out _).mono ?_; rintro e W ⟨rfl, hb⟩; replace hM := hM.kept hb; clear hb; clear hc; have hc := hM.cells 0 rfl; simp only [cSeg] at hc) | (with_reducible refine (O2.out _).mono ?_; rintro e W ⟨rfl, hb⟩; replace hM := hM.kept hb; clear hb; clear hc; have hc := hM.cells 0 rfl; simp only [cSeg] at hc))
    go_ret
    refine ⟨ret_int ?_, hM.b⟩
    clear hM hc
    rw [HV.out, HA.out, HF.out]
    simp [*]
  by_cases c4 : 65535 < win
  · skip
    go_enter Try.func47, Try.ntmps47
    go_upto_region 1 with         (first
          | go_skip
          | ((with_reducible refine at_box_ ?_); refine wpList_box_mem rfl _ _ rfl _ rfl hM ?_; clear hM; intro gb W hM; first | (simp only [List.nil_append] at hM) | (simp only [List.cons_append, List.nil_append] at hM)))
    have hc := hM.cells 0 rfl
    simp only [cSeg] at hc
    go_wp2_with (go_at_call 72; first | (with_reducible refine (O1.out _).mono ?_; rintro e W ⟨rfl, hb⟩; replace hM := hM.kept hb; clear hb; clear hc; have hc := hM.cells 0 rfl; simp only [cSeg] at hc) | (with_reducible refine (O2.out _).mono ?_; rintro e W ⟨rfl, hb⟩; replace hM := hM.kept hb; clear hb; clear hc; have hc := hM.cells 0 rfl; simp only [cSeg] at hc))
    go_ret
    refine ⟨ret_int ?_, hM.b⟩
    clear hM hc
    rw [HV.out, HA.out, HF.out]
    simp [*]
  by_cases c5 : mss < 0
  · skip
    go_enter Try.func47, Try.ntmps47
    go_upto_region 1 with         (first
          | go_skip
          | ((with_reducible refine at_box_ ?_); refine wpList_box_mem rfl _ _ rfl _ rfl hM ?_; clear hM; intro gb W hM; first | (simp only [List.nil_append] at hM) | (simp only [List.cons_append, List.nil_append] at hM)))
    have hc := hM.cells 0 rfl
    simp only [cSeg] at hc
    go_wp2_with (go_at_call 72; first | (with_reducible refine (O1.out _).mono ?_; rintro e W ⟨rfl, hb⟩; replace hM := hM.kept hb; clear hb; clear hc; have hc := hM.cells 0 rfl; simp only [cSeg] at hc) | (with_reducible refine (O2.out _).mono ?_; rintro e W ⟨rfl, hb⟩; replace hM := hM.kept hb; clear hb; clear hc; have hc := hM.cells 0 rfl; simp only [cSeg] at hc))
    go_ret
    refine ⟨ret_int ?_, hM.b⟩
    clear hM hc
    rw [HV.out, HA.out, HF.out]
    simp [*]
  by_cases c6 : 65535 < mss
  · skip
    go_enter Try.func47, Try.ntmps47
    go_upto_region 1 with         (first
          | go_skip
          | ((with_reducible refine at_box_ ?_); refine wpList_box_mem rfl _ _ rfl _ rfl hM ?_; clear hM; intro gb W hM; first | (simp only [List.nil_append] at hM) | (simp only [List.cons_append, List.nil_append] at hM)))
    have hc := hM.cells 0 rfl
    simp only [cSeg] at hc
    go_wp2_with (go_at_call 72; first | (with_reducible refine (O1.out _).mono ?_; rintro e W ⟨rfl, hb⟩; replace hM := hM.kept hb; clear hb; clear hc; have hc := hM.cells 0 rfl; simp only [cSeg] at hc) | (with_reducible refine (O2.out _).mono ?_; rintro e W ⟨rfl, hb⟩; replace hM := hM.kept hb; clear hb; clear hc; have hc := hM.cells 0 rfl; simp only [cSeg] at hc))
    go_ret
    refine ⟨ret_int ?_, hM.b⟩
    clear hM hc
    rw [HV.out, HA.out, HF.out]
    simp [*]
  by_cases m0 : mss = 0
  · have t0 : (mss != 0) = false := by simpa using m0
    cases syn
    · cases fin
      · skip
        by_cases a0 : ack = 0
        · by_cases z : 1000 < b.size
          · have t1 : (ack != 0) = false := by simpa using a0
            go_enter Try.func47, Try.ntmps47
            go_upto_region 1 with         (first
          | go_skip
          | ((with_reducible refine at_box_ ?_); refine wpList_box_mem rfl _ _ rfl _ rfl hM ?_; clear hM; intro gb W hM; first | (simp only [List.nil_append] at hM) | (simp only [List.cons_append, List.nil_append] at hM)))
            have hc := hM.cells 0 rfl
            simp only [cSeg] at hc
            go_wp2_with (go_at_call 72; first | (with_reducible refine (O1.out _).mono ?_; rintro e W ⟨rfl, hb⟩; replace hM := hM.kept hb; clear hb; clear hc; have hc := hM.cells 0 rfl; simp only [cSeg] at hc) | (with_reducible refine (O2.out _).mono ?_; rintro e W ⟨rfl, hb⟩; replace hM := hM.kept hb; clear hb; clear hc; have hc := hM.cells 0 rfl; simp only [cSeg] at hc))
            go_ret
            refine ⟨ret_int ?_, hM.b⟩
            clear hM hc
            rw [HV.out, HA.out, HF.out]
            simp [*]
          · have t1 : (ack != 0) = false := by simpa using a0
            go_enter Try.func47, Try.ntmps47
            go_upto_region 1 with         (first
          | go_skip
          | ((with_reducible refine at_box_ ?_); refine wpList_box_mem rfl _ _ rfl _ rfl hM ?_; clear hM; intro gb W hM; first | (simp only [List.nil_append] at hM) | (simp only [List.cons_append, List.nil_append] at hM)))
            have hc := hM.cells 0 rfl
            simp only [cSeg] at hc
            go_wp2_with (go_at_call 72; first | (with_reducible refine (O1.out _).mono ?_; rintro e W ⟨rfl, hb⟩; replace hM := hM.kept hb; clear hb; clear hc; have hc := hM.cells 0 rfl; simp only [cSeg] at hc) | (with_reducible refine (O2.out _).mono ?_; rintro e W ⟨rfl, hb⟩; replace hM := hM.kept hb; clear hb; clear hc; have hc := hM.cells 0 rfl; simp only [cSeg] at hc))
            go_ret
            refine ⟨ret_int ?_, hM.b⟩
            clear hM hc
            rw [HV.out, HA.out, HF.out]
            simp [*]
        · have t1 : (ack != 0) = true := by simpa using a0
          cases has
          · skip
            go_enter Try.func47, Try.ntmps47
            go_upto_region 1 with         (first
          | go_skip
          | ((with_reducible refine at_box_ ?_); refine wpList_box_mem rfl _ _ rfl _ rfl hM ?_; clear hM; intro gb W hM; first | (simp only [List.nil_append] at hM) | (simp only [List.cons_append, List.nil_append] at hM)))
            have hc := hM.cells 0 rfl
            simp only [cSeg] at hc
            go_wp2_with (go_at_call 72; first | (with_reducible refine (O1.out _).mono ?_; rintro e W ⟨rfl, hb⟩; replace hM := hM.kept hb; clear hb; clear hc; have hc := hM.cells 0 rfl; simp only [cSeg] at hc) | (with_reducible refine (O2.out _).mono ?_; rintro e W ⟨rfl, hb⟩; replace hM := hM.kept hb; clear hb; clear hc; have hc := hM.cells 0 rfl; simp only [cSeg] at hc))
            go_ret
            refine ⟨ret_int ?_, hM.b⟩
            clear hM hc
            rw [HV.out, HA.out, HF.out]
            simp [*]
          · by_cases z : 1000 < b.size
            · skip
              go_enter Try.func47, Try.ntmps47
              go_upto_region 1 with         (first
          | go_skip
          | ((with_reducible refine at_box_ ?_); refine wpList_box_mem rfl _ _ rfl _ rfl hM ?_; clear hM; intro gb W hM; first | (simp only [List.nil_append] at hM) | (simp only [List.cons_append, List.nil_append] at hM)))
              have hc := hM.cells 0 rfl
              simp only [cSeg] at hc
              go_wp2_with (go_at_call 72; first | (with_reducible refine (O1.out _).mono ?_; rintro e W ⟨rfl, hb⟩; replace hM := hM.kept hb; clear hb; clear hc; have hc := hM.cells 0 rfl; simp only [cSeg] at hc) | (with_reducible refine (O2.out _).mono ?_; rintro e W ⟨rfl, hb⟩; replace hM := hM.kept hb; clear hb; clear hc; have hc := hM.cells 0 rfl; simp only [cSeg] at hc))
              go_ret
              refine ⟨ret_int ?_, hM.b⟩
              clear hM hc
              rw [HV.out, HA.out, HF.out]
              simp [*]
            · skip
              go_enter Try.func47, Try.ntmps47
              go_upto_region 1 with         (first
          | go_skip
          | ((with_reducible refine at_box_ ?_); refine wpList_box_mem rfl _ _ rfl _ rfl hM ?_; clear hM; intro gb W hM; first | (simp only [List.nil_append] at hM) | (simp only [List.cons_append, List.nil_append] at hM)))
              have hc := hM.cells 0 rfl
              simp only [cSeg] at hc
              go_wp2_with (go_at_call 72; first | (with_reducible refine (O1.out _).mono ?_; rintro e W ⟨rfl, hb⟩; replace hM := hM.kept hb; clear hb; clear hc; have hc := hM.cells 0 rfl; simp only [cSeg] at hc) | (with_reducible refine (O2.out _).mono ?_; rintro e W ⟨rfl, hb⟩; replace hM := hM.kept hb; clear hb; clear hc; have hc := hM.cells 0 rfl; simp only [cSeg] at hc))
              go_ret
              refine ⟨ret_int ?_, hM.b⟩
              clear hM hc
              rw [HV.out, HA.out, HF.out]
              simp [*]
      · cases rst
        · skip
          by_cases a0 : ack = 0
          · by_cases z : 1000 < b.size
            · have t1 : (ack != 0) = false := by simpa using a0
              go_enter Try.func47, Try.ntmps47
              go_upto_region 1 with         (first
          | go_skip
          | ((with_reducible refine at_box_ ?_); refine wpList_box_mem rfl _ _ rfl _ rfl hM ?_; clear hM; intro gb W hM; first | (simp only [List.nil_append] at hM) | (simp only [List.cons_append, List.nil_append] at hM)))
              have hc := hM.cells 0 rfl
              simp only [cSeg] at hc
              go_wp2_with (go_at_call 72; first | (with_reducible refine (O1.out _).mono ?_; rintro e W ⟨rfl, hb⟩; replace hM := hM.kept hb; clear hb; clear hc; have hc := hM.cells 0 rfl; simp only [cSeg] at hc) | (with_reducible refine (O2.out _).mono ?_; rintro e W ⟨rfl, hb⟩; replace hM := hM.kept hb; clear hb; clear hc; have hc := hM.cells 0 rfl; simp only [cSeg] at hc))
              go_ret
              refine ⟨ret_int ?_, hM.b⟩
              clear hM hc
              rw [HV.out, HA.out, HF.out]
              simp [*]
            · have t1 : (ack != 0) = false := by simpa using a0
              go_enter Try.func47, Try.ntmps47
              go_upto_region 1 with         (first
          | go_skip
          | ((with_reducible refine at_box_ ?_); refine wpList_box_mem rfl _ _ rfl _ rfl hM ?_; clear hM; intro gb W hM; first | (simp only [List.nil_append] at hM) | (simp only [List.cons_append, List.nil_append] at hM)))
              have hc := hM.cells 0 rfl
              simp only [cSeg] at hc
              go_wp2_with (go_at_call 72; first | (with_reducible refine (O1.out _).mono ?_; rintro e W ⟨rfl, hb⟩; replace hM := hM.kept hb; clear hb; clear hc; have hc := hM.cells 0 rfl; simp only [cSeg] at hc) | (with_reducible refine (O2.out _).mono ?_; rintro e W ⟨rfl, hb⟩; replace hM := hM.kept hb; clear hb; clear hc; have hc := hM.cells 0 rfl; simp only [cSeg] at hc))
              go_ret
              refine ⟨ret_int ?_, hM.b⟩
              clear hM hc
              rw [HV.out, HA.out, HF.out]
              simp [*]
          · have t1 : (ack != 0) = true := by simpa using a0
            cases has
            · skip
              go_enter Try.func47, Try.ntmps47
              go_upto_region 1 with         (first
          | go_skip
          | ((with_reducible refine at_box_ ?_); refine wpList_box_mem rfl _ _ rfl _ rfl hM ?_; clear hM; intro gb W hM; first | (simp only [List.nil_append] at hM) | (simp only [List.cons_append, List.nil_append] at hM)))
              have hc := hM.cells 0 rfl
              simp only [cSeg] at hc
              go_wp2_with (go_at_call 72; first | (with_reducible refine (O1.out _).mono ?_; rintro e W ⟨rfl, hb⟩; replace hM := hM.kept hb; clear hb; clear hc; have hc := hM.cells 0 rfl; simp only [cSeg] at hc) | (with_reducible refine (O2.out _).mono ?_; rintro e W ⟨rfl, hb⟩; replace hM := hM.kept hb; clear hb; clear hc; have hc := hM.cells 0 rfl; simp only [cSeg] at hc))
              go_ret
              refine ⟨ret_int ?_, hM.b⟩
              clear hM hc
              rw [HV.out, HA.out, HF.out]
              simp [*]
            · by_cases z : 1000 < b.size
              · skip
                go_enter Try.func47, Try.ntmps47
                go_upto_region 1 with         (first
          | go_skip
          | ((with_reducible refine at_box_ ?_); refine wpList_box_mem rfl _ _ rfl _ rfl hM ?_; clear hM; intro gb W hM; first | (simp only [List.nil_append] at hM) | (simp only [List.cons_append, List.nil_append] at hM)))
                have hc := hM.cells 0 rfl
                simp only [cSeg] at hc
                go_wp2_with (go_at_call 72; first | (with_reducible refine (O1.out _).mono ?_; rintro e W ⟨rfl, hb⟩; replace hM := hM.kept hb; clear hb; clear hc; have hc := hM.cells 0 rfl; simp only [cSeg] at hc) | (with_reducible refine (O2.out _).mono ?_; rintro e W ⟨rfl, hb⟩; replace hM := hM.kept hb; clear hb; clear hc; have hc := hM.cells 0 rfl; simp only [cSeg] at hc))
                go_ret
                refine ⟨ret_int ?_, hM.b⟩
                clear hM hc
                rw [HV.out, HA.out, HF.out]
                simp [*]
              · skip
                go_enter Try.func47, Try.ntmps47
                go_upto_region 1 with         (first
          | go_skip
          | ((with_reducible refine at_box_ ?_); refine wpList_box_mem rfl _ _ rfl _ rfl hM ?_; clear hM; intro gb W hM; first | (simp only [List.nil_append] at hM) | (simp only [List.cons_append, List.nil_append] at hM)))
                have hc := hM.cells 0 rfl
                simp only [cSeg] at hc
                go_wp2_with (go_at_call 72; first | (with_reducible refine (O1.out _).mono ?_; rintro e W ⟨rfl, hb⟩; replace hM := hM.kept hb; clear hb; clear hc; have hc := hM.cells 0 rfl; simp only [cSeg] at hc) | (with_reducible refine (O2.out _).mono ?_; rintro e W ⟨rfl, hb⟩; replace hM := hM.kept hb; clear hb; clear hc; have hc := hM.cells 0 rfl; simp only [cSeg] at hc))
                go_ret
                refine ⟨ret_int ?_, hM.b⟩
                clear hM hc
                rw [HV.out, HA.out, HF.out]
                simp [*]
        · skip
          go_enter Try.func47, Try.ntmps47
          go_upto_region 1 with         (first
          | go_skip
          | ((with_reducible refine at_box_ ?_); refine wpList_box_mem rfl _ _ rfl _ rfl hM ?_; clear hM; intro gb W hM; first | (simp only [List.nil_append] at hM) | (simp only [List.cons_append, List.nil_append] at hM)))
          have hc := hM.cells 0 rfl
          simp only [cSeg] at hc
          go_wp2_with (go_at_call 72; first | (with_reducible refine (O1.out _).mono ?_; rintro e W ⟨rfl, hb⟩; replace hM := hM.kept hb; clear hb; clear hc; have hc := hM.cells 0 rfl; simp only [cSeg] at hc) | (with_reducible refine (O2.out _).mono ?_; rintro e W ⟨rfl, hb⟩; replace hM := hM.kept hb; clear hb; clear hc; have hc := hM.cells 0 rfl; simp only [cSeg] at hc))
          go_ret
          refine ⟨ret_int ?_, hM.b⟩
          clear hM hc
          rw [HV.out, HA.out, HF.out]
          simp [*]
    · skip
      cases fin
      · cases rst
        · skip
          by_cases a0 : ack = 0
          · by_cases z : 1000 < b.size
            · have t1 : (ack != 0) = false := by simpa using a0
              go_enter Try.func47, Try.ntmps47
              go_upto_region 1 with         (first
          | go_skip
          | ((with_reducible refine at_box_ ?_); refine wpList_box_mem rfl _ _ rfl _ rfl hM ?_; clear hM; intro gb W hM; first | (simp only [List.nil_append] at hM) | (simp only [List.cons_append, List.nil_append] at hM)))
              have hc := hM.cells 0 rfl
              simp only [cSeg] at hc
              go_wp2_with (go_at_call 72; first | (with_reducible refine (O1.out _).mono ?_; rintro e W ⟨rfl, hb⟩; replace hM := hM.kept hb; clear hb; clear hc; have hc := hM.cells 0 rfl; simp only [cSeg] at hc) | (with_reducible refine (O2.out _).mono ?_; rintro e W ⟨rfl, hb⟩; replace hM := hM.kept hb; clear hb; clear hc; have hc := hM.cells 0 rfl; simp only [cSeg] at hc))
              go_ret
              refine ⟨ret_int ?_, hM.b⟩
              clear hM hc
              rw [HV.out, HA.out, HF.out]
              simp [*]
            · have t1 : (ack != 0) = false := by simpa using a0
              go_enter Try.func47, Try.ntmps47
              go_upto_region 1 with         (first
          | go_skip
          | ((with_reducible refine at_box_ ?_); refine wpList_box_mem rfl _ _ rfl _ rfl hM ?_; clear hM; intro gb W hM; first | (simp only [List.nil_append] at hM) | (simp only [List.cons_append, List.nil_append] at hM)))
              have hc := hM.cells 0 rfl
              simp only [cSeg] at hc
              go_wp2_with (go_at_call 72; first | (with_reducible refine (O1.out _).mono ?_; rintro e W ⟨rfl, hb⟩; replace hM := hM.kept hb; clear hb; clear hc; have hc := hM.cells 0 rfl; simp only [cSeg] at hc) | (with_reducible refine (O2.out _).mono ?_; rintro e W ⟨rfl, hb⟩; replace hM := hM.kept hb; clear hb; clear hc; have hc := hM.cells 0 rfl; simp only [cSeg] at hc))
              go_ret
              refine ⟨ret_int ?_, hM.b⟩
              clear hM hc
              rw [HV.out, HA.out, HF.out]
              simp [*]
          · have t1 : (ack != 0) = true := by simpa using a0
            cases has
            · skip
              go_enter Try.func47, Try.ntmps47
              go_upto_region 1 with         (first
          | go_skip
          | ((with_reducible refine at_box_ ?_); refine wpList_box_mem rfl _ _ rfl _ rfl hM ?_; clear hM; intro gb W hM; first | (simp only [List.nil_append] at hM) | (simp only [List.cons_append, List.nil_append] at hM)))
              have hc := hM.cells 0 rfl
              simp only [cSeg] at hc
              go_wp2_with (go_at_call 72; first | (with_reducible refine (O1.out _).mono ?_; rintro e W ⟨rfl, hb⟩; replace hM := hM.kept hb; clear hb; clear hc; have hc := hM.cells 0 rfl; simp only [cSeg] at hc) | (with_reducible refine (O2.out _).mono ?_; rintro e W ⟨rfl, hb⟩; replace hM := hM.kept hb; clear hb; clear hc; have hc := hM.cells 0 rfl; simp only [cSeg] at hc))
              go_ret
              refine ⟨ret_int ?_, hM.b⟩
              clear hM hc
              rw [HV.out, HA.out, HF.out]
              simp [*]
            · by_cases z : 1000 < b.size
              · skip
                go_enter Try.func47, Try.ntmps47
                go_upto_region 1 with         (first
          | go_skip
          | ((with_reducible refine at_box_ ?_); refine wpList_box_mem rfl _ _ rfl _ rfl hM ?_; clear hM; intro gb W hM; first | (simp only [List.nil_append] at hM) | (simp only [List.cons_append, List.nil_append] at hM)))
                have hc := hM.cells 0 rfl
                simp only [cSeg] at hc
                go_wp2_with (go_at_call 72; first | (with_reducible refine (O1.out _).mono ?_; rintro e W ⟨rfl, hb⟩; replace hM := hM.kept hb; clear hb; clear hc; have hc := hM.cells 0 rfl; simp only [cSeg] at hc) | (with_reducible refine (O2.out _).mono ?_; rintro e W ⟨rfl, hb⟩; replace hM := hM.kept hb; clear hb; clear hc; have hc := hM.cells 0 rfl; simp only [cSeg] at hc))
                go_ret
                refine ⟨ret_int ?_, hM.b⟩
                clear hM hc
                rw [HV.out, HA.out, HF.out]
                simp [*]
              · skip
                go_enter Try.func47, Try.ntmps47
                go_upto_region 1 with         (first
          | go_skip
          | ((with_reducible refine at_box_ ?_); refine wpList_box_mem rfl _ _ rfl _ rfl hM ?_; clear hM; intro gb W hM; first | (simp only [List.nil_append] at hM) | (simp only [List.cons_append, List.nil_append] at hM)))
                have hc := hM.cells 0 rfl
                simp only [cSeg] at hc
                go_wp2_with (go_at_call 72; first | (with_reducible refine (O1.out _).mono ?_; rintro e W ⟨rfl, hb⟩; replace hM := hM.kept hb; clear hb; clear hc; have hc := hM.cells 0 rfl; simp only [cSeg] at hc) | (with_reducible refine (O2.out _).mono ?_; rintro e W ⟨rfl, hb⟩; replace hM := hM.kept hb; clear hb; clear hc; have hc := hM.cells 0 rfl; simp only [cSeg] at hc))
                go_ret
                refine ⟨ret_int ?_, hM.b⟩
                clear hM hc
                rw [HV.out, HA.out, HF.out]
                simp [*]
        · skip
          go_enter Try.func47, Try.ntmps47
          go_upto_region 1 with         (first
          | go_skip
          | ((with_reducible refine at_box_ ?_); refine wpList_box_mem rfl _ _ rfl _ rfl hM ?_; clear hM; intro gb W hM; first | (simp only [List.nil_append] at hM) | (simp only [List.cons_append, List.nil_append] at hM)))
          have hc := hM.cells 0 rfl
          simp only [cSeg] at hc
          go_wp2_with (go_at_call 72; first | (with_reducible refine (O1.out _).mono ?_; rintro e W ⟨rfl, hb⟩; replace hM := hM.kept hb; clear hb; clear hc; have hc := hM.cells 0 rfl; simp only [cSeg] at hc) | (with_reducible refine (O2.out _).mono ?_; rintro e W ⟨rfl, hb⟩; replace hM := hM.kept hb; clear hb; clear hc; have hc := hM.cells 0 rfl; simp only [cSeg] at hc))
          go_ret
          refine ⟨ret_int ?_, hM.b⟩
          clear hM hc
          rw [HV.out, HA.out, HF.out]
          simp [*]
      · skip
        go_enter Try.func47, Try.ntmps47
        go_upto_region 1 with         (first
          | go_skip
          | ((with_reducible refine at_box_ ?_); refine wpList_box_mem rfl _ _ rfl _ rfl hM ?_; clear hM; intro gb W hM; first | (simp only [List.nil_append] at hM) | (simp only [List.cons_append, List.nil_append] at hM)))
        have hc := hM.cells 0 rfl
        simp only [cSeg] at hc
        go_wp2_with (go_at_call 72; first | (with_reducible refine (O1.out _).mono ?_; rintro e W ⟨rfl, hb⟩; replace hM := hM.kept hb; clear hb; clear hc; have hc := hM.cells 0 rfl; simp only [cSeg] at hc) | (with_reducible refine (O2.out _).mono ?_; rintro e W ⟨rfl, hb⟩; replace hM := hM.kept hb; clear hb; clear hc; have hc := hM.cells 0 rfl; simp only [cSeg] at hc))
        go_ret
        refine ⟨ret_int ?_, hM.b⟩
        clear hM hc
        rw [HV.out, HA.out, HF.out]
        simp [*]
  · have t0 : (mss != 0) = true := by simpa using m0
    cases syn
    · skip
      go_enter Try.func47, Try.ntmps47
      go_upto_region 1 with         (first
          | go_skip
          | ((with_reducible refine at_box_ ?_); refine wpList_box_mem rfl _ _ rfl _ rfl hM ?_; clear hM; intro gb W hM; first | (simp only [List.nil_append] at hM) | (simp only [List.cons_append, List.nil_append] at hM)))
      have hc := hM.cells 0 rfl
      simp only [cSeg] at hc
      go_wp2_with (go_at_call 72; first | (with_reducible refine (O1.out _).mono ?_; rintro e W ⟨rfl, hb⟩; replace hM := hM.kept hb; clear hb; clear hc; have hc := hM.cells 0 rfl; simp only [cSeg] at hc) | (with_reducible refine (O2.out _).mono ?_; rintro e W ⟨rfl, hb⟩; replace hM := hM.kept hb; clear hb; clear hc; have hc := hM.cells 0 rfl; simp only [cSeg] at hc))
      go_ret
      refine ⟨ret_int ?_, hM.b⟩
      clear hM hc
      rw [HV.out, HA.out, HF.out]
      simp [*]
    · skip
      cases fin
      · cases rst
        · skip
          by_cases a0 : ack = 0
          · by_cases z : 1000 < b.size
            · have t1 : (ack != 0) = false := by simpa using a0
              go_enter Try.func47, Try.ntmps47
              go_upto_region 1 with         (first
          | go_skip
          | ((with_reducible refine at_box_ ?_); refine wpList_box_mem rfl _ _ rfl _ rfl hM ?_; clear hM; intro gb W hM; first | (simp only [List.nil_append] at hM) | (simp only [List.cons_append, List.nil_append] at hM)))
              have hc := hM.cells 0 rfl
              simp only [cSeg] at hc
              go_wp2_with (go_at_call 72; first | (with_reducible refine (O1.out _).mono ?_; rintro e W ⟨rfl, hb⟩; replace hM := hM.kept hb; clear hb; clear hc; have hc := hM.cells 0 rfl; simp only [cSeg] at hc) | (with_reducible refine (O2.out _).mono ?_; rintro e W ⟨rfl, hb⟩; replace hM := hM.kept hb; clear hb; clear hc; have hc := hM.cells 0 rfl; simp only [cSeg] at hc))
              go_ret
              refine ⟨ret_int ?_, hM.b⟩
              clear hM hc
              rw [HV.out, HA.out, HF.out]
              simp [*]
            · have t1 : (ack != 0) = false := by simpa using a0
              go_enter Try.func47, Try.ntmps47
              go_upto_region 1 with         (first
          | go_skip
          | ((with_reducible refine at_box_ ?_); refine wpList_box_mem rfl _ _ rfl _ rfl hM ?_; clear hM; intro gb W hM; first | (simp only [List.nil_append] at hM) | (simp only [List.cons_append, List.nil_append] at hM)))
              have hc := hM.cells 0 rfl
              simp only [cSeg] at hc
              go_wp2_with (go_at_call 72; first | (with_reducible refine (O1.out _).mono ?_; rintro e W ⟨rfl, hb⟩; replace hM := hM.kept hb; clear hb; clear hc; have hc := hM.cells 0 rfl; simp only [cSeg] at hc) | (with_reducible refine (O2.out _).mono ?_; rintro e W ⟨rfl, hb⟩; replace hM := hM.kept hb; clear hb; clear hc; have hc := hM.cells 0 rfl; simp only [cSeg] at hc))
              go_ret
              refine ⟨ret_int ?_, hM.b⟩
              clear hM hc
              rw [HV.out, HA.out, HF.out]
              simp [*]
          · have t1 : (ack != 0) = true := by simpa using a0
            cases has
            · skip
              go_enter Try.func47, Try.ntmps47
              go_upto_region 1 with         (first
          | go_skip
          | ((with_reducible refine at_box_ ?_); refine wpList_box_mem rfl _ _ rfl _ rfl hM ?_; clear hM; intro gb W hM; first | (simp only [List.nil_append] at hM) | (simp only [List.cons_append, List.nil_append] at hM)))
              have hc := hM.cells 0 rfl
              simp only [cSeg] at hc
              go_wp2_with (go_at_call 72; first | (with_reducible refine (O1.out _).mono ?_; rintro e W ⟨rfl, hb⟩; replace hM := hM.kept hb; clear hb; clear hc; have hc := hM.cells 0 rfl; simp only [cSeg] at hc) | (with_reducible refine (O2.out _).mono ?_; rintro e W ⟨rfl, hb⟩; replace hM := hM.kept hb; clear hb; clear hc; have hc := hM.cells 0 rfl; simp only [cSeg] at hc))
              go_ret
              refine ⟨ret_int ?_, hM.b⟩
              clear hM hc
              rw [HV.out, HA.out, HF.out]
              simp [*]
            · by_cases z : 1000 < b.size
              · skip
                go_enter Try.func47, Try.ntmps47
                go_upto_region 1 with         (first
          | go_skip
          | ((with_reducible refine at_box_ ?_); refine wpList_box_mem rfl _ _ rfl _ rfl hM ?_; clear hM; intro gb W hM; first | (simp only [List.nil_append] at hM) | (simp only [List.cons_append, List.nil_append] at hM)))
                have hc := hM.cells 0 rfl
                simp only [cSeg] at hc
                go_wp2_with (go_at_call 72; first | (with_reducible refine (O1.out _).mono ?_; rintro e W ⟨rfl, hb⟩; replace hM := hM.kept hb; clear hb; clear hc; have hc := hM.cells 0 rfl; simp only [cSeg] at hc) | (with_reducible refine (O2.out _).mono ?_; rintro e W ⟨rfl, hb⟩; replace hM := hM.kept hb; clear hb; clear hc; have hc := hM.cells 0 rfl; simp only [cSeg] at hc))
                go_ret
                refine ⟨ret_int ?_, hM.b⟩
                clear hM hc
                rw [HV.out, HA.out, HF.out]
                simp [*]
              · skip
                go_enter Try.func47, Try.ntmps47
                go_upto_region 1 with         (first
          | go_skip
          | ((with_reducible refine at_box_ ?_); refine wpList_box_mem rfl _ _ rfl _ rfl hM ?_; clear hM; intro gb W hM; first | (simp only [List.nil_append] at hM) | (simp only [List.cons_append, List.nil_append] at hM)))
                have hc := hM.cells 0 rfl
                simp only [cSeg] at hc
                go_wp2_with (go_at_call 72; first | (with_reducible refine (O1.out _).mono ?_; rintro e W ⟨rfl, hb⟩; replace hM := hM.kept hb; clear hb; clear hc; have hc := hM.cells 0 rfl; simp only [cSeg] at hc) | (with_reducible refine (O2.out _).mono ?_; rintro e W ⟨rfl, hb⟩; replace hM := hM.kept hb; clear hb; clear hc; have hc := hM.cells 0 rfl; simp only [cSeg] at hc))
                go_ret
                refine ⟨ret_int ?_, hM.b⟩
                clear hM hc
                rw [HV.out, HA.out, HF.out]
                simp [*]
        · skip
          go_enter Try.func47, Try.ntmps47
          go_upto_region 1 with         (first
          | go_skip
          | ((with_reducible refine at_box_ ?_); refine wpList_box_mem rfl _ _ rfl _ rfl hM ?_; clear hM; intro gb W hM; first | (simp only [List.nil_append] at hM) | (simp only [List.cons_append, List.nil_append] at hM)))
          have hc := hM.cells 0 rfl
          simp only [cSeg] at hc
          go_wp2_with (go_at_call 72; first | (with_reducible refine (O1.out _).mono ?_; rintro e W ⟨rfl, hb⟩; replace hM := hM.kept hb; clear hb; clear hc; have hc := hM.cells 0 rfl; simp only [cSeg] at hc) | (with_reducible refine (O2.out _).mono ?_; rintro e W ⟨rfl, hb⟩; replace hM := hM.kept hb; clear hb; clear hc; have hc := hM.cells 0 rfl; simp only [cSeg] at hc))
          go_ret
          refine ⟨ret_int ?_, hM.b⟩
          clear hM hc
          rw [HV.out, HA.out, HF.out]
          simp [*]
      · skip
        go_enter Try.func47, Try.ntmps47
        go_upto_region 1 with         (first
          | go_skip
          | ((with_reducible refine at_box_ ?_); refine wpList_box_mem rfl _ _ rfl _ rfl hM ?_; clear hM; intro gb W hM; first | (simp only [List.nil_append] at hM) | (simp only [List.cons_append, List.nil_append] at hM)))
        have hc := hM.cells 0 rfl
        simp only [cSeg] at hc
        go_wp2_with (go_at_call 72; first | (with_reducible refine (O1.out _).mono ?_; rintro e W ⟨rfl, hb⟩; replace hM := hM.kept hb; clear hb; clear hc; have hc := hM.cells 0 rfl; simp only [cSeg] at hc) | (with_reducible refine (O2.out _).mono ?_; rintro e W ⟨rfl, hb⟩; replace hM := hM.kept hb; clear hb; clear hc; have hc := hM.cells 0 rfl; simp only [cSeg] at hc))
        go_ret
        refine ⟨ret_int ?_, hM.b⟩
        clear hM hc
        rw [HV.out, HA.out, HF.out]
        simp [*]
end Go.Proofs.Ytfpifahkpkjfgaa
