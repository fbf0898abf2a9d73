/- The walk of InqStream: it returns true. -/
import Derived.Test.YtgdfjkdcdfmifaaInqI
import Derived.Test.YtgdfjkdcdfmifaaStep
import Derived.StillTailTactics
namespace Go.Proofs.Ytgdfjkdcdfmifaa
open Go.RowKit
set_option linter.unusedVariables false

theorem byteS_sz (l : List Int) : (byteS l).size = l.length := by
  show (byteL l).toArray.size = _
  rw [List.size_toArray, byteL_len]
theorem str_ext {a b : ByteArray} (h : a.data.toList = b.data.toList) : a = b := by
  cases a; cases b
  exact congrArg ByteArray.mk (Array.ext' h)
theorem got_more {T : ByteArray} {fin : Bool} {q : IQ} {n : Nat} (g : Good T fin q n) (m : Nat) (hm : q.rd + m ≤ endZ q) : T.extract 0 n ++ byteS (readL q m) = T.extract 0 (n + m) := by
  apply str_ext
  have hb := good_bytes g m hm
  have e : (byteS (readL q m)).data.toList = (T.data.toList.drop n).take m := hb
  rw [ByteArray.data_append, Array.toList_append, e, ByteArray.data_extract, ByteArray.data_extract, Array.toList_extract, Array.toList_extract, List.extract_eq_take_drop, List.extract_eq_take_drop]
  simp only [List.drop_zero, Nat.sub_zero]
  exact (List.take_add (l := T.data.toList) (i := n) (j := m)).symm
theorem got_size (T : ByteArray) (n : Nat) (h : n ≤ T.size) : (T.extract 0 n).size = n := by rw [ByteArray.size_extract]; omega
theorem got_all (T : ByteArray) : T.extract 0 T.size = T := by
  have : (T.extract 0 T.size).data = T.data := by rw [ByteArray.data_extract]; exact Array.extract_size
  exact congrArg ByteArray.mk this
theorem good_n {T : ByteArray} {fin : Bool} {q : IQ} {n : Nat} (g : Good T fin q n) : n ≤ T.size := by
  have h1 := g.rd
  have h2 := g.end_
  have h3 := (end_bd q g.ok).1
  omega
/-- all that a round of InqStream keeps -/
structure Keep (w W : World) (bt bq bf g : Nat) (T : ByteArray) (fin : Bool) (q : IQ) (n : Nat) : Prop where
  x : Boxes W bt bq bf g T fin
  q_ : InqAt W g q
  g_ : Good T fin q n
  b : Below w.heap.size w W
theorem Keep.kept {w W W' : World} {bt bq bf g : Nat} {T : ByteArray} {fin : Bool} {q : IQ} {n : Nat} (h : Keep w W bt bq bf g T fin q n) (hb : Below W.heap.size W W') : Keep w W' bt bq bf g T fin q n :=
  ⟨h.x.kept hb, h.q_.kept hb, h.g_, below_c h.b hb⟩
theorem Keep.drew {w W : World} {bt bq bf g : Nat} {T : ByteArray} {fin : Bool} {q : IQ} {n : Nat} (h : Keep w W bt bq bf g T fin q n) : Keep w W.drew bt bq bf g T fin q n := h.kept (Below.refl _ _).drew
theorem Keep.grown {w W W' : World} {bt bq bf g : Nat} {T : ByteArray} {fin : Bool} {q q' : IQ} {n n' : Nat} (h : Keep w W bt bq bf g T fin q n) (h1 : bt ≠ g) (h2 : bq ≠ g) (h3 : bf ≠ g) (hg : w.heap.size ≤ g) (hO : W.grownBy W' (some g)) (hQ : InqAt W' g q') (hG : Good T fin q' n') : Keep w W' bt bq bf g T fin q' n' :=
  ⟨h.x.grown hO h1 h2 h3, hQ, hG, below_only h.b hO hg⟩
set_option maxRecDepth 100000 in
set_option maxHeartbeats 8000000 in
theorem w_InqStream (s0 : ByteArray) (A1 : Option Addr) (n1 c1 : Nat) (css1 : Nat → List Value) (b2 : Bool) (w : World) (hs0 : s0.size ≤ 140737488351232) (hR1 : Rows_ w A1 n1 ksStep css1) (hl1 : n1 ≤ 140737488351232) :
    Calls Try.prog 10 #[.string s0, .slice A1 n1 c1, .bool b2] w fun e w' => e = .returned (.bool true) ∧ Below w.heap.size w w' := by
  go_enter Try.func10, Try.ntmps10
  go_upto_region 1 with (fail)
  refine wp_gen (fun W => Below w.heap.size w W ∧ At W w.heap.size 9 [.string s0] ∧ At W (w.heap.size + 1) 4 [.bool b2]) ⟨by repeat' (first | with_reducible exact Below.refl _ _ | with_reducible assumption | with_reducible refine Below.drew ?_ | with_reducible refine below_dn ?_ _ | with_reducible refine below_ca ?_ _ | with_reducible refine Below.setCell ?_ ?_ _ | (refine below_c ?_ (by with_reducible assumption)) | (simp <;> omega) | omega), At.alloc (At.new_ _ _ _) _, ?_⟩ ?_
  · have h := At.new_ (w.alloc (.cells #[.string s0] 9)) 4 [.bool b2]
    rw [show (w.alloc (.cells #[.string s0] 9)).heap.size = w.heap.size + 1 by simp] at h
    exact h
  rintro W1 ⟨hB1, hT1, hF1⟩
  have hl1 := hF1.lt
  go_wp2_with fail
  refine (inqNew_any _).mono ?_
  rintro e W2 ⟨rfl, hQ2, hB2⟩
  go_upto_region 2 with (fail)
  refine wp_gen (fun W => Keep w W w.heap.size W2.heap.size (w.heap.size + 1) W1.heap.size s0 b2 newIQ 0) ?_ ?_
  · have hbb : Below W2.heap.size W2 ((W2.alloc (.cells #[.pointer (some ⟨W1.heap.size, 0, none⟩)] 59))) := below_ca (Below.refl _ _) _
    have hT2 := (hT1.kept hB2).kept hbb
    have hF2 := (hF1.kept hB2).kept hbb
    have hX2 := At.new_ W2 59 [.pointer (some ⟨W1.heap.size, 0, none⟩)]
    refine ⟨⟨hT2.cell 0, hX2.cell 0, hF2.cell 0⟩, hQ2.kept hbb, good_new s0 b2, below_c (below_c hB1 hB2) hbb⟩
  intro W3 hK3
  have hne1 : w.heap.size ≠ W1.heap.size := by omega
  have hne2 : W2.heap.size ≠ W1.heap.size := by have := hQ2.lt; omega
  have hne3 : w.heap.size + 1 ≠ W1.heap.size := by omega
  have hge : w.heap.size ≤ W1.heap.size := by omega
  have x2 := hK3.x.q
  have l2 := block_of_cell x2
  simp only at l2
  go_wp2_with fail
  clear x2 l2
  generalize W1.heap.size = gq at *
  generalize W2.heap.size = bq at *
  go_loopg [19, 8] n1 (fun gh i v wr => ∃ (k n : Nat) (q : IQ), gh = n1 - k ∧ k ≤ n1 ∧ i = .int .i64 k ∧ v = .string (s0.extract 0 n) ∧ Keep w wr w.heap.size bq (w.heap.size + 1) gq s0 b2 q n)
  case atStart =>
    refine ⟨0, 0, newIQ, by omega, by omega, rfl, ?_, hK3⟩
    have e : s0.extract 0 0 = ⟨#[]⟩ := by apply str_ext; rw [ByteArray.data_extract]; simp
    rw [e]
  case round =>
    obtain ⟨k, n, q, hgk, hk, rfl, rfl, hKk⟩ := hrel
    have HGK := Lib.hid hgk
    clear hgk
    have hn := good_n hKk.g_
    have hgs := got_size s0 n hn
    by_cases hlt : k < n1
    · have hBk := hKk.b
      obtain ⟨b, off, hA, hrg⟩ := hR1.at_ k hlt
      subst hA
      have hrg : wr.rangeAt b (off + k * 45) (css1 k) := range_kept hrg hBk
      have hokx := hR1.ok k hlt
      have hlen : (css1 k).length = 45 := okAll_len hokx
      have hone := all_oneCell_toArray (okAll_one hokx)
      have hi1 : (Try.prog.info? 40).map (·.size) = some (css1 k).length := by rw [hlen]; exact info_Step
      have hi2 : (Try.prog.info? 40).map (·.size) = some (css1 k).toArray.size := by rw [List.size_toArray]; exact hi1
      go_upto_region 9 with (first | (refine wpList_load_mid rfl 40 (.tmp 21) rfl b (off + k * 45) rfl (css1 k) _ hrg Try.underlying40 rfl hi1 ?_) | (refine wpList_store_mid rfl 40 (.tmp 11) (.tmp 22) rfl _ 0 (css1 k).toArray rfl rfl (there_new _ _ _ _ (by rw [List.size_toArray, hlen]; exact Nat.le_refl _)) hi2 hone ?_))
      refine wp_gen (fun W => Below wr.heap.size wr W ∧ W.rangeAt wr.heap.size 0 (css1 k) ∧ wr.heap.size < W.heap.size) (boxed _ _ _ _ (by rw [hlen]; exact Nat.le_refl _)) ?_
      rintro W2 ⟨hB2, hx2, hz2⟩
      obtain ⟨kd, hkd, hkd1, hkd2⟩ := step_int hokx 0 rfl
      obtain ⟨xa, hxa, hxa1, hxa2⟩ := step_int hokx 1 rfl
      obtain ⟨xb, hxb, hxb1, hxb2⟩ := step_int hokx 2 rfl
      have hK4 := hKk.kept hB2
      have hqw : gq < wr.heap.size := hKk.q_.lt
      go_wp2_with (refine wpList_load_mid rfl 40 (.tmp 11) rfl wr.heap.size 0 rfl (css1 k) _ hx2 Try.underlying40 rfl hi1 ?_)
      refine (Of_any (css1 k) kd 4 _ hkd hkd1 hkd2 (by omega) (by omega)).mono ?_
      rintro e w4 ⟨rfl, hB4⟩
      have hK5 := hK4.kept hB4
      have hx4 := range_kept hx2 hB4
      have ca : w4.cell? ⟨wr.heap.size, 1, none⟩ = some (.int .i64 xa) := by simpa using hx4 1 _ hxa
      have cb : w4.cell? ⟨wr.heap.size, 2, none⟩ = some (.int .i64 xb) := by simpa using hx4 2 _ hxb
      go_upto_if 25 with (fail)
      go_cut [8] (fun s W => ∃ (n' : Nat) (q' : IQ), s = .string (s0.extract 0 n') ∧ Keep w W w.heap.size bq (w.heap.size + 1) gq s0 b2 q' n')
      case first =>
        have x2 := hK5.x.q
        have l2 := block_of_cell x2
        simp only at l2
        have hqk : gq < w4.heap.size := hK5.q_.lt
        have hrb : wr.heap.size < w4.heap.size := block_of_cell ca
        by_cases h4 : kd % 4 = 0
        · have d4 : (kd % 4 == 0) = true := by simpa using h4
          clear h4
          have hm := readN_bd hK5.g_.ok xb
          have hmore := got_more hK5.g_ _ hm
          have hs2 : (byteS (readL q (readN q xb))).size = readN q xb := by rw [byteS_sz]; unfold readL; rw [fnL_len]
          have hg2 := good_read hK5.g_ _ hm
          have hn2 := good_n hg2
          have HM := Lib.hid hmore
          clear hmore hm
          go_wp2_with fail
          refine (Read_any gq q xb _ hK5.q_ hK5.g_.ok hxb1 hxb2).mono ?_
          rintro e w6 ⟨rfl, hQ6, hO6⟩
          (generalize byteS (readL q (readN q xb)) = R at *)
          go_wp2_with fail
          go_meet
          case rel => exact ⟨n + readN q xb, _, by rw [HM.out], hK5.grown hne1 hne2 hne3 hge hO6 hQ6 hg2⟩
        · have d4 : (kd % 4 == 0) = false := by simpa using h4
          clear h4
          have x1 := hK5.x.t
          have l1 := block_of_cell x1
          simp only at l1
          obtain ⟨a, ha⟩ : ∃ a : Nat, xa % ((s0.size : Int) + 1) = (a : Int) := ⟨(xa % ((s0.size : Int) + 1)).toNat, by have := Int.emod_nonneg xa (show (s0.size : Int) + 1 ≠ 0 by omega); omega⟩
          obtain ⟨many, hmany⟩ : ∃ m : Nat, xb % 2000 = (m : Int) := ⟨(xb % 2000).toNat, by omega⟩
          have hals : a ≤ s0.size := by have := Int.emod_lt_of_pos xa (show (0 : Int) < (s0.size : Int) + 1 by omega); omega
          have hput := fun (W : World) (hK : Keep w W w.heap.size bq (w.heap.size + 1) gq s0 b2 q n) => put_any w.heap.size bq (w.heap.size + 1) gq s0 b2 q n a many W hK.x hne1 hne2 hne3 hK.q_ hK.g_ (by omega) hs0 hals (by omega) _ rfl
          have hgp := good_put (t := min s0.size (a + many)) hK5.g_ (by omega) (piece_extract s0 a (min s0.size (a + many)) (by omega) (by omega))
          rw [← ha, ← hmany] at hput
          rw [← ha] at hgp
          generalize hqq : putQ q (xa % ((s0.size : Int) + 1) + 1) (s0.extract a (min s0.size (a + many))) (b2 && (min s0.size (a + many) == s0.size)) = q' at hput hgp
          have HP := Lib.hid hput
          clear hput ha hmany hqq
          have hs1 : (1 : Int) ≤ (s0.size : Int) + 1 := by omega
          have hw1 : IntKind.i64.wrap ((s0.size : Int) + 1) = (s0.size : Int) + 1 := IntWalk.i64_in _ (by omega)
          go_wp2_with fail
          have hr1 := fun (W : World) => (Rest_any xa ((s0.size : Int) + 1) W (by omega) (by omega) (by omega) (by omega)).mono (fun _ _ hh => And.intro hh.1 hh.2.symm)
          have hr2 := fun (W : World) => (Rest_any xb 2000 W (by omega) (by omega) (by omega) (by omega)).mono (fun _ _ hh => And.intro hh.1 hh.2.symm)
          have HR1 := Lib.hid hr1
          have HR2 := Lib.hid hr2
          clear hr1 hr2
          refine wp_region_still_tail 10 (by kernel_rfl) (by kernel_rfl) ?_
          simp only [List.take_succ_cons, List.take_zero, List.drop_succ_cons, List.drop_zero]
          repeat still_step
          still_call (HR1.out _)
          repeat still_step
          still_call (HR2.out _)
          repeat still_step
          refine wpStill_nil ?_
          have hK5d := hK5.drew
          change wpList _ _ _ _ _ w4.drew
          generalize w4.drew = w5 at *
          go_wp2_with (go_at_call 38; refine (HP.out _ hK5d).mono ?_; rintro e w' ⟨rfl, hQ6, hO6⟩)
          go_meet
          case rel => exact ⟨n, _, rfl, hK5d.grown hne1 hne2 hne3 hge hO6 hQ6 hgp⟩
      case rest =>
        obtain ⟨n', q', rfl, hK6⟩ := hcut
        have hn' := good_n hK6.g_
        have hgs' := got_size s0 n' hn'
        have dgt : decide ((s0.size : Int) < (n' : Int)) = false := by simp; omega
        have dgn : decide (s0.size < n') = false := by simp; omega
        have hlat := fun (u : Later wc) => (hK6.q_.kept u.still : InqAt u.now gq q')
        have hov := fun (u : Later wc) => Over_any gq q' u.now (hlat u)
        have hre := fun (u : Later wc) => Ready_any gq q' u.now (hlat u) hK6.g_.ok
        have hovf := hK6.g_.ov
        have hrdf := hK6.g_.rd
        have x1 := hK6.x.t
        have x2 := hK6.x.q
        have x3 := hK6.x.f
        have l1 := block_of_cell x1
        have l2 := block_of_cell x2
        have l3 := block_of_cell x3
        simp only at l1 l2 l3
        have n0' : (0 : Int) ≤ (n' : Int) := by omega
        have n1' : (n' : Int) ≤ (s0.size : Int) := by omega
        cases ho : q'.over
        · rw [ho] at hov
          have HOV := Lib.hid hov
          clear hov hre hovf hrdf ho hlat
          go_upto_region 13 with (fail)
          refine wp_region_later (by kernel_rfl) (by kernel_rfl) (fun hlc => ?_)
          repeat (go_big_quiet_step (first | (go_at_call 37; exact later_same (HOV.out _))))
          refine wpQuiet_nil ?_
          intro w9 hb9
          clear hlc
          go_wp2_with fail
          go_roundg (n1 - (k + 1))
          case measure => have := HGK.out; omega
          case rel => exact ⟨k + 1, n', q', rfl, by omega, by go_num, rfl, hK6.kept hb9⟩
        · obtain ⟨hnx, hb2⟩ := hovf ho
          subst hb2
          have hez : endZ q' - q'.rd = (s0.size : Int) - (n' : Int) := by rw [end_over ho, hnx, hrdf]; omega
          rw [ho] at hov
          rw [hez] at hre
          have HOV := Lib.hid hov
          have HRE := Lib.hid hre
          clear hov hre hovf hrdf ho hlat hez hnx
          go_upto_region 13 with (fail)
          refine wp_region_later (by kernel_rfl) (by kernel_rfl) (fun hlc => ?_)
          repeat (go_big_quiet_step (first | (go_at_call 37; exact later_same (HOV.out _)) | (go_at_call 36; exact later_call (HRE.out _))))
          refine wpQuiet_nil ?_
          intro w9 hb9
          clear hlc
          go_wp2_with fail
          go_roundg (n1 - (k + 1))
          case measure => have := HGK.out; omega
          case rel => exact ⟨k + 1, n', q', rfl, by omega, by go_num, rfl, hK6.kept hb9⟩
    · go_wp2_with fail
      have hKs := hKk
      clear hKk HGK
      go_loopg [12, 8] s0.size (fun gh i v wr2 => ∃ (a n : Nat) (q : IQ), gh = s0.size - a ∧ (a = 0 ∨ a < s0.size) ∧ i = .int .i64 a ∧ v = .string (s0.extract 0 n) ∧ Keep w wr2 w.heap.size bq (w.heap.size + 1) gq s0 b2 q n ∧ (a : Int) + 1 ≤ q.rd)
      case atStart => exact ⟨0, n, q, by omega, .inl rfl, rfl, rfl, hKs, by have := hKs.g_.ok.rd1; omega⟩
      case round =>
        obtain ⟨a, m, q2, hga, ha0, rfl, rfl, hK2, hrd2⟩ := hrel
        have HGA := Lib.hid hga
        have HA0 := Lib.hid ha0
        clear hga ha0
        have hm := good_n hK2.g_
        have hal : a ≤ s0.size := by have := HA0.out; omega
        have x1 := hK2.x.t
        have l1 := block_of_cell x1
        simp only at l1
        go_upto_region 18 with (fail)
        go_cut [12] (fun s W => s = .int .i64 (a : Int) ∧ Keep w W w.heap.size bq (w.heap.size + 1) gq s0 b2 q2 m)
        case first =>
          go_wp2_with fail
          all_goals
            go_meet
            case rel => exact ⟨congrArg _ (by omega), hK2⟩
        case rest =>
          obtain ⟨rfl, hK3'⟩ := hcut
          clear x1 l1 hK2
          have hput := put_any w.heap.size bq (w.heap.size + 1) gq s0 b2 q2 m a 900 _ hK3'.x hne1 hne2 hne3 hK3'.q_ hK3'.g_ (by omega) hs0 hal (by omega) _ rfl
          have hpc := piece_extract s0 a (min s0.size (a + 900)) (by omega) (by omega)
          have hgp := good_put (t := min s0.size (a + 900)) hK3'.g_ (by omega) hpc
          obtain ⟨hl1', hl2'⟩ := good_last (t := min s0.size (a + 900)) hK3'.g_ (by omega) hs0 hpc (by omega) hrd2
          have e9 : ((900 : Nat) : Int) = 900 := rfl
          rw [e9] at hput
          (generalize hq3 : putQ q2 ((a : Int) + 1) (s0.extract a (min s0.size (a + 900))) (b2 && (min s0.size (a + 900) == s0.size)) = q3 at *)
          have HP := Lib.hid hput
          have HL2 := Lib.hid hl2'
          clear hput hl2' hq3 e9
          have hqk : gq < wc.heap.size := hK3'.q_.lt
          go_wp2_with fail
          refine HP.out.mono ?_
          rintro e w6 ⟨rfl, hQ6, hO6⟩
          have hK6 := hK3'.grown hne1 hne2 hne3 hge hO6 hQ6 hgp
          have x2 := hK6.x.q
          have l2 := block_of_cell x2
          simp only at l2
          have hrm := readN_bd hgp.ok 5000
          have hra := readN_all hgp.ok
          have hmore := got_more hgp _ hrm
          have hs2 : (byteS (readL q3 (readN q3 5000))).size = readN q3 5000 := by rw [byteS_sz]; unfold readL; rw [fnL_len]
          have hgs2 := got_size s0 m hm
          have hg2 := good_read hgp _ hrm
          have hn2 := good_n hg2
          have HM := Lib.hid hmore
          have HRA := Lib.hid hra
          clear hmore hra hrm
          go_wp2_with fail
          refine (Read_any gq q3 5000 _ hK6.q_ hgp.ok (by omega) (by omega)).mono ?_
          rintro e w7 ⟨rfl, hQ7, hO7⟩
          have hK7 := hK6.grown hne1 hne2 hne3 hge hO7 hQ7 hg2
          (generalize byteS (readL q3 (readN q3 5000)) = R at *)
          clear x2 l2
          have x1 := hK7.x.t
          have l1 := block_of_cell x1
          simp only at l1
          by_cases hbr : (s0.size : Int) ≤ (a : Int) + 900
          · have hov := HL2.out (by omega)
            have hnn : m + readN q3 5000 = s0.size := by
              have h1 := HRA.out
              have h2 := hg2.rd
              have h3 := hgp.rd
              have h4 := hgp.end_
              omega
            have hgot : s0.extract 0 m ++ R = s0 := by rw [HM.out, hnn, got_all]
            have HG := Lib.hid hgot
            have hre0 : endZ q3 - (q3.rd + readN q3 5000) = 0 := by have := HRA.out; omega
            have HE0 := Lib.hid hre0
            have HOV0 := Lib.hid hov
            clear hnn hgot hre0 hov
            clear HM HA0 HGA HRA
            go_upto_region 23 with (fail)
            rw [HG.out]
            have hlat := fun (u : Later w7) => (hK7.q_.kept u.still : InqAt u.now gq { q3 with rd := q3.rd + readN q3 5000 })
            have hov := fun (u : Later w7) => Over_any gq { q3 with rd := q3.rd + readN q3 5000 } u.now (hlat u)
            have hre := fun (u : Later w7) => Ready_any gq { q3 with rd := q3.rd + readN q3 5000 } u.now (hlat u) hg2.ok
            have e1 : ({ q3 with rd := q3.rd + readN q3 5000 } : IQ).over = b2 := HOV0.out
            have e2 : endZ { q3 with rd := q3.rd + readN q3 5000 } - ({ q3 with rd := q3.rd + readN q3 5000 } : IQ).rd = 0 := HE0.out
            rw [e1] at hov
            rw [e2] at hre
            have HOV := Lib.hid hov
            have HRE := Lib.hid hre
            clear hov hre e1 e2 hlat HOV0 HE0 HG
            have x2 := hK7.x.q
            have x3 := hK7.x.f
            have l2 := block_of_cell x2
            have l3 := block_of_cell x3
            simp only at l2 l3
            refine wp_region_later (by kernel_rfl) (by kernel_rfl) (fun hlc => ?_)
            repeat (go_big_quiet_step (first | (go_at_call 37; exact later_same (HOV.out _)) | (go_at_call 36; exact later_call (HRE.out _))))
            refine wpQuiet_nil ?_
            intro w9 hb9
            clear hlc
            go_wp2_with fail
            go_ret
            exact ⟨rfl, below_c hK7.b hb9⟩
          · go_wp2_with fail
            go_roundg (s0.size - (a + 900))
            case measure => have := HGA.out; omega
            case rel =>
              refine ⟨a + 900, m + readN q3 5000, _, rfl, .inr (by omega), by go_num, by rw [HM.out], hK7, ?_⟩
              show ((a + 900 : Nat) : Int) + 1 ≤ q3.rd + readN q3 5000
              have := HRA.out
              omega
end Go.Proofs.Ytgdfjkdcdfmifaa
