/- The contract of tcp's options. -/
import Derived.Test.YtpjcbjacdkobmaaTcpW
import Derived.Test.YtpjcbjacdkobmaaTurnS
import Derived.WalkMore
namespace Go.Proofs.Ytpjcbjacdkobmaa
open Go.RowKit Go.Lib
set_option linter.unusedVariables false

/-- what options makes of bytes: its answer, and the Mss that it leaves -/
def optR : Nat → List UInt8 → Int → Int × Int
  | 0, _, m => (0, m)
  | _ + 1, [], m => (0, m)
  | f + 1, x :: r, m =>
    if x.toNat = 0 then (0, m) else if x.toNat = 1 then optR f r m
    else if r.length < 1 ∨ lb (x :: r) 1 < 2 ∨ ((x :: r).length : Int) < lb (x :: r) 1 then (4, m)
    else if x.toNat = 2 then (if lb (x :: r) 1 ≠ 4 then (4, m) else optR f ((x :: r).drop (lb (x :: r) 1).toNat) (w16 (lb (x :: r)) 2))
    else optR f ((x :: r).drop (lb (x :: r) 1).toNat) m
def sLen : Value → Nat
  | .slice _ n _ => n
  | _ => 0
set_option maxRecDepth 100000 in
set_option maxHeartbeats 4000000 in
theorem tcopt_any (s : KSeg) (gx gy o c : Nat) (L M : List UInt8) (w : World) (hx : At w gx 47 (cSeg s)) (hy : Buf w gy L) (hne : gy ≠ gx) (hc : M.length ≤ c) (hcm : c ≤ 9223372036854775807) (hM : ∀ k u, M[k]? = some u → L[o + k]? = some u) :
    Calls Try.prog 47 #[.pointer (some ⟨gx, 0, none⟩), .slice (some ⟨gy, o, none⟩) M.length c] w fun e w' => e = .returned (.int .i64 (optR M.length M s.mss).1) ∧ At w' gx 47 (cSeg { s with mss := (optR M.length M s.mss).2 }) ∧ w.grownBy w' (some gx) := by
  have hR : ∃ R, optR M.length M s.mss = R := ⟨_, rfl⟩
  obtain ⟨R, hR⟩ := hR
  rw [hR]
  have HY := Lib.hid hy
  have hgy := hy.lt
  go_enter Try.func47, Try.ntmps47
  go_wp2_with fail
  go_step3
  go_wp2_with fail
  go_step3
  go_wp2_with fail
  go_loopw [1] (fun v wr => ∃ (L' : List UInt8) (o' c' f : Nat) (m : Int), v = .slice (some ⟨gy, o', none⟩) L'.length c' ∧ L'.length ≤ c' ∧ c' ≤ 9223372036854775807 ∧ (∀ k u, L'[k]? = some u → L[o' + k]? = some u) ∧ L'.length ≤ f ∧ optR f L' m = R ∧ w.grownBy wr (some gx) ∧ At wr gx 47 (cSeg { s with mss := m })) (fun v _ => sLen v)
  case atStart => exact ⟨M, o, c, M.length, s.mss, rfl, hc, hcm, hM, Nat.le_refl _, hR, only_refl _ _, hx⟩
  case round =>
    obtain ⟨L', o', c', f, m, rfl, hc', hcm', hL', hf, hRm, hO, hX⟩ := hrel
    clear hx hM hR hc hcm
    have HR := Lib.hid hRm
    have hB : ∀ k u, L'[k]? = some u → wr.cell? ⟨gy, o' + k, none⟩ = some (.int .u8 (u.toNat : Int)) := fun k u hk => hO.cell (HY.out.here _ u (hL' k u hk)) (by intro e; injection e with e; exact hne e)
    have HL := Lib.hid hL'
    have HO := Lib.hid hO
    have HX := Lib.hid hX
    clear hRm hO hX hL'
    cases L' with
    | nil =>
      have hr2 : R = (0, m) := by rw [← HR.out]; cases f <;> rfl
      clear HL hB hf
      simp only [List.length_nil]
      go_wp2_with fail
      (try rw [Exit.noGoto_ret])
      go_ret
      exact ⟨by rw [hr2]; rfl, by rw [hr2]; exact HX.out, HO.out⟩
    | cons x r =>
      cases f with
      | zero => simp at hf
      | succ f =>
        have hb0 := hB 0 x rfl
        rw [Nat.add_zero] at hb0
        have hxl := x.toNat_lt
        simp only [List.length_cons] at hc' hf ⊢
        have hgl := block_of_cell hb0
        simp only at hgl
        have HB := Lib.hid hB
        have q1 : (0 : Int) < ((r.length + 1 : Nat) : Int) := by omega
        clear hB
        by_cases x0 : x.toNat = 0
        · have t0 : ((x.toNat : Int) == 0) = true := by simp [x0]
          have hr2 : R = (0, m) := by rw [← HR.out]; unfold optR; rw [if_pos x0]
          clear HL HB
          go_wp2_with fail
          (try rw [Exit.noGoto_ret])
          go_ret
          exact ⟨by rw [hr2]; rfl, by rw [hr2]; exact HX.out, HO.out⟩
        · have t0 : ((x.toNat : Int) == 0) = false := by simp; omega
          by_cases x1 : x.toNat = 1
          · have t1 : ((x.toNat : Int) == 1) = true := by simp [x1]
            have hr2 : optR f r m = R := by rw [← HR.out]; conv => rhs; unfold optR; rw [if_neg x0, if_pos x1]
            have HR2 := Lib.hid hr2
            clear hr2
            by_cases hc1 : c' = 1
            · subst hc1
              have hr0 : r = [] := List.eq_nil_of_length_eq_zero (by omega)
              subst hr0
              go_wp2_with fail
              go_roundw
              case rel => exact ⟨[], o', 0, f, m, by simp, by simp, by omega, by simp, by simp, HR2.out, HO.out, HX.out⟩
              case measure => simp [sLen]
            · go_wp2_with fail
              go_roundw
              case rel => exact ⟨r, o' + 1, c' - 1, f, m, by simp, by omega, by omega, fun k u hk => by rw [Nat.add_assoc, Nat.add_comm 1 k]; exact HL.out (k + 1) u (by simpa using hk), by omega, HR2.out, HO.out, HX.out⟩
              case measure => simp [sLen]
          · have t1 : ((x.toNat : Int) == 1) = false := by simp; omega
            have hun : ∀ T : Int × Int, (if r.length < 1 ∨ lb (x :: r) 1 < 2 ∨ ((x :: r).length : Int) < lb (x :: r) 1 then (4, m) else if x.toNat = 2 then (if lb (x :: r) 1 ≠ 4 then (4, m) else optR f ((x :: r).drop (lb (x :: r) 1).toNat) (w16 (lb (x :: r)) 2)) else optR f ((x :: r).drop (lb (x :: r) 1).toNat) m) = T → R = T := fun T hT => by
              rw [← HR.out, ← hT]
              conv => lhs; unfold optR
              rw [if_neg x0, if_neg x1]
            cases r with
            | nil =>
              have hr2 : R = (4, m) := hun _ (if_pos (.inl (by simp)))
              clear hun HL HB
              simp only [List.length_nil, Nat.zero_add] at *
              go_wp2_with fail
              (try rw [Exit.noGoto_ret])
              go_ret
              exact ⟨by rw [hr2]; rfl, by rw [hr2]; exact HX.out, HO.out⟩
            | cons y r2 =>
              have hb1 := HB.out 1 y rfl
              have hyl := y.toNat_lt
              have hlb : lb (x :: y :: r2) 1 = (y.toNat : Int) := rfl
              simp only [hlb] at hun
              clear hlb
              simp only [List.length_cons] at *
              have q2 : (1 : Int) < ((r2.length + 1 + 1 : Nat) : Int) := by omega
              have q3 : ¬ ((r2.length + 1 + 1 : Nat) : Int) < 2 := by omega
              by_cases y2 : (y.toNat : Int) < 2
              · have hr2 : R = (4, m) := hun _ (if_pos (.inr (.inl y2)))
                clear hun HL HB
                go_wp2_with fail
                (try rw [Exit.noGoto_ret])
                go_ret
                exact ⟨by rw [hr2]; rfl, by rw [hr2]; exact HX.out, HO.out⟩
              · by_cases y3 : ((r2.length + 1 + 1 : Nat) : Int) < (y.toNat : Int)
                · have hr2 : R = (4, m) := hun _ (if_pos (.inr (.inr y3)))
                  clear hun HL HB
                  go_wp2_with fail
                  (try rw [Exit.noGoto_ret])
                  go_ret
                  exact ⟨by rw [hr2]; rfl, by rw [hr2]; exact HX.out, HO.out⟩
                · have hun2 := fun T hT => hun T ((if_neg (by omega)).trans hT)
                  clear hun
                  have hyn : y.toNat ≤ r2.length + 1 + 1 := by omega
                  have hdl : ((x :: y :: r2).drop y.toNat).length = r2.length + 1 + 1 - y.toNat := by rw [List.length_drop]; rfl
                  have hdL : ∀ k u, ((x :: y :: r2).drop y.toNat)[k]? = some u → L[o' + y.toNat + k]? = some u := fun k u hk => by
                    rw [List.getElem?_drop] at hk
                    rw [Nat.add_assoc]
                    exact HL.out _ u hk
                  have hty : ((y.toNat : Int)).toNat = y.toNat := by simp
                  have HDL := Lib.hid hdl
                  have HDD := Lib.hid hdL
                  clear hdl hdL
                  by_cases x2 : x.toNat = 2
                  · have t2 : ((x.toNat : Int) == 2) = true := by simp [x2]
                    have hun3 := fun T hT => hun2 T ((if_pos x2).trans hT)
                    clear hun2
                    by_cases y4 : (y.toNat : Int) = 4
                    · have t4 : ((y.toNat : Int) != 4) = false := by simp [y4]
                      have hr3 := hun3 _ (if_neg (by omega))
                      rw [hty] at hr3
                      have hy4 : y.toNat = 4 := by omega
                      rw [hy4] at hr3
                      have hdl := HDL.out
                      have hdd := HDD.out
                      rw [hy4] at hdl hdd hyn
                      obtain ⟨u2, e2⟩ : ∃ u, (x :: y :: r2)[2]? = some u := ⟨_, List.getElem?_eq_getElem (by simp; omega)⟩
                      obtain ⟨u3, e3⟩ : ∃ u, (x :: y :: r2)[3]? = some u := ⟨_, List.getElem?_eq_getElem (by simp; omega)⟩
                      have g2 := HL.out 2 u2 e2
                      have g3 := HL.out 3 u3 e3
                      have hNL : o' + 3 < L.length := (List.getElem?_eq_some_iff.1 g3).1
                      have hw : lb L (o' + 2) * 256 + lb L (o' + 2 + 1) = w16 (lb (x :: y :: r2)) 2 := by
                        unfold w16 lb
                        rw [e2, e3, g2, show o' + 2 + 1 = o' + 3 by omega, g3]
                      have hbt : Bts wr gy L.length (lb L) := fun j hj => HO.out.cell (HY.out.bts j hj) (by intro e; injection e with e; exact hne e)
                      have hget := Get16_at gy (o' + 2) L.length (c' - 2) (lb L) (r2.length + 1 + 1 - 2) wr (lb_ok L) hbt (by omega) (by omega) (by omega)
                      rw [hw] at hget
                      have hgb : 0 ≤ w16 (lb (x :: y :: r2)) 2 ∧ w16 (lb (x :: y :: r2)) 2 ≤ 65535 := w16_bd _ (lb_ok _) 2
                      obtain ⟨hgb1, hgb2⟩ := hgb
                      have HG := Lib.hid hget
                      have HR3 := Lib.hid hr3.symm
                      have HDL2 := Lib.hid hdl
                      have HDD2 := Lib.hid hdd
                      (generalize w16 (lb (x :: y :: r2)) 2 = ms at HG HR3 hgb1 hgb2)
                      have k2 : ¬ c' = 2 := by omega
                      have k3 : (2 : Int) ≤ ((r2.length + 1 + 1 : Nat) : Int) := by omega
                      have k4 : 2 ≤ r2.length + 1 + 1 := by omega
                      have k5 : ((y.toNat : Int)) = 4 := y4
                      clear hun3 hr3 hdl hdd e2 e3 g2 g3 hNL hw hbt hget HDL HDD hb0
                      have hb0 := HB.out 0 x rfl
                      rw [Nat.add_zero] at hb0
                      go_upto_region 12 with (go_at_call 38; go_must (refine (HG.out).mono ?_; rintro e W5 ⟨rfl, hB5⟩; have hX5 := HX.out.kept hB5; have d11 := hX5.cell 11; have z11 := hX5.free 11; simp [cSeg] at d11; have hl5 := hX5.lt))
                      refine wp_gen (fun W => w.grownBy W (some gx) ∧ At W gx 47 (cSeg { s with mss := ms })) ⟨?_, ?_⟩ ?_
                      · exact only_set (only_below HO.out hB5) (.inl rfl) _
                      · exact hX5.set_ 11 _
                      rintro W6 ⟨hO6, hX6⟩
                      clear d11 z11 hl5 hX5 hB5 hb0 hb1 HB
                      have hb1 : W6.cell? ⟨gy, o' + 1, none⟩ = some (.int .u8 (y.toNat : Int)) := hO6.cell (HY.out.here _ y (HL.out 1 y rfl)) (by intro e; injection e with e; exact hne e)
                      rw [k5] at hb1
                      have HO6 := Lib.hid hO6
                      have HX6 := Lib.hid hX6
                      clear hO6 hX6 HO HX HG
                      have hg6 := block_of_cell hb1
                      simp only at hg6
                      have k6 : (4 : Int) ≤ ((r2.length + 1 + 1 : Nat) : Int) := by omega
                      have k7 : 4 ≤ r2.length + 1 + 1 := by omega
                      by_cases hcn : c' = 4
                      · have hd0 : (x :: y :: r2).drop 4 = [] := List.eq_nil_of_length_eq_zero (by rw [HDL2.out]; omega)
                        have hR4 := HR3.out
                        rw [hd0] at hR4
                        have HR4 := Lib.hid hR4
                        have hrl : r2.length = 2 := by omega
                        clear HR3 HDL2 HDD2 hd0 hR4 HL
                        subst hcn
                        go_wp2_with fail
                        go_roundw
                        case rel => exact ⟨[], o', 0, f, ms, by simp, by simp, by omega, by simp, by simp, HR4.out, HO6.out, HX6.out⟩
                        case measure => simp [sLen]
                      · go_wp2_with fail
                        go_roundw
                        case rel => exact ⟨(x :: y :: r2).drop 4, o' + 4, c' - 4, f, ms, by rw [HDL2.out, show r2.length + 1 + 1 - 4 = r2.length - 2 by omega], by rw [HDL2.out]; omega, by omega, HDD2.out, by rw [HDL2.out]; omega, HR3.out, HO6.out, HX6.out⟩
                        case measure => simp [sLen]; omega
                    · have t4 : ((y.toNat : Int) != 4) = true := by simpa using y4
                      have hr2 : R = (4, m) := hun3 _ (if_pos y4)
                      clear hun3 HL HB
                      go_wp2_with fail
                      (try rw [Exit.noGoto_ret])
                      go_ret
                      exact ⟨by rw [hr2]; rfl, by rw [hr2]; exact HX.out, HO.out⟩
                  · have t2 : ((x.toNat : Int) == 2) = false := by simp; omega
                    have hr3 := hun2 _ (if_neg x2)
                    rw [hty] at hr3
                    have HR3 := Lib.hid hr3.symm
                    clear hun2 hr3
                    by_cases hcn : c' = y.toNat
                    · have hr0 : r2.length + 1 + 1 = y.toNat := by omega
                      have hd0 : (x :: y :: r2).drop y.toNat = [] := List.eq_nil_of_length_eq_zero (by rw [HDL.out]; omega)
                      have hR4 := HR3.out
                      rw [hd0] at hR4
                      have HR4 := Lib.hid hR4
                      clear HR3 HDL HDD hd0 hR4 HL HB
                      subst hcn
                      go_wp2_with fail
                      go_roundw
                      case rel => exact ⟨[], o', 0, f, m, by simp, by simp, by omega, by simp, by simp, HR4.out, HO.out, HX.out⟩
                      case measure => simp [sLen]
                    · go_wp2_with fail
                      go_roundw
                      case rel => exact ⟨(x :: y :: r2).drop y.toNat, o' + y.toNat, c' - y.toNat, f, m, by rw [HDL.out], by rw [HDL.out]; omega, by omega, HDD.out, by rw [HDL.out]; omega, HR3.out, HO.out, HX.out⟩
                      case measure => simp [sLen]; omega
end Go.Proofs.Ytpjcbjacdkobmaa
