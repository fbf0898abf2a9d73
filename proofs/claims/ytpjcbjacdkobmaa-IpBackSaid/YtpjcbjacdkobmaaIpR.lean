/- The contracts of ip's fits and Read. -/
import Derived.Test.YtpjcbjacdkobmaaIpW
import Derived.Test.YtpjcbjacdkobmaaFnL
import Derived.Laws.CopyOwn
import Derived.Outline
namespace Go.Proofs.Ytpjcbjacdkobmaa
open Go.RowKit
set_option linter.unusedVariables false

set_option maxRecDepth 100000 in
set_option maxHeartbeats 1000000 in
theorem ipWrite_no (p : Pk) (w : World) (ok : PkOk p) (hc : ipChk p ≠ 0) :
    Calls Try.prog 17 #[.agg (pkC p).toArray] w fun e w' => e = .returned (.tuple #[.string ⟨#[]⟩, .int .i64 (ipChk p)]) ∧ Below w.heap.size w w' := by
  have hck := fun W => ipCheck_any p W ok
  have hne : ((ipChk p : Int) != 0) = true := by simpa using hc
  have HCK := Lib.hid hck
  clear hck hc
  go_enter Try.func17, Try.ntmps17
  go_upto_region 1 with (fail)
  refine wp_gen (fun W => At W w.heap.size 38 (pkC p) ∧ Below w.heap.size w W) ⟨?_, by repeat' (first | with_reducible exact Below.refl _ _ | with_reducible assumption | with_reducible refine Below.drew ?_ | with_reducible refine below_dn ?_ _ | with_reducible refine below_ca ?_ _ | with_reducible refine Below.setCell ?_ ?_ _ | (refine below_c ?_ (by with_reducible assumption)) | (simp <;> omega) | omega)⟩ ?_
  · exact At.new_ w _ _
  rintro W1 ⟨hX1, hB1⟩
  have hX1r : W1.rangeAt w.heap.size 0 (pkC p) := fun j u hj => by rw [Nat.zero_add, hX1.cell, hj]
  have hpi : (Try.prog.info? 38).map (·.size) = some (pkC p).length := by kernel_rfl
  go_wp2_with (refine wpList_load_mid rfl 38 (.tmp 1) rfl w.heap.size 0 rfl (pkC p) _ hX1r Try.underlying38 rfl hpi ?_)
  refine (HCK.out _).mono ?_
  rintro e W2 ⟨rfl, hB2⟩
  go_wp2_with fail
  go_ret2
  exact ⟨rfl, below_c hB1 hB2⟩
/-- a head without its sum -/
def bareB (B : Nat → Int) : List Int := fnL 20 fun k => if k = 10 ∨ k = 11 then 0 else B k
def fitsB (B : Nat → Int) : Bool := 65535 - sumZ (byteL (bareB B)) == w16 B 10
theorem bts_map (B : Nat → Int) (hB : BOk B) (k : Nat) : b8 (B k) = .int .u8 (B k) := by
  have := hB k
  unfold b8; rw [Int.emod_eq_of_lt (by omega) (by omega)]
set_option maxRecDepth 100000 in
set_option maxHeartbeats 2000000 in
theorem fits_any (g c : Nat) (B : Nat → Int) (w : World) (hB : BOk B) (h : Bts w g 20 B) (hc : 20 ≤ c) :
    Calls Try.prog 43 #[.slice (some ⟨g, 0, none⟩) 20 c] w fun e w' => e = .returned (.bool (fitsB B)) ∧ Below w.heap.size w w' := by
  have hz : ∀ W : World, (zeroValue 121).run Try.prog W = .ok (.agg (List.replicate 20 (Value.int .u8 0)).toArray) W := fun _ => by kernel_rfl
  have hg := fun (W : World) (hb : Below w.heap.size w W) => Get16_at g 10 20 (c - 10) B 10 W hB (h.kept hb) (by omega) (by omega) (by omega)
  have hw : B 10 * 256 + B (10 + 1) = w16 B 10 := rfl
  rw [hw] at hg
  have HG := Lib.hid hg
  have k1 : (10 : Int) < (c : Int) := by omega
  have k4 : ¬ c = 10 := by omega
  have k5 : 10 ≤ c := by omega
  clear hg hw
  go_enter Try.func43, Try.ntmps43
  go_wp2_with fail
  refine (HG.out _ (Below.refl _ _)).mono ?_
  rintro e w1 ⟨rfl, hB1⟩
  go_upto_region 3 with (fail)
  refine wp_gen (fun W => At W w1.heap.size 121 (List.replicate 20 (Value.int .u8 0)) ∧ Below w1.heap.size w1 W) ⟨At.new_ w1 _ (List.replicate 20 (Value.int .u8 0)), by repeat' (first | with_reducible exact Below.refl _ _ | with_reducible assumption | with_reducible refine Below.drew ?_ | with_reducible refine below_dn ?_ _ | with_reducible refine below_ca ?_ _ | with_reducible refine Below.setCell ?_ ?_ _ | (refine below_c ?_ (by with_reducible assumption)) | (simp <;> omega) | omega)⟩ ?_
  rintro W3 ⟨hZ3, hB3⟩
  have hZl : (List.replicate 20 (Value.int .u8 0)).length = 20 := rfl
  (generalize List.replicate 20 (Value.int .u8 0) = Z at hZ3 hZl)
  have HZl := Lib.hid hZl
  clear hZl
  have hB13 := below_c hB1 hB3
  have h3 := h.kept hB13
  have hz3 := hZ3.lt
  clear hz HG
  go_wp2_with (refine wpList_copy_splice rfl (.tmp 8) (.tmp 9) 79 79 rfl 5 Try.underlying79 (by kernel_rfl) _ _ 20 20 20 c rfl rfl w1.heap.size 0 Z 121 hZ3 (fnL 20 fun k => Value.int .u8 (B k)) (by rw [fnL_len]; rfl) ?pos (by rw [fnL_len, HZl.out]; omega) ?one w.heap.size w hB13 hB1.size ?_)
  case pos =>
    intro _
    intro j v hj
    by_cases hj2 : j < 20
    · rw [fnL_get _ _ _ hj2] at hj; cases hj; exact h3 j hj2
    · rw [List.getElem?_eq_none (by rw [fnL_len]; omega)] at hj; cases hj
  case one =>
    intro v hv
    obtain ⟨j, hj⟩ := List.getElem?_of_mem hv
    by_cases hj2 : j < 20
    · rw [fnL_get _ _ _ hj2] at hj; cases hj; rfl
    · rw [List.getElem?_eq_none (by rw [fnL_len]; omega)] at hj; cases hj
  intro W4 HG4 hB4
  have hA4 : At W4 w1.heap.size 121 (fnL 20 fun k => Value.int .u8 (B k)) := by
    have := HG4.out
    have e : splice Z 0 (fnL 20 fun k => Value.int .u8 (B k)) = fnL 20 fun k => Value.int .u8 (B k) := by
      unfold splice
      rw [fnL_len, List.drop_of_length_le (by rw [HZl.out]; omega)]
      simp
    rw [e] at this
    exact this
  clear HG4
  obtain ⟨u0, d0⟩ : ∃ u, W4.cell? ⟨w1.heap.size, 10, none⟩ = some u := ⟨_, by rw [hA4.cell, fnL_get _ _ _ (by omega)]⟩
  obtain ⟨u1, d1⟩ : ∃ u, W4.cell? ⟨w1.heap.size, 11, none⟩ = some u := ⟨_, by rw [hA4.cell, fnL_get _ _ _ (by omega)]⟩
  have z0 := hA4.free 10
  have z1 := hA4.free 11
  have hl4 := hA4.lt
  go_upto_region 5 with (fail)
  refine wp_gen (fun W => At W w1.heap.size 121 ((bareB B).map b8) ∧ Below w.heap.size w W) ⟨?_, ?_⟩ ?_
  · refine At.conv (At.set_ (At.set_ hA4 10 _) 11 _) ?_
    rw [fnL_set, fnL_set]
    unfold bareB
    apply List.ext_getElem?
    intro k
    by_cases hk : k < 20
    · rw [fnL_get _ _ _ hk, List.getElem?_map, fnL_get _ _ _ hk]
      simp only [Option.map_some]
      congr 1
      by_cases e1 : k = 11
      · subst e1; simp [b8]
      · by_cases e2 : k = 10
        · subst e2; simp [b8]
        · rw [if_neg e1, if_neg e2, if_neg (by omega), bts_map B hB]
    · rw [List.getElem?_eq_none (by rw [fnL_len]; omega), List.getElem?_eq_none (by rw [List.length_map, fnL_len]; omega)]
  · exact (hB4.setCell hB1.size _).setCell hB1.size _
  rintro W5 ⟨hA5, hB5⟩
  have hbl : (bareB B).length = 20 := by unfold bareB; rw [fnL_len]
  have hback := run_convert_bytes_back (P := Try.prog) W5 79 9 5 ⟨w1.heap.size, 0, none⟩ 20 (byteL (bareB B)) Try.underlying79 Try.underlying5 Try.underlying9 (fun k hk => by
    have hadd : (⟨w1.heap.size, 0, none⟩ : Addr).add k = ⟨w1.heap.size, k, none⟩ := by unfold Addr.add; split <;> simp_all
    rw [hadd, hA5.cell]
    exact byteL_at _ k hk)
  rw [byteL_len, hbl, show (⟨(byteL (bareB B)).toArray⟩ : ByteArray) = byteS (bareB B) from rfl] at hback
  have hsc := fun (W : World) => Check16_any (byteS (bareB B)) W (by rw [byteS_sz, hbl]; omega)
  rw [byteS_toList] at hsc
  have hf : fitsB B = (65535 - sumZ (byteL (bareB B)) == w16 B 10) := rfl
  have HF := Lib.hid hf
  have HSC := Lib.hid hsc
  clear hf hsc hbl d0 d1 z0 z1 hA4 hl4 hB4
  generalize byteS (bareB B) = S5 at *
  have hl5 := hA5.lt
  go_wp2_with fail
  refine (HSC.out _).mono ?_
  rintro e w6 ⟨rfl, hB6⟩
  go_wp2_with fail
  go_ret
  exact ⟨ret_bool (by rw [HF.out]), below_c hB5 hB6⟩
end Go.Proofs.Ytpjcbjacdkobmaa
