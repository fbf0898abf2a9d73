/- packetboatkeep.bound: a table behind a list of steps. -/
import Derived.Test.YtppjmhkecogbcaaBndJ
import Derived.Test.YtppjmhkecogbcaaStep
import Derived.Test.YtppjmhkecogbcaaStepM
import Derived.Test.YtppjmhkecogbcaaPiece
namespace Go.Proofs.Ytppjmhkecogbcaa
open Go.RowKit Go.Lib
set_option linter.unusedVariables false
set_option linter.unusedSimpArgs false

/-- the Bound of a step -/
theorem step_bound {cs : List Value} (h : okAll ksStep cs) : ∃ b : KBound, BndOk b ∧ (cs.drop 38).take (cBound b).length = cBound b ∧ cs[44]? = some (.int .i64 b.ow) := by
  obtain ⟨v0, hv0, n0, rfl, a0, b0⟩ := okAll_at 38 h rfl
  obtain ⟨v1, hv1, n1, rfl, a1, b1⟩ := okAll_at 39 h rfl
  obtain ⟨v2, hv2, n2, rfl, a2, b2⟩ := okAll_at 40 h rfl
  obtain ⟨v3, hv3, n3, rfl, a3, b3⟩ := okAll_at 41 h rfl
  obtain ⟨v4, hv4, n4, rfl, a4, b4⟩ := okAll_at 42 h rfl
  obtain ⟨v5, hv5, n5, rfl⟩ := okAll_at 43 h rfl
  obtain ⟨v6, hv6, n6, rfl, a6, b6⟩ := okAll_at 44 h rfl
  refine ⟨⟨n0, n1, n2, n3, n4, n5, n6⟩, ⟨⟨a0, b0⟩, ⟨a1, b1⟩, ⟨a2, b2⟩, ⟨a3, b3⟩, ⟨a4, b4⟩, ⟨a6, b6⟩⟩, ?_, hv6⟩
  have hl := step_len h
  have hd : ∀ (i : Nat) (v : Value), cs[i]? = some v → cs.drop i = v :: cs.drop (i + 1) := fun i v hv => by
    have hi := (List.getElem?_eq_some_iff.1 hv).1
    rw [List.drop_eq_getElem_cons hi]
    rw [List.getElem?_eq_getElem hi] at hv
    rw [Option.some.inj hv]
  rw [hd 38 _ hv0, hd 39 _ hv1, hd 40 _ hv2, hd 41 _ hv3, hd 42 _ hv4, hd 43 _ hv5, hd 44 _ hv6]
  rfl
theorem binv_pick {l l' : List KBound} {b : KBound} {p e : Int} (h : BInv l) (hb : BndOk b) (hr : PickRel l b p e l') : BInv l' := by
  rcases hr with ⟨_, _, rfl⟩ | ⟨_, h1, h2, h3, h4⟩
  · exact h
  · have hb' : BndOk { b with lp := p } := ⟨hb.pr, hb.la, ⟨by show (-9223372036854775808 : Int) ≤ p; omega, by show p ≤ (9223372036854775807 : Int); omega⟩, hb.ra, hb.rp, hb.ow⟩
    have := binv_bind h _ hb'
    rw [(pBind_yes h4).1] at this
    rw [h3]
    exact this
set_option maxRecDepth 100000 in
set_option maxHeartbeats 8000000 in
theorem bound_any (A0 : Option Addr) (n0 c0 : Nat) (css0 : Nat → List Value) (w : World) (hR0 : Rows_ w A0 n0 ksStep css0) (hl0 : n0 ≤ 140737488351232) :
    Calls Try.prog 5 #[.slice A0 n0 c0] w fun e w' => ∃ (g : Nat) (v : Value) (l : List KBound), e = .returned (.pointer (some ⟨g, 0, none⟩)) ∧ Mem w w' (pL g v l) ∧ BInv l := by
  go_enter Try.func5, Try.ntmps5
  go_wp2_with fail
  refine (newports_any _).mono ?_
  rintro e W1 ⟨g, rfl, hM⟩
  dsimp only
  have HD := Lib.hid (fun W h => pt_Drop_none g (.slice none 0 0) [] 0 W h (by simp) rfl)
  go_wp2_with (go_at_call 14; refine (HD.out _ (p_hand [] hM)).mono ?_; rintro x W ⟨rfl, hM6⟩; replace hM := p_put [] hM hM6; clear hM6; dsimp only)
  go_loopg [16] n0 (fun gh i wr => ∃ (k : Nat) (l : List KBound) (v : Value), gh = n0 - k ∧ k ≤ n0 ∧ i = .int .i64 k ∧ Mem w wr [pA g v, pW v l] ∧ BInv l)
  case atStart => exact ⟨0, [], _, by omega, by omega, rfl, hM, binv_nil⟩
  case round =>
    clear hM HD
    obtain ⟨k, l, v, hgk, hk, rfl, hM, hI⟩ := hrel
    have HGK := Lib.hid hgk
    clear hgk
    by_cases hlt : k < n0
    · have hBk := hM.b
      obtain ⟨b, off, hA, hrg⟩ := hR0.at_ k hlt
      subst hA
      have hrg : wr.rangeAt b (off + k * 45) (css0 k) := range_kept hrg hBk
      have hokx := hR0.ok k hlt
      have hlen : (css0 k).length = 45 := okAll_len hokx
      have hone := all_oneCell_toArray (okAll_one hokx)
      have hi1 : (Try.prog.info? 56).map (·.size) = some (css0 k).length := by rw [hlen]; exact info_Step
      have hi2 : (Try.prog.info? 56).map (·.size) = some (css0 k).toArray.size := by rw [List.size_toArray]; exact hi1
      go_upto_region 7 with (first | (refine wpList_load_mid rfl 56 (.tmp 18) rfl b (off + k * 45) rfl (css0 k) _ hrg Try.underlying56 rfl hi1 ?_) | (refine wpList_store_mid rfl 56 (.tmp 5) (.tmp 19) rfl _ 0 (css0 k).toArray rfl rfl (there_new _ _ _ _ (by rw [List.size_toArray, hlen]; exact Nat.le_refl _)) hi2 hone ?_))
      refine wp_gen (fun W => MemX noE w W [pA g v, pW v l, atR wr.heap.size 56 (css0 k)]) ?hgen ?_
      case hgen => exact hM.boxed _ _ _ (by rw [hlen]; rfl)
      intro W2 hM2
      obtain ⟨kd, hkd, hkd1, hkd2⟩ := step_int hokx 0 rfl
      obtain ⟨xa, hxa, hxa1, hxa2⟩ := step_int hokx 1 rfl
      obtain ⟨b, hb, hb38, hb44⟩ := step_bound hokx
      go_wp2_with (refine wpList_load_mid rfl 56 (.tmp 5) rfl wr.heap.size 0 rfl (css0 k) _ (hM2.range 2 rfl) Try.underlying56 rfl hi1 ?_)
      refine (Of_any (css0 k) kd 4 _ hkd hkd1 hkd2 (by omega) (by omega)).mono ?_
      rintro e w4 ⟨rfl, hB4⟩
      have hM := hM2.kept hB4
      have c1 : w4.cell? ⟨wr.heap.size, 1, none⟩ = some (.int .i64 xa) := (hM.cells 2 rfl 1).trans hxa
      have c44 : w4.cell? ⟨wr.heap.size, 44, none⟩ = some (.int .i64 b.ow) := (hM.cells 2 rfl 44).trans hb44
      have hlx := hM.lt 2 rfl
      have hl32 := hI.len
      clear hM2 hB4 hBk
      generalize wr.heap.size = gx at *
      have hd : kd % 4 = 0 ∨ kd % 4 = 1 ∨ (2 ≤ kd % 4 ∧ kd % 4 < 4) := by omega
      rcases hd with h | h | h
      · rw [h]
        clear h
        cases hp : pHas l b.ow
        · have HD := Lib.hid (fun W h => pt_Drop_none g v l b.ow W h (by omega) hp)
          clear hp
          go_wp2_with (go_at_call 14; refine (HD.out _ (p_hand _ hM)).mono ?_; rintro x W ⟨rfl, hM6⟩; replace hM := p_put _ hM hM6; clear hM6; dsimp only)
          go_roundg (n0 - (k + 1))
          case measure => have := HGK.out; omega
          case rel => exact ⟨k + 1, l, v, rfl, by omega, by go_num, hM.take_ 2, hI⟩
        · have HD := Lib.hid (fun W h => Drop_some g v l b.ow W h (by omega) hp)
          clear hp
          go_wp2_with (go_at_call 14; refine (HD.out _ (p_hand _ hM)).mono ?_; rintro x W ⟨v6, rfl, hM6⟩; replace hM := p_put _ hM hM6; clear hM6; dsimp only)
          go_roundg (n0 - (k + 1))
          case measure => have := HGK.out; omega
          case rel => exact ⟨k + 1, _, v6, rfl, by omega, by go_num, hM.take_ 2, binv_drop hI _⟩
      · rw [h]
        clear h
        have HD := Lib.hid (fun W h => Pick_any g v l b xa W h hI hxa1 hxa2)
        go_wp2_with (first | ((with_reducible refine at_load_ (T := 39) ?_); refine wpList_loads_mem (by go_simp) _ _ rfl 2 _ 38 _ _ (cBound b) hM rfl rfl hb38 _ Try.underlying39 rfl sz_Bound ?_) | (go_at_call 17; refine (HD.out _ (p_hand _ hM)).mono ?_; rintro x W ⟨pp, pe, v6, l6, rfl, hM6, hpr⟩; replace hM := p_put _ hM hM6; clear hM6; dsimp only))
        go_roundg (n0 - (k + 1))
        case measure => have := HGK.out; omega
        case rel => exact ⟨k + 1, l6, v6, rfl, by omega, by go_num, hM.take_ 2, binv_pick hI hb hpr⟩
      · have h0 : (kd % 4 == 0) = false := by simp; omega
        have h1 : (kd % 4 == 1) = false := by simp; omega
        clear h
        have HD := Lib.hid (fun W h => Bind_any g v l b W h hI)
        have HI := Lib.hid (binv_bind hI b hb)
        generalize pBind l b = l6 at *
        go_wp2_with (first | ((with_reducible refine at_load_ (T := 39) ?_); refine wpList_loads_mem (by go_simp) _ _ rfl 2 _ 38 _ _ (cBound b) hM rfl rfl hb38 _ Try.underlying39 rfl sz_Bound ?_) | (go_at_call 18; refine (HD.out _ (p_hand _ hM)).mono ?_; rintro x W ⟨v6, rfl, hM6⟩; replace hM := p_put _ hM hM6; clear hM6; dsimp only))
        go_roundg (n0 - (k + 1))
        case measure => have := HGK.out; omega
        case rel => exact ⟨k + 1, _, v6, rfl, by omega, by go_num, hM.take_ 2, HI.out⟩
    · go_wp2_with fail
      go_ret
      exact ⟨g, v, l, rfl, hM, hI⟩
end Go.Proofs.Ytppjmhkecogbcaa
