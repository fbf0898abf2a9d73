/- The walk of HashKnown: it returns true. -/
import Derived.Test.YtgdfjkdcdfmifaaSipK
namespace Go.Proofs.Ytgdfjkdcdfmifaa
open Go.RowKit
set_option linter.unusedVariables false
set_option linter.unusedSimpArgs false

theorem byteS_app (l m : List Int) : byteS l ++ byteS m = byteS (l ++ m) := by
  apply ByteArray.ext
  rw [ByteArray.data_append]
  unfold byteS byteL
  rw [List.map_append]
  apply Array.ext'
  simp
theorem byteS_size (l : List Int) : (byteS l).size = l.length := by
  show (byteL l).toArray.size = _
  rw [List.size_toArray, byteL_len]
theorem upto_succ (k : Nat) : upto (k + 1) = upto k ++ [(k : Int)] := by unfold upto; rw [List.range_succ, List.map_append]; rfl
theorem end_news (W : World) (a p : Int) (ha : 0 ≤ a) (ha' : a ≤ 4294967295) : ∀ (j : Nat) (u : Value), ((endL a p).map b8)[j]? = some u →
    (W.alloc (.cells #[.int .u8 (a / 16777216), .int .u8 (a / 65536 % 256), .int .u8 (a / 256 % 256), .int .u8 (a % 256), .int .u8 (p / 256 % 256), .int .u8 (p % 256)] 5)).cell? ((⟨W.heap.size, 0, none⟩ : Addr).add j) = some u := by
  have e : ((endL a p).map b8) = [.int .u8 (a / 16777216), .int .u8 (a / 65536 % 256), .int .u8 (a / 256 % 256), .int .u8 (a % 256), .int .u8 (p / 256 % 256), .int .u8 (p % 256)] := by
    simp [endL, b8]; omega
  rw [e]
  exact At.news (At.new_ W 5 _)
theorem endL_len (a p : Int) : (endL a p).length = 6 := rfl
set_option maxRecDepth 100000 in
set_option maxHeartbeats 2000000 in
theorem w_HashKnown (a0 : Int) (a1 : Int) (a2a : Int) (a2b : Int) (a3a : Int) (a3b : Int) (w : World) (ha0 : 0 ≤ a0) (ha0' : a0 ≤ 18446744073709551615) (ha1 : 0 ≤ a1) (ha1' : a1 ≤ 18446744073709551615) (ha2a : 0 ≤ a2a) (ha2a' : a2a ≤ 4294967295) (ha2b : -9223372036854775808 ≤ a2b) (ha2b' : a2b ≤ 9223372036854775807) (ha3a : 0 ≤ a3a) (ha3a' : a3a ≤ 4294967295) (ha3b : -9223372036854775808 ≤ a3b) (ha3b' : a3b ≤ 9223372036854775807) :
    Calls Try.prog 14 #[.int .u64 a0, .int .u64 a1, .agg #[.int .u32 a2a, .int .i64 a2b], .agg #[.int .u32 a3a, .int .i64 a3b]] w fun e w' => e = .returned (.bool true) ∧ Below w.heap.size w w' := by
  go_enter Try.func14, Try.ntmps14
  go_upto_region 3 with (fail)
  go_loopw [14, 9] (fun i t wr => ∃ k : Nat, k ≤ 15 ∧ i = .int .i64 k ∧ t = .string (byteS (upto k)) ∧ At wr w.heap.size 32 [.int .u32 a2a, .int .i64 a2b] ∧ At wr (w.heap.size + 1) 32 [.int .u32 a3a, .int .i64 a3b] ∧ Below w.heap.size w wr) (fun i _ _ => 15 - (intOf i).toNat)
  case atStart => 
    refine ⟨0, by omega, rfl, rfl, ?_, ?_, by repeat' (first | with_reducible exact Below.refl _ _ | with_reducible assumption | with_reducible refine Below.drew ?_ | with_reducible refine below_dn ?_ _ | with_reducible refine below_ca ?_ _ | with_reducible refine Below.setCell ?_ ?_ _ | (refine below_c ?_ (by with_reducible assumption)) | (simp <;> omega) | omega)⟩
    · exact At.alloc (At.new_ _ _ _) _
    · have h := At.new_ (w.alloc (.cells #[.int .u32 a2a, .int .i64 a2b] 32)) 32 [.int .u32 a3a, .int .i64 a3b]
      rw [show (w.alloc (.cells #[.int .u32 a2a, .int .i64 a2b] 32)).heap.size = w.heap.size + 1 by simp] at h
      exact h
  case round =>
    obtain ⟨k, hk, rfl, rfl, hA, hB, hW⟩ := hrel
    by_cases hlt : k < 15
    · have hcell : ∀ j (hj : j < (byteL [(k : Int)]).length), (wr.alloc (.cells #[.int .u8 (k : Int)] 5)).cell? ((⟨wr.heap.size, 0, none⟩ : Addr).add j) = some (.int .u8 ((byteL [(k : Int)])[j].toNat : Int)) := by
        intro j hj
        have h1 := byteL_at [(k : Int)] j hj
        rw [← h1]
        have e : ([(k : Int)].map b8) = [.int .u8 (k : Int)] := by simp [b8]; omega
        rw [e] at h1 ⊢
        have h2 := At.news (At.new_ wr 5 [.int .u8 (k : Int)]) j _ h1
        rw [h1]
        exact h2
      have hback := run_convert_bytes_back (P := Try.prog) (wr.alloc (.cells #[.int .u8 (k : Int)] 5)) 87 9 5 ⟨wr.heap.size, 0, none⟩ 1 (byteL [(k : Int)]) Try.underlying87 Try.underlying5 Try.underlying9 hcell
      rw [byteL_len, show (⟨(byteL [(k : Int)]).toArray⟩ : ByteArray) = byteS [(k : Int)] from rfl] at hback
      simp only [List.length_singleton] at hback
      clear hcell
      have hs1 := byteS_size (upto k)
      have hs2 := byteS_size [(k : Int)]
      have hs3 : (upto k).length = k := by simp [upto]
      rw [hs3] at hs1
      simp only [List.length_singleton] at hs2
      have happ := byteS_app (upto k) [(k : Int)]
      rw [← upto_succ] at happ
      generalize byteS [(k : Int)] = T1 at *
      go_wp2_with fail
      go_roundw
      case rel => exact ⟨k + 1, by omega, by go_num, rfl, hA.alloc _, hB.alloc _, below_ca hW _⟩
      case measure => simp [intOf]; omega
    · obtain rfl : k = 15 := by omega
      have hs1 := byteS_size (upto 15)
      have hs3 : (upto 15).length = 15 := by simp [upto]
      have hsip := fun W => Sip_any 506097522914230528 1084818905618843912 (byteS (upto 15)) W (by constructor <;> omega) (by constructor <;> omega) (by omega)
      rw [known] at hsip
      generalize byteS (upto 15) = T at *
      have HSip := Lib.hid hsip
      clear hsip hs1 hs3
      go_wp2_with fail
      refine (HSip.out _).mono ?_
      rintro e w1 ⟨rfl, hB1⟩
      clear HSip
      have hA1 := hA.kept hB1
      have hE1 := hB.kept hB1
      have hW1 := below_c hW hB1
      have d0 := hA1.cell 0
      have d1 := hA1.cell 1
      have e0 := hE1.cell 0
      have e1 := hE1.cell 1
      have la := hA1.lt
      have le := hE1.lt
      simp at d0 d1 e0 e1
      go_upto_region 11 with (fail)
      refine wp_gen (fun W => Below w1.heap.size w1 W ∧ At W w1.heap.size 32 [.int .u32 a2a, .int .i64 a2b, .int .u32 a3a, .int .i64 a3b]) ⟨by repeat' (first | with_reducible exact Below.refl _ _ | with_reducible assumption | with_reducible refine Below.drew ?_ | with_reducible refine below_dn ?_ _ | with_reducible refine below_ca ?_ _ | with_reducible refine Below.setCell ?_ ?_ _ | (refine below_c ?_ (by with_reducible assumption)) | (simp <;> omega) | omega), ?_⟩ ?_
      · exact At.new_ _ _ [.int .u32 a2a, .int .i64 a2b, .int .u32 a3a, .int .i64 a3b]
      rintro W2 ⟨hB2, hE2⟩
      go_loopw [31, 11] (fun i v wr2 => ∃ k : Nat, k ≤ 2 ∧ i = .int .i64 k ∧ OwnB wr2 W2.heap.size v (pl (endL a2a a2b) (endL a3a a3b) k) ∧ Below W2.heap.size W2 wr2) (fun i _ _ => 2 - (intOf i).toNat)
      case atStart => exact ⟨0, by omega, rfl, Win.nil _ _ _, Below.refl _ _⟩
      case round =>
        obtain ⟨k, hk, rfl, hV2, hBk⟩ := hrel
        obtain ⟨Av, cv, rfl⟩ := hV2.form
        have hEk := hE2.kept hBk
        have y0 := hEk.cell 0
        have y1 := hEk.cell 1
        have y2 := hEk.cell 2
        have y3 := hEk.cell 3
        simp at y0 y1 y2 y3
        have hlk := hEk.lt
        by_cases hlt2 : k < 2
        · obtain rfl | rfl : k = 0 ∨ k = 1 := by omega
          · go_upto_region 13 with (fail)
            refine wp_gen (fun W => Below wr.heap.size wr W ∧ At W wr.heap.size 32 [.int .u32 a2a, .int .i64 a2b]) ⟨by repeat' (first | with_reducible exact Below.refl _ _ | with_reducible assumption | with_reducible refine Below.drew ?_ | with_reducible refine below_dn ?_ _ | with_reducible refine below_ca ?_ _ | with_reducible refine Below.setCell ?_ ?_ _ | (refine below_c ?_ (by with_reducible assumption)) | (simp <;> omega) | omega), ?_⟩ ?_
            · apply At.conv
              case h => repeat' (first | with_reducible exact At.new_ _ _ _ | with_reducible apply At.set_ | with_reducible apply At.drew | with_reducible apply At.drewN | with_reducible apply At.alloc)
              case e => rfl
            rintro W3 ⟨hB3, hX3⟩
            have x0 := hX3.cell 0
            have x1 := hX3.cell 1
            simp at x0 x1
            have hV3 := hV2.kept hB3
            go_wp2_with (at_builtin; obtain ⟨iG, zG, iG0, iG1, iG2, iG3, iG4⟩ := elem_u8; refine wpList_append_win rfl _ _ 87 rfl W2.heap.size 5 iG zG 1 1 Try.underlying87 iG0 iG1 iG2 iG3 iG4 (by decide) _ _ _ rfl (hV3.alloc _) ⟨W3.heap.size, 0, none⟩ 6 6 ((endL a2a a2b).map b8) rfl rfl ?news ?one (by decide) ?mx ?byt ?ba ?_)
            case news => exact end_news _ _ _ (by omega) (by omega)
            case one => exact b8_one _
            case mx => simp [maxLen, pl, endL]
            case byt => simp [pl, endL]
            case ba => have := hB3.size; have := hBk.size; simp; omega
            intro v7 w7 hV7 hO7 hat7
            go_wp2_with fail
            go_roundw
            case rel => exact ⟨1, by omega, by go_num, by unfold OwnB; simpa [pl, endL] using hV7, ((below_ca (below_c hBk hB3) _).grown hO7 (by have := hB3.size; have := hBk.size; simp; omega) (fun j hj => (hV3.lt j hj).1))⟩
            case measure => simp [intOf]
          · go_upto_region 13 with (fail)
            refine wp_gen (fun W => Below wr.heap.size wr W ∧ At W wr.heap.size 32 [.int .u32 a3a, .int .i64 a3b]) ⟨by repeat' (first | with_reducible exact Below.refl _ _ | with_reducible assumption | with_reducible refine Below.drew ?_ | with_reducible refine below_dn ?_ _ | with_reducible refine below_ca ?_ _ | with_reducible refine Below.setCell ?_ ?_ _ | (refine below_c ?_ (by with_reducible assumption)) | (simp <;> omega) | omega), ?_⟩ ?_
            · apply At.conv
              case h => repeat' (first | with_reducible exact At.new_ _ _ _ | with_reducible apply At.set_ | with_reducible apply At.drew | with_reducible apply At.drewN | with_reducible apply At.alloc)
              case e => rfl
            rintro W3 ⟨hB3, hX3⟩
            have x0 := hX3.cell 0
            have x1 := hX3.cell 1
            simp at x0 x1
            have hV3 := hV2.kept hB3
            go_wp2_with (at_builtin; obtain ⟨iG, zG, iG0, iG1, iG2, iG3, iG4⟩ := elem_u8; refine wpList_append_win rfl _ _ 87 rfl W2.heap.size 5 iG zG 1 1 Try.underlying87 iG0 iG1 iG2 iG3 iG4 (by decide) _ _ _ rfl (hV3.alloc _) ⟨W3.heap.size, 0, none⟩ 6 6 ((endL a3a a3b).map b8) rfl rfl ?news ?one (by decide) ?mx ?byt ?ba ?_)
            case news => exact end_news _ _ _ (by omega) (by omega)
            case one => exact b8_one _
            case mx => simp [maxLen, pl, endL]
            case byt => simp [pl, endL]
            case ba => have := hB3.size; have := hBk.size; simp; omega
            intro v7 w7 hV7 hO7 hat7
            go_wp2_with fail
            go_roundw
            case rel => exact ⟨2, by omega, by go_num, by unfold OwnB; simpa [pl, endL] using hV7, ((below_ca (below_c hBk hB3) _).grown hO7 (by have := hB3.size; have := hBk.size; simp; omega) (fun j hj => (hV3.lt j hj).1))⟩
            case measure => simp [intOf]
        · obtain rfl : k = 2 := by omega
          have hA2 := (hA1.kept hB2).kept hBk
          have hE2' := (hE1.kept hB2).kept hBk
          have x0 := hA2.cell 0
          have x1 := hA2.cell 1
          have x2 := hE2'.cell 0
          have x3 := hE2'.cell 1
          simp at x0 x1 x2 x3
          have l0 := hA2.lt
          have l1 := hE2'.lt
          have hV3 : OwnB wr W2.heap.size (.slice Av (endL a2a a2b ++ endL a3a a3b).length cv) (endL a2a a2b ++ endL a3a a3b) := hV2
          have hcv : ∀ u : Later wr, (convert 87 9 (.slice Av (endL a2a a2b ++ endL a3a a3b).length cv)).run Try.prog u.now = .ok (.string (byteS (endL a2a a2b ++ endL a3a a3b))) u.now := by
            intro u
            have hVu : OwnB u.now W2.heap.size (.slice Av (endL a2a a2b ++ endL a3a a3b).length cv) (endL a2a a2b ++ endL a3a a3b) := hV3.kept u.still
            obtain ⟨g, off, cap, hv, hW⟩ := hVu.pos (by simp [endL])
            cases hv
            have hback := run_convert_bytes_back (P := Try.prog) u.now 87 9 5 ⟨g, off, none⟩ cv (byteL (endL a2a a2b ++ endL a3a a3b)) Try.underlying87 Try.underlying5 Try.underlying9 (own_back hW)
            rw [byteL_len] at hback
            exact hback
          have hpl : pl (endL a2a a2b) (endL a3a a3b) 2 = endL a2a a2b ++ endL a3a a3b := rfl
          rw [hpl]
          have hsz : (byteS (endL a2a a2b ++ endL a3a a3b)).size = 12 := by rw [byteS_size]; rfl
          have hp := fun (u : Later wr) => Pair_any a0 a1 a2a a2b a3a a3b u.now (by constructor <;> omega) (by constructor <;> omega) (by omega) (by omega) (by omega) (by omega) (by omega) (by omega) (by omega) (by omega)
          have hs := fun (u : Later wr) => Sip_any a0 a1 (byteS (endL a2a a2b ++ endL a3a a3b)) u.now (by constructor <;> omega) (by constructor <;> omega) (by omega)
          generalize byteS (endL a2a a2b ++ endL a3a a3b) = S at hcv hp hs
          generalize (endL a2a a2b ++ endL a3a a3b).length = n at hcv ⊢
          have HP := Lib.hid hp
          have HS := Lib.hid hs
          clear hp hs hsz hA hB hW hA1 hE1 hE2 hEk y0 y1 y2 y3 d0 d1 e0 e1 hV2 hV3 hpl
          go_wp2_with fail
          refine wp_region_later (by kernel_rfl) (by kernel_rfl) (fun hlc => ?_)
          repeat (go_big_quiet_step (first | (go_at_call 46; exact later_call (HP.out _)) | (go_at_call 45; exact later_call (HS.out _))))
          refine wpQuiet_nil ?_
          intro wq hbq
          clear hlc
          go_wp2_with fail
          go_ret
          exact ⟨rfl, below_c (below_c (below_c hW1 hB2) hBk) hbq⟩
end Go.Proofs.Ytgdfjkdcdfmifaa
