/- The contract of Pair: Sip of the two ends' bytes. -/
import Derived.Test.YtgdfjkdcdfmifaaHashP
import Derived.Test.YtgdfjkdcdfmifaaWire
namespace Go.Proofs.Ytgdfjkdcdfmifaa
open Go.RowKit
set_option linter.unusedVariables false
set_option linter.unusedSimpArgs false

def byteL (l : List Int) : List UInt8 := l.map fun x => UInt8.ofNat (x % 256).toNat
def byteS (l : List Int) : ByteArray := ⟨(byteL l).toArray⟩
theorem byteL_len (l : List Int) : (byteL l).length = l.length := by simp [byteL]
theorem byteL_at (l : List Int) (k : Nat) (h : k < (byteL l).length) : (l.map b8)[k]? = some (.int .u8 ((byteL l)[k].toNat : Int)) := by
  have h' : k < l.length := by simpa [byteL_len] using h
  rw [List.getElem?_eq_getElem (by simpa using h')]
  simp only [List.getElem_map, byteL, b8]
  congr 2
  rw [UInt8.toNat_ofNat']
  omega
theorem own_back {w : World} {base : Nat} {l : List Int} {g off c : Nat} (h : WinAt w base 1 g off c l.length (l.map b8)) :
    ∀ k (hk : k < (byteL l).length), w.cell? ((⟨g, off, none⟩ : Addr).add k) = some (.int .u8 ((byteL l)[k].toNat : Int)) := fun k hk => by
  have hadd : (⟨g, off, none⟩ : Addr).add k = ⟨g, off + k, none⟩ := by unfold Addr.add; split <;> simp_all
  rw [hadd]
  exact h.here k _ (byteL_at l k hk)
/-- an end's bytes -/
def endL (a p : Int) : List Int := [a / 16777216, a / 65536, a % 65536 / 256, a % 65536, p % 65536 / 256, p % 65536]
def pl (A B : List Int) : Nat → List Int
  | 0 => []
  | 1 => A
  | _ => A ++ B
set_option maxRecDepth 100000 in
set_option maxHeartbeats 2000000 in
theorem Pair_any (k0 k1 fa fp ta tp : Int) (w : World) (h0 : W64 k0) (h1 : W64 k1) (hfa : 0 ≤ fa) (hfa' : fa ≤ 4294967295) (hta : 0 ≤ ta) (hta' : ta ≤ 4294967295)
    (hfp : -9223372036854775808 ≤ fp) (hfp' : fp ≤ 9223372036854775807) (htp : -9223372036854775808 ≤ tp) (htp' : tp ≤ 9223372036854775807) :
    Calls Try.prog 46 #[.int .u64 k0, .int .u64 k1, .agg #[.int .u32 fa, .int .i64 fp], .agg #[.int .u32 ta, .int .i64 tp]] w fun e w' =>
      e = .returned (.int .u64 (sipV k0 k1 (byteS (endL fa fp ++ endL ta tp)))) ∧ Below w.heap.size w w' := by
  have x0 : ∀ W : World, (Instr.index 118 (.agg #[.int .u32 fa, .int .i64 fp, .int .u32 ta, .int .i64 tp]) (.int .i64 0)).run Try.prog W = .ok (.agg #[.int .u32 fa, .int .i64 fp]) W := fun _ => by kernel_rfl
  have x1 : ∀ W : World, (Instr.index 118 (.agg #[.int .u32 fa, .int .i64 fp, .int .u32 ta, .int .i64 tp]) (.int .i64 1)).run Try.prog W = .ok (.agg #[.int .u32 ta, .int .i64 tp]) W := fun _ => by kernel_rfl
  go_enter Try.func46, Try.ntmps46
  go_upto_region 3 with (fail)
  refine wp_gen (fun W => Below w.heap.size w W) (by repeat' (first | with_reducible exact Below.refl _ _ | with_reducible assumption | with_reducible refine Below.drew ?_ | with_reducible refine below_dn ?_ _ | with_reducible refine below_ca ?_ _ | with_reducible refine Below.setCell ?_ ?_ _ | (refine below_c ?_ (by with_reducible assumption)) | (simp <;> omega) | omega)) ?_
  intro W0 hB0
  go_loopw [15, 9] (fun i v wr => ∃ k : Nat, k ≤ 2 ∧ i = .int .i64 k ∧ OwnB wr w.heap.size v (pl (endL fa fp) (endL ta tp) k) ∧ Below w.heap.size w wr) (fun i _ _ => 2 - (intOf i).toNat)
  case atStart => exact ⟨0, by omega, rfl, Win.nil _ _ _, hB0⟩
  case round =>
    obtain ⟨k, hk, rfl, hVk, hBk⟩ := hrel
    obtain ⟨Av, cv, rfl⟩ := hVk.form
    by_cases hlt : k < 2
    · obtain rfl | rfl : k = 0 ∨ k = 1 := by omega
      · go_upto_region 5 with (fail)
        refine wp_gen (fun W => Below wr.heap.size wr W ∧ At W wr.heap.size 32 [.int .u32 fa, .int .i64 fp]) ⟨by repeat' (first | with_reducible exact Below.refl _ _ | with_reducible assumption | with_reducible refine Below.drew ?_ | with_reducible refine below_dn ?_ _ | with_reducible refine below_ca ?_ _ | with_reducible refine Below.setCell ?_ ?_ _ | (refine below_c ?_ (by with_reducible assumption)) | (simp <;> omega) | omega), ?_⟩ ?_
        · apply At.conv
          case h => repeat' (first | with_reducible exact At.new_ _ _ _ | with_reducible apply At.set_ | with_reducible apply At.drew | with_reducible apply At.drewN | with_reducible apply At.alloc)
          case e => rfl
        rintro W1 ⟨hB1, hE1⟩
        have c0 := hE1.cell 0
        have c1 := hE1.cell 1
        simp at c0 c1
        have hV1 := hVk.kept hB1
        have hB1' := below_c hBk hB1
        go_wp2_with fail
        refine (Append32_any w.heap.size _ _ _ _ hV1 (by omega) (by omega) (by simp [pl, endL]) hB1'.size).mono ?_
        rintro e w2 ⟨v2, rfl, hV2, hB2, hO2, hat2⟩
        have hB2' : Below w.heap.size w w2 := hB1'.trans hB2
        have c2 : w2.cell? ⟨wr.heap.size, 1, none⟩ = some (.int .i64 fp) := hO2.cell c1 (by intro e; have := (hVk.lt _ e.symm).2; simp at this)
        go_wp2_with fail
        refine (Append16_any w.heap.size _ _ _ _ hV2 (by rw [IntKind.wrap_u16]; omega) (by rw [IntKind.wrap_u16]; omega) (by simp [pl, endL]) hB2'.size).mono ?_
        rintro e w3 ⟨v3, rfl, hV3, hO3, hat3⟩
        have hB3' : Below w.heap.size w w3 := hB2'.grown hO3 hB2'.size (fun j hj => (hV2.lt j hj).1)
        rw [IntKind.wrap_u16] at hV3
        go_wp2_with fail
        go_roundw
        case rel => exact ⟨1, by omega, by go_num, by simpa [pl, endL] using hV3, hB3'⟩
        case measure => simp [intOf]
      · go_upto_region 5 with (fail)
        refine wp_gen (fun W => Below wr.heap.size wr W ∧ At W wr.heap.size 32 [.int .u32 ta, .int .i64 tp]) ⟨by repeat' (first | with_reducible exact Below.refl _ _ | with_reducible assumption | with_reducible refine Below.drew ?_ | with_reducible refine below_dn ?_ _ | with_reducible refine below_ca ?_ _ | with_reducible refine Below.setCell ?_ ?_ _ | (refine below_c ?_ (by with_reducible assumption)) | (simp <;> omega) | omega), ?_⟩ ?_
        · apply At.conv
          case h => repeat' (first | with_reducible exact At.new_ _ _ _ | with_reducible apply At.set_ | with_reducible apply At.drew | with_reducible apply At.drewN | with_reducible apply At.alloc)
          case e => rfl
        rintro W1 ⟨hB1, hE1⟩
        have c0 := hE1.cell 0
        have c1 := hE1.cell 1
        simp at c0 c1
        have hV1 := hVk.kept hB1
        have hB1' := below_c hBk hB1
        go_wp2_with fail
        refine (Append32_any w.heap.size _ _ _ _ hV1 (by omega) (by omega) (by simp [pl, endL]) hB1'.size).mono ?_
        rintro e w2 ⟨v2, rfl, hV2, hB2, hO2, hat2⟩
        have hB2' : Below w.heap.size w w2 := hB1'.trans hB2
        have c2 : w2.cell? ⟨wr.heap.size, 1, none⟩ = some (.int .i64 tp) := hO2.cell c1 (by intro e; have := (hVk.lt _ e.symm).2; simp at this)
        go_wp2_with fail
        refine (Append16_any w.heap.size _ _ _ _ hV2 (by rw [IntKind.wrap_u16]; omega) (by rw [IntKind.wrap_u16]; omega) (by simp [pl, endL]) hB2'.size).mono ?_
        rintro e w3 ⟨v3, rfl, hV3, hO3, hat3⟩
        have hB3' : Below w.heap.size w w3 := hB2'.grown hO3 hB2'.size (fun j hj => (hV2.lt j hj).1)
        rw [IntKind.wrap_u16] at hV3
        go_wp2_with fail
        go_roundw
        case rel => exact ⟨2, by omega, by go_num, by simpa [pl, endL] using hV3, hB3'⟩
        case measure => simp [intOf]
    · obtain rfl : k = 2 := by omega
      have hV2 : OwnB wr w.heap.size (.slice Av (endL fa fp ++ endL ta tp).length cv) (endL fa fp ++ endL ta tp) := hVk
      obtain ⟨g, off, cap, hv, hW⟩ := hV2.pos (by simp [endL])
      cases hv
      have hback := run_convert_bytes_back (P := Try.prog) wr 87 9 5 ⟨g, off, none⟩ cv (byteL (endL fa fp ++ endL ta tp)) Try.underlying87 Try.underlying5 Try.underlying9 (own_back hW)
      rw [byteL_len, show (⟨(byteL (endL fa fp ++ endL ta tp)).toArray⟩ : ByteArray) = byteS (endL fa fp ++ endL ta tp) from rfl] at hback
      have hpl : pl (endL fa fp) (endL ta tp) 2 = endL fa fp ++ endL ta tp := rfl
      rw [hpl] at *
      have hsz : (byteS (endL fa fp ++ endL ta tp)).size ≤ 140737488355328 := by
        show (byteL (endL fa fp ++ endL ta tp)).toArray.size ≤ _
        rw [List.size_toArray, byteL_len]; simp [endL]
      generalize hL : endL fa fp ++ endL ta tp = L at hback hsz hVk hV2 hW hpl
      have HL := Lib.hid hL
      clear hL
      generalize hSd : byteS L = S at hback hsz
      have HS := Lib.hid hSd
      clear hSd
      go_wp2_with fail
      have hsip := Sip_any k0 k1 S wr h0 h1 hsz
      refine hsip.mono ?_
      rintro e w5 ⟨rfl, hB5⟩
      go_wp2_with fail
      go_ret
      exact ⟨ret_int (by rw [HL.out, HS.out]), below_c hBk hB5⟩
end Go.Proofs.Ytgdfjkdcdfmifaa
