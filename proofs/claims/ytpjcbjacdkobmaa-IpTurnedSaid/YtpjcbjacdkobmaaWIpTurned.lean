/- The walk of IpTurned: it returns true. -/
import Derived.Test.YtpjcbjacdkobmaaIpL
import Derived.Test.YtpjcbjacdkobmaaQMix
namespace Go.Proofs.Ytpjcbjacdkobmaa
open Go.RowKit
set_option linter.unusedVariables false

set_option maxRecDepth 100000 in
set_option maxHeartbeats 4000000 in
theorem ipTurn_no (p : Pk) (a b : Int) (w : World) (ok : PkOk p) (hc : ipChk p ≠ 0) :
    Calls Try.prog 6 #[.agg (pkC p).toArray, .int .i64 a, .int .i64 b] w fun e w' => e = .returned (.bool true) ∧ Below w.heap.size w w' := by
  have HWR := Lib.hid (fun W => ipWrite_no p W ok hc)
  have HRD := Lib.hid (fun W => ipRead_short ⟨#[]⟩ W (by show (0 : Nat) < 20; omega))
  have hne : ((ipChk p : Int) != 0) = true := by simpa using hc
  have hM := Mem.nil w
  go_enter Try.func6, Try.ntmps6
  go_wp2_with (first
    | (go_at_call 17; go_must (refine (HWR.out _).mono ?_; rintro e W ⟨rfl, hb⟩; replace hM := hM.kept hb; clear hb))
    | (go_at_call 18; go_must (refine (HRD.out _).mono ?_; rintro e W ⟨rfl, hb⟩; replace hM := hM.kept hb; clear hb))
    | (refine wpList_box_mem rfl _ _ rfl _ rfl hM ?_; clear hM; intro g W hM; first | (simp only [List.nil_append] at hM) | (simp only [List.cons_append, List.nil_append] at hM))
    | (refine wpList_alloc_mem rfl 38 rfl _ zv_Packet _ rfl hM ?_; clear hM; intro g W hM; first | (simp only [List.nil_append] at hM) | (simp only [List.cons_append, List.nil_append] at hM))
    | (refine wpList_load_mem rfl 38 _ rfl 0 _ _ _ hM rfl rfl _ Try.underlying38 rfl sz_Packet ?_)
    | (refine wpList_loadg_mem (by go_simp) 38 _ rfl 0 _ _ _ hM rfl rfl _ Try.underlying38 rfl sz_Packet ?_)
    | (refine wpList_store_mem rfl 38 _ _ rfl 0 _ _ _ _ hM rfl rfl rfl rfl sz_Packet rfl ?_; clear hM; intro W hM; simp only [List.set_cons_zero] at hM)
    | (refine wpList_load_mem rfl 38 _ rfl 1 _ _ _ hM rfl rfl _ Try.underlying38 rfl sz_Packet ?_)
    | (refine wpList_loadg_mem (by go_simp) 38 _ rfl 1 _ _ _ hM rfl rfl _ Try.underlying38 rfl sz_Packet ?_)
    | (refine wpList_store_mem rfl 38 _ _ rfl 1 _ _ _ _ hM rfl rfl rfl rfl sz_Packet rfl ?_; clear hM; intro W hM; simp only [List.set_cons_succ, List.set_cons_zero] at hM))
  go_ret
  exact ⟨rfl, hM.b⟩
set_option maxRecDepth 100000 in
set_option maxHeartbeats 4000000 in
theorem ipTurn_ok (p : Pk) (a b : Int) (w : World) (s T : ByteArray) (E : Int) (hs : 20 ≤ s.size) (hs2 : s.size ≤ 1000000) (hT2 : T.size ≤ 1000000) (hE : E ≠ 0)
    (hW : ∀ W, Calls Try.prog 17 #[.agg (pkC p).toArray] W fun e w' => e = .returned (.tuple #[.string s, .int .i64 0]) ∧ Below W.heap.size W w')
    (hT : ∀ W, Calls Try.prog 15 #[.string (s.extract 0 20), .int .i64 a, .int .i64 b] W fun e w' => e = .returned (.string T) ∧ Below W.heap.size W w')
    (hR : ∀ W, Calls Try.prog 18 #[.string (T ++ s.extract 20 s.size)] W fun e w' => e = .returned (.tuple #[.agg (pkC zeroPk).toArray, .int .i64 E]) ∧ Below W.heap.size W w') :
    Calls Try.prog 6 #[.agg (pkC p).toArray, .int .i64 a, .int .i64 b] w fun e w' => e = .returned (.bool true) ∧ Below w.heap.size w w' := by
  have HWR := Lib.hid hW
  have HTR := Lib.hid hT
  have HRR := Lib.hid hR
  have HRD := Lib.hid (fun W => ipRead_short ⟨#[]⟩ W (by show (0 : Nat) < 20; omega))
  have hne : ((E : Int) != 0) = true := by simpa using hE
  have hge : ¬ (s.size : Int) < 20 := by omega
  have hM := Mem.nil w
  clear hW hT hR
  go_enter Try.func6, Try.ntmps6
  go_upto_region 9 with         (first
          | (go_at_call 17; go_must (refine (HWR.out _).mono ?_; rintro e W ⟨rfl, hb⟩; replace hM := hM.kept hb; clear hb))
          | (go_at_call 18; go_must (refine (HRD.out _).mono ?_; rintro e W ⟨rfl, hb⟩; replace hM := hM.kept hb; clear hb))
          | (refine wpList_box_mem rfl _ _ rfl _ rfl hM ?_; clear hM; intro g W hM; first | (simp only [List.nil_append] at hM) | (simp only [List.cons_append, List.nil_append] at hM))
          | (refine wpList_alloc_mem rfl 38 rfl _ zv_Packet _ rfl hM ?_; clear hM; intro g W hM; first | (simp only [List.nil_append] at hM) | (simp only [List.cons_append, List.nil_append] at hM))
          | (refine wpList_load_mem rfl 38 _ rfl 0 _ _ _ hM rfl rfl _ Try.underlying38 rfl sz_Packet ?_)
          | (refine wpList_loadg_mem (by go_simp) 38 _ rfl 0 _ _ _ hM rfl rfl _ Try.underlying38 rfl sz_Packet ?_)
          | (refine wpList_store_mem rfl 38 _ _ rfl 0 _ _ _ _ hM rfl rfl rfl rfl sz_Packet rfl ?_; clear hM; intro W hM; simp only [List.set_cons_zero] at hM)
          | (refine wpList_load_mem rfl 38 _ rfl 1 _ _ _ hM rfl rfl _ Try.underlying38 rfl sz_Packet ?_)
          | (refine wpList_loadg_mem (by go_simp) 38 _ rfl 1 _ _ _ hM rfl rfl _ Try.underlying38 rfl sz_Packet ?_)
          | (refine wpList_store_mem rfl 38 _ _ rfl 1 _ _ _ _ hM rfl rfl rfl rfl sz_Packet rfl ?_; clear hM; intro W hM; simp only [List.set_cons_succ, List.set_cons_zero] at hM))
  clear HRD HWR hne
  refine wp_region_mix0 12 15 [.al 38 zPacket, .st 12 38 (pkC zeroPk), .q (.int .i64 E)] _ hM (by kernel_rfl) (by kernel_rfl) (by kernel_rfl) (by kernel_rfl) rfl ?_
  apply Exists.intro
  refine ⟨?hq, ?hr⟩
  case hq =>
    intro w1 hM1 hlc
    have hadd := fun W => run_string_add_sum (P := Try.prog) (w := W) T (s.extract 20 s.size) (by rw [ByteArray.size_extract]; omega)
    simp only [List.take_succ_cons, List.take_zero]
    repeat (go_big_quiet_step (first | (go_at_call 15; exact later_call (HTR.out _)) | (go_at_call 18; exact later_call (HRR.out _))))
    exact wpQuiet_nil rfl
  simp only [List.drop_succ_cons, List.drop_zero]
  refine ⟨rfl, rfl, zv_Packet, rfl, fun x => ?_⟩
  refine ⟨_, _, _, _, rfl, rfl, rfl, rfl, rfl, rfl, rfl, sz_Packet, rfl, ?_⟩
  refine ⟨⟨_, .inl rfl, rfl, rfl⟩, ?_⟩
  intro W hF
  have hM : Mem w W [atR _ _ _, atR _ _ _, atR _ _ _] := Mem.ofLf hF [15, 16, 12] (by decide) rfl
  have hne : ((E : Int) != 0) = true := by simpa using hE
  clear hF
  simp only [Act.put, List.setIfInBounds_toArray, List.set_cons_zero, List.set_cons_succ]
  simp only [pkC, zeroPk] at hM ⊢
  go_wp2_with (first
    | (refine wpList_box_mem rfl _ _ rfl _ rfl hM ?_; clear hM; intro g W hM; first | (simp only [List.nil_append] at hM) | (simp only [List.cons_append, List.nil_append] at hM))
    | (refine wpList_alloc_mem rfl 38 rfl _ zv_Packet _ rfl hM ?_; clear hM; intro g W hM; first | (simp only [List.nil_append] at hM) | (simp only [List.cons_append, List.nil_append] at hM))
    | (refine wpList_load_mem rfl 38 _ rfl 0 _ _ _ hM rfl rfl _ Try.underlying38 rfl sz_Packet ?_)
    | (refine wpList_loadg_mem (by go_simp) 38 _ rfl 0 _ _ _ hM rfl rfl _ Try.underlying38 rfl sz_Packet ?_)
    | (refine wpList_store_mem rfl 38 _ _ rfl 0 _ _ _ _ hM rfl rfl rfl rfl sz_Packet rfl ?_; clear hM; intro W hM; simp only [List.set_cons_zero] at hM)
    | (refine wpList_load_mem rfl 38 _ rfl 1 _ _ _ hM rfl rfl _ Try.underlying38 rfl sz_Packet ?_)
    | (refine wpList_loadg_mem (by go_simp) 38 _ rfl 1 _ _ _ hM rfl rfl _ Try.underlying38 rfl sz_Packet ?_)
    | (refine wpList_store_mem rfl 38 _ _ rfl 1 _ _ _ _ hM rfl rfl rfl rfl sz_Packet rfl ?_; clear hM; intro W hM; simp only [List.set_cons_succ, List.set_cons_zero] at hM)
    | (refine wpList_load_mem rfl 38 _ rfl 2 _ _ _ hM rfl rfl _ Try.underlying38 rfl sz_Packet ?_)
    | (refine wpList_loadg_mem (by go_simp) 38 _ rfl 2 _ _ _ hM rfl rfl _ Try.underlying38 rfl sz_Packet ?_)
    | (refine wpList_store_mem rfl 38 _ _ rfl 2 _ _ _ _ hM rfl rfl rfl rfl sz_Packet rfl ?_; clear hM; intro W hM; simp only [List.set_cons_succ, List.set_cons_zero] at hM))
  go_ret
  exact ⟨rfl, hM.b⟩
theorem ipS_size (p : Pk) : (ipS p).size = 20 + p.b.size := by
  show (ipS p).data.size = _
  rw [← Array.length_toList, ipS_list, List.length_append, ipHead_len, Array.length_toList]; rfl
theorem ipS_first (p : Pk) : ((ipS p).extract 0 20).data.toList = byteL (ipHead p) := by
  have h := ipHead_len p
  rw [ByteArray.data_extract, Array.toList_extract, ipS_list]
  simp [h]
theorem ipS_rest (p : Pk) : ((ipS p).extract 20 (ipS p).size).data.toList = p.b.data.toList := by
  have h := ipHead_len p
  rw [ByteArray.data_extract, Array.toList_extract, ipS_list, ipS_size]
  have : (p.b.data.toList).length = p.b.size := by simp
  simp [h]
  exact List.take_of_length_le (by omega)
theorem w_IpTurned (a0a : Int) (a0b : Int) (a0c : Int) (a0d : Int) (a0e : Int) (b0f : Bool) (b0g : Bool) (a0i : Int) (s0j : ByteArray) (a1 : Int) (a2 : Int) (w : World) (ha0a : 0 ≤ a0a) (ha0a' : a0a ≤ 4294967295) (ha0b : 0 ≤ a0b) (ha0b' : a0b ≤ 4294967295) (ha0c : -9223372036854775808 ≤ a0c) (ha0c' : a0c ≤ 9223372036854775807) (ha0d : -9223372036854775808 ≤ a0d) (ha0d' : a0d ≤ 9223372036854775807) (ha0e : -9223372036854775808 ≤ a0e) (ha0e' : a0e ≤ 9223372036854775807) (ha0i : -9223372036854775808 ≤ a0i) (ha0i' : a0i ≤ 9223372036854775807) (hs0j : s0j.size ≤ 9223372036854775807) (ha1 : -9223372036854775808 ≤ a1) (ha1' : a1 ≤ 9223372036854775807) (ha2 : -9223372036854775808 ≤ a2) (ha2' : a2 ≤ 9223372036854775807) :
    Calls Try.prog 6 #[.agg #[.int .u32 a0a, .int .u32 a0b, .int .i64 a0c, .int .i64 a0d, .int .i64 a0e, .bool b0f, .bool b0g, .int .i64 a0i, .string s0j], .int .i64 a1, .int .i64 a2] w fun e w' => e = .returned (.bool true) ∧ Below w.heap.size w w' := by
  have ok : PkOk ⟨a0a, a0b, a0c, a0d, a0e, b0f, b0g, a0i, s0j⟩ := ⟨⟨ha0a, ha0a'⟩, ⟨ha0b, ha0b'⟩, ⟨ha0c, ha0c'⟩, ⟨ha0d, ha0d'⟩, ⟨ha0e, ha0e'⟩, ⟨ha0i, ha0i'⟩, hs0j⟩
  show Calls Try.prog 6 #[.agg (pkC ⟨a0a, a0b, a0c, a0d, a0e, b0f, b0g, a0i, s0j⟩).toArray, .int .i64 a1, .int .i64 a2] w fun e w' => e = .returned (.bool true) ∧ Below w.heap.size w w'
  generalize (⟨a0a, a0b, a0c, a0d, a0e, b0f, b0g, a0i, s0j⟩ : Pk) = p at *
  by_cases hc : ipChk p = 0
  · have hb := (ipChk_ok hc).2.2.2.2
    have hz := ipS_size p
    have h20 : ((ipS p).extract 0 20).size = 20 := by rw [ByteArray.size_extract]; omega
    obtain ⟨i, hi⟩ : ∃ i : Nat, a1 % 20 = (i : Int) := ⟨(a1 % 20).toNat, by omega⟩
    obtain ⟨j, hj⟩ : ∃ j : Nat, a2 % 8 = (j : Int) := ⟨(a2 % 8).toNat, by omega⟩
    have hT := fun W => turned_any ((ipS p).extract 0 20) a1 a2 W i j (by omega) (by omega) (by omega) (by rw [h20]; exact hi) hj ha1 ha1' ha2 ha2'
    have hl : (byteL (ipHead p)).length = 20 := ipHead_len p
    have hX : ((⟨(turnL ((ipS p).extract 0 20).data.toList i j).toArray⟩ : ByteArray) ++ (ipS p).extract 20 (ipS p).size).data.toList = turnL (byteL (ipHead p)) i j ++ p.b.data.toList := by
      rw [ByteArray.data_append, Array.toList_append, ipS_rest, ipS_first]
    have hE := ip_turned p _ i j (by omega) (by omega) hX
    have hTs : (⟨(turnL ((ipS p).extract 0 20).data.toList i j).toArray⟩ : ByteArray).size = 20 := by
      show (turnL ((ipS p).extract 0 20).data.toList i j).toArray.size = 20
      rw [List.size_toArray, turnL_len, ipS_first, hl]
    generalize (⟨(turnL ((ipS p).extract 0 20).data.toList i j).toArray⟩ : ByteArray) = T at *
    have hXs : (T ++ (ipS p).extract 20 (ipS p).size).size = 20 + p.b.size := by
      rw [ByteArray.size_append, hTs, ByteArray.size_extract]; omega
    have hR := fun W => ipRead_any (T ++ (ipS p).extract 20 (ipS p).size) W (by omega) (by omega)
    rw [if_neg hE] at hR
    exact ipTurn_ok p a1 a2 w (ipS p) T _ (by omega) (by omega) (by omega) hE (fun W => ipWrite_ok p W ok hc) hT hR
  · exact ipTurn_no p a1 a2 w ok hc
end Go.Proofs.Ytpjcbjacdkobmaa
