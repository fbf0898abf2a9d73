/- addr.Print, as the library's contracts give it. -/
import Derived.Test.YtamckbjckgpniaaDoorShelf
import Derived.Test.YtamckbjckgpniaaDoorAdL
import Derived.Test.YtamckbjckgpniaaDoorRow
import Derived.Test.YtamckbjckgpniaaDoorSt
import Derived.Test.YtamckbjckgpniaaDoorAddrC
import Derived.Lib.Join
namespace Go.Proofs.YtamckbjckgpniaaDoor
open Go.RowKit Go.Lib Go.Sort
set_option linter.unusedVariables false
set_option linter.unusedSimpArgs false

theorem var_kept {P : Program} {w w' : World} {n : String} {cs : Array Value} (h : w.var? P n = some cs) (hb : Below w.heap.size w w') : w'.var? P n = some cs := by
  unfold World.var? at h ⊢
  cases hg : P.globalNamed n with
  | none => rw [hg] at h; cases h
  | some g =>
    rw [hg] at h
    simp only [Option.bind_some] at h ⊢
    have hlt : g < w.heap.size := by
      cases ho : w.heap[g]? with
      | none => rw [ho] at h; cases h
      | some o => exact (Array.getElem?_eq_some_iff.1 ho).1
    rw [hb.block g hlt]
    exact h
/-- what the library's variables hold -/
structure Ad (w : World) : Prop where
  tab : Lib.TabIs Tryd.prog w "internal/strconv.uint64pow10" .u64 Lib.pow10Tab
  syn : ∃ tp p, w.var? Tryd.prog "strconv.ErrSyntax" = some #[.iface tp p]
  rng : ∃ tp p, w.var? Tryd.prog "strconv.ErrRange" = some #[.iface tp p]
theorem Ad.kept {w w' : World} (h : Ad w) (hb : Below w.heap.size w w') : Ad w' := by
  obtain ⟨t1, p1, h1⟩ := h.syn
  obtain ⟨t2, p2, h2⟩ := h.rng
  exact ⟨var_kept h.tab hb, ⟨t1, p1, var_kept h1 hb⟩, ⟨t2, p2, var_kept h2 hb⟩⟩
theorem below_grow (w : World) (k : Nat) (os : Array Obj) : Below w.heap.size w (grow (w.drewN k) os) :=
  ⟨rfl, rfl, rfl, by show w.heap.size ≤ (w.heap ++ os).size; rw [Array.size_append]; omega, fun j hj => by
    show (w.heap ++ os)[j]? = w.heap[j]?
    rw [Array.getElem?_append_left hj]⟩
theorem itoa_any (n : Int) (w : World) (h0 : -9223372036854775808 ≤ n) (h1 : n ≤ 9223372036854775807) (hA : Ad w) :
    Calls Tryd.prog 11 #[.int .i64 n] w fun e w' => e = .returned (.string ⟨(Lib.itoa n).toArray⟩) ∧ Below w.heap.size w w' :=
  (Tryd.strconv_Itoa n h0 h1 w hA.tab).mono (by rintro e w' ⟨rfl, k, os, rfl⟩; exact ⟨rfl, below_grow w k os⟩)
def fS (s : ByteArray) : List Value := [.string s]
theorem elem_string : (Tryd.prog.info? 9).map (fun i => (i.size, i.bytes, i.zero.map (·.cells.size))) = some (1, 16, some 1) := by kernel_rfl
theorem zv_string : ∀ W, (zeroValue 9).run Tryd.prog W = .ok (.string ⟨#[]⟩) W := fun _ => by kernel_rfl
theorem and_255 (x : Int) (h : 0 ≤ x) (h' : x ≤ 4294967295) : bits .and .u32 x 255 = x % 256 := by
  obtain ⟨A, rfl⟩ := Int.eq_ofNat_of_zero_le h
  rw [show (255 : Int) = ((255 : Nat) : Int) from rfl, u32_and_nat A 255 (by omega) (by omega), show (255 : Nat) = 2 ^ 8 - 1 from rfl, Nat.and_two_pow_sub_one_eq_mod]
  omega
def pS (a : Int) : Nat → ByteArray
  | 0 => ⟨(itoa (a / 16777216 % 256)).toArray⟩
  | 1 => ⟨(itoa (a / 65536 % 256)).toArray⟩
  | 2 => ⟨(itoa (a / 256 % 256)).toArray⟩
  | _ => ⟨(itoa (a % 256)).toArray⟩
def pL (a : Int) (n : Nat) : List ByteArray := (List.range n).map (pS a)
theorem flat_fS (xs : List ByteArray) : xs.flatMap fS = xs.map .string := by
  induction xs with
  | nil => rfl
  | cons x r ih => rw [List.flatMap_cons, ih]; rfl
theorem join_any {W : World} {A : Option Addr} {cp : Nat} {xs : List ByteArray} (h : Win W 0 1 (.slice A xs.length cp) xs.length (xs.flatMap fS)) (h0 : 0 < xs.length) (hN : xs.length ≤ 1000) (sep : ByteArray) (hl : (Lib.join (xs.map (·.data.toList)) sep.data.toList).length ≤ 140737488355328) :
    Calls Tryd.prog 12 #[.slice A xs.length cp, .string sep] W fun e w' => e = .returned (.string ⟨(Lib.join (xs.map (·.data.toList)) sep.data.toList).toArray⟩) ∧ Below W.heap.size W w' := by
  obtain ⟨g, off, cap, hv, hw⟩ := h.pos h0
  injection hv with hv1 _ hv2
  subst hv1 hv2
  refine Tryd.strings_Join g off cp xs sep W (fun j x hx => ?_) hw.lt (by omega) hw.le hl
  refine hw.here j _ ?_
  rw [flat_fS, List.getElem?_map, hx]
  rfl
theorem join_prt (a : Int) (ha : 0 ≤ a ∧ a ≤ 4294967295) : Lib.join ((pL a 4).map (·.data.toList)) ((⟨#[46]⟩ : ByteArray).data.toList) = prt a := by
  have e : (pL a 4).map (·.data.toList) = [itoa (a / 16777216 % 256), itoa (a / 65536 % 256), itoa (a / 256 % 256), itoa (a % 256)] := by
    unfold pL
    simp [List.range, List.range.loop, pS]
  have hi : ∀ n : Int, 0 ≤ n → itoa n = dd n := fun n hn => by unfold itoa dd; rw [if_neg (by omega)]
  rw [e, hi _ (by omega), hi _ (by omega), hi _ (by omega), hi _ (by omega), join_cons]
  unfold prt joinTail
  simp
theorem dd_len (n : Int) (h : 0 ≤ n ∧ n ≤ 255) : (dd n).length ≤ 3 := by
  unfold dd
  have h1 : n.toNat ≤ 255 := by omega
  rw [decDigits]
  split
  · simp
  · rw [List.length_append, decDigits]
    split
    · simp
    · rw [List.length_append, decDigits, dif_pos (by omega)]
      simp
theorem prt_len (a : Int) : (prt a).length ≤ 15 := by
  have h1 := dd_len (a / 16777216 % 256) (by omega)
  have h2 := dd_len (a / 65536 % 256) (by omega)
  have h3 := dd_len (a / 256 % 256) (by omega)
  have h4 := dd_len (a % 256) (by omega)
  unfold prt
  simp only [List.length_append, List.length_cons]
  omega
set_option maxRecDepth 100000 in
set_option maxHeartbeats 2000000 in
theorem Print_any (a : Int) (w : World) (ha : 0 ≤ a ∧ a ≤ 4294967295) (hA : Ad w) :
    Calls Tryd.prog 5 #[.int .u32 a] w fun e w' => e = .returned (.string ⟨(prt a).toArray⟩) ∧ Below w.heap.size w w' := by
  have HI := Lib.hid (fun (n : Int) (W : World) (h0 : -9223372036854775808 ≤ n) (h1 : n ≤ 9223372036854775807) (hb : Below w.heap.size w W) => itoa_any n W h0 h1 (hA.kept hb))
  clear hA
  have hM := (Mem.nil w).rowNil 1 fS
  simp only [List.nil_append] at hM
  go_enter Tryd.func5, Tryd.ntmps5
  (go_wp2_with fail)
  go_loopg [5, 3] 4 (fun gh i v wr => ∃ (n : Nat) (k : Int), gh = 4 - n ∧ n ≤ 4 ∧ k = n ∧ i = .int .i64 k ∧ Mem w wr [rowR 1 fS v (pL a n)])
  case atStart => exact ⟨0, 0, by omega, by omega, rfl, rfl, hM⟩
  case round =>
    clear hM
    obtain ⟨n, k, hgh, hn, hk, rfl, hM⟩ := hrel
    have : n = 0 ∨ n = 1 ∨ n = 2 ∨ n = 3 ∨ n = 4 := by omega
    obtain ⟨A, cp, rfl⟩ := (hM.row (f := fS) 0 rfl).form
    rcases this with rfl | rfl | rfl | rfl | rfl
    · obtain rfl : k = 0 := hk
      have t1 : bits .and .u32 (a / 16777216) 255 = a / 16777216 % 256 := and_255 _ (by omega) (by omega)
      have t2 : wrap64 (a / 16777216 % 256) = a / 16777216 % 256 := IntWalk.wrap64_in _ (by omega)
      go_upto_region 6 with (first | go_skip | (go_at_call 11; refine (HI.out _ _ (by omega) (by omega) hM.b).mono ?_; rintro e W ⟨rfl, hb⟩; replace hM := hM.kept hb; clear hb) | ((with_reducible refine at_bslice_ ?_); refine wpList_bslice_mem rfl _ 9 _ rfl Tryd.underlying44 _ zv_string [.string ⟨(itoa (a / 16777216 % 256)).toArray⟩] rfl rfl rfl (Nat.le_of_ble_eq_true rfl) (Nat.le_of_ble_eq_true rfl) hM ?_; clear hM; intro gb W hM; simp only [List.cons_append, List.nil_append] at hM) | ((with_reducible refine at_append_ ?_); refine wpList_append_row (f := fS) rfl _ _ _ 9 rfl Tryd.underlying44 16 elem_string (by decide) 0 1 _ _ _ (⟨(itoa (a / 16777216 % 256)).toArray⟩ : ByteArray) hM rfl rfl rfl _ rfl rfl (by simp [fS, Value.oneCell']) (by simp [pL]) (by simp [pL, maxLen]) ?_; clear hM; intro vN W hM; simp only [List.set_cons_succ, List.set_cons_zero] at hM))
      (go_wp2_with fail)
      go_roundg 3
      case measure => omega
      case rel => exact ⟨1, 1, rfl, by omega, rfl, rfl, hM.take_ 1⟩
    · obtain rfl : k = 1 := hk
      have t1 : bits .and .u32 (a / 65536) 255 = a / 65536 % 256 := and_255 _ (by omega) (by omega)
      have t2 : wrap64 (a / 65536 % 256) = a / 65536 % 256 := IntWalk.wrap64_in _ (by omega)
      go_upto_region 6 with (first | go_skip | (go_at_call 11; refine (HI.out _ _ (by omega) (by omega) hM.b).mono ?_; rintro e W ⟨rfl, hb⟩; replace hM := hM.kept hb; clear hb) | ((with_reducible refine at_bslice_ ?_); refine wpList_bslice_mem rfl _ 9 _ rfl Tryd.underlying44 _ zv_string [.string ⟨(itoa (a / 65536 % 256)).toArray⟩] rfl rfl rfl (Nat.le_of_ble_eq_true rfl) (Nat.le_of_ble_eq_true rfl) hM ?_; clear hM; intro gb W hM; simp only [List.cons_append, List.nil_append] at hM) | ((with_reducible refine at_append_ ?_); refine wpList_append_row (f := fS) rfl _ _ _ 9 rfl Tryd.underlying44 16 elem_string (by decide) 0 1 _ _ _ (⟨(itoa (a / 65536 % 256)).toArray⟩ : ByteArray) hM rfl rfl rfl _ rfl rfl (by simp [fS, Value.oneCell']) (by simp [pL]) (by simp [pL, maxLen]) ?_; clear hM; intro vN W hM; simp only [List.set_cons_succ, List.set_cons_zero] at hM))
      (go_wp2_with fail)
      go_roundg 2
      case measure => omega
      case rel => exact ⟨2, 2, rfl, by omega, rfl, rfl, hM.take_ 1⟩
    · obtain rfl : k = 2 := hk
      have t1 : bits .and .u32 (a / 256) 255 = a / 256 % 256 := and_255 _ (by omega) (by omega)
      have t2 : wrap64 (a / 256 % 256) = a / 256 % 256 := IntWalk.wrap64_in _ (by omega)
      go_upto_region 6 with (first | go_skip | (go_at_call 11; refine (HI.out _ _ (by omega) (by omega) hM.b).mono ?_; rintro e W ⟨rfl, hb⟩; replace hM := hM.kept hb; clear hb) | ((with_reducible refine at_bslice_ ?_); refine wpList_bslice_mem rfl _ 9 _ rfl Tryd.underlying44 _ zv_string [.string ⟨(itoa (a / 256 % 256)).toArray⟩] rfl rfl rfl (Nat.le_of_ble_eq_true rfl) (Nat.le_of_ble_eq_true rfl) hM ?_; clear hM; intro gb W hM; simp only [List.cons_append, List.nil_append] at hM) | ((with_reducible refine at_append_ ?_); refine wpList_append_row (f := fS) rfl _ _ _ 9 rfl Tryd.underlying44 16 elem_string (by decide) 0 1 _ _ _ (⟨(itoa (a / 256 % 256)).toArray⟩ : ByteArray) hM rfl rfl rfl _ rfl rfl (by simp [fS, Value.oneCell']) (by simp [pL]) (by simp [pL, maxLen]) ?_; clear hM; intro vN W hM; simp only [List.set_cons_succ, List.set_cons_zero] at hM))
      (go_wp2_with fail)
      go_roundg 1
      case measure => omega
      case rel => exact ⟨3, 3, rfl, by omega, rfl, rfl, hM.take_ 1⟩
    · obtain rfl : k = 3 := hk
      have t1 : bits .and .u32 (a) 255 = a % 256 := and_255 _ (by omega) (by omega)
      have t2 : wrap64 (a % 256) = a % 256 := IntWalk.wrap64_in _ (by omega)
      go_upto_region 6 with (first | go_skip | (go_at_call 11; refine (HI.out _ _ (by omega) (by omega) hM.b).mono ?_; rintro e W ⟨rfl, hb⟩; replace hM := hM.kept hb; clear hb) | ((with_reducible refine at_bslice_ ?_); refine wpList_bslice_mem rfl _ 9 _ rfl Tryd.underlying44 _ zv_string [.string ⟨(itoa (a % 256)).toArray⟩] rfl rfl rfl (Nat.le_of_ble_eq_true rfl) (Nat.le_of_ble_eq_true rfl) hM ?_; clear hM; intro gb W hM; simp only [List.cons_append, List.nil_append] at hM) | ((with_reducible refine at_append_ ?_); refine wpList_append_row (f := fS) rfl _ _ _ 9 rfl Tryd.underlying44 16 elem_string (by decide) 0 1 _ _ _ (⟨(itoa (a % 256)).toArray⟩ : ByteArray) hM rfl rfl rfl _ rfl rfl (by simp [fS, Value.oneCell']) (by simp [pL]) (by simp [pL, maxLen]) ?_; clear hM; intro vN W hM; simp only [List.set_cons_succ, List.set_cons_zero] at hM))
      (go_wp2_with fail)
      go_roundg 0
      case measure => omega
      case rel => exact ⟨4, 4, rfl, by omega, rfl, rfl, hM.take_ 1⟩
    · obtain rfl : k = 4 := hk
      have hJ := Lib.hid (join_any (hM.row (f := fS) 0 rfl) (by simp [pL]) (by simp [pL]) ⟨#[46]⟩ (by rw [join_prt a ha]; have := prt_len a; omega))
      rw [join_prt a ha] at hJ
      go_wp2_with (first | go_skip | (go_at_call 12; refine hJ.out.mono ?_; rintro e W ⟨rfl, hb⟩; replace hM := hM.kept hb; clear hb))
      refine bodyPost_ret (v := .string ⟨(prt a).toArray⟩) (by simp [results, Tryd.results5, go_sem]) rfl ?_
      exact ⟨rfl, hM.b⟩
end Go.Proofs.YtamckbjckgpniaaDoor
