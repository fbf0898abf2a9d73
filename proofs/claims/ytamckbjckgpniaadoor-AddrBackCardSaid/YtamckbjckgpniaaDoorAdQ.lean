/- addr: ParseUint, Atoi, Cut, Index, as the library's contracts give them. -/
import Derived.Test.YtamckbjckgpniaaDoorAdP
import Derived.Lib.IndexBytes
import Derived.Lib.SmallJoins
import Derived.Lib.Split
namespace Go.Proofs.YtamckbjckgpniaaDoor
open Go.RowKit Go.Lib
set_option linter.unusedVariables false
set_option linter.unusedSimpArgs false

theorem below_bytes (w : World) (t : TypeId) (s : ByteArray) : Below w.heap.size w (Lib.bytesWorld w t s) := ⟨rfl, rfl, rfl, by rw [Lib.bytesWorld_size]; omega, fun j hj => Lib.bytesWorld_at_old w t s j hj⟩
theorem below_or {w w' : World} {t : TypeId} {s : ByteArray} (h : w' = w ∨ w' = Lib.bytesWorld w t s) : Below w.heap.size w w' := by
  rcases h with rfl | rfl
  · exact Below.refl _ _
  · exact below_bytes _ _ _
/-- ParseUint's answer -/
def puR (T : TypeId) (o : Option Nat) (e : Ending) : Prop :=
  match o with
  | some u => e = .returned (.tuple #[.int .u64 u, .nilIface])
  | none => ∃ (x : Int) (N : Nat), e = .returned (.tuple #[.int .u64 x, .iface T (.pointer (some ⟨N, 0, none⟩))])
theorem pu_any (s : ByteArray) (w : World) (hs : s.size ≤ 140737488355328) (hA : Ad w) :
    Calls Tryd.prog 10 #[.string s, .int .i64 10, .int .i64 8] w fun e w' => puR 66 (oct s.data.toList) e ∧ Below w.heap.size w w' := by
  unfold oct
  cases h : parseUintB 8 s.data.toList with
  | ok u => exact (Tryd.strconv_ParseUint_10_at8_ok s (by omega) u h w).mono fun e w' ⟨h1, h2⟩ => ⟨h1, below_or h2⟩
  | «syntax» =>
    obtain ⟨tp, p, hv⟩ := hA.syn
    exact (Tryd.strconv_ParseUint_10_at8_syntax_var s (by omega) h tp p w hv).mono fun e w' ⟨N, h1, _, _, h2⟩ => ⟨⟨_, N, h1⟩, h2⟩
  | range =>
    obtain ⟨tp, p, hv⟩ := hA.rng
    exact (Tryd.strconv_ParseUint_10_at8_range_var s (by omega) h tp p w hv).mono fun e w' ⟨N, h1, _, _, h2⟩ => ⟨⟨_, N, h1⟩, h2⟩
/-- Atoi's answer -/
def atR_ (T : TypeId) (l : List UInt8) (e : Ending) : Prop :=
  if atB l then e = .returned (.tuple #[.int .i64 (atN l), .nilIface]) else ∃ (N : Nat), e = .returned (.tuple #[.int .i64 (atN l), .iface T (.pointer (some ⟨N, 0, none⟩))])
theorem atoi_any (s : ByteArray) (w : World) (hs : s.size ≤ 140737488355328) (hA : Ad w) :
    Calls Tryd.prog 14 #[.string s] w fun e w' => atR_ 66 s.data.toList e ∧ Below w.heap.size w w' := by
  unfold atR_ atB atN
  cases h : atoiAll s.data.toList with
  | ok u =>
    refine (Tryd.strconv_Atoi_ok s (by omega) u h w).mono fun e w' ⟨h1, h2⟩ => ⟨?_, ?_⟩
    · rw [if_pos rfl]; exact h1
    · rcases h2 with rfl | ⟨t, rfl⟩
      · exact Below.refl _ _
      · exact below_bytes _ _ _
  | «syntax» =>
    obtain ⟨tp, p, hv⟩ := hA.syn
    refine (Tryd.strconv_Atoi_syntax_var s (by omega) h tp p w hv).mono fun e w' ⟨N, h1, _, _, h2⟩ => ⟨?_, h2⟩
    rw [if_neg (by decide)]; exact ⟨N, h1⟩
  | range =>
    obtain ⟨tp, p, hv⟩ := hA.rng
    refine (Tryd.strconv_Atoi_range_var s (by omega) h tp p w hv).mono fun e w' ⟨N, h1, _, _, h2⟩ => ⟨?_, h2⟩
    rw [if_neg (by decide)]; exact ⟨N, h1⟩
theorem atN_bd (l : List UInt8) : -9223372036854775808 ≤ atN l ∧ atN l ≤ 9223372036854775807 := by
  unfold atN
  cases h : atoiAll l with
  | ok v => exact atoiAll_bounds h
  | «syntax» => exact ⟨by show (-9223372036854775808 : Int) ≤ 0; decide, by show (0 : Int) ≤ 9223372036854775807; decide⟩
  | range => dsimp only; unfold atoiSat; split <;> exact ⟨by decide, by decide⟩
theorem ix_any (s : ByteArray) (c : UInt8) (w : World) :
    Calls Tryd.prog 27 #[.string s, .string ⟨#[c]⟩] w fun e w' => e = .returned (.int .i64 (index s.data.toList [c])) ∧ w' = w := by
  rw [Go.Lib.index_one]
  exact Tryd.strings_Index_one s c w
theorem ix_lite (s : ByteArray) (c : UInt8) (w : World) :
    Calls Tryd.prog 37 #[.string s, .string ⟨#[c]⟩] w fun e w' => e = .returned (.int .i64 (index s.data.toList [c])) ∧ w = w' := by
  rw [Go.Lib.index_one]
  exact (Tryd.stringslite_Index_one s c w).mono fun e w' ⟨h1, h2⟩ => ⟨h1, h2.symm⟩
theorem ix_lt {d : UInt8} : ∀ {l : List UInt8} {i : Nat}, index l [d] = i → i < l.length
  | [], i, h => by
    have e : index [] [d] = -1 := rfl
    rw [e] at h; omega
  | c :: r, i, h => by
    rw [Go.Proofs.YtamckbjckgpniaaDoor.index_one] at h
    by_cases hc : c = d
    · rw [if_pos hc] at h
      rw [List.length_cons]; omega
    · rw [if_neg hc] at h
      by_cases h2 : index r [d] = -1
      · rw [if_pos h2] at h; omega
      · rw [if_neg h2] at h
        cases i with
        | zero => have := index_ge r [d]; omega
        | succ i =>
          have := ix_lt (d := d) (l := r) (i := i) (by omega)
          rw [List.length_cons]; omega
theorem ba_len (s : ByteArray) : s.data.toList.length = s.size := by rw [Array.length_toList]; rfl
theorem ext_list (s : ByteArray) (i j : Nat) : (s.extract i j).data.toList = (s.data.toList.drop i).take (j - i) := by
  rw [ByteArray.data_extract, Array.toList_extract]
def cutP (s : ByteArray) (v : Value) : Prop := ∃ x y b, v = .tuple #[.string x, .string y, .bool b] ∧ x.data.toList = (cut s.data.toList [47]).1 ∧ y.data.toList = (cut s.data.toList [47]).2.1
theorem cut_no {s : ByteArray} (h : index s.data.toList [47] = -1) : cutP s (.tuple #[.string s, .string ⟨#[]⟩, .bool false]) := by
  refine ⟨s, ⟨#[]⟩, false, rfl, ?_, ?_⟩ <;> (unfold cut; rw [h, if_neg (by decide)])
theorem cut_yes {s : ByteArray} {n : Nat} (h : index s.data.toList [47] = n) : cutP s (.tuple #[.string (s.extract 0 n), .string (s.extract (n + 1) s.size), .bool true]) := by
  refine ⟨_, _, true, rfl, ?_, ?_⟩
  · unfold cut
    rw [h, if_pos (by omega), ext_list]
    simp
  · unfold cut
    rw [h, if_pos (by omega), ext_list]
    simp only [Int.toNat_natCast, List.length_cons, List.length_nil]
    rw [List.take_of_length_le]
    rw [List.length_drop, ba_len]
    exact Nat.le_refl _
set_option maxRecDepth 100000 in
set_option maxHeartbeats 2000000 in
theorem cutl_any (s : ByteArray) (w : World) (hs : s.size ≤ 140737488355328) :
    Calls Tryd.prog 23 #[.string s, .string ⟨#[47]⟩] w fun e w' => ∃ v, e = .returned v ∧ cutP s v ∧ Below w.heap.size w w' := by
  have hix := ix_lite s 47
  obtain ⟨z, hz⟩ : ∃ z, z = index s.data.toList [47] := ⟨_, rfl⟩
  rw [← hz] at hix
  have HX := Lib.hid hix
  have hge := index_ge s.data.toList [47]
  rw [← hz] at hge
  have HB := Lib.hid (Below.refl w.heap.size w)
  clear hix
  go_enter Tryd.func23, Tryd.ntmps23
  by_cases h : z = -1
  · subst h
    have HC := Lib.hid (cut_no hz.symm)
    clear hz hge
    go_wp2_with (first | go_skip | (go_at_call 37; refine (HX.out _).mono ?_; rintro e W ⟨rfl, rfl⟩; dsimp only))
    refine bodyPost_ret (v := .tuple #[.string s, .string ⟨#[]⟩, .bool false]) (by simp [results, Tryd.results23, go_sem]) rfl ?_
    exact ⟨_, rfl, HC.out, HB.out⟩
  · obtain ⟨n, rfl⟩ := Int.eq_ofNat_of_zero_le (show 0 ≤ z by omega)
    have hlt := ix_lt hz.symm
    rw [ba_len] at hlt
    have HC := Lib.hid (cut_yes hz.symm)
    have t1 : decide ((0 : Int) ≤ n) = true := decide_eq_true (by omega)
    have hn1 : n + 1 ≤ s.size := hlt
    clear hz hge h
    go_upto_region 3 with (first | go_skip | (go_at_call 37; refine (HX.out _).mono ?_; rintro e W ⟨rfl, rfl⟩; dsimp only))
    go_region
    (go_wp2_with fail)
    refine bodyPost_ret (v := .tuple #[.string (s.extract 0 n), .string (s.extract (n + 1) s.size), .bool true]) (by simp [results, Tryd.results23, go_sem]) rfl ?_
    exact ⟨_, rfl, HC.out, (Below.refl w.heap.size w).drew⟩
set_option maxRecDepth 100000 in
set_option maxHeartbeats 2000000 in
theorem cut_any (s : ByteArray) (w : World) (hs : s.size ≤ 140737488355328) :
    Calls Tryd.prog 13 #[.string s, .string ⟨#[47]⟩] w fun e w' => ∃ x y b, e = .returned (.tuple #[.string x, .string y, .bool b]) ∧ x.data.toList = (cut s.data.toList [47]).1 ∧ y.data.toList = (cut s.data.toList [47]).2.1 ∧ Below w.heap.size w w' := by
  have HX := Lib.hid (cutl_any s w hs)
  go_enter Tryd.func13, Tryd.ntmps13
  go_wp2_with (first | go_skip | (go_at_call 23; refine HX.out.mono ?_; rintro e W ⟨v, rfl, ⟨x, y, b, rfl, hx, hy⟩, hb⟩; have HH := Lib.hid (And.intro hx (And.intro hy hb)); clear hx hy hb; dsimp only))
  refine bodyPost_ret (v := .tuple #[.string x, .string y, .bool b]) (by simp [results, Tryd.results13, go_sem]) rfl ?_
  exact ⟨x, y, b, rfl, HH.out.1, HH.out.2.1, HH.out.2.2⟩
end Go.Proofs.YtamckbjckgpniaaDoor
