/- Slices of bytes in Mem; the contract of ip.Pseudo; sums of a text behind another one. -/
import Derived.Test.YtpjcbjacdkobmaaWinS
import Derived.Test.YtpjcbjacdkobmaaQMix
import Derived.Test.YtpjcbjacdkobmaaSt
import Derived.Test.YtpjcbjacdkobmaaSumP
import Derived.Test.YtpjcbjacdkobmaaCodC
namespace Go.Proofs.Ytpjcbjacdkobmaa
open Go.RowKit
set_option linter.unusedVariables false

def ownR (base : Nat) (v : Value) (l : List Int) : Res := winR base 1 v l.length (l.map b8)
section
variable {w W W' : World} {r : List Res} {base : Nat} {v v' : Value} {l l' : List Int}
theorem Mem.own (h : Mem w W r) (k : Nat) (hk : r[k]? = some (ownR base v l)) : OwnB W base v l := h.win_ k hk
theorem Mem.ownPut (h : Mem w W r) (k : Nat) (hk : r[k]? = some (ownR base v l)) (hV : OwnB W' base v' l') (hO : W.grownBy W' v.ownBlock) (hat : v'.ownBlock = v.ownBlock ∨ ∃ k, v'.ownBlock = some k ∧ W.heap.size ≤ k) : Mem w W' (r.set k (ownR base v' l')) := h.winPut k hk hO hV hat
theorem Mem.ownNil (h : Mem w W r) (base : Nat) : Mem w W (r ++ [ownR base (.slice none 0 0) []]) := h.winNil base 1
/-- the same block, written in place -/
theorem Mem.ownSet {g off cap n : Nat} (h : Mem w W r) (k : Nat) (hk : r[k]? = some (ownR base (.slice (some ⟨g, off, none⟩) n cap) l)) (hl : l.length = n) (hl' : l'.length = n) (hV : WinAt W' base 1 g off cap n (l'.map b8)) (hO : W.grownBy W' (some g)) :
    Mem w W' (r.set k (ownR base (.slice (some ⟨g, off, none⟩) n cap) l')) :=
  h.ownPut k hk (by subst hl'; exact ⟨by simp, .inr ⟨g, off, cap, rfl, hV⟩⟩) hO (.inl rfl)
end
/-- what stands ahead of a datagram or a segment for its sum -/
def pseuL (s d pr n : Int) : List Int := [s / 16777216, s / 65536, s % 65536 / 256, s % 65536, d / 16777216, d / 65536, d % 65536 / 256, d % 65536, 0, pr, n % 65536 / 256, n % 65536]
set_option maxRecDepth 100000 in
set_option maxHeartbeats 2000000 in
theorem Pseudo_any (s d pr n : Int) (w : World) (hs : 0 ≤ s) (hs' : s ≤ 4294967295) (hd : 0 ≤ d) (hd' : d ≤ 4294967295) (hp : 0 ≤ pr) (hp' : pr ≤ 255) (hn : 0 ≤ n) (hn' : n ≤ 9223372036854775807) :
    Calls Try.prog 61 #[.int .u32 s, .int .u32 d, .int .i64 pr, .int .i64 n] w fun e w' => e = .returned (.string (byteS (pseuL s d pr n))) ∧ Below w.heap.size w w' := by
  have hM := (Mem.nil w).ownNil w.heap.size
  simp only [List.nil_append] at hM
  go_enter Try.func61, Try.ntmps61
  go_wp2_with fail
  refine (Append32_any w.heap.size _ _ _ _ (hM.own 0 rfl) (by omega) (by omega) (by simp) hM.b.size).mono ?_
  rintro e W1 ⟨v1, rfl, hV, hB, hO, hat⟩
  replace hM := hM.ownPut 0 rfl hV hO hat
  clear hV hB hO hat
  simp only [List.set_cons_zero, List.nil_append] at hM
  obtain ⟨A1, c1, rfl⟩ := (hM.own 0 rfl).form
  go_wp2_with fail
  refine (Append32_any w.heap.size _ _ _ _ (hM.own 0 rfl) (by omega) (by omega) (by simp) hM.b.size).mono ?_
  rintro e W2 ⟨v2, rfl, hV, hB, hO, hat⟩
  replace hM := hM.ownPut 0 rfl hV hO hat
  clear hV hB hO hat
  simp only [List.set_cons_zero, List.cons_append, List.nil_append] at hM
  obtain ⟨A2, c2, rfl⟩ := (hM.own 0 rfl).form
  have hV2 := hM.own 0 rfl
  go_wp2_with (at_builtin; obtain ⟨iG, zG, iG0, iG1, iG2, iG3, iG4⟩ := elem_u8; refine wpList_append_win rfl _ _ 79 rfl w.heap.size 5 iG zG 1 1 Try.underlying79 iG0 iG1 iG2 iG3 iG4 (by decide) _ _ _ rfl (hV2.alloc _) ⟨W2.heap.size, 0, none⟩ 2 2 ([0, pr].map b8) rfl rfl ?news ?one (by decide) ?mx ?byt ?ba ?_)
  case news =>
    have e : ([0, pr].map b8) = [.int .u8 0, .int .u8 pr] := by
      simp [b8]; omega
    rw [e]
    exact At.news (At.new_ W2 5 _)
  case one => exact b8_one _
  case mx => simp [maxLen]
  case byt => simp
  case ba => have := hM.b.size; simp; omega
  intro v3 W3 hV hO hat
  have hM3 : Mem w W3 [ownR w.heap.size v3 [s / 16777216, s / 65536, s % 65536 / 256, s % 65536, d / 16777216, d / 65536, d % 65536 / 256, d % 65536, 0, pr]] := (hM.kept (below_ca (Below.refl _ _) _)).ownPut 0 rfl hV hO (by
    rcases hat with h | ⟨k, h, hk⟩
    · exact .inl h
    · exact .inr ⟨k, h, by simpa using hk⟩)
  clear hM hV2 hV hO hat
  have hM := hM3
  clear hM3
  obtain ⟨A3, c3, rfl⟩ := (hM.own 0 rfl).form
  have hw16 : IntKind.u16.wrap n = n % 65536 := by rw [IntKind.wrap_u16]
  go_wp2_with fail
  refine (Append16_any w.heap.size _ _ _ _ (hM.own 0 rfl) (by first | omega | (rw [IntKind.wrap_u16]; omega)) (by first | omega | (rw [IntKind.wrap_u16]; omega)) (by simp) hM.b.size).mono ?_
  rintro e W4 ⟨v4, rfl, hV, hO, hat⟩
  replace hM := hM.ownPut 0 rfl hV hO hat
  clear hV hO hat
  simp only [List.set_cons_zero, List.cons_append, List.nil_append] at hM
  have hpl : pseuL s d pr n = [s / 16777216, s / 65536, s % 65536 / 256, s % 65536, d / 16777216, d / 65536, d % 65536 / 256, d % 65536, 0, pr, n % 65536 / 256, n % 65536] := rfl
  rw [← hpl] at hM
  obtain ⟨g, off, cap, rfl, hW⟩ := (hM.own 0 rfl).pos (by simp [pseuL])
  have hback := run_convert_bytes_back (P := Try.prog) W4 79 9 5 ⟨g, off, none⟩ cap (byteL (pseuL s d pr n)) Try.underlying79 Try.underlying5 Try.underlying9 (own_back hW)
  rw [byteL_len] at hback
  rw [show (⟨(byteL (pseuL s d pr n)).toArray⟩ : ByteArray) = byteS (pseuL s d pr n) from rfl] at hback
  clear hw16 hpl hW
  have hlp : (pseuL s d pr n).length = 12 := rfl
  rw [hlp] at hback ⊢
  generalize hL : pseuL s d pr n = L at *
  have HL := Lib.hid hL
  clear hL
  have hb := hM.b
  clear hM hlp
  go_wp2_with fail
  go_ret
  exact ⟨ret_val (by rw [HL.out]; rfl), hb⟩
end Go.Proofs.Ytpjcbjacdkobmaa
