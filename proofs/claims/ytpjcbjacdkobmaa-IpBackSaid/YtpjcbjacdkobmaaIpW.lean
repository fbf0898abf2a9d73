/- The contract of ip's Write. -/
import Derived.Test.YtpjcbjacdkobmaaIpC
namespace Go.Proofs.Ytpjcbjacdkobmaa
open Go.RowKit
set_option linter.unusedVariables false

theorem Win.at_ {w : World} {g base : Nat} {t : TypeId} {cs : List Value} (h : At w g t cs) (hb : base ≤ g) (hm : cs.length ≤ maxLen) : Win w base 1 (.slice (some ⟨g, 0, none⟩) cs.length cs.length) cs.length cs := by
  refine ⟨by omega, .inr ⟨g, 0, cs.length, rfl, hb, h.lt, Nat.le_refl _, hm, fun j u hj => ?_, fun j hj => ?_, fun j _ => h.free _⟩⟩
  · rw [Nat.zero_add, h.cell, hj]
  · rw [Nat.sub_self, Nat.zero_mul] at hj; omega
theorem or16 (a b : Int) (k : Nat) (hk : k ≤ 16) (ha : 0 ≤ a) (ha' : a < 2 ^ k) (hb : 0 ≤ b) (h : b * 2 ^ k + a ≤ 65535) : bits .or .u16 a (b * 2 ^ k) = b * 2 ^ k + a := by
  obtain ⟨n, rfl⟩ := Int.eq_ofNat_of_zero_le ha
  obtain ⟨m, rfl⟩ := Int.eq_ofNat_of_zero_le hb
  have hm : n < 2 ^ k := by exact_mod_cast ha'
  have e : (m : Int) * 2 ^ k = ((m * 2 ^ k : Nat) : Int) := by push_cast; rfl
  rw [e] at h ⊢
  have h1 : (BitVec.ofInt 16 ((m * 2 ^ k : Nat) : Int)).toNat = m * 2 ^ k := by rw [BitVec.ofInt_natCast, BitVec.toNat_ofNat]; exact Nat.mod_eq_of_lt (by omega)
  have h2 : (BitVec.ofInt 16 ((n : Nat) : Int)).toNat = n := by rw [BitVec.ofInt_natCast, BitVec.toNat_ofNat]; exact Nat.mod_eq_of_lt (by omega)
  show IntKind.u16.wrap ((BitVec.ofInt 16 ((n : Nat) : Int) ||| BitVec.ofInt 16 ((m * 2 ^ k : Nat) : Int)).toNat : Int) = _
  rw [BitVec.toNat_or, h1, h2, Nat.or_comm, nat_or_parts m n k hm, IntKind.wrap_u16]
  omega
def bz (b : Bool) : Int := if b then 1 else 0
/-- the word of flags and place -/
def offZ (p : Pk) : Int := p.off + bz p.df * 16384 + bz p.mf * 8192
def ipBare (p : Pk) : List Int := [69, 0, (20 + (p.b.size : Int)) / 256, 20 + (p.b.size : Int), p.id / 256, p.id, offZ p / 256, offZ p, p.tl, p.pr, 0, 0, p.s / 16777216, p.s / 65536, p.s % 65536 / 256, p.s % 65536, p.d / 16777216, p.d / 65536, p.d % 65536 / 256, p.d % 65536]
def ipSum (p : Pk) : Int := 65535 - sumZ (byteL (ipBare p))
def ipHead (p : Pk) : List Int := ((ipBare p).set 10 (ipSum p / 256)).set 11 (ipSum p)
def ipS (p : Pk) : ByteArray := byteS (ipHead p) ++ p.b
/-- the packet in its box, and bytes of one's own -/
structure IpW (w W : World) (p : Pk) (v : Value) (l : List Int) : Prop where
  x : At W w.heap.size 38 (pkC p)
  v : OwnB W (w.heap.size + 1) v l
  b : Below w.heap.size w W
theorem IpW.next {w W W' : World} {p : Pk} {v v' : Value} {l l' : List Int} (h : IpW w W p v l) (hV : OwnB W' (w.heap.size + 1) v' l') (hO : W.grownBy W' v.ownBlock) : IpW w W' p v' l' :=
  ⟨h.x.grown hO (by intro e; have := (h.v.lt _ e.symm).1; omega), hV, h.b.grown hO h.b.size (fun j hj => by have := (h.v.lt j hj).1; omega)⟩
theorem IpW.ge {w W : World} {p : Pk} {v : Value} {l : List Int} (h : IpW w W p v l) : w.heap.size + 1 ≤ W.heap.size := h.x.lt
set_option maxRecDepth 100000 in
set_option maxHeartbeats 4000000 in
theorem ipWrite_ok (p : Pk) (w : World) (ok : PkOk p) (hc : ipChk p = 0) :
    Calls Try.prog 17 #[.agg (pkC p).toArray] w fun e w' => e = .returned (.tuple #[.string (ipS p), .int .i64 0]) ∧ Below w.heap.size w w' := by
  have hck := fun W => ipCheck_any p W ok
  rw [hc] at hck
  have hb := ipChk_ok hc
  have hs := ok.s
  have hd := ok.d
  have hO : offZ p = p.off + bz p.df * 16384 + bz p.mf * 8192 := rfl
  have HCK := Lib.hid hck
  have HOF := Lib.hid hO
  have HC := Lib.hid hc
  clear hck hO hc
  obtain ⟨⟨p1, p2⟩, ⟨t1, t2⟩, ⟨i1, i2⟩, ⟨o1, o2⟩, b1⟩ := hb
  obtain ⟨s1, s2⟩ := hs
  obtain ⟨d1, d2⟩ := hd
  go_enter Try.func17, Try.ntmps17
  go_upto_region 1 with (fail)
  refine wp_gen (fun W => At W w.heap.size 38 (pkC p) ∧ Below w.heap.size w W) ⟨?_, by repeat' (first | with_reducible exact Below.refl _ _ | with_reducible assumption | with_reducible refine Below.drew ?_ | with_reducible refine below_dn ?_ _ | with_reducible refine below_ca ?_ _ | with_reducible refine Below.setCell ?_ ?_ _ | (refine below_c ?_ (by with_reducible assumption)) | (simp <;> omega) | omega)⟩ ?_
  · exact At.new_ w _ _
  rintro W1 ⟨hX1, hB1⟩
  have hX1r : W1.rangeAt w.heap.size 0 (pkC p) := fun j u hj => by rw [Nat.zero_add, hX1.cell, hj]
  have hpi : (Try.prog.info? 38).map (·.size) = some (pkC p).length := by kernel_rfl
  go_wp2_with (refine wpList_load_mid rfl 38 (.tmp 1) rfl w.heap.size 0 rfl (pkC p) _ hX1r Try.underlying38 rfl hpi ?_)
  refine (HCK.out _).mono ?_
  rintro e W2 ⟨rfl, hB2⟩
  have hX2 := hX1.kept hB2
  have hBB := below_c hB1 hB2
  clear hX1 hX1r hpi hB1 hB2
  have c2 := hX2.cell 2
  have c3 := hX2.cell 3
  have c4 := hX2.cell 4
  have c5 := hX2.cell 5
  have c6 := hX2.cell 6
  have c7 := hX2.cell 7
  have hl2 := hX2.lt
  simp [pkC] at c2 c3 c4 c5 c6 c7
  go_upto_if 16 with (fail)
  go_cut [5] (fun s W => s = .int .u16 (p.off + bz p.df * 16384) ∧ IpW w W p (.slice none 0 0) [])
  case first =>
    have hK0 : IpW w W2 p (.slice none 0 0) [] := ⟨hX2, Win.nil _ _ _, hBB⟩
    have HK0 := Lib.hid hK0
    have e1 := or16 p.off 1 14 (by omega) (by omega) (by omega) (by omega) (by omega)
    simp at e1
    clear hK0 hX2 hBB c2 c3 c4 c5 c6 c7
    cases hdf : p.df
    · go_wp2_with fail
      go_meet
      case rel => exact ⟨by simp [bz, hdf], HK0.out⟩
    · go_wp2_with fail
      go_meet
      case rel => exact ⟨by simp [bz, hdf]; omega, HK0.out⟩
  case rest =>
    obtain ⟨rfl, hK1⟩ := hcut
    clear hX2 hBB c2 c3 c4 c5 c6 c7 hl2
    have c6 := hK1.x.cell 6
    simp [pkC] at c6
    have hl2 := hK1.x.lt
    have hoff1 : 0 ≤ p.off + bz p.df * 16384 ∧ p.off + bz p.df * 16384 ≤ 24575 ∧ (p.off + bz p.df * 16384) % 16384 ≤ 8191 := by unfold bz; split <;> omega
    go_upto_if 20 with (fail)
    go_cut [5] (fun s W => s = .int .u16 (offZ p) ∧ IpW w W p (.slice none 0 0) [])
    case first =>
      have HK1 := Lib.hid hK1
      have hx : p.off + bz p.df * 16384 = p.off + bz p.df * 16384 := rfl
      have hdd : bits .or .u16 (p.off + bz p.df * 16384) 8192 = p.off + bz p.df * 16384 + 8192 := by
        have e2 := or16 p.off 1 13 (by omega) (by omega) (by omega) (by omega) (by omega)
        cases hdf : p.df
        · simp [bz] at e2 ⊢; rw [e2]; omega
        · simp only [bz, if_true, Int.one_mul]
          obtain ⟨n, hn⟩ := Int.eq_ofNat_of_zero_le o1
          have hlt : n < 2 ^ 13 := by omega
          rw [hn]
          have h1 : (BitVec.ofInt 16 ((n : Int) + 16384)).toNat = 2 * 2 ^ 13 + n := by
            rw [show ((n : Int) + 16384) = ((2 * 2 ^ 13 + n : Nat) : Int) by omega, BitVec.ofInt_natCast, BitVec.toNat_ofNat]; exact Nat.mod_eq_of_lt (by omega)
          show IntKind.u16.wrap ((BitVec.ofInt 16 ((n : Int) + 16384) ||| BitVec.ofInt 16 8192).toNat : Int) = _
          have h2 : (2 * 2 ^ 13 + n) ||| 8192 = 3 * 2 ^ 13 + n := by
            have a1 := nat_or_parts 2 n 13 hlt
            have a2 := nat_or_parts 3 n 13 hlt
            rw [← a1, ← a2, Nat.or_assoc, Nat.or_comm n 8192, ← Nat.or_assoc]
            rfl
          rw [BitVec.toNat_or, h1, show (BitVec.ofInt 16 8192).toNat = 8192 by rfl, h2, IntKind.wrap_u16]
          omega
      have HDD := Lib.hid hdd
      clear hx hdd hK1 c6
      cases hmf : p.mf
      · go_wp2_with fail
        go_meet
        case rel => exact ⟨by rw [HOF.out, hmf]; simp [bz], HK1.out⟩
      · go_wp2_with fail
        go_meet
        case rel => exact ⟨by rw [HOF.out, hmf, HDD.out]; simp [bz], HK1.out⟩
    case rest =>
      obtain ⟨rfl, hK2⟩ := hcut
      clear hK1 c6 hl2
      have hoz : 0 ≤ offZ p ∧ offZ p ≤ 65535 := by rw [HOF.out]; unfold bz; split <;> split <;> omega
      obtain ⟨z1, z2⟩ := hoz
      have hl2 := hK2.x.lt
      go_upto_region 10 with (fail)
      refine wp_gen (fun W => IpW w W p (.slice (some ⟨wc.heap.size, 0, none⟩) 2 2) [69, 0]) ⟨hK2.x.kept (below_ca (Below.refl _ _) _), ?_, below_ca hK2.b _⟩ ?_
      · exact Win.at_ (At.new_ wc 5 [.int .u8 69, .int .u8 0]) (by have := hK2.ge; omega) (by simp [maxLen])
      intro W3 hK3
      have hcs : wc.heap.size < W3.heap.size := (hK3.v.lt _ rfl).2
      have hl3 := hK3.x.lt
      have c8 := hK3.x.cell 8
      simp [pkC] at c8
      go_wp2_with fail
      refine (Append16_any (w.heap.size + 1) _ _ _ _ hK3.v (by omega) (by omega) (by simp) hK3.ge).mono ?_
      rintro e W4 ⟨v4, rfl, hV4, hO4, hat4⟩
      have hK4 := hK3.next hV4 hO4
      clear hK3 hV4 hO4 hat4 hl3 c8
      have hl4 := hK4.x.lt
      have c4 := hK4.x.cell 4
      simp [pkC] at c4
      obtain ⟨A4, q4, rfl⟩ := hK4.v.form
      go_wp2_with fail
      refine (Append16_any (w.heap.size + 1) _ _ _ _ hK4.v (by omega) (by omega) (by simp) hK4.ge).mono ?_
      rintro e W5 ⟨v5, rfl, hV5, hO5, hat5⟩
      have hK5 := hK4.next hV5 hO5
      clear hK4 hV5 hO5 hat5 hl4 c4
      have hl5 := hK5.x.lt
      obtain ⟨A5, q5, rfl⟩ := hK5.v.form
      go_wp2_with fail
      refine (Append16_any (w.heap.size + 1) _ _ _ _ hK5.v (by omega) (by omega) (by simp) hK5.ge).mono ?_
      rintro e W6 ⟨v6, rfl, hV6, hO6, hat6⟩
      have hK6 := hK5.next hV6 hO6
      clear hK5 hV6 hO6 hat6 hl5
      have hl6 := hK6.x.lt
      have c2 := hK6.x.cell 2
      have c3 := hK6.x.cell 3
      simp [pkC] at c2 c3
      obtain ⟨A6, q6, rfl⟩ := hK6.v.form
      have hV6 := hK6.v
      go_wp2_with (at_builtin; obtain ⟨iG, zG, iG0, iG1, iG2, iG3, iG4⟩ := elem_u8; refine wpList_append_win rfl _ _ 79 rfl (w.heap.size + 1) 5 iG zG 1 1 Try.underlying79 iG0 iG1 iG2 iG3 iG4 (by decide) _ _ _ rfl (hV6.alloc _) ⟨W6.heap.size, 0, none⟩ 4 4 ([p.tl, p.pr, 0, 0].map b8) rfl rfl ?news ?one (by decide) ?mx ?byt ?ba ?_)
      case news =>
        have e : ([p.tl, p.pr, 0, 0].map b8) = [.int .u8 p.tl, .int .u8 p.pr, .int .u8 0, .int .u8 0] := by
          simp [b8]; omega
        rw [e]
        exact At.news (At.new_ W6 5 _)
      case one => exact b8_one _
      case mx => simp [maxLen]
      case byt => simp
      case ba => have := hK6.ge; simp; omega
      intro v7 W7 hV7 hO7 hat7
      have hK7 : IpW w W7 p v7 [69, 0, (20 + (p.b.size : Int)) / 256, 20 + (p.b.size : Int), p.id / 256, p.id, offZ p / 256, offZ p, p.tl, p.pr, 0, 0] := IpW.next (W := W6.alloc _) ⟨hK6.x.alloc _, hV6.alloc _, below_ca hK6.b _⟩ hV7 hO7
      clear hK6 hV6 hV7 hO7 hat7 hl6 c2 c3
      have hl7 := hK7.x.lt
      have c0 := hK7.x.cell 0
      simp [pkC] at c0
      obtain ⟨A7, q7, rfl⟩ := hK7.v.form
      go_wp2_with fail
      refine (Append32_any (w.heap.size + 1) _ _ _ _ hK7.v (by omega) (by omega) (by simp) hK7.ge).mono ?_
      rintro e W8 ⟨v8, rfl, hV8, hBx8, hO8, hat8⟩
      have hK8 := hK7.next hV8 hO8
      clear hK7 hV8 hO8 hat8 hl7 c0
      have hl8 := hK8.x.lt
      have c1 := hK8.x.cell 1
      simp [pkC] at c1
      obtain ⟨A8, q8, rfl⟩ := hK8.v.form
      go_wp2_with fail
      refine (Append32_any (w.heap.size + 1) _ _ _ _ hK8.v (by omega) (by omega) (by simp) hK8.ge).mono ?_
      rintro e W9 ⟨v9, rfl, hV9, hBx9, hO9, hat9⟩
      have hK9 := hK8.next hV9 hO9
      clear hK8 hV9 hO9 hat9 hl8 c1
      have hl9 := hK9.x.lt
      have hV9 : OwnB W9 (w.heap.size + 1) v9 (ipBare p) := hK9.v
      have hX9 := hK9.x
      have hB9 := hK9.b
      have hge9 := hK9.ge
      clear hK9
      obtain ⟨g, off, cap, rfl, hW⟩ := hV9.pos (by simp [ipBare])
      have hlb : (ipBare p).length = 20 := rfl
      rw [hlb] at hW ⊢
      have hcap := hW.le
      have hmx := hW.mx
      unfold maxLen at hmx
      have hgx : g ≠ w.heap.size := by have := hW.ge; omega
      have hgl := hW.lt
      have hcv : ∀ u : Later W9, (convert 79 9 (.slice (some ⟨g, off, none⟩) 20 cap)).run Try.prog u.now = .ok (.string (byteS (ipBare p))) u.now := by
        intro u
        have hWu := hW.move (Nat.lt_of_lt_of_le hgl u.still.size) (u.still.block g hgl)
        have hback := run_convert_bytes_back (P := Try.prog) u.now 79 9 5 ⟨g, off, none⟩ cap (byteL (ipBare p)) Try.underlying79 Try.underlying5 Try.underlying9 (own_back hWu)
        rw [byteL_len] at hback
        exact hback
      have hsc := fun (u : Later W9) => Check16_any (byteS (ipBare p)) u.now (by rw [byteS_sz, hlb]; omega)
      rw [byteS_toList] at hsc
      have hsum : 65535 - sumZ (byteL (ipBare p)) = ipSum p := rfl
      rw [hsum] at hsc
      have hsb : 0 ≤ ipSum p ∧ ipSum p ≤ 65535 := by unfold ipSum; have := sumZ_lo (byteL (ipBare p)); have := sumZ_hi (byteL (ipBare p)); omega
      obtain ⟨hsb1, hsb2⟩ := hsb
      have hhd : ((ipBare p).set 10 (ipSum p / 256)).set 11 (ipSum p) = ipHead p := rfl
      have hput := fun (W : World) (h : WinAt W (w.heap.size + 1) 1 g off cap 20 ((ipBare p).map b8)) => Put16_win (w.heap.size + 1) g off cap 20 10 (ipBare p) (ipSum p) W h hlb (by omega) hsb1 hsb2
      rw [hhd] at hput
      (generalize byteS (ipBare p) = S9 at hcv hsc)
      (generalize ipSum p = sm at hsc hput hsb1 hsb2)
      have HSC := Lib.hid hsc
      have HPUT := Lib.hid hput
      have HW := Lib.hid hW
      have HX9 := Lib.hid hX9
      have hWge := hW.ge
      clear hsc hput hsum hhd hlb hV9 hX9 hW
      have k1 : (10 : Int) < (cap : Int) := by omega
      have k4 : ¬ cap = 10 := by omega
      have k5 : 10 ≤ cap := by omega
      go_upto_region 16 with (fail)
      refine wp_region_later_tail 5 (by kernel_rfl) (by kernel_rfl) (fun hlc => ?_)
      simp only [List.take_succ_cons, List.take_zero, List.drop_succ_cons, List.drop_zero]
      repeat (go_big_quiet_step ((go_at_call 41; exact later_call (HSC.out _))))
      refine wpQuiet_nil ?_
      intro wq hbq
      clear hlc hcv
      have hWq := HW.out.move (Nat.lt_of_lt_of_le hgl hbq.size) (hbq.block g hgl)
      have hXq := HX9.out.kept hbq
      have hbB := below_c hB9 hbq
      go_wp2_with fail
      refine (HPUT.out _ hWq).mono ?_
      rintro e w4 ⟨rfl, hW4, hO4⟩
      have hX4 := hXq.grown hO4 (by intro e; injection e with e; exact hgx e.symm)
      have hB4 := hbB.grown hO4 hbB.size (fun j hj => by injection hj with hj; omega)
      have c8 := hX4.cell 8
      simp [pkC] at c8
      have hl4 := hX4.lt
      have hhl : (ipHead p).length = 20 := rfl
      have hback := run_convert_bytes_back (P := Try.prog) w4 79 9 5 ⟨g, off, none⟩ cap (byteL (ipHead p)) Try.underlying79 Try.underlying5 Try.underlying9 (own_back (by rw [hhl]; exact hW4))
      rw [byteL_len, hhl, show (⟨(byteL (ipHead p)).toArray⟩ : ByteArray) = byteS (ipHead p) from rfl] at hback
      have hsz := byteS_sz (ipHead p)
      rw [hhl] at hsz
      have hips : byteS (ipHead p) ++ p.b = ipS p := rfl
      have HIP := Lib.hid hips
      clear hips hhl hW4 hWq hXq hX4
      generalize byteS (ipHead p) = S4 at *
      go_wp2_with fail
      go_ret2
      exact ⟨ret_val (by rw [← HIP.out]; rfl), hB4⟩
end Go.Proofs.Ytpjcbjacdkobmaa
