/- Contracts of the package inq: behind, Read. -/
import Derived.Test.YtfpifahkpkjfgaaInqC
import Derived.Test.YtfpifahkpkjfgaaWire
import Derived.Test.YtfpifahkpkjfgaaByteS
import Derived.OwnWalk
namespace Go.Proofs.Ytfpifahkpkjfgaa
open Go.RowKit
set_option linter.unusedVariables false

set_option maxRecDepth 100000 in
set_option maxHeartbeats 1000000 in
theorem behind_any (g : Nat) (q : IQ) (p edge : Int) (w : World) (hQ : InqAt w g q) (hp : 0 ≤ p) (he : edge ≤ 4611686018427387904) (hp' : p ≤ 4611686018427387904) :
    Calls Try.prog 93 #[.pointer (some ⟨g, 0, none⟩), .int .i64 p, .int .i64 edge] w fun e w' => e = .returned (.bool (behindB q.h p edge)) ∧ w = w' := by
  have hlt := hQ.lt
  have HI := Lib.hid (behind_iff q.h p edge)
  go_enter Try.func93, Try.ntmps93
  go_wp2_with fail
  go_loop [1] (fun c => ∃ x : Int, p ≤ x ∧ x ≤ 4611686018427387904 ∧ c = .int .i64 x ∧ ∀ y, p ≤ y → y < x → q.h (y % 2048).toNat = false) (fun c => (edge - intOf c).toNat)
  case atStart => exact ⟨p, by omega, hp', rfl, fun y a b => by omega⟩
  case round =>
    obtain ⟨x, hx, hx', rfl, hno⟩ := hrel
    have HN := Lib.hid hno
    clear hno
    by_cases hlt : x < edge
    · obtain ⟨K, hK⟩ : ∃ K : Nat, x % 2048 = (K : Int) := ⟨(x % 2048).toNat, by omega⟩
      have hK2 : K < 2048 := by omega
      have c := InqAt.h_ hQ K hK2
      have k1 : (K : Int) < 2048 := by omega
      cases hh : q.h K
      · rw [hh] at c
        have HH := Lib.hid hh
        have HK := Lib.hid hK
        clear hh
        go_wp2_with fail
        go_round
        case rel =>
          refine ⟨x + 1, by omega, by omega, rfl, fun y a b => ?_⟩
          by_cases e : y = x
          · rw [e, HK.out]; exact HH.out
          · exact HN.out y a (by omega)
        case measure => simp [intOf]; omega
      · rw [hh] at c
        have HH := Lib.hid hh
        have HK := Lib.hid hK
        clear hh
        go_wp2_with fail
        go_ret
        refine ⟨ret_bool ?_, rfl⟩
        symm
        rw [HI.out]
        exact ⟨x, hx, hlt, by rw [HK.out]; exact HH.out⟩
    · go_wp2_with fail
      go_ret
      refine ⟨ret_bool ?_, rfl⟩
      cases hb : behindB q.h p edge
      · rfl
      · obtain ⟨y, a, b, c⟩ := HI.out.1 hb
        rw [HN.out y a (by omega)] at c
        cases c
/-- what Read tells -/
def readL (q : IQ) (n : Nat) : List Int := fnL n fun j => q.r ((q.rd + j) % 2048).toNat
def readTo (q : IQ) (n k : Nat) : List Int := fnL n fun j => if j < k then q.r ((q.rd + j) % 2048).toNat else 0
def readN (q : IQ) (most : Int) : Nat := (if (if most < 0 then 0 else most) < endZ q - q.rd then (if most < 0 then 0 else most) else endZ q - q.rd).toNat
theorem readTo_end (q : IQ) (n : Nat) : readTo q n n = readL q n := fnL_congr _ _ _ (fun k hk => by rw [if_pos hk])
theorem readTo_step (q : IQ) (n k : Nat) (hk : k < n) : ((readTo q n k).map b8).set k (b8 (q.r ((q.rd + k) % 2048).toNat)) = (readTo q n (k + 1)).map b8 := by
  unfold readTo
  rw [← List.map_set]
  congr 1
  rw [fnL_set]
  refine fnL_congr _ _ _ (fun j hj => ?_)
  by_cases e : j = k
  · subst e; simp
  · rw [if_neg e]
    by_cases h2 : j < k
    · rw [if_pos h2, if_pos (by omega)]
    · rw [if_neg h2, if_neg (by omega)]
theorem readTo_len (q : IQ) (n k : Nat) : (readTo q n k).length = n := by unfold readTo; rw [fnL_len]
theorem exb_gen {R : Exit → Act → World → Prop} {i : Nat} {a : Act} {w : World} (Pr : World → Prop) (h : Pr w) (k : ∀ W, Pr W → Exit.inBlock i R .normal a W) : Exit.inBlock i R .normal a w := k w h
theorem madeOne (q : IQ) (N : Nat) : (madeCells #[Value.int .u8 0] N).toList = (readTo q N 0).map b8 := by
  apply List.ext_getElem?
  intro k
  by_cases hk : k < N
  · unfold readTo
    rw [List.getElem?_map, fnL_get _ _ _ hk]
    simp [madeCells, hk, b8]
    rw [Nat.mod_one]; rfl
  · rw [List.getElem?_eq_none (by simp [madeCells]; omega), List.getElem?_eq_none (by rw [List.length_map, readTo_len]; omega)]
set_option maxRecDepth 100000 in
set_option maxHeartbeats 1000000 in
theorem Read_any (g : Nat) (q : IQ) (most : Int) (w : World) (hQ : InqAt w g q) (ok : IqOk q) (hm : -9223372036854775808 ≤ most) (hm' : most ≤ 9223372036854775807) :
    Calls Try.prog 54 #[.pointer (some ⟨g, 0, none⟩), .int .i64 most] w fun e w' => e = .returned (.string (byteS (readL q (readN q most)))) ∧ InqAt w' g { q with rd := q.rd + readN q most } ∧ w.grownBy w' (some g) := by
  obtain ⟨b1, b2, b3, b4⟩ := end_bd q ok
  have hlt := hQ.lt
  obtain ⟨N, hN⟩ : ∃ N, readN q most = N := ⟨_, rfl⟩
  have hN2 : N ≤ 2048 := by rw [← hN]; unfold readN; split <;> split <;> omega
  rw [hN]
  have HN := Lib.hid hN
  clear hN
  go_enter Try.func54, Try.ntmps54
  go_upto_region 1 with (fail)
  go_cut [5] (fun s wc => s = .int .i64 (N : Int) ∧ Below w.heap.size w wc)
  case first =>
    go_wp2_with (go_at_call 53; refine (Ready_any g q _ hQ ok).mono ?_; rintro e w1 ⟨rfl, hB1⟩)
    all_goals
      go_meet
      case rel =>
        refine ⟨?_, hB1⟩
        have := HN.out
        unfold readN at this
        congr 1
        rw [← this]
        split <;> split <;> omega
  case rest =>
    obtain ⟨rfl, hBc⟩ := hcut
    have hQc := hQ.kept hBc
    have hi : (Try.prog.info? 5).map (fun i => (i.zero, i.size, i.bytes)) = some (some (.int .u8 0), 1, 1) := by kernel_rfl
    obtain ⟨i0, hi0, hi1, hi2, hi3⟩ := info_parts hi
    clear hi
    have hgc := hQc.lt
    go_wp2_with (refine wpList_make_full _ rfl (.tmp 13) (.tmp 13) 104 rfl w.heap.size 5 i0 _ 1 Try.underlying104 hi0 hi1 hi2 .i64 .i64 _ _ N rfl rfl rfl rfl ?b2 ?b3 ?b4 ?_)
    case b2 => rw [hi3]; omega
    case b3 => unfold maxLen; omega
    case b4 => exact hBc.size
    intro w3 hown hO3
    have hWA := WinAt.ofOwns hown
    rw [madeOne q N] at hWA
    clear hown hi0 hi1 hi2 hi3
    have hQ3 : InqAt w3 g q := hQc.grown hO3 (by simp)
    have hz3 : wc.heap.size < w3.heap.size := hWA.lt
    have hB3 : Below w.heap.size w w3 := hBc.grown hO3 hBc.size (fun j hj => by cases hj)
    have hcs := hBc.size
    go_wp2_with fail
    go_loopw [17] (fun i wr => ∃ k : Nat, k ≤ N ∧ i = .int .i64 k ∧ WinAt wr w.heap.size 1 wc.heap.size 0 N N ((readTo q N k).map b8) ∧ Below w.heap.size w wr ∧ w3.grownBy wr (some wc.heap.size)) (fun i _ => N - (intOf i).toNat)
    case atStart =>
      exact ⟨0, by omega, rfl, hWA, hB3, only_refl _ _⟩
    case round =>
      obtain ⟨k, hk, rfl, hWk, hBk, hOk⟩ := hrel
      have hQk : InqAt wr g q := hQ3.grown hOk (by intro e; cases e; omega)
      have r1 := InqAt.rd_ hQk
      have hgk := hQk.lt
      have hwk := hWk.lt
      have hok1 := ok.rd1
      by_cases hlt2 : k < N
      · obtain ⟨K, hK⟩ : ∃ K : Nat, (q.rd + (k : Int)) % 2048 = (K : Int) := ⟨((q.rd + (k : Int)) % 2048).toNat, by omega⟩
        have hK2 : K < 2048 := by omega
        have r2 := InqAt.r_ hQk K hK2
        have k1 : (K : Int) < 2048 := by omega
        have k0 : (0 : Int) ≤ (K : Int) := by omega
        have hrok := ok.rok K
        have r3 := hWk.here k (b8 ((readTo q N k)[k]'(by rw [readTo_len]; exact hlt2))) (by simp [readTo_len, hlt2])
        have r4 := hWk.soft k (by omega)
        rw [Nat.zero_add] at r3 r4
        have k3 : (k : Int) < (N : Int) := by omega
        have k4 : (0 : Int) ≤ (k : Int) := by omega
        have hwr : IntKind.i64.wrap (q.rd + (k : Int)) = q.rd + (k : Int) := IntWalk.i64_in _ (by omega)
        have hst := readTo_step q N k hlt2
        rw [hK, Int.toNat_natCast] at hst
        have HST := Lib.hid hst
        have HK := Lib.hid hK
        clear hst
        go_wp2_with fail
        go_region
        refine exb_gen (fun W => WinAt W w.heap.size 1 wc.heap.size 0 N N ((readTo q N (k + 1)).map b8) ∧ Below w.heap.size w W ∧ w3.grownBy W (some wc.heap.size)) ⟨?_, (hBk.setCell (by show w.heap.size ≤ wc.heap.size; omega) _).drew, only_drew (only_set hOk (.inl rfl) _)⟩ ?_
        · have h := WinAt.store hWk (by simp [readTo_len]) k hlt2 (b8 (q.r K))
          rw [HST.out, Nat.zero_add] at h
          have e : b8 (q.r K) = .int .u8 (q.r K) := by unfold b8; rw [Int.emod_eq_of_lt (by omega) (by omega)]
          rw [e] at h
          exact h.move h.lt rfl
        rintro W4 ⟨hW4, hB4, hO4⟩
        clear r1 r2 r3 r4
        go_wp2_with fail
        go_roundw
        case rel => exact ⟨k + 1, by omega, by go_num, hW4, hB4, hO4⟩
        case measure => simp [intOf]; omega
      · obtain rfl : k = N := by omega
        have r5 := hQk.free 4096
        rw [readTo_end] at hWk
        go_upto_region 9 with (fail)
        refine wp_gen (fun W => WinAt W w.heap.size 1 wc.heap.size 0 k k ((readL q k).map b8) ∧ InqAt W g { q with rd := q.rd + k } ∧ w.grownBy W (some g)) ⟨?_, ?_, ?_⟩ ?_
        · exact hWk.move (by simpa [World.setCell] using hWk.lt) (Below.heap_setCell _ _ _ _ (by show wc.heap.size ≠ g; omega))
        · have h := At.set_ hQk 4096 (.int .i64 (q.rd + k))
          rw [inqC_setrd] at h
          exact h
        · refine only_set ?_ (.inl rfl) _
          exact ⟨hBk.os, hBk.tape, hBk.output, hBk.size, fun i hi _ => hBk.block i hi⟩
        rintro W4 ⟨hW4, hQ4, hO4⟩
        have hrl : (readL q k).length = k := by unfold readL; rw [fnL_len]
        have hback := run_convert_bytes_back (P := Try.prog) W4 104 9 5 ⟨wc.heap.size, 0, none⟩ k (byteL (readL q k)) Try.underlying104 Try.underlying5 Try.underlying9 (own_back (by rw [hrl]; exact hW4))
        rw [byteL_len, hrl, show (⟨(byteL (readL q k)).toArray⟩ : ByteArray) = byteS (readL q k) from rfl] at hback
        clear hrl r1 r5
        generalize hT : byteS (readL q k) = T at *
        have HT := Lib.hid hT
        clear hT
        go_wp2_with fail
        go_ret
        exact ⟨ret_val (by rw [HT.out]; rfl), hQ4, hO4⟩
end Go.Proofs.Ytfpifahkpkjfgaa
