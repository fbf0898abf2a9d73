/- The walk of AddrSizes: it returns true. -/
import Derived.Test.YtlehknaiddidaaaDoorSizC
namespace Go.Proofs.YtlehknaiddidaaaDoor
open Go.RowKit
set_option linter.unusedVariables false

set_option maxRecDepth 100000 in
set_option maxHeartbeats 2000000 in
theorem addrSizes_any (a b c : Nat) (w : World) (h1 : a ≤ 4294967295) (h2 : b ≤ 4294967295) (h3 : c ≤ 4294967295) (hT : Tab w) :
    Calls Tryd.prog 3 #[.int .u32 (a : Int), .int .u32 (b : Int), .int .u32 (c : Int)] w fun e w' => e = .returned (.bool true) ∧ Below w.heap.size w w' := by
  have HT := Lib.hid hT
  clear hT
  have hM := (Mem.nil w).atNew 22 [.int .u32 (a : Int), .int .u32 (b : Int), .int .u32 (c : Int)]
  obtain ⟨g, hg⟩ : ∃ g, w.heap.size = g := ⟨_, rfl⟩
  simp only [List.nil_append] at hM
  go_enter Tryd.func3, Tryd.ntmps3
  go_upto_region 3 with fail
  refine wp_gen (fun W => Mem w W [atR w.heap.size 22 [.int .u32 (a : Int), .int .u32 (b : Int), .int .u32 (c : Int)]]) hM ?_
  clear hM
  intro W hM
  rw [hg] at hM
  clear hg
  go_wp2_with fail
  go_loopw [17] (fun vi wr => ∃ (i : Int) (x y z : Nat), vi = .int .i64 i ∧ 0 ≤ i ∧ i ≤ 3 ∧ x ≤ 4294967295 ∧ y ≤ 4294967295 ∧ z ≤ 4294967295 ∧ (2 ≤ i → x ≤ y) ∧ (3 ≤ i → y ≤ z) ∧ Mem w wr [atR g 22 [.int .u32 (x : Int), .int .u32 (y : Int), .int .u32 (z : Int)]]) (fun vi _ => 3 - (intOf vi).toNat)
  case atStart => exact ⟨0, a, b, c, rfl, by omega, by omega, h1, h2, h3, by omega, by omega, hM⟩
  case round =>
    obtain ⟨i, x, y, z, rfl, hi0, hi, x1, y1, z1, f1, f2, hM⟩ := hrel
    clear h1 h2 h3
    by_cases hi0 : i = 0
    · subst hi0
      go_wp2_with fail
      go_loopw [24] (fun vk wr => ∃ (k : Int) (x y z : Nat), vk = .int .i64 k ∧ 0 ≤ k ∧ k ≤ 0 ∧ x ≤ 4294967295 ∧ y ≤ 4294967295 ∧ z ≤ 4294967295 ∧ True ∧ Mem w wr [atR g 22 [.int .u32 (x : Int), .int .u32 (y : Int), .int .u32 (z : Int)]]) (fun vk _ => 0 - (intOf vk).toNat)
      case atStart => exact ⟨0, x, y, z, rfl, by omega, by omega, x1, y1, z1, by trivial, hM⟩
      case round =>
        obtain ⟨k, x, y, z, rfl, hk0, hk, x1, y1, z1, hf, hM⟩ := hrel
        have hc := hM.cells 0 rfl
        have hlt := hM.lt 0 rfl
        have hA := hM.at_ 0 rfl
        have hfr := hM.free 0 rfl
        obtain rfl : k = 0 := by omega
        clear hc hlt hA hfr
        go_wp2_with fail
        go_roundw
        case rel => exact ⟨1, x, y, z, rfl, by omega, by omega, x1, y1, z1, by omega, by omega, hM⟩
        case measure => simp [intOf]
    by_cases hi1 : i = 1
    · subst hi1
      go_wp2_with fail
      go_loopw [24] (fun vk wr => ∃ (k : Int) (x y z : Nat), vk = .int .i64 k ∧ 0 ≤ k ∧ k ≤ 1 ∧ x ≤ 4294967295 ∧ y ≤ 4294967295 ∧ z ≤ 4294967295 ∧ (1 ≤ k → x ≤ y) ∧ Mem w wr [atR g 22 [.int .u32 (x : Int), .int .u32 (y : Int), .int .u32 (z : Int)]]) (fun vk _ => 1 - (intOf vk).toNat)
      case atStart => exact ⟨0, x, y, z, rfl, by omega, by omega, x1, y1, z1, by omega, hM⟩
      case round =>
        obtain ⟨k, x, y, z, rfl, hk0, hk, x1, y1, z1, hf, hM⟩ := hrel
        have hc := hM.cells 0 rfl
        have hlt := hM.lt 0 rfl
        have hA := hM.at_ 0 rfl
        have hfr := hM.free 0 rfl
        by_cases hk0 : k = 0
        · subst hk0
          by_cases hgt : y < x
          · have g1 : decide (y < x) = true := by simpa using hgt
            have g2 : decide ((y : Int) < (x : Int)) = true := by simpa using hgt
            go_wp2_with fail
            go_quiet (fail)
            go_wp2_with fail
            go_region
            all_goals go_wp2_with fail
            go_roundw
            case rel =>
              refine ⟨1, y, x, z, rfl, by omega, by omega, by omega, by omega, by omega, by omega, hM.atPut 0 rfl ?_ ?_⟩
              · repeat' (first | with_reducible exact only_refl _ _ | with_reducible assumption | with_reducible refine only_drew ?_ | with_reducible refine only_dn ?_ _ | with_reducible refine only_alloc ?_ _ | with_reducible refine only_set ?_ (.inl rfl) _ | with_reducible refine only_set ?_ (.inr (by simp)) _ | (refine only_below ?_ (by with_reducible assumption)) | (refine only_trans ?_ (by with_reducible assumption)))
              · apply At.conv
                case h => repeat' (first | with_reducible exact hA | with_reducible apply At.set_ | with_reducible apply At.drew | with_reducible apply At.drewN | with_reducible apply At.alloc)
                case e => rfl
            case measure => simp [intOf]
          · have g1 : decide (y < x) = false := by simpa using hgt
            have g2 : decide ((y : Int) < (x : Int)) = false := by simpa using hgt
            go_wp2_with fail
            go_quiet (fail)
            go_wp2_with fail
            go_roundw
            case rel => exact ⟨1, x, y, z, rfl, by omega, by omega, x1, y1, z1, by omega, hM.kept (below_dn (Below.refl _ _) _)⟩
            case measure => simp [intOf]
        obtain rfl : k = 1 := by omega
        clear hc hlt hA hfr
        go_wp2_with fail
        go_roundw
        case rel => exact ⟨2, x, y, z, rfl, by omega, by omega, x1, y1, z1, by omega, by omega, hM⟩
        case measure => simp [intOf]
    by_cases hi2 : i = 2
    · subst hi2
      go_wp2_with fail
      go_loopw [24] (fun vk wr => ∃ (k : Int) (x y z : Nat), vk = .int .i64 k ∧ 0 ≤ k ∧ k ≤ 2 ∧ x ≤ 4294967295 ∧ y ≤ 4294967295 ∧ z ≤ 4294967295 ∧ (x ≤ y ∧ (1 ≤ k → x ≤ z) ∧ (2 ≤ k → y ≤ z)) ∧ Mem w wr [atR g 22 [.int .u32 (x : Int), .int .u32 (y : Int), .int .u32 (z : Int)]]) (fun vk _ => 2 - (intOf vk).toNat)
      case atStart => exact ⟨0, x, y, z, rfl, by omega, by omega, x1, y1, z1, by omega, hM⟩
      case round =>
        obtain ⟨k, x, y, z, rfl, hk0, hk, x1, y1, z1, hf, hM⟩ := hrel
        have hc := hM.cells 0 rfl
        have hlt := hM.lt 0 rfl
        have hA := hM.at_ 0 rfl
        have hfr := hM.free 0 rfl
        by_cases hk0 : k = 0
        · subst hk0
          by_cases hgt : z < x
          · have g1 : decide (z < x) = true := by simpa using hgt
            have g2 : decide ((z : Int) < (x : Int)) = true := by simpa using hgt
            go_wp2_with fail
            go_quiet (fail)
            go_wp2_with fail
            go_region
            all_goals go_wp2_with fail
            go_roundw
            case rel =>
              refine ⟨1, z, y, x, rfl, by omega, by omega, by omega, by omega, by omega, by omega, hM.atPut 0 rfl ?_ ?_⟩
              · repeat' (first | with_reducible exact only_refl _ _ | with_reducible assumption | with_reducible refine only_drew ?_ | with_reducible refine only_dn ?_ _ | with_reducible refine only_alloc ?_ _ | with_reducible refine only_set ?_ (.inl rfl) _ | with_reducible refine only_set ?_ (.inr (by simp)) _ | (refine only_below ?_ (by with_reducible assumption)) | (refine only_trans ?_ (by with_reducible assumption)))
              · apply At.conv
                case h => repeat' (first | with_reducible exact hA | with_reducible apply At.set_ | with_reducible apply At.drew | with_reducible apply At.drewN | with_reducible apply At.alloc)
                case e => rfl
            case measure => simp [intOf]
          · have g1 : decide (z < x) = false := by simpa using hgt
            have g2 : decide ((z : Int) < (x : Int)) = false := by simpa using hgt
            go_wp2_with fail
            go_quiet (fail)
            go_wp2_with fail
            go_roundw
            case rel => exact ⟨1, x, y, z, rfl, by omega, by omega, x1, y1, z1, by omega, hM.kept (below_dn (Below.refl _ _) _)⟩
            case measure => simp [intOf]
        by_cases hk1 : k = 1
        · subst hk1
          by_cases hgt : z < y
          · have g1 : decide (z < y) = true := by simpa using hgt
            have g2 : decide ((z : Int) < (y : Int)) = true := by simpa using hgt
            go_wp2_with fail
            go_quiet (fail)
            go_wp2_with fail
            go_region
            all_goals go_wp2_with fail
            go_roundw
            case rel =>
              refine ⟨2, x, z, y, rfl, by omega, by omega, by omega, by omega, by omega, by omega, hM.atPut 0 rfl ?_ ?_⟩
              · repeat' (first | with_reducible exact only_refl _ _ | with_reducible assumption | with_reducible refine only_drew ?_ | with_reducible refine only_dn ?_ _ | with_reducible refine only_alloc ?_ _ | with_reducible refine only_set ?_ (.inl rfl) _ | with_reducible refine only_set ?_ (.inr (by simp)) _ | (refine only_below ?_ (by with_reducible assumption)) | (refine only_trans ?_ (by with_reducible assumption)))
              · apply At.conv
                case h => repeat' (first | with_reducible exact hA | with_reducible apply At.set_ | with_reducible apply At.drew | with_reducible apply At.drewN | with_reducible apply At.alloc)
                case e => rfl
            case measure => simp [intOf]
          · have g1 : decide (z < y) = false := by simpa using hgt
            have g2 : decide ((z : Int) < (y : Int)) = false := by simpa using hgt
            go_wp2_with fail
            go_quiet (fail)
            go_wp2_with fail
            go_roundw
            case rel => exact ⟨2, x, y, z, rfl, by omega, by omega, x1, y1, z1, by omega, hM.kept (below_dn (Below.refl _ _) _)⟩
            case measure => simp [intOf]
        obtain rfl : k = 2 := by omega
        clear hc hlt hA hfr
        go_wp2_with fail
        go_roundw
        case rel => exact ⟨3, x, y, z, rfl, by omega, by omega, x1, y1, z1, by omega, by omega, hM⟩
        case measure => simp [intOf]
    obtain rfl : i = 3 := by omega
    have f1 := f1 (by omega)
    have f2 := f2 (by omega)
    obtain ⟨e, he⟩ : ∃ e, z + 1 = e := ⟨_, rfl⟩
    obtain ⟨d, hd⟩ : ∃ d, y + 1 = d := ⟨_, rfl⟩
    have hT2 : Tab wr := HT.out.kept hM.b
    have hc := hM.cells 0 rfl
    have hlt := hM.lt 0 rfl
    have S1 := Lib.hid (fun (u : Later wr) => size_any x z e u.now he (by omega) (by omega) (by omega) (hT2.kept u.still))
    have n1 : ((e : Int) - (x : Int) != (z : Int) - (x : Int) + 1) = false := by simp; omega
    go_upto_region 13 with fail
    refine wp_region_later (by kernel_rfl) (by kernel_rfl) (fun hlc => ?_)
    repeat (go_big_quiet_step ((go_at_call 5; with_reducible exact later_call (S1.out _))))
    refine wpQuiet_nil ?_
    intro wq hbq
    clear hlc hc hlt S1
    have hT3 := hT2.kept hbq
    replace hM := hM.kept hbq
    clear hbq hT2
    have hc := hM.cells 0 rfl
    have hlt := hM.lt 0 rfl
    go_upto_region 15 with fail
    by_cases hy : y = 4294967295
    · have p1 : ((y : Int) == 4294967295) = true := by simp; omega
      refine wp_region_later (by kernel_rfl) (by kernel_rfl) (fun hlc => ?_)
      repeat (go_big_quiet_step (fail))
      refine wpQuiet_nil ?_
      intro wz hbz
      clear hlc hc hlt
      go_wp2_with fail
      go_ret
      exact ⟨rfl, (hM.kept hbz).b⟩
    · have p1 : ((y : Int) == 4294967295) = false := by simp; omega
      by_cases hz : y = z
      · obtain rfl : z = y := hz.symm
        clear hz
        have p2 : ((z : Int) == (z : Int)) = true := by simp
        have p3 : (z == z) = true := by simp
        refine wp_region_later (by kernel_rfl) (by kernel_rfl) (fun hlc => ?_)
        repeat (go_big_quiet_step (fail))
        refine wpQuiet_nil ?_
        intro wz hbz
        clear hlc hc hlt
        go_wp2_with fail
        go_ret
        exact ⟨rfl, (hM.kept hbz).b⟩
      · have p2 : ((y : Int) == (z : Int)) = false := by simp; omega
        have p3 : (y == z) = false := by simpa using hz
        have S1 := Lib.hid (fun (u : Later wq) => size_any x y d u.now hd (by omega) (by omega) (by omega) (hT3.kept u.still))
        have S2 := (fun (u : Later wq) => size_any d z e u.now he (by omega) (by omega) (by omega) (hT3.kept u.still))
        have hdc : (d : Int) = (y : Int) + 1 := by omega
        rw [hdc] at S2
        have S2 := Lib.hid S2
        have S3 := Lib.hid (fun (u : Later wq) => size_any x z e u.now he (by omega) (by omega) (by omega) (hT3.kept u.still))
        have n2 : ((d : Int) - (x : Int) + ((e : Int) - ((y : Int) + 1)) == (e : Int) - (x : Int)) = true := by simp; omega
        clear hdc
        refine wp_region_later (by kernel_rfl) (by kernel_rfl) (fun hlc => ?_)
        repeat (go_big_quiet_step ((go_at_call 5; first | (with_reducible exact later_call (S1.out _)) | (with_reducible exact later_call (S2.out _)) | (with_reducible exact later_call (S3.out _)))))
        refine wpQuiet_nil ?_
        intro wz hbz
        clear hlc hc hlt
        go_wp2_with fail
        go_ret
        exact ⟨rfl, (hM.kept hbz).b⟩
theorem w_AddrSizes (a0 : Int) (a1 : Int) (a2 : Int) (w : World) (hT : Tab w) (ha0 : 0 ≤ a0) (ha0' : a0 ≤ 4294967295) (ha1 : 0 ≤ a1) (ha1' : a1 ≤ 4294967295) (ha2 : 0 ≤ a2) (ha2' : a2 ≤ 4294967295) :
    Calls Tryd.prog 3 #[.int .u32 a0, .int .u32 a1, .int .u32 a2] w fun e w' => e = .returned (.bool true) ∧ Below w.heap.size w w' := by
  obtain ⟨a, rfl⟩ := Int.eq_ofNat_of_zero_le ha0
  obtain ⟨b, rfl⟩ := Int.eq_ofNat_of_zero_le ha1
  obtain ⟨c, rfl⟩ := Int.eq_ofNat_of_zero_le ha2
  exact addrSizes_any a b c w (by omega) (by omega) (by omega) hT
end Go.Proofs.YtlehknaiddidaaaDoor
