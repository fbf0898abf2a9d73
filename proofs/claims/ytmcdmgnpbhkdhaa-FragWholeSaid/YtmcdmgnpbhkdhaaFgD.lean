/- frag: done. Written by my genfg.py. -/
import Derived.Test.YtmcdmgnpbhkdhaaFgR
namespace Go.Proofs.Ytmcdmgnpbhkdhaa
open Go.RowKit Go.Lib
set_option linter.unusedVariables false
set_option linter.unusedSimpArgs false

set_option maxRecDepth 100000 in
set_option maxHeartbeats 8000000 in
theorem done_any (g : Nat) (f : FW) (w : World) (hQ : At w g 118 (fgC f)) (ok : FgOk f) :
    Calls Try.prog 51 #[.pointer (some ⟨g, 0, none⟩)] w fun e w' => e = .returned (.bool (doneB f)) ∧ Below w.heap.size w w' := by
  have c0 : w.cell? ⟨g, 8000, none⟩ = some (.int .i64 f.en) := (hQ.cell 8000).trans (fgC_t f 0)
  have c9 : w.cell? ⟨g, 8011, none⟩ = some (.bool f.kn) := (hQ.cell 8011).trans (fgC_t f 11)
  have HH := Lib.hid (fun k (hk : k < 4000) => (hQ.cell (4000 + k)).trans (fgC_h f k hk))
  have hlt := hQ.lt
  have e1 := ok.en1
  have e2 := ok.en2
  clear hQ ok
  by_cases hn : f.en < 0
  · rw [doneB_neg hn]
    go_enter Try.func51, Try.ntmps51
    go_wp2_with fail
    go_ret
    exact ⟨rfl, Below.refl _ _⟩
  · obtain ⟨n, hne⟩ : ∃ n : Nat, f.en = (n : Int) := ⟨f.en.toNat, by omega⟩
    have HD := Lib.hid (fun k (h1 : k < n) (h : f.h k = false) => doneB_not (f := f) (k := k) (by omega) h)
    have HA := Lib.hid (fun (h : ∀ k : Nat, k < n → f.h k = true) => doneB_all (f := f) (by omega) (fun k hk => h k (by omega)))
    rw [hne] at c0
    have hn4 : n ≤ 4000 := by omega
    have hn5 : (n : Int) ≤ 4000 := by omega
    have hn0 : (0 : Int) ≤ n := by omega
    clear hne hn e1 e2
    generalize doneB f = d at *
    go_enter Try.func51, Try.ntmps51
    go_upto_region 3 with (fail)
    refine wp_region_later (by kernel_rfl) (by kernel_rfl) (fun hlc => ?_)
    repeat (go_big_quiet_step (fail))
    refine wpQuiet_nil ?_
    intro wq hbq
    clear hlc
    go_upto_region 4 with (fail)
    go_wp2_with fail
    go_loopg [19] n (fun gh i wr => ∃ k : Nat, gh = n - k ∧ k ≤ n ∧ i = .int .i64 k ∧ Below w.heap.size w wr ∧ Hid (∀ j : Nat, j < k → f.h j = true))
    case atStart => exact ⟨0, by omega, by omega, rfl, hbq, Lib.hid (fun j h => by omega)⟩
    case round =>
      clear hbq c0
      obtain ⟨k, hgk, hk, rfl, hB, HP⟩ := hrel
      have HGK := Lib.hid hgk
      clear hgk
      by_cases hkn : k < n
      · have d1 := (hB.cell (p := ⟨g, 4000 + k, none⟩) hlt).trans (HH.out k (by omega))
        obtain ⟨hb, hhb⟩ : ∃ z, z = f.h k := ⟨_, rfl⟩
        rw [← hhb] at d1
        have HHB := Lib.hid hhb
        clear hhb
        cases hb
        · have HDD := Lib.hid (HD.out k hkn HHB.out.symm)
          go_wp2_with fail
          go_ret
          exact ⟨by rw [HDD.out]; rfl, hB⟩
        · go_wp2_with fail
          go_roundg (n - (k + 1))
          case measure => have := HGK.out; omega
          case rel => exact ⟨k + 1, rfl, by omega, by go_num, hB, Lib.hid (fun j hj => by
            by_cases e : j = k
            · rw [e]; exact HHB.out.symm
            · exact HP.out j (by omega))⟩
      · obtain rfl : n = k := by omega
        have d9 := (hB.cell (p := ⟨g, 8011, none⟩) hlt).trans c9
        have HDD := Lib.hid (HA.out HP.out)
        clear c9
        go_wp2_with fail
        go_ret
        exact ⟨by rw [HDD.out]; rfl, hB⟩

end Go.Proofs.Ytmcdmgnpbhkdhaa
