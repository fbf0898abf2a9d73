/- Contracts of packetboatkeep: clash. Written by my genbm.py. -/
import Derived.Test.YtalfdbhpaonfjaaBndM
import Derived.Test.YtalfdbhpaonfjaaBndN
namespace Go.Proofs.Ytalfdbhpaonfjaa
open Go.RowKit Go.Lib
set_option linter.unusedVariables false
set_option linter.unusedSimpArgs false

theorem kclash_any (a b : KBound) (w : World) : Calls Try.prog 29 #[.agg (cBound a).toArray, .agg (cBound b).toArray] w fun e w' => e = .returned (.bool (pClash a b)) ∧ Below w.heap.size w w' := by
  obtain ⟨pr, la, lp, ra, rp, sh, ow⟩ := a
  obtain ⟨pr', la', lp', ra', rp', sh', ow'⟩ := b
  by_cases h1 : pr = pr'
  · subst h1
    by_cases h2 : lp = lp'
    · subst h2
      by_cases h3 : KEnd.mk ra rp = KEnd.mk ra' rp'
      · obtain ⟨rfl, rfl⟩ : ra = ra' ∧ rp = rp' := by injection h3 with e1 e2; exact ⟨e1, e2⟩
        by_cases h4 : la = la'
        · subst h4
          cases sh
          · exact kclash_6 w
          · cases sh'
            · exact kclash_7 w
            · by_cases h5 : rp = 0
              · subst h5; exact kclash_9 w
              · exact kclash_8 w h5
        · by_cases h5 : la = 0
          · subst h5
            have h6 : la' ≠ 0 := fun e => h4 e.symm
            exact kclash_4 w h6 h4
          · by_cases h6 : la' = 0
            · subst h6
              exact kclash_5 w h5
            · exact kclash_3 w h4 h5 h6
      · exact kclash_2 w h3
    · exact kclash_1 w h2
  · exact kclash_0 w h1
end Go.Proofs.Ytalfdbhpaonfjaa
