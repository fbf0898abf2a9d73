/- Contracts of ports: clash. Written by my genbc.py. -/
import Derived.Test.YtppjmhkecogbcaaBndD
import Derived.Test.YtppjmhkecogbcaaBndE
namespace Go.Proofs.Ytppjmhkecogbcaa
open Go.RowKit Go.Lib
set_option linter.unusedVariables false
set_option linter.unusedSimpArgs false

theorem pclash_any (a b : KBound) (w : World) : Calls Try.prog 35 #[.agg (cBound a).toArray, .agg (cBound b).toArray] w fun e w' => e = .returned (.bool (pClash a b)) ∧ Below w.heap.size w w' := by
  obtain ⟨pr, la, lp, ra, rp, sh, ow⟩ := a
  obtain ⟨pr', la', lp', ra', rp', sh', ow'⟩ := b
  by_cases h1 : pr = pr'
  · subst h1
    by_cases h2 : lp = lp'
    · subst h2
      by_cases h3 : KEnd.mk ra rp = KEnd.mk ra' rp'
      · obtain ⟨rfl, rfl⟩ : ra = ra' ∧ rp = rp' := by injection h3 with e1 e2; exact ⟨e1, e2⟩
        by_cases h4 : la = la'
        · subst h4
          cases sh
          · exact pclash_10 w
          · cases sh'
            · exact pclash_11 w
            · by_cases h5 : rp = 0
              · subst h5; exact pclash_13 w
              · exact pclash_12 w h5
        · by_cases h5 : la = 0
          · subst h5
            have h6 : la' ≠ 0 := fun e => h4 e.symm
            cases sh
            · exact pclash_4 w h6 h4
            · cases sh'
              · exact pclash_5 w h6 h4
              · exact pclash_6 w h6 h4
          · by_cases h6 : la' = 0
            · subst h6
              cases sh
              · exact pclash_7 w h5
              · cases sh'
                · exact pclash_8 w h5
                · exact pclash_9 w h5
            · exact pclash_3 w h4 h5 h6
      · exact pclash_2 w h3
    · exact pclash_1 w h2
  · exact pclash_0 w h1
end Go.Proofs.Ytppjmhkecogbcaa
