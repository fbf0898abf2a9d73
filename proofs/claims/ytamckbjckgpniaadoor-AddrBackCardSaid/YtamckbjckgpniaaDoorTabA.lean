/- What the listed variables give AddrBack's walk. -/
import Derived.Test.YtamckbjckgpniaaDoorAdP
import Derived.Test.YtamckbjckgpniaaDoorKit
import Derived.Test.YtamckbjckgpniaaDoorRows
import Derived.ProofKit
import Derived.LaidMore
import Derived.Lay
import Derived.OpenShut
import Derived.Stop.Joined
import Derived.Lib.LaidTab
namespace Go.Proofs.YtamckbjckgpniaaDoor
open Go.ChangeShapes Go.WideShapes Go.ChangeAt Go.RowKit
set_option linter.unusedVariables false

def laid1 : List (String × DataW Unit) := [("math/bits.deBruijn32tab", Rows.laid_math_bits_deBruijn32tab), ("math/bits.deBruijn64tab", Rows.laid_math_bits_deBruijn64tab), ("internal/strconv.uint64pow10", Rows.laid_internal_strconv_uint64pow10), ("unicode/utf8.acceptRanges", Rows.laid_unicode_utf8_acceptRanges), ("strconv.ErrRange", Rows.laid_strconv_ErrRange), ("strconv.ErrSyntax", Rows.laid_strconv_ErrSyntax), ("unicode/utf8.first", Rows.laid_unicode_utf8_first)]
theorem met_tail {P : Program} {W : World} {x : String × DataW Unit} {r : List (String × DataW Unit)} (h : laidMet P (x :: r) W) : laidMet P r W := by
  obtain ⟨ps, ⟨g, t, cs, fuel, p, q, hg, ht, hv, hd, hr, rfl⟩, hn, hc⟩ := h
  exact ⟨q, hr, (List.nodup_append.1 hn).2.1, fun b off hm => hc b off (List.mem_append_right _ hm)⟩
theorem sent_trod {P : Program} {w : World} {base : Nat} {sp : Nat → Bool} {fuel : Nat} {t : TypeId} {cs : List Value} {x : DataW Unit × List MemPlace}
    (hi : ∃ m, P.underlying t = some (.interface m)) (hx : ∃ n d, x.1 = .iface n d) (h : DataW.trod (fun _ => ()) P w base sp false fuel t cs = some x) : ∃ u v, cs = [.iface u v] := by
  obtain ⟨m, ht⟩ := hi
  obtain ⟨nm, d, hx⟩ := hx
  cases fuel with
  | zero => simp [DataW.trod] at h
  | succ n =>
    unfold DataW.trod at h
    rw [ht] at h
    split at h <;> simp_all
    subst h
    cases hx
theorem sent_of {P : Program} {W : World} {nm : String} {d : DataW Unit} {r : List (String × DataW Unit)} {g : Nat} {t : TypeId}
    (hg : P.globalNamed nm = some g) (hty : (P.globals[g]?).map (·.type) = some t) (hi : ∃ m, P.underlying t = some (.interface m)) (hx : ∃ n e, d = .iface n e)
    (h : laidMet P ((nm, d) :: r) W) : ∃ tp p, W.var? P nm = some #[.iface tp p] := by
  obtain ⟨ps, ⟨g', t', cs, fuel, p, q, hg', ht', hv, hd, _, _⟩, _⟩ := h
  obtain rfl := Option.some.inj (hg.symm.trans hg')
  obtain rfl := Option.some.inj (hty.symm.trans ht')
  obtain ⟨u, v, e⟩ := sent_trod hi (x := (d, p)) hx hd
  refine ⟨u, v, hv.trans (congrArg some ?_)⟩
  cases cs
  simp_all
theorem gPow : Tryd.prog.globalNamed "internal/strconv.uint64pow10" = some 5 := by kernel_rfl
theorem tPow : (Tryd.prog.globals[5]?).map (·.type) = some 95 := by kernel_rfl
theorem gSyn : Tryd.prog.globalNamed "strconv.ErrSyntax" = some 0 := by kernel_rfl
theorem tSyn : (Tryd.prog.globals[0]?).map (·.type) = some 40 := by kernel_rfl
theorem gRng : Tryd.prog.globalNamed "strconv.ErrRange" = some 1 := by kernel_rfl
theorem tRng : (Tryd.prog.globals[1]?).map (·.type) = some 40 := by kernel_rfl
theorem pow_data : (Rows.laid_internal_strconv_uint64pow10 : DataW Unit) = Lib.tabData .u64 Lib.pow10Tab := by kernel_rfl
theorem tab_of_laid {W : World} (h : laidMetH Tryd.prog laid1 W) : Ad W := by
  rw [MakeChecks.laidMetH_plain _ _ _ (by kernel_rfl)] at h
  have h3 := met_tail (met_tail h)
  have h5 := met_tail (met_tail h3)
  have h6 := met_tail h5
  rw [pow_data] at h3
  exact ⟨Lib.tabIs_of_head gPow tPow Tryd.underlying95 Tryd.underlying38 (by kernel_rfl) (by kernel_rfl) h3,
    sent_of gSyn tSyn ⟨_, Tryd.underlying40⟩ ⟨_, _, rfl⟩ h6,
    sent_of gRng tRng ⟨_, Tryd.underlying40⟩ ⟨_, _, rfl⟩ h5⟩
theorem lay_os (os : Os) : (World.laidAll Tryd.prog os laid1).os = os := World.laidAll_os _ _ _
theorem lay_shaped (os : Os) : (World.laidAll Tryd.prog os laid1).Shaped Tryd.prog := World.shaped_of_ZipB (by kernel_rfl) (by kernel_rfl)
theorem lay_met (os : Os) (args : Array Value) : laidMetH Tryd.prog laid1 ((World.laidAll Tryd.prog os laid1).forCall (fun _ _ => 0) ⟨#[], args, []⟩).memory := by
  rw [MakeChecks.laidMetH_plain _ _ _ (by kernel_rfl)]; exact laidMet_laidAll _ (by kernel_rfl) (by kernel_rfl)
end Go.Proofs.YtamckbjckgpniaaDoor
