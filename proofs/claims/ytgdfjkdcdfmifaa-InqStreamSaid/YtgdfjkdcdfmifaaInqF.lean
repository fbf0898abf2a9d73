/- Put, whatever comes. -/
import Derived.Test.YtgdfjkdcdfmifaaInqE
import Derived.Test.YtgdfjkdcdfmifaaInqS
namespace Go.Proofs.Ytgdfjkdcdfmifaa
open Go.RowKit
set_option linter.unusedVariables false

theorem Put_all (g : Nat) (q : IQ) (at_ : Int) (S : ByteArray) (fin : Bool) (w : World) (hQ : InqAt w g q) (ok : IqOk q) (ha : -9223372036854775808 ≤ at_) (ha' : at_ ≤ 9223372036854775807) (hs : S.size ≤ 140737488351232) :
    Calls Try.prog 33 #[.pointer (some ⟨g, 0, none⟩), .int .i64 at_, .string S, .bool fin] w fun e w' => e = .returned (.bool (decide (q.nx < (putQ q at_ S fin).nx))) ∧ InqAt w' g (putQ q at_ S fin) ∧ w.grownBy w' (some g) := by
  by_cases hid : idle q at_
  · refine (Put_none g q at_ S fin w hQ ha ha' hid).mono ?_
    rintro e w' ⟨rfl, rfl⟩
    rw [putQ_idle S fin hid]
    exact ⟨ret_bool (by simp), hQ, only_refl _ _⟩
  · have hov := idle_open hid
    unfold idle at hid
    exact Put_any g q at_ S fin w hQ ok hov (by omega) (by omega) (by omega)
theorem put_nx {q : IQ} (ok : IqOk q) (at_ : Int) (S : ByteArray) (fin : Bool) : q.nx ≤ (putQ q at_ S fin).nx := by
  by_cases hi : idle q at_
  · rw [putQ_idle S fin hi]; exact Int.le_refl _
  · have ho := idle_open hi
    have hn := (nxPut_is ok ho at_ S.size).1
    by_cases hf : nxPut q at_ S.size = finPut q at_ S.size fin
    · rw [putQ_over S fin hi hf]; simp; omega
    · rw [putQ_open S fin hi hf]; exact hn
end Go.Proofs.Ytgdfjkdcdfmifaa
