/- A queue that has seen puts without an end. -/
import Derived.Test.YtgdfjkdcdfmifaaInqL
namespace Go.Proofs.Ytgdfjkdcdfmifaa
open Go.RowKit
set_option linter.unusedVariables false

/-- a queue that has seen puts without an end -/
structure Seen (q : IQ) : Prop where
  ok : IqOk q
  stop : Stop q
  rd : q.rd = 1
  fin : q.fin = -1
  ov : q.over = false
theorem seen_new : Seen newIQ := ⟨⟨by decide, by decide, by decide, by decide, by decide, by decide, fun k => by simp [newIQ]⟩, .inr ⟨.inr rfl, by decide⟩, rfl, rfl, rfl⟩
theorem Seen.put {q : IQ} (h : Seen q) (at_ : Int) (S : ByteArray) : Seen (putQ q at_ S false) := by
  have hfp : finPut q at_ S.size false = -1 := by unfold finPut; rw [if_neg (by simp)]; exact h.fin
  refine ⟨put_ok h.ok (by rw [h.rd]; omega) at_ S false, put_stop h.ok h.stop at_ S false, by rw [put_rd, h.rd], ?_, ?_⟩
  · by_cases hi : idle q at_
    · rw [putQ_idle S false hi]; exact h.fin
    · by_cases hf : nxPut q at_ S.size = finPut q at_ S.size false
      · rw [putQ_over S false hi hf]; exact hfp
      · rw [putQ_open S false hi hf]; exact hfp
  · by_cases hi : idle q at_
    · rw [putQ_idle S false hi]; exact h.ov
    · have hn := nxPut_is h.ok h.ov at_ S.size
      have hr := h.ok.rd1
      have ho := ok_open h.ok h.ov
      have hf : nxPut q at_ S.size ≠ finPut q at_ S.size false := by rw [hfp]; have := hn.1; omega
      rw [putQ_open S false hi hf]
end Go.Proofs.Ytgdfjkdcdfmifaa
