/- The plain law of a segment between other ends. -/
import Derived.Test.YtpjcbjacdkobmaaWTcpAgain
namespace Go.Proofs.Ytpjcbjacdkobmaa
set_option linter.unusedVariables false

/-- the halves of two addresses -/
def halves (a b : Int) : Int := a / 65536 + a % 65536 + b / 65536 + b % 65536
theorem pseu_sum (s d n : Int) (hs : 0 ≤ s ∧ s ≤ 4294967295) (hd : 0 ≤ d ∧ d ≤ 4294967295) (hn : 0 ≤ n) : wsum (byteL (pseuL s d 6 n)) = halves s d + 6 + n % 65536 := by
  have key : ∀ x : Int, ((UInt8.ofNat (x % 256).toNat).toNat : Int) = x % 256 := fun x => by
    rw [UInt8.toNat_ofNat']; omega
  unfold pseuL byteL halves
  simp only [List.map_cons, List.map_nil, wsum, key]
  omega
theorem tcX_mod (s d : Int) (t : ByteArray) (hs : 0 ≤ s ∧ s ≤ 4294967295) (hd : 0 ≤ d ∧ d ≤ 4294967295) : tcX s d t % 65535 = (halves s d + (6 + (t.size : Int) % 65536 + wsum t.data.toList)) % 65535 := by
  unfold tcX sumZ
  have h1 := wsum_lo (byteL (pseuL s d 6 (t.size : Int)) ++ t.data.toList)
  rw [foldZ_mod _ h1, wsum_app_even _ _ (by rw [byteL_len]; simp [pseuL]), pseu_sum s d _ hs hd (by omega)]
  congr 1
  omega
theorem tc_other (s d a b : Int) (t : ByteArray) (hs : 0 ≤ s ∧ s ≤ 4294967295) (hd : 0 ≤ d ∧ d ≤ 4294967295) (ha : 0 ≤ a ∧ a ≤ 4294967295) (hb : 0 ≤ b ∧ b ≤ 4294967295) (h : halves s d % 65535 ≠ halves a b % 65535) : tcSum s d t ≠ tcSum a b t := by
  have h1 := tcX_mod s d t hs hd
  have h2 := tcX_mod a b t ha hb
  unfold tcSum
  intro e
  have e2 : tcX s d t = tcX a b t := by omega
  rw [e2] at h1
  rw [h1] at h2
  omega
end Go.Proofs.Ytpjcbjacdkobmaa
