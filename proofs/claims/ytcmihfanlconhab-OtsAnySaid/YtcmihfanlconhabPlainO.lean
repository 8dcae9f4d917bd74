/- Signed once: plain laws. Conditions: none. -/
import Derived.Test.YtcmihfanlconhabSig
namespace Go.Proofs.Ytcmihfanlconhab
theorem chainN_add (s : UInt64) : ∀ (a b : Nat) (x : UInt64), chainN s a (chainN s b x) = chainN s (a + b) x
  | 0, b, x => by simp [chainN]
  | a + 1, b, x => by rw [show a + 1 + b = (a + b) + 1 by omega]; simp only [chainN]; rw [chainN_add s a b x]
theorem chain_on (s : UInt64) (n : Nat) (h : n ≤ 15) (x : UInt64) : chainN s (steps (15 - (n : Int))) (chainN s (steps (n : Int)) x) = chainN s 15 x := by
  rw [chainN_add]
  congr 1
  unfold steps
  split <;> split <;> omega
/-- What was signed leads back to the public end. -/
theorem rec_sign (l : List UInt64) (d : UInt64) : recL (signL l d) d = pubL l := by
  unfold recL signL pubL
  congr 1
  rw [List.mapIdx_mapIdx]
  apply List.ext_getElem
  · simp
  · intro k h1 h2
    simp only [List.getElem_mapIdx, Function.comp]
    exact chain_on _ _ (digitsL_le d k) _
theorem signL_len (l : List UInt64) (d : UInt64) : (signL l d).length = l.length := by simp [signL]
def s73 : List UInt64 := secL 7 3
def g5 : List UInt64 := signL s73 5
def n16 : List Nat := digitsL 16
theorem kO1 : recL g5 5 == pubL s73 := by rw [beq_iff_eq]; exact rec_sign _ _
theorem kO2 : (recL g5 6 == pubL s73) = false := by decide +kernel
theorem kO3 : n16 = [0, 0, 0, 0, 0, 0, 0, 0, 0, 0, 0, 0, 0, 0, 1, 0, 14, 15] := by decide +kernel
theorem kO4 : (s73.getD 0 0 == s73.getD 1 0) = false := by decide +kernel
end Go.Proofs.Ytcmihfanlconhab
