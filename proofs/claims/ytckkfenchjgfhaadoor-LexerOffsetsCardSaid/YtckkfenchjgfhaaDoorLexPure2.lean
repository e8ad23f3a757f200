/- The token at the beginning of a text, in plain form. -/
import Derived.Test.YtckkfenchjgfhaaDoorLexPure
namespace Go.Proofs.YtckkfenchjgfhaaDoor

/-- kind and length of the token at the beginning -/
def nextL (l : List UInt8) : Int × Nat :=
  if letterB (l.head?.getD 0) then (if hasSlash (l.take (runL innerB l)) then 2 else 1, runL innerB l)
  else if digitB (l.head?.getD 0) || ((l.head?.getD 0).toNat == 45 && decide (1 < l.length) && digitB (l.tail.head?.getD 0)) then (3, 1 + runL innerB l.tail)
  else (4, signL l)
def okNext (l : List UInt8) : Bool := checkL (nextL l).1 (l.take (nextL l).2) 0 == 0
theorem prefix_two {l : List UInt8} {a b : UInt8} (h : Lib.hasPrefix l [a, b] = true) : 2 ≤ l.length := by
  unfold Lib.hasPrefix at h
  have := (List.isPrefixOf_iff_prefix.1 h).length_le
  simpa using this
theorem signL_le (l : List UInt8) : signL l ≤ l.length := by
  unfold signL
  split
  · rename_i h
    simp only [Bool.or_eq_true] at h
    rcases h with h | h | h <;> exact prefix_two h
  · cases l with
    | nil => simp
    | cons c r => simp only [List.length_cons]; split <;> omega
end Go.Proofs.YtckkfenchjgfhaaDoor
