/- Scan in plain form. -/
import Derived.Test.YtckkfenchjgfhaaDoorLexPure2
namespace Go.Proofs.YtckkfenchjgfhaaDoor

structure Tok where
  kind : Int
  text : List UInt8
  pos : Int

/-- how far the next token and what separates it from the one behind it reach -/
def advL (r : List UInt8) : Nat := (nextL r).2 + skipL (r.drop (nextL r).2)
def tokL (r : List UInt8) (p : Nat) : Tok := ⟨(nextL r).1, r.take (nextL r).2, p⟩
/-- the tokens from a place on, and where an error is -/
def scanT : Nat → List UInt8 → Nat → List Tok → List Tok × Option Nat
  | 0, _, _, acc => (acc, none)
  | f + 1, r, p, acc => if r.isEmpty then (acc, none) else if okNext r then scanT f (r.drop (advL r)) (p + advL r) (acc ++ [tokL r p]) else ([], some p)
def scanAll (l : List UInt8) : List Tok × Option Nat := scanT (l.length + 1) (l.drop (skipL l)) (skipL l) []

theorem nextL_le (l : List UInt8) (h : 0 < l.length) : (nextL l).2 ≤ l.length := by
  unfold nextL
  have h1 := runL_le innerB l
  have h2 := runL_le innerB l.tail
  have h3 := signL_le l
  simp only [List.length_tail] at h2
  repeat' split
  all_goals first | exact h1 | exact h3 | (simp only []; omega)
theorem textL_nil (k : Int) : textL k [] = false := by
  unfold textL; repeat' split
  all_goals rfl
theorem checkL_nil (k : Int) : (checkL k [] 0 == 0) = false := by
  unfold checkL; rw [textL_nil]; split <;> rfl
theorem okNext_pos {l : List UInt8} (h : okNext l = true) : 0 < (nextL l).2 := by
  rcases Nat.eq_zero_or_pos (nextL l).2 with h0 | h0
  · unfold okNext at h; rw [h0, List.take_zero, checkL_nil] at h; cases h
  · exact h0
theorem advL_le (r : List UInt8) (h : 0 < r.length) : advL r ≤ r.length := by
  have h1 := nextL_le r h
  have h2 := skipL_le (r.drop (nextL r).2)
  simp only [List.length_drop] at h2
  unfold advL; omega
theorem scanT_end {f : Nat} {r : List UInt8} {p : Nat} {acc : List Tok} (h : r.length = 0) : scanT f r p acc = (acc, none) := by
  obtain rfl := List.eq_nil_of_length_eq_zero h
  cases f <;> rfl
theorem scanT_step {f : Nat} {r : List UInt8} {p : Nat} {acc : List Tok} (h : 0 < r.length) (ho : okNext r = true) : scanT (f + 1) r p acc = scanT f (r.drop (advL r)) (p + advL r) (acc ++ [tokL r p]) := by
  rw [scanT, if_neg (by cases r <;> simp_all), if_pos ho]
theorem scanT_err {f : Nat} {r : List UInt8} {p : Nat} {acc : List Tok} (h : 0 < r.length) (ho : okNext r = false) : scanT (f + 1) r p acc = ([], some p) := by
  rw [scanT, if_neg (by cases r <;> simp_all), if_neg (by simp [ho])]
end Go.Proofs.YtckkfenchjgfhaaDoor
