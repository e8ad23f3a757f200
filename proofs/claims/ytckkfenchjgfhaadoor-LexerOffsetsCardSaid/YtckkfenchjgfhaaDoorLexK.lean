/- next of the lexer in one word. -/
import Derived.Test.YtckkfenchjgfhaaDoorLexJ
namespace Go.Proofs.YtckkfenchjgfhaaDoor
open Go.RowKit

theorem tail_head {s : ByteArray} (h : 1 < s.size) : s.data.toList.tail.head?.getD 0 = s[1] := by
  have h1 := drop_get s 1 h
  rw [← List.drop_one, h1]; rfl
theorem byte45 {c : UInt8} {b : Bool} (h : ((c.toNat : Int) == 45) = b) : (c.toNat == 45) = b := by
  subst h
  cases h : c.toNat == 45 <;> simp at h ⊢ <;> omega
theorem nextL_word {s : ByteArray} (h0 : 0 < s.size) (hl : isLetter ((s[0]'h0).toNat : Int) = true) (hsl : hasSlash (s.data.toList.take (runL innerB s.data.toList)) = false) : nextL s.data.toList = (1, runL innerB s.data.toList) := by
  unfold nextL; rw [head_get h0, if_pos (show letterB _ = true from hl), if_neg (by simp [hsl])]
theorem nextL_label {s : ByteArray} (h0 : 0 < s.size) (hl : isLetter ((s[0]'h0).toNat : Int) = true) (hsl : hasSlash (s.data.toList.take (runL innerB s.data.toList)) = true) : nextL s.data.toList = (2, runL innerB s.data.toList) := by
  unfold nextL; rw [head_get h0, if_pos (show letterB _ = true from hl), if_pos hsl]
theorem nextL_num {s : ByteArray} (h0 : 0 < s.size) (hl : isLetter ((s[0]'h0).toNat : Int) = false) (hd : isDigit ((s[0]'h0).toNat : Int) = true) : nextL s.data.toList = (3, 1 + runL innerB s.data.toList.tail) := by
  unfold nextL; rw [head_get h0, if_neg (by simp [letterB, hl]), if_pos (by simp [digitB, hd])]
theorem nextL_neg {s : ByteArray} (h0 : 0 < s.size) (hl : isLetter ((s[0]'h0).toNat : Int) = false) (hm : (((s[0]'h0).toNat : Int) == 45) = true) (h1 : 1 < s.size) (hd1 : isDigit ((s[1]'h1).toNat : Int) = true) : nextL s.data.toList = (3, 1 + runL innerB s.data.toList.tail) := by
  unfold nextL; rw [head_get h0, tail_head h1, if_neg (by simp [letterB, hl]), byte45 hm, if_pos (by simp [digitB, hd1, h1])]
theorem nextL_sign {s : ByteArray} (h0 : 0 < s.size) (hl : isLetter ((s[0]'h0).toNat : Int) = false) (hd : isDigit ((s[0]'h0).toNat : Int) = false) (hm : (((s[0]'h0).toNat : Int) == 45) = false) : nextL s.data.toList = (4, signL s.data.toList) := by
  unfold nextL; rw [head_get h0, if_neg (by simp [letterB, hl]), byte45 hm, if_neg (by simp [digitB, hd])]
theorem nextL_minus1 {s : ByteArray} (h0 : 0 < s.size) (hl : isLetter ((s[0]'h0).toNat : Int) = false) (hd : isDigit ((s[0]'h0).toNat : Int) = false) (h1 : s.size ≤ 1) : nextL s.data.toList = (4, signL s.data.toList) := by
  unfold nextL; rw [head_get h0, if_neg (by simp [letterB, hl]), if_neg (by have : ¬ 1 < s.size := by omega
                                                                            simp [digitB, hd, this])]
theorem nextL_minus {s : ByteArray} (h0 : 0 < s.size) (hl : isLetter ((s[0]'h0).toNat : Int) = false) (hd : isDigit ((s[0]'h0).toNat : Int) = false) (h1 : 1 < s.size) (hd1 : isDigit ((s[1]'h1).toNat : Int) = false) : nextL s.data.toList = (4, signL s.data.toList) := by
  unfold nextL; rw [head_get h0, tail_head h1, if_neg (by simp [letterB, hl]), if_neg (by simp [digitB, hd, hd1])]
theorem next_any (s : ByteArray) (w : World) (hs : s.size ≤ maxLen) (h0 : 0 < s.size) :
    Calls Tryd.prog 34 #[.string s] w fun e w' => e = .returned (.tuple #[.agg #[.int .i64 (nextL s.data.toList).1, .string (s.extract 0 (nextL s.data.toList).2), .int .i64 0], .bool (okNext s.data.toList)]) ∧ Below w.heap.size w w' := by
  unfold okNext
  cases hl : isLetter ((s[0]'h0).toNat : Int)
  · cases hd : isDigit ((s[0]'h0).toNat : Int)
    · cases hm : (((s[0]'h0).toNat : Int) == 45)
      · rw [nextL_sign h0 hl hd hm]; exact next_sign s w h0 hl hd hm
      · rcases Nat.lt_or_ge 1 s.size with h1 | h1
        · cases hd1 : isDigit ((s[1]'h1).toNat : Int)
          · rw [nextL_minus h0 hl hd h1 hd1]; exact next_minus s w h0 hl hd hm h1 hd1
          · rw [nextL_neg h0 hl hm h1 hd1, tail_extract]; exact next_neg s w hs h0 hl hd hm h1 hd1 _ rfl
        · rw [nextL_minus1 h0 hl hd h1]; exact next_minus1 s w h0 hl hd hm h1
    · rw [nextL_num h0 hl hd, tail_extract]; exact next_num s w hs h0 hl hd _ rfl
  · cases hsl : hasSlash (s.data.toList.take (runL innerB s.data.toList))
    · rw [nextL_word h0 hl hsl]; exact next_word s w hs h0 hl hsl
    · rw [nextL_label h0 hl hsl]; exact next_label s w hs h0 hl hsl
end Go.Proofs.YtckkfenchjgfhaaDoor
