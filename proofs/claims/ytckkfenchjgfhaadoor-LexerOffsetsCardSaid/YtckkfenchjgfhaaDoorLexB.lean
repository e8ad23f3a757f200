/- Word, run, skip of the lexer, for every string: what they return in plain form. -/
import Derived.Test.YtckkfenchjgfhaaDoorLexA
namespace Go.Proofs.YtckkfenchjgfhaaDoor
open Go.RowKit

theorem width_pos (s : ByteArray) (pos : Nat) (h : pos < s.size) : 1 ≤ (Utf8.decode s pos).2 := by
  by_cases ha : (s[pos]'h).toNat < 128
  · rw [decode_ascii s pos h ha]
    exact Nat.le_refl _
  · exact (decode_high s pos h (by omega)).2
theorem toList_get (s : ByteArray) (k : Nat) (h : k < s.size) : s.data.toList[k]'(by simpa using h) = s[k] := rfl
theorem toList_len (s : ByteArray) : s.data.toList.length = s.size := by simp
theorem below_iter (w : World) (s : ByteArray) (p : Nat) : Below w.heap.size w (w.iter s p) := (Below.refl _ _).alloc (Nat.le_refl _) _
theorem empty_no (s : ByteArray) (h : 0 < s.size) : s.toList.isEmpty = false := by
  rw [ByteArray.toList_eq]
  cases hl : s.data.toList with
  | nil => have := toList_len s; rw [hl] at this; simp at this; omega
  | cons => rfl
theorem empty_yes (s : ByteArray) (h : s.size = 0) : s.toList.isEmpty = true := by
  rw [ByteArray.toList_eq]
  cases hl : s.data.toList with
  | nil => rfl
  | cons => have := toList_len s; rw [hl] at this; simp at this; omega

theorem word_nil (s : ByteArray) (w : World) (h : s.size = 0) :
    Calls Tryd.prog 11 #[.string s] w fun e w' => e = .returned (.bool false) ∧ w = w' := by
  have h0 := empty_yes s h
  clear h
  go_enter Tryd.func11, Tryd.ntmps11
  go_wp2_with fail
  go_ret
  exact ⟨rfl, rfl⟩
theorem word_long (s : ByteArray) (w : World) (h : 24 < s.size) :
    Calls Tryd.prog 11 #[.string s] w fun e w' => e = .returned (.bool false) ∧ w = w' := by
  have h0 := empty_no s (by omega)
  go_enter Tryd.func11, Tryd.ntmps11
  go_wp2_with fail
  go_ret
  exact ⟨rfl, rfl⟩
/-- what has been passed of a word's bytes when the position is k -/
def wordTo (l : List UInt8) (k : Nat) : Prop := ∀ j (hj : j < l.length), j < k → letterB l[j] = true ∨ (j ≠ 0 ∧ digitB l[j] = true)
theorem wordTo_step {s : ByteArray} {k : Nat} (hk : k < s.size) (h : wordTo s.data.toList k) (h1 : letterB s[k] = true ∨ (k ≠ 0 ∧ digitB s[k] = true)) : wordTo s.data.toList (k + 1) := by
  intro j hj hlt
  rcases Nat.lt_or_ge j k with hh | hh
  · exact h j hj hh
  · obtain rfl : j = k := by omega
    exact h1
set_option maxHeartbeats 400000 in
theorem word_walk (s : ByteArray) (w : World) (h1 : s.size ≤ 24) (h2 : 0 < s.size) :
    Calls Tryd.prog 11 #[.string s] w fun e w' => e = .returned (.bool (wordL 24 s.data.toList)) ∧ ∃ p, w.iter s p = w' := by
  have h0 := empty_no s h2
  have h24 : decide (24 < (s.size : Int)) = false := by simp; omega
  go_enter Tryd.func11, Tryd.ntmps11
  go_wp2_with fail
  go_loopw [3, 4] (fun _ _ wr => ∃ pos : Nat, wr = w.iter s pos ∧ pos ≤ s.size ∧ wordTo s.data.toList pos) (fun _ _ wr => s.size - wr.iterPos w.heap.size)
  case atStart => exact ⟨0, rfl, by omega, fun j hj h => absurd h (by omega)⟩
  case round =>
    obtain ⟨pos, rfl, hle, hto⟩ := hrel
    by_cases hp : pos < s.size
    · by_cases ha : (s[pos]'hp).toNat < 128
      · have hnx : ∀ ty, (Instr.next (.pointer (some ⟨w.heap.size, 0, none⟩)) true ty).run Tryd.prog (w.iter s pos) = _ := fun ty => run_next_ascii w s pos ty hp ha
        cases hl : isLetter ((s[pos]'hp).toNat : Int)
        · by_cases hz : pos = 0
          · have hzb : ((pos : Int) == 0) = true := by simp [hz]
            have Hf := Lib.hid (wordL_false (most := 24) (l := s.data.toList) (j := pos) (by simpa using hp) hl (.inl hz))
            clear hz
            go_wp2_with (first | (go_at_call 28; refine (letter_no _ _ hl).mono ?_; rintro e w' ⟨rfl, rfl⟩))
            go_ret
            exact ⟨by rw [Hf.out]; rfl, _, rfl⟩
          · have hzb : ((pos : Int) == 0) = false := by simp; omega
            cases hd : isDigit ((s[pos]'hp).toNat : Int)
            · have Hf := Lib.hid (wordL_false (most := 24) (l := s.data.toList) (j := pos) (by simpa using hp) hl (.inr hd))
              clear hz
              go_wp2_with (first | (go_at_call 28; refine (letter_no _ _ hl).mono ?_; rintro e w' ⟨rfl, rfl⟩) | (go_at_call 29; refine (digit_no _ _ hd).mono ?_; rintro e w' ⟨rfl, rfl⟩))
              go_ret
              exact ⟨by rw [Hf.out]; rfl, _, rfl⟩
            · go_wp2_with (first | (go_at_call 28; refine (letter_no _ _ hl).mono ?_; rintro e w' ⟨rfl, rfl⟩) | (go_at_call 29; refine (digit_yes _ _ hd).mono ?_; rintro e w' ⟨rfl, rfl⟩))
              go_roundw
              case rel => exact ⟨pos + 1, rfl, by omega, wordTo_step hp hto (.inr ⟨hz, hd⟩)⟩
              case measure => simp; omega
        · go_wp2_with (first | (go_at_call 28; refine (letter_yes _ _ hl).mono ?_; rintro e w' ⟨rfl, rfl⟩))
          go_roundw
          case rel => exact ⟨pos + 1, rfl, by omega, wordTo_step hp hto (.inl hl)⟩
          case measure => simp; omega
      · have hdec := decode_high s pos hp (by omega)
        obtain ⟨hge, hw1⟩ := hdec
        have hle' := decode_le s pos
        have hl : isLetter ((Utf8.decode s pos).1 : Int) = false := by simp [isLetter]; omega
        have hd : isDigit ((Utf8.decode s pos).1 : Int) = false := by simp [isDigit]; omega
        have hlb : letterB (s[pos]'hp) = false := by simp [letterB, isLetter]; omega
        have hdb : digitB (s[pos]'hp) = false := by simp [digitB, isDigit]; omega
        have Hf := Lib.hid (wordL_false (most := 24) (l := s.data.toList) (j := pos) (by simpa using hp) hlb (.inr hdb))
        have hnx : ∀ ty, (Instr.next (.pointer (some ⟨w.heap.size, 0, none⟩)) true ty).run Tryd.prog (w.iter s pos) = _ := fun ty => run_next_any w s pos ty hp
        clear hlb hdb
        by_cases hz : pos = 0
        · have hzb : ((pos : Int) == 0) = true := by simp [hz]
          clear hz
          go_wp2_with (first | (go_at_call 28; refine (letter_no _ _ hl).mono ?_; rintro e w' ⟨rfl, rfl⟩))
          go_ret
          exact ⟨by rw [Hf.out]; rfl, _, rfl⟩
        · have hzb : ((pos : Int) == 0) = false := by simp; omega
          clear hz
          go_wp2_with (first | (go_at_call 28; refine (letter_no _ _ hl).mono ?_; rintro e w' ⟨rfl, rfl⟩) | (go_at_call 29; refine (digit_no _ _ hd).mono ?_; rintro e w' ⟨rfl, rfl⟩))
          go_ret
          exact ⟨by rw [Hf.out]; rfl, _, rfl⟩
    · have hnx : ∀ ty, (Instr.next (.pointer (some ⟨w.heap.size, 0, none⟩)) true ty).run Tryd.prog (w.iter s pos) = _ := fun ty => run_next_end w s pos ty hp
      go_wp2_with fail
      go_ret
      refine ⟨?_, _, rfl⟩
      rw [wordL_true (by simpa using h2) (by simpa using h1) (fun j hj => hto j hj (by simp at hj; omega))]
      rfl
theorem word_any (s : ByteArray) (w : World) :
    Calls Tryd.prog 11 #[.string s] w fun e w' => e = .returned (.bool (wordL 24 s.data.toList)) ∧ Below w.heap.size w w' := by
  rcases Nat.eq_zero_or_pos s.size with h | h
  · rw [wordL_nil (by simpa using h)]
    exact (word_nil s w h).mono fun e w' ⟨h1, h2⟩ => ⟨h1, h2 ▸ Below.refl _ _⟩
  · rcases Nat.lt_or_ge 24 s.size with h' | h'
    · rw [wordL_long (by simpa using h')]
      exact (word_long s w h').mono fun e w' ⟨h1, h2⟩ => ⟨h1, h2 ▸ Below.refl _ _⟩
    · refine (word_walk s w h' h).mono fun e w' ⟨h1, p, h2⟩ => ⟨h1, h2 ▸ below_iter w s p⟩
end Go.Proofs.YtckkfenchjgfhaaDoor
