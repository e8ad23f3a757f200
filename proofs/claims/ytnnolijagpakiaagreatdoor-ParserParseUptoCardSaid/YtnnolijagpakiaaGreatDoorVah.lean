/- Texts of this proof, part 8: what the proof uses of them. -/
import Derived.Below
import Derived.Lib.Bytealg
import Derived.Lib.Strings
import Derived.Test.YtnnolijagpakiaaGreatDoorProg
import Derived.WalkKit
import Derived.WalkSpells
import Derived.WalkLawsBesides
import Derived.Lib.Hide
import Derived.BigQuiet
import Derived.Deep.QuietTactic
import Derived.Test.YtnnolijagpakiaaGreatDoorVag
namespace Go.Proofs.YtnnolijagpakiaaGreatDoor
section
def isLetter (c : Int) : Bool := decide (97 ≤ c) && decide (c ≤ 122)
def isDigit (c : Int) : Bool := decide (48 ≤ c) && decide (c ≤ 57)
def isRunning (c : Int) : Bool := isLetter c || isDigit c || c == 47
def letterB (c : UInt8) : Bool := isLetter (c.toNat : Int)
def digitB (c : UInt8) : Bool := isDigit (c.toNat : Int)
def alnumB (c : UInt8) : Bool := letterB c || digitB c
def innerB (c : UInt8) : Bool := isRunning (c.toNat : Int)
def wordL (most : Nat) (l : List UInt8) : Bool :=
 match l with
 | [] => false
 | c :: r => decide (r.length + 1 ≤ most) && letterB c && r.all alnumB
theorem wordL_true {most : Nat} {l : List UInt8} (h0 : 0 < l.length) (h1 : l.length ≤ most)
  (h : ∀ j (hj : j < l.length), letterB l[j] = true ∨ (j ≠ 0 ∧ digitB l[j] = true)) : wordL most l = true := by
 cases l with
 | nil => simp at h0
 | cons c r =>
  simp only [wordL, Bool.and_eq_true, decide_eq_true_eq, List.all_eq_true]
  refine ⟨⟨by simpa using h1, ?_⟩, fun x hx => ?_⟩
  ·have := h 0 (by simp)
   simpa using this
  ·obtain ⟨j, hj, rfl⟩ := List.getElem_of_mem hx
   have := h (j + 1) (by simpa using hj)
   simp only [List.getElem_cons_succ] at this
   unfold alnumB
   rcases this with h | ⟨_, h⟩ <;> simp [h]
theorem wordL_false {most : Nat} {l : List UInt8} {j : Nat} (hj : j < l.length) (h1 : letterB l[j] = false) (h2 : j = 0 ∨ digitB l[j] = false) : wordL most l = false := by
 cases l with
 | nil => rfl
 | cons c r =>
  cases j with
  | zero => simp at h1; simp [wordL, h1]
  | succ j =>
   have hj' : j < r.length := by simpa using hj
   simp only [List.getElem_cons_succ] at h1 h2
   have h3 : digitB r[j] = false := by rcases h2 with h | h; · omega
                                       ·exact h
   have : r.all alnumB = false := by
    rw [List.all_eq_false]
    exact ⟨r[j], List.getElem_mem _, by simp [alnumB, h1, h3]⟩
   simp [wordL, this]
theorem wordL_long {most : Nat} {l : List UInt8} (h : most < l.length) : wordL most l = false := by
 cases l with
 | nil => rfl
 | cons c r =>
  have : ¬ (r.length + 1 ≤ most) := by simp at h; omega
  simp [wordL, this]
theorem wordL_nil {most : Nat} {l : List UInt8} (h : l.length = 0) : wordL most l = false := by
 cases l with
 | nil => rfl
 | cons c r => simp at h
def runL (p : UInt8 → Bool) (l : List UInt8) : Nat := (l.takeWhile p).length
theorem runL_le (p : UInt8 → Bool) (l : List UInt8) : runL p l ≤ l.length := by
 unfold runL; exact (List.takeWhile_sublist p).length_le
theorem runL_eq {p : UInt8 → Bool} : ∀ {l : List UInt8} {k : Nat}, k ≤ l.length → (∀ j (hj : j < l.length), j < k → p l[j] = true) → (∀ h : k < l.length, p l[k] = false) → runL p l = k := by
 intro l
 induction l with
 | nil => intro k hk _ _; simp at hk; subst hk; rfl
 | cons c r ih =>
  intro k hk h1 h2
  cases k with
  | zero =>
   have := h2 (by simp)
   simp only [List.getElem_cons_zero] at this
   simp [runL, this]
  | succ k =>
   have hc : p c = true := h1 0 (by simp) (by omega)
   have := ih (k := k) (by simpa using hk) (fun j hj hlt => h1 (j + 1) (by simpa using hj) (by omega)) (fun h => by
    have := h2 (by simpa using h)
    simpa using this)
   unfold runL at this ⊢
   simp [hc, this]
def lineB (c : UInt8) : Bool := (c.toNat : Int) != 10
def skipGo : Bool → List UInt8 → Nat
 | _, [] => 0
 | true, c :: r => if (c.toNat : Int) == 10 then 1 + skipGo false r else 1 + skipGo true r
 | false, c :: r => if (c.toNat : Int) == 32 || (c.toNat : Int) == 10 then 1 + skipGo false r else if (c.toNat : Int) == 35 then 1 + skipGo true r else 0
def skipL (l : List UInt8) : Nat := skipGo false l
theorem skipGo_le : ∀ (b : Bool) (l : List UInt8), skipGo b l ≤ l.length
 | _, [] => by cases ‹Bool› <;> simp [skipGo]
 | true, c :: r => by
  have h1 := skipGo_le false r
  have h2 := skipGo_le true r
  simp only [skipGo, List.length_cons]; split <;> omega
 | false, c :: r => by
  have h1 := skipGo_le false r
  have h2 := skipGo_le true r
  simp only [skipGo, List.length_cons]; repeat' split
  all_goals omega
theorem skipL_le (l : List UInt8) : skipL l ≤ l.length := skipGo_le false l
theorem skipL_nil : skipL [] = 0 := rfl
theorem skipL_blank {c : UInt8} {r : List UInt8} (h : ((c.toNat : Int) == 32) = true ∨ ((c.toNat : Int) == 10) = true) : skipL (c :: r) = 1 + skipL r := by
 unfold skipL; rw [skipGo, if_pos]; rcases h with h | h <;> simp [h]
theorem skipL_stop {c : UInt8} {r : List UInt8} (h1 : ((c.toNat : Int) == 32) = false) (h2 : ((c.toNat : Int) == 10) = false) (h3 : ((c.toNat : Int) == 35) = false) : skipL (c :: r) = 0 := by
 unfold skipL; rw [skipGo, if_neg (by simp [h1, h2]), if_neg (by simp [h3])]
theorem skipGo_line : ∀ r : List UInt8, skipGo true r = runL lineB r + skipL (r.drop (runL lineB r))
 | [] => rfl
 | c :: r => by
  by_cases h : ((c.toNat : Int) == 10) = true
  ·have h' : lineB c = false := by simp only [lineB, bne, h]; rfl
   have e : runL lineB (c :: r) = 0 := by simp [runL, h']
   rw [e, skipGo, if_pos h]
   simp only [List.drop_zero, Nat.zero_add]
   rw [skipL_blank (.inr h)]; rfl
  ·have h' : lineB c = true := by simp only [lineB, bne, Bool.eq_false_iff.2 h]; rfl
   have e : runL lineB (c :: r) = 1 + runL lineB r := by simp [runL, h']; omega
   rw [skipGo, if_neg h, skipGo_line r, e, Nat.add_comm 1 (runL lineB r), List.drop_succ_cons]; omega
theorem skipL_hash {c : UInt8} {r : List UInt8} (h1 : ((c.toNat : Int) == 32) = false) (h2 : ((c.toNat : Int) == 10) = false) (h3 : ((c.toNat : Int) == 35) = true) :
  skipL (c :: r) = runL lineB (c :: r) + skipL ((c :: r).drop (runL lineB (c :: r))) := by
 rw [← skipGo_line, skipGo, if_neg (by simp [h2]), skipL, skipGo, if_neg (by simp [h1, h2]), if_pos h3]
theorem runL_pos {p : UInt8 → Bool} {c : UInt8} {r : List UInt8} (h : p c = true) : 0 < runL p (c :: r) := by simp [runL, h]
def onesL : List UInt8 := [40, 41, 61, 43, 45, 42, 60, 124, 46, 59, 64]
def signL (l : List UInt8) : Nat :=
 if Lib.hasPrefix l [45, 62] || (Lib.hasPrefix l [58, 58] || Lib.hasPrefix l [124, 124]) then 2
 else match l with
  | [] => 0
  | c :: _ => if decide (0 ≤ Lib.indexByte onesL c) then 1 else 0
def numCore (l : List UInt8) : Bool := decide (1 ≤ l.length) && decide (l.length ≤ 9) && !((l.head?.getD 0).toNat == 48 && decide (1 < l.length)) && l.all digitB
def numberL (l : List UInt8) : Bool :=
 if Lib.hasPrefix l [45] then numCore l.tail && !((l.tail.head?.getD 0).toNat == 48) else numCore l
def partsL : List UInt8 → List (List UInt8)
 | [] => [[]]
 | c :: r => if c == 47 then [] :: partsL r else match partsL r with
  | p :: ps => (c :: p) :: ps
  | [] => [[c]]
def labelL (l : List UInt8) : Bool := decide (l.length ≤ 90) && (partsL l).all (wordL 20)
theorem partsL_none {l : List UInt8} (h : Lib.indexByte l 47 = -1) : partsL l = [l] := by
 induction l with
 | nil => rfl
 | cons c r ih =>
  unfold Lib.indexByte at h
  by_cases hc : (c == 47) = true
  ·simp [hc] at h
  ·rw [if_neg hc] at h
   by_cases hr : (Lib.indexByte r 47 == -1) = true
   ·have := ih (by simpa using hr)
    rw [partsL, if_neg hc, this]
   ·rw [if_neg hr] at h
    have := Lib.indexByte_ge r 47
    exfalso; apply hr; simp; omega
theorem partsL_some : ∀ {l : List UInt8} {i : Nat}, Lib.indexByte l 47 = (i : Int) → i < l.length ∧ partsL l = l.take i :: partsL (l.drop (i + 1)) := by
 intro l
 induction l with
 | nil => intro i h; simp [Lib.indexByte] at h
 | cons c r ih =>
  intro i h
  unfold Lib.indexByte at h
  by_cases hc : (c == 47) = true
  ·rw [if_pos hc] at h
   obtain rfl : i = 0 := by omega
   refine ⟨by simp, ?_⟩
   rw [partsL, if_pos hc]; rfl
  ·rw [if_neg hc] at h
   by_cases hr : (Lib.indexByte r 47 == -1) = true
   ·rw [if_pos hr] at h; omega
   ·rw [if_neg hr] at h
    cases i with
    | zero => have := Lib.indexByte_ge r 47; exfalso; apply hr; simp; omega
    | succ i =>
     obtain ⟨h1, h2⟩ := ih (i := i) (by omega)
     refine ⟨by simpa using h1, ?_⟩
     rw [partsL, if_neg hc, h2]
     simp
def hasSlash (l : List UInt8) : Bool := decide ((0 : Int) ≤ Lib.indexByte l 47)
def textL (k : Int) (l : List UInt8) : Bool :=
 if k == 1 then wordL 24 l else if k == 2 then labelL l && hasSlash l else if k == 3 then numberL l else decide (0 < l.length) && signL l == l.length
def checkL (k : Int) (l : List UInt8) (p : Int) : Int :=
 if k < 1 ∨ 4 < k then 9 else if textL k l then (if p < 0 then 2 else 0) else 3
theorem checkL_kind {k p : Int} {l : List UInt8} (h : k < 1 ∨ 4 < k) : checkL k l p = 9 := by unfold checkL; rw [if_pos h]
theorem checkL_text {k p : Int} {l : List UInt8} (h1 : 1 ≤ k) (h2 : k ≤ 4) (h : textL k l = false) : checkL k l p = 3 := by
 unfold checkL; rw [if_neg (by omega), if_neg (by simp [h])]
theorem checkL_at {k p : Int} {l : List UInt8} (h1 : 1 ≤ k) (h2 : k ≤ 4) (h : textL k l = true) (hp : p < 0) : checkL k l p = 2 := by
 unfold checkL; rw [if_neg (by omega), if_pos h, if_pos hp]
theorem checkL_ok {k p : Int} {l : List UInt8} (h1 : 1 ≤ k) (h2 : k ≤ 4) (h : textL k l = true) (hp : ¬ p < 0) : checkL k l p = 0 := by
 unfold checkL; rw [if_neg (by omega), if_pos h, if_neg hp]
theorem textL_1 (l : List UInt8) : textL 1 l = wordL 24 l := rfl
theorem textL_2 (l : List UInt8) : textL 2 l = (labelL l && hasSlash l) := rfl
theorem textL_3 (l : List UInt8) : textL 3 l = numberL l := rfl
theorem textL_4 (l : List UInt8) : textL 4 l = (decide (0 < l.length) && signL l == l.length) := rfl
end
section
open Go.RowKit
theorem letter_yes (c : Int) (w : World) (h : isLetter c = true) : Calls Tryz.prog 103 #[.int .i32 c] w fun e w' => e = .returned (.bool true) ∧ w = w' := by
 obtain ⟨h1, h2⟩ : 97 ≤ c ∧ c ≤ 122 := by simpa [isLetter] using h
 clear h
 go_enter Tryz.func103, Tryz.ntmps103
 go_wp2
 go_ret
 exact ⟨rfl, rfl⟩
theorem letter_no (c : Int) (w : World) (h : isLetter c = false) : Calls Tryz.prog 103 #[.int .i32 c] w fun e w' => e = .returned (.bool false) ∧ w = w' := by
 by_cases h1 : 97 ≤ c
 ·have h2 : ¬ c ≤ 122 := by simp [isLetter] at h; omega
  clear h
  go_enter Tryz.func103, Tryz.ntmps103
  go_wp2
  go_ret
  exact ⟨rfl, rfl⟩
 ·clear h
  go_enter Tryz.func103, Tryz.ntmps103
  go_wp2
  go_ret
  exact ⟨rfl, rfl⟩
theorem digit_yes (c : Int) (w : World) (h : isDigit c = true) : Calls Tryz.prog 106 #[.int .i32 c] w fun e w' => e = .returned (.bool true) ∧ w = w' := by
 obtain ⟨h1, h2⟩ : 48 ≤ c ∧ c ≤ 57 := by simpa [isDigit] using h
 clear h
 go_enter Tryz.func106, Tryz.ntmps106
 go_wp2
 go_ret
 exact ⟨rfl, rfl⟩
theorem digit_no (c : Int) (w : World) (h : isDigit c = false) : Calls Tryz.prog 106 #[.int .i32 c] w fun e w' => e = .returned (.bool false) ∧ w = w' := by
 by_cases h1 : 48 ≤ c
 ·have h2 : ¬ c ≤ 57 := by simp [isDigit] at h; omega
  clear h
  go_enter Tryz.func106, Tryz.ntmps106
  go_wp2
  go_ret
  exact ⟨rfl, rfl⟩
 ·clear h
  go_enter Tryz.func106, Tryz.ntmps106
  go_wp2
  go_ret
  exact ⟨rfl, rfl⟩
theorem digit_any (c : Int) (w : World) : Calls Tryz.prog 106 #[.int .i32 c] w fun e w' => e = .returned (.bool (isDigit c)) ∧ w = w' := by
 cases h : isDigit c
 ·exact digit_no c w h
 ·exact digit_yes c w h
theorem running_any (c : Int) (w : World) : Calls Tryz.prog 104 #[.int .i32 c] w fun e w' => e = .returned (.bool (isRunning c)) ∧ w = w' := by
 cases h : isLetter c
 ·cases h2 : isDigit c
  ·have e : isRunning c = (c == 47) := by simp [isRunning, h, h2]
   rw [e]; clear e
   go_enter Tryz.func104, Tryz.ntmps104
   go_wp2_with (first | (go_at_call 103; refine (letter_no _ _ h).mono ?_; rintro e w' ⟨rfl, rfl⟩) | (go_at_call 106; refine (digit_no _ _ h2).mono ?_; rintro e w' ⟨rfl, rfl⟩))
   go_ret
   exact ⟨rfl, rfl⟩
  ·have e : isRunning c = true := by simp [isRunning, h2]
   rw [e]; clear e
   go_enter Tryz.func104, Tryz.ntmps104
   go_wp2_with (first | (go_at_call 103; refine (letter_no _ _ h).mono ?_; rintro e w' ⟨rfl, rfl⟩) | (go_at_call 106; refine (digit_yes _ _ h2).mono ?_; rintro e w' ⟨rfl, rfl⟩))
   go_ret
   exact ⟨rfl, rfl⟩
 ·have e : isRunning c = true := by simp [isRunning, h]
  rw [e]; clear e
  go_enter Tryz.func104, Tryz.ntmps104
  go_wp2_with (first | (go_at_call 103; refine (letter_yes _ _ h).mono ?_; rintro e w' ⟨rfl, rfl⟩))
  go_ret
  exact ⟨rfl, rfl⟩
theorem skip1_any (c : Int) (w : World) : Calls Tryz.prog 102 #[.int .i32 c] w fun e w' => e = .returned (.bool (c != 10)) ∧ w = w' := by
 go_enter Tryz.func102, Tryz.ntmps102
 go_wp2
 go_ret
 exact ⟨rfl, rfl⟩
end
section
open Go.RowKit
theorem toList_get (s : ByteArray) (k : Nat) (h : k < s.size) : s.data.toList[k]'(by simpa using h) = s[k] := rfl
theorem toList_len (s : ByteArray) : s.data.toList.length = s.size := by simp
theorem below_iter (w : World) (s : ByteArray) (p : Nat) : Below w.heap.size w (w.iter s p) := (Below.refl _ _).alloc (Nat.le_refl _) _
theorem empty_no (s : ByteArray) (h : 0 < s.size) : s.toList.isEmpty = false := by
 rw [ByteArray.toList_eq]
 cases hl : s.data.toList with
 | nil => have := toList_len s; rw [hl] at this; simp at this; omega
 | cons => rfl
theorem empty_yes (s : ByteArray) (h : s.size = 0) : s.toList.isEmpty = true := by
 rw [ByteArray.toList_eq]
 cases hl : s.data.toList with
 | nil => rfl
 | cons => have := toList_len s; rw [hl] at this; simp at this; omega
theorem word_nil (s : ByteArray) (w : World) (h : s.size = 0) :
  Calls Tryz.prog 113 #[.string s] w fun e w' => e = .returned (.bool false) ∧ w = w' := by
 have h0 := empty_yes s h
 clear h
 go_enter Tryz.func113, Tryz.ntmps113
 go_wp2_with fail
 go_ret
 exact ⟨rfl, rfl⟩
theorem word_long (s : ByteArray) (w : World) (h : 24 < s.size) :
  Calls Tryz.prog 113 #[.string s] w fun e w' => e = .returned (.bool false) ∧ w = w' := by
 have h0 := empty_no s (by omega)
 go_enter Tryz.func113, Tryz.ntmps113
 go_wp2_with fail
 go_ret
 exact ⟨rfl, rfl⟩
def wordTo (l : List UInt8) (k : Nat) : Prop := ∀ j (hj : j < l.length), j < k → letterB l[j] = true ∨ (j ≠ 0 ∧ digitB l[j] = true)
theorem wordTo_step {s : ByteArray} {k : Nat} (hk : k < s.size) (h : wordTo s.data.toList k) (h1 : letterB s[k] = true ∨ (k ≠ 0 ∧ digitB s[k] = true)) : wordTo s.data.toList (k + 1) := by
 intro j hj hlt
 rcases Nat.lt_or_ge j k with hh | hh
 ·exact h j hj hh
 ·obtain rfl : j = k := by omega
  exact h1
set_option maxHeartbeats 400000 in
theorem word_walk (s : ByteArray) (w : World) (h1 : s.size ≤ 24) (h2 : 0 < s.size) :
  Calls Tryz.prog 113 #[.string s] w fun e w' => e = .returned (.bool (wordL 24 s.data.toList)) ∧ ∃ p, w.iter s p = w' := by
 have h0 := empty_no s h2
 have h24 : decide (24 < (s.size : Int)) = false := by simp; omega
 go_enter Tryz.func113, Tryz.ntmps113
 go_wp2_with fail
 go_loopw [3, 4] (fun _ _ wr => ∃ pos : Nat, wr = w.iter s pos ∧ pos ≤ s.size ∧ wordTo s.data.toList pos) (fun _ _ wr => s.size - wr.iterPos w.heap.size)
 case atStart => exact ⟨0, rfl, by omega, fun j hj h => absurd h (by omega)⟩
 case round =>
  obtain ⟨pos, rfl, hle, hto⟩ := hrel
  by_cases hp : pos < s.size
  ·by_cases ha : (s[pos]'hp).toNat < 128
   ·have hnx : ∀ ty, (Instr.next (.pointer (some ⟨w.heap.size, 0, none⟩)) true ty).run Tryz.prog (w.iter s pos) = _ := fun ty => run_next_ascii w s pos ty hp ha
    cases hl : isLetter ((s[pos]'hp).toNat : Int)
    ·by_cases hz : pos = 0
     ·have hzb : ((pos : Int) == 0) = true := by simp [hz]
      have Hf := Lib.hid (wordL_false (most := 24) (l := s.data.toList) (j := pos) (by simpa using hp) hl (.inl hz))
      clear hz
      go_wp2_with (first | (go_at_call 103; refine (letter_no _ _ hl).mono ?_; rintro e w' ⟨rfl, rfl⟩))
      go_ret
      exact ⟨by rw [Hf.out]; rfl, _, rfl⟩
     ·have hzb : ((pos : Int) == 0) = false := by simp; omega
      cases hd : isDigit ((s[pos]'hp).toNat : Int)
      ·have Hf := Lib.hid (wordL_false (most := 24) (l := s.data.toList) (j := pos) (by simpa using hp) hl (.inr hd))
       clear hz
       go_wp2_with (first | (go_at_call 103; refine (letter_no _ _ hl).mono ?_; rintro e w' ⟨rfl, rfl⟩) | (go_at_call 106; refine (digit_no _ _ hd).mono ?_; rintro e w' ⟨rfl, rfl⟩))
       go_ret
       exact ⟨by rw [Hf.out]; rfl, _, rfl⟩
      ·go_wp2_with (first | (go_at_call 103; refine (letter_no _ _ hl).mono ?_; rintro e w' ⟨rfl, rfl⟩) | (go_at_call 106; refine (digit_yes _ _ hd).mono ?_; rintro e w' ⟨rfl, rfl⟩))
       go_roundw
       case rel => exact ⟨pos + 1, rfl, by omega, wordTo_step hp hto (.inr ⟨hz, hd⟩)⟩
       case measure => simp; omega
    ·go_wp2_with (first | (go_at_call 103; refine (letter_yes _ _ hl).mono ?_; rintro e w' ⟨rfl, rfl⟩))
     go_roundw
     case rel => exact ⟨pos + 1, rfl, by omega, wordTo_step hp hto (.inl hl)⟩
     case measure => simp; omega
   ·have hdec := decode_high s pos hp (by omega)
    obtain ⟨hge, hw1⟩ := hdec
    have hle' := decode_le s pos
    have hl : isLetter ((Utf8.decode s pos).1 : Int) = false := by simp [isLetter]; omega
    have hd : isDigit ((Utf8.decode s pos).1 : Int) = false := by simp [isDigit]; omega
    have hlb : letterB (s[pos]'hp) = false := by simp [letterB, isLetter]; omega
    have hdb : digitB (s[pos]'hp) = false := by simp [digitB, isDigit]; omega
    have Hf := Lib.hid (wordL_false (most := 24) (l := s.data.toList) (j := pos) (by simpa using hp) hlb (.inr hdb))
    have hnx : ∀ ty, (Instr.next (.pointer (some ⟨w.heap.size, 0, none⟩)) true ty).run Tryz.prog (w.iter s pos) = _ := fun ty => run_next_any w s pos ty hp
    clear hlb hdb
    by_cases hz : pos = 0
    ·have hzb : ((pos : Int) == 0) = true := by simp [hz]
     clear hz
     go_wp2_with (first | (go_at_call 103; refine (letter_no _ _ hl).mono ?_; rintro e w' ⟨rfl, rfl⟩))
     go_ret
     exact ⟨by rw [Hf.out]; rfl, _, rfl⟩
    ·have hzb : ((pos : Int) == 0) = false := by simp; omega
     clear hz
     go_wp2_with (first | (go_at_call 103; refine (letter_no _ _ hl).mono ?_; rintro e w' ⟨rfl, rfl⟩) | (go_at_call 106; refine (digit_no _ _ hd).mono ?_; rintro e w' ⟨rfl, rfl⟩))
     go_ret
     exact ⟨by rw [Hf.out]; rfl, _, rfl⟩
  ·have hnx : ∀ ty, (Instr.next (.pointer (some ⟨w.heap.size, 0, none⟩)) true ty).run Tryz.prog (w.iter s pos) = _ := fun ty => run_next_end w s pos ty hp
   go_wp2_with fail
   go_ret
   refine ⟨?_, _, rfl⟩
   rw [wordL_true (by simpa using h2) (by simpa using h1) (fun j hj => hto j hj (by simp at hj; omega))]
   rfl
theorem word_any (s : ByteArray) (w : World) :
  Calls Tryz.prog 113 #[.string s] w fun e w' => e = .returned (.bool (wordL 24 s.data.toList)) ∧ Below w.heap.size w w' := by
 rcases Nat.eq_zero_or_pos s.size with h | h
 ·rw [wordL_nil (by simpa using h)]
  exact (word_nil s w h).mono fun e w' ⟨h1, h2⟩ => ⟨h1, h2 ▸ Below.refl _ _⟩
 ·rcases Nat.lt_or_ge 24 s.size with h' | h'
  ·rw [wordL_long (by simpa using h')]
   exact (word_long s w h').mono fun e w' ⟨h1, h2⟩ => ⟨h1, h2 ▸ Below.refl _ _⟩
  ·refine (word_walk s w h' h).mono fun e w' ⟨h1, p, h2⟩ => ⟨h1, h2 ▸ below_iter w s p⟩
end
section
open Go.RowKit
def runTo (p : UInt8 → Bool) (l : List UInt8) (k : Nat) : Prop := ∀ j (hj : j < l.length), j < k → p l[j] = true
theorem runTo_zero (p : UInt8 → Bool) (l : List UInt8) : runTo p l 0 := fun _ _ h => absurd h (by omega)
theorem runTo_step {p : UInt8 → Bool} {s : ByteArray} {k : Nat} (hk : k < s.size) (h : runTo p s.data.toList k) (h1 : p s[k] = true) : runTo p s.data.toList (k + 1) := by
 intro j hj hlt
 rcases Nat.lt_or_ge j k with hh | hh
 ·exact h j hj hh
 ·obtain rfl : j = k := by omega
  exact h1
set_option maxHeartbeats 400000 in
theorem run_running (s : ByteArray) (w : World) (hs : s.size ≤ maxLen) :
  Calls Tryz.prog 101 #[.string s, .func (.func 104) #[] #[]] w fun e w' => e = .returned (.int .i64 (runL innerB s.data.toList)) ∧ w = w' := by
 unfold maxLen at hs
 go_enter Tryz.func101, Tryz.ntmps101
 go_wp2_with fail
 go_loop [5] (fun i => ∃ k : Nat, k ≤ s.size ∧ i = .int .i64 k ∧ runTo innerB s.data.toList k) (fun i => s.size - (intOf i).toNat)
 case atStart => exact ⟨0, Nat.zero_le _, rfl, runTo_zero _ _⟩
 case round =>
  obtain ⟨k, hk, rfl, hto⟩ := hrel
  by_cases hlt : k < s.size
  ·have hb : ((s[k]'hlt).toNat : Int) < 256 := by have := (s[k]'hlt).toNat_lt; omega
   cases hr : isRunning ((s[k]'hlt).toNat : Int)
   ·have Hf := Lib.hid (runL_eq (p := innerB) (l := s.data.toList) (k := k) (by simpa using hk) hto (fun _ => hr))
    go_wp2_with (first | (go_at_call 104; refine (running_any _ _).mono ?_; rintro e w' ⟨rfl, rfl⟩))
    go_ret
    exact ⟨by rw [Hf.out]; rfl, rfl⟩
   ·go_wp2_with (first | (go_at_call 104; refine (running_any _ _).mono ?_; rintro e w' ⟨rfl, rfl⟩))
    go_round
    case rel => exact ⟨k + 1, by omega, by go_num, runTo_step hlt hto hr⟩
    case measure => simp [intOf]; omega
  ·have Hf := Lib.hid (runL_eq (p := innerB) (l := s.data.toList) (k := k) (by simpa using hk) hto (fun h => absurd (by simpa using h) hlt))
   go_wp2_with fail
   go_ret
   exact ⟨by rw [Hf.out]; rfl, rfl⟩
set_option maxHeartbeats 400000 in
theorem run_line (s : ByteArray) (w : World) (hs : s.size ≤ maxLen) :
  Calls Tryz.prog 101 #[.string s, .func (.func 102) #[] #[]] w fun e w' => e = .returned (.int .i64 (runL lineB s.data.toList)) ∧ w = w' := by
 unfold maxLen at hs
 go_enter Tryz.func101, Tryz.ntmps101
 go_wp2_with fail
 go_loop [5] (fun i => ∃ k : Nat, k ≤ s.size ∧ i = .int .i64 k ∧ runTo lineB s.data.toList k) (fun i => s.size - (intOf i).toNat)
 case atStart => exact ⟨0, Nat.zero_le _, rfl, runTo_zero _ _⟩
 case round =>
  obtain ⟨k, hk, rfl, hto⟩ := hrel
  by_cases hlt : k < s.size
  ·have hb : ((s[k]'hlt).toNat : Int) < 256 := by have := (s[k]'hlt).toNat_lt; omega
   cases hr : (((s[k]'hlt).toNat : Int) != 10)
   ·have Hf := Lib.hid (runL_eq (p := lineB) (l := s.data.toList) (k := k) (by simpa using hk) hto (fun _ => hr))
    go_wp2_with (first | (go_at_call 102; refine (skip1_any _ _).mono ?_; rintro e w' ⟨rfl, rfl⟩))
    go_ret
    exact ⟨by rw [Hf.out]; rfl, rfl⟩
   ·go_wp2_with (first | (go_at_call 102; refine (skip1_any _ _).mono ?_; rintro e w' ⟨rfl, rfl⟩))
    go_round
    case rel => exact ⟨k + 1, by omega, by go_num, runTo_step hlt hto hr⟩
    case measure => simp [intOf]; omega
  ·have Hf := Lib.hid (runL_eq (p := lineB) (l := s.data.toList) (k := k) (by simpa using hk) hto (fun h => absurd (by simpa using h) hlt))
   go_wp2_with fail
   go_ret
   exact ⟨by rw [Hf.out]; rfl, rfl⟩
end
section
open Go.RowKit
theorem drop_get (s : ByteArray) (k : Nat) (h : k < s.size) : s.data.toList.drop k = s[k] :: s.data.toList.drop (k + 1) := by
 rw [List.drop_eq_getElem_cons (by simpa using h)]; rfl
theorem extract_list (s : ByteArray) (a b : Nat) : (s.extract a b).data.toList = (s.data.toList.drop a).take (b - a) := by
 rw [ByteArray.data_extract, Array.toList_extract, List.extract_eq_take_drop]
theorem extract_end (s : ByteArray) (a : Nat) : (s.extract a s.size).data.toList = s.data.toList.drop a := by
 rw [extract_list, List.take_of_length_le (by simp)]
theorem skip_step {l : List UInt8} {k n : Nat} (h : skipL l = k + skipL (l.drop k)) (h1 : skipL (l.drop k) = n + skipL ((l.drop k).drop n)) : skipL l = (k + n) + skipL (l.drop (k + n)) := by
 rw [h, h1, List.drop_drop]; omega
set_option maxHeartbeats 400000 in
theorem skip_any (s : ByteArray) (w : World) (hs : s.size ≤ maxLen) :
  Calls Tryz.prog 49 #[.string s] w fun e w' => e = .returned (.int .i64 (skipL s.data.toList)) ∧ w = w' := by
 unfold maxLen at hs
 go_enter Tryz.func49, Tryz.ntmps49
 go_wp2_with fail
 go_loop [3] (fun i => ∃ k : Nat, k ≤ s.size ∧ i = .int .i64 k ∧ Hid (skipL s.data.toList = k + skipL (s.data.toList.drop k))) (fun i => s.size - (intOf i).toNat)
 case atStart => exact ⟨0, Nat.zero_le _, rfl, Lib.hid (by simp)⟩
 case round =>
  obtain ⟨k, hk, rfl, hto⟩ := hrel
  by_cases hlt : k < s.size
  ·have HD := Lib.hid (drop_get s k hlt)
   have hb : ((s[k]'hlt).toNat : Int) < 256 := by have := (s[k]'hlt).toNat_lt; omega
   cases h32 : (((s[k]'hlt).toNat : Int) == 32)
   ·cases h10 : (((s[k]'hlt).toNat : Int) == 10)
    ·cases h35 : (((s[k]'hlt).toNat : Int) == 35)
     ·go_wp2_with fail
      go_ret
      refine ⟨?_, rfl⟩
      rw [hto.out, HD.out, skipL_stop h32 h10 h35]; simp
     ·have hsz : (s.extract k s.size).size ≤ maxLen := by unfold maxLen; simp; omega
      have hrl : runL lineB (s.extract k s.size).data.toList ≤ s.size - k := by
       rw [extract_end]; have := runL_le lineB (s.data.toList.drop k); simpa using this
      have hr0 : 0 < runL lineB (s.extract k s.size).data.toList := by
       rw [extract_end, HD.out]; exact runL_pos (by simp only [lineB, bne, h10]; rfl)
      have Hq : Hid (skipL s.data.toList = (k + runL lineB (s.extract k s.size).data.toList) + skipL (s.data.toList.drop (k + runL lineB (s.extract k s.size).data.toList))) :=
       Lib.hid (skip_step hto.out (by rw [extract_end, HD.out]; exact skipL_hash h32 h10 h35))
      have Hc := Lib.hid (run_line (s.extract k s.size) w hsz)
      clear hsz
      generalize runL lineB (s.extract k s.size).data.toList = m at *
      go_wp2_with (first | (go_at_call 101; refine (Hc.out).mono ?_; rintro e w' ⟨rfl, rfl⟩))
      go_round
      case rel => exact ⟨k + m, by omega, by go_num, Hq⟩
      case measure => simp [intOf]; omega
    ·go_wp2_with fail
     go_round
     case rel => exact ⟨k + 1, by omega, by go_num, Lib.hid (skip_step hto.out (by rw [HD.out, skipL_blank (.inr h10)]; rfl))⟩
     case measure => simp [intOf]; omega
   ·go_wp2_with fail
    go_round
    case rel => exact ⟨k + 1, by omega, by go_num, Lib.hid (skip_step hto.out (by rw [HD.out, skipL_blank (.inl h32)]; rfl))⟩
    case measure => simp [intOf]; omega
  ·go_wp2_with fail
   go_ret
   refine ⟨?_, rfl⟩
   rw [hto.out, List.drop_of_length_le (by simp; omega), skipL_nil]; simp
end
section
open Go.RowKit
theorem signL_two {l : List UInt8} (h : Lib.hasPrefix l [45, 62] = true ∨ Lib.hasPrefix l [58, 58] = true ∨ Lib.hasPrefix l [124, 124] = true) : signL l = 2 := by
 unfold signL; rw [if_pos]; rcases h with h | h | h <;> simp [h]
theorem signL_nil {l : List UInt8} (h : l.length = 0) : signL l = 0 := by
 obtain rfl := List.eq_nil_of_length_eq_zero h; rfl
theorem signL_one {s : ByteArray} (h0 : 0 < s.size) (h1 : Lib.hasPrefix s.data.toList [45, 62] = false) (h2 : Lib.hasPrefix s.data.toList [58, 58] = false) (h3 : Lib.hasPrefix s.data.toList [124, 124] = false) :
  signL s.data.toList = if decide ((0 : Int) ≤ Lib.indexByte onesL s[0]) then 1 else 0 := by
 unfold signL
 rw [if_neg (by simp [h1, h2, h3])]
 have := drop_get s 0 h0
 rw [List.drop_zero] at this
 rw [this]
theorem hasPrefix_any (s p : ByteArray) (w : World) :
  Calls Tryz.prog 155 #[.string s, .string p] w fun e w' => e = .returned (.bool (Lib.hasPrefix s.data.toList p.data.toList)) ∧ w = w' :=
 (Tryz.strings_HasPrefix s p w).mono fun _ _ ⟨h1, h2⟩ => ⟨h1, h2.symm⟩
theorem contains_one (s : ByteArray) (c : UInt8) (w : World) :
  Calls Tryz.prog 105 #[.string s, .string ⟨#[c]⟩] w fun e w' => e = .returned (.bool (decide ((0 : Int) ≤ Lib.indexByte s.data.toList c))) ∧ w = w' :=
 (Tryz.strings_Contains_one s c w).mono fun _ _ ⟨h1, h2⟩ => ⟨h1, h2.symm⟩
theorem byteBack (c : UInt8) : (c.toNat : Int).toNat.toUInt8 = c := by simp
theorem ones_any (c : UInt8) (w : World) :
  Calls Tryz.prog 156 #[.string ⟨#[40, 41, 61, 43, 45, 42, 60, 124, 46, 59, 64]⟩, .int .u8 (c.toNat : Int)] w fun e w' => e = .returned (.int .i64 (Lib.indexByte onesL c)) ∧ w = w' :=
 (Tryz.strings_IndexByte _ _ w).mono fun e w' ⟨h1, h2⟩ => ⟨by rw [h1, byteBack]; rfl, h2.symm⟩
def NoPre (s : ByteArray) (p : List UInt8) : Prop := Lib.hasPrefix s.data.toList p = false
set_option maxHeartbeats 400000 in
theorem sign_any (s : ByteArray) (w : World) :
  Calls Tryz.prog 107 #[.string s] w fun e w' => e = .returned (.int .i64 (signL s.data.toList)) ∧ w = w' := by
 have i0 : ∀ w, (Instr.index 134 (.agg #[.string ⟨#[45, 62]⟩, .string ⟨#[58, 58]⟩, .string ⟨#[124, 124]⟩]) (.int .i64 0)).run Tryz.prog w = .ok (.string ⟨#[45, 62]⟩) w := fun _ => by kernel_rfl
 have i1 : ∀ w, (Instr.index 134 (.agg #[.string ⟨#[45, 62]⟩, .string ⟨#[58, 58]⟩, .string ⟨#[124, 124]⟩]) (.int .i64 1)).run Tryz.prog w = .ok (.string ⟨#[58, 58]⟩) w := fun _ => by kernel_rfl
 have i2 : ∀ w, (Instr.index 134 (.agg #[.string ⟨#[45, 62]⟩, .string ⟨#[58, 58]⟩, .string ⟨#[124, 124]⟩]) (.int .i64 2)).run Tryz.prog w = .ok (.string ⟨#[124, 124]⟩) w := fun _ => by kernel_rfl
 go_enter Tryz.func107, Tryz.ntmps107
 go_wp2_with fail
 go_loop [4, 6] (fun _ i => i = .int .i64 0 ∨ (i = .int .i64 1 ∧ NoPre s [45, 62]) ∨ (i = .int .i64 2 ∧ NoPre s [45, 62] ∧ NoPre s [58, 58])
    ∨ (i = .int .i64 3 ∧ NoPre s [45, 62] ∧ NoPre s [58, 58] ∧ NoPre s [124, 124])) (fun _ i => 3 - (intOf i).toNat)
 case atStart => exact .inl rfl
 case round =>
  rcases hrel with rfl | ⟨rfl, k0⟩ | ⟨rfl, k0, k1⟩ | ⟨rfl, k0, k1, k2⟩
  ·cases hp : Lib.hasPrefix s.data.toList [45, 62]
   ·go_wp2_with (first | (go_at_call 155; refine (hasPrefix_any _ _ _).mono ?_; rintro e w' ⟨rfl, rfl⟩))
    go_round
    case rel => exact .inr (.inl ⟨rfl, hp⟩)
    case measure => simp [intOf]
   ·go_wp2_with (first | (go_at_call 155; refine (hasPrefix_any _ _ _).mono ?_; rintro e w' ⟨rfl, rfl⟩))
    go_ret
    exact ⟨by rw [signL_two (.inl hp)]; rfl, rfl⟩
  ·cases hp : Lib.hasPrefix s.data.toList [58, 58]
   ·go_wp2_with (first | (go_at_call 155; refine (hasPrefix_any _ _ _).mono ?_; rintro e w' ⟨rfl, rfl⟩))
    go_round
    case rel => exact .inr (.inr (.inl ⟨rfl, k0, hp⟩))
    case measure => simp [intOf]
   ·go_wp2_with (first | (go_at_call 155; refine (hasPrefix_any _ _ _).mono ?_; rintro e w' ⟨rfl, rfl⟩))
    go_ret
    exact ⟨by rw [signL_two (.inr (.inl hp))]; rfl, rfl⟩
  ·cases hp : Lib.hasPrefix s.data.toList [124, 124]
   ·go_wp2_with (first | (go_at_call 155; refine (hasPrefix_any _ _ _).mono ?_; rintro e w' ⟨rfl, rfl⟩))
    go_round
    case rel => exact .inr (.inr (.inr ⟨rfl, k0, k1, hp⟩))
    case measure => simp [intOf]
   ·go_wp2_with (first | (go_at_call 155; refine (hasPrefix_any _ _ _).mono ?_; rintro e w' ⟨rfl, rfl⟩))
    go_ret
    exact ⟨by rw [signL_two (.inr (.inr hp))]; rfl, rfl⟩
  ·rcases Nat.eq_zero_or_pos s.size with hz | hz
   ·have h0 := empty_yes s hz
    have Hf := Lib.hid (signL_nil (l := s.data.toList) (by simpa using hz))
    clear hz
    go_wp2_with fail
    go_ret
    exact ⟨by rw [Hf.out]; rfl, rfl⟩
   ·have h0 := empty_no s hz
    have Hf := Lib.hid (signL_one hz k0 k1 k2)
    have hge := Lib.indexByte_ge onesL (s[0]'hz)
    cases hi : decide ((0 : Int) ≤ Lib.indexByte onesL (s[0]'hz))
    ·have hn : ¬ (0 : Int) ≤ Lib.indexByte onesL (s[0]'hz) := by simpa using hi
     rw [hi] at Hf
     clear hi
     have Hc := Lib.hid (ones_any (s[0]'hz) w)
     generalize Lib.indexByte onesL (s[0]'hz) = m at *
     go_wp2_with (first | (go_at_call 156; refine (Hc.out).mono ?_; rintro e w' ⟨rfl, rfl⟩))
     go_ret
     exact ⟨by rw [Hf.out]; rfl, rfl⟩
    ·have hn : (0 : Int) ≤ Lib.indexByte onesL (s[0]'hz) := by simpa using hi
     rw [hi] at Hf
     clear hi
     have Hc := Lib.hid (ones_any (s[0]'hz) w)
     generalize Lib.indexByte onesL (s[0]'hz) = m at *
     go_wp2_with (first | (go_at_call 156; refine (Hc.out).mono ?_; rintro e w' ⟨rfl, rfl⟩))
     go_ret
     exact ⟨by rw [Hf.out]; rfl, rfl⟩
end
section
open Go.RowKit
theorem numCore_no {l : List UInt8} {j : Nat} (hj : j < l.length) (h : digitB l[j] = false) : numCore l = false := by
 have : l.all digitB = false := by rw [List.all_eq_false]; exact ⟨l[j], List.getElem_mem _, by simp [h]⟩
 simp [numCore, this]
theorem numCore_yes {l : List UInt8} (h0 : 1 ≤ l.length) (h1 : l.length ≤ 9) (h2 : ((l.head?.getD 0).toNat == 48 && decide (1 < l.length)) = false) (h : ∀ j (hj : j < l.length), digitB l[j] = true) : numCore l = true := by
 have : l.all digitB = true := by
  rw [List.all_eq_true]; intro x hx
  obtain ⟨j, hj, rfl⟩ := List.getElem_of_mem hx
  exact h j hj
 unfold numCore
 rw [h2, this]; simp [h0, h1]
theorem numCore_nil {l : List UInt8} (h : l.length = 0) : numCore l = false := by simp [numCore, h]
theorem numCore_long {l : List UInt8} (h : 9 < l.length) : numCore l = false := by simp [numCore, Nat.not_le.2 h]
theorem numCore_zero {l : List UInt8} (h : ((l.head?.getD 0).toNat == 48 && decide (1 < l.length)) = true) : numCore l = false := by
 unfold numCore; rw [h]; simp
theorem head_get {t : ByteArray} (h : 0 < t.size) : t.data.toList.head?.getD 0 = t[0] := by
 have := drop_get t 0 h
 rw [List.drop_zero] at this
 rw [this]; rfl
theorem byte48 {c : UInt8} (h : ((c.toNat : Int) == 48) = true) : (c.toNat == 48) = true := by simp at h ⊢; omega
theorem byte48' {c : UInt8} (h : ((c.toNat : Int) == 48) = false) : (c.toNat == 48) = false := by simp at h ⊢; omega
theorem numberL_neg {l : List UInt8} (h : Lib.hasPrefix l [45] = true) : numberL l = (numCore l.tail && !((l.tail.head?.getD 0).toNat == 48)) := by unfold numberL; rw [if_pos h]
theorem numberL_pos {l : List UInt8} (h : Lib.hasPrefix l [45] = false) : numberL l = numCore l := by unfold numberL; rw [if_neg (by simp [h])]
theorem tail_extract (s : ByteArray) : s.data.toList.tail = (s.extract 1 s.size).data.toList := by rw [extract_end, List.drop_one]
-- a number without a sign
theorem number_pos_nil (s : ByteArray) (w : World) (hn : Lib.hasPrefix s.data.toList [45] = false) (h0 : s.size = 0) :
  Calls Tryz.prog 157 #[.string s] w fun e w' => e = .returned (.bool (numberL s.data.toList)) ∧ Below w.heap.size w w' := by
 have hE := empty_yes s h0
 have HN : Hid (numberL s.data.toList = false) := Lib.hid (by rw [numberL_pos hn, numCore_nil (by simpa using h0)])
 clear h0
 go_enter Tryz.func157, Tryz.ntmps157
 go_wp2_with (first | (go_at_call 155; refine (hasPrefix_any _ _ _).mono ?_; rintro e w' ⟨rfl, rfl⟩))
 go_ret
 exact ⟨by rw [HN.out]; rfl, Below.refl _ _⟩
theorem number_pos_long (s : ByteArray) (w : World) (hn : Lib.hasPrefix s.data.toList [45] = false) (h0 : 9 < s.size) :
  Calls Tryz.prog 157 #[.string s] w fun e w' => e = .returned (.bool (numberL s.data.toList)) ∧ Below w.heap.size w w' := by
 have hE := empty_no s (by omega)
 have HN : Hid (numberL s.data.toList = false) := Lib.hid (by rw [numberL_pos hn, numCore_long (by simpa using h0)])
 go_enter Tryz.func157, Tryz.ntmps157
 go_wp2_with (first | (go_at_call 155; refine (hasPrefix_any _ _ _).mono ?_; rintro e w' ⟨rfl, rfl⟩))
 go_ret
 exact ⟨by rw [HN.out]; rfl, Below.refl _ _⟩
theorem number_pos_zero (s : ByteArray) (w : World) (hn : Lib.hasPrefix s.data.toList [45] = false) (h0 : 1 < s.size) (h9 : s.size ≤ 9) (hz : (((s[0]'(by omega)).toNat : Int) == 48) = true) :
  Calls Tryz.prog 157 #[.string s] w fun e w' => e = .returned (.bool (numberL s.data.toList)) ∧ Below w.heap.size w w' := by
 have hE := empty_no s (by omega)
 have HN : Hid (numberL s.data.toList = false) := Lib.hid (by
  rw [numberL_pos hn, numCore_zero]
  rw [head_get (by omega), byte48 hz]
  simp [h0])
 go_enter Tryz.func157, Tryz.ntmps157
 go_wp2_with (first | (go_at_call 155; refine (hasPrefix_any _ _ _).mono ?_; rintro e w' ⟨rfl, rfl⟩))
 go_ret
 exact ⟨by rw [HN.out]; rfl, Below.refl _ _⟩
set_option maxHeartbeats 400000 in
theorem number_pos_one (t : ByteArray) (w : World) (hn : Lib.hasPrefix t.data.toList [45] = false) (h0 : 1 ≤ t.size) (h9 : t.size ≤ 1) (hz : (((t[0]'(by omega)).toNat : Int) == 48) = true) :
  Calls Tryz.prog 157 #[.string t] w fun e w' => e = .returned (.bool (numberL t.data.toList)) ∧ Below w.heap.size w w' := by
 have hE := empty_no t (by omega)
 have HN := Lib.hid (numberL_pos hn)
 have HSZ : Hid (t.size = t.size) := Lib.hid rfl
 have Hz : Hid (((t.data.toList.head?.getD 0).toNat == 48 && decide (1 < t.data.toList.length)) = false) := Lib.hid (by rw [Bool.and_eq_false_iff]; right; simp; omega)
 have hgt : decide (9 < (t.size : Int)) = false := by simp; omega
 have hg1 : decide (1 < (t.size : Int)) = false := by simp; omega
 go_enter Tryz.func157, Tryz.ntmps157
 go_wp2_with (first | (go_at_call 155; refine (hasPrefix_any _ _ _).mono ?_; rintro e w' ⟨rfl, rfl⟩))
 go_loopw [5] (fun _ wr => ∃ pos : Nat, wr = w.iter t pos ∧ pos ≤ t.size ∧ runTo digitB t.data.toList pos) (fun _ wr => t.size - wr.iterPos w.heap.size)
 case atStart => exact ⟨0, rfl, Nat.zero_le _, runTo_zero _ _⟩
 case round =>
  obtain ⟨pos, rfl, hle, hto⟩ := hrel
  by_cases hp : pos < t.size
  ·by_cases ha : (t[pos]'hp).toNat < 128
   ·have hnx : ∀ ty, (Instr.next (.pointer (some ⟨w.heap.size, 0, none⟩)) true ty).run Tryz.prog (w.iter t pos) = _ := fun ty => run_next_ascii w t pos ty hp ha
    cases hd : isDigit ((t[pos]'hp).toNat : Int)
    ·have Hf := Lib.hid (numCore_no (l := t.data.toList) (j := pos) (by simpa using hp) hd)
     go_wp2_with (first | (go_at_call 106; refine (digit_no _ _ hd).mono ?_; rintro e w' ⟨rfl, rfl⟩))
     go_ret
     exact ⟨by rw [HN.out, Hf.out]; rfl, below_iter _ _ _⟩
    ·go_wp2_with (first | (go_at_call 106; refine (digit_yes _ _ hd).mono ?_; rintro e w' ⟨rfl, rfl⟩))
     go_roundw
     case rel => exact ⟨pos + 1, rfl, by omega, runTo_step hp hto hd⟩
     case measure => have e := HSZ.out; simp; omega
   ·have hdec := decode_high t pos hp (by omega)
    obtain ⟨hge, hw1⟩ := hdec
    have hle' := decode_le t pos
    have hd : isDigit ((Utf8.decode t pos).1 : Int) = false := by simp [isDigit]; omega
    have hdb : digitB (t[pos]'hp) = false := by simp [digitB, isDigit]; omega
    have Hf := Lib.hid (numCore_no (l := t.data.toList) (j := pos) (by simpa using hp) hdb)
    have hnx : ∀ ty, (Instr.next (.pointer (some ⟨w.heap.size, 0, none⟩)) true ty).run Tryz.prog (w.iter t pos) = _ := fun ty => run_next_any w t pos ty hp
    clear hdb
    go_wp2_with (first | (go_at_call 106; refine (digit_no _ _ hd).mono ?_; rintro e w' ⟨rfl, rfl⟩))
    go_ret
    exact ⟨by rw [HN.out, Hf.out]; rfl, below_iter _ _ _⟩
  ·have hnx : ∀ ty, (Instr.next (.pointer (some ⟨w.heap.size, 0, none⟩)) true ty).run Tryz.prog (w.iter t pos) = _ := fun ty => run_next_end w t pos ty hp
   have Hf := Lib.hid (numCore_yes (l := t.data.toList) (by simp; omega) (by simp; omega) Hz.out (fun j hj => hto j hj (by have e := HSZ.out; simp at hj; omega)))
   go_wp2_with fail
   go_ret
   exact ⟨by rw [HN.out, Hf.out]; rfl, below_iter _ _ _⟩
set_option maxHeartbeats 400000 in
theorem number_pos_more (t : ByteArray) (w : World) (hn : Lib.hasPrefix t.data.toList [45] = false) (h0 : 1 ≤ t.size) (h9 : t.size ≤ 9) (hz : (((t[0]'(by omega)).toNat : Int) == 48) = false) :
  Calls Tryz.prog 157 #[.string t] w fun e w' => e = .returned (.bool (numberL t.data.toList)) ∧ Below w.heap.size w w' := by
 have hE := empty_no t (by omega)
 have HN := Lib.hid (numberL_pos hn)
 have HSZ : Hid (t.size = t.size) := Lib.hid rfl
 have Hz : Hid (((t.data.toList.head?.getD 0).toNat == 48 && decide (1 < t.data.toList.length)) = false) := Lib.hid (by rw [head_get (by omega), byte48' hz]; rfl)
 have hgt : decide (9 < (t.size : Int)) = false := by simp; omega
 go_enter Tryz.func157, Tryz.ntmps157
 go_wp2_with (first | (go_at_call 155; refine (hasPrefix_any _ _ _).mono ?_; rintro e w' ⟨rfl, rfl⟩))
 go_loopw [5] (fun _ wr => ∃ pos : Nat, wr = w.iter t pos ∧ pos ≤ t.size ∧ runTo digitB t.data.toList pos) (fun _ wr => t.size - wr.iterPos w.heap.size)
 case atStart => exact ⟨0, rfl, Nat.zero_le _, runTo_zero _ _⟩
 case round =>
  obtain ⟨pos, rfl, hle, hto⟩ := hrel
  by_cases hp : pos < t.size
  ·by_cases ha : (t[pos]'hp).toNat < 128
   ·have hnx : ∀ ty, (Instr.next (.pointer (some ⟨w.heap.size, 0, none⟩)) true ty).run Tryz.prog (w.iter t pos) = _ := fun ty => run_next_ascii w t pos ty hp ha
    cases hd : isDigit ((t[pos]'hp).toNat : Int)
    ·have Hf := Lib.hid (numCore_no (l := t.data.toList) (j := pos) (by simpa using hp) hd)
     go_wp2_with (first | (go_at_call 106; refine (digit_no _ _ hd).mono ?_; rintro e w' ⟨rfl, rfl⟩))
     go_ret
     exact ⟨by rw [HN.out, Hf.out]; rfl, below_iter _ _ _⟩
    ·go_wp2_with (first | (go_at_call 106; refine (digit_yes _ _ hd).mono ?_; rintro e w' ⟨rfl, rfl⟩))
     go_roundw
     case rel => exact ⟨pos + 1, rfl, by omega, runTo_step hp hto hd⟩
     case measure => have e := HSZ.out; simp; omega
   ·have hdec := decode_high t pos hp (by omega)
    obtain ⟨hge, hw1⟩ := hdec
    have hle' := decode_le t pos
    have hd : isDigit ((Utf8.decode t pos).1 : Int) = false := by simp [isDigit]; omega
    have hdb : digitB (t[pos]'hp) = false := by simp [digitB, isDigit]; omega
    have Hf := Lib.hid (numCore_no (l := t.data.toList) (j := pos) (by simpa using hp) hdb)
    have hnx : ∀ ty, (Instr.next (.pointer (some ⟨w.heap.size, 0, none⟩)) true ty).run Tryz.prog (w.iter t pos) = _ := fun ty => run_next_any w t pos ty hp
    clear hdb
    go_wp2_with (first | (go_at_call 106; refine (digit_no _ _ hd).mono ?_; rintro e w' ⟨rfl, rfl⟩))
    go_ret
    exact ⟨by rw [HN.out, Hf.out]; rfl, below_iter _ _ _⟩
  ·have hnx : ∀ ty, (Instr.next (.pointer (some ⟨w.heap.size, 0, none⟩)) true ty).run Tryz.prog (w.iter t pos) = _ := fun ty => run_next_end w t pos ty hp
   have Hf := Lib.hid (numCore_yes (l := t.data.toList) (by simp; omega) (by simp; omega) Hz.out (fun j hj => hto j hj (by have e := HSZ.out; simp at hj; omega)))
   go_wp2_with fail
   go_ret
   exact ⟨by rw [HN.out, Hf.out]; rfl, below_iter _ _ _⟩
-- a number with a sign
theorem number_neg_nil (s : ByteArray) (w : World) (hn : Lib.hasPrefix s.data.toList [45] = true) (h1 : 1 ≤ s.size) (h0 : s.size ≤ 1) :
  Calls Tryz.prog 157 #[.string s] w fun e w' => e = .returned (.bool (numberL s.data.toList)) ∧ Below w.heap.size w w' := by
 have hE := empty_yes (s.extract 1 s.size) (by simp; omega)
 have HN : Hid (numberL s.data.toList = false) := Lib.hid (by rw [numberL_neg hn, numCore_nil (by simp; omega)]; rfl)
 go_enter Tryz.func157, Tryz.ntmps157
 go_wp2_with (first | (go_at_call 155; refine (hasPrefix_any _ _ _).mono ?_; rintro e w' ⟨rfl, rfl⟩))
 go_ret
 exact ⟨by rw [HN.out]; rfl, Below.refl _ _⟩
theorem number_neg_long (s : ByteArray) (w : World) (hn : Lib.hasPrefix s.data.toList [45] = true) (h0 : 10 < s.size) :
  Calls Tryz.prog 157 #[.string s] w fun e w' => e = .returned (.bool (numberL s.data.toList)) ∧ Below w.heap.size w w' := by
 have hE := empty_no (s.extract 1 s.size) (by simp; omega)
 have hgt : decide (9 < ((s.size - 1 : Nat) : Int)) = true := by simp; omega
 have HN : Hid (numberL s.data.toList = false) := Lib.hid (by rw [numberL_neg hn, numCore_long (by simp; omega)]; rfl)
 go_enter Tryz.func157, Tryz.ntmps157
 go_wp2_with (first | (go_at_call 155; refine (hasPrefix_any _ _ _).mono ?_; rintro e w' ⟨rfl, rfl⟩))
 go_ret
 exact ⟨by rw [HN.out]; rfl, Below.refl _ _⟩
theorem number_neg_zero (s : ByteArray) (w : World) (hn : Lib.hasPrefix s.data.toList [45] = true) (h0 : 2 ≤ s.size) (h9 : s.size ≤ 10) (hz : ((((s.extract 1 s.size)[0]'(by simp; omega)).toNat : Int) == 48) = true) :
  Calls Tryz.prog 157 #[.string s] w fun e w' => e = .returned (.bool (numberL s.data.toList)) ∧ Below w.heap.size w w' := by
 have hE := empty_no (s.extract 1 s.size) (by simp; omega)
 have hgt : decide (9 < ((s.size - 1 : Nat) : Int)) = false := by simp; omega
 have hl0 : 0 < s.size - 1 := by omega
 have HN : Hid (numberL s.data.toList = false) := Lib.hid (by
  rw [numberL_neg hn, tail_extract, head_get (by simp; omega), byte48 hz]
  simp)
 by_cases hg1 : 1 < s.size - 1
 ·have hg2 : decide (1 < ((s.size - 1 : Nat) : Int)) = true := by simp; omega
  go_enter Tryz.func157, Tryz.ntmps157
  go_wp2_with (first | (go_at_call 155; refine (hasPrefix_any _ _ _).mono ?_; rintro e w' ⟨rfl, rfl⟩))
  go_ret
  exact ⟨by rw [HN.out]; rfl, Below.refl _ _⟩
 ·have hg2 : decide (1 < ((s.size - 1 : Nat) : Int)) = false := by simp; omega
  go_enter Tryz.func157, Tryz.ntmps157
  go_wp2_with (first | (go_at_call 155; refine (hasPrefix_any _ _ _).mono ?_; rintro e w' ⟨rfl, rfl⟩))
  go_ret
  exact ⟨by rw [HN.out]; rfl, Below.refl _ _⟩
set_option maxHeartbeats 400000 in
theorem number_neg_more (s : ByteArray) (w : World) (hn : Lib.hasPrefix s.data.toList [45] = true) (h0 : 2 ≤ s.size) (h9 : s.size ≤ 10) (hz : ((((s.extract 1 s.size)[0]'(by simp; omega)).toNat : Int) == 48) = false) :
  Calls Tryz.prog 157 #[.string s] w fun e w' => e = .returned (.bool (numberL s.data.toList)) ∧ Below w.heap.size w w' := by
 have hE := empty_no (s.extract 1 s.size) (by simp; omega)
 have hgt : decide (9 < ((s.size - 1 : Nat) : Int)) = false := by simp; omega
 have hl0 : 0 < s.size - 1 := by omega
 have HN : Hid (numberL s.data.toList = numCore (s.extract 1 s.size).data.toList) := Lib.hid (by
  rw [numberL_neg hn, tail_extract, head_get (by simp; omega), byte48' hz]
  simp)
 have Hz : Hid ((((s.extract 1 s.size).data.toList.head?.getD 0).toNat == 48 && decide (1 < (s.extract 1 s.size).data.toList.length)) = false) := Lib.hid (by rw [head_get (by simp; omega), byte48' hz]; rfl)
 have HSZ : Hid ((s.extract 1 s.size).size = s.size - 1) := Lib.hid (by simp)
 have ht1 : 1 ≤ (s.extract 1 s.size).size := by simp; omega
 have ht9 : (s.extract 1 s.size).size ≤ 9 := by simp; omega
 go_enter Tryz.func157, Tryz.ntmps157
 go_wp2_with (first | (go_at_call 155; refine (hasPrefix_any _ _ _).mono ?_; rintro e w' ⟨rfl, rfl⟩))
 go_loopw [5] (fun _ wr => ∃ pos : Nat, wr = w.iter (s.extract 1 s.size) pos ∧ pos ≤ (s.extract 1 s.size).size ∧ runTo digitB (s.extract 1 s.size).data.toList pos) (fun _ wr => (s.extract 1 s.size).size - wr.iterPos w.heap.size)
 case atStart => exact ⟨0, rfl, Nat.zero_le _, runTo_zero _ _⟩
 case round =>
  obtain ⟨pos, rfl, hle, hto⟩ := hrel
  by_cases hp : pos < (s.extract 1 s.size).size
  ·by_cases ha : ((s.extract 1 s.size)[pos]'hp).toNat < 128
   ·have hnx : ∀ ty, (Instr.next (.pointer (some ⟨w.heap.size, 0, none⟩)) true ty).run Tryz.prog (w.iter (s.extract 1 s.size) pos) = _ := fun ty => run_next_ascii w (s.extract 1 s.size) pos ty hp ha
    cases hd : isDigit (((s.extract 1 s.size)[pos]'hp).toNat : Int)
    ·have Hf := Lib.hid (numCore_no (l := (s.extract 1 s.size).data.toList) (j := pos) (by simpa using hp) hd)
     go_wp2_with (first | (go_at_call 106; refine (digit_no _ _ hd).mono ?_; rintro e w' ⟨rfl, rfl⟩))
     go_ret
     exact ⟨by rw [HN.out, Hf.out]; rfl, below_iter _ _ _⟩
    ·go_wp2_with (first | (go_at_call 106; refine (digit_yes _ _ hd).mono ?_; rintro e w' ⟨rfl, rfl⟩))
     go_roundw
     case rel => exact ⟨pos + 1, rfl, by omega, runTo_step hp hto hd⟩
     case measure => have e := HSZ.out; simp; omega
   ·have hdec := decode_high (s.extract 1 s.size) pos hp (by omega)
    obtain ⟨hge, hw1⟩ := hdec
    have hle' := decode_le (s.extract 1 s.size) pos
    have hd : isDigit ((Utf8.decode (s.extract 1 s.size) pos).1 : Int) = false := by simp [isDigit]; omega
    have hdb : digitB ((s.extract 1 s.size)[pos]'hp) = false := by simp [digitB, isDigit]; omega
    have Hf := Lib.hid (numCore_no (l := (s.extract 1 s.size).data.toList) (j := pos) (by simpa using hp) hdb)
    have hnx : ∀ ty, (Instr.next (.pointer (some ⟨w.heap.size, 0, none⟩)) true ty).run Tryz.prog (w.iter (s.extract 1 s.size) pos) = _ := fun ty => run_next_any w (s.extract 1 s.size) pos ty hp
    clear hdb
    go_wp2_with (first | (go_at_call 106; refine (digit_no _ _ hd).mono ?_; rintro e w' ⟨rfl, rfl⟩))
    go_ret
    exact ⟨by rw [HN.out, Hf.out]; rfl, below_iter _ _ _⟩
  ·have hnx : ∀ ty, (Instr.next (.pointer (some ⟨w.heap.size, 0, none⟩)) true ty).run Tryz.prog (w.iter (s.extract 1 s.size) pos) = _ := fun ty => run_next_end w (s.extract 1 s.size) pos ty hp
   have Hf := Lib.hid (numCore_yes (l := (s.extract 1 s.size).data.toList) (by simp; omega) (by simp; omega) Hz.out (fun j hj => hto j hj (by have e := HSZ.out; simp at hj; omega)))
   go_wp2_with fail
   go_ret
   exact ⟨by rw [HN.out, Hf.out]; rfl, below_iter _ _ _⟩
theorem hasPrefix_size {s : ByteArray} (h : Lib.hasPrefix s.data.toList [45] = true) : 1 ≤ s.size := by
 unfold Lib.hasPrefix at h
 have := (List.isPrefixOf_iff_prefix.1 h).length_le
 simpa using this
theorem number_any (s : ByteArray) (w : World) :
  Calls Tryz.prog 157 #[.string s] w fun e w' => e = .returned (.bool (numberL s.data.toList)) ∧ Below w.heap.size w w' := by
 cases hn : Lib.hasPrefix s.data.toList [45]
 ·rcases Nat.eq_zero_or_pos s.size with h0 | h0
  ·exact number_pos_nil s w hn h0
  ·rcases Nat.lt_or_ge 9 s.size with h9 | h9
   ·exact number_pos_long s w hn h9
   ·cases hz : (((s[0]'(by omega)).toNat : Int) == 48)
    ·exact number_pos_more s w hn h0 h9 hz
    ·rcases Nat.lt_or_ge 1 s.size with h1 | h1
     ·exact number_pos_zero s w hn h1 h9 hz
     ·exact number_pos_one s w hn h0 h1 hz
 ·have h1 := hasPrefix_size hn
  rcases Nat.lt_or_ge 1 s.size with h2 | h2
  ·rcases Nat.lt_or_ge 10 s.size with h9 | h9
   ·exact number_neg_long s w hn h9
   ·cases hz : ((((s.extract 1 s.size)[0]'(by simp; omega)).toNat : Int) == 48)
    ·exact number_neg_more s w hn h2 h9 hz
    ·exact number_neg_zero s w hn h2 h9 hz
  ·exact number_neg_nil s w hn h1 h2
end
end Go.Proofs.YtnnolijagpakiaaGreatDoor
