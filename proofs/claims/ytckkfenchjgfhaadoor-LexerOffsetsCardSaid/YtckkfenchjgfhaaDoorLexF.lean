/- number of the lexer, for every string. -/
import Derived.Test.YtckkfenchjgfhaaDoorLexE
namespace Go.Proofs.YtckkfenchjgfhaaDoor
open Go.RowKit

theorem numCore_no {l : List UInt8} {j : Nat} (hj : j < l.length) (h : digitB l[j] = false) : numCore l = false := by
  have : l.all digitB = false := by rw [List.all_eq_false]; exact ⟨l[j], List.getElem_mem _, by simp [h]⟩
  simp [numCore, this]
theorem numCore_yes {l : List UInt8} (h0 : 1 ≤ l.length) (h1 : l.length ≤ 9) (h2 : ((l.head?.getD 0).toNat == 48 && decide (1 < l.length)) = false) (h : ∀ j (hj : j < l.length), digitB l[j] = true) : numCore l = true := by
  have : l.all digitB = true := by
    rw [List.all_eq_true]; intro x hx
    obtain ⟨j, hj, rfl⟩ := List.getElem_of_mem hx
    exact h j hj
  unfold numCore
  rw [h2, this]; simp [h0, h1]
theorem numCore_nil {l : List UInt8} (h : l.length = 0) : numCore l = false := by simp [numCore, h]
theorem numCore_long {l : List UInt8} (h : 9 < l.length) : numCore l = false := by simp [numCore, Nat.not_le.2 h]
theorem numCore_zero {l : List UInt8} (h : ((l.head?.getD 0).toNat == 48 && decide (1 < l.length)) = true) : numCore l = false := by
  unfold numCore; rw [h]; simp
theorem head_get {t : ByteArray} (h : 0 < t.size) : t.data.toList.head?.getD 0 = t[0] := by
  have := drop_get t 0 h
  rw [List.drop_zero] at this
  rw [this]; rfl
theorem byte48 {c : UInt8} (h : ((c.toNat : Int) == 48) = true) : (c.toNat == 48) = true := by simp at h ⊢; omega
theorem byte48' {c : UInt8} (h : ((c.toNat : Int) == 48) = false) : (c.toNat == 48) = false := by simp at h ⊢; omega
theorem numberL_neg {l : List UInt8} (h : Lib.hasPrefix l [45] = true) : numberL l = (numCore l.tail && !((l.tail.head?.getD 0).toNat == 48)) := by unfold numberL; rw [if_pos h]
theorem numberL_pos {l : List UInt8} (h : Lib.hasPrefix l [45] = false) : numberL l = numCore l := by unfold numberL; rw [if_neg (by simp [h])]
theorem tail_extract (s : ByteArray) : s.data.toList.tail = (s.extract 1 s.size).data.toList := by rw [extract_end, List.drop_one]

-- a number without a sign
theorem number_pos_nil (s : ByteArray) (w : World) (hn : Lib.hasPrefix s.data.toList [45] = false) (h0 : s.size = 0) :
    Calls Tryd.prog 38 #[.string s] w fun e w' => e = .returned (.bool (numberL s.data.toList)) ∧ Below w.heap.size w w' := by
  have hE := empty_yes s h0
  have HN : Hid (numberL s.data.toList = false) := Lib.hid (by rw [numberL_pos hn, numCore_nil (by simpa using h0)])
  clear h0
  go_enter Tryd.func38, Tryd.ntmps38
  go_wp2_with (first | (go_at_call 55; refine (hasPrefix_any _ _ _).mono ?_; rintro e w' ⟨rfl, rfl⟩))
  go_ret
  exact ⟨by rw [HN.out]; rfl, Below.refl _ _⟩
theorem number_pos_long (s : ByteArray) (w : World) (hn : Lib.hasPrefix s.data.toList [45] = false) (h0 : 9 < s.size) :
    Calls Tryd.prog 38 #[.string s] w fun e w' => e = .returned (.bool (numberL s.data.toList)) ∧ Below w.heap.size w w' := by
  have hE := empty_no s (by omega)
  have HN : Hid (numberL s.data.toList = false) := Lib.hid (by rw [numberL_pos hn, numCore_long (by simpa using h0)])
  go_enter Tryd.func38, Tryd.ntmps38
  go_wp2_with (first | (go_at_call 55; refine (hasPrefix_any _ _ _).mono ?_; rintro e w' ⟨rfl, rfl⟩))
  go_ret
  exact ⟨by rw [HN.out]; rfl, Below.refl _ _⟩
theorem number_pos_zero (s : ByteArray) (w : World) (hn : Lib.hasPrefix s.data.toList [45] = false) (h0 : 1 < s.size) (h9 : s.size ≤ 9) (hz : (((s[0]'(by omega)).toNat : Int) == 48) = true) :
    Calls Tryd.prog 38 #[.string s] w fun e w' => e = .returned (.bool (numberL s.data.toList)) ∧ Below w.heap.size w w' := by
  have hE := empty_no s (by omega)
  have HN : Hid (numberL s.data.toList = false) := Lib.hid (by
    rw [numberL_pos hn, numCore_zero]
    rw [head_get (by omega), byte48 hz]
    simp [h0])
  go_enter Tryd.func38, Tryd.ntmps38
  go_wp2_with (first | (go_at_call 55; refine (hasPrefix_any _ _ _).mono ?_; rintro e w' ⟨rfl, rfl⟩))
  go_ret
  exact ⟨by rw [HN.out]; rfl, Below.refl _ _⟩
set_option maxHeartbeats 400000 in
theorem number_pos_one (t : ByteArray) (w : World) (hn : Lib.hasPrefix t.data.toList [45] = false) (h0 : 1 ≤ t.size) (h9 : t.size ≤ 1) (hz : (((t[0]'(by omega)).toNat : Int) == 48) = true) :
    Calls Tryd.prog 38 #[.string t] w fun e w' => e = .returned (.bool (numberL t.data.toList)) ∧ Below w.heap.size w w' := by
  have hE := empty_no t (by omega)
  have HN := Lib.hid (numberL_pos hn)
  have HSZ : Hid (t.size = t.size) := Lib.hid rfl
  have Hz : Hid (((t.data.toList.head?.getD 0).toNat == 48 && decide (1 < t.data.toList.length)) = false) := Lib.hid (by rw [Bool.and_eq_false_iff]; right; simp; omega)
  have hgt : decide (9 < (t.size : Int)) = false := by simp; omega
  have hg1 : decide (1 < (t.size : Int)) = false := by simp; omega
  go_enter Tryd.func38, Tryd.ntmps38
  go_wp2_with (first | (go_at_call 55; refine (hasPrefix_any _ _ _).mono ?_; rintro e w' ⟨rfl, rfl⟩))
  go_loopw [5] (fun _ wr => ∃ pos : Nat, wr = w.iter t pos ∧ pos ≤ t.size ∧ runTo digitB t.data.toList pos) (fun _ wr => t.size - wr.iterPos w.heap.size)
  case atStart => exact ⟨0, rfl, Nat.zero_le _, runTo_zero _ _⟩
  case round =>
    obtain ⟨pos, rfl, hle, hto⟩ := hrel
    by_cases hp : pos < t.size
    · by_cases ha : (t[pos]'hp).toNat < 128
      · have hnx : ∀ ty, (Instr.next (.pointer (some ⟨w.heap.size, 0, none⟩)) true ty).run Tryd.prog (w.iter t pos) = _ := fun ty => run_next_ascii w t pos ty hp ha
        cases hd : isDigit ((t[pos]'hp).toNat : Int)
        · have Hf := Lib.hid (numCore_no (l := t.data.toList) (j := pos) (by simpa using hp) hd)
          go_wp2_with (first | (go_at_call 29; refine (digit_no _ _ hd).mono ?_; rintro e w' ⟨rfl, rfl⟩))
          go_ret
          exact ⟨by rw [HN.out, Hf.out]; rfl, below_iter _ _ _⟩
        · go_wp2_with (first | (go_at_call 29; refine (digit_yes _ _ hd).mono ?_; rintro e w' ⟨rfl, rfl⟩))
          go_roundw
          case rel => exact ⟨pos + 1, rfl, by omega, runTo_step hp hto hd⟩
          case measure => have e := HSZ.out; simp; omega
      · have hdec := decode_high t pos hp (by omega)
        obtain ⟨hge, hw1⟩ := hdec
        have hle' := decode_le t pos
        have hd : isDigit ((Utf8.decode t pos).1 : Int) = false := by simp [isDigit]; omega
        have hdb : digitB (t[pos]'hp) = false := by simp [digitB, isDigit]; omega
        have Hf := Lib.hid (numCore_no (l := t.data.toList) (j := pos) (by simpa using hp) hdb)
        have hnx : ∀ ty, (Instr.next (.pointer (some ⟨w.heap.size, 0, none⟩)) true ty).run Tryd.prog (w.iter t pos) = _ := fun ty => run_next_any w t pos ty hp
        clear hdb
        go_wp2_with (first | (go_at_call 29; refine (digit_no _ _ hd).mono ?_; rintro e w' ⟨rfl, rfl⟩))
        go_ret
        exact ⟨by rw [HN.out, Hf.out]; rfl, below_iter _ _ _⟩
    · have hnx : ∀ ty, (Instr.next (.pointer (some ⟨w.heap.size, 0, none⟩)) true ty).run Tryd.prog (w.iter t pos) = _ := fun ty => run_next_end w t pos ty hp
      have Hf := Lib.hid (numCore_yes (l := t.data.toList) (by simp; omega) (by simp; omega) Hz.out (fun j hj => hto j hj (by have e := HSZ.out; simp at hj; omega)))
      go_wp2_with fail
      go_ret
      exact ⟨by rw [HN.out, Hf.out]; rfl, below_iter _ _ _⟩
set_option maxHeartbeats 400000 in
theorem number_pos_more (t : ByteArray) (w : World) (hn : Lib.hasPrefix t.data.toList [45] = false) (h0 : 1 ≤ t.size) (h9 : t.size ≤ 9) (hz : (((t[0]'(by omega)).toNat : Int) == 48) = false) :
    Calls Tryd.prog 38 #[.string t] w fun e w' => e = .returned (.bool (numberL t.data.toList)) ∧ Below w.heap.size w w' := by
  have hE := empty_no t (by omega)
  have HN := Lib.hid (numberL_pos hn)
  have HSZ : Hid (t.size = t.size) := Lib.hid rfl
  have Hz : Hid (((t.data.toList.head?.getD 0).toNat == 48 && decide (1 < t.data.toList.length)) = false) := Lib.hid (by rw [head_get (by omega), byte48' hz]; rfl)
  have hgt : decide (9 < (t.size : Int)) = false := by simp; omega
  go_enter Tryd.func38, Tryd.ntmps38
  go_wp2_with (first | (go_at_call 55; refine (hasPrefix_any _ _ _).mono ?_; rintro e w' ⟨rfl, rfl⟩))
  go_loopw [5] (fun _ wr => ∃ pos : Nat, wr = w.iter t pos ∧ pos ≤ t.size ∧ runTo digitB t.data.toList pos) (fun _ wr => t.size - wr.iterPos w.heap.size)
  case atStart => exact ⟨0, rfl, Nat.zero_le _, runTo_zero _ _⟩
  case round =>
    obtain ⟨pos, rfl, hle, hto⟩ := hrel
    by_cases hp : pos < t.size
    · by_cases ha : (t[pos]'hp).toNat < 128
      · have hnx : ∀ ty, (Instr.next (.pointer (some ⟨w.heap.size, 0, none⟩)) true ty).run Tryd.prog (w.iter t pos) = _ := fun ty => run_next_ascii w t pos ty hp ha
        cases hd : isDigit ((t[pos]'hp).toNat : Int)
        · have Hf := Lib.hid (numCore_no (l := t.data.toList) (j := pos) (by simpa using hp) hd)
          go_wp2_with (first | (go_at_call 29; refine (digit_no _ _ hd).mono ?_; rintro e w' ⟨rfl, rfl⟩))
          go_ret
          exact ⟨by rw [HN.out, Hf.out]; rfl, below_iter _ _ _⟩
        · go_wp2_with (first | (go_at_call 29; refine (digit_yes _ _ hd).mono ?_; rintro e w' ⟨rfl, rfl⟩))
          go_roundw
          case rel => exact ⟨pos + 1, rfl, by omega, runTo_step hp hto hd⟩
          case measure => have e := HSZ.out; simp; omega
      · have hdec := decode_high t pos hp (by omega)
        obtain ⟨hge, hw1⟩ := hdec
        have hle' := decode_le t pos
        have hd : isDigit ((Utf8.decode t pos).1 : Int) = false := by simp [isDigit]; omega
        have hdb : digitB (t[pos]'hp) = false := by simp [digitB, isDigit]; omega
        have Hf := Lib.hid (numCore_no (l := t.data.toList) (j := pos) (by simpa using hp) hdb)
        have hnx : ∀ ty, (Instr.next (.pointer (some ⟨w.heap.size, 0, none⟩)) true ty).run Tryd.prog (w.iter t pos) = _ := fun ty => run_next_any w t pos ty hp
        clear hdb
        go_wp2_with (first | (go_at_call 29; refine (digit_no _ _ hd).mono ?_; rintro e w' ⟨rfl, rfl⟩))
        go_ret
        exact ⟨by rw [HN.out, Hf.out]; rfl, below_iter _ _ _⟩
    · have hnx : ∀ ty, (Instr.next (.pointer (some ⟨w.heap.size, 0, none⟩)) true ty).run Tryd.prog (w.iter t pos) = _ := fun ty => run_next_end w t pos ty hp
      have Hf := Lib.hid (numCore_yes (l := t.data.toList) (by simp; omega) (by simp; omega) Hz.out (fun j hj => hto j hj (by have e := HSZ.out; simp at hj; omega)))
      go_wp2_with fail
      go_ret
      exact ⟨by rw [HN.out, Hf.out]; rfl, below_iter _ _ _⟩

-- a number with a sign
theorem number_neg_nil (s : ByteArray) (w : World) (hn : Lib.hasPrefix s.data.toList [45] = true) (h1 : 1 ≤ s.size) (h0 : s.size ≤ 1) :
    Calls Tryd.prog 38 #[.string s] w fun e w' => e = .returned (.bool (numberL s.data.toList)) ∧ Below w.heap.size w w' := by
  have hE := empty_yes (s.extract 1 s.size) (by simp; omega)
  have HN : Hid (numberL s.data.toList = false) := Lib.hid (by rw [numberL_neg hn, numCore_nil (by simp; omega)]; rfl)
  go_enter Tryd.func38, Tryd.ntmps38
  go_wp2_with (first | (go_at_call 55; refine (hasPrefix_any _ _ _).mono ?_; rintro e w' ⟨rfl, rfl⟩))
  go_ret
  exact ⟨by rw [HN.out]; rfl, Below.refl _ _⟩
theorem number_neg_long (s : ByteArray) (w : World) (hn : Lib.hasPrefix s.data.toList [45] = true) (h0 : 10 < s.size) :
    Calls Tryd.prog 38 #[.string s] w fun e w' => e = .returned (.bool (numberL s.data.toList)) ∧ Below w.heap.size w w' := by
  have hE := empty_no (s.extract 1 s.size) (by simp; omega)
  have hgt : decide (9 < ((s.size - 1 : Nat) : Int)) = true := by simp; omega
  have HN : Hid (numberL s.data.toList = false) := Lib.hid (by rw [numberL_neg hn, numCore_long (by simp; omega)]; rfl)
  go_enter Tryd.func38, Tryd.ntmps38
  go_wp2_with (first | (go_at_call 55; refine (hasPrefix_any _ _ _).mono ?_; rintro e w' ⟨rfl, rfl⟩))
  go_ret
  exact ⟨by rw [HN.out]; rfl, Below.refl _ _⟩
theorem number_neg_zero (s : ByteArray) (w : World) (hn : Lib.hasPrefix s.data.toList [45] = true) (h0 : 2 ≤ s.size) (h9 : s.size ≤ 10) (hz : ((((s.extract 1 s.size)[0]'(by simp; omega)).toNat : Int) == 48) = true) :
    Calls Tryd.prog 38 #[.string s] w fun e w' => e = .returned (.bool (numberL s.data.toList)) ∧ Below w.heap.size w w' := by
  have hE := empty_no (s.extract 1 s.size) (by simp; omega)
  have hgt : decide (9 < ((s.size - 1 : Nat) : Int)) = false := by simp; omega
  have hl0 : 0 < s.size - 1 := by omega
  have HN : Hid (numberL s.data.toList = false) := Lib.hid (by
    rw [numberL_neg hn, tail_extract, head_get (by simp; omega), byte48 hz]
    simp)
  by_cases hg1 : 1 < s.size - 1
  · have hg2 : decide (1 < ((s.size - 1 : Nat) : Int)) = true := by simp; omega
    go_enter Tryd.func38, Tryd.ntmps38
    go_wp2_with (first | (go_at_call 55; refine (hasPrefix_any _ _ _).mono ?_; rintro e w' ⟨rfl, rfl⟩))
    go_ret
    exact ⟨by rw [HN.out]; rfl, Below.refl _ _⟩
  · have hg2 : decide (1 < ((s.size - 1 : Nat) : Int)) = false := by simp; omega
    go_enter Tryd.func38, Tryd.ntmps38
    go_wp2_with (first | (go_at_call 55; refine (hasPrefix_any _ _ _).mono ?_; rintro e w' ⟨rfl, rfl⟩))
    go_ret
    exact ⟨by rw [HN.out]; rfl, Below.refl _ _⟩
set_option maxHeartbeats 400000 in
theorem number_neg_more (s : ByteArray) (w : World) (hn : Lib.hasPrefix s.data.toList [45] = true) (h0 : 2 ≤ s.size) (h9 : s.size ≤ 10) (hz : ((((s.extract 1 s.size)[0]'(by simp; omega)).toNat : Int) == 48) = false) :
    Calls Tryd.prog 38 #[.string s] w fun e w' => e = .returned (.bool (numberL s.data.toList)) ∧ Below w.heap.size w w' := by
  have hE := empty_no (s.extract 1 s.size) (by simp; omega)
  have hgt : decide (9 < ((s.size - 1 : Nat) : Int)) = false := by simp; omega
  have hl0 : 0 < s.size - 1 := by omega
  have HN : Hid (numberL s.data.toList = numCore (s.extract 1 s.size).data.toList) := Lib.hid (by
    rw [numberL_neg hn, tail_extract, head_get (by simp; omega), byte48' hz]
    simp)
  have Hz : Hid ((((s.extract 1 s.size).data.toList.head?.getD 0).toNat == 48 && decide (1 < (s.extract 1 s.size).data.toList.length)) = false) := Lib.hid (by rw [head_get (by simp; omega), byte48' hz]; rfl)
  have HSZ : Hid ((s.extract 1 s.size).size = s.size - 1) := Lib.hid (by simp)
  have ht1 : 1 ≤ (s.extract 1 s.size).size := by simp; omega
  have ht9 : (s.extract 1 s.size).size ≤ 9 := by simp; omega
  go_enter Tryd.func38, Tryd.ntmps38
  go_wp2_with (first | (go_at_call 55; refine (hasPrefix_any _ _ _).mono ?_; rintro e w' ⟨rfl, rfl⟩))
  go_loopw [5] (fun _ wr => ∃ pos : Nat, wr = w.iter (s.extract 1 s.size) pos ∧ pos ≤ (s.extract 1 s.size).size ∧ runTo digitB (s.extract 1 s.size).data.toList pos) (fun _ wr => (s.extract 1 s.size).size - wr.iterPos w.heap.size)
  case atStart => exact ⟨0, rfl, Nat.zero_le _, runTo_zero _ _⟩
  case round =>
    obtain ⟨pos, rfl, hle, hto⟩ := hrel
    by_cases hp : pos < (s.extract 1 s.size).size
    · by_cases ha : ((s.extract 1 s.size)[pos]'hp).toNat < 128
      · have hnx : ∀ ty, (Instr.next (.pointer (some ⟨w.heap.size, 0, none⟩)) true ty).run Tryd.prog (w.iter (s.extract 1 s.size) pos) = _ := fun ty => run_next_ascii w (s.extract 1 s.size) pos ty hp ha
        cases hd : isDigit (((s.extract 1 s.size)[pos]'hp).toNat : Int)
        · have Hf := Lib.hid (numCore_no (l := (s.extract 1 s.size).data.toList) (j := pos) (by simpa using hp) hd)
          go_wp2_with (first | (go_at_call 29; refine (digit_no _ _ hd).mono ?_; rintro e w' ⟨rfl, rfl⟩))
          go_ret
          exact ⟨by rw [HN.out, Hf.out]; rfl, below_iter _ _ _⟩
        · go_wp2_with (first | (go_at_call 29; refine (digit_yes _ _ hd).mono ?_; rintro e w' ⟨rfl, rfl⟩))
          go_roundw
          case rel => exact ⟨pos + 1, rfl, by omega, runTo_step hp hto hd⟩
          case measure => have e := HSZ.out; simp; omega
      · have hdec := decode_high (s.extract 1 s.size) pos hp (by omega)
        obtain ⟨hge, hw1⟩ := hdec
        have hle' := decode_le (s.extract 1 s.size) pos
        have hd : isDigit ((Utf8.decode (s.extract 1 s.size) pos).1 : Int) = false := by simp [isDigit]; omega
        have hdb : digitB ((s.extract 1 s.size)[pos]'hp) = false := by simp [digitB, isDigit]; omega
        have Hf := Lib.hid (numCore_no (l := (s.extract 1 s.size).data.toList) (j := pos) (by simpa using hp) hdb)
        have hnx : ∀ ty, (Instr.next (.pointer (some ⟨w.heap.size, 0, none⟩)) true ty).run Tryd.prog (w.iter (s.extract 1 s.size) pos) = _ := fun ty => run_next_any w (s.extract 1 s.size) pos ty hp
        clear hdb
        go_wp2_with (first | (go_at_call 29; refine (digit_no _ _ hd).mono ?_; rintro e w' ⟨rfl, rfl⟩))
        go_ret
        exact ⟨by rw [HN.out, Hf.out]; rfl, below_iter _ _ _⟩
    · have hnx : ∀ ty, (Instr.next (.pointer (some ⟨w.heap.size, 0, none⟩)) true ty).run Tryd.prog (w.iter (s.extract 1 s.size) pos) = _ := fun ty => run_next_end w (s.extract 1 s.size) pos ty hp
      have Hf := Lib.hid (numCore_yes (l := (s.extract 1 s.size).data.toList) (by simp; omega) (by simp; omega) Hz.out (fun j hj => hto j hj (by have e := HSZ.out; simp at hj; omega)))
      go_wp2_with fail
      go_ret
      exact ⟨by rw [HN.out, Hf.out]; rfl, below_iter _ _ _⟩
theorem hasPrefix_size {s : ByteArray} (h : Lib.hasPrefix s.data.toList [45] = true) : 1 ≤ s.size := by
  unfold Lib.hasPrefix at h
  have := (List.isPrefixOf_iff_prefix.1 h).length_le
  simpa using this
theorem number_any (s : ByteArray) (w : World) :
    Calls Tryd.prog 38 #[.string s] w fun e w' => e = .returned (.bool (numberL s.data.toList)) ∧ Below w.heap.size w w' := by
  cases hn : Lib.hasPrefix s.data.toList [45]
  · rcases Nat.eq_zero_or_pos s.size with h0 | h0
    · exact number_pos_nil s w hn h0
    · rcases Nat.lt_or_ge 9 s.size with h9 | h9
      · exact number_pos_long s w hn h9
      · cases hz : (((s[0]'(by omega)).toNat : Int) == 48)
        · exact number_pos_more s w hn h0 h9 hz
        · rcases Nat.lt_or_ge 1 s.size with h1 | h1
          · exact number_pos_zero s w hn h1 h9 hz
          · exact number_pos_one s w hn h0 h1 hz
  · have h1 := hasPrefix_size hn
    rcases Nat.lt_or_ge 1 s.size with h2 | h2
    · rcases Nat.lt_or_ge 10 s.size with h9 | h9
      · exact number_neg_long s w hn h9
      · cases hz : ((((s.extract 1 s.size)[0]'(by simp; omega)).toNat : Int) == 48)
        · exact number_neg_more s w hn h2 h9 hz
        · exact number_neg_zero s w hn h2 h9 hz
    · exact number_neg_nil s w hn h1 h2
end Go.Proofs.YtckkfenchjgfhaaDoor
