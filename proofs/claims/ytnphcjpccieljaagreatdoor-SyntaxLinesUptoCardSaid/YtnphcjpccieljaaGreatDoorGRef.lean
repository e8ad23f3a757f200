/- The reference's character tests, word and slash. The reference's word, slash, Word and Label. The reference's Label. -/
import Derived.Test.YtnphcjpccieljaaGreatDoorGLex
import Derived.Test.YtnphcjpccieljaaGreatDoorGLexH
namespace Go.Proofs.YtnphcjpccieljaaGreatDoor
open Go.RowKit

theorem rletter_yes (c : Int) (w : World) (h : isLetter c = true) : Calls Tryz.prog 118 #[.int .u8 c] w fun e w' => e = .returned (.bool true) ∧ w = w' := by
  obtain ⟨h1, h2⟩ : 97 ≤ c ∧ c ≤ 122 := by simpa [isLetter] using h
  clear h
  go_enter Tryz.func118, Tryz.ntmps118
  go_wp2
  go_ret
  exact ⟨rfl, rfl⟩
theorem rletter_no (c : Int) (w : World) (h : isLetter c = false) : Calls Tryz.prog 118 #[.int .u8 c] w fun e w' => e = .returned (.bool false) ∧ w = w' := by
  by_cases h1 : 97 ≤ c
  · have h2 : ¬ c ≤ 122 := by simp [isLetter] at h; omega
    clear h
    go_enter Tryz.func118, Tryz.ntmps118
    go_wp2
    go_ret
    exact ⟨rfl, rfl⟩
  · clear h
    go_enter Tryz.func118, Tryz.ntmps118
    go_wp2
    go_ret
    exact ⟨rfl, rfl⟩
theorem rletter_any (c : Int) (w : World) : Calls Tryz.prog 118 #[.int .u8 c] w fun e w' => e = .returned (.bool (isLetter c)) ∧ w = w' := by
  cases h : isLetter c
  · exact rletter_no c w h
  · exact rletter_yes c w h
theorem rdigit_yes (c : Int) (w : World) (h : isDigit c = true) : Calls Tryz.prog 119 #[.int .u8 c] w fun e w' => e = .returned (.bool true) ∧ w = w' := by
  obtain ⟨h1, h2⟩ : 48 ≤ c ∧ c ≤ 57 := by simpa [isDigit] using h
  clear h
  go_enter Tryz.func119, Tryz.ntmps119
  go_wp2
  go_ret
  exact ⟨rfl, rfl⟩
theorem rdigit_no (c : Int) (w : World) (h : isDigit c = false) : Calls Tryz.prog 119 #[.int .u8 c] w fun e w' => e = .returned (.bool false) ∧ w = w' := by
  by_cases h1 : 48 ≤ c
  · have h2 : ¬ c ≤ 57 := by simp [isDigit] at h; omega
    clear h
    go_enter Tryz.func119, Tryz.ntmps119
    go_wp2
    go_ret
    exact ⟨rfl, rfl⟩
  · clear h
    go_enter Tryz.func119, Tryz.ntmps119
    go_wp2
    go_ret
    exact ⟨rfl, rfl⟩
theorem rdigit_any (c : Int) (w : World) : Calls Tryz.prog 119 #[.int .u8 c] w fun e w' => e = .returned (.bool (isDigit c)) ∧ w = w' := by
  cases h : isDigit c
  · exact rdigit_no c w h
  · exact rdigit_yes c w h
end Go.Proofs.YtnphcjpccieljaaGreatDoor

namespace Go.Proofs.YtnphcjpccieljaaGreatDoor
open Go.RowKit

def noSlashB (c : UInt8) : Bool := (c.toNat : Int) != 47
theorem noSlash_index : ∀ l : List UInt8, (runL noSlashB l < l.length → Lib.indexByte l 47 = (runL noSlashB l : Nat)) ∧ (runL noSlashB l = l.length → Lib.indexByte l 47 = -1)
  | [] => ⟨fun h => by simp [runL] at h, fun _ => rfl⟩
  | c :: r => by
    obtain ⟨h1, h2⟩ := noSlash_index r
    have hle := runL_le noSlashB r
    by_cases hc : (c == 47) = true
    · have e : noSlashB c = false := by obtain rfl := eq_of_beq hc; rfl
      have e2 : runL noSlashB (c :: r) = 0 := by simp [runL, e]
      rw [e2]
      refine ⟨fun _ => by rw [Lib.indexByte, if_pos hc]; rfl, fun h => by simp at h⟩
    · have e : noSlashB c = true := by
        have hne : c ≠ 47 := by simpa using hc
        have : c.toNat ≠ 47 := fun h => hne (UInt8.toNat_inj.1 (by simpa using h))
        simp [noSlashB]; omega
      have e2 : runL noSlashB (c :: r) = runL noSlashB r + 1 := by simp [runL, e]
      rw [e2]
      refine ⟨fun h => ?_, fun h => ?_⟩
      · have h3 := h1 (by simpa using h)
        rw [Lib.indexByte, if_neg hc, h3, if_neg (by simp <;> omega)] <;> omega
      · have h3 := h2 (by simpa using h)
        rw [Lib.indexByte, if_neg hc, h3]; rfl
theorem parts_slash {l : List UInt8} (h : runL noSlashB l < l.length) : partsL l = l.take (runL noSlashB l) :: partsL (l.drop (runL noSlashB l + 1)) := (partsL_some ((noSlash_index l).1 h)).2
theorem parts_noSlash {l : List UInt8} (h : ¬ runL noSlashB l < l.length) : partsL l = [l] := partsL_none ((noSlash_index l).2 (by have := runL_le noSlashB l; omega))
theorem hasSlash_run (l : List UInt8) : hasSlash l = decide (runL noSlashB l < l.length) := by
  have hle := runL_le noSlashB l
  unfold hasSlash
  by_cases h : runL noSlashB l < l.length
  · rw [(noSlash_index l).1 h]; simp [h]
  · rw [(noSlash_index l).2 (by omega)]; simp [h]

theorem alnum_word {l : List UInt8} {most : Nat} (h0 : 0 < l.length) (h1 : l.length ≤ most) (hh : letterB l[0] = true) (h : runTo alnumB l l.length) : wordL most l = true := by
  refine wordL_true h0 h1 (fun j hj => ?_)
  have := h j hj hj
  unfold alnumB at this
  rcases Nat.eq_zero_or_pos j with rfl | hp
  · exact .inl hh
  · cases hl : letterB l[j]
    · rw [hl] at this; exact .inr ⟨by omega, by simpa using this⟩
    · exact .inl rfl
theorem rword_nil (s : ByteArray) (m : Nat) (w : World) (h : s.size = 0) :
    Calls Tryz.prog 84 #[.string s, .int .i64 m] w fun e w' => e = .returned (.bool (wordL m s.data.toList)) ∧ w = w' := by
  have h1 : decide ((s.size : Int) < 1) = true := by simp; omega
  have HF := Lib.hid (wordL_nil (most := m) (l := s.data.toList) (by simpa using h))
  clear h
  go_enter Tryz.func84, Tryz.ntmps84
  go_wp2_with fail
  go_ret
  exact ⟨by rw [HF.out]; rfl, rfl⟩
theorem rword_long (s : ByteArray) (m : Nat) (w : World) (h0 : 0 < s.size) (h : m < s.size) :
    Calls Tryz.prog 84 #[.string s, .int .i64 m] w fun e w' => e = .returned (.bool (wordL m s.data.toList)) ∧ w = w' := by
  have h1 : decide ((s.size : Int) < 1) = false := by simp; omega
  have h2 : decide ((m : Int) < (s.size : Int)) = true := by simp; omega
  have HF := Lib.hid (wordL_long (most := m) (l := s.data.toList) (by simpa using h))
  go_enter Tryz.func84, Tryz.ntmps84
  go_wp2_with fail
  go_ret
  exact ⟨by rw [HF.out]; rfl, rfl⟩
theorem rword_head (s : ByteArray) (m : Nat) (w : World) (h0 : 0 < s.size) (h : s.size ≤ m) (hl : isLetter ((s[0]'h0).toNat : Int) = false) :
    Calls Tryz.prog 84 #[.string s, .int .i64 m] w fun e w' => e = .returned (.bool (wordL m s.data.toList)) ∧ w = w' := by
  have h1 : decide ((s.size : Int) < 1) = false := by simp; omega
  have h2 : decide ((m : Int) < (s.size : Int)) = false := by simp; omega
  have h2' : decide (m < s.size) = false := by simp; omega
  have hz : (0 : Int) < s.size := by omega
  have HF := Lib.hid (wordL_false (most := m) (l := s.data.toList) (j := 0) (by simpa using h0) hl (.inl rfl))
  go_enter Tryz.func84, Tryz.ntmps84
  go_wp2_with (first | (go_at_call 118; refine (rletter_no _ _ hl).mono ?_; rintro e w' ⟨rfl, rfl⟩))
  go_ret
  exact ⟨by rw [HF.out]; rfl, rfl⟩
set_option maxHeartbeats 400000 in
theorem rword_body (s : ByteArray) (m : Nat) (w : World) (hm : m ≤ 1000) (h0 : 0 < s.size) (h : s.size ≤ m) (hl : isLetter ((s[0]'h0).toNat : Int) = true) :
    Calls Tryz.prog 84 #[.string s, .int .i64 m] w fun e w' => e = .returned (.bool (wordL m s.data.toList)) ∧ w = w' := by
  have h1 : decide ((s.size : Int) < 1) = false := by simp; omega
  have h2 : decide ((m : Int) < (s.size : Int)) = false := by simp; omega
  have h2' : decide (m < s.size) = false := by simp; omega
  have hz : (0 : Int) < s.size := by omega
  have HL := Lib.hid hl
  go_enter Tryz.func84, Tryz.ntmps84
  go_wp2_with (first | (go_at_call 118; refine (rletter_yes _ _ hl).mono ?_; rintro e w' ⟨rfl, rfl⟩))
  go_loop [5] (fun i => ∃ k : Nat, k ≤ s.size ∧ i = .int .i64 k ∧ runTo alnumB s.data.toList k) (fun i => s.size - (intOf i).toNat)
  case atStart => exact ⟨0, Nat.zero_le _, rfl, runTo_zero _ _⟩
  case round =>
    obtain ⟨k, hk, rfl, hto⟩ := hrel
    clear hl
    by_cases hlt : k < s.size
    · cases hlk : isLetter ((s[k]'hlt).toNat : Int)
      · cases hdk : isDigit ((s[k]'hlt).toNat : Int)
        · have HF := Lib.hid (wordL_false (most := m) (l := s.data.toList) (j := k) (by simpa using hlt) hlk (.inr hdk))
          go_wp2_with (first | (go_at_call 118; refine (rletter_any _ _).mono ?_; rintro e w' ⟨rfl, rfl⟩) | (go_at_call 119; refine (rdigit_any _ _).mono ?_; rintro e w' ⟨rfl, rfl⟩))
          go_ret
          exact ⟨by rw [HF.out]; rfl, rfl⟩
        · go_wp2_with (first | (go_at_call 118; refine (rletter_any _ _).mono ?_; rintro e w' ⟨rfl, rfl⟩) | (go_at_call 119; refine (rdigit_any _ _).mono ?_; rintro e w' ⟨rfl, rfl⟩))
          go_round
          case rel => exact ⟨k + 1, by omega, by go_num, runTo_step hlt hto (by simp [alnumB, digitB, hdk])⟩
          case measure => simp [intOf]; omega
      · go_wp2_with (first | (go_at_call 118; refine (rletter_any _ _).mono ?_; rintro e w' ⟨rfl, rfl⟩))
        go_round
        case rel => exact ⟨k + 1, by omega, by go_num, runTo_step hlt hto (by simp [alnumB, letterB, hlk])⟩
        case measure => simp [intOf]; omega
    · have HF := Lib.hid (alnum_word (most := m) (l := s.data.toList) (by simpa using h0) (by simpa using h) HL.out (fun j hj _ => hto j hj (by simp at hj; omega)))
      go_wp2_with fail
      go_ret
      exact ⟨by rw [HF.out]; rfl, rfl⟩
theorem rword_any (s : ByteArray) (m : Nat) (w : World) (hm : m ≤ 1000) :
    Calls Tryz.prog 84 #[.string s, .int .i64 m] w fun e w' => e = .returned (.bool (wordL m s.data.toList)) ∧ w = w' := by
  rcases Nat.eq_zero_or_pos s.size with h | h
  · exact rword_nil s m w h
  · rcases Nat.lt_or_ge m s.size with h' | h'
    · exact rword_long s m w h h'
    · cases hl : isLetter ((s[0]'h).toNat : Int)
      · exact rword_head s m w h h' hl
      · exact rword_body s m w hm h h' hl
theorem rWord_any (s : ByteArray) (w : World) :
    Calls Tryz.prog 53 #[.string s] w fun e w' => e = .returned (.bool (wordL 24 s.data.toList)) ∧ w = w' := by
  go_enter Tryz.func53, Tryz.ntmps53
  go_wp2_with (first | (go_at_call 84; refine (rword_any _ 24 _ (by omega)).mono ?_; rintro e w' ⟨rfl, rfl⟩))
  go_ret
  exact ⟨rfl, rfl⟩
set_option maxHeartbeats 400000 in
theorem rslash_any (s : ByteArray) (w : World) (hs : s.size ≤ maxLen) :
    Calls Tryz.prog 117 #[.string s] w fun e w' => e = .returned (.int .i64 (runL noSlashB s.data.toList)) ∧ w = w' := by
  unfold maxLen at hs
  go_enter Tryz.func117, Tryz.ntmps117
  go_wp2_with fail
  go_loop [3] (fun i => ∃ k : Nat, k ≤ s.size ∧ i = .int .i64 k ∧ runTo noSlashB s.data.toList k) (fun i => s.size - (intOf i).toNat)
  case atStart => exact ⟨0, Nat.zero_le _, rfl, runTo_zero _ _⟩
  case round =>
    obtain ⟨k, hk, rfl, hto⟩ := hrel
    by_cases hlt : k < s.size
    · cases hr : (((s[k]'hlt).toNat : Int) != 47)
      · have Hf := Lib.hid (runL_eq (p := noSlashB) (l := s.data.toList) (k := k) (by simpa using hk) hto (fun _ => hr))
        go_wp2_with fail
        go_ret
        exact ⟨by rw [Hf.out]; rfl, rfl⟩
      · go_wp2_with fail
        go_round
        case rel => exact ⟨k + 1, by omega, by go_num, runTo_step hlt hto hr⟩
        case measure => simp [intOf]; omega
    · have Hf := Lib.hid (runL_eq (p := noSlashB) (l := s.data.toList) (k := k) (by simpa using hk) hto (fun h => absurd (by simpa using h) hlt))
      go_wp2_with fail
      go_ret
      exact ⟨by rw [Hf.out]; rfl, rfl⟩
end Go.Proofs.YtnphcjpccieljaaGreatDoor

namespace Go.Proofs.YtnphcjpccieljaaGreatDoor
open Go.RowKit

/-- the length of a string value -/
def strLen (v : Value) : Nat := match v with | .string s => s.size | _ => 0
def LabelRel (s : ByteArray) (v i : Value) : Prop := ∃ t : ByteArray, v = .string t ∧ i = .int .i64 (runL noSlashB t.data.toList) ∧ t.size ≤ 90 ∧ (partsL s.data.toList).all (wordL 20) = (partsL t.data.toList).all (wordL 20)
theorem labelL_short {l : List UInt8} (h : l.length ≤ 90) : labelL l = (partsL l).all (wordL 20) := by simp [labelL, h]
theorem rLabel_long (s : ByteArray) (w : World) (h : 90 < s.size) :
    Calls Tryz.prog 78 #[.string s] w fun e w' => e = .returned (.bool (labelL s.data.toList)) ∧ w = w' := by
  have HF := Lib.hid (labelL_long (l := s.data.toList) (by simpa using h))
  go_enter Tryz.func78, Tryz.ntmps78
  go_wp2_with fail
  go_ret
  exact ⟨by rw [HF.out]; rfl, rfl⟩
set_option maxHeartbeats 400000 in
theorem rLabel_short (s : ByteArray) (w : World) (h : s.size ≤ 90) :
    Calls Tryz.prog 78 #[.string s] w fun e w' => e = .returned (.bool (labelL s.data.toList)) ∧ w = w' := by
  have h90 : decide (90 < (s.size : Int)) = false := by simp; omega
  have HL := Lib.hid (labelL_short (l := s.data.toList) (by simpa using h))
  go_enter Tryz.func78, Tryz.ntmps78
  go_wp2_with (first | (go_at_call 117; refine (rslash_any _ _ (by unfold maxLen; omega)).mono ?_; rintro e w' ⟨rfl, rfl⟩))
  go_loop [0, 3] (fun v i => LabelRel s v i) (fun v _ => strLen v)
  case atStart => exact ⟨s, rfl, rfl, h, rfl⟩
  case round =>
    obtain ⟨t, rfl, rfl, ht, hq⟩ := hrel
    have HQ := Lib.hid hq
    clear hq
    have hrl : runL noSlashB t.data.toList ≤ t.size := by have := runL_le noSlashB t.data.toList; simpa using this
    by_cases hlt : runL noSlashB t.data.toList < t.size
    · have HP := Lib.hid (parts_slash (l := t.data.toList) (by simpa using hlt))
      cases hw : wordL 20 (t.data.toList.take (runL noSlashB t.data.toList))
      · have HF : Hid (labelL s.data.toList = false) := Lib.hid (by rw [HL.out, HQ.out, HP.out, List.all_cons, hw]; rfl)
        have Hc : Hid (∀ W, Calls Tryz.prog 84 #[.string (t.extract 0 (runL noSlashB t.data.toList)), .int .i64 20] W fun e w' => e = .returned (.bool false) ∧ W = w') := Lib.hid (fun W => by
          have h1 := rword_any (t.extract 0 (runL noSlashB t.data.toList)) 20 W (by omega)
          rw [extract_list, List.drop_zero, Nat.sub_zero, hw] at h1; exact h1)
        clear hw
        generalize runL noSlashB t.data.toList = n at *
        go_wp2_with (first | (go_at_call 84; refine (Hc.out _).mono ?_; rintro e w' ⟨rfl, rfl⟩))
        go_ret
        exact ⟨by rw [HF.out]; rfl, rfl⟩
      · have Hc : Hid (∀ W, Calls Tryz.prog 84 #[.string (t.extract 0 (runL noSlashB t.data.toList)), .int .i64 20] W fun e w' => e = .returned (.bool true) ∧ W = w') := Lib.hid (fun W => by
          have h1 := rword_any (t.extract 0 (runL noSlashB t.data.toList)) 20 W (by omega)
          rw [extract_list, List.drop_zero, Nat.sub_zero, hw] at h1; exact h1)
        obtain ⟨t2, HT⟩ : ∃ t2, Hid (t2 = t.extract (runL noSlashB t.data.toList + 1) t.size) := ⟨_, Lib.hid rfl⟩
        have HR : Hid ((partsL s.data.toList).all (wordL 20) = (partsL t2.data.toList).all (wordL 20)) := Lib.hid (by rw [HQ.out, HP.out, List.all_cons, hw, HT.out, extract_end]; rfl)
        have hsz : t2.size < t.size := by rw [HT.out]; simp; omega
        have Hs : Hid (∀ W, Calls Tryz.prog 117 #[.string (t.extract (runL noSlashB t.data.toList + 1) t.size)] W fun e w' => e = .returned (.int .i64 (runL noSlashB t2.data.toList)) ∧ W = w') := Lib.hid (fun W => by
          rw [← HT.out]; exact rslash_any t2 W (by unfold maxLen; omega))
        clear hw
        generalize runL noSlashB t.data.toList = n at *
        go_wp2_with (first | (go_at_call 84; refine (Hc.out _).mono ?_; rintro e w' ⟨rfl, rfl⟩) | (go_at_call 117; refine (Hs.out _).mono ?_; rintro e w' ⟨rfl, rfl⟩))
        go_round
        case rel => exact ⟨t2, by rw [HT.out], rfl, by omega, HR.out⟩
        case measure => simp only [strLen]; have := HT.out; rw [this] at hsz; simpa [strLen] using hsz
    · have HF : Hid (labelL s.data.toList = wordL 20 t.data.toList) := Lib.hid (by rw [HL.out, HQ.out, parts_noSlash (by simpa using hlt)]; simp)
      go_wp2_with (first | (go_at_call 84; refine (rword_any _ 20 _ (by omega)).mono ?_; rintro e w' ⟨rfl, rfl⟩))
      go_ret
      exact ⟨by rw [HF.out]; rfl, rfl⟩
theorem rLabel_any (s : ByteArray) (w : World) :
    Calls Tryz.prog 78 #[.string s] w fun e w' => e = .returned (.bool (labelL s.data.toList)) ∧ w = w' := by
  rcases Nat.lt_or_ge 90 s.size with h | h
  · exact rLabel_long s w h
  · exact rLabel_short s w h
end Go.Proofs.YtnphcjpccieljaaGreatDoor
