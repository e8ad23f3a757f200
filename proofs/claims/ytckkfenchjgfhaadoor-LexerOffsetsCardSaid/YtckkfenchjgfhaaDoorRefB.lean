/- The reference's word, slash, Word and Label. -/
import Derived.Test.YtckkfenchjgfhaaDoorRefA
namespace Go.Proofs.YtckkfenchjgfhaaDoor
open Go.RowKit

def noSlashB (c : UInt8) : Bool := (c.toNat : Int) != 47
theorem noSlash_index : ∀ l : List UInt8, (runL noSlashB l < l.length → Lib.indexByte l 47 = (runL noSlashB l : Nat)) ∧ (runL noSlashB l = l.length → Lib.indexByte l 47 = -1)
  | [] => ⟨fun h => by simp [runL] at h, fun _ => rfl⟩
  | c :: r => by
    obtain ⟨h1, h2⟩ := noSlash_index r
    have hle := runL_le noSlashB r
    by_cases hc : (c == 47) = true
    · have e : noSlashB c = false := by obtain rfl := eq_of_beq hc; rfl
      have e2 : runL noSlashB (c :: r) = 0 := by simp [runL, e]
      rw [e2]
      refine ⟨fun _ => by rw [Lib.indexByte, if_pos hc]; rfl, fun h => by simp at h⟩
    · have e : noSlashB c = true := by
        have hne : c ≠ 47 := by simpa using hc
        have : c.toNat ≠ 47 := fun h => hne (UInt8.toNat_inj.1 (by simpa using h))
        simp [noSlashB]; omega
      have e2 : runL noSlashB (c :: r) = runL noSlashB r + 1 := by simp [runL, e]
      rw [e2]
      refine ⟨fun h => ?_, fun h => ?_⟩
      · have h3 := h1 (by simpa using h)
        rw [Lib.indexByte, if_neg hc, h3, if_neg (by simp <;> omega)] <;> omega
      · have h3 := h2 (by simpa using h)
        rw [Lib.indexByte, if_neg hc, h3]; rfl
theorem parts_slash {l : List UInt8} (h : runL noSlashB l < l.length) : partsL l = l.take (runL noSlashB l) :: partsL (l.drop (runL noSlashB l + 1)) := (partsL_some ((noSlash_index l).1 h)).2
theorem parts_noSlash {l : List UInt8} (h : ¬ runL noSlashB l < l.length) : partsL l = [l] := partsL_none ((noSlash_index l).2 (by have := runL_le noSlashB l; omega))
theorem hasSlash_run (l : List UInt8) : hasSlash l = decide (runL noSlashB l < l.length) := by
  have hle := runL_le noSlashB l
  unfold hasSlash
  by_cases h : runL noSlashB l < l.length
  · rw [(noSlash_index l).1 h]; simp [h]
  · rw [(noSlash_index l).2 (by omega)]; simp [h]

theorem alnum_word {l : List UInt8} {most : Nat} (h0 : 0 < l.length) (h1 : l.length ≤ most) (hh : letterB l[0] = true) (h : runTo alnumB l l.length) : wordL most l = true := by
  refine wordL_true h0 h1 (fun j hj => ?_)
  have := h j hj hj
  unfold alnumB at this
  rcases Nat.eq_zero_or_pos j with rfl | hp
  · exact .inl hh
  · cases hl : letterB l[j]
    · rw [hl] at this; exact .inr ⟨by omega, by simpa using this⟩
    · exact .inl rfl
theorem rword_nil (s : ByteArray) (m : Nat) (w : World) (h : s.size = 0) :
    Calls Tryd.prog 30 #[.string s, .int .i64 m] w fun e w' => e = .returned (.bool (wordL m s.data.toList)) ∧ w = w' := by
  have h1 : decide ((s.size : Int) < 1) = true := by simp; omega
  have HF := Lib.hid (wordL_nil (most := m) (l := s.data.toList) (by simpa using h))
  clear h
  go_enter Tryd.func30, Tryd.ntmps30
  go_wp2_with fail
  go_ret
  exact ⟨by rw [HF.out]; rfl, rfl⟩
theorem rword_long (s : ByteArray) (m : Nat) (w : World) (h0 : 0 < s.size) (h : m < s.size) :
    Calls Tryd.prog 30 #[.string s, .int .i64 m] w fun e w' => e = .returned (.bool (wordL m s.data.toList)) ∧ w = w' := by
  have h1 : decide ((s.size : Int) < 1) = false := by simp; omega
  have h2 : decide ((m : Int) < (s.size : Int)) = true := by simp; omega
  have HF := Lib.hid (wordL_long (most := m) (l := s.data.toList) (by simpa using h))
  go_enter Tryd.func30, Tryd.ntmps30
  go_wp2_with fail
  go_ret
  exact ⟨by rw [HF.out]; rfl, rfl⟩
theorem rword_head (s : ByteArray) (m : Nat) (w : World) (h0 : 0 < s.size) (h : s.size ≤ m) (hl : isLetter ((s[0]'h0).toNat : Int) = false) :
    Calls Tryd.prog 30 #[.string s, .int .i64 m] w fun e w' => e = .returned (.bool (wordL m s.data.toList)) ∧ w = w' := by
  have h1 : decide ((s.size : Int) < 1) = false := by simp; omega
  have h2 : decide ((m : Int) < (s.size : Int)) = false := by simp; omega
  have h2' : decide (m < s.size) = false := by simp; omega
  have hz : (0 : Int) < s.size := by omega
  have HF := Lib.hid (wordL_false (most := m) (l := s.data.toList) (j := 0) (by simpa using h0) hl (.inl rfl))
  go_enter Tryd.func30, Tryd.ntmps30
  go_wp2_with (first | (go_at_call 45; refine (rletter_no _ _ hl).mono ?_; rintro e w' ⟨rfl, rfl⟩))
  go_ret
  exact ⟨by rw [HF.out]; rfl, rfl⟩
set_option maxHeartbeats 400000 in
theorem rword_body (s : ByteArray) (m : Nat) (w : World) (hm : m ≤ 1000) (h0 : 0 < s.size) (h : s.size ≤ m) (hl : isLetter ((s[0]'h0).toNat : Int) = true) :
    Calls Tryd.prog 30 #[.string s, .int .i64 m] w fun e w' => e = .returned (.bool (wordL m s.data.toList)) ∧ w = w' := by
  have h1 : decide ((s.size : Int) < 1) = false := by simp; omega
  have h2 : decide ((m : Int) < (s.size : Int)) = false := by simp; omega
  have h2' : decide (m < s.size) = false := by simp; omega
  have hz : (0 : Int) < s.size := by omega
  have HL := Lib.hid hl
  go_enter Tryd.func30, Tryd.ntmps30
  go_wp2_with (first | (go_at_call 45; refine (rletter_yes _ _ hl).mono ?_; rintro e w' ⟨rfl, rfl⟩))
  go_loop [5] (fun i => ∃ k : Nat, k ≤ s.size ∧ i = .int .i64 k ∧ runTo alnumB s.data.toList k) (fun i => s.size - (intOf i).toNat)
  case atStart => exact ⟨0, Nat.zero_le _, rfl, runTo_zero _ _⟩
  case round =>
    obtain ⟨k, hk, rfl, hto⟩ := hrel
    clear hl
    by_cases hlt : k < s.size
    · cases hlk : isLetter ((s[k]'hlt).toNat : Int)
      · cases hdk : isDigit ((s[k]'hlt).toNat : Int)
        · have HF := Lib.hid (wordL_false (most := m) (l := s.data.toList) (j := k) (by simpa using hlt) hlk (.inr hdk))
          go_wp2_with (first | (go_at_call 45; refine (rletter_any _ _).mono ?_; rintro e w' ⟨rfl, rfl⟩) | (go_at_call 46; refine (rdigit_any _ _).mono ?_; rintro e w' ⟨rfl, rfl⟩))
          go_ret
          exact ⟨by rw [HF.out]; rfl, rfl⟩
        · go_wp2_with (first | (go_at_call 45; refine (rletter_any _ _).mono ?_; rintro e w' ⟨rfl, rfl⟩) | (go_at_call 46; refine (rdigit_any _ _).mono ?_; rintro e w' ⟨rfl, rfl⟩))
          go_round
          case rel => exact ⟨k + 1, by omega, by go_num, runTo_step hlt hto (by simp [alnumB, digitB, hdk])⟩
          case measure => simp [intOf]; omega
      · go_wp2_with (first | (go_at_call 45; refine (rletter_any _ _).mono ?_; rintro e w' ⟨rfl, rfl⟩))
        go_round
        case rel => exact ⟨k + 1, by omega, by go_num, runTo_step hlt hto (by simp [alnumB, letterB, hlk])⟩
        case measure => simp [intOf]; omega
    · have HF := Lib.hid (alnum_word (most := m) (l := s.data.toList) (by simpa using h0) (by simpa using h) HL.out (fun j hj _ => hto j hj (by simp at hj; omega)))
      go_wp2_with fail
      go_ret
      exact ⟨by rw [HF.out]; rfl, rfl⟩
theorem rword_any (s : ByteArray) (m : Nat) (w : World) (hm : m ≤ 1000) :
    Calls Tryd.prog 30 #[.string s, .int .i64 m] w fun e w' => e = .returned (.bool (wordL m s.data.toList)) ∧ w = w' := by
  rcases Nat.eq_zero_or_pos s.size with h | h
  · exact rword_nil s m w h
  · rcases Nat.lt_or_ge m s.size with h' | h'
    · exact rword_long s m w h h'
    · cases hl : isLetter ((s[0]'h).toNat : Int)
      · exact rword_head s m w h h' hl
      · exact rword_body s m w hm h h' hl
theorem rWord_any (s : ByteArray) (w : World) :
    Calls Tryd.prog 12 #[.string s] w fun e w' => e = .returned (.bool (wordL 24 s.data.toList)) ∧ w = w' := by
  go_enter Tryd.func12, Tryd.ntmps12
  go_wp2_with (first | (go_at_call 30; refine (rword_any _ 24 _ (by omega)).mono ?_; rintro e w' ⟨rfl, rfl⟩))
  go_ret
  exact ⟨rfl, rfl⟩
set_option maxHeartbeats 400000 in
theorem rslash_any (s : ByteArray) (w : World) (hs : s.size ≤ maxLen) :
    Calls Tryd.prog 32 #[.string s] w fun e w' => e = .returned (.int .i64 (runL noSlashB s.data.toList)) ∧ w = w' := by
  unfold maxLen at hs
  go_enter Tryd.func32, Tryd.ntmps32
  go_wp2_with fail
  go_loop [3] (fun i => ∃ k : Nat, k ≤ s.size ∧ i = .int .i64 k ∧ runTo noSlashB s.data.toList k) (fun i => s.size - (intOf i).toNat)
  case atStart => exact ⟨0, Nat.zero_le _, rfl, runTo_zero _ _⟩
  case round =>
    obtain ⟨k, hk, rfl, hto⟩ := hrel
    by_cases hlt : k < s.size
    · cases hr : (((s[k]'hlt).toNat : Int) != 47)
      · have Hf := Lib.hid (runL_eq (p := noSlashB) (l := s.data.toList) (k := k) (by simpa using hk) hto (fun _ => hr))
        go_wp2_with fail
        go_ret
        exact ⟨by rw [Hf.out]; rfl, rfl⟩
      · go_wp2_with fail
        go_round
        case rel => exact ⟨k + 1, by omega, by go_num, runTo_step hlt hto hr⟩
        case measure => simp [intOf]; omega
    · have Hf := Lib.hid (runL_eq (p := noSlashB) (l := s.data.toList) (k := k) (by simpa using hk) hto (fun h => absurd (by simpa using h) hlt))
      go_wp2_with fail
      go_ret
      exact ⟨by rw [Hf.out]; rfl, rfl⟩
end Go.Proofs.YtckkfenchjgfhaaDoor
