/- The reference's text and Check. -/
import Derived.Test.YtckkfenchjgfhaaDoorRefE
import Derived.Test.YtckkfenchjgfhaaDoorRefC
namespace Go.Proofs.YtckkfenchjgfhaaDoor
open Go.RowKit

theorem labelL_size {s : ByteArray} (h : labelL s.data.toList = true) : s.size ≤ 90 := by
  rcases Nat.lt_or_ge 90 s.size with h1 | h1
  · rw [labelL_long (by simpa using h1)] at h; cases h
  · exact h1
theorem sign_whole (s : ByteArray) : ((s.extract 0 (signL s.data.toList)).toList == s.toList) = (signL s.data.toList == s.data.toList.length) := by
  rw [ByteArray.toList_eq, ByteArray.toList_eq, extract_list, Bool.eq_iff_iff, beq_iff_eq, beq_iff_eq]
  simp only [List.drop_zero, Nat.sub_zero]
  have h := signL_le s.data.toList
  constructor
  · intro e
    have := congrArg List.length e
    rw [List.length_take] at this; omega
  · intro e
    rw [e, List.take_length]
theorem rtext_1 (s : ByteArray) (w : World) :
    Calls Tryd.prog 40 #[.int .i64 1, .string s] w fun e w' => e = .returned (.bool (textL 1 s.data.toList)) ∧ Below w.heap.size w w' := by
  go_enter Tryd.func40, Tryd.ntmps40
  go_wp2_with (first | (go_at_call 12; refine (rWord_any _ _).mono ?_; rintro e w' ⟨rfl, rfl⟩))
  go_ret
  exact ⟨rfl, Below.refl _ _⟩
theorem rtext_3 (s : ByteArray) (w : World) :
    Calls Tryd.prog 40 #[.int .i64 3, .string s] w fun e w' => e = .returned (.bool (textL 3 s.data.toList)) ∧ Below w.heap.size w w' := by
  go_enter Tryd.func40, Tryd.ntmps40
  go_wp2_with (first | (go_at_call 57; refine (rnumber_any _ _).mono ?_; rintro e w' ⟨rfl, rfl⟩))
  go_ret
  exact ⟨rfl, Below.refl _ _⟩
theorem rtext_2 (s : ByteArray) (w : World) :
    Calls Tryd.prog 40 #[.int .i64 2, .string s] w fun e w' => e = .returned (.bool (textL 2 s.data.toList)) ∧ Below w.heap.size w w' := by
  cases hl : labelL s.data.toList
  · have HF : Hid (textL 2 s.data.toList = false) := Lib.hid (by rw [textL_2, hl]; rfl)
    go_enter Tryd.func40, Tryd.ntmps40
    go_wp2_with (first | (go_at_call 14; refine (rLabel_any _ _).mono ?_; rintro e w' ⟨rfl, rfl⟩))
    go_ret
    exact ⟨by rw [HF.out]; rfl, Below.refl _ _⟩
  · have hsz := labelL_size hl
    have HF : Hid (textL 2 s.data.toList = decide (runL noSlashB s.data.toList < s.size)) := Lib.hid (by rw [textL_2, hl, hasSlash_run, toList_len]; rfl)
    have Hs : Hid (∀ W, Calls Tryd.prog 32 #[.string s] W fun e w' => e = .returned (.int .i64 (runL noSlashB s.data.toList)) ∧ W = w') := Lib.hid (fun W => rslash_any s W (by unfold maxLen; omega))
    generalize runL noSlashB s.data.toList = n at *
    go_enter Tryd.func40, Tryd.ntmps40
    go_wp2_with (first | (go_at_call 14; refine (rLabel_any _ _).mono ?_; rintro e w' ⟨rfl, rfl⟩) | (go_at_call 32; refine (Hs.out _).mono ?_; rintro e w' ⟨rfl, rfl⟩))
    go_ret
    exact ⟨by rw [HF.out]; rfl, Below.refl _ _⟩
theorem rtext_4 (s : ByteArray) (w : World) :
    Calls Tryd.prog 40 #[.int .i64 4, .string s] w fun e w' => e = .returned (.bool (textL 4 s.data.toList)) ∧ Below w.heap.size w w' := by
  rcases Nat.eq_zero_or_pos s.size with h0 | h0
  · have hE := empty_yes s h0
    have HF : Hid (textL 4 s.data.toList = false) := Lib.hid (by rw [textL_4]; simp [h0])
    clear h0
    go_enter Tryd.func40, Tryd.ntmps40
    go_wp2_with fail
    go_ret
    exact ⟨by rw [HF.out]; rfl, Below.refl _ _⟩
  · have hE := empty_no s h0
    have HF : Hid (textL 4 s.data.toList = ((s.extract 0 (signL s.data.toList)).toList == s.toList)) := Lib.hid (by rw [textL_4, sign_whole]; simp [h0])
    have Hs : Hid (∀ W, Calls Tryd.prog 52 #[.string s] W fun e w' => e = .returned (.string (s.extract 0 (signL s.data.toList))) ∧ Below W.heap.size W w') := Lib.hid (fun W => rsign_any s W)
    generalize s.extract 0 (signL s.data.toList) = g at *
    go_enter Tryd.func40, Tryd.ntmps40
    go_wp2_with (first | (go_at_call 52; refine (Hs.out _).mono ?_; rintro e w' ⟨rfl, hb⟩))
    go_ret
    exact ⟨by rw [HF.out]; rfl, hb⟩
theorem rtext_any (k : Int) (s : ByteArray) (w : World) (h1 : 1 ≤ k) (h4 : k ≤ 4) :
    Calls Tryd.prog 40 #[.int .i64 k, .string s] w fun e w' => e = .returned (.bool (textL k s.data.toList)) ∧ Below w.heap.size w w' := by
  have : k = 1 ∨ k = 2 ∨ k = 3 ∨ k = 4 := by omega
  rcases this with rfl | rfl | rfl | rfl
  · exact rtext_1 s w
  · exact rtext_2 s w
  · exact rtext_3 s w
  · exact rtext_4 s w
theorem rcheck_kind (k p : Int) (s : ByteArray) (w : World) (h : k < 1 ∨ 4 < k) :
    Calls Tryd.prog 24 #[.agg #[.int .i64 k, .string s, .int .i64 p]] w fun e w' => e = .returned (.int .i64 (checkL k s.data.toList p)) ∧ Below w.heap.size w w' := by
  have HF := Lib.hid (checkL_kind (p := p) (l := s.data.toList) h)
  by_cases h1 : k < 1
  · have hd : decide (k < 1) = true := by simpa using h1
    clear h
    go_enter Tryd.func24, Tryd.ntmps24
    go_wp2_with fail
    go_ret
    exact ⟨by rw [HF.out]; rfl, (Below.refl _ _).alloc (Nat.le_refl _) _⟩
  · have hd : decide (k < 1) = false := by simpa using h1
    have hd4 : decide (4 < k) = true := by simp; omega
    clear h
    go_enter Tryd.func24, Tryd.ntmps24
    go_wp2_with fail
    go_ret
    exact ⟨by rw [HF.out]; rfl, (Below.refl _ _).alloc (Nat.le_refl _) _⟩
theorem rcheck_in (k p : Int) (s : ByteArray) (w : World) (h1 : 1 ≤ k) (h4 : k ≤ 4) :
    Calls Tryd.prog 24 #[.agg #[.int .i64 k, .string s, .int .i64 p]] w fun e w' => e = .returned (.int .i64 (checkL k s.data.toList p)) ∧ Below w.heap.size w w' := by
  have hd : decide (k < 1) = false := by simpa using h1
  have hd4 : decide (4 < k) = false := by simpa using h4
  have Hc : Hid (∀ W, Calls Tryd.prog 40 #[.int .i64 k, .string s] W fun e w' => e = .returned (.bool (textL k s.data.toList)) ∧ Below W.heap.size W w') := Lib.hid (fun W => rtext_any k s W h1 h4)
  cases ht : textL k s.data.toList
  · have HF := Lib.hid (checkL_text (p := p) h1 h4 ht)
    rw [ht] at Hc
    clear ht
    go_enter Tryd.func24, Tryd.ntmps24
    go_wp2_with (first | (go_at_call 40; refine (Hc.out _).mono ?_; rintro e w' ⟨rfl, hb⟩))
    go_ret
    exact ⟨by rw [HF.out]; rfl, ((Below.refl _ _).alloc (Nat.le_refl _) _).trans (hb.mono (by simp))⟩
  · rw [ht] at Hc
    by_cases hp : p < 0
    · have HF := Lib.hid (checkL_at (p := p) h1 h4 ht hp)
      clear ht
      go_enter Tryd.func24, Tryd.ntmps24
      go_wp2_with (first | (go_at_call 40; refine (Hc.out _).mono ?_; rintro e w' ⟨rfl, hb⟩; obtain ⟨hc, hf⟩ := bcell hb))
      go_ret
      exact ⟨by rw [HF.out]; rfl, ((Below.refl _ _).alloc (Nat.le_refl _) _).trans (hb.mono (by simp))⟩
    · have HF := Lib.hid (checkL_ok (p := p) h1 h4 ht hp)
      clear ht
      go_enter Tryd.func24, Tryd.ntmps24
      go_wp2_with (first | (go_at_call 40; refine (Hc.out _).mono ?_; rintro e w' ⟨rfl, hb⟩; obtain ⟨hc, hf⟩ := bcell hb))
      go_ret
      exact ⟨by rw [HF.out]; rfl, ((Below.refl _ _).alloc (Nat.le_refl _) _).trans (hb.mono (by simp))⟩
theorem rcheck_any (k p : Int) (s : ByteArray) (w : World) :
    Calls Tryd.prog 24 #[.agg #[.int .i64 k, .string s, .int .i64 p]] w fun e w' => e = .returned (.int .i64 (checkL k s.data.toList p)) ∧ Below w.heap.size w w' := by
  by_cases h : k < 1 ∨ 4 < k
  · exact rcheck_kind k p s w h
  · exact rcheck_in k p s w (by omega) (by omega)
end Go.Proofs.YtckkfenchjgfhaaDoor
