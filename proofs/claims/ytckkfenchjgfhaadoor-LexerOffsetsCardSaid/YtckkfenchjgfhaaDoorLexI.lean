/- Check of the lexer, for every token. -/
import Derived.Test.YtckkfenchjgfhaaDoorLexH
namespace Go.Proofs.YtckkfenchjgfhaaDoor
open Go.RowKit

theorem bcell {W w1 : World} (hb : Below W.heap.size W w1) : (∀ b o, b < W.heap.size → w1.cell? ⟨b, o, none⟩ = W.cell? ⟨b, o, none⟩) ∧ (∀ b o, b < W.heap.size → w1.frozen? ⟨b, o, none⟩ = W.frozen? ⟨b, o, none⟩) :=
  ⟨fun b o h => hb.cell (p := ⟨b, o, none⟩) h, fun b o h => hb.frozen (p := ⟨b, o, none⟩) h⟩

theorem check_kind (k p : Int) (s : ByteArray) (w : World) (h : k < 1 ∨ 4 < k) :
    Calls Tryd.prog 23 #[.agg #[.int .i64 k, .string s, .int .i64 p]] w fun e w' => e = .returned (.int .i64 (checkL k s.data.toList p)) ∧ Below w.heap.size w w' := by
  have HF := Lib.hid (checkL_kind (p := p) (l := s.data.toList) h)
  have h1 : (k == 1) = false := by simp; omega
  have h2 : (k == 2) = false := by simp; omega
  have h3 : (k == 3) = false := by simp; omega
  have h4 : (k == 4) = false := by simp; omega
  clear h
  go_enter Tryd.func23, Tryd.ntmps23
  go_wp2_with fail
  go_ret
  exact ⟨by rw [HF.out]; rfl, (Below.refl _ _).alloc (Nat.le_refl _) _⟩
theorem check_word (p : Int) (s : ByteArray) (w : World) :
    Calls Tryd.prog 23 #[.agg #[.int .i64 1, .string s, .int .i64 p]] w fun e w' => e = .returned (.int .i64 (checkL 1 s.data.toList p)) ∧ Below w.heap.size w w' := by
  cases hw : wordL 24 s.data.toList
  · have HF := Lib.hid (checkL_text (p := p) (l := s.data.toList) (k := 1) (by omega) (by omega) ((textL_1 _).trans hw))
    go_enter Tryd.func23, Tryd.ntmps23
    go_wp2_with (first | (go_at_call 11; refine (word_any _ _).mono ?_; rintro e w' ⟨rfl, hb⟩; obtain ⟨hc, hf⟩ := bcell hb))
    go_ret
    exact ⟨by rw [HF.out]; rfl, ((Below.refl _ _).alloc (Nat.le_refl _) _).trans (hb.mono (by simp))⟩
  · by_cases hp : p < 0
    · have HF := Lib.hid (checkL_at (p := p) (l := s.data.toList) (k := 1) (by omega) (by omega) ((textL_1 _).trans hw) hp)
      go_enter Tryd.func23, Tryd.ntmps23
      go_wp2_with (first | (go_at_call 11; refine (word_any _ _).mono ?_; rintro e w' ⟨rfl, hb⟩; obtain ⟨hc, hf⟩ := bcell hb))
      go_ret
      exact ⟨by rw [HF.out]; rfl, ((Below.refl _ _).alloc (Nat.le_refl _) _).trans (hb.mono (by simp))⟩
    · have HF := Lib.hid (checkL_ok (p := p) (l := s.data.toList) (k := 1) (by omega) (by omega) ((textL_1 _).trans hw) hp)
      go_enter Tryd.func23, Tryd.ntmps23
      go_wp2_with (first | (go_at_call 11; refine (word_any _ _).mono ?_; rintro e w' ⟨rfl, hb⟩; obtain ⟨hc, hf⟩ := bcell hb))
      go_ret
      exact ⟨by rw [HF.out]; rfl, ((Below.refl _ _).alloc (Nat.le_refl _) _).trans (hb.mono (by simp))⟩
theorem check_number (p : Int) (s : ByteArray) (w : World) :
    Calls Tryd.prog 23 #[.agg #[.int .i64 3, .string s, .int .i64 p]] w fun e w' => e = .returned (.int .i64 (checkL 3 s.data.toList p)) ∧ Below w.heap.size w w' := by
  cases hw : numberL s.data.toList
  · have HF := Lib.hid (checkL_text (p := p) (l := s.data.toList) (k := 3) (by omega) (by omega) ((textL_3 _).trans hw))
    go_enter Tryd.func23, Tryd.ntmps23
    go_wp2_with (first | (go_at_call 38; refine (number_any _ _).mono ?_; rintro e w' ⟨rfl, hb⟩; obtain ⟨hc, hf⟩ := bcell hb))
    go_ret
    exact ⟨by rw [HF.out]; rfl, ((Below.refl _ _).alloc (Nat.le_refl _) _).trans (hb.mono (by simp))⟩
  · by_cases hp : p < 0
    · have HF := Lib.hid (checkL_at (p := p) (l := s.data.toList) (k := 3) (by omega) (by omega) ((textL_3 _).trans hw) hp)
      go_enter Tryd.func23, Tryd.ntmps23
      go_wp2_with (first | (go_at_call 38; refine (number_any _ _).mono ?_; rintro e w' ⟨rfl, hb⟩; obtain ⟨hc, hf⟩ := bcell hb))
      go_ret
      exact ⟨by rw [HF.out]; rfl, ((Below.refl _ _).alloc (Nat.le_refl _) _).trans (hb.mono (by simp))⟩
    · have HF := Lib.hid (checkL_ok (p := p) (l := s.data.toList) (k := 3) (by omega) (by omega) ((textL_3 _).trans hw) hp)
      go_enter Tryd.func23, Tryd.ntmps23
      go_wp2_with (first | (go_at_call 38; refine (number_any _ _).mono ?_; rintro e w' ⟨rfl, hb⟩; obtain ⟨hc, hf⟩ := bcell hb))
      go_ret
      exact ⟨by rw [HF.out]; rfl, ((Below.refl _ _).alloc (Nat.le_refl _) _).trans (hb.mono (by simp))⟩
theorem check_label (p : Int) (s : ByteArray) (w : World) :
    Calls Tryd.prog 23 #[.agg #[.int .i64 2, .string s, .int .i64 p]] w fun e w' => e = .returned (.int .i64 (checkL 2 s.data.toList p)) ∧ Below w.heap.size w w' := by
  cases hw : labelL s.data.toList
  · have HF := Lib.hid (checkL_text (p := p) (l := s.data.toList) (k := 2) (by omega) (by omega) (by rw [textL_2, hw]; rfl))
    go_enter Tryd.func23, Tryd.ntmps23
    go_wp2_with (first | (go_at_call 13; refine (label_any _ _).mono ?_; rintro e w' ⟨rfl, hb⟩; obtain ⟨hc, hf⟩ := bcell hb) | (go_at_call 18; refine (contains_one _ _ _).mono ?_; rintro e w' ⟨rfl, rfl⟩))
    go_ret
    exact ⟨by rw [HF.out]; rfl, ((Below.refl _ _).alloc (Nat.le_refl _) _).trans (hb.mono (by simp))⟩
  · cases hd : decide ((0 : Int) ≤ Lib.indexByte s.data.toList 47)
    · have HF := Lib.hid (checkL_text (p := p) (l := s.data.toList) (k := 2) (by omega) (by omega) (by rw [textL_2, hw, hasSlash, hd]; rfl))
      go_enter Tryd.func23, Tryd.ntmps23
      go_wp2_with (first | (go_at_call 13; refine (label_any _ _).mono ?_; rintro e w' ⟨rfl, hb⟩; obtain ⟨hc, hf⟩ := bcell hb) | (go_at_call 18; refine (contains_one _ _ _).mono ?_; rintro e w' ⟨rfl, rfl⟩))
      go_ret
      exact ⟨by rw [HF.out]; rfl, ((Below.refl _ _).alloc (Nat.le_refl _) _).trans (hb.mono (by simp))⟩
    · by_cases hp : p < 0
      · have HF := Lib.hid (checkL_at (p := p) (l := s.data.toList) (k := 2) (by omega) (by omega) (by rw [textL_2, hw, hasSlash, hd]; rfl) hp)
        go_enter Tryd.func23, Tryd.ntmps23
        go_wp2_with (first | (go_at_call 13; refine (label_any _ _).mono ?_; rintro e w' ⟨rfl, hb⟩; obtain ⟨hc, hf⟩ := bcell hb) | (go_at_call 18; refine (contains_one _ _ _).mono ?_; rintro e w' ⟨rfl, rfl⟩))
        go_ret
        exact ⟨by rw [HF.out]; rfl, ((Below.refl _ _).alloc (Nat.le_refl _) _).trans (hb.mono (by simp))⟩
      · have HF := Lib.hid (checkL_ok (p := p) (l := s.data.toList) (k := 2) (by omega) (by omega) (by rw [textL_2, hw, hasSlash, hd]; rfl) hp)
        go_enter Tryd.func23, Tryd.ntmps23
        go_wp2_with (first | (go_at_call 13; refine (label_any _ _).mono ?_; rintro e w' ⟨rfl, hb⟩; obtain ⟨hc, hf⟩ := bcell hb) | (go_at_call 18; refine (contains_one _ _ _).mono ?_; rintro e w' ⟨rfl, rfl⟩))
        go_ret
        exact ⟨by rw [HF.out]; rfl, ((Below.refl _ _).alloc (Nat.le_refl _) _).trans (hb.mono (by simp))⟩
theorem quiet_left {P : Program} {f : FuncId} {args : Array Value} {w : World} {n : Nat} {v : Value}
    (h : Calls P f args (w.drewN n) fun e w' => e = .returned v ∧ w.drewN n = w') : Calls P f args (w.drewN n) fun e w'' => e = .returned v ∧ ∃ m, w'' = w.drewN m :=
  h.mono fun _ _ ⟨he, hm⟩ => ⟨he, n, hm.symm⟩
theorem below_drewN {B : Nat} {a w : World} (h : Below B a w) (n : Nat) : Below B a (w.drewN n) := ⟨h.os, h.tape, h.output, h.size, h.block⟩
set_option maxHeartbeats 400000 in
theorem check_sign (p : Int) (s : ByteArray) (w : World) :
    Calls Tryd.prog 23 #[.agg #[.int .i64 4, .string s, .int .i64 p]] w fun e w' => e = .returned (.int .i64 (checkL 4 s.data.toList p)) ∧ Below w.heap.size w w' := by
  rcases Nat.eq_zero_or_pos s.size with h0 | h0
  · have hE := empty_yes s h0
    have HF := Lib.hid (checkL_text (p := p) (l := s.data.toList) (k := 4) (by omega) (by omega) (by rw [textL_4]; simp [h0]))
    clear h0
    go_enter Tryd.func23, Tryd.ntmps23
    go_wp2_with fail
    go_quiet ((go_at_call 39; exact quiet_left (sign_any _ _)))
    go_wp2_with fail
    go_ret
    exact ⟨by rw [HF.out]; rfl, below_drewN ((Below.refl _ _).alloc (Nat.le_refl _) _) _⟩
  · have hE := empty_no s h0
    by_cases hs : signL s.data.toList = s.size
    · have hne : ((signL s.data.toList : Int) == (s.size : Int)) = true := by simp; omega
      have HT : Hid (textL 4 s.data.toList = true) := Lib.hid (by rw [textL_4]; simp; exact ⟨h0, hs⟩)
      clear hs
      by_cases hp : p < 0
      · have HF := Lib.hid (checkL_at (p := p) (l := s.data.toList) (k := 4) (by omega) (by omega) (HT.out) hp)
        go_enter Tryd.func23, Tryd.ntmps23
        go_wp2_with fail
        go_quiet ((go_at_call 39; exact quiet_left (sign_any _ _)))
        go_wp2_with fail
        go_ret
        exact ⟨by rw [HF.out]; rfl, below_drewN ((Below.refl _ _).alloc (Nat.le_refl _) _) _⟩
      · have HF := Lib.hid (checkL_ok (p := p) (l := s.data.toList) (k := 4) (by omega) (by omega) (HT.out) hp)
        go_enter Tryd.func23, Tryd.ntmps23
        go_wp2_with fail
        go_quiet ((go_at_call 39; exact quiet_left (sign_any _ _)))
        go_wp2_with fail
        go_ret
        exact ⟨by rw [HF.out]; rfl, below_drewN ((Below.refl _ _).alloc (Nat.le_refl _) _) _⟩
    · have hne : ((signL s.data.toList : Int) == (s.size : Int)) = false := by simp; omega
      have HT : Hid (textL 4 s.data.toList = false) := Lib.hid (by rw [textL_4]; simp; intro _; exact hs)
      clear hs
      have HF := Lib.hid (checkL_text (p := p) (l := s.data.toList) (k := 4) (by omega) (by omega) (HT.out))
      go_enter Tryd.func23, Tryd.ntmps23
      go_wp2_with fail
      go_quiet ((go_at_call 39; exact quiet_left (sign_any _ _)))
      go_wp2_with fail
      go_ret
      exact ⟨by rw [HF.out]; rfl, below_drewN ((Below.refl _ _).alloc (Nat.le_refl _) _) _⟩
theorem check_any (k p : Int) (s : ByteArray) (w : World) :
    Calls Tryd.prog 23 #[.agg #[.int .i64 k, .string s, .int .i64 p]] w fun e w' => e = .returned (.int .i64 (checkL k s.data.toList p)) ∧ Below w.heap.size w w' := by
  by_cases h : k < 1 ∨ 4 < k
  · exact check_kind k p s w h
  · have : k = 1 ∨ k = 2 ∨ k = 3 ∨ k = 4 := by omega
    rcases this with rfl | rfl | rfl | rfl
    · exact check_word p s w
    · exact check_label p s w
    · exact check_number p s w
    · exact check_sign p s w
end Go.Proofs.YtckkfenchjgfhaaDoor
