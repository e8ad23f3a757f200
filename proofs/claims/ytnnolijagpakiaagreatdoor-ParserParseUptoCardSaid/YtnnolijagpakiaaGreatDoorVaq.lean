/- Texts of this proof, part 17: what the proof uses of them. -/
import Derived.WalkKit
import Derived.Test.YtnnolijagpakiaaGreatDoorVai
import Derived.Test.YtnnolijagpakiaaGreatDoorVan
import Derived.Deep.RegionWith
namespace Go.Proofs.YtnnolijagpakiaaGreatDoor
section
open Go.RowKit
theorem cell_off (W : World) (v : Value) {b i j : Nat} (h : i ≠ j) : (W.setCell ⟨b, i, none⟩ v).cell? ⟨b, j, none⟩ = W.cell? ⟨b, j, none⟩ := World.cell?_setCell_other _ _ _ _ (fun e => h (Addr.mk.inj e).2.1)
theorem below_drew1 {B : Nat} {a w : World} (h : Below B a w) : Below B a w.drew := ⟨h.os, h.tape, h.output, h.size, h.block⟩
theorem store3 {W : World} {b : Nat} {u0 u1 u2 : Value} (a0 a1 a2 : Value) (h0 : W.cell? ⟨b, 0, none⟩ = some u0) (h1 : W.cell? ⟨b, 1, none⟩ = some u1) (h2 : W.cell? ⟨b, 2, none⟩ = some u2) :
  (((W.setCell ⟨b, 0, none⟩ a0).setCell ⟨b, 1, none⟩ a1).setCell ⟨b, 2, none⟩ a2).cell? ⟨b, 0, none⟩ = some a0 ∧
  (((W.setCell ⟨b, 0, none⟩ a0).setCell ⟨b, 1, none⟩ a1).setCell ⟨b, 2, none⟩ a2).cell? ⟨b, 1, none⟩ = some a1 ∧
  (((W.setCell ⟨b, 0, none⟩ a0).setCell ⟨b, 1, none⟩ a1).setCell ⟨b, 2, none⟩ a2).cell? ⟨b, 2, none⟩ = some a2 := by
 refine ⟨?_, ?_, ?_⟩
 ·exact (cell_off _ _ (by omega)).trans ((cell_off _ _ (by omega)).trans (World.cell?_setCell_same _ _ _ h0))
 ·exact (cell_off _ _ (by omega)).trans (World.cell?_setCell_same _ _ _ (u := u1) ((cell_off _ _ (by omega)).trans h1))
 ·exact World.cell?_setCell_same _ _ _ (u := u2) ((cell_off _ _ (by omega)).trans ((cell_off _ _ (by omega)).trans h2))
theorem cell3_new (w : World) (t : TypeId) (x0 x1 x2 : Value) : (w.alloc (.cells #[x0, x1, x2] t)).cell? ⟨w.heap.size, 0, none⟩ = some x0 ∧ (w.alloc (.cells #[x0, x1, x2] t)).cell? ⟨w.heap.size, 1, none⟩ = some x1 ∧ (w.alloc (.cells #[x0, x1, x2] t)).cell? ⟨w.heap.size, 2, none⟩ = some x2 := by
 simp [go_sem]
theorem next_end {w w' : World} {t t' : TypeId} {x0 x1 x2 y0 y1 y2 : Value} (a0 a1 a2 : Value)
  (hb : Below ((w.alloc (.cells #[x0, x1, x2] t)).alloc (.cells #[y0, y1, y2] t')).drew.heap.size ((w.alloc (.cells #[x0, x1, x2] t)).alloc (.cells #[y0, y1, y2] t')).drew w') :
  ((((w'.setCell ⟨w.heap.size, 0, none⟩ a0).setCell ⟨w.heap.size, 1, none⟩ a1).setCell ⟨w.heap.size, 2, none⟩ a2).cell? ⟨w.heap.size, 0, none⟩ = some a0 ∧
  (((w'.setCell ⟨w.heap.size, 0, none⟩ a0).setCell ⟨w.heap.size, 1, none⟩ a1).setCell ⟨w.heap.size, 2, none⟩ a2).cell? ⟨w.heap.size, 1, none⟩ = some a1 ∧
  (((w'.setCell ⟨w.heap.size, 0, none⟩ a0).setCell ⟨w.heap.size, 1, none⟩ a1).setCell ⟨w.heap.size, 2, none⟩ a2).cell? ⟨w.heap.size, 2, none⟩ = some a2) ∧
  Below w.heap.size w (((w'.setCell ⟨w.heap.size, 0, none⟩ a0).setCell ⟨w.heap.size, 1, none⟩ a1).setCell ⟨w.heap.size, 2, none⟩ a2) := by
 have hc : ∀ j, w'.cell? ⟨w.heap.size, j, none⟩ = (w.alloc (.cells #[x0, x1, x2] t)).cell? ⟨w.heap.size, j, none⟩ := fun j =>
  (hb.cell (p := ⟨w.heap.size, j, none⟩) (by simp; omega)).trans (by
   have h1 := ((Below.refl _ (w.alloc (.cells #[x0, x1, x2] t))).alloc (Nat.le_refl _) (.cells #[y0, y1, y2] t')).cell (p := ⟨w.heap.size, j, none⟩) (by simp)
   exact h1)
 have h3 := cell3_new w t x0 x1 x2
 refine ⟨store3 a0 a1 a2 ((hc 0).trans h3.1) ((hc 1).trans h3.2.1) ((hc 2).trans h3.2.2), ?_⟩
 have h0 : Below w.heap.size w w' := (below_drew1 (((Below.refl _ w).alloc (Nat.le_refl _) (.cells #[x0, x1, x2] t)).alloc (by simp) (.cells #[y0, y1, y2] t'))).trans (hb.mono (by simp; omega))
 exact ((h0.setCell (p := ⟨w.heap.size, 0, none⟩) (Nat.le_refl _) _).setCell (p := ⟨w.heap.size, 1, none⟩) (Nat.le_refl _) _).setCell (p := ⟨w.heap.size, 2, none⟩) (Nat.le_refl _) _
theorem byte32 (c : UInt8) : wrap32 (c.toNat : Int) = (c.toNat : Int) := IntWalk.wrap32_in _ ⟨by omega, by have := c.toNat_lt; omega⟩
end
section
open Go.RowKit
theorem bcell {W w1 : World} (hb : Below W.heap.size W w1) : (∀ b o, b < W.heap.size → w1.cell? ⟨b, o, none⟩ = W.cell? ⟨b, o, none⟩) ∧ (∀ b o, b < W.heap.size → w1.frozen? ⟨b, o, none⟩ = W.frozen? ⟨b, o, none⟩) :=
 ⟨fun b o h => hb.cell (p := ⟨b, o, none⟩) h, fun b o h => hb.frozen (p := ⟨b, o, none⟩) h⟩
theorem check_kind (k p : Int) (s : ByteArray) (w : World) (h : k < 1 ∨ 4 < k) :
  Calls Tryz.prog 108 #[.agg #[.int .i64 k, .string s, .int .i64 p]] w fun e w' => e = .returned (.int .i64 (checkL k s.data.toList p)) ∧ Below w.heap.size w w' := by
 have HF := Lib.hid (checkL_kind (p := p) (l := s.data.toList) h)
 have h1 : (k == 1) = false := by simp; omega
 have h2 : (k == 2) = false := by simp; omega
 have h3 : (k == 3) = false := by simp; omega
 have h4 : (k == 4) = false := by simp; omega
 clear h
 go_enter Tryz.func108, Tryz.ntmps108
 go_wp2_with fail
 go_ret
 exact ⟨by rw [HF.out]; rfl, (Below.refl _ _).alloc (Nat.le_refl _) _⟩
theorem check_word (p : Int) (s : ByteArray) (w : World) :
  Calls Tryz.prog 108 #[.agg #[.int .i64 1, .string s, .int .i64 p]] w fun e w' => e = .returned (.int .i64 (checkL 1 s.data.toList p)) ∧ Below w.heap.size w w' := by
 cases hw : wordL 24 s.data.toList
 ·have HF := Lib.hid (checkL_text (p := p) (l := s.data.toList) (k := 1) (by omega) (by omega) ((textL_1 _).trans hw))
  go_enter Tryz.func108, Tryz.ntmps108
  go_wp2_with (first | (go_at_call 113; refine (word_any _ _).mono ?_; rintro e w' ⟨rfl, hb⟩; obtain ⟨hc, hf⟩ := bcell hb))
  go_ret
  exact ⟨by rw [HF.out]; rfl, ((Below.refl _ _).alloc (Nat.le_refl _) _).trans (hb.mono (by simp))⟩
 ·by_cases hp : p < 0
  ·have HF := Lib.hid (checkL_at (p := p) (l := s.data.toList) (k := 1) (by omega) (by omega) ((textL_1 _).trans hw) hp)
   go_enter Tryz.func108, Tryz.ntmps108
   go_wp2_with (first | (go_at_call 113; refine (word_any _ _).mono ?_; rintro e w' ⟨rfl, hb⟩; obtain ⟨hc, hf⟩ := bcell hb))
   go_ret
   exact ⟨by rw [HF.out]; rfl, ((Below.refl _ _).alloc (Nat.le_refl _) _).trans (hb.mono (by simp))⟩
  ·have HF := Lib.hid (checkL_ok (p := p) (l := s.data.toList) (k := 1) (by omega) (by omega) ((textL_1 _).trans hw) hp)
   go_enter Tryz.func108, Tryz.ntmps108
   go_wp2_with (first | (go_at_call 113; refine (word_any _ _).mono ?_; rintro e w' ⟨rfl, hb⟩; obtain ⟨hc, hf⟩ := bcell hb))
   go_ret
   exact ⟨by rw [HF.out]; rfl, ((Below.refl _ _).alloc (Nat.le_refl _) _).trans (hb.mono (by simp))⟩
theorem check_number (p : Int) (s : ByteArray) (w : World) :
  Calls Tryz.prog 108 #[.agg #[.int .i64 3, .string s, .int .i64 p]] w fun e w' => e = .returned (.int .i64 (checkL 3 s.data.toList p)) ∧ Below w.heap.size w w' := by
 cases hw : numberL s.data.toList
 ·have HF := Lib.hid (checkL_text (p := p) (l := s.data.toList) (k := 3) (by omega) (by omega) ((textL_3 _).trans hw))
  go_enter Tryz.func108, Tryz.ntmps108
  go_wp2_with (first | (go_at_call 157; refine (number_any _ _).mono ?_; rintro e w' ⟨rfl, hb⟩; obtain ⟨hc, hf⟩ := bcell hb))
  go_ret
  exact ⟨by rw [HF.out]; rfl, ((Below.refl _ _).alloc (Nat.le_refl _) _).trans (hb.mono (by simp))⟩
 ·by_cases hp : p < 0
  ·have HF := Lib.hid (checkL_at (p := p) (l := s.data.toList) (k := 3) (by omega) (by omega) ((textL_3 _).trans hw) hp)
   go_enter Tryz.func108, Tryz.ntmps108
   go_wp2_with (first | (go_at_call 157; refine (number_any _ _).mono ?_; rintro e w' ⟨rfl, hb⟩; obtain ⟨hc, hf⟩ := bcell hb))
   go_ret
   exact ⟨by rw [HF.out]; rfl, ((Below.refl _ _).alloc (Nat.le_refl _) _).trans (hb.mono (by simp))⟩
  ·have HF := Lib.hid (checkL_ok (p := p) (l := s.data.toList) (k := 3) (by omega) (by omega) ((textL_3 _).trans hw) hp)
   go_enter Tryz.func108, Tryz.ntmps108
   go_wp2_with (first | (go_at_call 157; refine (number_any _ _).mono ?_; rintro e w' ⟨rfl, hb⟩; obtain ⟨hc, hf⟩ := bcell hb))
   go_ret
   exact ⟨by rw [HF.out]; rfl, ((Below.refl _ _).alloc (Nat.le_refl _) _).trans (hb.mono (by simp))⟩
theorem check_label (p : Int) (s : ByteArray) (w : World) :
  Calls Tryz.prog 108 #[.agg #[.int .i64 2, .string s, .int .i64 p]] w fun e w' => e = .returned (.int .i64 (checkL 2 s.data.toList p)) ∧ Below w.heap.size w w' := by
 cases hw : labelL s.data.toList
 ·have HF := Lib.hid (checkL_text (p := p) (l := s.data.toList) (k := 2) (by omega) (by omega) (by rw [textL_2, hw]; rfl))
  go_enter Tryz.func108, Tryz.ntmps108
  go_wp2_with (first | (go_at_call 57; refine (label_any _ _).mono ?_; rintro e w' ⟨rfl, hb⟩; obtain ⟨hc, hf⟩ := bcell hb) | (go_at_call 105; refine (contains_one _ _ _).mono ?_; rintro e w' ⟨rfl, rfl⟩))
  go_ret
  exact ⟨by rw [HF.out]; rfl, ((Below.refl _ _).alloc (Nat.le_refl _) _).trans (hb.mono (by simp))⟩
 ·cases hd : decide ((0 : Int) ≤ Lib.indexByte s.data.toList 47)
  ·have HF := Lib.hid (checkL_text (p := p) (l := s.data.toList) (k := 2) (by omega) (by omega) (by rw [textL_2, hw, hasSlash, hd]; rfl))
   go_enter Tryz.func108, Tryz.ntmps108
   go_wp2_with (first | (go_at_call 57; refine (label_any _ _).mono ?_; rintro e w' ⟨rfl, hb⟩; obtain ⟨hc, hf⟩ := bcell hb) | (go_at_call 105; refine (contains_one _ _ _).mono ?_; rintro e w' ⟨rfl, rfl⟩))
   go_ret
   exact ⟨by rw [HF.out]; rfl, ((Below.refl _ _).alloc (Nat.le_refl _) _).trans (hb.mono (by simp))⟩
  ·by_cases hp : p < 0
   ·have HF := Lib.hid (checkL_at (p := p) (l := s.data.toList) (k := 2) (by omega) (by omega) (by rw [textL_2, hw, hasSlash, hd]; rfl) hp)
    go_enter Tryz.func108, Tryz.ntmps108
    go_wp2_with (first | (go_at_call 57; refine (label_any _ _).mono ?_; rintro e w' ⟨rfl, hb⟩; obtain ⟨hc, hf⟩ := bcell hb) | (go_at_call 105; refine (contains_one _ _ _).mono ?_; rintro e w' ⟨rfl, rfl⟩))
    go_ret
    exact ⟨by rw [HF.out]; rfl, ((Below.refl _ _).alloc (Nat.le_refl _) _).trans (hb.mono (by simp))⟩
   ·have HF := Lib.hid (checkL_ok (p := p) (l := s.data.toList) (k := 2) (by omega) (by omega) (by rw [textL_2, hw, hasSlash, hd]; rfl) hp)
    go_enter Tryz.func108, Tryz.ntmps108
    go_wp2_with (first | (go_at_call 57; refine (label_any _ _).mono ?_; rintro e w' ⟨rfl, hb⟩; obtain ⟨hc, hf⟩ := bcell hb) | (go_at_call 105; refine (contains_one _ _ _).mono ?_; rintro e w' ⟨rfl, rfl⟩))
    go_ret
    exact ⟨by rw [HF.out]; rfl, ((Below.refl _ _).alloc (Nat.le_refl _) _).trans (hb.mono (by simp))⟩
theorem quiet_left {P : Program} {f : FuncId} {args : Array Value} {w : World} {n : Nat} {v : Value}
  (h : Calls P f args (w.drewN n) fun e w' => e = .returned v ∧ w.drewN n = w') : Calls P f args (w.drewN n) fun e w'' => e = .returned v ∧ ∃ m, w'' = w.drewN m :=
 h.mono fun _ _ ⟨he, hm⟩ => ⟨he, n, hm.symm⟩
theorem below_drewN {B : Nat} {a w : World} (h : Below B a w) (n : Nat) : Below B a (w.drewN n) := ⟨h.os, h.tape, h.output, h.size, h.block⟩
set_option maxHeartbeats 400000 in
theorem check_sign (p : Int) (s : ByteArray) (w : World) :
  Calls Tryz.prog 108 #[.agg #[.int .i64 4, .string s, .int .i64 p]] w fun e w' => e = .returned (.int .i64 (checkL 4 s.data.toList p)) ∧ Below w.heap.size w w' := by
 rcases Nat.eq_zero_or_pos s.size with h0 | h0
 ·have hE := empty_yes s h0
  have HF := Lib.hid (checkL_text (p := p) (l := s.data.toList) (k := 4) (by omega) (by omega) (by rw [textL_4]; simp [h0]))
  clear h0
  go_enter Tryz.func108, Tryz.ntmps108
  go_wp2_with fail
  go_quiet ((go_at_call 107; exact quiet_left (sign_any _ _)))
  go_wp2_with fail
  go_ret
  exact ⟨by rw [HF.out]; rfl, below_drewN ((Below.refl _ _).alloc (Nat.le_refl _) _) _⟩
 ·have hE := empty_no s h0
  by_cases hs : signL s.data.toList = s.size
  ·have hne : ((signL s.data.toList : Int) == (s.size : Int)) = true := by simp; omega
   have HT : Hid (textL 4 s.data.toList = true) := Lib.hid (by rw [textL_4]; simp; exact ⟨h0, hs⟩)
   clear hs
   by_cases hp : p < 0
   ·have HF := Lib.hid (checkL_at (p := p) (l := s.data.toList) (k := 4) (by omega) (by omega) (HT.out) hp)
    go_enter Tryz.func108, Tryz.ntmps108
    go_wp2_with fail
    go_quiet ((go_at_call 107; exact quiet_left (sign_any _ _)))
    go_wp2_with fail
    go_ret
    exact ⟨by rw [HF.out]; rfl, below_drewN ((Below.refl _ _).alloc (Nat.le_refl _) _) _⟩
   ·have HF := Lib.hid (checkL_ok (p := p) (l := s.data.toList) (k := 4) (by omega) (by omega) (HT.out) hp)
    go_enter Tryz.func108, Tryz.ntmps108
    go_wp2_with fail
    go_quiet ((go_at_call 107; exact quiet_left (sign_any _ _)))
    go_wp2_with fail
    go_ret
    exact ⟨by rw [HF.out]; rfl, below_drewN ((Below.refl _ _).alloc (Nat.le_refl _) _) _⟩
  ·have hne : ((signL s.data.toList : Int) == (s.size : Int)) = false := by simp; omega
   have HT : Hid (textL 4 s.data.toList = false) := Lib.hid (by rw [textL_4]; simp; intro _; exact hs)
   clear hs
   have HF := Lib.hid (checkL_text (p := p) (l := s.data.toList) (k := 4) (by omega) (by omega) (HT.out))
   go_enter Tryz.func108, Tryz.ntmps108
   go_wp2_with fail
   go_quiet ((go_at_call 107; exact quiet_left (sign_any _ _)))
   go_wp2_with fail
   go_ret
   exact ⟨by rw [HF.out]; rfl, below_drewN ((Below.refl _ _).alloc (Nat.le_refl _) _) _⟩
theorem check_any (k p : Int) (s : ByteArray) (w : World) :
  Calls Tryz.prog 108 #[.agg #[.int .i64 k, .string s, .int .i64 p]] w fun e w' => e = .returned (.int .i64 (checkL k s.data.toList p)) ∧ Below w.heap.size w w' := by
 by_cases h : k < 1 ∨ 4 < k
 ·exact check_kind k p s w h
 ·have : k = 1 ∨ k = 2 ∨ k = 3 ∨ k = 4 := by omega
  rcases this with rfl | rfl | rfl | rfl
  ·exact check_word p s w
  ·exact check_label p s w
  ·exact check_number p s w
  ·exact check_sign p s w
end
section
open Go.RowKit
set_option maxHeartbeats 1000000 in
theorem next_word (s : ByteArray) (w : World) (hs : s.size ≤ maxLen) (h0 : 0 < s.size) (hl : isLetter ((s[0]'h0).toNat : Int) = true) (hsl : hasSlash (s.data.toList.take (runL innerB s.data.toList)) = false) :
  Calls Tryz.prog 50 #[.string s] w fun e w' => e = .returned (.tuple #[.agg #[.int .i64 1, .string (s.extract 0 (runL innerB s.data.toList)), .int .i64 0], .bool (checkL 1 (s.data.toList.take (runL innerB s.data.toList)) 0 == 0)]) ∧ Below w.heap.size w w' := by
 have hl' : isLetter (wrap32 ((s[0]'h0).toNat : Int)) = true := by rw [byte32]; exact hl
 clear hl
 have hr : runL innerB s.data.toList ≤ s.size := by have := runL_le innerB s.data.toList; simpa using this
 unfold hasSlash at hsl
 have hz : (0 : Int) < s.size := by omega
 go_enter Tryz.func50, Tryz.ntmps50
 go_wp2_with (first | (go_at_call 103; refine (letter_yes _ _ hl').mono ?_; rintro e w' ⟨rfl, rfl⟩) | (go_at_call 101; refine (run_running _ _ hs).mono ?_; rintro e w' ⟨rfl, rfl⟩) | (go_at_call 105; refine (contains_one _ _ _).mono ?_; rintro e w' ⟨rfl, rfl⟩))
 go_region_with ((go_at_call 108; refine (check_any _ _ _ _).mono ?_; rintro e w' ⟨rfl, hb⟩; obtain ⟨hc, hf⟩ := bcell hb))
 all_goals go_wp2_with fail
 all_goals obtain ⟨⟨r0, r1, r2⟩, r3⟩ := next_end (.int .i64 1) (.string (s.extract 0 (runL innerB s.data.toList))) (.int .i64 0) hb
 all_goals exact bodyPost_ret (v := .tuple #[.agg #[.int .i64 1, .string (s.extract 0 (runL innerB s.data.toList)), .int .i64 0], .bool (checkL 1 (s.data.toList.take (runL innerB s.data.toList)) 0 == 0)]) (by simp [results, Tryz.results50, go_sem, r0, r1, r2]) rfl ⟨rfl, r3⟩
set_option maxHeartbeats 1000000 in
theorem next_label (s : ByteArray) (w : World) (hs : s.size ≤ maxLen) (h0 : 0 < s.size) (hl : isLetter ((s[0]'h0).toNat : Int) = true) (hsl : hasSlash (s.data.toList.take (runL innerB s.data.toList)) = true) :
  Calls Tryz.prog 50 #[.string s] w fun e w' => e = .returned (.tuple #[.agg #[.int .i64 2, .string (s.extract 0 (runL innerB s.data.toList)), .int .i64 0], .bool (checkL 2 (s.data.toList.take (runL innerB s.data.toList)) 0 == 0)]) ∧ Below w.heap.size w w' := by
 have hl' : isLetter (wrap32 ((s[0]'h0).toNat : Int)) = true := by rw [byte32]; exact hl
 clear hl
 have hr : runL innerB s.data.toList ≤ s.size := by have := runL_le innerB s.data.toList; simpa using this
 unfold hasSlash at hsl
 have hz : (0 : Int) < s.size := by omega
 go_enter Tryz.func50, Tryz.ntmps50
 go_wp2_with (first | (go_at_call 103; refine (letter_yes _ _ hl').mono ?_; rintro e w' ⟨rfl, rfl⟩) | (go_at_call 101; refine (run_running _ _ hs).mono ?_; rintro e w' ⟨rfl, rfl⟩) | (go_at_call 105; refine (contains_one _ _ _).mono ?_; rintro e w' ⟨rfl, rfl⟩))
 go_region_with ((go_at_call 108; refine (check_any _ _ _ _).mono ?_; rintro e w' ⟨rfl, hb⟩; obtain ⟨hc, hf⟩ := bcell hb))
 all_goals go_wp2_with fail
 all_goals obtain ⟨⟨r0, r1, r2⟩, r3⟩ := next_end (.int .i64 2) (.string (s.extract 0 (runL innerB s.data.toList))) (.int .i64 0) hb
 all_goals exact bodyPost_ret (v := .tuple #[.agg #[.int .i64 2, .string (s.extract 0 (runL innerB s.data.toList)), .int .i64 0], .bool (checkL 2 (s.data.toList.take (runL innerB s.data.toList)) 0 == 0)]) (by simp [results, Tryz.results50, go_sem, r0, r1, r2]) rfl ⟨rfl, r3⟩
set_option maxHeartbeats 1000000 in
theorem next_num (s : ByteArray) (w : World) (hs : s.size ≤ maxLen) (h0 : 0 < s.size) (hl : isLetter ((s[0]'h0).toNat : Int) = false) (hd : isDigit ((s[0]'h0).toNat : Int) = true) (m : Nat) (hm0 : m = runL innerB (s.extract 1 s.size).data.toList) :
  Calls Tryz.prog 50 #[.string s] w fun e w' => e = .returned (.tuple #[.agg #[.int .i64 3, .string (s.extract 0 (1 + m)), .int .i64 0], .bool (checkL 3 (s.data.toList.take (1 + m)) 0 == 0)]) ∧ Below w.heap.size w w' := by
 have hl' : isLetter (wrap32 ((s[0]'h0).toNat : Int)) = false := by rw [byte32]; exact hl
 clear hl
 have hd' : isDigit (wrap32 ((s[0]'h0).toNat : Int)) = true := by rw [byte32]; exact hd
 clear hd
 have Hc : Hid (∀ W, Calls Tryz.prog 101 #[.string (s.extract 1 s.size), .func (.func 104) #[] #[]] W fun e w' => e = .returned (.int .i64 m) ∧ W = w') := Lib.hid (fun W => by rw [hm0]; exact run_running (s.extract 1 s.size) W (by unfold maxLen at *; simp; omega))
 have hmr : m + 1 ≤ s.size := by
  rw [hm0]; have := runL_le innerB (s.extract 1 s.size).data.toList
  simp at this; simp; omega
 have hsz : s.size ≤ 9223372036854775807 := by unfold maxLen at hs; omega
 clear hm0
 have hz : (0 : Int) < s.size := by omega
 go_enter Tryz.func50, Tryz.ntmps50
 go_wp2_with (first | (go_at_call 103; refine (letter_no _ _ hl').mono ?_; rintro e w' ⟨rfl, rfl⟩) | (go_at_call 106; refine (digit_any _ _).mono ?_; rintro e w' ⟨rfl, rfl⟩) | (go_at_call 101; refine (Hc.out _).mono ?_; rintro e w' ⟨rfl, rfl⟩))
 go_region_with ((go_at_call 108; refine (check_any _ _ _ _).mono ?_; rintro e w' ⟨rfl, hb⟩; obtain ⟨hc, hf⟩ := bcell hb))
 all_goals go_wp2_with fail
 all_goals obtain ⟨⟨r0, r1, r2⟩, r3⟩ := next_end (.int .i64 3) (.string (s.extract 0 (1 + m))) (.int .i64 0) hb
 all_goals exact bodyPost_ret (v := .tuple #[.agg #[.int .i64 3, .string (s.extract 0 (1 + m)), .int .i64 0], .bool (checkL 3 (s.data.toList.take (1 + m)) 0 == 0)]) (by simp [results, Tryz.results50, go_sem, r0, r1, r2]) rfl ⟨rfl, r3⟩
set_option maxHeartbeats 1000000 in
theorem next_neg (s : ByteArray) (w : World) (hs : s.size ≤ maxLen) (h0 : 0 < s.size) (hl : isLetter ((s[0]'h0).toNat : Int) = false) (hd : isDigit ((s[0]'h0).toNat : Int) = false) (hm : (((s[0]'h0).toNat : Int) == 45) = true) (h1 : 1 < s.size) (hd1 : isDigit ((s[1]'h1).toNat : Int) = true) (m : Nat) (hm0 : m = runL innerB (s.extract 1 s.size).data.toList) :
  Calls Tryz.prog 50 #[.string s] w fun e w' => e = .returned (.tuple #[.agg #[.int .i64 3, .string (s.extract 0 (1 + m)), .int .i64 0], .bool (checkL 3 (s.data.toList.take (1 + m)) 0 == 0)]) ∧ Below w.heap.size w w' := by
 have hl' : isLetter (wrap32 ((s[0]'h0).toNat : Int)) = false := by rw [byte32]; exact hl
 clear hl
 have hd' : isDigit (wrap32 ((s[0]'h0).toNat : Int)) = false := by rw [byte32]; exact hd
 clear hd
 have hm' : (wrap32 ((s[0]'h0).toNat : Int) == 45) = true := by rw [byte32]; exact hm
 clear hm
 have hd1' : isDigit (wrap32 ((s[1]'h1).toNat : Int)) = true := by rw [byte32]; exact hd1
 clear hd1
 have h1z : (1 : Int) < s.size := by omega
 have Hc : Hid (∀ W, Calls Tryz.prog 101 #[.string (s.extract 1 s.size), .func (.func 104) #[] #[]] W fun e w' => e = .returned (.int .i64 m) ∧ W = w') := Lib.hid (fun W => by rw [hm0]; exact run_running (s.extract 1 s.size) W (by unfold maxLen at *; simp; omega))
 have hmr : m + 1 ≤ s.size := by
  rw [hm0]; have := runL_le innerB (s.extract 1 s.size).data.toList
  simp at this; simp; omega
 have hsz : s.size ≤ 9223372036854775807 := by unfold maxLen at hs; omega
 clear hm0
 have hz : (0 : Int) < s.size := by omega
 go_enter Tryz.func50, Tryz.ntmps50
 go_wp2_with (first | (go_at_call 103; refine (letter_no _ _ hl').mono ?_; rintro e w' ⟨rfl, rfl⟩) | (go_at_call 106; refine (digit_any _ _).mono ?_; rintro e w' ⟨rfl, rfl⟩) | (go_at_call 101; refine (Hc.out _).mono ?_; rintro e w' ⟨rfl, rfl⟩))
 go_region_with ((go_at_call 108; refine (check_any _ _ _ _).mono ?_; rintro e w' ⟨rfl, hb⟩; obtain ⟨hc, hf⟩ := bcell hb))
 all_goals go_wp2_with fail
 all_goals obtain ⟨⟨r0, r1, r2⟩, r3⟩ := next_end (.int .i64 3) (.string (s.extract 0 (1 + m))) (.int .i64 0) hb
 all_goals exact bodyPost_ret (v := .tuple #[.agg #[.int .i64 3, .string (s.extract 0 (1 + m)), .int .i64 0], .bool (checkL 3 (s.data.toList.take (1 + m)) 0 == 0)]) (by simp [results, Tryz.results50, go_sem, r0, r1, r2]) rfl ⟨rfl, r3⟩
set_option maxHeartbeats 1000000 in
theorem next_sign (s : ByteArray) (w : World) (h0 : 0 < s.size) (hl : isLetter ((s[0]'h0).toNat : Int) = false) (hd : isDigit ((s[0]'h0).toNat : Int) = false) (hm : (((s[0]'h0).toNat : Int) == 45) = false) :
  Calls Tryz.prog 50 #[.string s] w fun e w' => e = .returned (.tuple #[.agg #[.int .i64 4, .string (s.extract 0 (signL s.data.toList)), .int .i64 0], .bool (checkL 4 (s.data.toList.take (signL s.data.toList)) 0 == 0)]) ∧ Below w.heap.size w w' := by
 have hl' : isLetter (wrap32 ((s[0]'h0).toNat : Int)) = false := by rw [byte32]; exact hl
 clear hl
 have hd' : isDigit (wrap32 ((s[0]'h0).toNat : Int)) = false := by rw [byte32]; exact hd
 clear hd
 have hm' : (wrap32 ((s[0]'h0).toNat : Int) == 45) = false := by rw [byte32]; exact hm
 clear hm
 have hsg : signL s.data.toList ≤ s.size := by have := signL_le s.data.toList; simpa using this
 have hz : (0 : Int) < s.size := by omega
 go_enter Tryz.func50, Tryz.ntmps50
 go_wp2_with (first | (go_at_call 103; refine (letter_no _ _ hl').mono ?_; rintro e w' ⟨rfl, rfl⟩) | (go_at_call 106; refine (digit_any _ _).mono ?_; rintro e w' ⟨rfl, rfl⟩) | (go_at_call 107; refine (sign_any _ _).mono ?_; rintro e w' ⟨rfl, rfl⟩))
 go_region_with ((go_at_call 108; refine (check_any _ _ _ _).mono ?_; rintro e w' ⟨rfl, hb⟩; obtain ⟨hc, hf⟩ := bcell hb))
 all_goals go_wp2_with fail
 all_goals obtain ⟨⟨r0, r1, r2⟩, r3⟩ := next_end (.int .i64 4) (.string (s.extract 0 (signL s.data.toList))) (.int .i64 0) hb
 all_goals exact bodyPost_ret (v := .tuple #[.agg #[.int .i64 4, .string (s.extract 0 (signL s.data.toList)), .int .i64 0], .bool (checkL 4 (s.data.toList.take (signL s.data.toList)) 0 == 0)]) (by simp [results, Tryz.results50, go_sem, r0, r1, r2]) rfl ⟨rfl, r3⟩
set_option maxHeartbeats 1000000 in
theorem next_minus1 (s : ByteArray) (w : World) (h0 : 0 < s.size) (hl : isLetter ((s[0]'h0).toNat : Int) = false) (hd : isDigit ((s[0]'h0).toNat : Int) = false) (hm : (((s[0]'h0).toNat : Int) == 45) = true) (h1 : s.size ≤ 1) :
  Calls Tryz.prog 50 #[.string s] w fun e w' => e = .returned (.tuple #[.agg #[.int .i64 4, .string (s.extract 0 (signL s.data.toList)), .int .i64 0], .bool (checkL 4 (s.data.toList.take (signL s.data.toList)) 0 == 0)]) ∧ Below w.heap.size w w' := by
 have hl' : isLetter (wrap32 ((s[0]'h0).toNat : Int)) = false := by rw [byte32]; exact hl
 clear hl
 have hd' : isDigit (wrap32 ((s[0]'h0).toNat : Int)) = false := by rw [byte32]; exact hd
 clear hd
 have hm' : (wrap32 ((s[0]'h0).toNat : Int) == 45) = true := by rw [byte32]; exact hm
 clear hm
 have hsg : signL s.data.toList ≤ s.size := by have := signL_le s.data.toList; simpa using this
 have h1z : decide ((1 : Int) < s.size) = false := by simp; omega
 have hz : (0 : Int) < s.size := by omega
 go_enter Tryz.func50, Tryz.ntmps50
 go_wp2_with (first | (go_at_call 103; refine (letter_no _ _ hl').mono ?_; rintro e w' ⟨rfl, rfl⟩) | (go_at_call 106; refine (digit_any _ _).mono ?_; rintro e w' ⟨rfl, rfl⟩) | (go_at_call 107; refine (sign_any _ _).mono ?_; rintro e w' ⟨rfl, rfl⟩))
 go_region_with ((go_at_call 108; refine (check_any _ _ _ _).mono ?_; rintro e w' ⟨rfl, hb⟩; obtain ⟨hc, hf⟩ := bcell hb))
 all_goals go_wp2_with fail
 all_goals obtain ⟨⟨r0, r1, r2⟩, r3⟩ := next_end (.int .i64 4) (.string (s.extract 0 (signL s.data.toList))) (.int .i64 0) hb
 all_goals exact bodyPost_ret (v := .tuple #[.agg #[.int .i64 4, .string (s.extract 0 (signL s.data.toList)), .int .i64 0], .bool (checkL 4 (s.data.toList.take (signL s.data.toList)) 0 == 0)]) (by simp [results, Tryz.results50, go_sem, r0, r1, r2]) rfl ⟨rfl, r3⟩
set_option maxHeartbeats 1000000 in
theorem next_minus (s : ByteArray) (w : World) (h0 : 0 < s.size) (hl : isLetter ((s[0]'h0).toNat : Int) = false) (hd : isDigit ((s[0]'h0).toNat : Int) = false) (hm : (((s[0]'h0).toNat : Int) == 45) = true) (h1 : 1 < s.size) (hd1 : isDigit ((s[1]'h1).toNat : Int) = false) :
  Calls Tryz.prog 50 #[.string s] w fun e w' => e = .returned (.tuple #[.agg #[.int .i64 4, .string (s.extract 0 (signL s.data.toList)), .int .i64 0], .bool (checkL 4 (s.data.toList.take (signL s.data.toList)) 0 == 0)]) ∧ Below w.heap.size w w' := by
 have hl' : isLetter (wrap32 ((s[0]'h0).toNat : Int)) = false := by rw [byte32]; exact hl
 clear hl
 have hd' : isDigit (wrap32 ((s[0]'h0).toNat : Int)) = false := by rw [byte32]; exact hd
 clear hd
 have hm' : (wrap32 ((s[0]'h0).toNat : Int) == 45) = true := by rw [byte32]; exact hm
 clear hm
 have hd1' : isDigit (wrap32 ((s[1]'h1).toNat : Int)) = false := by rw [byte32]; exact hd1
 clear hd1
 have h1z : (1 : Int) < s.size := by omega
 have hsg : signL s.data.toList ≤ s.size := by have := signL_le s.data.toList; simpa using this
 have hz : (0 : Int) < s.size := by omega
 go_enter Tryz.func50, Tryz.ntmps50
 go_wp2_with (first | (go_at_call 103; refine (letter_no _ _ hl').mono ?_; rintro e w' ⟨rfl, rfl⟩) | (go_at_call 106; refine (digit_any _ _).mono ?_; rintro e w' ⟨rfl, rfl⟩) | (go_at_call 107; refine (sign_any _ _).mono ?_; rintro e w' ⟨rfl, rfl⟩))
 go_region_with ((go_at_call 108; refine (check_any _ _ _ _).mono ?_; rintro e w' ⟨rfl, hb⟩; obtain ⟨hc, hf⟩ := bcell hb))
 all_goals go_wp2_with fail
 all_goals obtain ⟨⟨r0, r1, r2⟩, r3⟩ := next_end (.int .i64 4) (.string (s.extract 0 (signL s.data.toList))) (.int .i64 0) hb
 all_goals exact bodyPost_ret (v := .tuple #[.agg #[.int .i64 4, .string (s.extract 0 (signL s.data.toList)), .int .i64 0], .bool (checkL 4 (s.data.toList.take (signL s.data.toList)) 0 == 0)]) (by simp [results, Tryz.results50, go_sem, r0, r1, r2]) rfl ⟨rfl, r3⟩
end
section
open Go.RowKit
theorem tail_head {s : ByteArray} (h : 1 < s.size) : s.data.toList.tail.head?.getD 0 = s[1] := by
 have h1 := drop_get s 1 h
 rw [← List.drop_one, h1]; rfl
theorem byte45 {c : UInt8} {b : Bool} (h : ((c.toNat : Int) == 45) = b) : (c.toNat == 45) = b := by
 subst h
 cases h : c.toNat == 45 <;> simp at h ⊢ <;> omega
theorem nextL_word {s : ByteArray} (h0 : 0 < s.size) (hl : isLetter ((s[0]'h0).toNat : Int) = true) (hsl : hasSlash (s.data.toList.take (runL innerB s.data.toList)) = false) : nextL s.data.toList = (1, runL innerB s.data.toList) := by
 unfold nextL; rw [head_get h0, if_pos (show letterB _ = true from hl), if_neg (by simp [hsl])]
theorem nextL_label {s : ByteArray} (h0 : 0 < s.size) (hl : isLetter ((s[0]'h0).toNat : Int) = true) (hsl : hasSlash (s.data.toList.take (runL innerB s.data.toList)) = true) : nextL s.data.toList = (2, runL innerB s.data.toList) := by
 unfold nextL; rw [head_get h0, if_pos (show letterB _ = true from hl), if_pos hsl]
theorem nextL_num {s : ByteArray} (h0 : 0 < s.size) (hl : isLetter ((s[0]'h0).toNat : Int) = false) (hd : isDigit ((s[0]'h0).toNat : Int) = true) : nextL s.data.toList = (3, 1 + runL innerB s.data.toList.tail) := by
 unfold nextL; rw [head_get h0, if_neg (by simp [letterB, hl]), if_pos (by simp [digitB, hd])]
theorem nextL_neg {s : ByteArray} (h0 : 0 < s.size) (hl : isLetter ((s[0]'h0).toNat : Int) = false) (hm : (((s[0]'h0).toNat : Int) == 45) = true) (h1 : 1 < s.size) (hd1 : isDigit ((s[1]'h1).toNat : Int) = true) : nextL s.data.toList = (3, 1 + runL innerB s.data.toList.tail) := by
 unfold nextL; rw [head_get h0, tail_head h1, if_neg (by simp [letterB, hl]), byte45 hm, if_pos (by simp [digitB, hd1, h1])]
theorem nextL_sign {s : ByteArray} (h0 : 0 < s.size) (hl : isLetter ((s[0]'h0).toNat : Int) = false) (hd : isDigit ((s[0]'h0).toNat : Int) = false) (hm : (((s[0]'h0).toNat : Int) == 45) = false) : nextL s.data.toList = (4, signL s.data.toList) := by
 unfold nextL; rw [head_get h0, if_neg (by simp [letterB, hl]), byte45 hm, if_neg (by simp [digitB, hd])]
theorem nextL_minus1 {s : ByteArray} (h0 : 0 < s.size) (hl : isLetter ((s[0]'h0).toNat : Int) = false) (hd : isDigit ((s[0]'h0).toNat : Int) = false) (h1 : s.size ≤ 1) : nextL s.data.toList = (4, signL s.data.toList) := by
 unfold nextL; rw [head_get h0, if_neg (by simp [letterB, hl]), if_neg (by have : ¬ 1 < s.size := by omega
                                                                           simp [digitB, hd, this])]
theorem nextL_minus {s : ByteArray} (h0 : 0 < s.size) (hl : isLetter ((s[0]'h0).toNat : Int) = false) (hd : isDigit ((s[0]'h0).toNat : Int) = false) (h1 : 1 < s.size) (hd1 : isDigit ((s[1]'h1).toNat : Int) = false) : nextL s.data.toList = (4, signL s.data.toList) := by
 unfold nextL; rw [head_get h0, tail_head h1, if_neg (by simp [letterB, hl]), if_neg (by simp [digitB, hd, hd1])]
theorem next_any (s : ByteArray) (w : World) (hs : s.size ≤ maxLen) (h0 : 0 < s.size) :
  Calls Tryz.prog 50 #[.string s] w fun e w' => e = .returned (.tuple #[.agg #[.int .i64 (nextL s.data.toList).1, .string (s.extract 0 (nextL s.data.toList).2), .int .i64 0], .bool (okNext s.data.toList)]) ∧ Below w.heap.size w w' := by
 unfold okNext
 cases hl : isLetter ((s[0]'h0).toNat : Int)
 ·cases hd : isDigit ((s[0]'h0).toNat : Int)
  ·cases hm : (((s[0]'h0).toNat : Int) == 45)
   ·rw [nextL_sign h0 hl hd hm]; exact next_sign s w h0 hl hd hm
   ·rcases Nat.lt_or_ge 1 s.size with h1 | h1
    ·cases hd1 : isDigit ((s[1]'h1).toNat : Int)
     ·rw [nextL_minus h0 hl hd h1 hd1]; exact next_minus s w h0 hl hd hm h1 hd1
     ·rw [nextL_neg h0 hl hm h1 hd1, tail_extract]; exact next_neg s w hs h0 hl hd hm h1 hd1 _ rfl
    ·rw [nextL_minus1 h0 hl hd h1]; exact next_minus1 s w h0 hl hd hm h1
  ·rw [nextL_num h0 hl hd, tail_extract]; exact next_num s w hs h0 hl hd _ rfl
 ·cases hsl : hasSlash (s.data.toList.take (runL innerB s.data.toList))
  ·rw [nextL_word h0 hl hsl]; exact next_word s w hs h0 hl hsl
  ·rw [nextL_label h0 hl hsl]; exact next_label s w hs h0 hl hsl
end
end Go.Proofs.YtnnolijagpakiaaGreatDoor
