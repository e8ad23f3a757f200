/- Texts of this proof, part 27: what the proof uses of them. -/
import Derived.WalkKit
import Derived.Test.YtnnolijagpakiaaGreatDoorRai
import Derived.Test.YtnnolijagpakiaaGreatDoorRap
import Derived.Deep.RegionWith
import Derived.Test.YtnnolijagpakiaaGreatDoorRaz
import Derived.Test.YtnnolijagpakiaaGreatDoorRaj
import Derived.Test.YtnnolijagpakiaaGreatDoorRay
import Derived.Test.YtnnolijagpakiaaGreatDoorRan
import Derived.Lib.SmallJoins
namespace Go.Proofs.YtnnolijagpakiaaGreatDoor
open Go.RowKit
theorem cell_off (W : World) (v : Value) {b i j : Nat} (h : i ≠ j) : (W.setCell ⟨b, i, none⟩ v).cell? ⟨b, j, none⟩ = W.cell? ⟨b, j, none⟩ := World.cell?_setCell_other _ _ _ _ (fun e => h (Addr.mk.inj e).2.1)
theorem below_drew1 {B : Nat} {a w : World} (h : Below B a w) : Below B a w.drew := ⟨h.os, h.tape, h.output, h.size, h.block⟩
theorem store3 {W : World} {b : Nat} {u0 u1 u2 : Value} (a0 a1 a2 : Value) (h0 : W.cell? ⟨b, 0, none⟩ = some u0) (h1 : W.cell? ⟨b, 1, none⟩ = some u1) (h2 : W.cell? ⟨b, 2, none⟩ = some u2) :
  (((W.setCell ⟨b, 0, none⟩ a0).setCell ⟨b, 1, none⟩ a1).setCell ⟨b, 2, none⟩ a2).cell? ⟨b, 0, none⟩ = some a0 ∧
  (((W.setCell ⟨b, 0, none⟩ a0).setCell ⟨b, 1, none⟩ a1).setCell ⟨b, 2, none⟩ a2).cell? ⟨b, 1, none⟩ = some a1 ∧
  (((W.setCell ⟨b, 0, none⟩ a0).setCell ⟨b, 1, none⟩ a1).setCell ⟨b, 2, none⟩ a2).cell? ⟨b, 2, none⟩ = some a2 := by
 refine ⟨?_, ?_, ?_⟩
 ·exact (cell_off _ _ (by omega)).trans ((cell_off _ _ (by omega)).trans (World.cell?_setCell_same _ _ _ h0))
 ·exact (cell_off _ _ (by omega)).trans (World.cell?_setCell_same _ _ _ (u := u1) ((cell_off _ _ (by omega)).trans h1))
 ·exact World.cell?_setCell_same _ _ _ (u := u2) ((cell_off _ _ (by omega)).trans ((cell_off _ _ (by omega)).trans h2))
theorem cell3_new (w : World) (t : TypeId) (x0 x1 x2 : Value) : (w.alloc (.cells #[x0, x1, x2] t)).cell? ⟨w.heap.size, 0, none⟩ = some x0 ∧ (w.alloc (.cells #[x0, x1, x2] t)).cell? ⟨w.heap.size, 1, none⟩ = some x1 ∧ (w.alloc (.cells #[x0, x1, x2] t)).cell? ⟨w.heap.size, 2, none⟩ = some x2 := by
 simp [go_sem]
theorem next_end {w w' : World} {t t' : TypeId} {x0 x1 x2 y0 y1 y2 : Value} (a0 a1 a2 : Value)
  (hb : Below ((w.alloc (.cells #[x0, x1, x2] t)).alloc (.cells #[y0, y1, y2] t')).drew.heap.size ((w.alloc (.cells #[x0, x1, x2] t)).alloc (.cells #[y0, y1, y2] t')).drew w') :
  ((((w'.setCell ⟨w.heap.size, 0, none⟩ a0).setCell ⟨w.heap.size, 1, none⟩ a1).setCell ⟨w.heap.size, 2, none⟩ a2).cell? ⟨w.heap.size, 0, none⟩ = some a0 ∧
  (((w'.setCell ⟨w.heap.size, 0, none⟩ a0).setCell ⟨w.heap.size, 1, none⟩ a1).setCell ⟨w.heap.size, 2, none⟩ a2).cell? ⟨w.heap.size, 1, none⟩ = some a1 ∧
  (((w'.setCell ⟨w.heap.size, 0, none⟩ a0).setCell ⟨w.heap.size, 1, none⟩ a1).setCell ⟨w.heap.size, 2, none⟩ a2).cell? ⟨w.heap.size, 2, none⟩ = some a2) ∧
  Below w.heap.size w (((w'.setCell ⟨w.heap.size, 0, none⟩ a0).setCell ⟨w.heap.size, 1, none⟩ a1).setCell ⟨w.heap.size, 2, none⟩ a2) := by
 have hc : ∀ j, w'.cell? ⟨w.heap.size, j, none⟩ = (w.alloc (.cells #[x0, x1, x2] t)).cell? ⟨w.heap.size, j, none⟩ := fun j =>
  (hb.cell (p := ⟨w.heap.size, j, none⟩) (by simp; omega)).trans (by
   have h1 := ((Below.refl _ (w.alloc (.cells #[x0, x1, x2] t))).alloc (Nat.le_refl _) (.cells #[y0, y1, y2] t')).cell (p := ⟨w.heap.size, j, none⟩) (by simp)
   exact h1)
 have h3 := cell3_new w t x0 x1 x2
 refine ⟨store3 a0 a1 a2 ((hc 0).trans h3.1) ((hc 1).trans h3.2.1) ((hc 2).trans h3.2.2), ?_⟩
 have h0 : Below w.heap.size w w' := (below_drew1 (((Below.refl _ w).alloc (Nat.le_refl _) (.cells #[x0, x1, x2] t)).alloc (by simp) (.cells #[y0, y1, y2] t'))).trans (hb.mono (by simp; omega))
 exact ((h0.setCell (p := ⟨w.heap.size, 0, none⟩) (Nat.le_refl _) _).setCell (p := ⟨w.heap.size, 1, none⟩) (Nat.le_refl _) _).setCell (p := ⟨w.heap.size, 2, none⟩) (Nat.le_refl _) _
theorem byte32 (c : UInt8) : wrap32 (c.toNat : Int) = (c.toNat : Int) := IntWalk.wrap32_in _ ⟨by omega, by have := c.toNat_lt; omega⟩
end Go.Proofs.YtnnolijagpakiaaGreatDoor
namespace Go.Proofs.YtnnolijagpakiaaGreatDoor
open Go.RowKit
theorem bcell {W w1 : World} (hb : Below W.heap.size W w1) : (∀ b o, b < W.heap.size → w1.cell? ⟨b, o, none⟩ = W.cell? ⟨b, o, none⟩) ∧ (∀ b o, b < W.heap.size → w1.frozen? ⟨b, o, none⟩ = W.frozen? ⟨b, o, none⟩) :=
 ⟨fun b o h => hb.cell (p := ⟨b, o, none⟩) h, fun b o h => hb.frozen (p := ⟨b, o, none⟩) h⟩
theorem check_kind (k p : Int) (s : ByteArray) (w : World) (h : k < 1 ∨ 4 < k) :
  Calls Tryz.prog 108 #[.agg #[.int .i64 k, .string s, .int .i64 p]] w fun e w' => e = .returned (.int .i64 (checkL k s.data.toList p)) ∧ Below w.heap.size w w' := by
 have HF := Lib.hid (checkL_kind (p := p) (l := s.data.toList) h)
 have h1 : (k == 1) = false := by simp; omega
 have h2 : (k == 2) = false := by simp; omega
 have h3 : (k == 3) = false := by simp; omega
 have h4 : (k == 4) = false := by simp; omega
 clear h
 go_enter Tryz.func108, Tryz.ntmps108
 go_wp2_with fail
 go_ret
 exact ⟨by rw [HF.out]; rfl, (Below.refl _ _).alloc (Nat.le_refl _) _⟩
theorem check_word (p : Int) (s : ByteArray) (w : World) :
  Calls Tryz.prog 108 #[.agg #[.int .i64 1, .string s, .int .i64 p]] w fun e w' => e = .returned (.int .i64 (checkL 1 s.data.toList p)) ∧ Below w.heap.size w w' := by
 cases hw : wordL 24 s.data.toList
 ·have HF := Lib.hid (checkL_text (p := p) (l := s.data.toList) (k := 1) (by omega) (by omega) ((textL_1 _).trans hw))
  go_enter Tryz.func108, Tryz.ntmps108
  go_wp2_with (first | (go_at_call 113; refine (word_any _ _).mono ?_; rintro e w' ⟨rfl, hb⟩; obtain ⟨hc, hf⟩ := bcell hb))
  go_ret
  exact ⟨by rw [HF.out]; rfl, ((Below.refl _ _).alloc (Nat.le_refl _) _).trans (hb.mono (by simp))⟩
 ·by_cases hp : p < 0
  ·have HF := Lib.hid (checkL_at (p := p) (l := s.data.toList) (k := 1) (by omega) (by omega) ((textL_1 _).trans hw) hp)
   go_enter Tryz.func108, Tryz.ntmps108
   go_wp2_with (first | (go_at_call 113; refine (word_any _ _).mono ?_; rintro e w' ⟨rfl, hb⟩; obtain ⟨hc, hf⟩ := bcell hb))
   go_ret
   exact ⟨by rw [HF.out]; rfl, ((Below.refl _ _).alloc (Nat.le_refl _) _).trans (hb.mono (by simp))⟩
  ·have HF := Lib.hid (checkL_ok (p := p) (l := s.data.toList) (k := 1) (by omega) (by omega) ((textL_1 _).trans hw) hp)
   go_enter Tryz.func108, Tryz.ntmps108
   go_wp2_with (first | (go_at_call 113; refine (word_any _ _).mono ?_; rintro e w' ⟨rfl, hb⟩; obtain ⟨hc, hf⟩ := bcell hb))
   go_ret
   exact ⟨by rw [HF.out]; rfl, ((Below.refl _ _).alloc (Nat.le_refl _) _).trans (hb.mono (by simp))⟩
theorem check_number (p : Int) (s : ByteArray) (w : World) :
  Calls Tryz.prog 108 #[.agg #[.int .i64 3, .string s, .int .i64 p]] w fun e w' => e = .returned (.int .i64 (checkL 3 s.data.toList p)) ∧ Below w.heap.size w w' := by
 cases hw : numberL s.data.toList
 ·have HF := Lib.hid (checkL_text (p := p) (l := s.data.toList) (k := 3) (by omega) (by omega) ((textL_3 _).trans hw))
  go_enter Tryz.func108, Tryz.ntmps108
  go_wp2_with (first | (go_at_call 157; refine (number_any _ _).mono ?_; rintro e w' ⟨rfl, hb⟩; obtain ⟨hc, hf⟩ := bcell hb))
  go_ret
  exact ⟨by rw [HF.out]; rfl, ((Below.refl _ _).alloc (Nat.le_refl _) _).trans (hb.mono (by simp))⟩
 ·by_cases hp : p < 0
  ·have HF := Lib.hid (checkL_at (p := p) (l := s.data.toList) (k := 3) (by omega) (by omega) ((textL_3 _).trans hw) hp)
   go_enter Tryz.func108, Tryz.ntmps108
   go_wp2_with (first | (go_at_call 157; refine (number_any _ _).mono ?_; rintro e w' ⟨rfl, hb⟩; obtain ⟨hc, hf⟩ := bcell hb))
   go_ret
   exact ⟨by rw [HF.out]; rfl, ((Below.refl _ _).alloc (Nat.le_refl _) _).trans (hb.mono (by simp))⟩
  ·have HF := Lib.hid (checkL_ok (p := p) (l := s.data.toList) (k := 3) (by omega) (by omega) ((textL_3 _).trans hw) hp)
   go_enter Tryz.func108, Tryz.ntmps108
   go_wp2_with (first | (go_at_call 157; refine (number_any _ _).mono ?_; rintro e w' ⟨rfl, hb⟩; obtain ⟨hc, hf⟩ := bcell hb))
   go_ret
   exact ⟨by rw [HF.out]; rfl, ((Below.refl _ _).alloc (Nat.le_refl _) _).trans (hb.mono (by simp))⟩
theorem check_label (p : Int) (s : ByteArray) (w : World) :
  Calls Tryz.prog 108 #[.agg #[.int .i64 2, .string s, .int .i64 p]] w fun e w' => e = .returned (.int .i64 (checkL 2 s.data.toList p)) ∧ Below w.heap.size w w' := by
 cases hw : labelL s.data.toList
 ·have HF := Lib.hid (checkL_text (p := p) (l := s.data.toList) (k := 2) (by omega) (by omega) (by rw [textL_2, hw]; rfl))
  go_enter Tryz.func108, Tryz.ntmps108
  go_wp2_with (first | (go_at_call 57; refine (label_any _ _).mono ?_; rintro e w' ⟨rfl, hb⟩; obtain ⟨hc, hf⟩ := bcell hb) | (go_at_call 105; refine (contains_one _ _ _).mono ?_; rintro e w' ⟨rfl, rfl⟩))
  go_ret
  exact ⟨by rw [HF.out]; rfl, ((Below.refl _ _).alloc (Nat.le_refl _) _).trans (hb.mono (by simp))⟩
 ·cases hd : decide ((0 : Int) ≤ Lib.indexByte s.data.toList 47)
  ·have HF := Lib.hid (checkL_text (p := p) (l := s.data.toList) (k := 2) (by omega) (by omega) (by rw [textL_2, hw, hasSlash, hd]; rfl))
   go_enter Tryz.func108, Tryz.ntmps108
   go_wp2_with (first | (go_at_call 57; refine (label_any _ _).mono ?_; rintro e w' ⟨rfl, hb⟩; obtain ⟨hc, hf⟩ := bcell hb) | (go_at_call 105; refine (contains_one _ _ _).mono ?_; rintro e w' ⟨rfl, rfl⟩))
   go_ret
   exact ⟨by rw [HF.out]; rfl, ((Below.refl _ _).alloc (Nat.le_refl _) _).trans (hb.mono (by simp))⟩
  ·by_cases hp : p < 0
   ·have HF := Lib.hid (checkL_at (p := p) (l := s.data.toList) (k := 2) (by omega) (by omega) (by rw [textL_2, hw, hasSlash, hd]; rfl) hp)
    go_enter Tryz.func108, Tryz.ntmps108
    go_wp2_with (first | (go_at_call 57; refine (label_any _ _).mono ?_; rintro e w' ⟨rfl, hb⟩; obtain ⟨hc, hf⟩ := bcell hb) | (go_at_call 105; refine (contains_one _ _ _).mono ?_; rintro e w' ⟨rfl, rfl⟩))
    go_ret
    exact ⟨by rw [HF.out]; rfl, ((Below.refl _ _).alloc (Nat.le_refl _) _).trans (hb.mono (by simp))⟩
   ·have HF := Lib.hid (checkL_ok (p := p) (l := s.data.toList) (k := 2) (by omega) (by omega) (by rw [textL_2, hw, hasSlash, hd]; rfl) hp)
    go_enter Tryz.func108, Tryz.ntmps108
    go_wp2_with (first | (go_at_call 57; refine (label_any _ _).mono ?_; rintro e w' ⟨rfl, hb⟩; obtain ⟨hc, hf⟩ := bcell hb) | (go_at_call 105; refine (contains_one _ _ _).mono ?_; rintro e w' ⟨rfl, rfl⟩))
    go_ret
    exact ⟨by rw [HF.out]; rfl, ((Below.refl _ _).alloc (Nat.le_refl _) _).trans (hb.mono (by simp))⟩
theorem quiet_left {P : Program} {f : FuncId} {args : Array Value} {w : World} {n : Nat} {v : Value}
  (h : Calls P f args (w.drewN n) fun e w' => e = .returned v ∧ w.drewN n = w') : Calls P f args (w.drewN n) fun e w'' => e = .returned v ∧ ∃ m, w'' = w.drewN m :=
 h.mono fun _ _ ⟨he, hm⟩ => ⟨he, n, hm.symm⟩
theorem below_drewN {B : Nat} {a w : World} (h : Below B a w) (n : Nat) : Below B a (w.drewN n) := ⟨h.os, h.tape, h.output, h.size, h.block⟩
set_option maxHeartbeats 400000 in
theorem check_sign (p : Int) (s : ByteArray) (w : World) :
  Calls Tryz.prog 108 #[.agg #[.int .i64 4, .string s, .int .i64 p]] w fun e w' => e = .returned (.int .i64 (checkL 4 s.data.toList p)) ∧ Below w.heap.size w w' := by
 rcases Nat.eq_zero_or_pos s.size with h0 | h0
 ·have hE := empty_yes s h0
  have HF := Lib.hid (checkL_text (p := p) (l := s.data.toList) (k := 4) (by omega) (by omega) (by rw [textL_4]; simp [h0]))
  clear h0
  go_enter Tryz.func108, Tryz.ntmps108
  go_wp2_with fail
  go_quiet ((go_at_call 107; exact quiet_left (sign_any _ _)))
  go_wp2_with fail
  go_ret
  exact ⟨by rw [HF.out]; rfl, below_drewN ((Below.refl _ _).alloc (Nat.le_refl _) _) _⟩
 ·have hE := empty_no s h0
  by_cases hs : signL s.data.toList = s.size
  ·have hne : ((signL s.data.toList : Int) == (s.size : Int)) = true := by simp; omega
   have HT : Hid (textL 4 s.data.toList = true) := Lib.hid (by rw [textL_4]; simp; exact ⟨h0, hs⟩)
   clear hs
   by_cases hp : p < 0
   ·have HF := Lib.hid (checkL_at (p := p) (l := s.data.toList) (k := 4) (by omega) (by omega) (HT.out) hp)
    go_enter Tryz.func108, Tryz.ntmps108
    go_wp2_with fail
    go_quiet ((go_at_call 107; exact quiet_left (sign_any _ _)))
    go_wp2_with fail
    go_ret
    exact ⟨by rw [HF.out]; rfl, below_drewN ((Below.refl _ _).alloc (Nat.le_refl _) _) _⟩
   ·have HF := Lib.hid (checkL_ok (p := p) (l := s.data.toList) (k := 4) (by omega) (by omega) (HT.out) hp)
    go_enter Tryz.func108, Tryz.ntmps108
    go_wp2_with fail
    go_quiet ((go_at_call 107; exact quiet_left (sign_any _ _)))
    go_wp2_with fail
    go_ret
    exact ⟨by rw [HF.out]; rfl, below_drewN ((Below.refl _ _).alloc (Nat.le_refl _) _) _⟩
  ·have hne : ((signL s.data.toList : Int) == (s.size : Int)) = false := by simp; omega
   have HT : Hid (textL 4 s.data.toList = false) := Lib.hid (by rw [textL_4]; simp; intro _; exact hs)
   clear hs
   have HF := Lib.hid (checkL_text (p := p) (l := s.data.toList) (k := 4) (by omega) (by omega) (HT.out))
   go_enter Tryz.func108, Tryz.ntmps108
   go_wp2_with fail
   go_quiet ((go_at_call 107; exact quiet_left (sign_any _ _)))
   go_wp2_with fail
   go_ret
   exact ⟨by rw [HF.out]; rfl, below_drewN ((Below.refl _ _).alloc (Nat.le_refl _) _) _⟩
theorem check_any (k p : Int) (s : ByteArray) (w : World) :
  Calls Tryz.prog 108 #[.agg #[.int .i64 k, .string s, .int .i64 p]] w fun e w' => e = .returned (.int .i64 (checkL k s.data.toList p)) ∧ Below w.heap.size w w' := by
 by_cases h : k < 1 ∨ 4 < k
 ·exact check_kind k p s w h
 ·have : k = 1 ∨ k = 2 ∨ k = 3 ∨ k = 4 := by omega
  rcases this with rfl | rfl | rfl | rfl
  ·exact check_word p s w
  ·exact check_label p s w
  ·exact check_number p s w
  ·exact check_sign p s w
end Go.Proofs.YtnnolijagpakiaaGreatDoor
namespace Go.Proofs.YtnnolijagpakiaaGreatDoor
open Go.RowKit
set_option maxHeartbeats 1000000 in
theorem next_word (s : ByteArray) (w : World) (hs : s.size ≤ maxLen) (h0 : 0 < s.size) (hl : isLetter ((s[0]'h0).toNat : Int) = true) (hsl : hasSlash (s.data.toList.take (runL innerB s.data.toList)) = false) :
  Calls Tryz.prog 50 #[.string s] w fun e w' => e = .returned (.tuple #[.agg #[.int .i64 1, .string (s.extract 0 (runL innerB s.data.toList)), .int .i64 0], .bool (checkL 1 (s.data.toList.take (runL innerB s.data.toList)) 0 == 0)]) ∧ Below w.heap.size w w' := by
 have hl' : isLetter (wrap32 ((s[0]'h0).toNat : Int)) = true := by rw [byte32]; exact hl
 clear hl
 have hr : runL innerB s.data.toList ≤ s.size := by have := runL_le innerB s.data.toList; simpa using this
 unfold hasSlash at hsl
 have hz : (0 : Int) < s.size := by omega
 go_enter Tryz.func50, Tryz.ntmps50
 go_wp2_with (first | (go_at_call 103; refine (letter_yes _ _ hl').mono ?_; rintro e w' ⟨rfl, rfl⟩) | (go_at_call 101; refine (run_running _ _ hs).mono ?_; rintro e w' ⟨rfl, rfl⟩) | (go_at_call 105; refine (contains_one _ _ _).mono ?_; rintro e w' ⟨rfl, rfl⟩))
 go_region_with ((go_at_call 108; refine (check_any _ _ _ _).mono ?_; rintro e w' ⟨rfl, hb⟩; obtain ⟨hc, hf⟩ := bcell hb))
 all_goals go_wp2_with fail
 all_goals obtain ⟨⟨r0, r1, r2⟩, r3⟩ := next_end (.int .i64 1) (.string (s.extract 0 (runL innerB s.data.toList))) (.int .i64 0) hb
 all_goals exact bodyPost_ret (v := .tuple #[.agg #[.int .i64 1, .string (s.extract 0 (runL innerB s.data.toList)), .int .i64 0], .bool (checkL 1 (s.data.toList.take (runL innerB s.data.toList)) 0 == 0)]) (by simp [results, Tryz.results50, go_sem, r0, r1, r2]) rfl ⟨rfl, r3⟩
set_option maxHeartbeats 1000000 in
theorem next_label (s : ByteArray) (w : World) (hs : s.size ≤ maxLen) (h0 : 0 < s.size) (hl : isLetter ((s[0]'h0).toNat : Int) = true) (hsl : hasSlash (s.data.toList.take (runL innerB s.data.toList)) = true) :
  Calls Tryz.prog 50 #[.string s] w fun e w' => e = .returned (.tuple #[.agg #[.int .i64 2, .string (s.extract 0 (runL innerB s.data.toList)), .int .i64 0], .bool (checkL 2 (s.data.toList.take (runL innerB s.data.toList)) 0 == 0)]) ∧ Below w.heap.size w w' := by
 have hl' : isLetter (wrap32 ((s[0]'h0).toNat : Int)) = true := by rw [byte32]; exact hl
 clear hl
 have hr : runL innerB s.data.toList ≤ s.size := by have := runL_le innerB s.data.toList; simpa using this
 unfold hasSlash at hsl
 have hz : (0 : Int) < s.size := by omega
 go_enter Tryz.func50, Tryz.ntmps50
 go_wp2_with (first | (go_at_call 103; refine (letter_yes _ _ hl').mono ?_; rintro e w' ⟨rfl, rfl⟩) | (go_at_call 101; refine (run_running _ _ hs).mono ?_; rintro e w' ⟨rfl, rfl⟩) | (go_at_call 105; refine (contains_one _ _ _).mono ?_; rintro e w' ⟨rfl, rfl⟩))
 go_region_with ((go_at_call 108; refine (check_any _ _ _ _).mono ?_; rintro e w' ⟨rfl, hb⟩; obtain ⟨hc, hf⟩ := bcell hb))
 all_goals go_wp2_with fail
 all_goals obtain ⟨⟨r0, r1, r2⟩, r3⟩ := next_end (.int .i64 2) (.string (s.extract 0 (runL innerB s.data.toList))) (.int .i64 0) hb
 all_goals exact bodyPost_ret (v := .tuple #[.agg #[.int .i64 2, .string (s.extract 0 (runL innerB s.data.toList)), .int .i64 0], .bool (checkL 2 (s.data.toList.take (runL innerB s.data.toList)) 0 == 0)]) (by simp [results, Tryz.results50, go_sem, r0, r1, r2]) rfl ⟨rfl, r3⟩
set_option maxHeartbeats 1000000 in
theorem next_num (s : ByteArray) (w : World) (hs : s.size ≤ maxLen) (h0 : 0 < s.size) (hl : isLetter ((s[0]'h0).toNat : Int) = false) (hd : isDigit ((s[0]'h0).toNat : Int) = true) (m : Nat) (hm0 : m = runL innerB (s.extract 1 s.size).data.toList) :
  Calls Tryz.prog 50 #[.string s] w fun e w' => e = .returned (.tuple #[.agg #[.int .i64 3, .string (s.extract 0 (1 + m)), .int .i64 0], .bool (checkL 3 (s.data.toList.take (1 + m)) 0 == 0)]) ∧ Below w.heap.size w w' := by
 have hl' : isLetter (wrap32 ((s[0]'h0).toNat : Int)) = false := by rw [byte32]; exact hl
 clear hl
 have hd' : isDigit (wrap32 ((s[0]'h0).toNat : Int)) = true := by rw [byte32]; exact hd
 clear hd
 have Hc : Hid (∀ W, Calls Tryz.prog 101 #[.string (s.extract 1 s.size), .func (.func 104) #[] #[]] W fun e w' => e = .returned (.int .i64 m) ∧ W = w') := Lib.hid (fun W => by rw [hm0]; exact run_running (s.extract 1 s.size) W (by unfold maxLen at *; simp; omega))
 have hmr : m + 1 ≤ s.size := by
  rw [hm0]; have := runL_le innerB (s.extract 1 s.size).data.toList
  simp at this; simp; omega
 have hsz : s.size ≤ 9223372036854775807 := by unfold maxLen at hs; omega
 clear hm0
 have hz : (0 : Int) < s.size := by omega
 go_enter Tryz.func50, Tryz.ntmps50
 go_wp2_with (first | (go_at_call 103; refine (letter_no _ _ hl').mono ?_; rintro e w' ⟨rfl, rfl⟩) | (go_at_call 106; refine (digit_any _ _).mono ?_; rintro e w' ⟨rfl, rfl⟩) | (go_at_call 101; refine (Hc.out _).mono ?_; rintro e w' ⟨rfl, rfl⟩))
 go_region_with ((go_at_call 108; refine (check_any _ _ _ _).mono ?_; rintro e w' ⟨rfl, hb⟩; obtain ⟨hc, hf⟩ := bcell hb))
 all_goals go_wp2_with fail
 all_goals obtain ⟨⟨r0, r1, r2⟩, r3⟩ := next_end (.int .i64 3) (.string (s.extract 0 (1 + m))) (.int .i64 0) hb
 all_goals exact bodyPost_ret (v := .tuple #[.agg #[.int .i64 3, .string (s.extract 0 (1 + m)), .int .i64 0], .bool (checkL 3 (s.data.toList.take (1 + m)) 0 == 0)]) (by simp [results, Tryz.results50, go_sem, r0, r1, r2]) rfl ⟨rfl, r3⟩
set_option maxHeartbeats 1000000 in
theorem next_neg (s : ByteArray) (w : World) (hs : s.size ≤ maxLen) (h0 : 0 < s.size) (hl : isLetter ((s[0]'h0).toNat : Int) = false) (hd : isDigit ((s[0]'h0).toNat : Int) = false) (hm : (((s[0]'h0).toNat : Int) == 45) = true) (h1 : 1 < s.size) (hd1 : isDigit ((s[1]'h1).toNat : Int) = true) (m : Nat) (hm0 : m = runL innerB (s.extract 1 s.size).data.toList) :
  Calls Tryz.prog 50 #[.string s] w fun e w' => e = .returned (.tuple #[.agg #[.int .i64 3, .string (s.extract 0 (1 + m)), .int .i64 0], .bool (checkL 3 (s.data.toList.take (1 + m)) 0 == 0)]) ∧ Below w.heap.size w w' := by
 have hl' : isLetter (wrap32 ((s[0]'h0).toNat : Int)) = false := by rw [byte32]; exact hl
 clear hl
 have hd' : isDigit (wrap32 ((s[0]'h0).toNat : Int)) = false := by rw [byte32]; exact hd
 clear hd
 have hm' : (wrap32 ((s[0]'h0).toNat : Int) == 45) = true := by rw [byte32]; exact hm
 clear hm
 have hd1' : isDigit (wrap32 ((s[1]'h1).toNat : Int)) = true := by rw [byte32]; exact hd1
 clear hd1
 have h1z : (1 : Int) < s.size := by omega
 have Hc : Hid (∀ W, Calls Tryz.prog 101 #[.string (s.extract 1 s.size), .func (.func 104) #[] #[]] W fun e w' => e = .returned (.int .i64 m) ∧ W = w') := Lib.hid (fun W => by rw [hm0]; exact run_running (s.extract 1 s.size) W (by unfold maxLen at *; simp; omega))
 have hmr : m + 1 ≤ s.size := by
  rw [hm0]; have := runL_le innerB (s.extract 1 s.size).data.toList
  simp at this; simp; omega
 have hsz : s.size ≤ 9223372036854775807 := by unfold maxLen at hs; omega
 clear hm0
 have hz : (0 : Int) < s.size := by omega
 go_enter Tryz.func50, Tryz.ntmps50
 go_wp2_with (first | (go_at_call 103; refine (letter_no _ _ hl').mono ?_; rintro e w' ⟨rfl, rfl⟩) | (go_at_call 106; refine (digit_any _ _).mono ?_; rintro e w' ⟨rfl, rfl⟩) | (go_at_call 101; refine (Hc.out _).mono ?_; rintro e w' ⟨rfl, rfl⟩))
 go_region_with ((go_at_call 108; refine (check_any _ _ _ _).mono ?_; rintro e w' ⟨rfl, hb⟩; obtain ⟨hc, hf⟩ := bcell hb))
 all_goals go_wp2_with fail
 all_goals obtain ⟨⟨r0, r1, r2⟩, r3⟩ := next_end (.int .i64 3) (.string (s.extract 0 (1 + m))) (.int .i64 0) hb
 all_goals exact bodyPost_ret (v := .tuple #[.agg #[.int .i64 3, .string (s.extract 0 (1 + m)), .int .i64 0], .bool (checkL 3 (s.data.toList.take (1 + m)) 0 == 0)]) (by simp [results, Tryz.results50, go_sem, r0, r1, r2]) rfl ⟨rfl, r3⟩
set_option maxHeartbeats 1000000 in
theorem next_sign (s : ByteArray) (w : World) (h0 : 0 < s.size) (hl : isLetter ((s[0]'h0).toNat : Int) = false) (hd : isDigit ((s[0]'h0).toNat : Int) = false) (hm : (((s[0]'h0).toNat : Int) == 45) = false) :
  Calls Tryz.prog 50 #[.string s] w fun e w' => e = .returned (.tuple #[.agg #[.int .i64 4, .string (s.extract 0 (signL s.data.toList)), .int .i64 0], .bool (checkL 4 (s.data.toList.take (signL s.data.toList)) 0 == 0)]) ∧ Below w.heap.size w w' := by
 have hl' : isLetter (wrap32 ((s[0]'h0).toNat : Int)) = false := by rw [byte32]; exact hl
 clear hl
 have hd' : isDigit (wrap32 ((s[0]'h0).toNat : Int)) = false := by rw [byte32]; exact hd
 clear hd
 have hm' : (wrap32 ((s[0]'h0).toNat : Int) == 45) = false := by rw [byte32]; exact hm
 clear hm
 have hsg : signL s.data.toList ≤ s.size := by have := signL_le s.data.toList; simpa using this
 have hz : (0 : Int) < s.size := by omega
 go_enter Tryz.func50, Tryz.ntmps50
 go_wp2_with (first | (go_at_call 103; refine (letter_no _ _ hl').mono ?_; rintro e w' ⟨rfl, rfl⟩) | (go_at_call 106; refine (digit_any _ _).mono ?_; rintro e w' ⟨rfl, rfl⟩) | (go_at_call 107; refine (sign_any _ _).mono ?_; rintro e w' ⟨rfl, rfl⟩))
 go_region_with ((go_at_call 108; refine (check_any _ _ _ _).mono ?_; rintro e w' ⟨rfl, hb⟩; obtain ⟨hc, hf⟩ := bcell hb))
 all_goals go_wp2_with fail
 all_goals obtain ⟨⟨r0, r1, r2⟩, r3⟩ := next_end (.int .i64 4) (.string (s.extract 0 (signL s.data.toList))) (.int .i64 0) hb
 all_goals exact bodyPost_ret (v := .tuple #[.agg #[.int .i64 4, .string (s.extract 0 (signL s.data.toList)), .int .i64 0], .bool (checkL 4 (s.data.toList.take (signL s.data.toList)) 0 == 0)]) (by simp [results, Tryz.results50, go_sem, r0, r1, r2]) rfl ⟨rfl, r3⟩
set_option maxHeartbeats 1000000 in
theorem next_minus1 (s : ByteArray) (w : World) (h0 : 0 < s.size) (hl : isLetter ((s[0]'h0).toNat : Int) = false) (hd : isDigit ((s[0]'h0).toNat : Int) = false) (hm : (((s[0]'h0).toNat : Int) == 45) = true) (h1 : s.size ≤ 1) :
  Calls Tryz.prog 50 #[.string s] w fun e w' => e = .returned (.tuple #[.agg #[.int .i64 4, .string (s.extract 0 (signL s.data.toList)), .int .i64 0], .bool (checkL 4 (s.data.toList.take (signL s.data.toList)) 0 == 0)]) ∧ Below w.heap.size w w' := by
 have hl' : isLetter (wrap32 ((s[0]'h0).toNat : Int)) = false := by rw [byte32]; exact hl
 clear hl
 have hd' : isDigit (wrap32 ((s[0]'h0).toNat : Int)) = false := by rw [byte32]; exact hd
 clear hd
 have hm' : (wrap32 ((s[0]'h0).toNat : Int) == 45) = true := by rw [byte32]; exact hm
 clear hm
 have hsg : signL s.data.toList ≤ s.size := by have := signL_le s.data.toList; simpa using this
 have h1z : decide ((1 : Int) < s.size) = false := by simp; omega
 have hz : (0 : Int) < s.size := by omega
 go_enter Tryz.func50, Tryz.ntmps50
 go_wp2_with (first | (go_at_call 103; refine (letter_no _ _ hl').mono ?_; rintro e w' ⟨rfl, rfl⟩) | (go_at_call 106; refine (digit_any _ _).mono ?_; rintro e w' ⟨rfl, rfl⟩) | (go_at_call 107; refine (sign_any _ _).mono ?_; rintro e w' ⟨rfl, rfl⟩))
 go_region_with ((go_at_call 108; refine (check_any _ _ _ _).mono ?_; rintro e w' ⟨rfl, hb⟩; obtain ⟨hc, hf⟩ := bcell hb))
 all_goals go_wp2_with fail
 all_goals obtain ⟨⟨r0, r1, r2⟩, r3⟩ := next_end (.int .i64 4) (.string (s.extract 0 (signL s.data.toList))) (.int .i64 0) hb
 all_goals exact bodyPost_ret (v := .tuple #[.agg #[.int .i64 4, .string (s.extract 0 (signL s.data.toList)), .int .i64 0], .bool (checkL 4 (s.data.toList.take (signL s.data.toList)) 0 == 0)]) (by simp [results, Tryz.results50, go_sem, r0, r1, r2]) rfl ⟨rfl, r3⟩
set_option maxHeartbeats 1000000 in
theorem next_minus (s : ByteArray) (w : World) (h0 : 0 < s.size) (hl : isLetter ((s[0]'h0).toNat : Int) = false) (hd : isDigit ((s[0]'h0).toNat : Int) = false) (hm : (((s[0]'h0).toNat : Int) == 45) = true) (h1 : 1 < s.size) (hd1 : isDigit ((s[1]'h1).toNat : Int) = false) :
  Calls Tryz.prog 50 #[.string s] w fun e w' => e = .returned (.tuple #[.agg #[.int .i64 4, .string (s.extract 0 (signL s.data.toList)), .int .i64 0], .bool (checkL 4 (s.data.toList.take (signL s.data.toList)) 0 == 0)]) ∧ Below w.heap.size w w' := by
 have hl' : isLetter (wrap32 ((s[0]'h0).toNat : Int)) = false := by rw [byte32]; exact hl
 clear hl
 have hd' : isDigit (wrap32 ((s[0]'h0).toNat : Int)) = false := by rw [byte32]; exact hd
 clear hd
 have hm' : (wrap32 ((s[0]'h0).toNat : Int) == 45) = true := by rw [byte32]; exact hm
 clear hm
 have hd1' : isDigit (wrap32 ((s[1]'h1).toNat : Int)) = false := by rw [byte32]; exact hd1
 clear hd1
 have h1z : (1 : Int) < s.size := by omega
 have hsg : signL s.data.toList ≤ s.size := by have := signL_le s.data.toList; simpa using this
 have hz : (0 : Int) < s.size := by omega
 go_enter Tryz.func50, Tryz.ntmps50
 go_wp2_with (first | (go_at_call 103; refine (letter_no _ _ hl').mono ?_; rintro e w' ⟨rfl, rfl⟩) | (go_at_call 106; refine (digit_any _ _).mono ?_; rintro e w' ⟨rfl, rfl⟩) | (go_at_call 107; refine (sign_any _ _).mono ?_; rintro e w' ⟨rfl, rfl⟩))
 go_region_with ((go_at_call 108; refine (check_any _ _ _ _).mono ?_; rintro e w' ⟨rfl, hb⟩; obtain ⟨hc, hf⟩ := bcell hb))
 all_goals go_wp2_with fail
 all_goals obtain ⟨⟨r0, r1, r2⟩, r3⟩ := next_end (.int .i64 4) (.string (s.extract 0 (signL s.data.toList))) (.int .i64 0) hb
 all_goals exact bodyPost_ret (v := .tuple #[.agg #[.int .i64 4, .string (s.extract 0 (signL s.data.toList)), .int .i64 0], .bool (checkL 4 (s.data.toList.take (signL s.data.toList)) 0 == 0)]) (by simp [results, Tryz.results50, go_sem, r0, r1, r2]) rfl ⟨rfl, r3⟩
end Go.Proofs.YtnnolijagpakiaaGreatDoor
namespace Go.Proofs.YtnnolijagpakiaaGreatDoor
open Go.RowKit
theorem tail_head {s : ByteArray} (h : 1 < s.size) : s.data.toList.tail.head?.getD 0 = s[1] := by
 have h1 := drop_get s 1 h
 rw [← List.drop_one, h1]; rfl
theorem byte45 {c : UInt8} {b : Bool} (h : ((c.toNat : Int) == 45) = b) : (c.toNat == 45) = b := by
 subst h
 cases h : c.toNat == 45 <;> simp at h ⊢ <;> omega
theorem nextL_word {s : ByteArray} (h0 : 0 < s.size) (hl : isLetter ((s[0]'h0).toNat : Int) = true) (hsl : hasSlash (s.data.toList.take (runL innerB s.data.toList)) = false) : nextL s.data.toList = (1, runL innerB s.data.toList) := by
 unfold nextL; rw [head_get h0, if_pos (show letterB _ = true from hl), if_neg (by simp [hsl])]
theorem nextL_label {s : ByteArray} (h0 : 0 < s.size) (hl : isLetter ((s[0]'h0).toNat : Int) = true) (hsl : hasSlash (s.data.toList.take (runL innerB s.data.toList)) = true) : nextL s.data.toList = (2, runL innerB s.data.toList) := by
 unfold nextL; rw [head_get h0, if_pos (show letterB _ = true from hl), if_pos hsl]
theorem nextL_num {s : ByteArray} (h0 : 0 < s.size) (hl : isLetter ((s[0]'h0).toNat : Int) = false) (hd : isDigit ((s[0]'h0).toNat : Int) = true) : nextL s.data.toList = (3, 1 + runL innerB s.data.toList.tail) := by
 unfold nextL; rw [head_get h0, if_neg (by simp [letterB, hl]), if_pos (by simp [digitB, hd])]
theorem nextL_neg {s : ByteArray} (h0 : 0 < s.size) (hl : isLetter ((s[0]'h0).toNat : Int) = false) (hm : (((s[0]'h0).toNat : Int) == 45) = true) (h1 : 1 < s.size) (hd1 : isDigit ((s[1]'h1).toNat : Int) = true) : nextL s.data.toList = (3, 1 + runL innerB s.data.toList.tail) := by
 unfold nextL; rw [head_get h0, tail_head h1, if_neg (by simp [letterB, hl]), byte45 hm, if_pos (by simp [digitB, hd1, h1])]
theorem nextL_sign {s : ByteArray} (h0 : 0 < s.size) (hl : isLetter ((s[0]'h0).toNat : Int) = false) (hd : isDigit ((s[0]'h0).toNat : Int) = false) (hm : (((s[0]'h0).toNat : Int) == 45) = false) : nextL s.data.toList = (4, signL s.data.toList) := by
 unfold nextL; rw [head_get h0, if_neg (by simp [letterB, hl]), byte45 hm, if_neg (by simp [digitB, hd])]
theorem nextL_minus1 {s : ByteArray} (h0 : 0 < s.size) (hl : isLetter ((s[0]'h0).toNat : Int) = false) (hd : isDigit ((s[0]'h0).toNat : Int) = false) (h1 : s.size ≤ 1) : nextL s.data.toList = (4, signL s.data.toList) := by
 unfold nextL; rw [head_get h0, if_neg (by simp [letterB, hl]), if_neg (by have : ¬ 1 < s.size := by omega
                                                                           simp [digitB, hd, this])]
theorem nextL_minus {s : ByteArray} (h0 : 0 < s.size) (hl : isLetter ((s[0]'h0).toNat : Int) = false) (hd : isDigit ((s[0]'h0).toNat : Int) = false) (h1 : 1 < s.size) (hd1 : isDigit ((s[1]'h1).toNat : Int) = false) : nextL s.data.toList = (4, signL s.data.toList) := by
 unfold nextL; rw [head_get h0, tail_head h1, if_neg (by simp [letterB, hl]), if_neg (by simp [digitB, hd, hd1])]
theorem next_any (s : ByteArray) (w : World) (hs : s.size ≤ maxLen) (h0 : 0 < s.size) :
  Calls Tryz.prog 50 #[.string s] w fun e w' => e = .returned (.tuple #[.agg #[.int .i64 (nextL s.data.toList).1, .string (s.extract 0 (nextL s.data.toList).2), .int .i64 0], .bool (okNext s.data.toList)]) ∧ Below w.heap.size w w' := by
 unfold okNext
 cases hl : isLetter ((s[0]'h0).toNat : Int)
 ·cases hd : isDigit ((s[0]'h0).toNat : Int)
  ·cases hm : (((s[0]'h0).toNat : Int) == 45)
   ·rw [nextL_sign h0 hl hd hm]; exact next_sign s w h0 hl hd hm
   ·rcases Nat.lt_or_ge 1 s.size with h1 | h1
    ·cases hd1 : isDigit ((s[1]'h1).toNat : Int)
     ·rw [nextL_minus h0 hl hd h1 hd1]; exact next_minus s w h0 hl hd hm h1 hd1
     ·rw [nextL_neg h0 hl hm h1 hd1, tail_extract]; exact next_neg s w hs h0 hl hd hm h1 hd1 _ rfl
    ·rw [nextL_minus1 h0 hl hd h1]; exact next_minus1 s w h0 hl hd hm h1
  ·rw [nextL_num h0 hl hd, tail_extract]; exact next_num s w hs h0 hl hd _ rfl
 ·cases hsl : hasSlash (s.data.toList.take (runL innerB s.data.toList))
  ·rw [nextL_word h0 hl hsl]; exact next_word s w hs h0 hl hsl
  ·rw [nextL_label h0 hl hsl]; exact next_label s w hs h0 hl hsl
end Go.Proofs.YtnnolijagpakiaaGreatDoor
namespace Go.Proofs.YtnnolijagpakiaaGreatDoor
section
open Go Go.RowKit
theorem con_t1 {P : Program} {f : FuncId} {k p : Int} {s : ByteArray} {r : Value} (he : Enters P f) (h : ∀ (w : World), Calls P f #[.agg #[.int .i64 k, .string s, .int .i64 p]] w fun e w' => e = .returned r ∧ Below w.heap.size w w') : Con P f [.agg [.d (.raw (.int .i64 k)), .d (.raw (.string s)), .d (.raw (.int .i64 p))]] (.d (.raw r)) := by
 refine ⟨he, rfl, fun F w vs hF _ hl hv => ?_⟩
 match vs, hl with
 | [v], _ =>
  have h0 := hv 0 (by simp) (by simp)
  simp only [List.getElem_cons_zero] at h0
  unfold HasC at h0
  obtain ⟨us, rfl, hul, hus⟩ := h0.agg_eq
  match us, hul with
  | [a, b, c], _ =>
   have e1 := (hus 0 (by simp) (by simp)).raw_eq
   have e2 := (hus 1 (by simp) (by simp)).raw_eq
   have e3 := (hus 2 (by simp) (by simp)).raw_eq
   simp only [List.getElem_cons_zero, List.getElem_cons_succ] at e1 e2 e3
   subst e1 e2 e3
   exact (h w).mono fun e w' h' => ⟨r, h'.1, .d (.raw _), h'.2⟩
theorem check_c (k p : Int) (s : ByteArray) : Con Tryz.prog 108 [.agg [.d (.raw (.int .i64 k)), .d (.raw (.string s)), .d (.raw (.int .i64 p))]] (.d (.raw (.int .i64 (checkL k s.data.toList p)))) := con_t1 ⟨_, Tryz.func108, by decide +kernel, rfl⟩ fun w => check_any k p s w
theorem number_check (l : List UInt8) : checkL 3 l 0 = 0 ↔ numberL l = true := by
 cases h : numberL l with
 | true => exact ⟨fun _ => rfl, fun _ => checkL_ok (by omega) (by omega) ((textL_3 _).trans h) (by omega)⟩
 | false =>
  rw [checkL_text (by omega) (by omega) ((textL_3 _).trans h)]
  exact ⟨fun h => (by cases h), fun h => (by cases h)⟩
theorem name_check (n : ByteArray) : checkX (.mk 3 n ⟨#[]⟩ 0 0 []) = 0 ↔ nameB n = true := by
 have hs : shapeK 3 = some (1, 0, 0) := rfl
 have ha : argOk 1 0 0 n ⟨#[]⟩ 0 0 0 = true := rfl
 rw [checkX_good (by simp [nodesE, nodesL]) (by simp [depthE, depthL]), checkE]
 show (if checkN 3 n ⟨#[]⟩ 0 0 0 = 0 then checkEs [] else checkN 3 n ⟨#[]⟩ 0 0 0) = 0 ↔ _
 cases h : nameB n with
 | true =>
  have hn : namesErr 3 n ⟨#[]⟩ (decide (1 ≤ 1)) (decide (2 ≤ 1)) = 0 := by simp [namesErr, namedB, okName, h]
  rw [checkN_range hs ha hn]
  exact ⟨fun _ => rfl, fun _ => rfl⟩
 | false =>
  have hn : namesErr 3 n ⟨#[]⟩ (decide (1 ≤ 1)) (decide (2 ≤ 1)) = 6 := by simp [namesErr, namedB, okName, h]
  rw [checkN_names hs ha (by rw [hn]; decide), hn]
  exact ⟨fun h => absurd h (by decide), fun h => (by cases h)⟩
theorem decFrom_digits : ∀ (l : List UInt8) (a : Nat), l.all digitB = true → Lib.decFrom a l = some (l.foldl (fun a c => 10 * a + (c.toNat - 48)) a)
 | [], a, _ => rfl
 | c :: l, a, h => by
  simp only [List.all_cons, Bool.and_eq_true] at h
  have hd : Lib.digitVal c = some (c.toNat - 48) := by
   have h1 := h.1
   unfold digitB isDigit at h1
   simp only [Bool.and_eq_true, decide_eq_true_eq] at h1
   unfold Lib.digitVal
   rw [if_pos (by omega)]
  rw [Lib.decFrom, hd]
  show Lib.decFrom (a * 10 + (c.toNat - 48)) l = _
  rw [decFrom_digits l _ h.2, List.foldl_cons, Nat.mul_comm a 10]
theorem core_atoi {l : List UInt8} (h : numCore l = true) : Lib.decNat l = some (valD l) ∧ l.length ≤ 9 := by
 unfold numCore at h
 simp only [Bool.and_eq_true, decide_eq_true_eq, Bool.not_eq_true'] at h
 obtain ⟨⟨⟨h1, h0⟩, h2⟩, h3⟩ := h
 refine ⟨?_, h0⟩
 unfold Lib.decNat
 cases l with
 | nil => simp at h1
 | cons c l =>
  rw [if_neg (by simp), decFrom_digits _ _ h3]; rfl
theorem number_atoi {l : List UInt8} (h : numberL l = true) : Lib.atoi l = some (numV l) ∧ l.length ≤ 10 := by
 unfold numberL at h
 split at h
 ·rename_i hp
  simp only [Bool.and_eq_true] at h
  obtain ⟨h1, h2⟩ := core_atoi h.1
  cases l with
  | nil => simp [Lib.hasPrefix] at hp
  | cons m l =>
   have hm : m = 45 := by
    unfold Lib.hasPrefix at hp
    simp only [List.isPrefixOf, Bool.and_true, beq_iff_eq] at hp
    exact hp.symm
   subst hm
   rw [List.tail_cons] at h1 h2
   refine ⟨?_, by rw [List.length_cons]; omega⟩
   unfold numV
   show (Lib.decNat l).map (fun m : Nat => -(m : Int)) = _
   rw [h1, List.head?_cons, if_pos rfl, List.tail_cons]; rfl
 ·rename_i hp
  obtain ⟨h1, h2⟩ := core_atoi h
  obtain ⟨c, q, rfl, e2, e3⟩ := core_head h
  have hd : 48 ≤ c.toNat := by
   unfold digitB isDigit at e2
   simp only [Bool.and_eq_true, decide_eq_true_eq] at e2
   omega
  have h45 : ¬ (c == 45) = true := fun e => by
   rw [beq_iff_eq.1 e] at hd
   exact absurd hd (by decide)
  have h43 : ¬ (c == 43) = true := fun e => by
   rw [beq_iff_eq.1 e] at hd
   exact absurd hd (by decide)
  refine ⟨?_, by omega⟩
  unfold numV
  show (if (c == 45) = true then (Lib.decNat q).map fun (m : Nat) => -(m : Int) else if (c == 43) = true then (Lib.decNat q).map fun (m : Nat) => (m : Int) else (Lib.decNat (c :: q)).map fun (m : Nat) => (m : Int)) = _
  rw [if_neg h45, if_neg h43, h1, List.head?_cons, if_neg (fun e => h45 (by cases e; rfl))]; rfl
set_option maxRecDepth 100000 in
set_option maxHeartbeats 4000000 in
theorem hN : HN := fun x => by
 refine con_of Tryz.func135 rfl (by decide +kernel) rfl rfl (by simp [Tryz.ntmps135]) fun A hA => ?_
 rw [Tryz.ntmps135] at hA
 refine goC 400 ?_
 by_cases hk : x.kind = 1
 ·have g1 : decide (x.kind = 1) = true := decide_eq_true hk
  have e : nfK x = decide (checkX (.mk 3 ⟨x.text.toArray⟩ ⟨#[]⟩ 0 0 []) = 0) := by
   unfold nfK nameT kt
   rw [g1, Bool.true_and, Bool.eq_iff_iff, decide_eq_true_eq, name_check]
  rw [e]
  simp only [go_sem, hA, g1]
  refine goCall 400 (sCheckExpr_c (.mk 3 ⟨x.text.toArray⟩ ⟨#[]⟩ 0 0 []) (by simp [nodesE, nodesL])) rfl (by simp only [go_sem, avE_eq, Ex.kind, Ex.name, Ex.more, Ex.int, Ex.den, Ex.sub, encL]) (by simp only [go_sem, hA]) ?_
  simp only [go_sem, hA, Tryz.results135]
 ·have g1 : decide (x.kind = 1) = false := decide_eq_false hk
  have e : nfK x = false := by unfold nfK nameT kt; rw [g1, Bool.false_and]
  rw [e]
  simp only [go_sem, hA, g1, undef, Tryz.results135]
set_option maxRecDepth 100000 in
set_option maxHeartbeats 4000000 in
theorem hM : HM := fun x => by
 refine con_of Tryz.func136 rfl (by decide +kernel) rfl rfl (by simp [Tryz.ntmps136]) fun A hA => ?_
 rw [Tryz.ntmps136] at hA
 refine goC 400 ?_
 by_cases hk : x.kind = 3
 ·have g1 : decide (x.kind = 3) = true := decide_eq_true hk
  have e : mfK x = decide (checkL 3 x.text 0 = 0) := by
   unfold mfK numT kt
   rw [g1, Bool.true_and, Bool.eq_iff_iff, decide_eq_true_eq, number_check]
  rw [e]
  simp only [go_sem, hA, g1]
  refine goCall 400 (check_c x.kind 0 ⟨x.text.toArray⟩) rfl (by simp only [go_sem]) (by simp only [go_sem, hA]) ?_
  simp only [go_sem, hA, hk, Tryz.results136]
 ·have g1 : decide (x.kind = 3) = false := decide_eq_false hk
  have e : mfK x = false := by unfold mfK numT kt; rw [g1, Bool.false_and]
  rw [e]
  simp only [go_sem, hA, g1, undef, Tryz.results136]
theorem hI : HI := fun x hx => by
 have hn : numberL x.text = true := by
  unfold mfK numT kt at hx
  simp only [Bool.and_eq_true] at hx
  exact hx.2
 obtain ⟨h1, h2⟩ := number_atoi hn
 refine ⟨⟨_, Tryz.func137, by decide +kernel, rfl⟩, rfl, fun F w vs hF _ hl hv => ?_⟩
 match vs, hl with
 | [v], _ =>
  have h0 := hv 0 (by simp) (by simp)
  simp only [List.getElem_cons_zero] at h0
  unfold HasC at h0
  rw [h0.raw_eq]
  refine (Tryz.strconv_Atoi ⟨x.text.toArray⟩ (numV x.text) (by show x.text.toArray.size ≤ 18; simp; omega) h1 w).mono fun e w' h' => ?_
  obtain ⟨he, t, rfl⟩ := h'
  refine ⟨_, he, ?_, Joins.below_bytesWorld _ _ _ _ (Nat.le_refl _)⟩
  refine .tup _ [_, _] rfl fun i hi hv => ?_
  match i, hi with
  | 0, _ => exact .d (.raw _)
  | 1, _ => exact .d (.raw _)
end
section
open Go Go.RowKit
theorem ba_inj' {a b : ByteArray} (h : a.data.toList = b.data.toList) : a = b := by
 apply ByteArray.ext; apply Array.ext'; exact h
theorem extract_extract0' (s : ByteArray) (k n : Nat) (_h : k + n ≤ s.size) : (s.extract k s.size).extract 0 n = s.extract k (k + n) := by
 apply ba_inj'
 rw [extract_list, extract_end, extract_list, List.drop_zero, Nat.sub_zero, show k + n - k = n by omega]
theorem skip_c (s : ByteArray) (hs : s.size ≤ 65536) : Con Tryz.prog 49 [.d (.raw (.string s))] (.d (.raw (.int .i64 (skipL s.data.toList)))) :=
 con_s1 ⟨_, Tryz.func49, by decide +kernel, rfl⟩ fun w => (skip_any s w (by unfold maxLen; omega)).mono fun e w' h => ⟨h.1, h.2 ▸ Below.refl _ _⟩
theorem next_c (s : ByteArray) (hs : s.size ≤ 65536) (h0 : 0 < s.size) : Con Tryz.prog 50 [.d (.raw (.string s))] (.tup [.agg [.d (.raw (.int .i64 (nextL s.data.toList).1)), .d (.raw (.string (s.extract 0 (nextL s.data.toList).2))), .d (.raw (.int .i64 0))], .d (.raw (.bool (okNext s.data.toList)))]) := by
 refine ⟨⟨_, Tryz.func50, by decide +kernel, rfl⟩, rfl, fun F w vs hF _ hl hv => ?_⟩
 match vs, hl with
 | [v], _ =>
  have h := hv 0 (by simp) (by simp)
  simp only [List.getElem_cons_zero] at h
  unfold HasC at h
  rw [h.raw_eq]
  refine (next_any s w (by unfold maxLen; omega) h0).mono fun e w' h' => ⟨_, h'.1, ?_, h'.2⟩
  refine .tup _ [_, _] rfl fun i hi hv => ?_
  match i, hi with
  | 0, _ =>
   refine .agg _ [_, _, _] rfl fun i hi hv => ?_
   match i, hi with
   | 0, _ => exact .d (.raw _)
   | 1, _ => exact .d (.raw _)
   | 2, _ => exact .d (.raw _)
  | 1, _ => exact .d (.raw _)
def scanX (s : ByteArray) : List LTok × Int × Int :=
 if 65536 < s.size then ([], 0, 4) else match (scanAll s.data.toList).2 with
  | none => ((scanAll s.data.toList).1, 0, 0)
  | some p => ([], p, 3)
abbrev scSt (s : ByteArray) (k : Nat) (ts : List LTok) : St := ⟨[(0, .d (.raw (.string s))), (5, .grow 99 (encTs ts)), (6, .d (.raw (.int .i64 k)))], [], [(99, some ⟨3, 43, ts.length, none⟩)]⟩
set_option maxRecDepth 100000 in
set_option maxHeartbeats 8000000 in
theorem scan_c (s : ByteArray) : Con Tryz.prog 23 [.d (.raw (.string s))] (.tup [.d (.sl (encTs (scanX s).1)), .d (.raw (.int .i64 (scanX s).2.1)), .d (.raw (.int .i64 (scanX s).2.2))]) := by
 refine con_of Tryz.func23 rfl (by decide +kernel) rfl rfl (by simp [Tryz.ntmps23]) fun A hA => ?_
 rw [Tryz.ntmps23] at hA
 refine goC 300 ?_
 by_cases hb : 65536 < s.size
 ·have g0 : decide ((65536 : Int) < (s.size : Int)) = true := decide_eq_true (by omega)
  have hx : scanX s = ([], 0, 4) := if_pos hb
  simp only [go_sem, hA, g0, hx, Tryz.results23]
  rfl
 have g0 : decide ((65536 : Int) < (s.size : Int)) = false := decide_eq_false (by omega)
 have hsl : s.data.toList.length = s.size := rfl
 have hk0 := skipL_le s.data.toList
 have csk := skip_c s (by omega)
 simp only [go_sem, hA, g0]
 refine goCall 300 csk rfl (by simp only [go_sem]) (by simp only [go_sem, hA]) ?_
 simp only [go_sem, hA]
 refine satC_growTmp 99 5 3 43 (by rfl) (by rfl) ?_
 refine satC_loop [0, 5, 6] [] [99] (fun y σ => ∃ k f acc, k ≤ s.size ∧ s.size - k < f ∧ acc.length ≤ k ∧ scanT f (s.data.toList.drop k) k acc = scanAll s.data.toList ∧ y = s.size - k ∧ σ = scSt s k acc) (s.size - skipL s.data.toList) ⟨skipL s.data.toList, s.size + 1, [], by omega, by omega, Nat.zero_le _, by unfold scanAll; rw [hsl], rfl, by simp only [go_sem, scSt]; rfl⟩ ?_
 rintro y σ ⟨k, f, acc, hk, hf, hacc, hS, rfl, rfl⟩
 refine goC 300 ?_
 by_cases hlt : k < s.size
 case neg =>
  have k1 : decide ((k : Int) < (s.size : Int)) = false := decide_eq_false (by omega)
  have hr : scanAll s.data.toList = (acc, none) := by rw [← hS]; exact scanT_end (by simp; omega)
  have hx : scanX s = (acc, 0, 0) := by unfold scanX; rw [if_neg hb, hr]
  simp only [go_sem, hA, scSt, k1, hx, Tryz.results23]
 have k1 : decide ((k : Int) < (s.size : Int)) = true := decide_eq_true (by omega)
 obtain ⟨g, rfl⟩ : ∃ g, f = g + 1 := ⟨f - 1, by omega⟩
 have hdl : (s.extract k s.size).data.toList = s.data.toList.drop k := extract_end s k
 have hsz : (s.extract k s.size).size = s.size - k := by simp
 have hrl : (s.data.toList.drop k).length = s.size - k := by rw [List.length_drop, hsl]
 have cn := next_c (s.extract k s.size) (by omega) (by omega)
 rw [hdl] at cn
 obtain ⟨n, hn⟩ : ∃ n, (nextL (s.data.toList.drop k)).2 = n := ⟨_, rfl⟩
 obtain ⟨kd, hkd⟩ : ∃ kd, (nextL (s.data.toList.drop k)).1 = kd := ⟨_, rfl⟩
 have hnle : n ≤ s.size - k := by rw [← hn, ← hrl]; exact nextL_le _ (by omega)
 rw [hn, hkd, extract_extract0' s k n (by omega)] at cn
 cases ho : okNext (s.data.toList.drop k) with
 | false =>
  have hr : scanAll s.data.toList = ([], some k) := by rw [← hS]; exact scanT_err (by omega) ho
  have hx : scanX s = ([], (k : Int), 3) := by unfold scanX; rw [if_neg hb, hr]
  rw [ho] at cn
  simp only [go_sem, hA, scSt, k1]
  refine ⟨⟨by omega, by omega, by omega⟩, ?_⟩
  refine goCall 300 cn rfl (by simp only [go_sem, Int.toNat_natCast]) (by simp only [go_sem, hA]) ?_
  simp only [go_sem, hA, hx, Tryz.results23]
  rfl
 | true =>
  have hn0 : 0 < n := by rw [← hn]; exact okNext_pos ho
  have hadv : advL (s.data.toList.drop k) = n + skipL (s.data.toList.drop (k + n)) := by unfold advL; rw [hn, List.drop_drop]
  have hal := advL_le (s.data.toList.drop k) (by omega)
  have hst := scanT_step (f := g) (p := k) (acc := acc) (by omega) ho
  rw [hst, hadv, List.drop_drop] at hS
  have htok : tokL (s.data.toList.drop k) k = ⟨kd, (s.data.toList.drop k).take n, k⟩ := by unfold tokL; rw [hkd, hn]
  have hdl2 : (s.extract (k + n) s.size).data.toList = s.data.toList.drop (k + n) := extract_end s (k + n)
  have csk2 := skip_c (s.extract (k + n) s.size) (by simp; omega)
  rw [hdl2] at csk2
  obtain ⟨m, hm⟩ : ∃ m, skipL (s.data.toList.drop (k + n)) = m := ⟨_, rfl⟩
  rw [hadv, hrl, hm] at hal
  rw [hm, htok] at hS
  rw [hm] at csk2
  have htx : (⟨((s.data.toList.drop k).take n).toArray⟩ : ByteArray) = s.extract k (k + n) := by
   apply ba_inj'
   rw [extract_list]; simp
  have hzs : (s.extract k (k + n)).size = n := by simp; omega
  have hfit : rowsFit 3 [[D.raw (.int .i64 kd), .raw (.string (s.extract k (k + n))), .raw (.int .i64 k)]] := by
   have := encTs_fit [⟨kd, (s.data.toList.drop k).take n, k⟩]
   simpa only [encTs, encT, List.map_cons, List.map_nil, htx] using this
  rw [ho] at cn
  simp only [go_sem, hA, scSt, k1]
  refine ⟨⟨by omega, by omega, by omega⟩, ?_⟩
  refine goCall 300 cn rfl (by simp only [go_sem, Int.toNat_natCast]) (by simp only [go_sem, hA]) ?_
  simp only [go_sem, hA, encTs_length, hzs]
  have hkn : ((k : Int) + (n : Int)).toNat = k + n := by omega
  refine ⟨⟨hfit, encTs_row _, by omega⟩, by unfold inI64; omega, ⟨by omega, by omega, by omega⟩, ?_⟩
  simp only [hkn]
  refine goCall 300 csk2 rfl (by simp only [go_sem, Int.toNat_natCast]) (by simp only [go_sem, hA]) ?_
  simp only [go_sem, hA]
  refine ⟨by unfold inI64; omega, s.size - (k + n + m), by omega, k + n + m, g, acc ++ [⟨kd, (s.data.toList.drop k).take n, k⟩], by omega, by omega, by simp; omega, by rw [← hS, show k + (n + m) = k + n + m by omega], rfl, ?_⟩
  have he : encTs (acc ++ [⟨kd, (s.data.toList.drop k).take n, k⟩]) = encTs acc ++ [[.raw (.int .i64 kd), .raw (.string (s.extract k (k + n))), .raw (.int .i64 k)]] := by
   simp [encTs, encT, htx]
  rw [he]
  simp only [List.length_append, List.length_singleton]
  rfl
end
section
open Go Go.RowKit
abbrev sr0 : Sr := ⟨[], []⟩
def usesBad (l : List ByteArray) (q : Nat) : Int := if 0 < q ∧ ltS (atB l (q - 1)) (atB l q) = false then 1 else 0
def placeX (l : List Dc) : Int := firstN (fun q => if misplaced l q then (q : Int) else 0) l.length
def unordX (x : Sr) : Int := if ¬ firstN (usesBad x.uses) x.uses.length = 0 then -1 else if placeX x.decls = 0 then -1 else placeX x.decls
def posT (t : List LTok) (i : Nat) : Int := (t.getD i ⟨0, [], 0⟩).pos
def parseP (s : ByteArray) : Sr × Int × Int :=
 if ¬ (scanX s).2.2 = 0 then (sr0, (scanX s).2.1, (scanX s).2.2) else
 match pSrc ((scanX s).1.length + 1) ((scanX s).1.map kt) with
 | (none, r) => (sr0, if r.length = 0 then (s.size : Int) else posT (scanX s).1 ((scanX s).1.length - r.length), 3)
 | (some x, _) => if srcX sdeclX x.1 = 0 then (x.1, 0, 0) else if srcX sdeclX x.1 = 10 ∧ 0 ≤ unordX x.1 then (sr0, posT (scanX s).1 ((scanX s).1.length - x.2.getD (unordX x.1).toNat 0), 10) else (sr0, 0, srcX sdeclX x.1)
theorem scanT_bound : ∀ (f : Nat) (r : List UInt8) (p : Nat) (acc ts : List LTok) (e : Option Nat), scanT f r p acc = (ts, e) → ts.length ≤ acc.length + r.length ∧ (∀ x ∈ ts, x ∈ acc ∨ ∃ q : Nat, x.pos = q ∧ q ≤ p + r.length) ∧ ∀ q, e = some q → q ≤ p + r.length
 | 0, r, p, acc, ts, e, h => by
  cases h
  exact ⟨by omega, fun x hx => .inl hx, fun q h => (by cases h)⟩
 | f + 1, r, p, acc, ts, e, h => by
  rcases Nat.eq_zero_or_pos r.length with h0 | h0
  ·rw [scanT_end h0] at h
   cases h
   exact ⟨by omega, fun x hx => .inl hx, fun q h => (by cases h)⟩
  ·cases ho : okNext r with
   | false =>
    rw [scanT_err h0 ho] at h
    cases h
    exact ⟨Nat.zero_le _, fun x hx => (by cases hx), fun q h => (by cases h; omega)⟩
   | true =>
    rw [scanT_step h0 ho] at h
    obtain ⟨h1, h2, h3⟩ := scanT_bound f _ _ _ _ _ h
    have h4 := advL_le r h0
    have h5 := okNext_pos ho
    have h6 : 0 < advL r := by unfold advL; omega
    have h7 : (r.drop (advL r)).length = r.length - advL r := List.length_drop
    rw [List.length_append, List.length_singleton] at h1
    refine ⟨by omega, fun x hx => ?_, fun q hq => by have := h3 q hq; omega⟩
    rcases h2 x hx with h2 | ⟨q, e1, e2⟩
    ·rcases List.mem_append.1 h2 with h2 | h2
     ·exact .inl h2
     ·obtain rfl := List.mem_singleton.1 h2
      exact .inr ⟨p, rfl, by omega⟩
    ·exact .inr ⟨q, e1, by omega⟩
theorem scan_bound (s : ByteArray) : (scanX s).1.length ≤ 65536 ∧ (scanX s).1.length ≤ s.size ∧ (∀ x ∈ (scanX s).1, 0 ≤ x.pos ∧ x.pos ≤ s.size) ∧ 0 ≤ (scanX s).2.1 ∧ (scanX s).2.1 ≤ s.size ∧ (¬ (scanX s).2.2 = 0 → (scanX s).1 = []) := by
 unfold scanX
 split
 ·exact ⟨Nat.zero_le _, Nat.zero_le _, fun x hx => (by cases hx), Int.le_refl _, by simp only; omega, fun _ => rfl⟩
 ·rename_i hs
  cases h : scanAll s.data.toList with
  | mk ts e =>
   have h1 := skipL_le s.data.toList
   have h2 : s.data.toList.length = s.size := rfl
   have h3 : (s.data.toList.drop (skipL s.data.toList)).length = s.data.toList.length - skipL s.data.toList := List.length_drop
   obtain ⟨b1, b2, b3⟩ := scanT_bound _ _ _ _ _ _ h
   rw [List.length_nil] at b1
   have b4 : ∀ x ∈ ts, 0 ≤ x.pos ∧ x.pos ≤ s.size := fun x hx => by
    rcases b2 x hx with h | ⟨q, e1, e2⟩
    ·cases h
    ·omega
   cases e with
   | none => exact ⟨by simp only; omega, by simp only; omega, b4, Int.le_refl _, by simp only; omega, fun h => absurd rfl h⟩
   | some q =>
    have := b3 q rfl
    exact ⟨Nat.zero_le _, Nat.zero_le _, fun x hx => (by cases hx), by simp only; omega, by simp only; omega, fun _ => rfl⟩
theorem kind_few {l r : List KT} {k : Int} (h : pKind l = (some k, r)) : r.length + 1 = l.length := by
 cases l with
 | nil => cases h
 | cons y q =>
  rw [pKind] at h
  repeat' split at h
  all_goals first | (cases h; rfl) | cases h
theorem decl_at {f : Nat} {l r : List KT} {x : Dc} {n : Nat} (h : pDecl f l = (some (x, n), r)) : 0 < n ∧ n < l.length := by
 unfold pDecl pBody at h
 obtain ⟨k, q1, h1, h⟩ := bind_get h
 obtain ⟨ns, q2, h2, h⟩ := bind_get h
 obtain ⟨i, q3, h3, h⟩ := bind_get h
 obtain ⟨u4, q4, h4, h⟩ := bind_get h
 obtain ⟨e, q5, h5, h⟩ := bind_get h
 obtain ⟨u6, q6, h6, h⟩ := bind_get h
 have e0 : (pFlag wPub (pFlag wConflict l).2).2.length ≤ l.length := by
  unfold pFlag
  repeat' split
  all_goals simp only [List.length_tail]
  all_goals omega
 have e1 := kind_few h1
 cases h
 refine ⟨?_, by omega⟩
 cases q1 with
 | nil =>
  have : pNames [] = (none, []) := rfl
  rw [this] at h2; cases h2
 | cons y q => simp
theorem decls_at (f : Nat) : ∀ (g : Nat) (l r : List KT) (ds : List (Dc × Nat)) (n : Nat), l.length ≤ n → pDecls f g l = (some ds, r) → ∀ d ∈ ds, 0 < d.2 ∧ d.2 < n
 | 0, [], r, ds, n, _, h => by
  cases h
  intro d hd; cases hd
 | _ + 1, [], r, ds, n, _, h => by
  cases h
  intro d hd; cases hd
 | 0, y :: l, r, ds, n, _, h => by cases h
 | g + 1, y :: l, r, ds, n, hn, h => by
  rw [pDecls] at h
  obtain ⟨d, q, h1, h⟩ := bind_get h
  obtain ⟨es, q2, h2, h⟩ := bind_get h
  cases h
  obtain ⟨x, k⟩ := d
  have h3 := decl_at h1
  have h4 : q.length ≤ n := by
   have h5 := pDecl_le f (y :: l)
   rw [h1] at h5
   exact Nat.le_trans h5 hn
  intro e he
  rcases List.mem_cons.1 he with rfl | he
  ·exact ⟨h3.1, by simp only; omega⟩
  ·exact decls_at f g q r es n h4 h2 e he
theorem src_at {f : Nat} {l r : List KT} {x : Sr} {ps : List Nat} (h : pSrc f l = (some (x, ps), r)) : ps.length = x.decls.length ∧ ∀ n ∈ ps, 0 < n ∧ n < l.length := by
 unfold pSrc at h
 obtain ⟨us, q, h1, h⟩ := bind_get h
 obtain ⟨ds, q2, h2, h⟩ := bind_get h
 cases h
 have h3 : q.length ≤ l.length := by
  have := pUses_le f l
  rw [h1] at this
  exact this
 refine ⟨by simp, fun n hn => ?_⟩
 obtain ⟨e, he, rfl⟩ := List.mem_map.1 hn
 exact decls_at f f q r ds _ h3 h2 e he
theorem place_lt (l : List Dc) : 0 ≤ placeX l ∧ (¬ placeX l = 0 → placeX l < l.length) := by
 have key : ∀ n : Nat, 0 ≤ firstN (fun q => if misplaced l q then (q : Int) else 0) n ∧ (¬ firstN (fun q => if misplaced l q then (q : Int) else 0) n = 0 → firstN (fun q => if misplaced l q then (q : Int) else 0) n < n) := by
  intro n
  induction n with
  | zero => exact ⟨Int.le_refl _, fun h => absurd rfl h⟩
  | succ n ih =>
   rw [firstN]
   by_cases h : firstN (fun q => if misplaced l q then (q : Int) else 0) n = 0
   ·rw [if_pos h]
    split
    ·exact ⟨by omega, fun _ => by omega⟩
    ·exact ⟨Int.le_refl _, fun h => absurd rfl h⟩
   ·rw [if_neg h]
    exact ⟨ih.1, fun h2 => by have := ih.2 h; omega⟩
 exact key _
theorem unord_lt (x : Sr) : -1 ≤ unordX x ∧ (0 ≤ unordX x → 0 < unordX x ∧ unordX x < x.decls.length) := by
 obtain ⟨h1, h2⟩ := place_lt x.decls
 unfold unordX
 split
 ·exact ⟨Int.le_refl _, fun h => by omega⟩
 ·split
  ·exact ⟨Int.le_refl _, fun h => by omega⟩
  ·rename_i h
   have := h2 h
   exact ⟨by omega, fun _ => ⟨by omega, this⟩⟩
end
section
open Go Go.RowKit
theorem ne30 : (decide ¬(3 : Int) = 0) = true := rfl
end
section
open Go Go.RowKit
theorem avS0 : avS ⟨[], []⟩ = .agg [.d (.sl []), .d (.sl [])] := rfl
end
end Go.Proofs.YtnnolijagpakiaaGreatDoor
