/- named of the reference; checkNames of syntax. -/
import Derived.Test.YtnphcjpccieljaaGreatDoorExF
namespace Go.Proofs.YtnphcjpccieljaaGreatDoor
open Go.RowKit

theorem strsAt_ops (w : World) (T : TypeId) (b : Nat) (hb : b = w.heap.size) : StrsAt (w.alloc (.cells #[.string ⟨#[43]⟩, .string ⟨#[45]⟩, .string ⟨#[42]⟩, .string ⟨#[61]⟩, .string ⟨#[60]⟩] T)) (.slice (some ⟨b, 0, none⟩) 5 5) opNames := by
  subst hb; exact strsAt_new w T opNames
theorem bcellE {W w1 : World} (hb : Below W.heap.size W w1) : (∀ b o, b < W.heap.size → w1.cell? ⟨b, o, none⟩ = W.cell? ⟨b, o, none⟩) ∧ (∀ b o, b < W.heap.size → w1.frozen? ⟨b, o, none⟩ = W.frozen? ⟨b, o, none⟩) :=
  ⟨fun b o h => hb.cell (p := ⟨b, o, none⟩) h, fun b o h => hb.frozen (p := ⟨b, o, none⟩) h⟩
set_option maxHeartbeats 2000000 in
theorem rnamed_any (k : Int) (nm mr : ByteArray) (it d : Int) (sv : Value) (b0 b1 b2 b3 : Bool) (ns : Int) (w : World) :
    Calls Tryz.prog 99 #[.agg #[.int .i64 k, .string nm, .string mr, .int .i64 it, .int .i64 d, sv], .agg #[.bool b0, .bool b1, .bool b2, .bool b3, .int .i64 ns]] w fun e w' => e = .returned (.bool (namedB k nm mr b0 b1)) ∧ Below w.heap.size w w' := by
  cases b1
  · by_cases h5 : k = 5
    · subst h5
      by_cases hz : nm.size = 0
      · obtain rfl := size_zero hz
        have HE : Hid (namedB 5 ⟨#[]⟩ mr b0 false = true) := Lib.hid (by simp [namedB, okName, *])
        clear hz 
        go_enter Tryz.func99, Tryz.ntmps99
        go_wp2_with fail
        go_ret
        exact ⟨by rw [HE.out]; rfl, ((Below.refl _ _).alloc (Nat.le_refl _) _).alloc (by simp) _⟩
      · have hz1 := toList_ne' hz
        have HE : Hid (namedB 5 nm mr b0 false = labelL nm.data.toList) := Lib.hid (by simp [namedB, okName, *])
        clear hz 
        go_enter Tryz.func99, Tryz.ntmps99
        go_wp2_with (first | (go_at_call 78; refine (rLabel_any nm _).mono ?_; rintro e w2 ⟨rfl, rfl⟩))
        go_ret
        exact ⟨by rw [HE.out]; rfl, ((Below.refl _ _).alloc (Nat.le_refl _) _).alloc (by simp) _⟩
    have e5 : (k == 5) = false := by simpa using h5
    by_cases h10 : k = 10
    · subst h10
      have HE : Hid (namedB 10 nm mr b0 false = hasB opNames nm) := Lib.hid (by simp [namedB, okName, *])
      clear h5
      go_enter Tryz.func99, Tryz.ntmps99
      go_wp2_with (first | (go_at_call 54; refine (rHas_any opNames nm _ _ (by decide) (strsAt_ops _ _ _ (by simp))).mono ?_; rintro e w2 ⟨rfl, rfl⟩))
      go_ret
      exact ⟨by rw [HE.out]; rfl, (((Below.refl _ _).alloc (Nat.le_refl _) _).alloc (by simp) _).alloc (by first | omega | (simp; done) | (simp; omega)) _⟩
    have e10 : (k == 10) = false := by simpa using h10
    cases b0
    · have HE : Hid (namedB k nm mr false false = true) := Lib.hid (by simp [namedB, okName, *])
      clear h5 h10
      go_enter Tryz.func99, Tryz.ntmps99
      go_wp2_with fail
      go_ret
      exact ⟨by rw [HE.out]; rfl, ((Below.refl _ _).alloc (Nat.le_refl _) _).alloc (by simp) _⟩
    · have HE : Hid (namedB k nm mr true false = nameB nm) := Lib.hid (by simp [namedB, okName, *])
      clear h5 h10
      go_enter Tryz.func99, Tryz.ntmps99
      go_wp2_with (first | (go_at_call 21; refine (rName_any nm _).mono ?_; rintro e w2 ⟨rfl, hb⟩))
      go_ret
      exact ⟨by rw [HE.out]; rfl, (((Below.refl _ _).alloc (Nat.le_refl _) _).alloc (by simp) _).trans (hb.mono (by first | omega | (simp; done) | (simp; omega)))⟩
  · cases hm : nameB mr
    · have HMR : Hid (∀ W : World, Calls Tryz.prog 21 #[.string mr] W fun e w' => e = .returned (.bool false) ∧ Below W.heap.size W w') := Lib.hid (fun W => by have := rName_any mr W; rw [hm] at this; exact this)
      have HE : Hid (namedB k nm mr b0 true = false) := Lib.hid (by simp [namedB, okName, *])
      clear hm
      obtain ⟨w1, hw1, hX⟩ := boxed w #[.int .i64 k, .string nm, .string mr, .int .i64 it, .int .i64 d, sv] 35
      obtain ⟨w2, hw2, hX2⟩ := boxed w1 #[.bool b0, .bool true, .bool b2, .bool b3, .int .i64 ns] 114
      have HW : Hid ((w.alloc (.cells #[.int .i64 k, .string nm, .string mr, .int .i64 it, .int .i64 d, sv] 35)).alloc (.cells #[.bool b0, .bool true, .bool b2, .bool b3, .int .i64 ns] 114) = w2) := Lib.hid (by rw [hw1, hw2])
      have HX := Lib.hid hX
      have HX2 := Lib.hid hX2
      clear hX hX2 hw1 hw2
      go_enter Tryz.func99, Tryz.ntmps99
      go_wp2_with fail
      rw [HW.out]
      refine (HMR.out _).mono ?_
      rintro e wm ⟨rfl, hbm⟩
      obtain ⟨c0, c1, c2, c3, c4, c5⟩ := boxed6 HX.out (HX2.out.below.trans (hbm.mono HX2.out.below.size))
      obtain ⟨d0, d1, d2, d3, d4⟩ := boxed5 HX2.out hbm
      rw [HX.out.next] at d0 d1 d2 d3 d4
      have hl1 : w.heap.size < wm.heap.size := by have := HX.out.size; have := HX2.out.size; have := hbm.size; omega
      have hl2 : w.heap.size + 1 < wm.heap.size := by have := HX.out.next; have := HX2.out.size; have := hbm.size; omega
      have hbw : Below w.heap.size w wm := HX.out.below.trans ((HX2.out.below.trans (hbm.mono HX2.out.below.size)).mono HX.out.below.size)
      go_wp2_with fail
      go_ret
      exact ⟨by rw [HE.out]; rfl, hbw⟩
    · have HMR : Hid (∀ W : World, Calls Tryz.prog 21 #[.string mr] W fun e w' => e = .returned (.bool true) ∧ Below W.heap.size W w') := Lib.hid (fun W => by have := rName_any mr W; rw [hm] at this; exact this)
      by_cases h5 : k = 5
      · subst h5
        by_cases hz : nm.size = 0
        · obtain rfl := size_zero hz
          have HE : Hid (namedB 5 ⟨#[]⟩ mr b0 true = true) := Lib.hid (by simp [namedB, okName, *])
          clear hz hm
          obtain ⟨w1, hw1, hX⟩ := boxed w #[.int .i64 5, .string ⟨#[]⟩, .string mr, .int .i64 it, .int .i64 d, sv] 35
          obtain ⟨w2, hw2, hX2⟩ := boxed w1 #[.bool b0, .bool true, .bool b2, .bool b3, .int .i64 ns] 114
          have HW : Hid ((w.alloc (.cells #[.int .i64 5, .string ⟨#[]⟩, .string mr, .int .i64 it, .int .i64 d, sv] 35)).alloc (.cells #[.bool b0, .bool true, .bool b2, .bool b3, .int .i64 ns] 114) = w2) := Lib.hid (by rw [hw1, hw2])
          have HX := Lib.hid hX
          have HX2 := Lib.hid hX2
          clear hX hX2 hw1 hw2
          go_enter Tryz.func99, Tryz.ntmps99
          go_wp2_with fail
          rw [HW.out]
          refine (HMR.out _).mono ?_
          rintro e wm ⟨rfl, hbm⟩
          obtain ⟨c0, c1, c2, c3, c4, c5⟩ := boxed6 HX.out (HX2.out.below.trans (hbm.mono HX2.out.below.size))
          obtain ⟨d0, d1, d2, d3, d4⟩ := boxed5 HX2.out hbm
          rw [HX.out.next] at d0 d1 d2 d3 d4
          have hl1 : w.heap.size < wm.heap.size := by have := HX.out.size; have := HX2.out.size; have := hbm.size; omega
          have hl2 : w.heap.size + 1 < wm.heap.size := by have := HX.out.next; have := HX2.out.size; have := hbm.size; omega
          have hbw : Below w.heap.size w wm := HX.out.below.trans ((HX2.out.below.trans (hbm.mono HX2.out.below.size)).mono HX.out.below.size)
          go_wp2_with fail
          go_ret
          exact ⟨by rw [HE.out]; rfl, hbw⟩
        · have hz1 := toList_ne' hz
          have HE : Hid (namedB 5 nm mr b0 true = labelL nm.data.toList) := Lib.hid (by simp [namedB, okName, *])
          clear hz hm
          obtain ⟨w1, hw1, hX⟩ := boxed w #[.int .i64 5, .string nm, .string mr, .int .i64 it, .int .i64 d, sv] 35
          obtain ⟨w2, hw2, hX2⟩ := boxed w1 #[.bool b0, .bool true, .bool b2, .bool b3, .int .i64 ns] 114
          have HW : Hid ((w.alloc (.cells #[.int .i64 5, .string nm, .string mr, .int .i64 it, .int .i64 d, sv] 35)).alloc (.cells #[.bool b0, .bool true, .bool b2, .bool b3, .int .i64 ns] 114) = w2) := Lib.hid (by rw [hw1, hw2])
          have HX := Lib.hid hX
          have HX2 := Lib.hid hX2
          clear hX hX2 hw1 hw2
          go_enter Tryz.func99, Tryz.ntmps99
          go_wp2_with fail
          rw [HW.out]
          refine (HMR.out _).mono ?_
          rintro e wm ⟨rfl, hbm⟩
          obtain ⟨c0, c1, c2, c3, c4, c5⟩ := boxed6 HX.out (HX2.out.below.trans (hbm.mono HX2.out.below.size))
          obtain ⟨d0, d1, d2, d3, d4⟩ := boxed5 HX2.out hbm
          rw [HX.out.next] at d0 d1 d2 d3 d4
          have hl1 : w.heap.size < wm.heap.size := by have := HX.out.size; have := HX2.out.size; have := hbm.size; omega
          have hl2 : w.heap.size + 1 < wm.heap.size := by have := HX.out.next; have := HX2.out.size; have := hbm.size; omega
          have hbw : Below w.heap.size w wm := HX.out.below.trans ((HX2.out.below.trans (hbm.mono HX2.out.below.size)).mono HX.out.below.size)
          go_wp2_with (first | (go_at_call 78; refine (rLabel_any nm _).mono ?_; rintro e w2 ⟨rfl, rfl⟩))
          go_ret
          exact ⟨by rw [HE.out]; rfl, hbw⟩
      have e5 : (k == 5) = false := by simpa using h5
      by_cases h10 : k = 10
      · subst h10
        have HE : Hid (namedB 10 nm mr b0 true = hasB opNames nm) := Lib.hid (by simp [namedB, okName, *])
        clear h5 hm
        obtain ⟨w1, hw1, hX⟩ := boxed w #[.int .i64 10, .string nm, .string mr, .int .i64 it, .int .i64 d, sv] 35
        obtain ⟨w2, hw2, hX2⟩ := boxed w1 #[.bool b0, .bool true, .bool b2, .bool b3, .int .i64 ns] 114
        have HW : Hid ((w.alloc (.cells #[.int .i64 10, .string nm, .string mr, .int .i64 it, .int .i64 d, sv] 35)).alloc (.cells #[.bool b0, .bool true, .bool b2, .bool b3, .int .i64 ns] 114) = w2) := Lib.hid (by rw [hw1, hw2])
        have HX := Lib.hid hX
        have HX2 := Lib.hid hX2
        clear hX hX2 hw1 hw2
        go_enter Tryz.func99, Tryz.ntmps99
        go_wp2_with fail
        rw [HW.out]
        refine (HMR.out _).mono ?_
        rintro e wm ⟨rfl, hbm⟩
        obtain ⟨c0, c1, c2, c3, c4, c5⟩ := boxed6 HX.out (HX2.out.below.trans (hbm.mono HX2.out.below.size))
        obtain ⟨d0, d1, d2, d3, d4⟩ := boxed5 HX2.out hbm
        rw [HX.out.next] at d0 d1 d2 d3 d4
        have hl1 : w.heap.size < wm.heap.size := by have := HX.out.size; have := HX2.out.size; have := hbm.size; omega
        have hl2 : w.heap.size + 1 < wm.heap.size := by have := HX.out.next; have := HX2.out.size; have := hbm.size; omega
        have hbw : Below w.heap.size w wm := HX.out.below.trans ((HX2.out.below.trans (hbm.mono HX2.out.below.size)).mono HX.out.below.size)
        go_wp2_with (first | (go_at_call 54; refine (rHas_any opNames nm _ _ (by decide) (strsAt_ops _ _ _ (by simp))).mono ?_; rintro e w2 ⟨rfl, rfl⟩))
        go_ret
        exact ⟨by rw [HE.out]; rfl, (hbw).alloc (by first | omega | (simp; done) | (simp; omega)) _⟩
      have e10 : (k == 10) = false := by simpa using h10
      cases b0
      · have HE : Hid (namedB k nm mr false true = true) := Lib.hid (by simp [namedB, okName, *])
        clear h5 h10 hm
        obtain ⟨w1, hw1, hX⟩ := boxed w #[.int .i64 k, .string nm, .string mr, .int .i64 it, .int .i64 d, sv] 35
        obtain ⟨w2, hw2, hX2⟩ := boxed w1 #[.bool false, .bool true, .bool b2, .bool b3, .int .i64 ns] 114
        have HW : Hid ((w.alloc (.cells #[.int .i64 k, .string nm, .string mr, .int .i64 it, .int .i64 d, sv] 35)).alloc (.cells #[.bool false, .bool true, .bool b2, .bool b3, .int .i64 ns] 114) = w2) := Lib.hid (by rw [hw1, hw2])
        have HX := Lib.hid hX
        have HX2 := Lib.hid hX2
        clear hX hX2 hw1 hw2
        go_enter Tryz.func99, Tryz.ntmps99
        go_wp2_with fail
        rw [HW.out]
        refine (HMR.out _).mono ?_
        rintro e wm ⟨rfl, hbm⟩
        obtain ⟨c0, c1, c2, c3, c4, c5⟩ := boxed6 HX.out (HX2.out.below.trans (hbm.mono HX2.out.below.size))
        obtain ⟨d0, d1, d2, d3, d4⟩ := boxed5 HX2.out hbm
        rw [HX.out.next] at d0 d1 d2 d3 d4
        have hl1 : w.heap.size < wm.heap.size := by have := HX.out.size; have := HX2.out.size; have := hbm.size; omega
        have hl2 : w.heap.size + 1 < wm.heap.size := by have := HX.out.next; have := HX2.out.size; have := hbm.size; omega
        have hbw : Below w.heap.size w wm := HX.out.below.trans ((HX2.out.below.trans (hbm.mono HX2.out.below.size)).mono HX.out.below.size)
        go_wp2_with fail
        go_ret
        exact ⟨by rw [HE.out]; rfl, hbw⟩
      · have HE : Hid (namedB k nm mr true true = nameB nm) := Lib.hid (by simp [namedB, okName, *])
        clear h5 h10 hm
        obtain ⟨w1, hw1, hX⟩ := boxed w #[.int .i64 k, .string nm, .string mr, .int .i64 it, .int .i64 d, sv] 35
        obtain ⟨w2, hw2, hX2⟩ := boxed w1 #[.bool true, .bool true, .bool b2, .bool b3, .int .i64 ns] 114
        have HW : Hid ((w.alloc (.cells #[.int .i64 k, .string nm, .string mr, .int .i64 it, .int .i64 d, sv] 35)).alloc (.cells #[.bool true, .bool true, .bool b2, .bool b3, .int .i64 ns] 114) = w2) := Lib.hid (by rw [hw1, hw2])
        have HX := Lib.hid hX
        have HX2 := Lib.hid hX2
        clear hX hX2 hw1 hw2
        go_enter Tryz.func99, Tryz.ntmps99
        go_wp2_with fail
        rw [HW.out]
        refine (HMR.out _).mono ?_
        rintro e wm ⟨rfl, hbm⟩
        obtain ⟨c0, c1, c2, c3, c4, c5⟩ := boxed6 HX.out (HX2.out.below.trans (hbm.mono HX2.out.below.size))
        obtain ⟨d0, d1, d2, d3, d4⟩ := boxed5 HX2.out hbm
        rw [HX.out.next] at d0 d1 d2 d3 d4
        have hl1 : w.heap.size < wm.heap.size := by have := HX.out.size; have := HX2.out.size; have := hbm.size; omega
        have hl2 : w.heap.size + 1 < wm.heap.size := by have := HX.out.next; have := HX2.out.size; have := hbm.size; omega
        have hbw : Below w.heap.size w wm := HX.out.below.trans ((HX2.out.below.trans (hbm.mono HX2.out.below.size)).mono HX.out.below.size)
        go_wp2_with (first | (go_at_call 21; refine (rName_any nm _).mono ?_; rintro e w2 ⟨rfl, hb⟩))
        go_ret
        exact ⟨by rw [HE.out]; rfl, (hbw).trans (hb.mono (by first | omega | (simp; done) | (simp; omega)))⟩
end Go.Proofs.YtnphcjpccieljaaGreatDoor
