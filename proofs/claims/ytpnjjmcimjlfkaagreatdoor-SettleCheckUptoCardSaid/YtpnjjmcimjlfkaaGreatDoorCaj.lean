/- Texts of this proof, part 10: what the proof uses of them. -/
import Derived.Test.YtpnjjmcimjlfkaaGreatDoorCai
import Derived.Deep.Light
set_option maxRecDepth 100000
set_option maxHeartbeats 64000000
namespace Go.Proofs.YtpnjjmcimjlfkaaGreatDoor
section
open Go.RowKit
theorem zd {k : IntKind} {a b : Int} (h : a = b) : Ending.returned (.int k a) = .returned (.int k b) := by rw [h]
def zci : List ByteArray := [⟨#[43]⟩, ⟨#[45]⟩, ⟨#[42]⟩, ⟨#[61]⟩, ⟨#[60]⟩]
def zQ (k : Int) (nm : ByteArray) (b0 : Bool) : Bool :=
 if k = 5 then decide (nm.size = 0) || zR nm.data.toList else if k = 10 then zfd zci nm else !b0 || zah nm
def zu (k : Int) (nm mr : ByteArray) (b0 b1 : Bool) : Bool := (!b1 || zah mr) && zQ k nm b0
def zaT (k it d : Int) : Int := if zM k it d then 0 else 2
theorem zaf {s : ByteArray} (h : s.size = 0) : s = ⟨#[]⟩ := by
 apply ByteArray.ext; apply Array.eq_empty_of_size_eq_zero; exact h
theorem zT {s : ByteArray} (h : ¬ s.size = 0) : s.toList.isEmpty = false := by
 rw [List.isEmpty_eq_false_iff, ByteArray.toList_eq]; intro e; apply h
 have : s.data.toList.length = 0 := by rw [e]; rfl
 simpa using this
theorem zif (k : Int) (nm mr : ByteArray) (it d : Int) (sv : Value) (w : World) :
  Calls Tryz.prog 261 #[.agg #[.int .i64 k, .string nm, .string mr, .int .i64 it, .int .i64 d, sv]] w fun e w' => e = .returned (.int .i64 (zaT k it d)) ∧ Below w.heap.size w w' := by
 by_cases h1 : k = 1
 ·subst h1
  skip
  go_enter Tryz.func261, Tryz.ntmps261
  go_wp2_with fail
  all_goals
   go_ret
   refine ⟨?_, (Below.refl _ _).alloc (Nat.le_refl _) _⟩
   first
    | (refine zd (a := 0) ?_; unfold zaT; rw [if_pos]; (go_light; (first | (simp_all [zM]; done) | (simp_all [zM]; omega))))
    | (refine zd (a := 2) ?_; unfold zaT; rw [if_neg]; (go_light; (first | (simp_all [zM]; done) | (simp_all [zM]; omega))))
 by_cases h2 : k = 2
 ·subst h2
  clear h1
  go_enter Tryz.func261, Tryz.ntmps261
  go_wp2_with fail
  all_goals
   go_ret
   refine ⟨?_, (Below.refl _ _).alloc (Nat.le_refl _) _⟩
   first
    | (refine zd (a := 0) ?_; unfold zaT; rw [if_pos]; (go_light; (first | (simp_all [zM]; done) | (simp_all [zM]; omega))))
    | (refine zd (a := 2) ?_; unfold zaT; rw [if_neg]; (go_light; (first | (simp_all [zM]; done) | (simp_all [zM]; omega))))
 by_cases h5 : k = 5
 ·subst h5
  clear h1 h2
  go_enter Tryz.func261, Tryz.ntmps261
  go_wp2_with fail
  all_goals
   go_ret
   refine ⟨?_, (Below.refl _ _).alloc (Nat.le_refl _) _⟩
   first
    | (refine zd (a := 0) ?_; unfold zaT; rw [if_pos]; (go_light; (first | (simp_all [zM]; done) | (simp_all [zM]; omega))))
    | (refine zd (a := 2) ?_; unfold zaT; rw [if_neg]; (go_light; (first | (simp_all [zM]; done) | (simp_all [zM]; omega))))
 by_cases h14 : k = 14
 ·subst h14
  clear h1 h2 h5
  go_enter Tryz.func261, Tryz.ntmps261
  go_wp2_with fail
  all_goals
   go_ret
   refine ⟨?_, (Below.refl _ _).alloc (Nat.le_refl _) _⟩
   first
    | (refine zd (a := 0) ?_; unfold zaT; rw [if_pos]; (go_light; (first | (simp_all [zM]; done) | (simp_all [zM]; omega))))
    | (refine zd (a := 2) ?_; unfold zaT; rw [if_neg]; (go_light; (first | (simp_all [zM]; done) | (simp_all [zM]; omega))))
 have HE : Hid (zM k it d = true) := Lib.hid (by simp [zM, h1, h2, h5, h14])
 have f1 : (k == 1) = false := by simpa using h1
 have f2 : (k == 2) = false := by simpa using h2
 have f3 : (k == 5) = false := by simpa using h5
 have f4 : (k == 14) = false := by simpa using h14
 clear h1 h2 h5 h14
 go_enter Tryz.func261, Tryz.ntmps261
 go_wp2_with fail
 go_ret
 exact ⟨zd (a := 0) (by unfold zaT; rw [HE.out]; rfl), (Below.refl _ _).alloc (Nat.le_refl _) _⟩
theorem zbp {s : ByteArray} {l : List UInt8} (h : ¬ (⟨l.toArray⟩ : ByteArray) = s) : (s.toList == l) = false := by
 have h1 : ¬ s.toList = l := by
  rw [ByteArray.toList_eq]; rintro rfl; exact h rfl
 simpa using h1
theorem zma {s : ByteArray} (h : zfd zbR s = true) : s = ⟨#[99, 97, 115, 101]⟩ ∨ s = ⟨#[99, 104, 97, 110, 99, 101]⟩ ∨ s = ⟨#[99, 111, 110, 102, 108, 105, 99, 116]⟩ ∨ s = ⟨#[101, 108, 115, 101]⟩ ∨ s = ⟨#[102, 97, 108, 115, 101]⟩ ∨ s = ⟨#[102, 108, 97, 107, 121]⟩ ∨ s = ⟨#[102, 117, 110]⟩ ∨ s = ⟨#[105, 102]⟩ ∨ s = ⟨#[105, 110]⟩ ∨ s = ⟨#[108, 101, 116]⟩ ∨ s = ⟨#[110, 105, 108]⟩ ∨ s = ⟨#[111, 102]⟩ ∨ s = ⟨#[112, 117, 98]⟩ ∨ s = ⟨#[116, 101, 115, 116]⟩ ∨ s = ⟨#[116, 104, 101, 110]⟩ ∨ s = ⟨#[116, 114, 117, 101]⟩ ∨ s = ⟨#[117, 115, 101]⟩ := by
 simp only [zfd, zbR, List.any_cons, List.any_nil, Bool.or_false, Bool.or_eq_true, decide_eq_true_eq] at h
 rcases h with h | h | h | h | h | h | h | h | h | h | h | h | h | h | h | h | h <;> subst h <;> simp
theorem zrJ {s : ByteArray} (h : zfd zbR s = false) : (s.toList == [99, 97, 115, 101]) = false ∧ (s.toList == [99, 104, 97, 110, 99, 101]) = false ∧ (s.toList == [99, 111, 110, 102, 108, 105, 99, 116]) = false ∧ (s.toList == [101, 108, 115, 101]) = false ∧ (s.toList == [102, 97, 108, 115, 101]) = false ∧ (s.toList == [102, 108, 97, 107, 121]) = false ∧ (s.toList == [102, 117, 110]) = false ∧ (s.toList == [105, 102]) = false ∧ (s.toList == [105, 110]) = false ∧ (s.toList == [108, 101, 116]) = false ∧ (s.toList == [110, 105, 108]) = false ∧ (s.toList == [111, 102]) = false ∧ (s.toList == [112, 117, 98]) = false ∧ (s.toList == [116, 101, 115, 116]) = false ∧ (s.toList == [116, 104, 101, 110]) = false ∧ (s.toList == [116, 114, 117, 101]) = false ∧ (s.toList == [117, 115, 101]) = false := by
 simp only [zfd, zbR, List.any_cons, List.any_nil, Bool.or_false, Bool.or_eq_false_iff, decide_eq_false_iff_not] at h
 obtain ⟨h0, h1, h2, h3, h4, h5, h6, h7, h8, h9, h10, h11, h12, h13, h14, h15, h16⟩ := h
 exact ⟨zbp h0, zbp h1, zbp h2, zbp h3, zbp h4, zbp h5, zbp h6, zbp h7, zbp h8, zbp h9, zbp h10, zbp h11, zbp h12, zbp h13, zbp h14, zbp h15, zbp h16⟩
theorem zjh (s : ByteArray) (w : World) :
  Calls Tryz.prog 257 #[.string s] w fun e w' => e = .returned (.bool (zah s)) ∧ Below w.heap.size w w' := by
 cases hr : zfd zbR s
 ·obtain ⟨h0, h1, h2, h3, h4, h5, h6, h7, h8, h9, h10, h11, h12, h13, h14, h15, h16⟩ := zrJ hr
  have HE : Hid (zah s = zay 24 s.data.toList) := Lib.hid (by simp [zah, hr])
  clear hr
  go_enter Tryz.func257, Tryz.ntmps257
  go_wp2_with (first | (go_at_call 133; refine (zlq s _).mono ?_; rintro e w' ⟨rfl, hb⟩))
  go_ret
  exact ⟨by rw [HE.out]; rfl, hb⟩
 ·have HE : Hid (zah s = false) := Lib.hid (by simp [zah, hr])
  rcases zma hr with rfl | rfl | rfl | rfl | rfl | rfl | rfl | rfl | rfl | rfl | rfl | rfl | rfl | rfl | rfl | rfl | rfl
  all_goals
   clear hr
   go_enter Tryz.func257, Tryz.ntmps257
   go_wp2_with fail
   go_ret
   exact ⟨by rw [HE.out]; rfl, Below.refl _ _⟩
end
section
open Go.RowKit
theorem zly (w : World) (T : TypeId) (b : Nat) (hb : b = w.heap.size) : zqX (w.alloc (.cells #[.string ⟨#[43]⟩, .string ⟨#[45]⟩, .string ⟨#[42]⟩, .string ⟨#[61]⟩, .string ⟨#[60]⟩] T)) (.slice (some ⟨b, 0, none⟩) 5 5) zci := by
 subst hb; exact zlz w T zci
theorem bcellE {W w1 : World} (hb : Below W.heap.size W w1) : (∀ b o, b < W.heap.size → w1.cell? ⟨b, o, none⟩ = W.cell? ⟨b, o, none⟩) ∧ (∀ b o, b < W.heap.size → w1.frozen? ⟨b, o, none⟩ = W.frozen? ⟨b, o, none⟩) :=
 ⟨fun b o h => hb.cell (p := ⟨b, o, none⟩) h, fun b o h => hb.frozen (p := ⟨b, o, none⟩) h⟩
theorem zul (k : Int) (nm mr : ByteArray) (it d : Int) (sv : Value) (b0 b1 b2 b3 : Bool) (ns : Int) (w : World) :
  Calls Tryz.prog 303 #[.agg #[.int .i64 k, .string nm, .string mr, .int .i64 it, .int .i64 d, sv], .agg #[.bool b0, .bool b1, .bool b2, .bool b3, .int .i64 ns]] w fun e w' => e = .returned (.bool (zu k nm mr b0 b1)) ∧ Below w.heap.size w w' := by
 cases b1
 ·by_cases h5 : k = 5
  ·subst h5
   by_cases hz : nm.size = 0
   ·obtain rfl := zaf hz
    have HE : Hid (zu 5 ⟨#[]⟩ mr b0 false = true) := Lib.hid (by simp [zu, zQ, *])
    clear hz 
    go_enter Tryz.func303, Tryz.ntmps303
    go_wp2_with fail
    go_ret
    exact ⟨by rw [HE.out]; rfl, ((Below.refl _ _).alloc (Nat.le_refl _) _).alloc (by simp) _⟩
   ·have hz1 := zT hz
    have HE : Hid (zu 5 nm mr b0 false = zR nm.data.toList) := Lib.hid (by simp [zu, zQ, *])
    clear hz 
    go_enter Tryz.func303, Tryz.ntmps303
    go_wp2_with (first | (go_at_call 82; refine (zhH nm _).mono ?_; rintro e w2 ⟨rfl, rfl⟩))
    go_ret
    exact ⟨by rw [HE.out]; rfl, ((Below.refl _ _).alloc (Nat.le_refl _) _).alloc (by simp) _⟩
  have e5 : (k == 5) = false := by simpa using h5
  by_cases h10 : k = 10
  ·subst h10
   have HE : Hid (zu 10 nm mr b0 false = zfd zci nm) := Lib.hid (by simp [zu, zQ, *])
   clear h5
   go_enter Tryz.func303, Tryz.ntmps303
   go_wp2_with (first | (go_at_call 228; refine (zmg zci nm _ _ (by decide) (zly _ _ _ (by simp))).mono ?_; rintro e w2 ⟨rfl, rfl⟩))
   go_ret
   exact ⟨by rw [HE.out]; rfl, (((Below.refl _ _).alloc (Nat.le_refl _) _).alloc (by simp) _).alloc (by first | omega | (simp; done) | (simp; omega)) _⟩
  have e10 : (k == 10) = false := by simpa using h10
  cases b0
  ·have HE : Hid (zu k nm mr false false = true) := Lib.hid (by simp [zu, zQ, *])
   clear h5 h10
   go_enter Tryz.func303, Tryz.ntmps303
   go_wp2_with fail
   go_ret
   exact ⟨by rw [HE.out]; rfl, ((Below.refl _ _).alloc (Nat.le_refl _) _).alloc (by simp) _⟩
  ·have HE : Hid (zu k nm mr true false = zah nm) := Lib.hid (by simp [zu, zQ, *])
   clear h5 h10
   go_enter Tryz.func303, Tryz.ntmps303
   go_wp2_with (first | (go_at_call 148; refine (zeR nm _).mono ?_; rintro e w2 ⟨rfl, hb⟩))
   go_ret
   exact ⟨by rw [HE.out]; rfl, (((Below.refl _ _).alloc (Nat.le_refl _) _).alloc (by simp) _).trans (hb.mono (by first | omega | (simp; done) | (simp; omega)))⟩
 ·cases hm : zah mr
  ·have HMR : Hid (∀ W : World, Calls Tryz.prog 148 #[.string mr] W fun e w' => e = .returned (.bool false) ∧ Below W.heap.size W w') := Lib.hid (fun W => by have := zeR mr W; rw [hm] at this; exact this)
   have HE : Hid (zu k nm mr b0 true = false) := Lib.hid (by simp [zu, zQ, *])
   clear hm
   obtain ⟨w1, hw1, hX⟩ := zct w #[.int .i64 k, .string nm, .string mr, .int .i64 it, .int .i64 d, sv] 105
   obtain ⟨w2, hw2, hX2⟩ := zct w1 #[.bool b0, .bool true, .bool b2, .bool b3, .int .i64 ns] 326
   have HW : Hid ((w.alloc (.cells #[.int .i64 k, .string nm, .string mr, .int .i64 it, .int .i64 d, sv] 105)).alloc (.cells #[.bool b0, .bool true, .bool b2, .bool b3, .int .i64 ns] 326) = w2) := Lib.hid (by rw [hw1, hw2])
   have HX := Lib.hid hX
   have HX2 := Lib.hid hX2
   clear hX hX2 hw1 hw2
   go_enter Tryz.func303, Tryz.ntmps303
   go_wp2_with fail
   rw [HW.out]
   refine (HMR.out _).mono ?_
   rintro e wm ⟨rfl, hbm⟩
   obtain ⟨c0, c1, c2, c3, c4, c5⟩ := zdt HX.out (HX2.out.below.trans (hbm.mono HX2.out.below.size))
   obtain ⟨d0, d1, d2, d3, d4⟩ := zjP HX2.out hbm
   rw [HX.out.next] at d0 d1 d2 d3 d4
   have hl1 : w.heap.size < wm.heap.size := by have := HX.out.size; have := HX2.out.size; have := hbm.size; omega
   have hl2 : w.heap.size + 1 < wm.heap.size := by have := HX.out.next; have := HX2.out.size; have := hbm.size; omega
   have hbw : Below w.heap.size w wm := HX.out.below.trans ((HX2.out.below.trans (hbm.mono HX2.out.below.size)).mono HX.out.below.size)
   go_wp2_with fail
   go_ret
   exact ⟨by rw [HE.out]; rfl, hbw⟩
  ·have HMR : Hid (∀ W : World, Calls Tryz.prog 148 #[.string mr] W fun e w' => e = .returned (.bool true) ∧ Below W.heap.size W w') := Lib.hid (fun W => by have := zeR mr W; rw [hm] at this; exact this)
   by_cases h5 : k = 5
   ·subst h5
    by_cases hz : nm.size = 0
    ·obtain rfl := zaf hz
     have HE : Hid (zu 5 ⟨#[]⟩ mr b0 true = true) := Lib.hid (by simp [zu, zQ, *])
     clear hz hm
     obtain ⟨w1, hw1, hX⟩ := zct w #[.int .i64 5, .string ⟨#[]⟩, .string mr, .int .i64 it, .int .i64 d, sv] 105
     obtain ⟨w2, hw2, hX2⟩ := zct w1 #[.bool b0, .bool true, .bool b2, .bool b3, .int .i64 ns] 326
     have HW : Hid ((w.alloc (.cells #[.int .i64 5, .string ⟨#[]⟩, .string mr, .int .i64 it, .int .i64 d, sv] 105)).alloc (.cells #[.bool b0, .bool true, .bool b2, .bool b3, .int .i64 ns] 326) = w2) := Lib.hid (by rw [hw1, hw2])
     have HX := Lib.hid hX
     have HX2 := Lib.hid hX2
     clear hX hX2 hw1 hw2
     go_enter Tryz.func303, Tryz.ntmps303
     go_wp2_with fail
     rw [HW.out]
     refine (HMR.out _).mono ?_
     rintro e wm ⟨rfl, hbm⟩
     obtain ⟨c0, c1, c2, c3, c4, c5⟩ := zdt HX.out (HX2.out.below.trans (hbm.mono HX2.out.below.size))
     obtain ⟨d0, d1, d2, d3, d4⟩ := zjP HX2.out hbm
     rw [HX.out.next] at d0 d1 d2 d3 d4
     have hl1 : w.heap.size < wm.heap.size := by have := HX.out.size; have := HX2.out.size; have := hbm.size; omega
     have hl2 : w.heap.size + 1 < wm.heap.size := by have := HX.out.next; have := HX2.out.size; have := hbm.size; omega
     have hbw : Below w.heap.size w wm := HX.out.below.trans ((HX2.out.below.trans (hbm.mono HX2.out.below.size)).mono HX.out.below.size)
     go_wp2_with fail
     go_ret
     exact ⟨by rw [HE.out]; rfl, hbw⟩
    ·have hz1 := zT hz
     have HE : Hid (zu 5 nm mr b0 true = zR nm.data.toList) := Lib.hid (by simp [zu, zQ, *])
     clear hz hm
     obtain ⟨w1, hw1, hX⟩ := zct w #[.int .i64 5, .string nm, .string mr, .int .i64 it, .int .i64 d, sv] 105
     obtain ⟨w2, hw2, hX2⟩ := zct w1 #[.bool b0, .bool true, .bool b2, .bool b3, .int .i64 ns] 326
     have HW : Hid ((w.alloc (.cells #[.int .i64 5, .string nm, .string mr, .int .i64 it, .int .i64 d, sv] 105)).alloc (.cells #[.bool b0, .bool true, .bool b2, .bool b3, .int .i64 ns] 326) = w2) := Lib.hid (by rw [hw1, hw2])
     have HX := Lib.hid hX
     have HX2 := Lib.hid hX2
     clear hX hX2 hw1 hw2
     go_enter Tryz.func303, Tryz.ntmps303
     go_wp2_with fail
     rw [HW.out]
     refine (HMR.out _).mono ?_
     rintro e wm ⟨rfl, hbm⟩
     obtain ⟨c0, c1, c2, c3, c4, c5⟩ := zdt HX.out (HX2.out.below.trans (hbm.mono HX2.out.below.size))
     obtain ⟨d0, d1, d2, d3, d4⟩ := zjP HX2.out hbm
     rw [HX.out.next] at d0 d1 d2 d3 d4
     have hl1 : w.heap.size < wm.heap.size := by have := HX.out.size; have := HX2.out.size; have := hbm.size; omega
     have hl2 : w.heap.size + 1 < wm.heap.size := by have := HX.out.next; have := HX2.out.size; have := hbm.size; omega
     have hbw : Below w.heap.size w wm := HX.out.below.trans ((HX2.out.below.trans (hbm.mono HX2.out.below.size)).mono HX.out.below.size)
     go_wp2_with (first | (go_at_call 82; refine (zhH nm _).mono ?_; rintro e w2 ⟨rfl, rfl⟩))
     go_ret
     exact ⟨by rw [HE.out]; rfl, hbw⟩
   have e5 : (k == 5) = false := by simpa using h5
   by_cases h10 : k = 10
   ·subst h10
    have HE : Hid (zu 10 nm mr b0 true = zfd zci nm) := Lib.hid (by simp [zu, zQ, *])
    clear h5 hm
    obtain ⟨w1, hw1, hX⟩ := zct w #[.int .i64 10, .string nm, .string mr, .int .i64 it, .int .i64 d, sv] 105
    obtain ⟨w2, hw2, hX2⟩ := zct w1 #[.bool b0, .bool true, .bool b2, .bool b3, .int .i64 ns] 326
    have HW : Hid ((w.alloc (.cells #[.int .i64 10, .string nm, .string mr, .int .i64 it, .int .i64 d, sv] 105)).alloc (.cells #[.bool b0, .bool true, .bool b2, .bool b3, .int .i64 ns] 326) = w2) := Lib.hid (by rw [hw1, hw2])
    have HX := Lib.hid hX
    have HX2 := Lib.hid hX2
    clear hX hX2 hw1 hw2
    go_enter Tryz.func303, Tryz.ntmps303
    go_wp2_with fail
    rw [HW.out]
    refine (HMR.out _).mono ?_
    rintro e wm ⟨rfl, hbm⟩
    obtain ⟨c0, c1, c2, c3, c4, c5⟩ := zdt HX.out (HX2.out.below.trans (hbm.mono HX2.out.below.size))
    obtain ⟨d0, d1, d2, d3, d4⟩ := zjP HX2.out hbm
    rw [HX.out.next] at d0 d1 d2 d3 d4
    have hl1 : w.heap.size < wm.heap.size := by have := HX.out.size; have := HX2.out.size; have := hbm.size; omega
    have hl2 : w.heap.size + 1 < wm.heap.size := by have := HX.out.next; have := HX2.out.size; have := hbm.size; omega
    have hbw : Below w.heap.size w wm := HX.out.below.trans ((HX2.out.below.trans (hbm.mono HX2.out.below.size)).mono HX.out.below.size)
    go_wp2_with (first | (go_at_call 228; refine (zmg zci nm _ _ (by decide) (zly _ _ _ (by simp))).mono ?_; rintro e w2 ⟨rfl, rfl⟩))
    go_ret
    exact ⟨by rw [HE.out]; rfl, (hbw).alloc (by first | omega | (simp; done) | (simp; omega)) _⟩
   have e10 : (k == 10) = false := by simpa using h10
   cases b0
   ·have HE : Hid (zu k nm mr false true = true) := Lib.hid (by simp [zu, zQ, *])
    clear h5 h10 hm
    obtain ⟨w1, hw1, hX⟩ := zct w #[.int .i64 k, .string nm, .string mr, .int .i64 it, .int .i64 d, sv] 105
    obtain ⟨w2, hw2, hX2⟩ := zct w1 #[.bool false, .bool true, .bool b2, .bool b3, .int .i64 ns] 326
    have HW : Hid ((w.alloc (.cells #[.int .i64 k, .string nm, .string mr, .int .i64 it, .int .i64 d, sv] 105)).alloc (.cells #[.bool false, .bool true, .bool b2, .bool b3, .int .i64 ns] 326) = w2) := Lib.hid (by rw [hw1, hw2])
    have HX := Lib.hid hX
    have HX2 := Lib.hid hX2
    clear hX hX2 hw1 hw2
    go_enter Tryz.func303, Tryz.ntmps303
    go_wp2_with fail
    rw [HW.out]
    refine (HMR.out _).mono ?_
    rintro e wm ⟨rfl, hbm⟩
    obtain ⟨c0, c1, c2, c3, c4, c5⟩ := zdt HX.out (HX2.out.below.trans (hbm.mono HX2.out.below.size))
    obtain ⟨d0, d1, d2, d3, d4⟩ := zjP HX2.out hbm
    rw [HX.out.next] at d0 d1 d2 d3 d4
    have hl1 : w.heap.size < wm.heap.size := by have := HX.out.size; have := HX2.out.size; have := hbm.size; omega
    have hl2 : w.heap.size + 1 < wm.heap.size := by have := HX.out.next; have := HX2.out.size; have := hbm.size; omega
    have hbw : Below w.heap.size w wm := HX.out.below.trans ((HX2.out.below.trans (hbm.mono HX2.out.below.size)).mono HX.out.below.size)
    go_wp2_with fail
    go_ret
    exact ⟨by rw [HE.out]; rfl, hbw⟩
   ·have HE : Hid (zu k nm mr true true = zah nm) := Lib.hid (by simp [zu, zQ, *])
    clear h5 h10 hm
    obtain ⟨w1, hw1, hX⟩ := zct w #[.int .i64 k, .string nm, .string mr, .int .i64 it, .int .i64 d, sv] 105
    obtain ⟨w2, hw2, hX2⟩ := zct w1 #[.bool true, .bool true, .bool b2, .bool b3, .int .i64 ns] 326
    have HW : Hid ((w.alloc (.cells #[.int .i64 k, .string nm, .string mr, .int .i64 it, .int .i64 d, sv] 105)).alloc (.cells #[.bool true, .bool true, .bool b2, .bool b3, .int .i64 ns] 326) = w2) := Lib.hid (by rw [hw1, hw2])
    have HX := Lib.hid hX
    have HX2 := Lib.hid hX2
    clear hX hX2 hw1 hw2
    go_enter Tryz.func303, Tryz.ntmps303
    go_wp2_with fail
    rw [HW.out]
    refine (HMR.out _).mono ?_
    rintro e wm ⟨rfl, hbm⟩
    obtain ⟨c0, c1, c2, c3, c4, c5⟩ := zdt HX.out (HX2.out.below.trans (hbm.mono HX2.out.below.size))
    obtain ⟨d0, d1, d2, d3, d4⟩ := zjP HX2.out hbm
    rw [HX.out.next] at d0 d1 d2 d3 d4
    have hl1 : w.heap.size < wm.heap.size := by have := HX.out.size; have := HX2.out.size; have := hbm.size; omega
    have hl2 : w.heap.size + 1 < wm.heap.size := by have := HX.out.next; have := HX2.out.size; have := hbm.size; omega
    have hbw : Below w.heap.size w wm := HX.out.below.trans ((HX2.out.below.trans (hbm.mono HX2.out.below.size)).mono HX.out.below.size)
    go_wp2_with (first | (go_at_call 148; refine (zeR nm _).mono ?_; rintro e w2 ⟨rfl, hb⟩))
    go_ret
    exact ⟨by rw [HE.out]; rfl, (hbw).trans (hb.mono (by first | omega | (simp; done) | (simp; omega)))⟩
end
section
open Go.RowKit
def zg (k : Int) (nm mr : ByteArray) (b0 b1 : Bool) : Int := if zu k nm mr b0 b1 then (if k = 13 ∧ nm = mr then 7 else 0) else 6
theorem zzz {s : ByteArray} (h : s.size = 1) : ∃ c : UInt8, s = ⟨#[c]⟩ := by
 obtain ⟨d⟩ := s
 obtain ⟨l⟩ := d
 match l, h with
 | [c], _ => exact ⟨c, rfl⟩
theorem zzu {s : ByteArray} (h : ¬ s.size = 1) : zfd zci s = false := by
 refine zwu fun i hi e => h ?_
 simp only [zci, List.length_cons, List.length_nil] at hi
 have : i = 0 ∨ i = 1 ∨ i = 2 ∨ i = 3 ∨ i = 4 := by omega
 rcases this with rfl | rfl | rfl | rfl | rfl <;> (rw [← e]; rfl)
theorem zxI (c : UInt8) : decide ((0 : Int) ≤ Lib.indexByte [43, 45, 42, 61, 60] c) = zfd zci ⟨#[c]⟩ := by
 have e : ∀ x : UInt8, decide ((⟨#[x]⟩ : ByteArray) = ⟨#[c]⟩) = decide (x = c) := fun x => by
  rw [decide_eq_decide]; constructor
  ·intro h; injection h with h; injection h with h; injection h
  ·rintro rfl; rfl
 simp only [zfd, zci, List.any_cons, List.any_nil, e, Bool.or_false]
 simp only [Lib.indexByte]
 by_cases e1 : (43 : UInt8) = c
 ·subst e1; decide
 by_cases e2 : (45 : UInt8) = c
 ·subst e2; decide
 by_cases e3 : (42 : UInt8) = c
 ·subst e3; decide
 by_cases e4 : (61 : UInt8) = c
 ·subst e4; decide
 by_cases e5 : (60 : UInt8) = c
 ·subst e5; decide
 simp [e1, e2, e3, e4, e5]
theorem zkR (k : Int) (nn nu ns : Nat) (nm mr : ByteArray) (it d : Int) (sv : Value) (w : World) (hsh : zap k = some (nn, nu, ns)) :
  Calls Tryz.prog 260 #[.agg #[.int .i64 k, .string nm, .string mr, .int .i64 it, .int .i64 d, sv], .int .i64 nn] w fun e w' => e = .returned (.int .i64 (zg k nm mr (decide (1 ≤ nn)) (decide (2 ≤ nn)))) ∧ Below w.heap.size w w' := by
 have HNM := Lib.hid (fun W => zjh nm W)
 have HMR := Lib.hid (fun W => zjh mr W)
 have HLB := Lib.hid (fun W => zoV nm W)
 rcases zcg hsh with ⟨rfl, e⟩ | ⟨rfl, e⟩ | ⟨rfl, e⟩ | ⟨rfl, e⟩ | ⟨rfl, e⟩ | ⟨rfl, e⟩ | ⟨rfl, e⟩ | ⟨rfl, e⟩ | ⟨rfl, e⟩ | ⟨rfl, e⟩ | ⟨rfl, e⟩ | ⟨rfl, e⟩ | ⟨rfl, e⟩ | ⟨rfl, e⟩ | ⟨rfl, e⟩
 ·cases e
  have HE : Hid (zg 1 nm mr false false = 0) := Lib.hid (by simp [zg, zu, zQ, ])
  clear  hsh
  have tok1 : True := trivial
  go_enter Tryz.func260, Tryz.ntmps260
  go_wp2_with fail
  go_ret
  exact ⟨zd (a := 0) HE.out.symm, (Below.refl _ _).alloc (Nat.le_refl _) _⟩
 ·cases e
  have HE : Hid (zg 2 nm mr false false = 0) := Lib.hid (by simp [zg, zu, zQ, ])
  clear  hsh
  have tok1 : True := trivial
  go_enter Tryz.func260, Tryz.ntmps260
  go_wp2_with fail
  go_ret
  exact ⟨zd (a := 0) HE.out.symm, (Below.refl _ _).alloc (Nat.le_refl _) _⟩
 ·cases e
  cases hn : zah nm
  ·rw [hn] at HNM
   have HE : Hid (zg 3 nm mr true false = 6) := Lib.hid (by simp [zg, zu, zQ, hn])
   clear hn hsh
   have tok1 : True := trivial
   go_enter Tryz.func260, Tryz.ntmps260
   go_wp2_with (first | ((go_at_call 257); have _t := tok1; (with_reducible refine (HNM.out _).mono ?_); rintro e wn ⟨rfl, hbn⟩; clear tok1 _t; obtain ⟨hcn, hfn⟩ := bcellE hbn; have hln : w.heap.size < wn.heap.size := by (have hzz := hbn.size; simp at hzz; omega)))
   go_ret
   exact ⟨zd (a := 6) HE.out.symm, ((Below.refl _ _).alloc (Nat.le_refl _) _).trans (hbn.mono (by first | omega | (simp; done) | (simp; omega)))⟩
  ·rw [hn] at HNM
   have HE : Hid (zg 3 nm mr true false = 0) := Lib.hid (by simp [zg, zu, zQ, hn])
   clear hn hsh
   have tok1 : True := trivial
   go_enter Tryz.func260, Tryz.ntmps260
   go_wp2_with (first | ((go_at_call 257); have _t := tok1; (with_reducible refine (HNM.out _).mono ?_); rintro e wn ⟨rfl, hbn⟩; clear tok1 _t; obtain ⟨hcn, hfn⟩ := bcellE hbn; have hln : w.heap.size < wn.heap.size := by (have hzz := hbn.size; simp at hzz; omega)))
   go_ret
   exact ⟨zd (a := 0) HE.out.symm, ((Below.refl _ _).alloc (Nat.le_refl _) _).trans (hbn.mono (by first | omega | (simp; done) | (simp; omega)))⟩
 ·cases e
  cases hn : zah nm
  ·rw [hn] at HNM
   have HE : Hid (zg 4 nm mr true true = 6) := Lib.hid (by simp [zg, zu, zQ, hn])
   clear hn hsh
   have tok1 : True := trivial
   go_enter Tryz.func260, Tryz.ntmps260
   go_wp2_with (first | ((go_at_call 257); have _t := tok1; (with_reducible refine (HNM.out _).mono ?_); rintro e wn ⟨rfl, hbn⟩; clear tok1 _t; obtain ⟨hcn, hfn⟩ := bcellE hbn; have hln : w.heap.size < wn.heap.size := by (have hzz := hbn.size; simp at hzz; omega)))
   go_ret
   exact ⟨zd (a := 6) HE.out.symm, ((Below.refl _ _).alloc (Nat.le_refl _) _).trans (hbn.mono (by first | omega | (simp; done) | (simp; omega)))⟩
  ·rw [hn] at HNM
   cases hm : zah mr
   ·rw [hm] at HMR
    have HE : Hid (zg 4 nm mr true true = 6) := Lib.hid (by simp [zg, zu, zQ, hn, hm])
    clear hn hm hsh
    have tok1 : True := trivial
    go_enter Tryz.func260, Tryz.ntmps260
    go_wp2_with (first | ((go_at_call 257); have _t := tok1; (with_reducible refine (HNM.out _).mono ?_); rintro e wn ⟨rfl, hbn⟩; clear tok1 _t; obtain ⟨hcn, hfn⟩ := bcellE hbn; have hln : w.heap.size < wn.heap.size := by (have hzz := hbn.size; simp at hzz; omega)) | ((go_at_call 257); (with_reducible refine (HMR.out _).mono ?_); rintro e wm ⟨rfl, hbm⟩; obtain ⟨hcm, hfm⟩ := bcellE hbm))
    go_ret
    exact ⟨zd (a := 6) HE.out.symm, (((Below.refl _ _).alloc (Nat.le_refl _) _).trans (hbn.mono (by first | omega | (simp; done) | (simp; omega)))).trans (hbm.mono (by have := hbn.size; simp at this; omega))⟩
   ·rw [hm] at HMR
    have HE : Hid (zg 4 nm mr true true = 0) := Lib.hid (by simp [zg, zu, zQ, hn, hm])
    clear hn hm hsh
    have tok1 : True := trivial
    go_enter Tryz.func260, Tryz.ntmps260
    go_wp2_with (first | ((go_at_call 257); have _t := tok1; (with_reducible refine (HNM.out _).mono ?_); rintro e wn ⟨rfl, hbn⟩; clear tok1 _t; obtain ⟨hcn, hfn⟩ := bcellE hbn; have hln : w.heap.size < wn.heap.size := by (have hzz := hbn.size; simp at hzz; omega)) | ((go_at_call 257); (with_reducible refine (HMR.out _).mono ?_); rintro e wm ⟨rfl, hbm⟩; obtain ⟨hcm, hfm⟩ := bcellE hbm))
    go_ret
    exact ⟨zd (a := 0) HE.out.symm, (((Below.refl _ _).alloc (Nat.le_refl _) _).trans (hbn.mono (by first | omega | (simp; done) | (simp; omega)))).trans (hbm.mono (by have := hbn.size; simp at this; omega))⟩
 ·cases e
  by_cases hz : nm.size = 0
  ·obtain rfl := zaf hz
   have HE : Hid (zg 5 ⟨#[]⟩ mr true false = 0) := Lib.hid rfl
   clear hz HNM HLB hsh
   have tok1 : True := trivial
   go_enter Tryz.func260, Tryz.ntmps260
   go_wp2_with fail
   go_ret
   exact ⟨zd (a := 0) HE.out.symm, (Below.refl _ _).alloc (Nat.le_refl _) _⟩
  ·have hz1 := zT hz
   cases hl : zR nm.data.toList
   ·rw [hl] at HLB
    have HE : Hid (zg 5 nm mr true false = 6) := Lib.hid (by simp [zg, zu, zQ, hl, hz])
    clear hl hz hsh
    have tok1 : True := trivial
    go_enter Tryz.func260, Tryz.ntmps260
    go_wp2_with (first | ((go_at_call 67); (with_reducible refine (HLB.out _).mono ?_); rintro e wn ⟨rfl, hbn⟩; obtain ⟨hcn, hfn⟩ := bcellE hbn))
    go_ret
    exact ⟨zd (a := 6) HE.out.symm, ((Below.refl _ _).alloc (Nat.le_refl _) _).trans (hbn.mono (by first | omega | (simp; done) | (simp; omega)))⟩
   ·rw [hl] at HLB
    have HE : Hid (zg 5 nm mr true false = 0) := Lib.hid (by simp [zg, zu, zQ, hl])
    clear hl hz hsh
    have tok1 : True := trivial
    go_enter Tryz.func260, Tryz.ntmps260
    go_wp2_with (first | ((go_at_call 67); (with_reducible refine (HLB.out _).mono ?_); rintro e wn ⟨rfl, hbn⟩; obtain ⟨hcn, hfn⟩ := bcellE hbn))
    go_ret
    exact ⟨zd (a := 0) HE.out.symm, ((Below.refl _ _).alloc (Nat.le_refl _) _).trans (hbn.mono (by first | omega | (simp; done) | (simp; omega)))⟩
 ·cases e
  cases hn : zah nm
  ·rw [hn] at HNM
   have HE : Hid (zg 6 nm mr true false = 6) := Lib.hid (by simp [zg, zu, zQ, hn])
   clear hn hsh
   have tok1 : True := trivial
   go_enter Tryz.func260, Tryz.ntmps260
   go_wp2_with (first | ((go_at_call 257); have _t := tok1; (with_reducible refine (HNM.out _).mono ?_); rintro e wn ⟨rfl, hbn⟩; clear tok1 _t; obtain ⟨hcn, hfn⟩ := bcellE hbn; have hln : w.heap.size < wn.heap.size := by (have hzz := hbn.size; simp at hzz; omega)))
   go_ret
   exact ⟨zd (a := 6) HE.out.symm, ((Below.refl _ _).alloc (Nat.le_refl _) _).trans (hbn.mono (by first | omega | (simp; done) | (simp; omega)))⟩
  ·rw [hn] at HNM
   have HE : Hid (zg 6 nm mr true false = 0) := Lib.hid (by simp [zg, zu, zQ, hn])
   clear hn hsh
   have tok1 : True := trivial
   go_enter Tryz.func260, Tryz.ntmps260
   go_wp2_with (first | ((go_at_call 257); have _t := tok1; (with_reducible refine (HNM.out _).mono ?_); rintro e wn ⟨rfl, hbn⟩; clear tok1 _t; obtain ⟨hcn, hfn⟩ := bcellE hbn; have hln : w.heap.size < wn.heap.size := by (have hzz := hbn.size; simp at hzz; omega)))
   go_ret
   exact ⟨zd (a := 0) HE.out.symm, ((Below.refl _ _).alloc (Nat.le_refl _) _).trans (hbn.mono (by first | omega | (simp; done) | (simp; omega)))⟩
 ·cases e
  have HE : Hid (zg 7 nm mr false false = 0) := Lib.hid (by simp [zg, zu, zQ, ])
  clear  hsh
  have tok1 : True := trivial
  go_enter Tryz.func260, Tryz.ntmps260
  go_wp2_with fail
  go_ret
  exact ⟨zd (a := 0) HE.out.symm, (Below.refl _ _).alloc (Nat.le_refl _) _⟩
 ·cases e
  cases hn : zah nm
  ·rw [hn] at HNM
   have HE : Hid (zg 8 nm mr true false = 6) := Lib.hid (by simp [zg, zu, zQ, hn])
   clear hn hsh
   have tok1 : True := trivial
   go_enter Tryz.func260, Tryz.ntmps260
   go_wp2_with (first | ((go_at_call 257); have _t := tok1; (with_reducible refine (HNM.out _).mono ?_); rintro e wn ⟨rfl, hbn⟩; clear tok1 _t; obtain ⟨hcn, hfn⟩ := bcellE hbn; have hln : w.heap.size < wn.heap.size := by (have hzz := hbn.size; simp at hzz; omega)))
   go_ret
   exact ⟨zd (a := 6) HE.out.symm, ((Below.refl _ _).alloc (Nat.le_refl _) _).trans (hbn.mono (by first | omega | (simp; done) | (simp; omega)))⟩
  ·rw [hn] at HNM
   have HE : Hid (zg 8 nm mr true false = 0) := Lib.hid (by simp [zg, zu, zQ, hn])
   clear hn hsh
   have tok1 : True := trivial
   go_enter Tryz.func260, Tryz.ntmps260
   go_wp2_with (first | ((go_at_call 257); have _t := tok1; (with_reducible refine (HNM.out _).mono ?_); rintro e wn ⟨rfl, hbn⟩; clear tok1 _t; obtain ⟨hcn, hfn⟩ := bcellE hbn; have hln : w.heap.size < wn.heap.size := by (have hzz := hbn.size; simp at hzz; omega)))
   go_ret
   exact ⟨zd (a := 0) HE.out.symm, ((Below.refl _ _).alloc (Nat.le_refl _) _).trans (hbn.mono (by first | omega | (simp; done) | (simp; omega)))⟩
 ·cases e
  have HE : Hid (zg 9 nm mr false false = 0) := Lib.hid (by simp [zg, zu, zQ, ])
  clear  hsh
  have tok1 : True := trivial
  go_enter Tryz.func260, Tryz.ntmps260
  go_wp2_with fail
  go_ret
  exact ⟨zd (a := 0) HE.out.symm, (Below.refl _ _).alloc (Nat.le_refl _) _⟩
 ·cases e
  by_cases hz : nm.size = 1
  ·obtain ⟨c, rfl⟩ := zzz hz
   have HCT : Hid (∀ W : World, Calls Tryz.prog 289 #[.string ⟨#[43, 45, 42, 61, 60]⟩, .string ⟨#[c]⟩] W fun e w' => e = .returned (.bool (zfd zci ⟨#[c]⟩)) ∧ W = w') := Lib.hid (fun W => by have := zqJ ⟨#[43, 45, 42, 61, 60]⟩ c W; rw [zxI] at this; exact this)
   cases hl : zfd zci ⟨#[c]⟩
   ·rw [hl] at HCT
    have HE : Hid (zg 10 ⟨#[c]⟩ mr true false = 6) := Lib.hid (by simp [zg, zu, zQ, hl])
    clear hl hz HNM HLB hsh
    have tok1 : True := trivial
    go_enter Tryz.func260, Tryz.ntmps260
    go_wp2_with (first | ((go_at_call 289); refine (HCT.out _).mono ?_; rintro e wn ⟨rfl, rfl⟩))
    go_ret
    exact ⟨zd (a := 6) HE.out.symm, (Below.refl _ _).alloc (Nat.le_refl _) _⟩
   ·rw [hl] at HCT
    have HE : Hid (zg 10 ⟨#[c]⟩ mr true false = 0) := Lib.hid (by simp [zg, zu, zQ, hl])
    clear hl hz HNM HLB hsh
    have tok1 : True := trivial
    go_enter Tryz.func260, Tryz.ntmps260
    go_wp2_with (first | ((go_at_call 289); refine (HCT.out _).mono ?_; rintro e wn ⟨rfl, rfl⟩))
    go_ret
    exact ⟨zd (a := 0) HE.out.symm, (Below.refl _ _).alloc (Nat.le_refl _) _⟩
  ·have hz1 : ((nm.size : Int) == 1) = false := by simp; omega
   have hz2 : (nm.size == 1) = false := by simpa using hz
   have HE : Hid (zg 10 nm mr true false = 6) := Lib.hid (by simp [zg, zu, zQ, zzu hz])
   clear hz hsh
   have tok1 : True := trivial
   go_enter Tryz.func260, Tryz.ntmps260
   go_wp2_with fail
   go_ret
   exact ⟨zd (a := 6) HE.out.symm, (Below.refl _ _).alloc (Nat.le_refl _) _⟩
 ·cases e
  have HE : Hid (zg 11 nm mr false false = 0) := Lib.hid (by simp [zg, zu, zQ, ])
  clear  hsh
  have tok1 : True := trivial
  go_enter Tryz.func260, Tryz.ntmps260
  go_wp2_with fail
  go_ret
  exact ⟨zd (a := 0) HE.out.symm, (Below.refl _ _).alloc (Nat.le_refl _) _⟩
 ·cases e
  have HE : Hid (zg 12 nm mr false false = 0) := Lib.hid (by simp [zg, zu, zQ, ])
  clear  hsh
  have tok1 : True := trivial
  go_enter Tryz.func260, Tryz.ntmps260
  go_wp2_with fail
  go_ret
  exact ⟨zd (a := 0) HE.out.symm, (Below.refl _ _).alloc (Nat.le_refl _) _⟩
 ·cases e
  cases hn : zah nm
  ·rw [hn] at HNM
   have HE : Hid (zg 13 nm mr true true = 6) := Lib.hid (by simp [zg, zu, zQ, hn])
   clear hn hsh
   have tok1 : True := trivial
   go_enter Tryz.func260, Tryz.ntmps260
   go_wp2_with (first | ((go_at_call 257); have _t := tok1; (with_reducible refine (HNM.out _).mono ?_); rintro e wn ⟨rfl, hbn⟩; clear tok1 _t; obtain ⟨hcn, hfn⟩ := bcellE hbn; have hln : w.heap.size < wn.heap.size := by (have hzz := hbn.size; simp at hzz; omega)))
   go_ret
   exact ⟨zd (a := 6) HE.out.symm, ((Below.refl _ _).alloc (Nat.le_refl _) _).trans (hbn.mono (by first | omega | (simp; done) | (simp; omega)))⟩
  ·rw [hn] at HNM
   cases hm : zah mr
   ·rw [hm] at HMR
    have HE : Hid (zg 13 nm mr true true = 6) := Lib.hid (by simp [zg, zu, zQ, hn, hm])
    clear hn hm hsh
    have tok1 : True := trivial
    go_enter Tryz.func260, Tryz.ntmps260
    go_wp2_with (first | ((go_at_call 257); have _t := tok1; (with_reducible refine (HNM.out _).mono ?_); rintro e wn ⟨rfl, hbn⟩; clear tok1 _t; obtain ⟨hcn, hfn⟩ := bcellE hbn; have hln : w.heap.size < wn.heap.size := by (have hzz := hbn.size; simp at hzz; omega)) | ((go_at_call 257); (with_reducible refine (HMR.out _).mono ?_); rintro e wm ⟨rfl, hbm⟩; obtain ⟨hcm, hfm⟩ := bcellE hbm))
    go_ret
    exact ⟨zd (a := 6) HE.out.symm, (((Below.refl _ _).alloc (Nat.le_refl _) _).trans (hbn.mono (by first | omega | (simp; done) | (simp; omega)))).trans (hbm.mono (by have := hbn.size; simp at this; omega))⟩
   ·rw [hm] at HMR
    by_cases hq : nm = mr
    ·subst hq
     have HE : Hid (zg 13 nm nm true true = 7) := Lib.hid (by simp [zg, zu, zQ, hn])
     clear hn hm HMR hsh
     have tok1 : True := trivial
     go_enter Tryz.func260, Tryz.ntmps260
     go_wp2_with (first | ((go_at_call 257); have _t := tok1; (with_reducible refine (HNM.out _).mono ?_); rintro e wn ⟨rfl, hbn⟩; clear tok1 _t; obtain ⟨hcn, hfn⟩ := bcellE hbn; have hln : w.heap.size < wn.heap.size := by (have hzz := hbn.size; simp at hzz; omega)) | ((go_at_call 257); (with_reducible refine (HNM.out _).mono ?_); rintro e wm ⟨rfl, hbm⟩; obtain ⟨hcm, hfm⟩ := bcellE hbm))
     go_ret
     exact ⟨zd (a := 7) HE.out.symm, (((Below.refl _ _).alloc (Nat.le_refl _) _).trans (hbn.mono (by first | omega | (simp; done) | (simp; omega)))).trans (hbm.mono (by have := hbn.size; simp at this; omega))⟩
    ·have hq1 : (nm.toList == mr.toList) = false := (Lib.bytes_beq_false_iff _ _).2 hq
     have HE : Hid (zg 13 nm mr true true = 0) := Lib.hid (by simp [zg, zu, zQ, hn, hm, hq])
     clear hn hm hq hsh
     have tok1 : True := trivial
     go_enter Tryz.func260, Tryz.ntmps260
     go_wp2_with (first | ((go_at_call 257); have _t := tok1; (with_reducible refine (HNM.out _).mono ?_); rintro e wn ⟨rfl, hbn⟩; clear tok1 _t; obtain ⟨hcn, hfn⟩ := bcellE hbn; have hln : w.heap.size < wn.heap.size := by (have hzz := hbn.size; simp at hzz; omega)) | ((go_at_call 257); (with_reducible refine (HMR.out _).mono ?_); rintro e wm ⟨rfl, hbm⟩; obtain ⟨hcm, hfm⟩ := bcellE hbm))
     go_ret
     exact ⟨zd (a := 0) HE.out.symm, (((Below.refl _ _).alloc (Nat.le_refl _) _).trans (hbn.mono (by first | omega | (simp; done) | (simp; omega)))).trans (hbm.mono (by have := hbn.size; simp at this; omega))⟩
 ·cases e
  have HE : Hid (zg 14 nm mr false false = 0) := Lib.hid (by simp [zg, zu, zQ, ])
  clear  hsh
  have tok1 : True := trivial
  go_enter Tryz.func260, Tryz.ntmps260
  go_wp2_with fail
  go_ret
  exact ⟨zd (a := 0) HE.out.symm, (Below.refl _ _).alloc (Nat.le_refl _) _⟩
 ·cases e
  have HE : Hid (zg 15 nm mr false false = 0) := Lib.hid (by simp [zg, zu, zQ, ])
  clear  hsh
  have tok1 : True := trivial
  go_enter Tryz.func260, Tryz.ntmps260
  go_wp2_with fail
  go_ret
  exact ⟨zd (a := 0) HE.out.symm, (Below.refl _ _).alloc (Nat.le_refl _) _⟩
end
section
open Go.RowKit
def zF (nn nu ns : Nat) (nm mr : ByteArray) (it d : Int) (len : Nat) : Bool :=
 (decide (1 ≤ nn) || decide (nm.size = 0)) && (decide (2 ≤ nn) || decide (mr.size = 0)) && (decide (1 ≤ nu) || decide (it = 0)) && (decide (2 ≤ nu) || decide (d = 0)) && decide (len = ns)
def zaJ (k : Int) (nm mr : ByteArray) (it d : Int) (len : Nat) : Int :=
 match zap k with
 | none => 9
 | some (nn, nu, ns) => if zF nn nu ns nm mr it d len then (if zg k nm mr (decide (1 ≤ nn)) (decide (2 ≤ nn)) = 0 then zaT k it d else zg k nm mr (decide (1 ≤ nn)) (decide (2 ≤ nn))) else 1
theorem zgu {k : Int} {nm mr : ByteArray} {it d : Int} {len : Nat} (h : zap k = none) : zaJ k nm mr it d len = 9 := by simp [zaJ, h]
theorem zk {k : Int} {nm mr : ByteArray} {it d : Int} {len nn nu ns : Nat} (h : zap k = some (nn, nu, ns)) (ha : zF nn nu ns nm mr it d len = false) : zaJ k nm mr it d len = 1 := by simp [zaJ, h, ha]
theorem zcG {k : Int} {nm mr : ByteArray} {it d : Int} {len nn nu ns : Nat} (h : zap k = some (nn, nu, ns)) (ha : zF nn nu ns nm mr it d len = true) (hn : ¬ zg k nm mr (decide (1 ≤ nn)) (decide (2 ≤ nn)) = 0) : zaJ k nm mr it d len = zg k nm mr (decide (1 ≤ nn)) (decide (2 ≤ nn)) := by simp only [zaJ, h, ha]; simp [hn]
theorem zdK {k : Int} {nm mr : ByteArray} {it d : Int} {len nn nu ns : Nat} (h : zap k = some (nn, nu, ns)) (ha : zF nn nu ns nm mr it d len = true) (hn : zg k nm mr (decide (1 ≤ nn)) (decide (2 ≤ nn)) = 0) : zaJ k nm mr it d len = zaT k it d := by simp only [zaJ, h, ha]; simp [hn]
theorem zkd {k : Int} {nn nu ns : Nat} (h : zap k = some (nn, nu, ns)) : (nn = 0 ∧ nu = 1) ∨ (nn = 1 ∧ nu = 0) ∨ (nn = 2 ∧ nu = 0) ∨ (nn = 1 ∧ nu = 1) ∨ (nn = 0 ∧ nu = 0) ∨ (nn = 0 ∧ nu = 2) := by
 rcases zcg h with ⟨_, e⟩ | ⟨_, e⟩ | ⟨_, e⟩ | ⟨_, e⟩ | ⟨_, e⟩ | ⟨_, e⟩ | ⟨_, e⟩ | ⟨_, e⟩ | ⟨_, e⟩ | ⟨_, e⟩ | ⟨_, e⟩ | ⟨_, e⟩ | ⟨_, e⟩ | ⟨_, e⟩ | ⟨_, e⟩ <;> (cases e; simp)
theorem znQ (k : Int) (nm mr : ByteArray) (it d : Int) (p : Option Addr) (len cap : Nat) (w : World) (hsh : zap k = none) :
  Calls Tryz.prog 216 #[.agg #[.int .i64 k, .string nm, .string mr, .int .i64 it, .int .i64 d, .slice p len cap]] w fun e w' => e = .returned (.int .i64 (zaJ k nm mr it d len)) ∧ Below w.heap.size w w' := by
 have HSH := Lib.hid (fun W => zrh k W hsh)
 have HE := Lib.hid (zgu (nm := nm) (mr := mr) (it := it) (d := d) (len := len) hsh)
 obtain ⟨w1, hw1, hX⟩ := zct w #[.int .i64 k, .string nm, .string mr, .int .i64 it, .int .i64 d, .slice p len cap] 105
 have HW := Lib.hid hw1
 have HX := Lib.hid hX
 clear hX hw1 hsh
 go_enter Tryz.func216, Tryz.ntmps216
 go_wp2_with fail
 rw [HW.out]
 refine (HSH.out _).mono ?_
 rintro e ws ⟨rfl, hbs⟩
 obtain ⟨c0, c1, c2, c3, c4, c5⟩ := zdt HX.out hbs
 have hl1 : w.heap.size < ws.heap.size := by have := HX.out.size; have := hbs.size; omega
 have hbw : Below w.heap.size w ws := HX.out.below.trans (hbs.mono HX.out.below.size)
 clear hbs
 go_wp2_with fail
 go_ret
 exact ⟨zd (a := 9) HE.out.symm, hbw.alloc (by first | omega | (simp; done) | (simp; omega)) _⟩
theorem zlK (k : Int) (nn nu ns : Nat) (nm mr : ByteArray) (it d : Int) (p : Option Addr) (len cap : Nat) (w : World) (hsh : zap k = some (nn, nu, ns)) :
  Calls Tryz.prog 216 #[.agg #[.int .i64 k, .string nm, .string mr, .int .i64 it, .int .i64 d, .slice p len cap]] w fun e w' => e = .returned (.int .i64 (zaJ k nm mr it d len)) ∧ Below w.heap.size w w' := by
 have HSH := Lib.hid (fun W => zpE k nn nu ns W hsh)
 have HNE := Lib.hid (fun W => zkR k nn nu ns nm mr it d (.slice p len cap) W hsh)
 obtain ⟨ne, hne⟩ : ∃ ne, zg k nm mr (decide (1 ≤ nn)) (decide (2 ≤ nn)) = ne := ⟨_, rfl⟩
 rw [hne] at HNE
 have HM := Lib.hid hne
 have HK := Lib.hid hsh
 clear hne
 obtain ⟨w1, hw1, hX⟩ := zct w #[.int .i64 k, .string nm, .string mr, .int .i64 it, .int .i64 d, .slice p len cap] 105
 have HW := Lib.hid hw1
 have HX := Lib.hid hX
 clear hX hw1 hsh
 go_enter Tryz.func216, Tryz.ntmps216
 go_wp2_with fail
 rw [HW.out]
 refine (HSH.out _).mono ?_
 rintro e ws ⟨rfl, hbs⟩
 obtain ⟨c0, c1, c2, c3, c4, c5⟩ := zdt HX.out hbs
 have hl1 : w.heap.size < ws.heap.size := by have := HX.out.size; have := hbs.size; omega
 have hbw : Below w.heap.size w ws := HX.out.below.trans (hbs.mono HX.out.below.size)
 clear hbs
 rcases zkd HK.out with ⟨rfl, rfl⟩ | ⟨rfl, rfl⟩ | ⟨rfl, rfl⟩ | ⟨rfl, rfl⟩ | ⟨rfl, rfl⟩ | ⟨rfl, rfl⟩
 case' inl =>
  by_cases hz : nm.size = 0
  rotate_left
  ·have hz1 := zT hz
   have HZ := Lib.hid hz
   clear hz
   go_wp2_with fail
   go_ret
   exact ⟨zd (a := 1) (zk HK.out (by simp [zF, HZ.out])).symm, hbw.alloc (by first | omega | (simp; done) | (simp; omega)) _⟩
  obtain rfl := zaf hz
  clear hz
  by_cases hz : mr.size = 0
  rotate_left
  ·have hz1 := zT hz
   have HZ := Lib.hid hz
   clear hz
   go_wp2_with fail
   go_ret
   exact ⟨zd (a := 1) (zk HK.out (by simp [zF, HZ.out])).symm, hbw.alloc (by first | omega | (simp; done) | (simp; omega)) _⟩
  obtain rfl := zaf hz
  clear hz
  by_cases hz : d = 0
  rotate_left
  ·have hz1 : (d != 0) = true := by simpa using hz
   have HZ := Lib.hid hz
   clear hz
   go_wp2_with fail
   go_ret
   exact ⟨zd (a := 1) (zk HK.out (by simp [zF, HZ.out])).symm, hbw.alloc (by first | omega | (simp; done) | (simp; omega)) _⟩
  subst hz
  by_cases hz : len = ns
  rotate_left
  ·have hz1 : ((len : Int) != (ns : Int)) = true := by simp; omega
   have hz2 : (len != ns) = true := by simpa using hz
   have HZ := Lib.hid hz
   clear hz
   go_wp2_with fail
   go_ret
   exact ⟨zd (a := 1) (zk HK.out (by simp [zF, HZ.out])).symm, hbw.alloc (by first | omega | (simp; done) | (simp; omega)) _⟩
  subst hz
 case' inr.inl =>
  by_cases hz : mr.size = 0
  rotate_left
  ·have hz1 := zT hz
   have HZ := Lib.hid hz
   clear hz
   go_wp2_with fail
   go_ret
   exact ⟨zd (a := 1) (zk HK.out (by simp [zF, HZ.out])).symm, hbw.alloc (by first | omega | (simp; done) | (simp; omega)) _⟩
  obtain rfl := zaf hz
  clear hz
  by_cases hz : it = 0
  rotate_left
  ·have hz1 : (it != 0) = true := by simpa using hz
   have HZ := Lib.hid hz
   clear hz
   go_wp2_with fail
   go_ret
   exact ⟨zd (a := 1) (zk HK.out (by simp [zF, HZ.out])).symm, hbw.alloc (by first | omega | (simp; done) | (simp; omega)) _⟩
  subst hz
  by_cases hz : d = 0
  rotate_left
  ·have hz1 : (d != 0) = true := by simpa using hz
   have HZ := Lib.hid hz
   clear hz
   go_wp2_with fail
   go_ret
   exact ⟨zd (a := 1) (zk HK.out (by simp [zF, HZ.out])).symm, hbw.alloc (by first | omega | (simp; done) | (simp; omega)) _⟩
  subst hz
  by_cases hz : len = ns
  rotate_left
  ·have hz1 : ((len : Int) != (ns : Int)) = true := by simp; omega
   have hz2 : (len != ns) = true := by simpa using hz
   have HZ := Lib.hid hz
   clear hz
   go_wp2_with fail
   go_ret
   exact ⟨zd (a := 1) (zk HK.out (by simp [zF, HZ.out])).symm, hbw.alloc (by first | omega | (simp; done) | (simp; omega)) _⟩
  subst hz
 case' inr.inr.inl =>
  by_cases hz : it = 0
  rotate_left
  ·have hz1 : (it != 0) = true := by simpa using hz
   have HZ := Lib.hid hz
   clear hz
   go_wp2_with fail
   go_ret
   exact ⟨zd (a := 1) (zk HK.out (by simp [zF, HZ.out])).symm, hbw.alloc (by first | omega | (simp; done) | (simp; omega)) _⟩
  subst hz
  by_cases hz : d = 0
  rotate_left
  ·have hz1 : (d != 0) = true := by simpa using hz
   have HZ := Lib.hid hz
   clear hz
   go_wp2_with fail
   go_ret
   exact ⟨zd (a := 1) (zk HK.out (by simp [zF, HZ.out])).symm, hbw.alloc (by first | omega | (simp; done) | (simp; omega)) _⟩
  subst hz
  by_cases hz : len = ns
  rotate_left
  ·have hz1 : ((len : Int) != (ns : Int)) = true := by simp; omega
   have hz2 : (len != ns) = true := by simpa using hz
   have HZ := Lib.hid hz
   clear hz
   go_wp2_with fail
   go_ret
   exact ⟨zd (a := 1) (zk HK.out (by simp [zF, HZ.out])).symm, hbw.alloc (by first | omega | (simp; done) | (simp; omega)) _⟩
  subst hz
 case' inr.inr.inr.inl =>
  by_cases hz : mr.size = 0
  rotate_left
  ·have hz1 := zT hz
   have HZ := Lib.hid hz
   clear hz
   go_wp2_with fail
   go_ret
   exact ⟨zd (a := 1) (zk HK.out (by simp [zF, HZ.out])).symm, hbw.alloc (by first | omega | (simp; done) | (simp; omega)) _⟩
  obtain rfl := zaf hz
  clear hz
  by_cases hz : d = 0
  rotate_left
  ·have hz1 : (d != 0) = true := by simpa using hz
   have HZ := Lib.hid hz
   clear hz
   go_wp2_with fail
   go_ret
   exact ⟨zd (a := 1) (zk HK.out (by simp [zF, HZ.out])).symm, hbw.alloc (by first | omega | (simp; done) | (simp; omega)) _⟩
  subst hz
  by_cases hz : len = ns
  rotate_left
  ·have hz1 : ((len : Int) != (ns : Int)) = true := by simp; omega
   have hz2 : (len != ns) = true := by simpa using hz
   have HZ := Lib.hid hz
   clear hz
   go_wp2_with fail
   go_ret
   exact ⟨zd (a := 1) (zk HK.out (by simp [zF, HZ.out])).symm, hbw.alloc (by first | omega | (simp; done) | (simp; omega)) _⟩
  subst hz
 case' inr.inr.inr.inr.inl =>
  by_cases hz : nm.size = 0
  rotate_left
  ·have hz1 := zT hz
   have HZ := Lib.hid hz
   clear hz
   go_wp2_with fail
   go_ret
   exact ⟨zd (a := 1) (zk HK.out (by simp [zF, HZ.out])).symm, hbw.alloc (by first | omega | (simp; done) | (simp; omega)) _⟩
  obtain rfl := zaf hz
  clear hz
  by_cases hz : mr.size = 0
  rotate_left
  ·have hz1 := zT hz
   have HZ := Lib.hid hz
   clear hz
   go_wp2_with fail
   go_ret
   exact ⟨zd (a := 1) (zk HK.out (by simp [zF, HZ.out])).symm, hbw.alloc (by first | omega | (simp; done) | (simp; omega)) _⟩
  obtain rfl := zaf hz
  clear hz
  by_cases hz : it = 0
  rotate_left
  ·have hz1 : (it != 0) = true := by simpa using hz
   have HZ := Lib.hid hz
   clear hz
   go_wp2_with fail
   go_ret
   exact ⟨zd (a := 1) (zk HK.out (by simp [zF, HZ.out])).symm, hbw.alloc (by first | omega | (simp; done) | (simp; omega)) _⟩
  subst hz
  by_cases hz : d = 0
  rotate_left
  ·have hz1 : (d != 0) = true := by simpa using hz
   have HZ := Lib.hid hz
   clear hz
   go_wp2_with fail
   go_ret
   exact ⟨zd (a := 1) (zk HK.out (by simp [zF, HZ.out])).symm, hbw.alloc (by first | omega | (simp; done) | (simp; omega)) _⟩
  subst hz
  by_cases hz : len = ns
  rotate_left
  ·have hz1 : ((len : Int) != (ns : Int)) = true := by simp; omega
   have hz2 : (len != ns) = true := by simpa using hz
   have HZ := Lib.hid hz
   clear hz
   go_wp2_with fail
   go_ret
   exact ⟨zd (a := 1) (zk HK.out (by simp [zF, HZ.out])).symm, hbw.alloc (by first | omega | (simp; done) | (simp; omega)) _⟩
  subst hz
 case' inr.inr.inr.inr.inr =>
  by_cases hz : nm.size = 0
  rotate_left
  ·have hz1 := zT hz
   have HZ := Lib.hid hz
   clear hz
   go_wp2_with fail
   go_ret
   exact ⟨zd (a := 1) (zk HK.out (by simp [zF, HZ.out])).symm, hbw.alloc (by first | omega | (simp; done) | (simp; omega)) _⟩
  obtain rfl := zaf hz
  clear hz
  by_cases hz : mr.size = 0
  rotate_left
  ·have hz1 := zT hz
   have HZ := Lib.hid hz
   clear hz
   go_wp2_with fail
   go_ret
   exact ⟨zd (a := 1) (zk HK.out (by simp [zF, HZ.out])).symm, hbw.alloc (by first | omega | (simp; done) | (simp; omega)) _⟩
  obtain rfl := zaf hz
  clear hz
  by_cases hz : len = ns
  rotate_left
  ·have hz1 : ((len : Int) != (ns : Int)) = true := by simp; omega
   have hz2 : (len != ns) = true := by simpa using hz
   have HZ := Lib.hid hz
   clear hz
   go_wp2_with fail
   go_ret
   exact ⟨zd (a := 1) (zk HK.out (by simp [zF, HZ.out])).symm, hbw.alloc (by first | omega | (simp; done) | (simp; omega)) _⟩
  subst hz
 all_goals
  by_cases hz : ne = 0
  ·subst hz
   go_wp2_with (first
    | (go_at_call 260; refine (HNE.out _).mono ?_; rintro e wn ⟨rfl, hbn⟩; obtain ⟨hcn, hfn⟩ := bcellE hbn; have hln : w.heap.size < ws.heap.size + 1 := by omega)
    | (go_at_call 261; refine (zif _ _ _ _ _ _ _).mono ?_; rintro e wm ⟨rfl, hbm⟩))
   go_ret
   exact ⟨zd (zdK HK.out (by simp [zF] <;> rfl) HM.out).symm, ((hbw.alloc (by first | omega | (simp; done) | (simp; omega)) _).trans (hbn.mono (by first | omega | (simp; done) | (simp; omega)))).trans (hbm.mono (by have hz1 := hbn.size; simp at hz1; omega))⟩
  ·have hz1 : (ne != 0) = true := by simpa using hz
   have HZ := Lib.hid hz
   clear hz
   go_wp2_with (first
    | (go_at_call 260; refine (HNE.out _).mono ?_; rintro e wn ⟨rfl, hbn⟩; obtain ⟨hcn, hfn⟩ := bcellE hbn; have hln : w.heap.size < ws.heap.size + 1 := by omega))
   go_ret
   exact ⟨zd (a := ne) ((zcG HK.out (by simp [zF] <;> rfl) (by rw [HM.out]; exact HZ.out)).trans HM.out).symm, (hbw.alloc (by first | omega | (simp; done) | (simp; omega)) _).trans (hbn.mono (by first | omega | (simp; done) | (simp; omega)))⟩
theorem zlL (k : Int) (nm mr : ByteArray) (it d : Int) (p : Option Addr) (len cap : Nat) (w : World) :
  Calls Tryz.prog 216 #[.agg #[.int .i64 k, .string nm, .string mr, .int .i64 it, .int .i64 d, .slice p len cap]] w fun e w' => e = .returned (.int .i64 (zaJ k nm mr it d len)) ∧ Below w.heap.size w w' := by
 rcases h : zap k with _ | ⟨nn, nu, ns⟩
 ·exact znQ k nm mr it d p len cap w h
 ·exact zlK k nn nu ns nm mr it d p len cap w h
end
end Go.Proofs.YtpnjjmcimjlfkaaGreatDoor
