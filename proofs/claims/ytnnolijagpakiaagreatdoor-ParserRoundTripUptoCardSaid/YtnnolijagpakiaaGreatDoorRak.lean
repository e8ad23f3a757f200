/- Texts of this proof, part 11: what the proof uses of them. -/
import Derived.Test.YtnnolijagpakiaaGreatDoorRaj
import Derived.Deep.Light
namespace Go.Proofs.YtnnolijagpakiaaGreatDoor
section
open Go.RowKit
theorem ret_intE {k : IntKind} {a b : Int} (h : a = b) : Ending.returned (.int k a) = .returned (.int k b) := by rw [h]
def opNames : List ByteArray := [⟨#[43]⟩, ⟨#[45]⟩, ⟨#[42]⟩, ⟨#[61]⟩, ⟨#[60]⟩]
def okName (k : Int) (nm : ByteArray) (b0 : Bool) : Bool :=
 if k = 5 then decide (nm.size = 0) || labelL nm.data.toList else if k = 10 then hasB opNames nm else !b0 || nameB nm
def namedB (k : Int) (nm mr : ByteArray) (b0 b1 : Bool) : Bool := (!b1 || nameB mr) && okName k nm b0
def rangeErr (k it d : Int) : Int := if rangedB k it d then 0 else 2
theorem size_zero {s : ByteArray} (h : s.size = 0) : s = ⟨#[]⟩ := by
 apply ByteArray.ext; apply Array.eq_empty_of_size_eq_zero; exact h
theorem toList_ne' {s : ByteArray} (h : ¬ s.size = 0) : s.toList.isEmpty = false := by
 rw [List.isEmpty_eq_false_iff, ByteArray.toList_eq]; intro e; apply h
 have : s.data.toList.length = 0 := by rw [e]; rfl
 simpa using this
set_option maxHeartbeats 1000000 in
theorem scheckNumbers_any (k : Int) (nm mr : ByteArray) (it d : Int) (sv : Value) (w : World) :
  Calls Tryz.prog 145 #[.agg #[.int .i64 k, .string nm, .string mr, .int .i64 it, .int .i64 d, sv]] w fun e w' => e = .returned (.int .i64 (rangeErr k it d)) ∧ Below w.heap.size w w' := by
 by_cases h1 : k = 1
 ·subst h1
  skip
  go_enter Tryz.func145, Tryz.ntmps145
  go_wp2_with fail
  all_goals
   go_ret
   refine ⟨?_, (Below.refl _ _).alloc (Nat.le_refl _) _⟩
   first
    | (refine ret_intE (a := 0) ?_; unfold rangeErr; rw [if_pos]; (go_light; (first | (simp_all [rangedB]; done) | (simp_all [rangedB]; omega))))
    | (refine ret_intE (a := 2) ?_; unfold rangeErr; rw [if_neg]; (go_light; (first | (simp_all [rangedB]; done) | (simp_all [rangedB]; omega))))
 by_cases h2 : k = 2
 ·subst h2
  clear h1
  go_enter Tryz.func145, Tryz.ntmps145
  go_wp2_with fail
  all_goals
   go_ret
   refine ⟨?_, (Below.refl _ _).alloc (Nat.le_refl _) _⟩
   first
    | (refine ret_intE (a := 0) ?_; unfold rangeErr; rw [if_pos]; (go_light; (first | (simp_all [rangedB]; done) | (simp_all [rangedB]; omega))))
    | (refine ret_intE (a := 2) ?_; unfold rangeErr; rw [if_neg]; (go_light; (first | (simp_all [rangedB]; done) | (simp_all [rangedB]; omega))))
 by_cases h5 : k = 5
 ·subst h5
  clear h1 h2
  go_enter Tryz.func145, Tryz.ntmps145
  go_wp2_with fail
  all_goals
   go_ret
   refine ⟨?_, (Below.refl _ _).alloc (Nat.le_refl _) _⟩
   first
    | (refine ret_intE (a := 0) ?_; unfold rangeErr; rw [if_pos]; (go_light; (first | (simp_all [rangedB]; done) | (simp_all [rangedB]; omega))))
    | (refine ret_intE (a := 2) ?_; unfold rangeErr; rw [if_neg]; (go_light; (first | (simp_all [rangedB]; done) | (simp_all [rangedB]; omega))))
 by_cases h14 : k = 14
 ·subst h14
  clear h1 h2 h5
  go_enter Tryz.func145, Tryz.ntmps145
  go_wp2_with fail
  all_goals
   go_ret
   refine ⟨?_, (Below.refl _ _).alloc (Nat.le_refl _) _⟩
   first
    | (refine ret_intE (a := 0) ?_; unfold rangeErr; rw [if_pos]; (go_light; (first | (simp_all [rangedB]; done) | (simp_all [rangedB]; omega))))
    | (refine ret_intE (a := 2) ?_; unfold rangeErr; rw [if_neg]; (go_light; (first | (simp_all [rangedB]; done) | (simp_all [rangedB]; omega))))
 have HE : Hid (rangedB k it d = true) := Lib.hid (by simp [rangedB, h1, h2, h5, h14])
 have f1 : (k == 1) = false := by simpa using h1
 have f2 : (k == 2) = false := by simpa using h2
 have f3 : (k == 5) = false := by simpa using h5
 have f4 : (k == 14) = false := by simpa using h14
 clear h1 h2 h5 h14
 go_enter Tryz.func145, Tryz.ntmps145
 go_wp2_with fail
 go_ret
 exact ⟨ret_intE (a := 0) (by unfold rangeErr; rw [HE.out]; rfl), (Below.refl _ _).alloc (Nat.le_refl _) _⟩
theorem beq_lit {s : ByteArray} {l : List UInt8} (h : ¬ (⟨l.toArray⟩ : ByteArray) = s) : (s.toList == l) = false := by
 have h1 : ¬ s.toList = l := by
  rw [ByteArray.toList_eq]; rintro rfl; exact h rfl
 simpa using h1
theorem reserved_cases {s : ByteArray} (h : hasB reservedL s = true) : s = ⟨#[99, 97, 115, 101]⟩ ∨ s = ⟨#[99, 104, 97, 110, 99, 101]⟩ ∨ s = ⟨#[99, 111, 110, 102, 108, 105, 99, 116]⟩ ∨ s = ⟨#[101, 108, 115, 101]⟩ ∨ s = ⟨#[102, 97, 108, 115, 101]⟩ ∨ s = ⟨#[102, 108, 97, 107, 121]⟩ ∨ s = ⟨#[102, 117, 110]⟩ ∨ s = ⟨#[105, 102]⟩ ∨ s = ⟨#[105, 110]⟩ ∨ s = ⟨#[108, 101, 116]⟩ ∨ s = ⟨#[110, 105, 108]⟩ ∨ s = ⟨#[111, 102]⟩ ∨ s = ⟨#[112, 117, 98]⟩ ∨ s = ⟨#[116, 101, 115, 116]⟩ ∨ s = ⟨#[116, 104, 101, 110]⟩ ∨ s = ⟨#[116, 114, 117, 101]⟩ ∨ s = ⟨#[117, 115, 101]⟩ := by
 simp only [hasB, reservedL, List.any_cons, List.any_nil, Bool.or_false, Bool.or_eq_true, decide_eq_true_eq] at h
 rcases h with h | h | h | h | h | h | h | h | h | h | h | h | h | h | h | h | h <;> subst h <;> simp
theorem reserved_no {s : ByteArray} (h : hasB reservedL s = false) : (s.toList == [99, 97, 115, 101]) = false ∧ (s.toList == [99, 104, 97, 110, 99, 101]) = false ∧ (s.toList == [99, 111, 110, 102, 108, 105, 99, 116]) = false ∧ (s.toList == [101, 108, 115, 101]) = false ∧ (s.toList == [102, 97, 108, 115, 101]) = false ∧ (s.toList == [102, 108, 97, 107, 121]) = false ∧ (s.toList == [102, 117, 110]) = false ∧ (s.toList == [105, 102]) = false ∧ (s.toList == [105, 110]) = false ∧ (s.toList == [108, 101, 116]) = false ∧ (s.toList == [110, 105, 108]) = false ∧ (s.toList == [111, 102]) = false ∧ (s.toList == [112, 117, 98]) = false ∧ (s.toList == [116, 101, 115, 116]) = false ∧ (s.toList == [116, 104, 101, 110]) = false ∧ (s.toList == [116, 114, 117, 101]) = false ∧ (s.toList == [117, 115, 101]) = false := by
 simp only [hasB, reservedL, List.any_cons, List.any_nil, Bool.or_false, Bool.or_eq_false_iff, decide_eq_false_iff_not] at h
 obtain ⟨h0, h1, h2, h3, h4, h5, h6, h7, h8, h9, h10, h11, h12, h13, h14, h15, h16⟩ := h
 exact ⟨beq_lit h0, beq_lit h1, beq_lit h2, beq_lit h3, beq_lit h4, beq_lit h5, beq_lit h6, beq_lit h7, beq_lit h8, beq_lit h9, beq_lit h10, beq_lit h11, beq_lit h12, beq_lit h13, beq_lit h14, beq_lit h15, beq_lit h16⟩
set_option maxHeartbeats 1000000 in
theorem sname_any (s : ByteArray) (w : World) :
  Calls Tryz.prog 161 #[.string s] w fun e w' => e = .returned (.bool (nameB s)) ∧ Below w.heap.size w w' := by
 cases hr : hasB reservedL s
 ·obtain ⟨h0, h1, h2, h3, h4, h5, h6, h7, h8, h9, h10, h11, h12, h13, h14, h15, h16⟩ := reserved_no hr
  have HE : Hid (nameB s = wordL 24 s.data.toList) := Lib.hid (by simp [nameB, hr])
  clear hr
  go_enter Tryz.func161, Tryz.ntmps161
  go_wp2_with (first | (go_at_call 113; refine (word_any s _).mono ?_; rintro e w' ⟨rfl, hb⟩))
  go_ret
  exact ⟨by rw [HE.out]; rfl, hb⟩
 ·have HE : Hid (nameB s = false) := Lib.hid (by simp [nameB, hr])
  rcases reserved_cases hr with rfl | rfl | rfl | rfl | rfl | rfl | rfl | rfl | rfl | rfl | rfl | rfl | rfl | rfl | rfl | rfl | rfl
  all_goals
   clear hr
   go_enter Tryz.func161, Tryz.ntmps161
   go_wp2_with fail
   go_ret
   exact ⟨by rw [HE.out]; rfl, Below.refl _ _⟩
end
section
open Go.RowKit
theorem bcellE {W w1 : World} (hb : Below W.heap.size W w1) : (∀ b o, b < W.heap.size → w1.cell? ⟨b, o, none⟩ = W.cell? ⟨b, o, none⟩) ∧ (∀ b o, b < W.heap.size → w1.frozen? ⟨b, o, none⟩ = W.frozen? ⟨b, o, none⟩) :=
 ⟨fun b o h => hb.cell (p := ⟨b, o, none⟩) h, fun b o h => hb.frozen (p := ⟨b, o, none⟩) h⟩
end
section
open Go.RowKit
def namesErr (k : Int) (nm mr : ByteArray) (b0 b1 : Bool) : Int := if namedB k nm mr b0 b1 then (if k = 13 ∧ nm = mr then 7 else 0) else 6
theorem one_byte {s : ByteArray} (h : s.size = 1) : ∃ c : UInt8, s = ⟨#[c]⟩ := by
 obtain ⟨d⟩ := s
 obtain ⟨l⟩ := d
 match l, h with
 | [c], _ => exact ⟨c, rfl⟩
theorem ops_long {s : ByteArray} (h : ¬ s.size = 1) : hasB opNames s = false := by
 refine hasB_no fun i hi e => h ?_
 simp only [opNames, List.length_cons, List.length_nil] at hi
 have : i = 0 ∨ i = 1 ∨ i = 2 ∨ i = 3 ∨ i = 4 := by omega
 rcases this with rfl | rfl | rfl | rfl | rfl <;> (rw [← e]; rfl)
theorem ops_index (c : UInt8) : decide ((0 : Int) ≤ Lib.indexByte [43, 45, 42, 61, 60] c) = hasB opNames ⟨#[c]⟩ := by
 have e : ∀ x : UInt8, decide ((⟨#[x]⟩ : ByteArray) = ⟨#[c]⟩) = decide (x = c) := fun x => by
  rw [decide_eq_decide]; constructor
  ·intro h; injection h with h; injection h with h; injection h
  ·rintro rfl; rfl
 simp only [hasB, opNames, List.any_cons, List.any_nil, e, Bool.or_false]
 simp only [Lib.indexByte]
 by_cases e1 : (43 : UInt8) = c
 ·subst e1; decide
 by_cases e2 : (45 : UInt8) = c
 ·subst e2; decide
 by_cases e3 : (42 : UInt8) = c
 ·subst e3; decide
 by_cases e4 : (61 : UInt8) = c
 ·subst e4; decide
 by_cases e5 : (60 : UInt8) = c
 ·subst e5; decide
 simp [e1, e2, e3, e4, e5]
set_option maxHeartbeats 4000000 in
theorem scheckNames_any (k : Int) (nn nu ns : Nat) (nm mr : ByteArray) (it d : Int) (sv : Value) (w : World) (hsh : shapeK k = some (nn, nu, ns)) :
  Calls Tryz.prog 144 #[.agg #[.int .i64 k, .string nm, .string mr, .int .i64 it, .int .i64 d, sv], .int .i64 nn] w fun e w' => e = .returned (.int .i64 (namesErr k nm mr (decide (1 ≤ nn)) (decide (2 ≤ nn)))) ∧ Below w.heap.size w w' := by
 have HNM := Lib.hid (fun W => sname_any nm W)
 have HMR := Lib.hid (fun W => sname_any mr W)
 have HLB := Lib.hid (fun W => label_any nm W)
 rcases shapeK_cases hsh with ⟨rfl, e⟩ | ⟨rfl, e⟩ | ⟨rfl, e⟩ | ⟨rfl, e⟩ | ⟨rfl, e⟩ | ⟨rfl, e⟩ | ⟨rfl, e⟩ | ⟨rfl, e⟩ | ⟨rfl, e⟩ | ⟨rfl, e⟩ | ⟨rfl, e⟩ | ⟨rfl, e⟩ | ⟨rfl, e⟩ | ⟨rfl, e⟩ | ⟨rfl, e⟩
 ·cases e
  have HE : Hid (namesErr 1 nm mr false false = 0) := Lib.hid (by simp [namesErr, namedB, okName, ])
  clear  hsh
  have tok1 : True := trivial
  go_enter Tryz.func144, Tryz.ntmps144
  go_wp2_with fail
  go_ret
  exact ⟨ret_intE (a := 0) HE.out.symm, (Below.refl _ _).alloc (Nat.le_refl _) _⟩
 ·cases e
  have HE : Hid (namesErr 2 nm mr false false = 0) := Lib.hid (by simp [namesErr, namedB, okName, ])
  clear  hsh
  have tok1 : True := trivial
  go_enter Tryz.func144, Tryz.ntmps144
  go_wp2_with fail
  go_ret
  exact ⟨ret_intE (a := 0) HE.out.symm, (Below.refl _ _).alloc (Nat.le_refl _) _⟩
 ·cases e
  cases hn : nameB nm
  ·rw [hn] at HNM
   have HE : Hid (namesErr 3 nm mr true false = 6) := Lib.hid (by simp [namesErr, namedB, okName, hn])
   clear hn hsh
   have tok1 : True := trivial
   go_enter Tryz.func144, Tryz.ntmps144
   go_wp2_with (first | ((go_at_call 161); have _t := tok1; (with_reducible refine (HNM.out _).mono ?_); rintro e wn ⟨rfl, hbn⟩; clear tok1 _t; obtain ⟨hcn, hfn⟩ := bcellE hbn; have hln : w.heap.size < wn.heap.size := by (have hzz := hbn.size; simp at hzz; omega)))
   go_ret
   exact ⟨ret_intE (a := 6) HE.out.symm, ((Below.refl _ _).alloc (Nat.le_refl _) _).trans (hbn.mono (by first | omega | (simp; done) | (simp; omega)))⟩
  ·rw [hn] at HNM
   have HE : Hid (namesErr 3 nm mr true false = 0) := Lib.hid (by simp [namesErr, namedB, okName, hn])
   clear hn hsh
   have tok1 : True := trivial
   go_enter Tryz.func144, Tryz.ntmps144
   go_wp2_with (first | ((go_at_call 161); have _t := tok1; (with_reducible refine (HNM.out _).mono ?_); rintro e wn ⟨rfl, hbn⟩; clear tok1 _t; obtain ⟨hcn, hfn⟩ := bcellE hbn; have hln : w.heap.size < wn.heap.size := by (have hzz := hbn.size; simp at hzz; omega)))
   go_ret
   exact ⟨ret_intE (a := 0) HE.out.symm, ((Below.refl _ _).alloc (Nat.le_refl _) _).trans (hbn.mono (by first | omega | (simp; done) | (simp; omega)))⟩
 ·cases e
  cases hn : nameB nm
  ·rw [hn] at HNM
   have HE : Hid (namesErr 4 nm mr true true = 6) := Lib.hid (by simp [namesErr, namedB, okName, hn])
   clear hn hsh
   have tok1 : True := trivial
   go_enter Tryz.func144, Tryz.ntmps144
   go_wp2_with (first | ((go_at_call 161); have _t := tok1; (with_reducible refine (HNM.out _).mono ?_); rintro e wn ⟨rfl, hbn⟩; clear tok1 _t; obtain ⟨hcn, hfn⟩ := bcellE hbn; have hln : w.heap.size < wn.heap.size := by (have hzz := hbn.size; simp at hzz; omega)))
   go_ret
   exact ⟨ret_intE (a := 6) HE.out.symm, ((Below.refl _ _).alloc (Nat.le_refl _) _).trans (hbn.mono (by first | omega | (simp; done) | (simp; omega)))⟩
  ·rw [hn] at HNM
   cases hm : nameB mr
   ·rw [hm] at HMR
    have HE : Hid (namesErr 4 nm mr true true = 6) := Lib.hid (by simp [namesErr, namedB, okName, hn, hm])
    clear hn hm hsh
    have tok1 : True := trivial
    go_enter Tryz.func144, Tryz.ntmps144
    go_wp2_with (first | ((go_at_call 161); have _t := tok1; (with_reducible refine (HNM.out _).mono ?_); rintro e wn ⟨rfl, hbn⟩; clear tok1 _t; obtain ⟨hcn, hfn⟩ := bcellE hbn; have hln : w.heap.size < wn.heap.size := by (have hzz := hbn.size; simp at hzz; omega)) | ((go_at_call 161); (with_reducible refine (HMR.out _).mono ?_); rintro e wm ⟨rfl, hbm⟩; obtain ⟨hcm, hfm⟩ := bcellE hbm))
    go_ret
    exact ⟨ret_intE (a := 6) HE.out.symm, (((Below.refl _ _).alloc (Nat.le_refl _) _).trans (hbn.mono (by first | omega | (simp; done) | (simp; omega)))).trans (hbm.mono (by have := hbn.size; simp at this; omega))⟩
   ·rw [hm] at HMR
    have HE : Hid (namesErr 4 nm mr true true = 0) := Lib.hid (by simp [namesErr, namedB, okName, hn, hm])
    clear hn hm hsh
    have tok1 : True := trivial
    go_enter Tryz.func144, Tryz.ntmps144
    go_wp2_with (first | ((go_at_call 161); have _t := tok1; (with_reducible refine (HNM.out _).mono ?_); rintro e wn ⟨rfl, hbn⟩; clear tok1 _t; obtain ⟨hcn, hfn⟩ := bcellE hbn; have hln : w.heap.size < wn.heap.size := by (have hzz := hbn.size; simp at hzz; omega)) | ((go_at_call 161); (with_reducible refine (HMR.out _).mono ?_); rintro e wm ⟨rfl, hbm⟩; obtain ⟨hcm, hfm⟩ := bcellE hbm))
    go_ret
    exact ⟨ret_intE (a := 0) HE.out.symm, (((Below.refl _ _).alloc (Nat.le_refl _) _).trans (hbn.mono (by first | omega | (simp; done) | (simp; omega)))).trans (hbm.mono (by have := hbn.size; simp at this; omega))⟩
 ·cases e
  by_cases hz : nm.size = 0
  ·obtain rfl := size_zero hz
   have HE : Hid (namesErr 5 ⟨#[]⟩ mr true false = 0) := Lib.hid rfl
   clear hz HNM HLB hsh
   have tok1 : True := trivial
   go_enter Tryz.func144, Tryz.ntmps144
   go_wp2_with fail
   go_ret
   exact ⟨ret_intE (a := 0) HE.out.symm, (Below.refl _ _).alloc (Nat.le_refl _) _⟩
  ·have hz1 := toList_ne' hz
   cases hl : labelL nm.data.toList
   ·rw [hl] at HLB
    have HE : Hid (namesErr 5 nm mr true false = 6) := Lib.hid (by simp [namesErr, namedB, okName, hl, hz])
    clear hl hz hsh
    have tok1 : True := trivial
    go_enter Tryz.func144, Tryz.ntmps144
    go_wp2_with (first | ((go_at_call 57); (with_reducible refine (HLB.out _).mono ?_); rintro e wn ⟨rfl, hbn⟩; obtain ⟨hcn, hfn⟩ := bcellE hbn))
    go_ret
    exact ⟨ret_intE (a := 6) HE.out.symm, ((Below.refl _ _).alloc (Nat.le_refl _) _).trans (hbn.mono (by first | omega | (simp; done) | (simp; omega)))⟩
   ·rw [hl] at HLB
    have HE : Hid (namesErr 5 nm mr true false = 0) := Lib.hid (by simp [namesErr, namedB, okName, hl])
    clear hl hz hsh
    have tok1 : True := trivial
    go_enter Tryz.func144, Tryz.ntmps144
    go_wp2_with (first | ((go_at_call 57); (with_reducible refine (HLB.out _).mono ?_); rintro e wn ⟨rfl, hbn⟩; obtain ⟨hcn, hfn⟩ := bcellE hbn))
    go_ret
    exact ⟨ret_intE (a := 0) HE.out.symm, ((Below.refl _ _).alloc (Nat.le_refl _) _).trans (hbn.mono (by first | omega | (simp; done) | (simp; omega)))⟩
 ·cases e
  cases hn : nameB nm
  ·rw [hn] at HNM
   have HE : Hid (namesErr 6 nm mr true false = 6) := Lib.hid (by simp [namesErr, namedB, okName, hn])
   clear hn hsh
   have tok1 : True := trivial
   go_enter Tryz.func144, Tryz.ntmps144
   go_wp2_with (first | ((go_at_call 161); have _t := tok1; (with_reducible refine (HNM.out _).mono ?_); rintro e wn ⟨rfl, hbn⟩; clear tok1 _t; obtain ⟨hcn, hfn⟩ := bcellE hbn; have hln : w.heap.size < wn.heap.size := by (have hzz := hbn.size; simp at hzz; omega)))
   go_ret
   exact ⟨ret_intE (a := 6) HE.out.symm, ((Below.refl _ _).alloc (Nat.le_refl _) _).trans (hbn.mono (by first | omega | (simp; done) | (simp; omega)))⟩
  ·rw [hn] at HNM
   have HE : Hid (namesErr 6 nm mr true false = 0) := Lib.hid (by simp [namesErr, namedB, okName, hn])
   clear hn hsh
   have tok1 : True := trivial
   go_enter Tryz.func144, Tryz.ntmps144
   go_wp2_with (first | ((go_at_call 161); have _t := tok1; (with_reducible refine (HNM.out _).mono ?_); rintro e wn ⟨rfl, hbn⟩; clear tok1 _t; obtain ⟨hcn, hfn⟩ := bcellE hbn; have hln : w.heap.size < wn.heap.size := by (have hzz := hbn.size; simp at hzz; omega)))
   go_ret
   exact ⟨ret_intE (a := 0) HE.out.symm, ((Below.refl _ _).alloc (Nat.le_refl _) _).trans (hbn.mono (by first | omega | (simp; done) | (simp; omega)))⟩
 ·cases e
  have HE : Hid (namesErr 7 nm mr false false = 0) := Lib.hid (by simp [namesErr, namedB, okName, ])
  clear  hsh
  have tok1 : True := trivial
  go_enter Tryz.func144, Tryz.ntmps144
  go_wp2_with fail
  go_ret
  exact ⟨ret_intE (a := 0) HE.out.symm, (Below.refl _ _).alloc (Nat.le_refl _) _⟩
 ·cases e
  cases hn : nameB nm
  ·rw [hn] at HNM
   have HE : Hid (namesErr 8 nm mr true false = 6) := Lib.hid (by simp [namesErr, namedB, okName, hn])
   clear hn hsh
   have tok1 : True := trivial
   go_enter Tryz.func144, Tryz.ntmps144
   go_wp2_with (first | ((go_at_call 161); have _t := tok1; (with_reducible refine (HNM.out _).mono ?_); rintro e wn ⟨rfl, hbn⟩; clear tok1 _t; obtain ⟨hcn, hfn⟩ := bcellE hbn; have hln : w.heap.size < wn.heap.size := by (have hzz := hbn.size; simp at hzz; omega)))
   go_ret
   exact ⟨ret_intE (a := 6) HE.out.symm, ((Below.refl _ _).alloc (Nat.le_refl _) _).trans (hbn.mono (by first | omega | (simp; done) | (simp; omega)))⟩
  ·rw [hn] at HNM
   have HE : Hid (namesErr 8 nm mr true false = 0) := Lib.hid (by simp [namesErr, namedB, okName, hn])
   clear hn hsh
   have tok1 : True := trivial
   go_enter Tryz.func144, Tryz.ntmps144
   go_wp2_with (first | ((go_at_call 161); have _t := tok1; (with_reducible refine (HNM.out _).mono ?_); rintro e wn ⟨rfl, hbn⟩; clear tok1 _t; obtain ⟨hcn, hfn⟩ := bcellE hbn; have hln : w.heap.size < wn.heap.size := by (have hzz := hbn.size; simp at hzz; omega)))
   go_ret
   exact ⟨ret_intE (a := 0) HE.out.symm, ((Below.refl _ _).alloc (Nat.le_refl _) _).trans (hbn.mono (by first | omega | (simp; done) | (simp; omega)))⟩
 ·cases e
  have HE : Hid (namesErr 9 nm mr false false = 0) := Lib.hid (by simp [namesErr, namedB, okName, ])
  clear  hsh
  have tok1 : True := trivial
  go_enter Tryz.func144, Tryz.ntmps144
  go_wp2_with fail
  go_ret
  exact ⟨ret_intE (a := 0) HE.out.symm, (Below.refl _ _).alloc (Nat.le_refl _) _⟩
 ·cases e
  by_cases hz : nm.size = 1
  ·obtain ⟨c, rfl⟩ := one_byte hz
   have HCT : Hid (∀ W : World, Calls Tryz.prog 105 #[.string ⟨#[43, 45, 42, 61, 60]⟩, .string ⟨#[c]⟩] W fun e w' => e = .returned (.bool (hasB opNames ⟨#[c]⟩)) ∧ W = w') := Lib.hid (fun W => by have := contains_one ⟨#[43, 45, 42, 61, 60]⟩ c W; rw [ops_index] at this; exact this)
   cases hl : hasB opNames ⟨#[c]⟩
   ·rw [hl] at HCT
    have HE : Hid (namesErr 10 ⟨#[c]⟩ mr true false = 6) := Lib.hid (by simp [namesErr, namedB, okName, hl])
    clear hl hz HNM HLB hsh
    have tok1 : True := trivial
    go_enter Tryz.func144, Tryz.ntmps144
    go_wp2_with (first | ((go_at_call 105); refine (HCT.out _).mono ?_; rintro e wn ⟨rfl, rfl⟩))
    go_ret
    exact ⟨ret_intE (a := 6) HE.out.symm, (Below.refl _ _).alloc (Nat.le_refl _) _⟩
   ·rw [hl] at HCT
    have HE : Hid (namesErr 10 ⟨#[c]⟩ mr true false = 0) := Lib.hid (by simp [namesErr, namedB, okName, hl])
    clear hl hz HNM HLB hsh
    have tok1 : True := trivial
    go_enter Tryz.func144, Tryz.ntmps144
    go_wp2_with (first | ((go_at_call 105); refine (HCT.out _).mono ?_; rintro e wn ⟨rfl, rfl⟩))
    go_ret
    exact ⟨ret_intE (a := 0) HE.out.symm, (Below.refl _ _).alloc (Nat.le_refl _) _⟩
  ·have hz1 : ((nm.size : Int) == 1) = false := by simp; omega
   have hz2 : (nm.size == 1) = false := by simpa using hz
   have HE : Hid (namesErr 10 nm mr true false = 6) := Lib.hid (by simp [namesErr, namedB, okName, ops_long hz])
   clear hz hsh
   have tok1 : True := trivial
   go_enter Tryz.func144, Tryz.ntmps144
   go_wp2_with fail
   go_ret
   exact ⟨ret_intE (a := 6) HE.out.symm, (Below.refl _ _).alloc (Nat.le_refl _) _⟩
 ·cases e
  have HE : Hid (namesErr 11 nm mr false false = 0) := Lib.hid (by simp [namesErr, namedB, okName, ])
  clear  hsh
  have tok1 : True := trivial
  go_enter Tryz.func144, Tryz.ntmps144
  go_wp2_with fail
  go_ret
  exact ⟨ret_intE (a := 0) HE.out.symm, (Below.refl _ _).alloc (Nat.le_refl _) _⟩
 ·cases e
  have HE : Hid (namesErr 12 nm mr false false = 0) := Lib.hid (by simp [namesErr, namedB, okName, ])
  clear  hsh
  have tok1 : True := trivial
  go_enter Tryz.func144, Tryz.ntmps144
  go_wp2_with fail
  go_ret
  exact ⟨ret_intE (a := 0) HE.out.symm, (Below.refl _ _).alloc (Nat.le_refl _) _⟩
 ·cases e
  cases hn : nameB nm
  ·rw [hn] at HNM
   have HE : Hid (namesErr 13 nm mr true true = 6) := Lib.hid (by simp [namesErr, namedB, okName, hn])
   clear hn hsh
   have tok1 : True := trivial
   go_enter Tryz.func144, Tryz.ntmps144
   go_wp2_with (first | ((go_at_call 161); have _t := tok1; (with_reducible refine (HNM.out _).mono ?_); rintro e wn ⟨rfl, hbn⟩; clear tok1 _t; obtain ⟨hcn, hfn⟩ := bcellE hbn; have hln : w.heap.size < wn.heap.size := by (have hzz := hbn.size; simp at hzz; omega)))
   go_ret
   exact ⟨ret_intE (a := 6) HE.out.symm, ((Below.refl _ _).alloc (Nat.le_refl _) _).trans (hbn.mono (by first | omega | (simp; done) | (simp; omega)))⟩
  ·rw [hn] at HNM
   cases hm : nameB mr
   ·rw [hm] at HMR
    have HE : Hid (namesErr 13 nm mr true true = 6) := Lib.hid (by simp [namesErr, namedB, okName, hn, hm])
    clear hn hm hsh
    have tok1 : True := trivial
    go_enter Tryz.func144, Tryz.ntmps144
    go_wp2_with (first | ((go_at_call 161); have _t := tok1; (with_reducible refine (HNM.out _).mono ?_); rintro e wn ⟨rfl, hbn⟩; clear tok1 _t; obtain ⟨hcn, hfn⟩ := bcellE hbn; have hln : w.heap.size < wn.heap.size := by (have hzz := hbn.size; simp at hzz; omega)) | ((go_at_call 161); (with_reducible refine (HMR.out _).mono ?_); rintro e wm ⟨rfl, hbm⟩; obtain ⟨hcm, hfm⟩ := bcellE hbm))
    go_ret
    exact ⟨ret_intE (a := 6) HE.out.symm, (((Below.refl _ _).alloc (Nat.le_refl _) _).trans (hbn.mono (by first | omega | (simp; done) | (simp; omega)))).trans (hbm.mono (by have := hbn.size; simp at this; omega))⟩
   ·rw [hm] at HMR
    by_cases hq : nm = mr
    ·subst hq
     have HE : Hid (namesErr 13 nm nm true true = 7) := Lib.hid (by simp [namesErr, namedB, okName, hn])
     clear hn hm HMR hsh
     have tok1 : True := trivial
     go_enter Tryz.func144, Tryz.ntmps144
     go_wp2_with (first | ((go_at_call 161); have _t := tok1; (with_reducible refine (HNM.out _).mono ?_); rintro e wn ⟨rfl, hbn⟩; clear tok1 _t; obtain ⟨hcn, hfn⟩ := bcellE hbn; have hln : w.heap.size < wn.heap.size := by (have hzz := hbn.size; simp at hzz; omega)) | ((go_at_call 161); (with_reducible refine (HNM.out _).mono ?_); rintro e wm ⟨rfl, hbm⟩; obtain ⟨hcm, hfm⟩ := bcellE hbm))
     go_ret
     exact ⟨ret_intE (a := 7) HE.out.symm, (((Below.refl _ _).alloc (Nat.le_refl _) _).trans (hbn.mono (by first | omega | (simp; done) | (simp; omega)))).trans (hbm.mono (by have := hbn.size; simp at this; omega))⟩
    ·have hq1 : (nm.toList == mr.toList) = false := (Lib.bytes_beq_false_iff _ _).2 hq
     have HE : Hid (namesErr 13 nm mr true true = 0) := Lib.hid (by simp [namesErr, namedB, okName, hn, hm, hq])
     clear hn hm hq hsh
     have tok1 : True := trivial
     go_enter Tryz.func144, Tryz.ntmps144
     go_wp2_with (first | ((go_at_call 161); have _t := tok1; (with_reducible refine (HNM.out _).mono ?_); rintro e wn ⟨rfl, hbn⟩; clear tok1 _t; obtain ⟨hcn, hfn⟩ := bcellE hbn; have hln : w.heap.size < wn.heap.size := by (have hzz := hbn.size; simp at hzz; omega)) | ((go_at_call 161); (with_reducible refine (HMR.out _).mono ?_); rintro e wm ⟨rfl, hbm⟩; obtain ⟨hcm, hfm⟩ := bcellE hbm))
     go_ret
     exact ⟨ret_intE (a := 0) HE.out.symm, (((Below.refl _ _).alloc (Nat.le_refl _) _).trans (hbn.mono (by first | omega | (simp; done) | (simp; omega)))).trans (hbm.mono (by have := hbn.size; simp at this; omega))⟩
 ·cases e
  have HE : Hid (namesErr 14 nm mr false false = 0) := Lib.hid (by simp [namesErr, namedB, okName, ])
  clear  hsh
  have tok1 : True := trivial
  go_enter Tryz.func144, Tryz.ntmps144
  go_wp2_with fail
  go_ret
  exact ⟨ret_intE (a := 0) HE.out.symm, (Below.refl _ _).alloc (Nat.le_refl _) _⟩
 ·cases e
  have HE : Hid (namesErr 15 nm mr false false = 0) := Lib.hid (by simp [namesErr, namedB, okName, ])
  clear  hsh
  have tok1 : True := trivial
  go_enter Tryz.func144, Tryz.ntmps144
  go_wp2_with fail
  go_ret
  exact ⟨ret_intE (a := 0) HE.out.symm, (Below.refl _ _).alloc (Nat.le_refl _) _⟩
end
end Go.Proofs.YtnnolijagpakiaaGreatDoor
