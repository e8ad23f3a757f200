/- Texts of this proof, part 12: what the proof uses of them. -/
import Derived.Test.YtnnolijagpakiaaGreatDoorVak
namespace Go.Proofs.YtnnolijagpakiaaGreatDoor
section
open Go.RowKit
def namesErr (k : Int) (nm mr : ByteArray) (b0 b1 : Bool) : Int := if namedB k nm mr b0 b1 then (if k = 13 ∧ nm = mr then 7 else 0) else 6
theorem one_byte {s : ByteArray} (h : s.size = 1) : ∃ c : UInt8, s = ⟨#[c]⟩ := by
 obtain ⟨d⟩ := s
 obtain ⟨l⟩ := d
 match l, h with
 | [c], _ => exact ⟨c, rfl⟩
theorem ops_long {s : ByteArray} (h : ¬ s.size = 1) : hasB opNames s = false := by
 refine hasB_no fun i hi e => h ?_
 simp only [opNames, List.length_cons, List.length_nil] at hi
 have : i = 0 ∨ i = 1 ∨ i = 2 ∨ i = 3 ∨ i = 4 := by omega
 rcases this with rfl | rfl | rfl | rfl | rfl <;> (rw [← e]; rfl)
theorem ops_index (c : UInt8) : decide ((0 : Int) ≤ Lib.indexByte [43, 45, 42, 61, 60] c) = hasB opNames ⟨#[c]⟩ := by
 have e : ∀ x : UInt8, decide ((⟨#[x]⟩ : ByteArray) = ⟨#[c]⟩) = decide (x = c) := fun x => by
  rw [decide_eq_decide]; constructor
  ·intro h; injection h with h; injection h with h; injection h
  ·rintro rfl; rfl
 simp only [hasB, opNames, List.any_cons, List.any_nil, e, Bool.or_false]
 simp only [Lib.indexByte]
 by_cases e1 : (43 : UInt8) = c
 ·subst e1; decide
 by_cases e2 : (45 : UInt8) = c
 ·subst e2; decide
 by_cases e3 : (42 : UInt8) = c
 ·subst e3; decide
 by_cases e4 : (61 : UInt8) = c
 ·subst e4; decide
 by_cases e5 : (60 : UInt8) = c
 ·subst e5; decide
 simp [e1, e2, e3, e4, e5]
set_option maxHeartbeats 4000000 in
theorem scheckNames_any (k : Int) (nn nu ns : Nat) (nm mr : ByteArray) (it d : Int) (sv : Value) (w : World) (hsh : shapeK k = some (nn, nu, ns)) :
  Calls Tryz.prog 144 #[.agg #[.int .i64 k, .string nm, .string mr, .int .i64 it, .int .i64 d, sv], .int .i64 nn] w fun e w' => e = .returned (.int .i64 (namesErr k nm mr (decide (1 ≤ nn)) (decide (2 ≤ nn)))) ∧ Below w.heap.size w w' := by
 have HNM := Lib.hid (fun W => sname_any nm W)
 have HMR := Lib.hid (fun W => sname_any mr W)
 have HLB := Lib.hid (fun W => label_any nm W)
 rcases shapeK_cases hsh with ⟨rfl, e⟩ | ⟨rfl, e⟩ | ⟨rfl, e⟩ | ⟨rfl, e⟩ | ⟨rfl, e⟩ | ⟨rfl, e⟩ | ⟨rfl, e⟩ | ⟨rfl, e⟩ | ⟨rfl, e⟩ | ⟨rfl, e⟩ | ⟨rfl, e⟩ | ⟨rfl, e⟩ | ⟨rfl, e⟩ | ⟨rfl, e⟩ | ⟨rfl, e⟩
 ·cases e
  have HE : Hid (namesErr 1 nm mr false false = 0) := Lib.hid (by simp [namesErr, namedB, okName, ])
  clear  hsh
  have tok1 : True := trivial
  go_enter Tryz.func144, Tryz.ntmps144
  go_wp2_with fail
  go_ret
  exact ⟨ret_intE (a := 0) HE.out.symm, (Below.refl _ _).alloc (Nat.le_refl _) _⟩
 ·cases e
  have HE : Hid (namesErr 2 nm mr false false = 0) := Lib.hid (by simp [namesErr, namedB, okName, ])
  clear  hsh
  have tok1 : True := trivial
  go_enter Tryz.func144, Tryz.ntmps144
  go_wp2_with fail
  go_ret
  exact ⟨ret_intE (a := 0) HE.out.symm, (Below.refl _ _).alloc (Nat.le_refl _) _⟩
 ·cases e
  cases hn : nameB nm
  ·rw [hn] at HNM
   have HE : Hid (namesErr 3 nm mr true false = 6) := Lib.hid (by simp [namesErr, namedB, okName, hn])
   clear hn hsh
   have tok1 : True := trivial
   go_enter Tryz.func144, Tryz.ntmps144
   go_wp2_with (first | ((go_at_call 161); have _t := tok1; (with_reducible refine (HNM.out _).mono ?_); rintro e wn ⟨rfl, hbn⟩; clear tok1 _t; obtain ⟨hcn, hfn⟩ := bcellE hbn; have hln : w.heap.size < wn.heap.size := by (have hzz := hbn.size; simp at hzz; omega)))
   go_ret
   exact ⟨ret_intE (a := 6) HE.out.symm, ((Below.refl _ _).alloc (Nat.le_refl _) _).trans (hbn.mono (by first | omega | (simp; done) | (simp; omega)))⟩
  ·rw [hn] at HNM
   have HE : Hid (namesErr 3 nm mr true false = 0) := Lib.hid (by simp [namesErr, namedB, okName, hn])
   clear hn hsh
   have tok1 : True := trivial
   go_enter Tryz.func144, Tryz.ntmps144
   go_wp2_with (first | ((go_at_call 161); have _t := tok1; (with_reducible refine (HNM.out _).mono ?_); rintro e wn ⟨rfl, hbn⟩; clear tok1 _t; obtain ⟨hcn, hfn⟩ := bcellE hbn; have hln : w.heap.size < wn.heap.size := by (have hzz := hbn.size; simp at hzz; omega)))
   go_ret
   exact ⟨ret_intE (a := 0) HE.out.symm, ((Below.refl _ _).alloc (Nat.le_refl _) _).trans (hbn.mono (by first | omega | (simp; done) | (simp; omega)))⟩
 ·cases e
  cases hn : nameB nm
  ·rw [hn] at HNM
   have HE : Hid (namesErr 4 nm mr true true = 6) := Lib.hid (by simp [namesErr, namedB, okName, hn])
   clear hn hsh
   have tok1 : True := trivial
   go_enter Tryz.func144, Tryz.ntmps144
   go_wp2_with (first | ((go_at_call 161); have _t := tok1; (with_reducible refine (HNM.out _).mono ?_); rintro e wn ⟨rfl, hbn⟩; clear tok1 _t; obtain ⟨hcn, hfn⟩ := bcellE hbn; have hln : w.heap.size < wn.heap.size := by (have hzz := hbn.size; simp at hzz; omega)))
   go_ret
   exact ⟨ret_intE (a := 6) HE.out.symm, ((Below.refl _ _).alloc (Nat.le_refl _) _).trans (hbn.mono (by first | omega | (simp; done) | (simp; omega)))⟩
  ·rw [hn] at HNM
   cases hm : nameB mr
   ·rw [hm] at HMR
    have HE : Hid (namesErr 4 nm mr true true = 6) := Lib.hid (by simp [namesErr, namedB, okName, hn, hm])
    clear hn hm hsh
    have tok1 : True := trivial
    go_enter Tryz.func144, Tryz.ntmps144
    go_wp2_with (first | ((go_at_call 161); have _t := tok1; (with_reducible refine (HNM.out _).mono ?_); rintro e wn ⟨rfl, hbn⟩; clear tok1 _t; obtain ⟨hcn, hfn⟩ := bcellE hbn; have hln : w.heap.size < wn.heap.size := by (have hzz := hbn.size; simp at hzz; omega)) | ((go_at_call 161); (with_reducible refine (HMR.out _).mono ?_); rintro e wm ⟨rfl, hbm⟩; obtain ⟨hcm, hfm⟩ := bcellE hbm))
    go_ret
    exact ⟨ret_intE (a := 6) HE.out.symm, (((Below.refl _ _).alloc (Nat.le_refl _) _).trans (hbn.mono (by first | omega | (simp; done) | (simp; omega)))).trans (hbm.mono (by have := hbn.size; simp at this; omega))⟩
   ·rw [hm] at HMR
    have HE : Hid (namesErr 4 nm mr true true = 0) := Lib.hid (by simp [namesErr, namedB, okName, hn, hm])
    clear hn hm hsh
    have tok1 : True := trivial
    go_enter Tryz.func144, Tryz.ntmps144
    go_wp2_with (first | ((go_at_call 161); have _t := tok1; (with_reducible refine (HNM.out _).mono ?_); rintro e wn ⟨rfl, hbn⟩; clear tok1 _t; obtain ⟨hcn, hfn⟩ := bcellE hbn; have hln : w.heap.size < wn.heap.size := by (have hzz := hbn.size; simp at hzz; omega)) | ((go_at_call 161); (with_reducible refine (HMR.out _).mono ?_); rintro e wm ⟨rfl, hbm⟩; obtain ⟨hcm, hfm⟩ := bcellE hbm))
    go_ret
    exact ⟨ret_intE (a := 0) HE.out.symm, (((Below.refl _ _).alloc (Nat.le_refl _) _).trans (hbn.mono (by first | omega | (simp; done) | (simp; omega)))).trans (hbm.mono (by have := hbn.size; simp at this; omega))⟩
 ·cases e
  by_cases hz : nm.size = 0
  ·obtain rfl := size_zero hz
   have HE : Hid (namesErr 5 ⟨#[]⟩ mr true false = 0) := Lib.hid rfl
   clear hz HNM HLB hsh
   have tok1 : True := trivial
   go_enter Tryz.func144, Tryz.ntmps144
   go_wp2_with fail
   go_ret
   exact ⟨ret_intE (a := 0) HE.out.symm, (Below.refl _ _).alloc (Nat.le_refl _) _⟩
  ·have hz1 := toList_ne' hz
   cases hl : labelL nm.data.toList
   ·rw [hl] at HLB
    have HE : Hid (namesErr 5 nm mr true false = 6) := Lib.hid (by simp [namesErr, namedB, okName, hl, hz])
    clear hl hz hsh
    have tok1 : True := trivial
    go_enter Tryz.func144, Tryz.ntmps144
    go_wp2_with (first | ((go_at_call 57); (with_reducible refine (HLB.out _).mono ?_); rintro e wn ⟨rfl, hbn⟩; obtain ⟨hcn, hfn⟩ := bcellE hbn))
    go_ret
    exact ⟨ret_intE (a := 6) HE.out.symm, ((Below.refl _ _).alloc (Nat.le_refl _) _).trans (hbn.mono (by first | omega | (simp; done) | (simp; omega)))⟩
   ·rw [hl] at HLB
    have HE : Hid (namesErr 5 nm mr true false = 0) := Lib.hid (by simp [namesErr, namedB, okName, hl])
    clear hl hz hsh
    have tok1 : True := trivial
    go_enter Tryz.func144, Tryz.ntmps144
    go_wp2_with (first | ((go_at_call 57); (with_reducible refine (HLB.out _).mono ?_); rintro e wn ⟨rfl, hbn⟩; obtain ⟨hcn, hfn⟩ := bcellE hbn))
    go_ret
    exact ⟨ret_intE (a := 0) HE.out.symm, ((Below.refl _ _).alloc (Nat.le_refl _) _).trans (hbn.mono (by first | omega | (simp; done) | (simp; omega)))⟩
 ·cases e
  cases hn : nameB nm
  ·rw [hn] at HNM
   have HE : Hid (namesErr 6 nm mr true false = 6) := Lib.hid (by simp [namesErr, namedB, okName, hn])
   clear hn hsh
   have tok1 : True := trivial
   go_enter Tryz.func144, Tryz.ntmps144
   go_wp2_with (first | ((go_at_call 161); have _t := tok1; (with_reducible refine (HNM.out _).mono ?_); rintro e wn ⟨rfl, hbn⟩; clear tok1 _t; obtain ⟨hcn, hfn⟩ := bcellE hbn; have hln : w.heap.size < wn.heap.size := by (have hzz := hbn.size; simp at hzz; omega)))
   go_ret
   exact ⟨ret_intE (a := 6) HE.out.symm, ((Below.refl _ _).alloc (Nat.le_refl _) _).trans (hbn.mono (by first | omega | (simp; done) | (simp; omega)))⟩
  ·rw [hn] at HNM
   have HE : Hid (namesErr 6 nm mr true false = 0) := Lib.hid (by simp [namesErr, namedB, okName, hn])
   clear hn hsh
   have tok1 : True := trivial
   go_enter Tryz.func144, Tryz.ntmps144
   go_wp2_with (first | ((go_at_call 161); have _t := tok1; (with_reducible refine (HNM.out _).mono ?_); rintro e wn ⟨rfl, hbn⟩; clear tok1 _t; obtain ⟨hcn, hfn⟩ := bcellE hbn; have hln : w.heap.size < wn.heap.size := by (have hzz := hbn.size; simp at hzz; omega)))
   go_ret
   exact ⟨ret_intE (a := 0) HE.out.symm, ((Below.refl _ _).alloc (Nat.le_refl _) _).trans (hbn.mono (by first | omega | (simp; done) | (simp; omega)))⟩
 ·cases e
  have HE : Hid (namesErr 7 nm mr false false = 0) := Lib.hid (by simp [namesErr, namedB, okName, ])
  clear  hsh
  have tok1 : True := trivial
  go_enter Tryz.func144, Tryz.ntmps144
  go_wp2_with fail
  go_ret
  exact ⟨ret_intE (a := 0) HE.out.symm, (Below.refl _ _).alloc (Nat.le_refl _) _⟩
 ·cases e
  cases hn : nameB nm
  ·rw [hn] at HNM
   have HE : Hid (namesErr 8 nm mr true false = 6) := Lib.hid (by simp [namesErr, namedB, okName, hn])
   clear hn hsh
   have tok1 : True := trivial
   go_enter Tryz.func144, Tryz.ntmps144
   go_wp2_with (first | ((go_at_call 161); have _t := tok1; (with_reducible refine (HNM.out _).mono ?_); rintro e wn ⟨rfl, hbn⟩; clear tok1 _t; obtain ⟨hcn, hfn⟩ := bcellE hbn; have hln : w.heap.size < wn.heap.size := by (have hzz := hbn.size; simp at hzz; omega)))
   go_ret
   exact ⟨ret_intE (a := 6) HE.out.symm, ((Below.refl _ _).alloc (Nat.le_refl _) _).trans (hbn.mono (by first | omega | (simp; done) | (simp; omega)))⟩
  ·rw [hn] at HNM
   have HE : Hid (namesErr 8 nm mr true false = 0) := Lib.hid (by simp [namesErr, namedB, okName, hn])
   clear hn hsh
   have tok1 : True := trivial
   go_enter Tryz.func144, Tryz.ntmps144
   go_wp2_with (first | ((go_at_call 161); have _t := tok1; (with_reducible refine (HNM.out _).mono ?_); rintro e wn ⟨rfl, hbn⟩; clear tok1 _t; obtain ⟨hcn, hfn⟩ := bcellE hbn; have hln : w.heap.size < wn.heap.size := by (have hzz := hbn.size; simp at hzz; omega)))
   go_ret
   exact ⟨ret_intE (a := 0) HE.out.symm, ((Below.refl _ _).alloc (Nat.le_refl _) _).trans (hbn.mono (by first | omega | (simp; done) | (simp; omega)))⟩
 ·cases e
  have HE : Hid (namesErr 9 nm mr false false = 0) := Lib.hid (by simp [namesErr, namedB, okName, ])
  clear  hsh
  have tok1 : True := trivial
  go_enter Tryz.func144, Tryz.ntmps144
  go_wp2_with fail
  go_ret
  exact ⟨ret_intE (a := 0) HE.out.symm, (Below.refl _ _).alloc (Nat.le_refl _) _⟩
 ·cases e
  by_cases hz : nm.size = 1
  ·obtain ⟨c, rfl⟩ := one_byte hz
   have HCT : Hid (∀ W : World, Calls Tryz.prog 105 #[.string ⟨#[43, 45, 42, 61, 60]⟩, .string ⟨#[c]⟩] W fun e w' => e = .returned (.bool (hasB opNames ⟨#[c]⟩)) ∧ W = w') := Lib.hid (fun W => by have := contains_one ⟨#[43, 45, 42, 61, 60]⟩ c W; rw [ops_index] at this; exact this)
   cases hl : hasB opNames ⟨#[c]⟩
   ·rw [hl] at HCT
    have HE : Hid (namesErr 10 ⟨#[c]⟩ mr true false = 6) := Lib.hid (by simp [namesErr, namedB, okName, hl])
    clear hl hz HNM HLB hsh
    have tok1 : True := trivial
    go_enter Tryz.func144, Tryz.ntmps144
    go_wp2_with (first | ((go_at_call 105); refine (HCT.out _).mono ?_; rintro e wn ⟨rfl, rfl⟩))
    go_ret
    exact ⟨ret_intE (a := 6) HE.out.symm, (Below.refl _ _).alloc (Nat.le_refl _) _⟩
   ·rw [hl] at HCT
    have HE : Hid (namesErr 10 ⟨#[c]⟩ mr true false = 0) := Lib.hid (by simp [namesErr, namedB, okName, hl])
    clear hl hz HNM HLB hsh
    have tok1 : True := trivial
    go_enter Tryz.func144, Tryz.ntmps144
    go_wp2_with (first | ((go_at_call 105); refine (HCT.out _).mono ?_; rintro e wn ⟨rfl, rfl⟩))
    go_ret
    exact ⟨ret_intE (a := 0) HE.out.symm, (Below.refl _ _).alloc (Nat.le_refl _) _⟩
  ·have hz1 : ((nm.size : Int) == 1) = false := by simp; omega
   have hz2 : (nm.size == 1) = false := by simpa using hz
   have HE : Hid (namesErr 10 nm mr true false = 6) := Lib.hid (by simp [namesErr, namedB, okName, ops_long hz])
   clear hz hsh
   have tok1 : True := trivial
   go_enter Tryz.func144, Tryz.ntmps144
   go_wp2_with fail
   go_ret
   exact ⟨ret_intE (a := 6) HE.out.symm, (Below.refl _ _).alloc (Nat.le_refl _) _⟩
 ·cases e
  have HE : Hid (namesErr 11 nm mr false false = 0) := Lib.hid (by simp [namesErr, namedB, okName, ])
  clear  hsh
  have tok1 : True := trivial
  go_enter Tryz.func144, Tryz.ntmps144
  go_wp2_with fail
  go_ret
  exact ⟨ret_intE (a := 0) HE.out.symm, (Below.refl _ _).alloc (Nat.le_refl _) _⟩
 ·cases e
  have HE : Hid (namesErr 12 nm mr false false = 0) := Lib.hid (by simp [namesErr, namedB, okName, ])
  clear  hsh
  have tok1 : True := trivial
  go_enter Tryz.func144, Tryz.ntmps144
  go_wp2_with fail
  go_ret
  exact ⟨ret_intE (a := 0) HE.out.symm, (Below.refl _ _).alloc (Nat.le_refl _) _⟩
 ·cases e
  cases hn : nameB nm
  ·rw [hn] at HNM
   have HE : Hid (namesErr 13 nm mr true true = 6) := Lib.hid (by simp [namesErr, namedB, okName, hn])
   clear hn hsh
   have tok1 : True := trivial
   go_enter Tryz.func144, Tryz.ntmps144
   go_wp2_with (first | ((go_at_call 161); have _t := tok1; (with_reducible refine (HNM.out _).mono ?_); rintro e wn ⟨rfl, hbn⟩; clear tok1 _t; obtain ⟨hcn, hfn⟩ := bcellE hbn; have hln : w.heap.size < wn.heap.size := by (have hzz := hbn.size; simp at hzz; omega)))
   go_ret
   exact ⟨ret_intE (a := 6) HE.out.symm, ((Below.refl _ _).alloc (Nat.le_refl _) _).trans (hbn.mono (by first | omega | (simp; done) | (simp; omega)))⟩
  ·rw [hn] at HNM
   cases hm : nameB mr
   ·rw [hm] at HMR
    have HE : Hid (namesErr 13 nm mr true true = 6) := Lib.hid (by simp [namesErr, namedB, okName, hn, hm])
    clear hn hm hsh
    have tok1 : True := trivial
    go_enter Tryz.func144, Tryz.ntmps144
    go_wp2_with (first | ((go_at_call 161); have _t := tok1; (with_reducible refine (HNM.out _).mono ?_); rintro e wn ⟨rfl, hbn⟩; clear tok1 _t; obtain ⟨hcn, hfn⟩ := bcellE hbn; have hln : w.heap.size < wn.heap.size := by (have hzz := hbn.size; simp at hzz; omega)) | ((go_at_call 161); (with_reducible refine (HMR.out _).mono ?_); rintro e wm ⟨rfl, hbm⟩; obtain ⟨hcm, hfm⟩ := bcellE hbm))
    go_ret
    exact ⟨ret_intE (a := 6) HE.out.symm, (((Below.refl _ _).alloc (Nat.le_refl _) _).trans (hbn.mono (by first | omega | (simp; done) | (simp; omega)))).trans (hbm.mono (by have := hbn.size; simp at this; omega))⟩
   ·rw [hm] at HMR
    by_cases hq : nm = mr
    ·subst hq
     have HE : Hid (namesErr 13 nm nm true true = 7) := Lib.hid (by simp [namesErr, namedB, okName, hn])
     clear hn hm HMR hsh
     have tok1 : True := trivial
     go_enter Tryz.func144, Tryz.ntmps144
     go_wp2_with (first | ((go_at_call 161); have _t := tok1; (with_reducible refine (HNM.out _).mono ?_); rintro e wn ⟨rfl, hbn⟩; clear tok1 _t; obtain ⟨hcn, hfn⟩ := bcellE hbn; have hln : w.heap.size < wn.heap.size := by (have hzz := hbn.size; simp at hzz; omega)) | ((go_at_call 161); (with_reducible refine (HNM.out _).mono ?_); rintro e wm ⟨rfl, hbm⟩; obtain ⟨hcm, hfm⟩ := bcellE hbm))
     go_ret
     exact ⟨ret_intE (a := 7) HE.out.symm, (((Below.refl _ _).alloc (Nat.le_refl _) _).trans (hbn.mono (by first | omega | (simp; done) | (simp; omega)))).trans (hbm.mono (by have := hbn.size; simp at this; omega))⟩
    ·have hq1 : (nm.toList == mr.toList) = false := (Lib.bytes_beq_false_iff _ _).2 hq
     have HE : Hid (namesErr 13 nm mr true true = 0) := Lib.hid (by simp [namesErr, namedB, okName, hn, hm, hq])
     clear hn hm hq hsh
     have tok1 : True := trivial
     go_enter Tryz.func144, Tryz.ntmps144
     go_wp2_with (first | ((go_at_call 161); have _t := tok1; (with_reducible refine (HNM.out _).mono ?_); rintro e wn ⟨rfl, hbn⟩; clear tok1 _t; obtain ⟨hcn, hfn⟩ := bcellE hbn; have hln : w.heap.size < wn.heap.size := by (have hzz := hbn.size; simp at hzz; omega)) | ((go_at_call 161); (with_reducible refine (HMR.out _).mono ?_); rintro e wm ⟨rfl, hbm⟩; obtain ⟨hcm, hfm⟩ := bcellE hbm))
     go_ret
     exact ⟨ret_intE (a := 0) HE.out.symm, (((Below.refl _ _).alloc (Nat.le_refl _) _).trans (hbn.mono (by first | omega | (simp; done) | (simp; omega)))).trans (hbm.mono (by have := hbn.size; simp at this; omega))⟩
 ·cases e
  have HE : Hid (namesErr 14 nm mr false false = 0) := Lib.hid (by simp [namesErr, namedB, okName, ])
  clear  hsh
  have tok1 : True := trivial
  go_enter Tryz.func144, Tryz.ntmps144
  go_wp2_with fail
  go_ret
  exact ⟨ret_intE (a := 0) HE.out.symm, (Below.refl _ _).alloc (Nat.le_refl _) _⟩
 ·cases e
  have HE : Hid (namesErr 15 nm mr false false = 0) := Lib.hid (by simp [namesErr, namedB, okName, ])
  clear  hsh
  have tok1 : True := trivial
  go_enter Tryz.func144, Tryz.ntmps144
  go_wp2_with fail
  go_ret
  exact ⟨ret_intE (a := 0) HE.out.symm, (Below.refl _ _).alloc (Nat.le_refl _) _⟩
end
section
open Go.RowKit
def argOk (nn nu ns : Nat) (nm mr : ByteArray) (it d : Int) (len : Nat) : Bool :=
 (decide (1 ≤ nn) || decide (nm.size = 0)) && (decide (2 ≤ nn) || decide (mr.size = 0)) && (decide (1 ≤ nu) || decide (it = 0)) && (decide (2 ≤ nu) || decide (d = 0)) && decide (len = ns)
def checkN (k : Int) (nm mr : ByteArray) (it d : Int) (len : Nat) : Int :=
 match shapeK k with
 | none => 9
 | some (nn, nu, ns) => if argOk nn nu ns nm mr it d len then (if namesErr k nm mr (decide (1 ≤ nn)) (decide (2 ≤ nn)) = 0 then rangeErr k it d else namesErr k nm mr (decide (1 ≤ nn)) (decide (2 ≤ nn))) else 1
theorem checkN_none {k : Int} {nm mr : ByteArray} {it d : Int} {len : Nat} (h : shapeK k = none) : checkN k nm mr it d len = 9 := by simp [checkN, h]
theorem checkN_arg {k : Int} {nm mr : ByteArray} {it d : Int} {len nn nu ns : Nat} (h : shapeK k = some (nn, nu, ns)) (ha : argOk nn nu ns nm mr it d len = false) : checkN k nm mr it d len = 1 := by simp [checkN, h, ha]
theorem checkN_names {k : Int} {nm mr : ByteArray} {it d : Int} {len nn nu ns : Nat} (h : shapeK k = some (nn, nu, ns)) (ha : argOk nn nu ns nm mr it d len = true) (hn : ¬ namesErr k nm mr (decide (1 ≤ nn)) (decide (2 ≤ nn)) = 0) : checkN k nm mr it d len = namesErr k nm mr (decide (1 ≤ nn)) (decide (2 ≤ nn)) := by simp only [checkN, h, ha]; simp [hn]
theorem checkN_range {k : Int} {nm mr : ByteArray} {it d : Int} {len nn nu ns : Nat} (h : shapeK k = some (nn, nu, ns)) (ha : argOk nn nu ns nm mr it d len = true) (hn : namesErr k nm mr (decide (1 ≤ nn)) (decide (2 ≤ nn)) = 0) : checkN k nm mr it d len = rangeErr k it d := by simp only [checkN, h, ha]; simp [hn]
theorem shape_flags {k : Int} {nn nu ns : Nat} (h : shapeK k = some (nn, nu, ns)) : (nn = 0 ∧ nu = 1) ∨ (nn = 1 ∧ nu = 0) ∨ (nn = 2 ∧ nu = 0) ∨ (nn = 1 ∧ nu = 1) ∨ (nn = 0 ∧ nu = 0) ∨ (nn = 0 ∧ nu = 2) := by
 rcases shapeK_cases h with ⟨_, e⟩ | ⟨_, e⟩ | ⟨_, e⟩ | ⟨_, e⟩ | ⟨_, e⟩ | ⟨_, e⟩ | ⟨_, e⟩ | ⟨_, e⟩ | ⟨_, e⟩ | ⟨_, e⟩ | ⟨_, e⟩ | ⟨_, e⟩ | ⟨_, e⟩ | ⟨_, e⟩ | ⟨_, e⟩ <;> (cases e; simp)
set_option maxHeartbeats 4000000 in
theorem scheckNode_no (k : Int) (nm mr : ByteArray) (it d : Int) (p : Option Addr) (len cap : Nat) (w : World) (hsh : shapeK k = none) :
  Calls Tryz.prog 84 #[.agg #[.int .i64 k, .string nm, .string mr, .int .i64 it, .int .i64 d, .slice p len cap]] w fun e w' => e = .returned (.int .i64 (checkN k nm mr it d len)) ∧ Below w.heap.size w w' := by
 have HSH := Lib.hid (fun W => sshapeOf_no k W hsh)
 have HE := Lib.hid (checkN_none (nm := nm) (mr := mr) (it := it) (d := d) (len := len) hsh)
 obtain ⟨w1, hw1, hX⟩ := boxed w #[.int .i64 k, .string nm, .string mr, .int .i64 it, .int .i64 d, .slice p len cap] 36
 have HW := Lib.hid hw1
 have HX := Lib.hid hX
 clear hX hw1 hsh
 go_enter Tryz.func84, Tryz.ntmps84
 go_wp2_with fail
 rw [HW.out]
 refine (HSH.out _).mono ?_
 rintro e ws ⟨rfl, hbs⟩
 obtain ⟨c0, c1, c2, c3, c4, c5⟩ := boxed6 HX.out hbs
 have hl1 : w.heap.size < ws.heap.size := by have := HX.out.size; have := hbs.size; omega
 have hbw : Below w.heap.size w ws := HX.out.below.trans (hbs.mono HX.out.below.size)
 clear hbs
 go_wp2_with fail
 go_ret
 exact ⟨ret_intE (a := 9) HE.out.symm, hbw.alloc (by first | omega | (simp; done) | (simp; omega)) _⟩
set_option maxHeartbeats 40000000 in
theorem scheckNode_yes (k : Int) (nn nu ns : Nat) (nm mr : ByteArray) (it d : Int) (p : Option Addr) (len cap : Nat) (w : World) (hsh : shapeK k = some (nn, nu, ns)) :
  Calls Tryz.prog 84 #[.agg #[.int .i64 k, .string nm, .string mr, .int .i64 it, .int .i64 d, .slice p len cap]] w fun e w' => e = .returned (.int .i64 (checkN k nm mr it d len)) ∧ Below w.heap.size w w' := by
 have HSH := Lib.hid (fun W => sshapeOf_yes k nn nu ns W hsh)
 have HNE := Lib.hid (fun W => scheckNames_any k nn nu ns nm mr it d (.slice p len cap) W hsh)
 obtain ⟨ne, hne⟩ : ∃ ne, namesErr k nm mr (decide (1 ≤ nn)) (decide (2 ≤ nn)) = ne := ⟨_, rfl⟩
 rw [hne] at HNE
 have HM := Lib.hid hne
 have HK := Lib.hid hsh
 clear hne
 obtain ⟨w1, hw1, hX⟩ := boxed w #[.int .i64 k, .string nm, .string mr, .int .i64 it, .int .i64 d, .slice p len cap] 36
 have HW := Lib.hid hw1
 have HX := Lib.hid hX
 clear hX hw1 hsh
 go_enter Tryz.func84, Tryz.ntmps84
 go_wp2_with fail
 rw [HW.out]
 refine (HSH.out _).mono ?_
 rintro e ws ⟨rfl, hbs⟩
 obtain ⟨c0, c1, c2, c3, c4, c5⟩ := boxed6 HX.out hbs
 have hl1 : w.heap.size < ws.heap.size := by have := HX.out.size; have := hbs.size; omega
 have hbw : Below w.heap.size w ws := HX.out.below.trans (hbs.mono HX.out.below.size)
 clear hbs
 rcases shape_flags HK.out with ⟨rfl, rfl⟩ | ⟨rfl, rfl⟩ | ⟨rfl, rfl⟩ | ⟨rfl, rfl⟩ | ⟨rfl, rfl⟩ | ⟨rfl, rfl⟩
 case' inl =>
  by_cases hz : nm.size = 0
  rotate_left
  ·have hz1 := toList_ne' hz
   have HZ := Lib.hid hz
   clear hz
   go_wp2_with fail
   go_ret
   exact ⟨ret_intE (a := 1) (checkN_arg HK.out (by simp [argOk, HZ.out])).symm, hbw.alloc (by first | omega | (simp; done) | (simp; omega)) _⟩
  obtain rfl := size_zero hz
  clear hz
  by_cases hz : mr.size = 0
  rotate_left
  ·have hz1 := toList_ne' hz
   have HZ := Lib.hid hz
   clear hz
   go_wp2_with fail
   go_ret
   exact ⟨ret_intE (a := 1) (checkN_arg HK.out (by simp [argOk, HZ.out])).symm, hbw.alloc (by first | omega | (simp; done) | (simp; omega)) _⟩
  obtain rfl := size_zero hz
  clear hz
  by_cases hz : d = 0
  rotate_left
  ·have hz1 : (d != 0) = true := by simpa using hz
   have HZ := Lib.hid hz
   clear hz
   go_wp2_with fail
   go_ret
   exact ⟨ret_intE (a := 1) (checkN_arg HK.out (by simp [argOk, HZ.out])).symm, hbw.alloc (by first | omega | (simp; done) | (simp; omega)) _⟩
  subst hz
  by_cases hz : len = ns
  rotate_left
  ·have hz1 : ((len : Int) != (ns : Int)) = true := by simp; omega
   have hz2 : (len != ns) = true := by simpa using hz
   have HZ := Lib.hid hz
   clear hz
   go_wp2_with fail
   go_ret
   exact ⟨ret_intE (a := 1) (checkN_arg HK.out (by simp [argOk, HZ.out])).symm, hbw.alloc (by first | omega | (simp; done) | (simp; omega)) _⟩
  subst hz
 case' inr.inl =>
  by_cases hz : mr.size = 0
  rotate_left
  ·have hz1 := toList_ne' hz
   have HZ := Lib.hid hz
   clear hz
   go_wp2_with fail
   go_ret
   exact ⟨ret_intE (a := 1) (checkN_arg HK.out (by simp [argOk, HZ.out])).symm, hbw.alloc (by first | omega | (simp; done) | (simp; omega)) _⟩
  obtain rfl := size_zero hz
  clear hz
  by_cases hz : it = 0
  rotate_left
  ·have hz1 : (it != 0) = true := by simpa using hz
   have HZ := Lib.hid hz
   clear hz
   go_wp2_with fail
   go_ret
   exact ⟨ret_intE (a := 1) (checkN_arg HK.out (by simp [argOk, HZ.out])).symm, hbw.alloc (by first | omega | (simp; done) | (simp; omega)) _⟩
  subst hz
  by_cases hz : d = 0
  rotate_left
  ·have hz1 : (d != 0) = true := by simpa using hz
   have HZ := Lib.hid hz
   clear hz
   go_wp2_with fail
   go_ret
   exact ⟨ret_intE (a := 1) (checkN_arg HK.out (by simp [argOk, HZ.out])).symm, hbw.alloc (by first | omega | (simp; done) | (simp; omega)) _⟩
  subst hz
  by_cases hz : len = ns
  rotate_left
  ·have hz1 : ((len : Int) != (ns : Int)) = true := by simp; omega
   have hz2 : (len != ns) = true := by simpa using hz
   have HZ := Lib.hid hz
   clear hz
   go_wp2_with fail
   go_ret
   exact ⟨ret_intE (a := 1) (checkN_arg HK.out (by simp [argOk, HZ.out])).symm, hbw.alloc (by first | omega | (simp; done) | (simp; omega)) _⟩
  subst hz
 case' inr.inr.inl =>
  by_cases hz : it = 0
  rotate_left
  ·have hz1 : (it != 0) = true := by simpa using hz
   have HZ := Lib.hid hz
   clear hz
   go_wp2_with fail
   go_ret
   exact ⟨ret_intE (a := 1) (checkN_arg HK.out (by simp [argOk, HZ.out])).symm, hbw.alloc (by first | omega | (simp; done) | (simp; omega)) _⟩
  subst hz
  by_cases hz : d = 0
  rotate_left
  ·have hz1 : (d != 0) = true := by simpa using hz
   have HZ := Lib.hid hz
   clear hz
   go_wp2_with fail
   go_ret
   exact ⟨ret_intE (a := 1) (checkN_arg HK.out (by simp [argOk, HZ.out])).symm, hbw.alloc (by first | omega | (simp; done) | (simp; omega)) _⟩
  subst hz
  by_cases hz : len = ns
  rotate_left
  ·have hz1 : ((len : Int) != (ns : Int)) = true := by simp; omega
   have hz2 : (len != ns) = true := by simpa using hz
   have HZ := Lib.hid hz
   clear hz
   go_wp2_with fail
   go_ret
   exact ⟨ret_intE (a := 1) (checkN_arg HK.out (by simp [argOk, HZ.out])).symm, hbw.alloc (by first | omega | (simp; done) | (simp; omega)) _⟩
  subst hz
 case' inr.inr.inr.inl =>
  by_cases hz : mr.size = 0
  rotate_left
  ·have hz1 := toList_ne' hz
   have HZ := Lib.hid hz
   clear hz
   go_wp2_with fail
   go_ret
   exact ⟨ret_intE (a := 1) (checkN_arg HK.out (by simp [argOk, HZ.out])).symm, hbw.alloc (by first | omega | (simp; done) | (simp; omega)) _⟩
  obtain rfl := size_zero hz
  clear hz
  by_cases hz : d = 0
  rotate_left
  ·have hz1 : (d != 0) = true := by simpa using hz
   have HZ := Lib.hid hz
   clear hz
   go_wp2_with fail
   go_ret
   exact ⟨ret_intE (a := 1) (checkN_arg HK.out (by simp [argOk, HZ.out])).symm, hbw.alloc (by first | omega | (simp; done) | (simp; omega)) _⟩
  subst hz
  by_cases hz : len = ns
  rotate_left
  ·have hz1 : ((len : Int) != (ns : Int)) = true := by simp; omega
   have hz2 : (len != ns) = true := by simpa using hz
   have HZ := Lib.hid hz
   clear hz
   go_wp2_with fail
   go_ret
   exact ⟨ret_intE (a := 1) (checkN_arg HK.out (by simp [argOk, HZ.out])).symm, hbw.alloc (by first | omega | (simp; done) | (simp; omega)) _⟩
  subst hz
 case' inr.inr.inr.inr.inl =>
  by_cases hz : nm.size = 0
  rotate_left
  ·have hz1 := toList_ne' hz
   have HZ := Lib.hid hz
   clear hz
   go_wp2_with fail
   go_ret
   exact ⟨ret_intE (a := 1) (checkN_arg HK.out (by simp [argOk, HZ.out])).symm, hbw.alloc (by first | omega | (simp; done) | (simp; omega)) _⟩
  obtain rfl := size_zero hz
  clear hz
  by_cases hz : mr.size = 0
  rotate_left
  ·have hz1 := toList_ne' hz
   have HZ := Lib.hid hz
   clear hz
   go_wp2_with fail
   go_ret
   exact ⟨ret_intE (a := 1) (checkN_arg HK.out (by simp [argOk, HZ.out])).symm, hbw.alloc (by first | omega | (simp; done) | (simp; omega)) _⟩
  obtain rfl := size_zero hz
  clear hz
  by_cases hz : it = 0
  rotate_left
  ·have hz1 : (it != 0) = true := by simpa using hz
   have HZ := Lib.hid hz
   clear hz
   go_wp2_with fail
   go_ret
   exact ⟨ret_intE (a := 1) (checkN_arg HK.out (by simp [argOk, HZ.out])).symm, hbw.alloc (by first | omega | (simp; done) | (simp; omega)) _⟩
  subst hz
  by_cases hz : d = 0
  rotate_left
  ·have hz1 : (d != 0) = true := by simpa using hz
   have HZ := Lib.hid hz
   clear hz
   go_wp2_with fail
   go_ret
   exact ⟨ret_intE (a := 1) (checkN_arg HK.out (by simp [argOk, HZ.out])).symm, hbw.alloc (by first | omega | (simp; done) | (simp; omega)) _⟩
  subst hz
  by_cases hz : len = ns
  rotate_left
  ·have hz1 : ((len : Int) != (ns : Int)) = true := by simp; omega
   have hz2 : (len != ns) = true := by simpa using hz
   have HZ := Lib.hid hz
   clear hz
   go_wp2_with fail
   go_ret
   exact ⟨ret_intE (a := 1) (checkN_arg HK.out (by simp [argOk, HZ.out])).symm, hbw.alloc (by first | omega | (simp; done) | (simp; omega)) _⟩
  subst hz
 case' inr.inr.inr.inr.inr =>
  by_cases hz : nm.size = 0
  rotate_left
  ·have hz1 := toList_ne' hz
   have HZ := Lib.hid hz
   clear hz
   go_wp2_with fail
   go_ret
   exact ⟨ret_intE (a := 1) (checkN_arg HK.out (by simp [argOk, HZ.out])).symm, hbw.alloc (by first | omega | (simp; done) | (simp; omega)) _⟩
  obtain rfl := size_zero hz
  clear hz
  by_cases hz : mr.size = 0
  rotate_left
  ·have hz1 := toList_ne' hz
   have HZ := Lib.hid hz
   clear hz
   go_wp2_with fail
   go_ret
   exact ⟨ret_intE (a := 1) (checkN_arg HK.out (by simp [argOk, HZ.out])).symm, hbw.alloc (by first | omega | (simp; done) | (simp; omega)) _⟩
  obtain rfl := size_zero hz
  clear hz
  by_cases hz : len = ns
  rotate_left
  ·have hz1 : ((len : Int) != (ns : Int)) = true := by simp; omega
   have hz2 : (len != ns) = true := by simpa using hz
   have HZ := Lib.hid hz
   clear hz
   go_wp2_with fail
   go_ret
   exact ⟨ret_intE (a := 1) (checkN_arg HK.out (by simp [argOk, HZ.out])).symm, hbw.alloc (by first | omega | (simp; done) | (simp; omega)) _⟩
  subst hz
 all_goals
  by_cases hz : ne = 0
  ·subst hz
   go_wp2_with (first
    | (go_at_call 144; refine (HNE.out _).mono ?_; rintro e wn ⟨rfl, hbn⟩; obtain ⟨hcn, hfn⟩ := bcellE hbn; have hln : w.heap.size < ws.heap.size + 1 := by omega)
    | (go_at_call 145; refine (scheckNumbers_any _ _ _ _ _ _ _).mono ?_; rintro e wm ⟨rfl, hbm⟩))
   go_ret
   exact ⟨ret_intE (checkN_range HK.out (by simp [argOk] <;> rfl) HM.out).symm, ((hbw.alloc (by first | omega | (simp; done) | (simp; omega)) _).trans (hbn.mono (by first | omega | (simp; done) | (simp; omega)))).trans (hbm.mono (by have hz1 := hbn.size; simp at hz1; omega))⟩
  ·have hz1 : (ne != 0) = true := by simpa using hz
   have HZ := Lib.hid hz
   clear hz
   go_wp2_with (first
    | (go_at_call 144; refine (HNE.out _).mono ?_; rintro e wn ⟨rfl, hbn⟩; obtain ⟨hcn, hfn⟩ := bcellE hbn; have hln : w.heap.size < ws.heap.size + 1 := by omega))
   go_ret
   exact ⟨ret_intE (a := ne) ((checkN_names HK.out (by simp [argOk] <;> rfl) (by rw [HM.out]; exact HZ.out)).trans HM.out).symm, (hbw.alloc (by first | omega | (simp; done) | (simp; omega)) _).trans (hbn.mono (by first | omega | (simp; done) | (simp; omega)))⟩
theorem scheckNode_any (k : Int) (nm mr : ByteArray) (it d : Int) (p : Option Addr) (len cap : Nat) (w : World) :
  Calls Tryz.prog 84 #[.agg #[.int .i64 k, .string nm, .string mr, .int .i64 it, .int .i64 d, .slice p len cap]] w fun e w' => e = .returned (.int .i64 (checkN k nm mr it d len)) ∧ Below w.heap.size w w' := by
 rcases h : shapeK k with _ | ⟨nn, nu, ns⟩
 ·exact scheckNode_no k nm mr it d p len cap w h
 ·exact scheckNode_yes k nn nu ns nm mr it d p len cap w h
end
section
open Go.RowKit
mutual
def checkE : Ex → Int
 | .mk k n m i d s => if checkN k n m i d s.length = 0 then checkEs s else checkN k n m i d s.length
def checkEs : List Ex → Int
 | [] => 0
 | e :: es => if checkE e = 0 then checkEs es else checkE e
end
theorem checkE_bad {k : Int} {nm mr : ByteArray} {it d c : Int} {sub : List Ex} (h : checkN k nm mr it d sub.length = c) (hc : ¬ c = 0) : checkE (.mk k nm mr it d sub) = c := by rw [checkE, h, if_neg hc]
theorem checkE_good {k : Int} {nm mr : ByteArray} {it d : Int} {sub : List Ex} (h : checkN k nm mr it d sub.length = 0) : checkE (.mk k nm mr it d sub) = checkEs sub := by rw [checkE, if_pos h]
theorem checkEs_append : ∀ a b : List Ex, checkEs (a ++ b) = if checkEs a = 0 then checkEs b else checkEs a
 | [], b => by simp [checkEs]
 | e :: es, b => by
  simp only [checkEs, List.cons_append, checkEs_append es b]
  by_cases h : checkE e = 0 <;> simp [h]
theorem checkEs_take_succ (l : List Ex) (j : Nat) (h : j < l.length) (h0 : checkEs (l.take j) = 0) : checkEs (l.take (j + 1)) = checkE l[j] := by
 rw [List.take_succ_eq_append_getElem h, checkEs_append, if_pos h0]
 simp only [checkEs]; split <;> simp_all
theorem checkEs_bad {l : List Ex} {j : Nat} (h : j < l.length) (h0 : checkEs (l.take j) = 0) (he : ¬ checkE l[j] = 0) : checkEs l = checkE l[j] := by
 have h1 := checkEs_append (l.take (j + 1)) (l.drop (j + 1))
 rw [List.take_append_drop, checkEs_take_succ l j h h0, if_neg he] at h1
 exact h1
theorem not13 {k : Int} {nn nu ns : Nat} (h : shapeK k = some (nn, nu, ns)) (hn : ¬ nn = 2) : (k == 13) = false := by
 rcases shapeK_cases h with ⟨e, h2⟩ | ⟨e, h2⟩ | ⟨e, h2⟩ | ⟨e, h2⟩ | ⟨e, h2⟩ | ⟨e, h2⟩ | ⟨e, h2⟩ | ⟨e, h2⟩ | ⟨e, h2⟩ | ⟨e, h2⟩ | ⟨e, h2⟩ | ⟨e, h2⟩ | ⟨e, h2⟩ | ⟨e, h2⟩ | ⟨e, h2⟩ <;> subst e <;> first | decide | (cases h2; exact absurd rfl hn)
theorem names6 {k : Int} {nm mr : ByteArray} {b0 b1 : Bool} (h : namedB k nm mr b0 b1 = false) : namesErr k nm mr b0 b1 = 6 := by simp [namesErr, h]
theorem names7 {nm : ByteArray} {b0 b1 : Bool} (h : namedB 13 nm nm b0 b1 = true) : namesErr 13 nm nm b0 b1 = 7 := by simp [namesErr, h]
theorem names0 {k : Int} {nm mr : ByteArray} {b0 b1 : Bool} (h : namedB k nm mr b0 b1 = true) (hn : ¬ (k = 13 ∧ nm = mr)) : namesErr k nm mr b0 b1 = 0 := by simp [namesErr, h]; exact fun a b => absurd ⟨a, b⟩ hn
def CheckRel (w0 : World) (sub : List Ex) (i : Value) (wr : World) : Prop := ∃ j : Nat, j ≤ sub.length ∧ i = .int .i64 j ∧ checkEs (sub.take j) = 0 ∧ Below w0.heap.size w0 wr
theorem shape_bools {k : Int} {nn nu ns : Nat} (h : shapeK k = some (nn, nu, ns)) : ∃ b0 b1 b2 b3 : Bool, decide (1 ≤ nn) = b0 ∧ decide (2 ≤ nn) = b1 ∧ decide (1 ≤ nu) = b2 ∧ decide (2 ≤ nu) = b3 ∧ ((nn = 0 ∧ nu = 1 ∧ b0 = false ∧ b1 = false ∧ b2 = true ∧ b3 = false) ∨ (nn = 1 ∧ nu = 0 ∧ b0 = true ∧ b1 = false ∧ b2 = false ∧ b3 = false) ∨ (nn = 2 ∧ nu = 0 ∧ b0 = true ∧ b1 = true ∧ b2 = false ∧ b3 = false) ∨ (nn = 1 ∧ nu = 1 ∧ b0 = true ∧ b1 = false ∧ b2 = true ∧ b3 = false) ∨ (nn = 0 ∧ nu = 0 ∧ b0 = false ∧ b1 = false ∧ b2 = false ∧ b3 = false) ∨ (nn = 0 ∧ nu = 2 ∧ b0 = false ∧ b1 = false ∧ b2 = true ∧ b3 = true)) := by
 rcases shape_flags h with ⟨rfl, rfl⟩ | ⟨rfl, rfl⟩ | ⟨rfl, rfl⟩ | ⟨rfl, rfl⟩ | ⟨rfl, rfl⟩ | ⟨rfl, rfl⟩ <;> exact ⟨_, _, _, _, rfl, rfl, rfl, rfl, by decide⟩
theorem checkN_6 {k : Int} {nm mr : ByteArray} {it d : Int} {len nn nu ns : Nat} {b0 b1 : Bool} (h : shapeK k = some (nn, nu, ns)) (ha : argOk nn nu ns nm mr it d len = true) (h0 : b0 = decide (1 ≤ nn)) (h1 : b1 = decide (2 ≤ nn)) (hn : namedB k nm mr b0 b1 = false) : checkN k nm mr it d len = 6 := by
 subst h0; subst h1
 exact (checkN_names h ha (by rw [names6 hn]; decide)).trans (names6 hn)
theorem checkN_7 {nm : ByteArray} {it d : Int} {len nn nu ns : Nat} {b0 b1 : Bool} (h : shapeK 13 = some (nn, nu, ns)) (ha : argOk nn nu ns nm nm it d len = true) (h0 : b0 = decide (1 ≤ nn)) (h1 : b1 = decide (2 ≤ nn)) (hn : namedB 13 nm nm b0 b1 = true) : checkN 13 nm nm it d len = 7 := by
 subst h0; subst h1
 exact (checkN_names h ha (by rw [names7 hn]; decide)).trans (names7 hn)
theorem checkN_r {k : Int} {nm mr : ByteArray} {it d : Int} {len nn nu ns : Nat} {b0 b1 : Bool} (h : shapeK k = some (nn, nu, ns)) (ha : argOk nn nu ns nm mr it d len = true) (h0 : b0 = decide (1 ≤ nn)) (h1 : b1 = decide (2 ≤ nn)) (hn : namedB k nm mr b0 b1 = true) (hk : ¬ (k = 13 ∧ nm = mr)) : checkN k nm mr it d len = rangeErr k it d := by
 subst h0; subst h1
 exact checkN_range h ha (names0 hn hk)
set_option maxHeartbeats 4000000 in
theorem rcheck_no (k : Int) (nm mr : ByteArray) (it d : Int) (sub : List Ex) (sv : Value) (w : World) (hs : SubAt w w.heap.size sub sv) (hsh : shapeK k = none) :
  Calls Tryz.prog 89 #[.agg #[.int .i64 k, .string nm, .string mr, .int .i64 it, .int .i64 d, sv]] w fun e w' => e = .returned (.int .i64 (checkE (.mk k nm mr it d sub))) ∧ Below w.heap.size w w' := by
 obtain ⟨p, cap, rfl, hcap, _⟩ := subAt_open hs
 have HS := Lib.hid hs
 clear hs
 have HSH := Lib.hid (fun W => rshapeOf_no k W hsh)
 have HE := Lib.hid (checkE_bad (nm := nm) (mr := mr) (it := it) (d := d) (sub := sub) (checkN_none hsh) (by decide))
 obtain ⟨w1, hw1, hX⟩ := boxed w #[.int .i64 k, .string nm, .string mr, .int .i64 it, .int .i64 d, .slice p sub.length cap] 36
 have HW := Lib.hid hw1
 have HX := Lib.hid hX
 clear hX hw1 hsh
 go_enter Tryz.func89, Tryz.ntmps89
 go_wp2_with fail
 rw [HW.out]
 refine (HSH.out _).mono ?_
 rintro e ws ⟨rfl, hbs⟩
 obtain ⟨c0, c1, c2, c3, c4, c5⟩ := boxed6 HX.out hbs
 have hl1 : w.heap.size < ws.heap.size := by have := HX.out.size; have := hbs.size; omega
 have hbw : Below w.heap.size w ws := HX.out.below.trans (hbs.mono HX.out.below.size)
 clear hbs
 go_wp2_with fail
 go_ret
 exact ⟨ret_intE (a := 9) HE.out.symm, hbw.alloc (by first | omega | (simp; done) | (simp; omega)) _⟩
set_option maxRecDepth 100000 in
set_option maxHeartbeats 80000000 in
theorem rcheck_yes (N : Nat) (ih : ∀ (k : Int) (nm mr : ByteArray) (it d : Int) (sub : List Ex) (sv : Value) (w : World), nodesL sub < N → SubAt w w.heap.size sub sv → Calls Tryz.prog 89 #[.agg #[.int .i64 k, .string nm, .string mr, .int .i64 it, .int .i64 d, sv]] w fun e w' => e = .returned (.int .i64 (checkE (.mk k nm mr it d sub))) ∧ Below w.heap.size w w')
  (k : Int) (nn nu ns : Nat) (nm mr : ByteArray) (it d : Int) (sub : List Ex) (sv : Value) (w : World) (hN : nodesL sub < N + 1) (hm : nodesL sub ≤ 1099511627776) (hs : SubAt w w.heap.size sub sv) (hsh : shapeK k = some (nn, nu, ns)) :
  Calls Tryz.prog 89 #[.agg #[.int .i64 k, .string nm, .string mr, .int .i64 it, .int .i64 d, sv]] w fun e w' => e = .returned (.int .i64 (checkE (.mk k nm mr it d sub))) ∧ Below w.heap.size w w' := by
 obtain ⟨p, cap, rfl, hcap, _⟩ := subAt_open hs
 have HS := Lib.hid hs
 clear hs
 have hl := length_le_nodesL sub
 obtain ⟨b0, b1, b2, b3, h0, h1, h2, h3, hb⟩ := shape_bools hsh
 have HSH : Hid (∀ W : World, Calls Tryz.prog 149 #[.int .i64 k] W fun e w' => e = .returned (.tuple #[.agg #[.bool b0, .bool b1, .bool b2, .bool b3, .int .i64 ns], .bool true]) ∧ Below W.heap.size W w') := Lib.hid (fun W => by have := rshapeOf_yes k nn nu ns W hsh; rw [h0, h1, h2, h3] at this; exact this)
 obtain ⟨nb, hnb⟩ : ∃ nb, namedB k nm mr b0 b1 = nb := ⟨_, rfl⟩
 obtain ⟨rg, hrg⟩ : ∃ rg, rangedB k it d = rg := ⟨_, rfl⟩
 have HNB : Hid (∀ W : World, Calls Tryz.prog 150 #[.agg #[.int .i64 k, .string nm, .string mr, .int .i64 it, .int .i64 d, .slice p sub.length cap], .agg #[.bool b0, .bool b1, .bool b2, .bool b3, .int .i64 ns]] W fun e w' => e = .returned (.bool nb) ∧ Below W.heap.size W w') := Lib.hid (fun W => by have := rnamed_any k nm mr it d (.slice p sub.length cap) b0 b1 b2 b3 ns W; rw [hnb] at this; exact this)
 have HRG : Hid (∀ W : World, Calls Tryz.prog 151 #[.agg #[.int .i64 k, .string nm, .string mr, .int .i64 it, .int .i64 d, .slice p sub.length cap]] W fun e w' => e = .returned (.bool rg) ∧ Below W.heap.size W w') := Lib.hid (fun W => by have := rranged_any k nm mr it d (.slice p sub.length cap) W; rw [hrg] at this; exact this)
 have HIH := Lib.hid ih
 have HK := Lib.hid hsh
 have HV := Lib.hid hnb
 have HG := Lib.hid hrg
 have HF := Lib.hid hb
 clear ih h0 h1 h2 h3 hnb hrg hb
 obtain ⟨w1, hw1, hX⟩ := boxed w #[.int .i64 k, .string nm, .string mr, .int .i64 it, .int .i64 d, .slice p sub.length cap] 36
 have HW := Lib.hid hw1
 have HX := Lib.hid hX
 clear hX hw1 hsh
 go_enter Tryz.func89, Tryz.ntmps89
 go_wp2_with fail
 rw [HW.out]
 refine (HSH.out _).mono ?_
 rintro e ws ⟨rfl, hbs⟩
 obtain ⟨c0, c1, c2, c3, c4, c5⟩ := boxed6 HX.out hbs
 have hl1 : w.heap.size < ws.heap.size := by have := HX.out.size; have := hbs.size; omega
 have hbw : Below w.heap.size w ws := HX.out.below.trans (hbs.mono HX.out.below.size)
 clear hbs
 rcases HF.out with ⟨rfl, rfl, rfl, rfl, rfl, rfl⟩ | ⟨rfl, rfl, rfl, rfl, rfl, rfl⟩ | ⟨rfl, rfl, rfl, rfl, rfl, rfl⟩ | ⟨rfl, rfl, rfl, rfl, rfl, rfl⟩ | ⟨rfl, rfl, rfl, rfl, rfl, rfl⟩ | ⟨rfl, rfl, rfl, rfl, rfl, rfl⟩
 case' inl =>
  by_cases hz : nm.size = 0
  rotate_left
  ·have hz1 := toList_ne' hz
   have HZ := Lib.hid hz
   clear hz
   go_wp2_with fail
   go_ret
   exact ⟨ret_intE (a := 1) (checkE_bad (checkN_arg HK.out (by simp [argOk, HZ.out])) (by decide)).symm, hbw.alloc (by first | omega | (simp; done) | (simp; omega)) _⟩
  obtain rfl := size_zero hz
  clear hz
  by_cases hz : mr.size = 0
  rotate_left
  ·have hz1 := toList_ne' hz
   have HZ := Lib.hid hz
   clear hz
   go_wp2_with fail
   go_ret
   exact ⟨ret_intE (a := 1) (checkE_bad (checkN_arg HK.out (by simp [argOk, HZ.out])) (by decide)).symm, hbw.alloc (by first | omega | (simp; done) | (simp; omega)) _⟩
  obtain rfl := size_zero hz
  clear hz
  by_cases hz : d = 0
  rotate_left
  ·have hz1 : (d != 0) = true := by simpa using hz
   have HZ := Lib.hid hz
   clear hz
   go_wp2_with fail
   go_ret
   exact ⟨ret_intE (a := 1) (checkE_bad (checkN_arg HK.out (by simp [argOk, HZ.out])) (by decide)).symm, hbw.alloc (by first | omega | (simp; done) | (simp; omega)) _⟩
  subst hz
  by_cases hz : sub.length = ns
  rotate_left
  ·have hz1 : ((sub.length : Int) != (ns : Int)) = true := by simp; omega
   have hz2 : (sub.length != ns) = true := by simpa using hz
   have HZ := Lib.hid hz
   clear hz
   go_wp2_with fail
   go_ret
   exact ⟨ret_intE (a := 1) (checkE_bad (checkN_arg HK.out (by simp [argOk, HZ.out])) (by decide)).symm, hbw.alloc (by first | omega | (simp; done) | (simp; omega)) _⟩
  subst hz
 case' inr.inl =>
  by_cases hz : mr.size = 0
  rotate_left
  ·have hz1 := toList_ne' hz
   have HZ := Lib.hid hz
   clear hz
   go_wp2_with fail
   go_ret
   exact ⟨ret_intE (a := 1) (checkE_bad (checkN_arg HK.out (by simp [argOk, HZ.out])) (by decide)).symm, hbw.alloc (by first | omega | (simp; done) | (simp; omega)) _⟩
  obtain rfl := size_zero hz
  clear hz
  by_cases hz : it = 0
  rotate_left
  ·have hz1 : (it != 0) = true := by simpa using hz
   have HZ := Lib.hid hz
   clear hz
   go_wp2_with fail
   go_ret
   exact ⟨ret_intE (a := 1) (checkE_bad (checkN_arg HK.out (by simp [argOk, HZ.out])) (by decide)).symm, hbw.alloc (by first | omega | (simp; done) | (simp; omega)) _⟩
  subst hz
  by_cases hz : d = 0
  rotate_left
  ·have hz1 : (d != 0) = true := by simpa using hz
   have HZ := Lib.hid hz
   clear hz
   go_wp2_with fail
   go_ret
   exact ⟨ret_intE (a := 1) (checkE_bad (checkN_arg HK.out (by simp [argOk, HZ.out])) (by decide)).symm, hbw.alloc (by first | omega | (simp; done) | (simp; omega)) _⟩
  subst hz
  by_cases hz : sub.length = ns
  rotate_left
  ·have hz1 : ((sub.length : Int) != (ns : Int)) = true := by simp; omega
   have hz2 : (sub.length != ns) = true := by simpa using hz
   have HZ := Lib.hid hz
   clear hz
   go_wp2_with fail
   go_ret
   exact ⟨ret_intE (a := 1) (checkE_bad (checkN_arg HK.out (by simp [argOk, HZ.out])) (by decide)).symm, hbw.alloc (by first | omega | (simp; done) | (simp; omega)) _⟩
  subst hz
 case' inr.inr.inl =>
  by_cases hz : it = 0
  rotate_left
  ·have hz1 : (it != 0) = true := by simpa using hz
   have HZ := Lib.hid hz
   clear hz
   go_wp2_with fail
   go_ret
   exact ⟨ret_intE (a := 1) (checkE_bad (checkN_arg HK.out (by simp [argOk, HZ.out])) (by decide)).symm, hbw.alloc (by first | omega | (simp; done) | (simp; omega)) _⟩
  subst hz
  by_cases hz : d = 0
  rotate_left
  ·have hz1 : (d != 0) = true := by simpa using hz
   have HZ := Lib.hid hz
   clear hz
   go_wp2_with fail
   go_ret
   exact ⟨ret_intE (a := 1) (checkE_bad (checkN_arg HK.out (by simp [argOk, HZ.out])) (by decide)).symm, hbw.alloc (by first | omega | (simp; done) | (simp; omega)) _⟩
  subst hz
  by_cases hz : sub.length = ns
  rotate_left
  ·have hz1 : ((sub.length : Int) != (ns : Int)) = true := by simp; omega
   have hz2 : (sub.length != ns) = true := by simpa using hz
   have HZ := Lib.hid hz
   clear hz
   go_wp2_with fail
   go_ret
   exact ⟨ret_intE (a := 1) (checkE_bad (checkN_arg HK.out (by simp [argOk, HZ.out])) (by decide)).symm, hbw.alloc (by first | omega | (simp; done) | (simp; omega)) _⟩
  subst hz
 case' inr.inr.inr.inl =>
  by_cases hz : mr.size = 0
  rotate_left
  ·have hz1 := toList_ne' hz
   have HZ := Lib.hid hz
   clear hz
   go_wp2_with fail
   go_ret
   exact ⟨ret_intE (a := 1) (checkE_bad (checkN_arg HK.out (by simp [argOk, HZ.out])) (by decide)).symm, hbw.alloc (by first | omega | (simp; done) | (simp; omega)) _⟩
  obtain rfl := size_zero hz
  clear hz
  by_cases hz : d = 0
  rotate_left
  ·have hz1 : (d != 0) = true := by simpa using hz
   have HZ := Lib.hid hz
   clear hz
   go_wp2_with fail
   go_ret
   exact ⟨ret_intE (a := 1) (checkE_bad (checkN_arg HK.out (by simp [argOk, HZ.out])) (by decide)).symm, hbw.alloc (by first | omega | (simp; done) | (simp; omega)) _⟩
  subst hz
  by_cases hz : sub.length = ns
  rotate_left
  ·have hz1 : ((sub.length : Int) != (ns : Int)) = true := by simp; omega
   have hz2 : (sub.length != ns) = true := by simpa using hz
   have HZ := Lib.hid hz
   clear hz
   go_wp2_with fail
   go_ret
   exact ⟨ret_intE (a := 1) (checkE_bad (checkN_arg HK.out (by simp [argOk, HZ.out])) (by decide)).symm, hbw.alloc (by first | omega | (simp; done) | (simp; omega)) _⟩
  subst hz
 case' inr.inr.inr.inr.inl =>
  by_cases hz : nm.size = 0
  rotate_left
  ·have hz1 := toList_ne' hz
   have HZ := Lib.hid hz
   clear hz
   go_wp2_with fail
   go_ret
   exact ⟨ret_intE (a := 1) (checkE_bad (checkN_arg HK.out (by simp [argOk, HZ.out])) (by decide)).symm, hbw.alloc (by first | omega | (simp; done) | (simp; omega)) _⟩
  obtain rfl := size_zero hz
  clear hz
  by_cases hz : mr.size = 0
  rotate_left
  ·have hz1 := toList_ne' hz
   have HZ := Lib.hid hz
   clear hz
   go_wp2_with fail
   go_ret
   exact ⟨ret_intE (a := 1) (checkE_bad (checkN_arg HK.out (by simp [argOk, HZ.out])) (by decide)).symm, hbw.alloc (by first | omega | (simp; done) | (simp; omega)) _⟩
  obtain rfl := size_zero hz
  clear hz
  by_cases hz : it = 0
  rotate_left
  ·have hz1 : (it != 0) = true := by simpa using hz
   have HZ := Lib.hid hz
   clear hz
   go_wp2_with fail
   go_ret
   exact ⟨ret_intE (a := 1) (checkE_bad (checkN_arg HK.out (by simp [argOk, HZ.out])) (by decide)).symm, hbw.alloc (by first | omega | (simp; done) | (simp; omega)) _⟩
  subst hz
  by_cases hz : d = 0
  rotate_left
  ·have hz1 : (d != 0) = true := by simpa using hz
   have HZ := Lib.hid hz
   clear hz
   go_wp2_with fail
   go_ret
   exact ⟨ret_intE (a := 1) (checkE_bad (checkN_arg HK.out (by simp [argOk, HZ.out])) (by decide)).symm, hbw.alloc (by first | omega | (simp; done) | (simp; omega)) _⟩
  subst hz
  by_cases hz : sub.length = ns
  rotate_left
  ·have hz1 : ((sub.length : Int) != (ns : Int)) = true := by simp; omega
   have hz2 : (sub.length != ns) = true := by simpa using hz
   have HZ := Lib.hid hz
   clear hz
   go_wp2_with fail
   go_ret
   exact ⟨ret_intE (a := 1) (checkE_bad (checkN_arg HK.out (by simp [argOk, HZ.out])) (by decide)).symm, hbw.alloc (by first | omega | (simp; done) | (simp; omega)) _⟩
  subst hz
 case' inr.inr.inr.inr.inr =>
  by_cases hz : nm.size = 0
  rotate_left
  ·have hz1 := toList_ne' hz
   have HZ := Lib.hid hz
   clear hz
   go_wp2_with fail
   go_ret
   exact ⟨ret_intE (a := 1) (checkE_bad (checkN_arg HK.out (by simp [argOk, HZ.out])) (by decide)).symm, hbw.alloc (by first | omega | (simp; done) | (simp; omega)) _⟩
  obtain rfl := size_zero hz
  clear hz
  by_cases hz : mr.size = 0
  rotate_left
  ·have hz1 := toList_ne' hz
   have HZ := Lib.hid hz
   clear hz
   go_wp2_with fail
   go_ret
   exact ⟨ret_intE (a := 1) (checkE_bad (checkN_arg HK.out (by simp [argOk, HZ.out])) (by decide)).symm, hbw.alloc (by first | omega | (simp; done) | (simp; omega)) _⟩
  obtain rfl := size_zero hz
  clear hz
  by_cases hz : sub.length = ns
  rotate_left
  ·have hz1 : ((sub.length : Int) != (ns : Int)) = true := by simp; omega
   have hz2 : (sub.length != ns) = true := by simpa using hz
   have HZ := Lib.hid hz
   clear hz
   go_wp2_with fail
   go_ret
   exact ⟨ret_intE (a := 1) (checkE_bad (checkN_arg HK.out (by simp [argOk, HZ.out])) (by decide)).symm, hbw.alloc (by first | omega | (simp; done) | (simp; omega)) _⟩
  subst hz
 all_goals
  cases nb
  ·go_wp2_with (first | (go_at_call 150; refine (HNB.out _).mono ?_; rintro e wn ⟨rfl, hbn⟩; obtain ⟨hcn, hfn⟩ := bcellE hbn; have hln : w.heap.size < ws.heap.size + 1 := (by omega); have hln2 : w.heap.size < wn.heap.size := by (have hzz := hbn.size; simp at hzz; omega)))
   go_ret
   exact ⟨ret_intE (a := 6) (checkE_bad (checkN_6 HK.out (by simp [argOk] <;> rfl) rfl rfl HV.out) (by decide)).symm, (hbw.alloc (by first | omega | (simp; done) | (simp; omega)) _).trans (hbn.mono (by first | omega | (simp; done) | (simp; omega)))⟩
  first
  | (have h13 := not13 HK.out (by decide)
     have HR := Lib.hid (checkN_r (it := it) (d := d) (len := sub.length) HK.out (by simp [argOk] <;> rfl) rfl rfl HV.out (fun h => by simp [h.1] at h13)))
  | (have h13 := not13 HK.out (by decide)
     have HR := Lib.hid (checkN_r (it := 0) (d := d) (len := sub.length) HK.out (by simp [argOk] <;> rfl) rfl rfl HV.out (fun h => by simp [h.1] at h13)))
  | (have h13 := not13 HK.out (by decide)
     have HR := Lib.hid (checkN_r (it := it) (d := 0) (len := sub.length) HK.out (by simp [argOk] <;> rfl) rfl rfl HV.out (fun h => by simp [h.1] at h13)))
  | (have h13 := not13 HK.out (by decide)
     have HR := Lib.hid (checkN_r (it := 0) (d := 0) (len := sub.length) HK.out (by simp [argOk] <;> rfl) rfl rfl HV.out (fun h => by simp [h.1] at h13)))
  | (by_cases h13 : k = 13
     rotate_left
     have hk13 : (k == 13) = false := by simpa using h13
     have HR := Lib.hid (checkN_r (it := 0) (d := 0) (len := sub.length) HK.out (by simp [argOk] <;> rfl) rfl rfl HV.out (fun h => h13 h.1))
     clear h13
     rotate_left
     subst h13
     by_cases hq : nm = mr
     ·subst hq
      go_wp2_with (first | (go_at_call 150; refine (HNB.out _).mono ?_; rintro e wn ⟨rfl, hbn⟩; obtain ⟨hcn, hfn⟩ := bcellE hbn; have hln : w.heap.size < ws.heap.size + 1 := (by omega); have hln2 : w.heap.size < wn.heap.size := by (have hzz := hbn.size; simp at hzz; omega)))
      go_ret
      exact ⟨ret_intE (a := 7) (checkE_bad (checkN_7 HK.out (by simp [argOk] <;> rfl) rfl rfl HV.out) (by decide)).symm, (hbw.alloc (by first | omega | (simp; done) | (simp; omega)) _).trans (hbn.mono (by first | omega | (simp; done) | (simp; omega)))⟩
     have hq1 : (nm.toList == mr.toList) = false := (Lib.bytes_beq_false_iff _ _).2 hq
     have HR := Lib.hid (checkN_r (it := 0) (d := 0) (len := sub.length) HK.out (by simp [argOk] <;> rfl) rfl rfl HV.out (fun h => hq h.2))
     clear hq)
 all_goals
  cases rg
  ·go_wp2_with (first | (go_at_call 150; refine (HNB.out _).mono ?_; rintro e wn ⟨rfl, hbn⟩; obtain ⟨hcn, hfn⟩ := bcellE hbn; have hln : w.heap.size < ws.heap.size + 1 := (by omega); have hln2 : w.heap.size < wn.heap.size := by (have hzz := hbn.size; simp at hzz; omega)) | (go_at_call 151; refine (HRG.out _).mono ?_; rintro e wq ⟨rfl, hbq⟩; obtain ⟨hcq, hfq⟩ := bcellE hbq))
   go_ret
   exact ⟨ret_intE (a := 2) (checkE_bad (HR.out.trans (by simp [rangeErr, HG.out])) (by decide)).symm, ((hbw.alloc (by first | omega | (simp; done) | (simp; omega)) _).trans (hbn.mono (by first | omega | (simp; done) | (simp; omega)))).trans (hbq.mono (by have hz1 := hbn.size; simp at hz1; omega))⟩
  have HE := Lib.hid (checkE_good (sub := sub) (HR.out.trans (by simp [rangeErr, HG.out])))
  go_wp2_with (first | (go_at_call 150; refine (HNB.out _).mono ?_; rintro e wn ⟨rfl, hbn⟩; obtain ⟨hcn, hfn⟩ := bcellE hbn; have hln : w.heap.size < ws.heap.size + 1 := (by omega); have hln2 : w.heap.size < wn.heap.size := by (have hzz := hbn.size; simp at hzz; omega)) | (go_at_call 151; refine (HRG.out _).mono ?_; rintro e wq ⟨rfl, hbq⟩; obtain ⟨hcq, hfq⟩ := bcellE hbq))
  have hB0 : Below w.heap.size w wq := ((hbw.alloc (by first | omega | (simp; done) | (simp; omega)) _).trans (hbn.mono (by first | omega | (simp; done) | (simp; omega)))).trans (hbq.mono (by have hz1 := hbn.size; simp at hz1; omega))
  have hc5 : wq.cell? ⟨w.heap.size, 5, none⟩ = some (.slice p sub.length cap) := by
   rw [hcq _ _ hln2, hcn _ _ (by simp; omega)]; go_simp
  have hsz : w.heap.size < wq.heap.size := by have := hbq.size; omega
  have HB0 := Lib.hid hB0
  have HC5 := Lib.hid hc5
  clear hB0 hc5 hcq hfq hcn hfn hbn hbq c0 c1 c2 c3 c4 c5 HRG HNB HSH HX HW HR HV HG HK
  go_loopw [5] (fun i wr => CheckRel wq sub i wr) (fun i _ => sub.length - (intOf i).toNat)
  case atStart => exact ⟨0, by omega, rfl, by simp [checkEs], Below.refl _ _⟩
  case round =>
   obtain ⟨j, hj, rfl, hP, hBr⟩ := hrel
   have HP := Lib.hid hP
   have hcr := (hBr.cell (p := ⟨w.heap.size, 5, none⟩) hsz).trans HC5.out
   clear hP
   by_cases hlt : j < sub.length
   ·have hbw' : Below w.heap.size w wr := HB0.out.trans (hBr.mono (by omega))
    obtain ⟨b, off, cv, rfl, g0, g1, g2, g3, g4, g5, g6⟩ := subAt_at HS.out hbw' j hlt
    have hn1 := nodesL_get sub j hlt
    have hn2 := nodesE_eq sub[j]
    have hC := Lib.hid (HIH.out sub[j].kind sub[j].name sub[j].more sub[j].int sub[j].den sub[j].sub cv wr (by omega) g6)
    rw [Ex.eta] at hC
    clear g6 hn1 hn2
    by_cases hq : checkE sub[j] = 0
    ·rw [hq] at hC
     have HT := Lib.hid ((checkEs_take_succ sub j hlt HP.out).trans hq)
     clear hq
     go_wp2_with (go_at_call 89; refine (hC.out).mono ?_; rintro e w' ⟨rfl, hb1⟩)
     go_roundw
     case rel => exact ⟨j + 1, by omega, by go_num, HT.out, hBr.trans (hb1.mono hBr.size)⟩
     case measure => simp [intOf]; omega
    ·have HT := Lib.hid (checkEs_bad hlt HP.out hq)
     have hq1 : (checkE sub[j] != 0) = true := by simpa using hq
     clear hq
     generalize checkE sub[j] = C at *
     go_wp2_with (go_at_call 89; refine (hC.out).mono ?_; rintro e w' ⟨rfl, hb1⟩)
     go_ret
     exact ⟨ret_intE (a := C) (by rw [HE.out, HT.out]), HB0.out.trans ((hBr.mono (by omega)).trans (hb1.mono (by have := hBr.size; omega)))⟩
   ·obtain rfl : j = sub.length := by omega
    go_wp2_with fail
    go_ret
    exact ⟨ret_intE (a := 0) (by have := HP.out; rw [List.take_length] at this; rw [HE.out, this]), HB0.out.trans (hBr.mono (by omega))⟩
theorem rcheck_any (N : Nat) : ∀ (k : Int) (nm mr : ByteArray) (it d : Int) (sub : List Ex) (sv : Value) (w : World), nodesL sub < N → N ≤ 1099511627776 → SubAt w w.heap.size sub sv →
  Calls Tryz.prog 89 #[.agg #[.int .i64 k, .string nm, .string mr, .int .i64 it, .int .i64 d, sv]] w fun e w' => e = .returned (.int .i64 (checkE (.mk k nm mr it d sub))) ∧ Below w.heap.size w w' := by
 induction N with
 | zero => intro k nm mr it d sub sv w hN; omega
 | succ N ih =>
  intro k nm mr it d sub sv w hN hm hs
  rcases h : shapeK k with _ | ⟨nn, nu, ns⟩
  ·exact rcheck_no k nm mr it d sub sv w hs h
  ·exact rcheck_yes N (fun k nm mr it d sub sv w h1 h2 => ih k nm mr it d sub sv w h1 (by omega) h2) k nn nu ns nm mr it d sub sv w hN (by omega) hs h
end
end Go.Proofs.YtnnolijagpakiaaGreatDoor
