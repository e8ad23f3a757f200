/- checkNames of syntax. -/
import Derived.Test.YtnphcjpccieljaaGreatDoorExG
namespace Go.Proofs.YtnphcjpccieljaaGreatDoor
open Go.RowKit

def namesErr (k : Int) (nm mr : ByteArray) (b0 b1 : Bool) : Int := if namedB k nm mr b0 b1 then (if k = 13 ∧ nm = mr then 7 else 0) else 6
theorem one_byte {s : ByteArray} (h : s.size = 1) : ∃ c : UInt8, s = ⟨#[c]⟩ := by
  obtain ⟨d⟩ := s
  obtain ⟨l⟩ := d
  match l, h with
  | [c], _ => exact ⟨c, rfl⟩
theorem ops_long {s : ByteArray} (h : ¬ s.size = 1) : hasB opNames s = false := by
  refine hasB_no fun i hi e => h ?_
  simp only [opNames, List.length_cons, List.length_nil] at hi
  have : i = 0 ∨ i = 1 ∨ i = 2 ∨ i = 3 ∨ i = 4 := by omega
  rcases this with rfl | rfl | rfl | rfl | rfl <;> (rw [← e]; rfl)
theorem ops_index (c : UInt8) : decide ((0 : Int) ≤ Lib.indexByte [43, 45, 42, 61, 60] c) = hasB opNames ⟨#[c]⟩ := by
  have e : ∀ x : UInt8, decide ((⟨#[x]⟩ : ByteArray) = ⟨#[c]⟩) = decide (x = c) := fun x => by
    rw [decide_eq_decide]; constructor
    · intro h; injection h with h; injection h with h; injection h
    · rintro rfl; rfl
  simp only [hasB, opNames, List.any_cons, List.any_nil, e, Bool.or_false]
  simp only [Lib.indexByte]
  by_cases e1 : (43 : UInt8) = c
  · subst e1; decide
  by_cases e2 : (45 : UInt8) = c
  · subst e2; decide
  by_cases e3 : (42 : UInt8) = c
  · subst e3; decide
  by_cases e4 : (61 : UInt8) = c
  · subst e4; decide
  by_cases e5 : (60 : UInt8) = c
  · subst e5; decide
  simp [e1, e2, e3, e4, e5]
set_option maxHeartbeats 4000000 in
theorem scheckNames_any (k : Int) (nn nu ns : Nat) (nm mr : ByteArray) (it d : Int) (sv : Value) (w : World) (hsh : shapeK k = some (nn, nu, ns)) :
    Calls Tryz.prog 82 #[.agg #[.int .i64 k, .string nm, .string mr, .int .i64 it, .int .i64 d, sv], .int .i64 nn] w fun e w' => e = .returned (.int .i64 (namesErr k nm mr (decide (1 ≤ nn)) (decide (2 ≤ nn)))) ∧ Below w.heap.size w w' := by
  have HNM := Lib.hid (fun W => sname_any nm W)
  have HMR := Lib.hid (fun W => sname_any mr W)
  have HLB := Lib.hid (fun W => label_any nm W)
  rcases shapeK_cases hsh with ⟨rfl, e⟩ | ⟨rfl, e⟩ | ⟨rfl, e⟩ | ⟨rfl, e⟩ | ⟨rfl, e⟩ | ⟨rfl, e⟩ | ⟨rfl, e⟩ | ⟨rfl, e⟩ | ⟨rfl, e⟩ | ⟨rfl, e⟩ | ⟨rfl, e⟩ | ⟨rfl, e⟩ | ⟨rfl, e⟩ | ⟨rfl, e⟩ | ⟨rfl, e⟩
  · cases e
    have HE : Hid (namesErr 1 nm mr false false = 0) := Lib.hid (by simp [namesErr, namedB, okName, ])
    clear  hsh
    have tok1 : True := trivial
    go_enter Tryz.func82, Tryz.ntmps82
    go_wp2_with fail
    go_ret
    exact ⟨ret_intE (a := 0) HE.out.symm, (Below.refl _ _).alloc (Nat.le_refl _) _⟩
  · cases e
    have HE : Hid (namesErr 2 nm mr false false = 0) := Lib.hid (by simp [namesErr, namedB, okName, ])
    clear  hsh
    have tok1 : True := trivial
    go_enter Tryz.func82, Tryz.ntmps82
    go_wp2_with fail
    go_ret
    exact ⟨ret_intE (a := 0) HE.out.symm, (Below.refl _ _).alloc (Nat.le_refl _) _⟩
  · cases e
    cases hn : nameB nm
    · rw [hn] at HNM
      have HE : Hid (namesErr 3 nm mr true false = 6) := Lib.hid (by simp [namesErr, namedB, okName, hn])
      clear hn hsh
      have tok1 : True := trivial
      go_enter Tryz.func82, Tryz.ntmps82
      go_wp2_with (first | ((go_at_call 116); have _t := tok1; (with_reducible refine (HNM.out _).mono ?_); rintro e wn ⟨rfl, hbn⟩; clear tok1 _t; obtain ⟨hcn, hfn⟩ := bcellE hbn; have hln : w.heap.size < wn.heap.size := by (have hzz := hbn.size; simp at hzz; omega)))
      go_ret
      exact ⟨ret_intE (a := 6) HE.out.symm, ((Below.refl _ _).alloc (Nat.le_refl _) _).trans (hbn.mono (by first | omega | (simp; done) | (simp; omega)))⟩
    · rw [hn] at HNM
      have HE : Hid (namesErr 3 nm mr true false = 0) := Lib.hid (by simp [namesErr, namedB, okName, hn])
      clear hn hsh
      have tok1 : True := trivial
      go_enter Tryz.func82, Tryz.ntmps82
      go_wp2_with (first | ((go_at_call 116); have _t := tok1; (with_reducible refine (HNM.out _).mono ?_); rintro e wn ⟨rfl, hbn⟩; clear tok1 _t; obtain ⟨hcn, hfn⟩ := bcellE hbn; have hln : w.heap.size < wn.heap.size := by (have hzz := hbn.size; simp at hzz; omega)))
      go_ret
      exact ⟨ret_intE (a := 0) HE.out.symm, ((Below.refl _ _).alloc (Nat.le_refl _) _).trans (hbn.mono (by first | omega | (simp; done) | (simp; omega)))⟩
  · cases e
    cases hn : nameB nm
    · rw [hn] at HNM
      have HE : Hid (namesErr 4 nm mr true true = 6) := Lib.hid (by simp [namesErr, namedB, okName, hn])
      clear hn hsh
      have tok1 : True := trivial
      go_enter Tryz.func82, Tryz.ntmps82
      go_wp2_with (first | ((go_at_call 116); have _t := tok1; (with_reducible refine (HNM.out _).mono ?_); rintro e wn ⟨rfl, hbn⟩; clear tok1 _t; obtain ⟨hcn, hfn⟩ := bcellE hbn; have hln : w.heap.size < wn.heap.size := by (have hzz := hbn.size; simp at hzz; omega)))
      go_ret
      exact ⟨ret_intE (a := 6) HE.out.symm, ((Below.refl _ _).alloc (Nat.le_refl _) _).trans (hbn.mono (by first | omega | (simp; done) | (simp; omega)))⟩
    · rw [hn] at HNM
      cases hm : nameB mr
      · rw [hm] at HMR
        have HE : Hid (namesErr 4 nm mr true true = 6) := Lib.hid (by simp [namesErr, namedB, okName, hn, hm])
        clear hn hm hsh
        have tok1 : True := trivial
        go_enter Tryz.func82, Tryz.ntmps82
        go_wp2_with (first | ((go_at_call 116); have _t := tok1; (with_reducible refine (HNM.out _).mono ?_); rintro e wn ⟨rfl, hbn⟩; clear tok1 _t; obtain ⟨hcn, hfn⟩ := bcellE hbn; have hln : w.heap.size < wn.heap.size := by (have hzz := hbn.size; simp at hzz; omega)) | ((go_at_call 116); (with_reducible refine (HMR.out _).mono ?_); rintro e wm ⟨rfl, hbm⟩; obtain ⟨hcm, hfm⟩ := bcellE hbm))
        go_ret
        exact ⟨ret_intE (a := 6) HE.out.symm, (((Below.refl _ _).alloc (Nat.le_refl _) _).trans (hbn.mono (by first | omega | (simp; done) | (simp; omega)))).trans (hbm.mono (by have := hbn.size; simp at this; omega))⟩
      · rw [hm] at HMR
        have HE : Hid (namesErr 4 nm mr true true = 0) := Lib.hid (by simp [namesErr, namedB, okName, hn, hm])
        clear hn hm hsh
        have tok1 : True := trivial
        go_enter Tryz.func82, Tryz.ntmps82
        go_wp2_with (first | ((go_at_call 116); have _t := tok1; (with_reducible refine (HNM.out _).mono ?_); rintro e wn ⟨rfl, hbn⟩; clear tok1 _t; obtain ⟨hcn, hfn⟩ := bcellE hbn; have hln : w.heap.size < wn.heap.size := by (have hzz := hbn.size; simp at hzz; omega)) | ((go_at_call 116); (with_reducible refine (HMR.out _).mono ?_); rintro e wm ⟨rfl, hbm⟩; obtain ⟨hcm, hfm⟩ := bcellE hbm))
        go_ret
        exact ⟨ret_intE (a := 0) HE.out.symm, (((Below.refl _ _).alloc (Nat.le_refl _) _).trans (hbn.mono (by first | omega | (simp; done) | (simp; omega)))).trans (hbm.mono (by have := hbn.size; simp at this; omega))⟩
  · cases e
    by_cases hz : nm.size = 0
    · obtain rfl := size_zero hz
      have HE : Hid (namesErr 5 ⟨#[]⟩ mr true false = 0) := Lib.hid rfl
      clear hz HNM HLB hsh
      have tok1 : True := trivial
      go_enter Tryz.func82, Tryz.ntmps82
      go_wp2_with fail
      go_ret
      exact ⟨ret_intE (a := 0) HE.out.symm, (Below.refl _ _).alloc (Nat.le_refl _) _⟩
    · have hz1 := toList_ne' hz
      cases hl : labelL nm.data.toList
      · rw [hl] at HLB
        have HE : Hid (namesErr 5 nm mr true false = 6) := Lib.hid (by simp [namesErr, namedB, okName, hl, hz])
        clear hl hz hsh
        have tok1 : True := trivial
        go_enter Tryz.func82, Tryz.ntmps82
        go_wp2_with (first | ((go_at_call 44); (with_reducible refine (HLB.out _).mono ?_); rintro e wn ⟨rfl, hbn⟩; obtain ⟨hcn, hfn⟩ := bcellE hbn))
        go_ret
        exact ⟨ret_intE (a := 6) HE.out.symm, ((Below.refl _ _).alloc (Nat.le_refl _) _).trans (hbn.mono (by first | omega | (simp; done) | (simp; omega)))⟩
      · rw [hl] at HLB
        have HE : Hid (namesErr 5 nm mr true false = 0) := Lib.hid (by simp [namesErr, namedB, okName, hl])
        clear hl hz hsh
        have tok1 : True := trivial
        go_enter Tryz.func82, Tryz.ntmps82
        go_wp2_with (first | ((go_at_call 44); (with_reducible refine (HLB.out _).mono ?_); rintro e wn ⟨rfl, hbn⟩; obtain ⟨hcn, hfn⟩ := bcellE hbn))
        go_ret
        exact ⟨ret_intE (a := 0) HE.out.symm, ((Below.refl _ _).alloc (Nat.le_refl _) _).trans (hbn.mono (by first | omega | (simp; done) | (simp; omega)))⟩
  · cases e
    cases hn : nameB nm
    · rw [hn] at HNM
      have HE : Hid (namesErr 6 nm mr true false = 6) := Lib.hid (by simp [namesErr, namedB, okName, hn])
      clear hn hsh
      have tok1 : True := trivial
      go_enter Tryz.func82, Tryz.ntmps82
      go_wp2_with (first | ((go_at_call 116); have _t := tok1; (with_reducible refine (HNM.out _).mono ?_); rintro e wn ⟨rfl, hbn⟩; clear tok1 _t; obtain ⟨hcn, hfn⟩ := bcellE hbn; have hln : w.heap.size < wn.heap.size := by (have hzz := hbn.size; simp at hzz; omega)))
      go_ret
      exact ⟨ret_intE (a := 6) HE.out.symm, ((Below.refl _ _).alloc (Nat.le_refl _) _).trans (hbn.mono (by first | omega | (simp; done) | (simp; omega)))⟩
    · rw [hn] at HNM
      have HE : Hid (namesErr 6 nm mr true false = 0) := Lib.hid (by simp [namesErr, namedB, okName, hn])
      clear hn hsh
      have tok1 : True := trivial
      go_enter Tryz.func82, Tryz.ntmps82
      go_wp2_with (first | ((go_at_call 116); have _t := tok1; (with_reducible refine (HNM.out _).mono ?_); rintro e wn ⟨rfl, hbn⟩; clear tok1 _t; obtain ⟨hcn, hfn⟩ := bcellE hbn; have hln : w.heap.size < wn.heap.size := by (have hzz := hbn.size; simp at hzz; omega)))
      go_ret
      exact ⟨ret_intE (a := 0) HE.out.symm, ((Below.refl _ _).alloc (Nat.le_refl _) _).trans (hbn.mono (by first | omega | (simp; done) | (simp; omega)))⟩
  · cases e
    have HE : Hid (namesErr 7 nm mr false false = 0) := Lib.hid (by simp [namesErr, namedB, okName, ])
    clear  hsh
    have tok1 : True := trivial
    go_enter Tryz.func82, Tryz.ntmps82
    go_wp2_with fail
    go_ret
    exact ⟨ret_intE (a := 0) HE.out.symm, (Below.refl _ _).alloc (Nat.le_refl _) _⟩
  · cases e
    cases hn : nameB nm
    · rw [hn] at HNM
      have HE : Hid (namesErr 8 nm mr true false = 6) := Lib.hid (by simp [namesErr, namedB, okName, hn])
      clear hn hsh
      have tok1 : True := trivial
      go_enter Tryz.func82, Tryz.ntmps82
      go_wp2_with (first | ((go_at_call 116); have _t := tok1; (with_reducible refine (HNM.out _).mono ?_); rintro e wn ⟨rfl, hbn⟩; clear tok1 _t; obtain ⟨hcn, hfn⟩ := bcellE hbn; have hln : w.heap.size < wn.heap.size := by (have hzz := hbn.size; simp at hzz; omega)))
      go_ret
      exact ⟨ret_intE (a := 6) HE.out.symm, ((Below.refl _ _).alloc (Nat.le_refl _) _).trans (hbn.mono (by first | omega | (simp; done) | (simp; omega)))⟩
    · rw [hn] at HNM
      have HE : Hid (namesErr 8 nm mr true false = 0) := Lib.hid (by simp [namesErr, namedB, okName, hn])
      clear hn hsh
      have tok1 : True := trivial
      go_enter Tryz.func82, Tryz.ntmps82
      go_wp2_with (first | ((go_at_call 116); have _t := tok1; (with_reducible refine (HNM.out _).mono ?_); rintro e wn ⟨rfl, hbn⟩; clear tok1 _t; obtain ⟨hcn, hfn⟩ := bcellE hbn; have hln : w.heap.size < wn.heap.size := by (have hzz := hbn.size; simp at hzz; omega)))
      go_ret
      exact ⟨ret_intE (a := 0) HE.out.symm, ((Below.refl _ _).alloc (Nat.le_refl _) _).trans (hbn.mono (by first | omega | (simp; done) | (simp; omega)))⟩
  · cases e
    have HE : Hid (namesErr 9 nm mr false false = 0) := Lib.hid (by simp [namesErr, namedB, okName, ])
    clear  hsh
    have tok1 : True := trivial
    go_enter Tryz.func82, Tryz.ntmps82
    go_wp2_with fail
    go_ret
    exact ⟨ret_intE (a := 0) HE.out.symm, (Below.refl _ _).alloc (Nat.le_refl _) _⟩
  · cases e
    by_cases hz : nm.size = 1
    · obtain ⟨c, rfl⟩ := one_byte hz
      have HCT : Hid (∀ W : World, Calls Tryz.prog 105 #[.string ⟨#[43, 45, 42, 61, 60]⟩, .string ⟨#[c]⟩] W fun e w' => e = .returned (.bool (hasB opNames ⟨#[c]⟩)) ∧ W = w') := Lib.hid (fun W => by have := contains_one ⟨#[43, 45, 42, 61, 60]⟩ c W; rw [ops_index] at this; exact this)
      cases hl : hasB opNames ⟨#[c]⟩
      · rw [hl] at HCT
        have HE : Hid (namesErr 10 ⟨#[c]⟩ mr true false = 6) := Lib.hid (by simp [namesErr, namedB, okName, hl])
        clear hl hz HNM HLB hsh
        have tok1 : True := trivial
        go_enter Tryz.func82, Tryz.ntmps82
        go_wp2_with (first | ((go_at_call 105); refine (HCT.out _).mono ?_; rintro e wn ⟨rfl, rfl⟩))
        go_ret
        exact ⟨ret_intE (a := 6) HE.out.symm, (Below.refl _ _).alloc (Nat.le_refl _) _⟩
      · rw [hl] at HCT
        have HE : Hid (namesErr 10 ⟨#[c]⟩ mr true false = 0) := Lib.hid (by simp [namesErr, namedB, okName, hl])
        clear hl hz HNM HLB hsh
        have tok1 : True := trivial
        go_enter Tryz.func82, Tryz.ntmps82
        go_wp2_with (first | ((go_at_call 105); refine (HCT.out _).mono ?_; rintro e wn ⟨rfl, rfl⟩))
        go_ret
        exact ⟨ret_intE (a := 0) HE.out.symm, (Below.refl _ _).alloc (Nat.le_refl _) _⟩
    · have hz1 : ((nm.size : Int) == 1) = false := by simp; omega
      have hz2 : (nm.size == 1) = false := by simpa using hz
      have HE : Hid (namesErr 10 nm mr true false = 6) := Lib.hid (by simp [namesErr, namedB, okName, ops_long hz])
      clear hz hsh
      have tok1 : True := trivial
      go_enter Tryz.func82, Tryz.ntmps82
      go_wp2_with fail
      go_ret
      exact ⟨ret_intE (a := 6) HE.out.symm, (Below.refl _ _).alloc (Nat.le_refl _) _⟩
  · cases e
    have HE : Hid (namesErr 11 nm mr false false = 0) := Lib.hid (by simp [namesErr, namedB, okName, ])
    clear  hsh
    have tok1 : True := trivial
    go_enter Tryz.func82, Tryz.ntmps82
    go_wp2_with fail
    go_ret
    exact ⟨ret_intE (a := 0) HE.out.symm, (Below.refl _ _).alloc (Nat.le_refl _) _⟩
  · cases e
    have HE : Hid (namesErr 12 nm mr false false = 0) := Lib.hid (by simp [namesErr, namedB, okName, ])
    clear  hsh
    have tok1 : True := trivial
    go_enter Tryz.func82, Tryz.ntmps82
    go_wp2_with fail
    go_ret
    exact ⟨ret_intE (a := 0) HE.out.symm, (Below.refl _ _).alloc (Nat.le_refl _) _⟩
  · cases e
    cases hn : nameB nm
    · rw [hn] at HNM
      have HE : Hid (namesErr 13 nm mr true true = 6) := Lib.hid (by simp [namesErr, namedB, okName, hn])
      clear hn hsh
      have tok1 : True := trivial
      go_enter Tryz.func82, Tryz.ntmps82
      go_wp2_with (first | ((go_at_call 116); have _t := tok1; (with_reducible refine (HNM.out _).mono ?_); rintro e wn ⟨rfl, hbn⟩; clear tok1 _t; obtain ⟨hcn, hfn⟩ := bcellE hbn; have hln : w.heap.size < wn.heap.size := by (have hzz := hbn.size; simp at hzz; omega)))
      go_ret
      exact ⟨ret_intE (a := 6) HE.out.symm, ((Below.refl _ _).alloc (Nat.le_refl _) _).trans (hbn.mono (by first | omega | (simp; done) | (simp; omega)))⟩
    · rw [hn] at HNM
      cases hm : nameB mr
      · rw [hm] at HMR
        have HE : Hid (namesErr 13 nm mr true true = 6) := Lib.hid (by simp [namesErr, namedB, okName, hn, hm])
        clear hn hm hsh
        have tok1 : True := trivial
        go_enter Tryz.func82, Tryz.ntmps82
        go_wp2_with (first | ((go_at_call 116); have _t := tok1; (with_reducible refine (HNM.out _).mono ?_); rintro e wn ⟨rfl, hbn⟩; clear tok1 _t; obtain ⟨hcn, hfn⟩ := bcellE hbn; have hln : w.heap.size < wn.heap.size := by (have hzz := hbn.size; simp at hzz; omega)) | ((go_at_call 116); (with_reducible refine (HMR.out _).mono ?_); rintro e wm ⟨rfl, hbm⟩; obtain ⟨hcm, hfm⟩ := bcellE hbm))
        go_ret
        exact ⟨ret_intE (a := 6) HE.out.symm, (((Below.refl _ _).alloc (Nat.le_refl _) _).trans (hbn.mono (by first | omega | (simp; done) | (simp; omega)))).trans (hbm.mono (by have := hbn.size; simp at this; omega))⟩
      · rw [hm] at HMR
        by_cases hq : nm = mr
        · subst hq
          have HE : Hid (namesErr 13 nm nm true true = 7) := Lib.hid (by simp [namesErr, namedB, okName, hn])
          clear hn hm HMR hsh
          have tok1 : True := trivial
          go_enter Tryz.func82, Tryz.ntmps82
          go_wp2_with (first | ((go_at_call 116); have _t := tok1; (with_reducible refine (HNM.out _).mono ?_); rintro e wn ⟨rfl, hbn⟩; clear tok1 _t; obtain ⟨hcn, hfn⟩ := bcellE hbn; have hln : w.heap.size < wn.heap.size := by (have hzz := hbn.size; simp at hzz; omega)) | ((go_at_call 116); (with_reducible refine (HNM.out _).mono ?_); rintro e wm ⟨rfl, hbm⟩; obtain ⟨hcm, hfm⟩ := bcellE hbm))
          go_ret
          exact ⟨ret_intE (a := 7) HE.out.symm, (((Below.refl _ _).alloc (Nat.le_refl _) _).trans (hbn.mono (by first | omega | (simp; done) | (simp; omega)))).trans (hbm.mono (by have := hbn.size; simp at this; omega))⟩
        · have hq1 : (nm.toList == mr.toList) = false := (Lib.bytes_beq_false_iff _ _).2 hq
          have HE : Hid (namesErr 13 nm mr true true = 0) := Lib.hid (by simp [namesErr, namedB, okName, hn, hm, hq])
          clear hn hm hq hsh
          have tok1 : True := trivial
          go_enter Tryz.func82, Tryz.ntmps82
          go_wp2_with (first | ((go_at_call 116); have _t := tok1; (with_reducible refine (HNM.out _).mono ?_); rintro e wn ⟨rfl, hbn⟩; clear tok1 _t; obtain ⟨hcn, hfn⟩ := bcellE hbn; have hln : w.heap.size < wn.heap.size := by (have hzz := hbn.size; simp at hzz; omega)) | ((go_at_call 116); (with_reducible refine (HMR.out _).mono ?_); rintro e wm ⟨rfl, hbm⟩; obtain ⟨hcm, hfm⟩ := bcellE hbm))
          go_ret
          exact ⟨ret_intE (a := 0) HE.out.symm, (((Below.refl _ _).alloc (Nat.le_refl _) _).trans (hbn.mono (by first | omega | (simp; done) | (simp; omega)))).trans (hbm.mono (by have := hbn.size; simp at this; omega))⟩
  · cases e
    have HE : Hid (namesErr 14 nm mr false false = 0) := Lib.hid (by simp [namesErr, namedB, okName, ])
    clear  hsh
    have tok1 : True := trivial
    go_enter Tryz.func82, Tryz.ntmps82
    go_wp2_with fail
    go_ret
    exact ⟨ret_intE (a := 0) HE.out.symm, (Below.refl _ _).alloc (Nat.le_refl _) _⟩
  · cases e
    have HE : Hid (namesErr 15 nm mr false false = 0) := Lib.hid (by simp [namesErr, namedB, okName, ])
    clear  hsh
    have tok1 : True := trivial
    go_enter Tryz.func82, Tryz.ntmps82
    go_wp2_with fail
    go_ret
    exact ⟨ret_intE (a := 0) HE.out.symm, (Below.refl _ _).alloc (Nat.le_refl _) _⟩
end Go.Proofs.YtnphcjpccieljaaGreatDoor
