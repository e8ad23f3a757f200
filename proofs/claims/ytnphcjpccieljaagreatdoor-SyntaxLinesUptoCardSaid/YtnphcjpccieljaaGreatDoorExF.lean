/- named of the reference; checkNumbers, name, checkNames of syntax. -/
import Derived.Test.YtnphcjpccieljaaGreatDoorGExC
import Derived.Deep.Light
namespace Go.Proofs.YtnphcjpccieljaaGreatDoor
open Go.RowKit

theorem ret_intE {k : IntKind} {a b : Int} (h : a = b) : Ending.returned (.int k a) = .returned (.int k b) := by rw [h]
def opNames : List ByteArray := [⟨#[43]⟩, ⟨#[45]⟩, ⟨#[42]⟩, ⟨#[61]⟩, ⟨#[60]⟩]
/-- the names of a node are as its kind wants them -/
def okName (k : Int) (nm : ByteArray) (b0 : Bool) : Bool :=
  if k = 5 then decide (nm.size = 0) || labelL nm.data.toList else if k = 10 then hasB opNames nm else !b0 || nameB nm
def namedB (k : Int) (nm mr : ByteArray) (b0 b1 : Bool) : Bool := (!b1 || nameB mr) && okName k nm b0
def rangeErr (k it d : Int) : Int := if rangedB k it d then 0 else 2
theorem size_zero {s : ByteArray} (h : s.size = 0) : s = ⟨#[]⟩ := by
  apply ByteArray.ext; apply Array.eq_empty_of_size_eq_zero; exact h
theorem toList_nil' {s : ByteArray} (h : s.size = 0) : s.toList = [] := by rw [size_zero h, ByteArray.toList_eq]
theorem toList_ne' {s : ByteArray} (h : ¬ s.size = 0) : s.toList.isEmpty = false := by
  rw [List.isEmpty_eq_false_iff, ByteArray.toList_eq]; intro e; apply h
  have : s.data.toList.length = 0 := by rw [e]; rfl
  simpa using this
set_option maxHeartbeats 1000000 in
theorem scheckNumbers_any (k : Int) (nm mr : ByteArray) (it d : Int) (sv : Value) (w : World) :
    Calls Tryz.prog 83 #[.agg #[.int .i64 k, .string nm, .string mr, .int .i64 it, .int .i64 d, sv]] w fun e w' => e = .returned (.int .i64 (rangeErr k it d)) ∧ Below w.heap.size w w' := by
  by_cases h1 : k = 1
  · subst h1
    skip
    go_enter Tryz.func83, Tryz.ntmps83
    go_wp2_with fail
    all_goals
      go_ret
      refine ⟨?_, (Below.refl _ _).alloc (Nat.le_refl _) _⟩
      first
        | (refine ret_intE (a := 0) ?_; unfold rangeErr; rw [if_pos]; (go_light; (first | (simp_all [rangedB]; done) | (simp_all [rangedB]; omega))))
        | (refine ret_intE (a := 2) ?_; unfold rangeErr; rw [if_neg]; (go_light; (first | (simp_all [rangedB]; done) | (simp_all [rangedB]; omega))))
  by_cases h2 : k = 2
  · subst h2
    clear h1
    go_enter Tryz.func83, Tryz.ntmps83
    go_wp2_with fail
    all_goals
      go_ret
      refine ⟨?_, (Below.refl _ _).alloc (Nat.le_refl _) _⟩
      first
        | (refine ret_intE (a := 0) ?_; unfold rangeErr; rw [if_pos]; (go_light; (first | (simp_all [rangedB]; done) | (simp_all [rangedB]; omega))))
        | (refine ret_intE (a := 2) ?_; unfold rangeErr; rw [if_neg]; (go_light; (first | (simp_all [rangedB]; done) | (simp_all [rangedB]; omega))))
  by_cases h5 : k = 5
  · subst h5
    clear h1 h2
    go_enter Tryz.func83, Tryz.ntmps83
    go_wp2_with fail
    all_goals
      go_ret
      refine ⟨?_, (Below.refl _ _).alloc (Nat.le_refl _) _⟩
      first
        | (refine ret_intE (a := 0) ?_; unfold rangeErr; rw [if_pos]; (go_light; (first | (simp_all [rangedB]; done) | (simp_all [rangedB]; omega))))
        | (refine ret_intE (a := 2) ?_; unfold rangeErr; rw [if_neg]; (go_light; (first | (simp_all [rangedB]; done) | (simp_all [rangedB]; omega))))
  by_cases h14 : k = 14
  · subst h14
    clear h1 h2 h5
    go_enter Tryz.func83, Tryz.ntmps83
    go_wp2_with fail
    all_goals
      go_ret
      refine ⟨?_, (Below.refl _ _).alloc (Nat.le_refl _) _⟩
      first
        | (refine ret_intE (a := 0) ?_; unfold rangeErr; rw [if_pos]; (go_light; (first | (simp_all [rangedB]; done) | (simp_all [rangedB]; omega))))
        | (refine ret_intE (a := 2) ?_; unfold rangeErr; rw [if_neg]; (go_light; (first | (simp_all [rangedB]; done) | (simp_all [rangedB]; omega))))
  have HE : Hid (rangedB k it d = true) := Lib.hid (by simp [rangedB, h1, h2, h5, h14])
  have f1 : (k == 1) = false := by simpa using h1
  have f2 : (k == 2) = false := by simpa using h2
  have f3 : (k == 5) = false := by simpa using h5
  have f4 : (k == 14) = false := by simpa using h14
  clear h1 h2 h5 h14
  go_enter Tryz.func83, Tryz.ntmps83
  go_wp2_with fail
  go_ret
  exact ⟨ret_intE (a := 0) (by unfold rangeErr; rw [HE.out]; rfl), (Below.refl _ _).alloc (Nat.le_refl _) _⟩
theorem beq_lit {s : ByteArray} {l : List UInt8} (h : ¬ (⟨l.toArray⟩ : ByteArray) = s) : (s.toList == l) = false := by
  have h1 : ¬ s.toList = l := by
    rw [ByteArray.toList_eq]; rintro rfl; exact h rfl
  simpa using h1
theorem reserved_cases {s : ByteArray} (h : hasB reservedL s = true) : s = ⟨#[99, 97, 115, 101]⟩ ∨ s = ⟨#[99, 104, 97, 110, 99, 101]⟩ ∨ s = ⟨#[99, 111, 110, 102, 108, 105, 99, 116]⟩ ∨ s = ⟨#[101, 108, 115, 101]⟩ ∨ s = ⟨#[102, 97, 108, 115, 101]⟩ ∨ s = ⟨#[102, 108, 97, 107, 121]⟩ ∨ s = ⟨#[102, 117, 110]⟩ ∨ s = ⟨#[105, 102]⟩ ∨ s = ⟨#[105, 110]⟩ ∨ s = ⟨#[108, 101, 116]⟩ ∨ s = ⟨#[110, 105, 108]⟩ ∨ s = ⟨#[111, 102]⟩ ∨ s = ⟨#[112, 117, 98]⟩ ∨ s = ⟨#[116, 101, 115, 116]⟩ ∨ s = ⟨#[116, 104, 101, 110]⟩ ∨ s = ⟨#[116, 114, 117, 101]⟩ ∨ s = ⟨#[117, 115, 101]⟩ := by
  simp only [hasB, reservedL, List.any_cons, List.any_nil, Bool.or_false, Bool.or_eq_true, decide_eq_true_eq] at h
  rcases h with h | h | h | h | h | h | h | h | h | h | h | h | h | h | h | h | h <;> subst h <;> simp
theorem reserved_no {s : ByteArray} (h : hasB reservedL s = false) : (s.toList == [99, 97, 115, 101]) = false ∧ (s.toList == [99, 104, 97, 110, 99, 101]) = false ∧ (s.toList == [99, 111, 110, 102, 108, 105, 99, 116]) = false ∧ (s.toList == [101, 108, 115, 101]) = false ∧ (s.toList == [102, 97, 108, 115, 101]) = false ∧ (s.toList == [102, 108, 97, 107, 121]) = false ∧ (s.toList == [102, 117, 110]) = false ∧ (s.toList == [105, 102]) = false ∧ (s.toList == [105, 110]) = false ∧ (s.toList == [108, 101, 116]) = false ∧ (s.toList == [110, 105, 108]) = false ∧ (s.toList == [111, 102]) = false ∧ (s.toList == [112, 117, 98]) = false ∧ (s.toList == [116, 101, 115, 116]) = false ∧ (s.toList == [116, 104, 101, 110]) = false ∧ (s.toList == [116, 114, 117, 101]) = false ∧ (s.toList == [117, 115, 101]) = false := by
  simp only [hasB, reservedL, List.any_cons, List.any_nil, Bool.or_false, Bool.or_eq_false_iff, decide_eq_false_iff_not] at h
  obtain ⟨h0, h1, h2, h3, h4, h5, h6, h7, h8, h9, h10, h11, h12, h13, h14, h15, h16⟩ := h
  exact ⟨beq_lit h0, beq_lit h1, beq_lit h2, beq_lit h3, beq_lit h4, beq_lit h5, beq_lit h6, beq_lit h7, beq_lit h8, beq_lit h9, beq_lit h10, beq_lit h11, beq_lit h12, beq_lit h13, beq_lit h14, beq_lit h15, beq_lit h16⟩
set_option maxHeartbeats 1000000 in
theorem sname_any (s : ByteArray) (w : World) :
    Calls Tryz.prog 116 #[.string s] w fun e w' => e = .returned (.bool (nameB s)) ∧ Below w.heap.size w w' := by
  cases hr : hasB reservedL s
  · obtain ⟨h0, h1, h2, h3, h4, h5, h6, h7, h8, h9, h10, h11, h12, h13, h14, h15, h16⟩ := reserved_no hr
    have HE : Hid (nameB s = wordL 24 s.data.toList) := Lib.hid (by simp [nameB, hr])
    clear hr
    go_enter Tryz.func116, Tryz.ntmps116
    go_wp2_with (first | (go_at_call 76; refine (word_any s _).mono ?_; rintro e w' ⟨rfl, hb⟩))
    go_ret
    exact ⟨by rw [HE.out]; rfl, hb⟩
  · have HE : Hid (nameB s = false) := Lib.hid (by simp [nameB, hr])
    rcases reserved_cases hr with rfl | rfl | rfl | rfl | rfl | rfl | rfl | rfl | rfl | rfl | rfl | rfl | rfl | rfl | rfl | rfl | rfl
    all_goals
      clear hr
      go_enter Tryz.func116, Tryz.ntmps116
      go_wp2_with fail
      go_ret
      exact ⟨by rw [HE.out]; rfl, Below.refl _ _⟩
end Go.Proofs.YtnphcjpccieljaaGreatDoor
