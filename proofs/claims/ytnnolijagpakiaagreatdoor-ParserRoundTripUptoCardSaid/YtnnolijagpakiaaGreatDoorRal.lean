/- Texts of this proof, part 12: what the proof uses of them. -/
import Derived.Test.YtnnolijagpakiaaGreatDoorRak
import Derived.Test.YtnnolijagpakiaaGreatDoorRaj
import Derived.RangeFuncLeaves
import Derived.RangeFuncCalls
namespace Go.Proofs.YtnnolijagpakiaaGreatDoor
section
open Go.RowKit
def argOk (nn nu ns : Nat) (nm mr : ByteArray) (it d : Int) (len : Nat) : Bool :=
 (decide (1 ≤ nn) || decide (nm.size = 0)) && (decide (2 ≤ nn) || decide (mr.size = 0)) && (decide (1 ≤ nu) || decide (it = 0)) && (decide (2 ≤ nu) || decide (d = 0)) && decide (len = ns)
def checkN (k : Int) (nm mr : ByteArray) (it d : Int) (len : Nat) : Int :=
 match shapeK k with
 | none => 9
 | some (nn, nu, ns) => if argOk nn nu ns nm mr it d len then (if namesErr k nm mr (decide (1 ≤ nn)) (decide (2 ≤ nn)) = 0 then rangeErr k it d else namesErr k nm mr (decide (1 ≤ nn)) (decide (2 ≤ nn))) else 1
theorem checkN_none {k : Int} {nm mr : ByteArray} {it d : Int} {len : Nat} (h : shapeK k = none) : checkN k nm mr it d len = 9 := by simp [checkN, h]
theorem checkN_arg {k : Int} {nm mr : ByteArray} {it d : Int} {len nn nu ns : Nat} (h : shapeK k = some (nn, nu, ns)) (ha : argOk nn nu ns nm mr it d len = false) : checkN k nm mr it d len = 1 := by simp [checkN, h, ha]
theorem checkN_names {k : Int} {nm mr : ByteArray} {it d : Int} {len nn nu ns : Nat} (h : shapeK k = some (nn, nu, ns)) (ha : argOk nn nu ns nm mr it d len = true) (hn : ¬ namesErr k nm mr (decide (1 ≤ nn)) (decide (2 ≤ nn)) = 0) : checkN k nm mr it d len = namesErr k nm mr (decide (1 ≤ nn)) (decide (2 ≤ nn)) := by simp only [checkN, h, ha]; simp [hn]
theorem checkN_range {k : Int} {nm mr : ByteArray} {it d : Int} {len nn nu ns : Nat} (h : shapeK k = some (nn, nu, ns)) (ha : argOk nn nu ns nm mr it d len = true) (hn : namesErr k nm mr (decide (1 ≤ nn)) (decide (2 ≤ nn)) = 0) : checkN k nm mr it d len = rangeErr k it d := by simp only [checkN, h, ha]; simp [hn]
theorem shape_flags {k : Int} {nn nu ns : Nat} (h : shapeK k = some (nn, nu, ns)) : (nn = 0 ∧ nu = 1) ∨ (nn = 1 ∧ nu = 0) ∨ (nn = 2 ∧ nu = 0) ∨ (nn = 1 ∧ nu = 1) ∨ (nn = 0 ∧ nu = 0) ∨ (nn = 0 ∧ nu = 2) := by
 rcases shapeK_cases h with ⟨_, e⟩ | ⟨_, e⟩ | ⟨_, e⟩ | ⟨_, e⟩ | ⟨_, e⟩ | ⟨_, e⟩ | ⟨_, e⟩ | ⟨_, e⟩ | ⟨_, e⟩ | ⟨_, e⟩ | ⟨_, e⟩ | ⟨_, e⟩ | ⟨_, e⟩ | ⟨_, e⟩ | ⟨_, e⟩ <;> (cases e; simp)
set_option maxHeartbeats 4000000 in
theorem scheckNode_no (k : Int) (nm mr : ByteArray) (it d : Int) (p : Option Addr) (len cap : Nat) (w : World) (hsh : shapeK k = none) :
  Calls Tryz.prog 84 #[.agg #[.int .i64 k, .string nm, .string mr, .int .i64 it, .int .i64 d, .slice p len cap]] w fun e w' => e = .returned (.int .i64 (checkN k nm mr it d len)) ∧ Below w.heap.size w w' := by
 have HSH := Lib.hid (fun W => sshapeOf_no k W hsh)
 have HE := Lib.hid (checkN_none (nm := nm) (mr := mr) (it := it) (d := d) (len := len) hsh)
 obtain ⟨w1, hw1, hX⟩ := boxed w #[.int .i64 k, .string nm, .string mr, .int .i64 it, .int .i64 d, .slice p len cap] 36
 have HW := Lib.hid hw1
 have HX := Lib.hid hX
 clear hX hw1 hsh
 go_enter Tryz.func84, Tryz.ntmps84
 go_wp2_with fail
 rw [HW.out]
 refine (HSH.out _).mono ?_
 rintro e ws ⟨rfl, hbs⟩
 obtain ⟨c0, c1, c2, c3, c4, c5⟩ := boxed6 HX.out hbs
 have hl1 : w.heap.size < ws.heap.size := by have := HX.out.size; have := hbs.size; omega
 have hbw : Below w.heap.size w ws := HX.out.below.trans (hbs.mono HX.out.below.size)
 clear hbs
 go_wp2_with fail
 go_ret
 exact ⟨ret_intE (a := 9) HE.out.symm, hbw.alloc (by first | omega | (simp; done) | (simp; omega)) _⟩
set_option maxHeartbeats 4000000 in
theorem scheckNode_01 (k : Int) (ns : Nat) (nm mr : ByteArray) (it d : Int) (p : Option Addr) (len cap : Nat) (w : World) (hsh : shapeK k = some (0, 1, ns)) :
  Calls Tryz.prog 84 #[.agg #[.int .i64 k, .string nm, .string mr, .int .i64 it, .int .i64 d, .slice p len cap]] w fun e w' => e = .returned (.int .i64 (checkN k nm mr it d len)) ∧ Below w.heap.size w w' := by
 have HSH := Lib.hid (fun W => sshapeOf_yes k 0 1 ns W hsh)
 by_cases hz : nm.size = 0
 rotate_left
 ·have HE := Lib.hid (checkN_arg (nm := nm) (mr := mr) (it := it) (d := d) (len := len) hsh (by simp [argOk, hz]))
  have hz1 := toList_ne' hz
  clear hz
  obtain ⟨w1, hw1, hX⟩ := boxed w #[.int .i64 k, .string nm, .string mr, .int .i64 it, .int .i64 d, .slice p len cap] 36
  have HW := Lib.hid hw1
  have HX := Lib.hid hX
  clear hX hw1 hsh
  go_enter Tryz.func84, Tryz.ntmps84
  go_wp2_with fail
  rw [HW.out]
  refine (HSH.out _).mono ?_
  rintro e ws ⟨rfl, hbs⟩
  obtain ⟨c0, c1, c2, c3, c4, c5⟩ := boxed6 HX.out hbs
  have hl1 : w.heap.size < ws.heap.size := by have := HX.out.size; have := hbs.size; omega
  have hbw : Below w.heap.size w ws := HX.out.below.trans (hbs.mono HX.out.below.size)
  clear hbs
  go_wp2_with fail
  go_ret
  exact ⟨ret_intE (a := 1) HE.out.symm, hbw.alloc (by first | omega | (simp; done) | (simp; omega)) _⟩
 obtain rfl := size_zero hz
 clear hz
 by_cases hz : mr.size = 0
 rotate_left
 ·have HE := Lib.hid (checkN_arg (nm := ⟨#[]⟩) (mr := mr) (it := it) (d := d) (len := len) hsh (by simp [argOk, hz]))
  have hz1 := toList_ne' hz
  clear hz
  obtain ⟨w1, hw1, hX⟩ := boxed w #[.int .i64 k, .string ⟨#[]⟩, .string mr, .int .i64 it, .int .i64 d, .slice p len cap] 36
  have HW := Lib.hid hw1
  have HX := Lib.hid hX
  clear hX hw1 hsh
  go_enter Tryz.func84, Tryz.ntmps84
  go_wp2_with fail
  rw [HW.out]
  refine (HSH.out _).mono ?_
  rintro e ws ⟨rfl, hbs⟩
  obtain ⟨c0, c1, c2, c3, c4, c5⟩ := boxed6 HX.out hbs
  have hl1 : w.heap.size < ws.heap.size := by have := HX.out.size; have := hbs.size; omega
  have hbw : Below w.heap.size w ws := HX.out.below.trans (hbs.mono HX.out.below.size)
  clear hbs
  go_wp2_with fail
  go_ret
  exact ⟨ret_intE (a := 1) HE.out.symm, hbw.alloc (by first | omega | (simp; done) | (simp; omega)) _⟩
 obtain rfl := size_zero hz
 clear hz
 by_cases hz : d = 0
 rotate_left
 ·have HE := Lib.hid (checkN_arg (nm := ⟨#[]⟩) (mr := ⟨#[]⟩) (it := it) (d := d) (len := len) hsh (by simp [argOk, hz]))
  have hz1 : (d != 0) = true := by simpa using hz
  clear hz
  obtain ⟨w1, hw1, hX⟩ := boxed w #[.int .i64 k, .string ⟨#[]⟩, .string ⟨#[]⟩, .int .i64 it, .int .i64 d, .slice p len cap] 36
  have HW := Lib.hid hw1
  have HX := Lib.hid hX
  clear hX hw1 hsh
  go_enter Tryz.func84, Tryz.ntmps84
  go_wp2_with fail
  rw [HW.out]
  refine (HSH.out _).mono ?_
  rintro e ws ⟨rfl, hbs⟩
  obtain ⟨c0, c1, c2, c3, c4, c5⟩ := boxed6 HX.out hbs
  have hl1 : w.heap.size < ws.heap.size := by have := HX.out.size; have := hbs.size; omega
  have hbw : Below w.heap.size w ws := HX.out.below.trans (hbs.mono HX.out.below.size)
  clear hbs
  go_wp2_with fail
  go_ret
  exact ⟨ret_intE (a := 1) HE.out.symm, hbw.alloc (by first | omega | (simp; done) | (simp; omega)) _⟩
 subst hz
 by_cases hz : len = ns
 rotate_left
 ·have HE := Lib.hid (checkN_arg (nm := ⟨#[]⟩) (mr := ⟨#[]⟩) (it := it) (d := 0) (len := len) hsh (by simp [argOk, hz]))
  have hz1 : ((len : Int) != (ns : Int)) = true := by simp; omega
  have hz2 : (len != ns) = true := by simpa using hz
  clear hz
  obtain ⟨w1, hw1, hX⟩ := boxed w #[.int .i64 k, .string ⟨#[]⟩, .string ⟨#[]⟩, .int .i64 it, .int .i64 0, .slice p len cap] 36
  have HW := Lib.hid hw1
  have HX := Lib.hid hX
  clear hX hw1 hsh
  go_enter Tryz.func84, Tryz.ntmps84
  go_wp2_with fail
  rw [HW.out]
  refine (HSH.out _).mono ?_
  rintro e ws ⟨rfl, hbs⟩
  obtain ⟨c0, c1, c2, c3, c4, c5⟩ := boxed6 HX.out hbs
  have hl1 : w.heap.size < ws.heap.size := by have := HX.out.size; have := hbs.size; omega
  have hbw : Below w.heap.size w ws := HX.out.below.trans (hbs.mono HX.out.below.size)
  clear hbs
  go_wp2_with fail
  go_ret
  exact ⟨ret_intE (a := 1) HE.out.symm, hbw.alloc (by first | omega | (simp; done) | (simp; omega)) _⟩
 subst hz
 have HNE := Lib.hid (fun W => scheckNames_any k 0 1 len ⟨#[]⟩ ⟨#[]⟩ it 0 (.slice p len cap) W hsh)
 have hok : argOk 0 1 len ⟨#[]⟩ ⟨#[]⟩ it 0 len = true := by simp [argOk] <;> rfl
 obtain ⟨ne, hne⟩ : ∃ ne, namesErr k ⟨#[]⟩ ⟨#[]⟩ (decide (1 ≤ 0)) (decide (2 ≤ 0)) = ne := ⟨_, rfl⟩
 rw [hne] at HNE
 by_cases hz : ne = 0
 ·have HE := Lib.hid (checkN_range hsh hok (hne.trans hz))
  subst hz
  clear hok hne
  obtain ⟨w1, hw1, hX⟩ := boxed w #[.int .i64 k, .string ⟨#[]⟩, .string ⟨#[]⟩, .int .i64 it, .int .i64 0, .slice p len cap] 36
  have HW := Lib.hid hw1
  have HX := Lib.hid hX
  clear hX hw1 hsh
  go_enter Tryz.func84, Tryz.ntmps84
  go_wp2_with fail
  rw [HW.out]
  refine (HSH.out _).mono ?_
  rintro e ws ⟨rfl, hbs⟩
  obtain ⟨c0, c1, c2, c3, c4, c5⟩ := boxed6 HX.out hbs
  have hl1 : w.heap.size < ws.heap.size := by have := HX.out.size; have := hbs.size; omega
  have hbw : Below w.heap.size w ws := HX.out.below.trans (hbs.mono HX.out.below.size)
  clear hbs
  go_wp2_with (first
   | (go_at_call 144; refine (HNE.out _).mono ?_; rintro e wn ⟨rfl, hbn⟩; obtain ⟨hcn, hfn⟩ := bcellE hbn; have hln : w.heap.size < ws.heap.size + 1 := by omega)
   | (go_at_call 145; refine (scheckNumbers_any _ _ _ _ _ _ _).mono ?_; rintro e wm ⟨rfl, hbm⟩))
  go_ret
  exact ⟨ret_intE (a := rangeErr k it 0) HE.out.symm, ((hbw.alloc (by first | omega | (simp; done) | (simp; omega)) _).trans (hbn.mono (by first | omega | (simp; done) | (simp; omega)))).trans (hbm.mono (by have hz1 := hbn.size; simp at hz1; omega))⟩
 ·have HE := Lib.hid (checkN_names hsh hok (by rw [hne]; exact hz))
  rw [hne] at HE
  have hz1 : (ne != 0) = true := by simpa using hz
  clear hok hne hz
  obtain ⟨w1, hw1, hX⟩ := boxed w #[.int .i64 k, .string ⟨#[]⟩, .string ⟨#[]⟩, .int .i64 it, .int .i64 0, .slice p len cap] 36
  have HW := Lib.hid hw1
  have HX := Lib.hid hX
  clear hX hw1 hsh
  go_enter Tryz.func84, Tryz.ntmps84
  go_wp2_with fail
  rw [HW.out]
  refine (HSH.out _).mono ?_
  rintro e ws ⟨rfl, hbs⟩
  obtain ⟨c0, c1, c2, c3, c4, c5⟩ := boxed6 HX.out hbs
  have hl1 : w.heap.size < ws.heap.size := by have := HX.out.size; have := hbs.size; omega
  have hbw : Below w.heap.size w ws := HX.out.below.trans (hbs.mono HX.out.below.size)
  clear hbs
  go_wp2_with (first
   | (go_at_call 144; refine (HNE.out _).mono ?_; rintro e wn ⟨rfl, hbn⟩; obtain ⟨hcn, hfn⟩ := bcellE hbn; have hln : w.heap.size < ws.heap.size + 1 := by omega))
  go_ret
  exact ⟨ret_intE (a := ne) HE.out.symm, (hbw.alloc (by first | omega | (simp; done) | (simp; omega)) _).trans (hbn.mono (by first | omega | (simp; done) | (simp; omega)))⟩
set_option maxHeartbeats 4000000 in
theorem scheckNode_10 (k : Int) (ns : Nat) (nm mr : ByteArray) (it d : Int) (p : Option Addr) (len cap : Nat) (w : World) (hsh : shapeK k = some (1, 0, ns)) :
  Calls Tryz.prog 84 #[.agg #[.int .i64 k, .string nm, .string mr, .int .i64 it, .int .i64 d, .slice p len cap]] w fun e w' => e = .returned (.int .i64 (checkN k nm mr it d len)) ∧ Below w.heap.size w w' := by
 have HSH := Lib.hid (fun W => sshapeOf_yes k 1 0 ns W hsh)
 by_cases hz : mr.size = 0
 rotate_left
 ·have HE := Lib.hid (checkN_arg (nm := nm) (mr := mr) (it := it) (d := d) (len := len) hsh (by simp [argOk, hz]))
  have hz1 := toList_ne' hz
  clear hz
  obtain ⟨w1, hw1, hX⟩ := boxed w #[.int .i64 k, .string nm, .string mr, .int .i64 it, .int .i64 d, .slice p len cap] 36
  have HW := Lib.hid hw1
  have HX := Lib.hid hX
  clear hX hw1 hsh
  go_enter Tryz.func84, Tryz.ntmps84
  go_wp2_with fail
  rw [HW.out]
  refine (HSH.out _).mono ?_
  rintro e ws ⟨rfl, hbs⟩
  obtain ⟨c0, c1, c2, c3, c4, c5⟩ := boxed6 HX.out hbs
  have hl1 : w.heap.size < ws.heap.size := by have := HX.out.size; have := hbs.size; omega
  have hbw : Below w.heap.size w ws := HX.out.below.trans (hbs.mono HX.out.below.size)
  clear hbs
  go_wp2_with fail
  go_ret
  exact ⟨ret_intE (a := 1) HE.out.symm, hbw.alloc (by first | omega | (simp; done) | (simp; omega)) _⟩
 obtain rfl := size_zero hz
 clear hz
 by_cases hz : it = 0
 rotate_left
 ·have HE := Lib.hid (checkN_arg (nm := nm) (mr := ⟨#[]⟩) (it := it) (d := d) (len := len) hsh (by simp [argOk, hz]))
  have hz1 : (it != 0) = true := by simpa using hz
  clear hz
  obtain ⟨w1, hw1, hX⟩ := boxed w #[.int .i64 k, .string nm, .string ⟨#[]⟩, .int .i64 it, .int .i64 d, .slice p len cap] 36
  have HW := Lib.hid hw1
  have HX := Lib.hid hX
  clear hX hw1 hsh
  go_enter Tryz.func84, Tryz.ntmps84
  go_wp2_with fail
  rw [HW.out]
  refine (HSH.out _).mono ?_
  rintro e ws ⟨rfl, hbs⟩
  obtain ⟨c0, c1, c2, c3, c4, c5⟩ := boxed6 HX.out hbs
  have hl1 : w.heap.size < ws.heap.size := by have := HX.out.size; have := hbs.size; omega
  have hbw : Below w.heap.size w ws := HX.out.below.trans (hbs.mono HX.out.below.size)
  clear hbs
  go_wp2_with fail
  go_ret
  exact ⟨ret_intE (a := 1) HE.out.symm, hbw.alloc (by first | omega | (simp; done) | (simp; omega)) _⟩
 subst hz
 by_cases hz : d = 0
 rotate_left
 ·have HE := Lib.hid (checkN_arg (nm := nm) (mr := ⟨#[]⟩) (it := 0) (d := d) (len := len) hsh (by simp [argOk, hz]))
  have hz1 : (d != 0) = true := by simpa using hz
  clear hz
  obtain ⟨w1, hw1, hX⟩ := boxed w #[.int .i64 k, .string nm, .string ⟨#[]⟩, .int .i64 0, .int .i64 d, .slice p len cap] 36
  have HW := Lib.hid hw1
  have HX := Lib.hid hX
  clear hX hw1 hsh
  go_enter Tryz.func84, Tryz.ntmps84
  go_wp2_with fail
  rw [HW.out]
  refine (HSH.out _).mono ?_
  rintro e ws ⟨rfl, hbs⟩
  obtain ⟨c0, c1, c2, c3, c4, c5⟩ := boxed6 HX.out hbs
  have hl1 : w.heap.size < ws.heap.size := by have := HX.out.size; have := hbs.size; omega
  have hbw : Below w.heap.size w ws := HX.out.below.trans (hbs.mono HX.out.below.size)
  clear hbs
  go_wp2_with fail
  go_ret
  exact ⟨ret_intE (a := 1) HE.out.symm, hbw.alloc (by first | omega | (simp; done) | (simp; omega)) _⟩
 subst hz
 by_cases hz : len = ns
 rotate_left
 ·have HE := Lib.hid (checkN_arg (nm := nm) (mr := ⟨#[]⟩) (it := 0) (d := 0) (len := len) hsh (by simp [argOk, hz]))
  have hz1 : ((len : Int) != (ns : Int)) = true := by simp; omega
  have hz2 : (len != ns) = true := by simpa using hz
  clear hz
  obtain ⟨w1, hw1, hX⟩ := boxed w #[.int .i64 k, .string nm, .string ⟨#[]⟩, .int .i64 0, .int .i64 0, .slice p len cap] 36
  have HW := Lib.hid hw1
  have HX := Lib.hid hX
  clear hX hw1 hsh
  go_enter Tryz.func84, Tryz.ntmps84
  go_wp2_with fail
  rw [HW.out]
  refine (HSH.out _).mono ?_
  rintro e ws ⟨rfl, hbs⟩
  obtain ⟨c0, c1, c2, c3, c4, c5⟩ := boxed6 HX.out hbs
  have hl1 : w.heap.size < ws.heap.size := by have := HX.out.size; have := hbs.size; omega
  have hbw : Below w.heap.size w ws := HX.out.below.trans (hbs.mono HX.out.below.size)
  clear hbs
  go_wp2_with fail
  go_ret
  exact ⟨ret_intE (a := 1) HE.out.symm, hbw.alloc (by first | omega | (simp; done) | (simp; omega)) _⟩
 subst hz
 have HNE := Lib.hid (fun W => scheckNames_any k 1 0 len nm ⟨#[]⟩ 0 0 (.slice p len cap) W hsh)
 have hok : argOk 1 0 len nm ⟨#[]⟩ 0 0 len = true := by simp [argOk] <;> rfl
 obtain ⟨ne, hne⟩ : ∃ ne, namesErr k nm ⟨#[]⟩ (decide (1 ≤ 1)) (decide (2 ≤ 1)) = ne := ⟨_, rfl⟩
 rw [hne] at HNE
 by_cases hz : ne = 0
 ·have HE := Lib.hid (checkN_range hsh hok (hne.trans hz))
  subst hz
  clear hok hne
  obtain ⟨w1, hw1, hX⟩ := boxed w #[.int .i64 k, .string nm, .string ⟨#[]⟩, .int .i64 0, .int .i64 0, .slice p len cap] 36
  have HW := Lib.hid hw1
  have HX := Lib.hid hX
  clear hX hw1 hsh
  go_enter Tryz.func84, Tryz.ntmps84
  go_wp2_with fail
  rw [HW.out]
  refine (HSH.out _).mono ?_
  rintro e ws ⟨rfl, hbs⟩
  obtain ⟨c0, c1, c2, c3, c4, c5⟩ := boxed6 HX.out hbs
  have hl1 : w.heap.size < ws.heap.size := by have := HX.out.size; have := hbs.size; omega
  have hbw : Below w.heap.size w ws := HX.out.below.trans (hbs.mono HX.out.below.size)
  clear hbs
  go_wp2_with (first
   | (go_at_call 144; refine (HNE.out _).mono ?_; rintro e wn ⟨rfl, hbn⟩; obtain ⟨hcn, hfn⟩ := bcellE hbn; have hln : w.heap.size < ws.heap.size + 1 := by omega)
   | (go_at_call 145; refine (scheckNumbers_any _ _ _ _ _ _ _).mono ?_; rintro e wm ⟨rfl, hbm⟩))
  go_ret
  exact ⟨ret_intE (a := rangeErr k 0 0) HE.out.symm, ((hbw.alloc (by first | omega | (simp; done) | (simp; omega)) _).trans (hbn.mono (by first | omega | (simp; done) | (simp; omega)))).trans (hbm.mono (by have hz1 := hbn.size; simp at hz1; omega))⟩
 ·have HE := Lib.hid (checkN_names hsh hok (by rw [hne]; exact hz))
  rw [hne] at HE
  have hz1 : (ne != 0) = true := by simpa using hz
  clear hok hne hz
  obtain ⟨w1, hw1, hX⟩ := boxed w #[.int .i64 k, .string nm, .string ⟨#[]⟩, .int .i64 0, .int .i64 0, .slice p len cap] 36
  have HW := Lib.hid hw1
  have HX := Lib.hid hX
  clear hX hw1 hsh
  go_enter Tryz.func84, Tryz.ntmps84
  go_wp2_with fail
  rw [HW.out]
  refine (HSH.out _).mono ?_
  rintro e ws ⟨rfl, hbs⟩
  obtain ⟨c0, c1, c2, c3, c4, c5⟩ := boxed6 HX.out hbs
  have hl1 : w.heap.size < ws.heap.size := by have := HX.out.size; have := hbs.size; omega
  have hbw : Below w.heap.size w ws := HX.out.below.trans (hbs.mono HX.out.below.size)
  clear hbs
  go_wp2_with (first
   | (go_at_call 144; refine (HNE.out _).mono ?_; rintro e wn ⟨rfl, hbn⟩; obtain ⟨hcn, hfn⟩ := bcellE hbn; have hln : w.heap.size < ws.heap.size + 1 := by omega))
  go_ret
  exact ⟨ret_intE (a := ne) HE.out.symm, (hbw.alloc (by first | omega | (simp; done) | (simp; omega)) _).trans (hbn.mono (by first | omega | (simp; done) | (simp; omega)))⟩
set_option maxHeartbeats 4000000 in
theorem scheckNode_20 (k : Int) (ns : Nat) (nm mr : ByteArray) (it d : Int) (p : Option Addr) (len cap : Nat) (w : World) (hsh : shapeK k = some (2, 0, ns)) :
  Calls Tryz.prog 84 #[.agg #[.int .i64 k, .string nm, .string mr, .int .i64 it, .int .i64 d, .slice p len cap]] w fun e w' => e = .returned (.int .i64 (checkN k nm mr it d len)) ∧ Below w.heap.size w w' := by
 have HSH := Lib.hid (fun W => sshapeOf_yes k 2 0 ns W hsh)
 by_cases hz : it = 0
 rotate_left
 ·have HE := Lib.hid (checkN_arg (nm := nm) (mr := mr) (it := it) (d := d) (len := len) hsh (by simp [argOk, hz]))
  have hz1 : (it != 0) = true := by simpa using hz
  clear hz
  obtain ⟨w1, hw1, hX⟩ := boxed w #[.int .i64 k, .string nm, .string mr, .int .i64 it, .int .i64 d, .slice p len cap] 36
  have HW := Lib.hid hw1
  have HX := Lib.hid hX
  clear hX hw1 hsh
  go_enter Tryz.func84, Tryz.ntmps84
  go_wp2_with fail
  rw [HW.out]
  refine (HSH.out _).mono ?_
  rintro e ws ⟨rfl, hbs⟩
  obtain ⟨c0, c1, c2, c3, c4, c5⟩ := boxed6 HX.out hbs
  have hl1 : w.heap.size < ws.heap.size := by have := HX.out.size; have := hbs.size; omega
  have hbw : Below w.heap.size w ws := HX.out.below.trans (hbs.mono HX.out.below.size)
  clear hbs
  go_wp2_with fail
  go_ret
  exact ⟨ret_intE (a := 1) HE.out.symm, hbw.alloc (by first | omega | (simp; done) | (simp; omega)) _⟩
 subst hz
 by_cases hz : d = 0
 rotate_left
 ·have HE := Lib.hid (checkN_arg (nm := nm) (mr := mr) (it := 0) (d := d) (len := len) hsh (by simp [argOk, hz]))
  have hz1 : (d != 0) = true := by simpa using hz
  clear hz
  obtain ⟨w1, hw1, hX⟩ := boxed w #[.int .i64 k, .string nm, .string mr, .int .i64 0, .int .i64 d, .slice p len cap] 36
  have HW := Lib.hid hw1
  have HX := Lib.hid hX
  clear hX hw1 hsh
  go_enter Tryz.func84, Tryz.ntmps84
  go_wp2_with fail
  rw [HW.out]
  refine (HSH.out _).mono ?_
  rintro e ws ⟨rfl, hbs⟩
  obtain ⟨c0, c1, c2, c3, c4, c5⟩ := boxed6 HX.out hbs
  have hl1 : w.heap.size < ws.heap.size := by have := HX.out.size; have := hbs.size; omega
  have hbw : Below w.heap.size w ws := HX.out.below.trans (hbs.mono HX.out.below.size)
  clear hbs
  go_wp2_with fail
  go_ret
  exact ⟨ret_intE (a := 1) HE.out.symm, hbw.alloc (by first | omega | (simp; done) | (simp; omega)) _⟩
 subst hz
 by_cases hz : len = ns
 rotate_left
 ·have HE := Lib.hid (checkN_arg (nm := nm) (mr := mr) (it := 0) (d := 0) (len := len) hsh (by simp [argOk, hz]))
  have hz1 : ((len : Int) != (ns : Int)) = true := by simp; omega
  have hz2 : (len != ns) = true := by simpa using hz
  clear hz
  obtain ⟨w1, hw1, hX⟩ := boxed w #[.int .i64 k, .string nm, .string mr, .int .i64 0, .int .i64 0, .slice p len cap] 36
  have HW := Lib.hid hw1
  have HX := Lib.hid hX
  clear hX hw1 hsh
  go_enter Tryz.func84, Tryz.ntmps84
  go_wp2_with fail
  rw [HW.out]
  refine (HSH.out _).mono ?_
  rintro e ws ⟨rfl, hbs⟩
  obtain ⟨c0, c1, c2, c3, c4, c5⟩ := boxed6 HX.out hbs
  have hl1 : w.heap.size < ws.heap.size := by have := HX.out.size; have := hbs.size; omega
  have hbw : Below w.heap.size w ws := HX.out.below.trans (hbs.mono HX.out.below.size)
  clear hbs
  go_wp2_with fail
  go_ret
  exact ⟨ret_intE (a := 1) HE.out.symm, hbw.alloc (by first | omega | (simp; done) | (simp; omega)) _⟩
 subst hz
 have HNE := Lib.hid (fun W => scheckNames_any k 2 0 len nm mr 0 0 (.slice p len cap) W hsh)
 have hok : argOk 2 0 len nm mr 0 0 len = true := by simp [argOk] <;> rfl
 obtain ⟨ne, hne⟩ : ∃ ne, namesErr k nm mr (decide (1 ≤ 2)) (decide (2 ≤ 2)) = ne := ⟨_, rfl⟩
 rw [hne] at HNE
 by_cases hz : ne = 0
 ·have HE := Lib.hid (checkN_range hsh hok (hne.trans hz))
  subst hz
  clear hok hne
  obtain ⟨w1, hw1, hX⟩ := boxed w #[.int .i64 k, .string nm, .string mr, .int .i64 0, .int .i64 0, .slice p len cap] 36
  have HW := Lib.hid hw1
  have HX := Lib.hid hX
  clear hX hw1 hsh
  go_enter Tryz.func84, Tryz.ntmps84
  go_wp2_with fail
  rw [HW.out]
  refine (HSH.out _).mono ?_
  rintro e ws ⟨rfl, hbs⟩
  obtain ⟨c0, c1, c2, c3, c4, c5⟩ := boxed6 HX.out hbs
  have hl1 : w.heap.size < ws.heap.size := by have := HX.out.size; have := hbs.size; omega
  have hbw : Below w.heap.size w ws := HX.out.below.trans (hbs.mono HX.out.below.size)
  clear hbs
  go_wp2_with (first
   | (go_at_call 144; refine (HNE.out _).mono ?_; rintro e wn ⟨rfl, hbn⟩; obtain ⟨hcn, hfn⟩ := bcellE hbn; have hln : w.heap.size < ws.heap.size + 1 := by omega)
   | (go_at_call 145; refine (scheckNumbers_any _ _ _ _ _ _ _).mono ?_; rintro e wm ⟨rfl, hbm⟩))
  go_ret
  exact ⟨ret_intE (a := rangeErr k 0 0) HE.out.symm, ((hbw.alloc (by first | omega | (simp; done) | (simp; omega)) _).trans (hbn.mono (by first | omega | (simp; done) | (simp; omega)))).trans (hbm.mono (by have hz1 := hbn.size; simp at hz1; omega))⟩
 ·have HE := Lib.hid (checkN_names hsh hok (by rw [hne]; exact hz))
  rw [hne] at HE
  have hz1 : (ne != 0) = true := by simpa using hz
  clear hok hne hz
  obtain ⟨w1, hw1, hX⟩ := boxed w #[.int .i64 k, .string nm, .string mr, .int .i64 0, .int .i64 0, .slice p len cap] 36
  have HW := Lib.hid hw1
  have HX := Lib.hid hX
  clear hX hw1 hsh
  go_enter Tryz.func84, Tryz.ntmps84
  go_wp2_with fail
  rw [HW.out]
  refine (HSH.out _).mono ?_
  rintro e ws ⟨rfl, hbs⟩
  obtain ⟨c0, c1, c2, c3, c4, c5⟩ := boxed6 HX.out hbs
  have hl1 : w.heap.size < ws.heap.size := by have := HX.out.size; have := hbs.size; omega
  have hbw : Below w.heap.size w ws := HX.out.below.trans (hbs.mono HX.out.below.size)
  clear hbs
  go_wp2_with (first
   | (go_at_call 144; refine (HNE.out _).mono ?_; rintro e wn ⟨rfl, hbn⟩; obtain ⟨hcn, hfn⟩ := bcellE hbn; have hln : w.heap.size < ws.heap.size + 1 := by omega))
  go_ret
  exact ⟨ret_intE (a := ne) HE.out.symm, (hbw.alloc (by first | omega | (simp; done) | (simp; omega)) _).trans (hbn.mono (by first | omega | (simp; done) | (simp; omega)))⟩
set_option maxHeartbeats 4000000 in
theorem scheckNode_11 (k : Int) (ns : Nat) (nm mr : ByteArray) (it d : Int) (p : Option Addr) (len cap : Nat) (w : World) (hsh : shapeK k = some (1, 1, ns)) :
  Calls Tryz.prog 84 #[.agg #[.int .i64 k, .string nm, .string mr, .int .i64 it, .int .i64 d, .slice p len cap]] w fun e w' => e = .returned (.int .i64 (checkN k nm mr it d len)) ∧ Below w.heap.size w w' := by
 have HSH := Lib.hid (fun W => sshapeOf_yes k 1 1 ns W hsh)
 by_cases hz : mr.size = 0
 rotate_left
 ·have HE := Lib.hid (checkN_arg (nm := nm) (mr := mr) (it := it) (d := d) (len := len) hsh (by simp [argOk, hz]))
  have hz1 := toList_ne' hz
  clear hz
  obtain ⟨w1, hw1, hX⟩ := boxed w #[.int .i64 k, .string nm, .string mr, .int .i64 it, .int .i64 d, .slice p len cap] 36
  have HW := Lib.hid hw1
  have HX := Lib.hid hX
  clear hX hw1 hsh
  go_enter Tryz.func84, Tryz.ntmps84
  go_wp2_with fail
  rw [HW.out]
  refine (HSH.out _).mono ?_
  rintro e ws ⟨rfl, hbs⟩
  obtain ⟨c0, c1, c2, c3, c4, c5⟩ := boxed6 HX.out hbs
  have hl1 : w.heap.size < ws.heap.size := by have := HX.out.size; have := hbs.size; omega
  have hbw : Below w.heap.size w ws := HX.out.below.trans (hbs.mono HX.out.below.size)
  clear hbs
  go_wp2_with fail
  go_ret
  exact ⟨ret_intE (a := 1) HE.out.symm, hbw.alloc (by first | omega | (simp; done) | (simp; omega)) _⟩
 obtain rfl := size_zero hz
 clear hz
 by_cases hz : d = 0
 rotate_left
 ·have HE := Lib.hid (checkN_arg (nm := nm) (mr := ⟨#[]⟩) (it := it) (d := d) (len := len) hsh (by simp [argOk, hz]))
  have hz1 : (d != 0) = true := by simpa using hz
  clear hz
  obtain ⟨w1, hw1, hX⟩ := boxed w #[.int .i64 k, .string nm, .string ⟨#[]⟩, .int .i64 it, .int .i64 d, .slice p len cap] 36
  have HW := Lib.hid hw1
  have HX := Lib.hid hX
  clear hX hw1 hsh
  go_enter Tryz.func84, Tryz.ntmps84
  go_wp2_with fail
  rw [HW.out]
  refine (HSH.out _).mono ?_
  rintro e ws ⟨rfl, hbs⟩
  obtain ⟨c0, c1, c2, c3, c4, c5⟩ := boxed6 HX.out hbs
  have hl1 : w.heap.size < ws.heap.size := by have := HX.out.size; have := hbs.size; omega
  have hbw : Below w.heap.size w ws := HX.out.below.trans (hbs.mono HX.out.below.size)
  clear hbs
  go_wp2_with fail
  go_ret
  exact ⟨ret_intE (a := 1) HE.out.symm, hbw.alloc (by first | omega | (simp; done) | (simp; omega)) _⟩
 subst hz
 by_cases hz : len = ns
 rotate_left
 ·have HE := Lib.hid (checkN_arg (nm := nm) (mr := ⟨#[]⟩) (it := it) (d := 0) (len := len) hsh (by simp [argOk, hz]))
  have hz1 : ((len : Int) != (ns : Int)) = true := by simp; omega
  have hz2 : (len != ns) = true := by simpa using hz
  clear hz
  obtain ⟨w1, hw1, hX⟩ := boxed w #[.int .i64 k, .string nm, .string ⟨#[]⟩, .int .i64 it, .int .i64 0, .slice p len cap] 36
  have HW := Lib.hid hw1
  have HX := Lib.hid hX
  clear hX hw1 hsh
  go_enter Tryz.func84, Tryz.ntmps84
  go_wp2_with fail
  rw [HW.out]
  refine (HSH.out _).mono ?_
  rintro e ws ⟨rfl, hbs⟩
  obtain ⟨c0, c1, c2, c3, c4, c5⟩ := boxed6 HX.out hbs
  have hl1 : w.heap.size < ws.heap.size := by have := HX.out.size; have := hbs.size; omega
  have hbw : Below w.heap.size w ws := HX.out.below.trans (hbs.mono HX.out.below.size)
  clear hbs
  go_wp2_with fail
  go_ret
  exact ⟨ret_intE (a := 1) HE.out.symm, hbw.alloc (by first | omega | (simp; done) | (simp; omega)) _⟩
 subst hz
 have HNE := Lib.hid (fun W => scheckNames_any k 1 1 len nm ⟨#[]⟩ it 0 (.slice p len cap) W hsh)
 have hok : argOk 1 1 len nm ⟨#[]⟩ it 0 len = true := by simp [argOk] <;> rfl
 obtain ⟨ne, hne⟩ : ∃ ne, namesErr k nm ⟨#[]⟩ (decide (1 ≤ 1)) (decide (2 ≤ 1)) = ne := ⟨_, rfl⟩
 rw [hne] at HNE
 by_cases hz : ne = 0
 ·have HE := Lib.hid (checkN_range hsh hok (hne.trans hz))
  subst hz
  clear hok hne
  obtain ⟨w1, hw1, hX⟩ := boxed w #[.int .i64 k, .string nm, .string ⟨#[]⟩, .int .i64 it, .int .i64 0, .slice p len cap] 36
  have HW := Lib.hid hw1
  have HX := Lib.hid hX
  clear hX hw1 hsh
  go_enter Tryz.func84, Tryz.ntmps84
  go_wp2_with fail
  rw [HW.out]
  refine (HSH.out _).mono ?_
  rintro e ws ⟨rfl, hbs⟩
  obtain ⟨c0, c1, c2, c3, c4, c5⟩ := boxed6 HX.out hbs
  have hl1 : w.heap.size < ws.heap.size := by have := HX.out.size; have := hbs.size; omega
  have hbw : Below w.heap.size w ws := HX.out.below.trans (hbs.mono HX.out.below.size)
  clear hbs
  go_wp2_with (first
   | (go_at_call 144; refine (HNE.out _).mono ?_; rintro e wn ⟨rfl, hbn⟩; obtain ⟨hcn, hfn⟩ := bcellE hbn; have hln : w.heap.size < ws.heap.size + 1 := by omega)
   | (go_at_call 145; refine (scheckNumbers_any _ _ _ _ _ _ _).mono ?_; rintro e wm ⟨rfl, hbm⟩))
  go_ret
  exact ⟨ret_intE (a := rangeErr k it 0) HE.out.symm, ((hbw.alloc (by first | omega | (simp; done) | (simp; omega)) _).trans (hbn.mono (by first | omega | (simp; done) | (simp; omega)))).trans (hbm.mono (by have hz1 := hbn.size; simp at hz1; omega))⟩
 ·have HE := Lib.hid (checkN_names hsh hok (by rw [hne]; exact hz))
  rw [hne] at HE
  have hz1 : (ne != 0) = true := by simpa using hz
  clear hok hne hz
  obtain ⟨w1, hw1, hX⟩ := boxed w #[.int .i64 k, .string nm, .string ⟨#[]⟩, .int .i64 it, .int .i64 0, .slice p len cap] 36
  have HW := Lib.hid hw1
  have HX := Lib.hid hX
  clear hX hw1 hsh
  go_enter Tryz.func84, Tryz.ntmps84
  go_wp2_with fail
  rw [HW.out]
  refine (HSH.out _).mono ?_
  rintro e ws ⟨rfl, hbs⟩
  obtain ⟨c0, c1, c2, c3, c4, c5⟩ := boxed6 HX.out hbs
  have hl1 : w.heap.size < ws.heap.size := by have := HX.out.size; have := hbs.size; omega
  have hbw : Below w.heap.size w ws := HX.out.below.trans (hbs.mono HX.out.below.size)
  clear hbs
  go_wp2_with (first
   | (go_at_call 144; refine (HNE.out _).mono ?_; rintro e wn ⟨rfl, hbn⟩; obtain ⟨hcn, hfn⟩ := bcellE hbn; have hln : w.heap.size < ws.heap.size + 1 := by omega))
  go_ret
  exact ⟨ret_intE (a := ne) HE.out.symm, (hbw.alloc (by first | omega | (simp; done) | (simp; omega)) _).trans (hbn.mono (by first | omega | (simp; done) | (simp; omega)))⟩
set_option maxHeartbeats 4000000 in
theorem scheckNode_00 (k : Int) (ns : Nat) (nm mr : ByteArray) (it d : Int) (p : Option Addr) (len cap : Nat) (w : World) (hsh : shapeK k = some (0, 0, ns)) :
  Calls Tryz.prog 84 #[.agg #[.int .i64 k, .string nm, .string mr, .int .i64 it, .int .i64 d, .slice p len cap]] w fun e w' => e = .returned (.int .i64 (checkN k nm mr it d len)) ∧ Below w.heap.size w w' := by
 have HSH := Lib.hid (fun W => sshapeOf_yes k 0 0 ns W hsh)
 by_cases hz : nm.size = 0
 rotate_left
 ·have HE := Lib.hid (checkN_arg (nm := nm) (mr := mr) (it := it) (d := d) (len := len) hsh (by simp [argOk, hz]))
  have hz1 := toList_ne' hz
  clear hz
  obtain ⟨w1, hw1, hX⟩ := boxed w #[.int .i64 k, .string nm, .string mr, .int .i64 it, .int .i64 d, .slice p len cap] 36
  have HW := Lib.hid hw1
  have HX := Lib.hid hX
  clear hX hw1 hsh
  go_enter Tryz.func84, Tryz.ntmps84
  go_wp2_with fail
  rw [HW.out]
  refine (HSH.out _).mono ?_
  rintro e ws ⟨rfl, hbs⟩
  obtain ⟨c0, c1, c2, c3, c4, c5⟩ := boxed6 HX.out hbs
  have hl1 : w.heap.size < ws.heap.size := by have := HX.out.size; have := hbs.size; omega
  have hbw : Below w.heap.size w ws := HX.out.below.trans (hbs.mono HX.out.below.size)
  clear hbs
  go_wp2_with fail
  go_ret
  exact ⟨ret_intE (a := 1) HE.out.symm, hbw.alloc (by first | omega | (simp; done) | (simp; omega)) _⟩
 obtain rfl := size_zero hz
 clear hz
 by_cases hz : mr.size = 0
 rotate_left
 ·have HE := Lib.hid (checkN_arg (nm := ⟨#[]⟩) (mr := mr) (it := it) (d := d) (len := len) hsh (by simp [argOk, hz]))
  have hz1 := toList_ne' hz
  clear hz
  obtain ⟨w1, hw1, hX⟩ := boxed w #[.int .i64 k, .string ⟨#[]⟩, .string mr, .int .i64 it, .int .i64 d, .slice p len cap] 36
  have HW := Lib.hid hw1
  have HX := Lib.hid hX
  clear hX hw1 hsh
  go_enter Tryz.func84, Tryz.ntmps84
  go_wp2_with fail
  rw [HW.out]
  refine (HSH.out _).mono ?_
  rintro e ws ⟨rfl, hbs⟩
  obtain ⟨c0, c1, c2, c3, c4, c5⟩ := boxed6 HX.out hbs
  have hl1 : w.heap.size < ws.heap.size := by have := HX.out.size; have := hbs.size; omega
  have hbw : Below w.heap.size w ws := HX.out.below.trans (hbs.mono HX.out.below.size)
  clear hbs
  go_wp2_with fail
  go_ret
  exact ⟨ret_intE (a := 1) HE.out.symm, hbw.alloc (by first | omega | (simp; done) | (simp; omega)) _⟩
 obtain rfl := size_zero hz
 clear hz
 by_cases hz : it = 0
 rotate_left
 ·have HE := Lib.hid (checkN_arg (nm := ⟨#[]⟩) (mr := ⟨#[]⟩) (it := it) (d := d) (len := len) hsh (by simp [argOk, hz]))
  have hz1 : (it != 0) = true := by simpa using hz
  clear hz
  obtain ⟨w1, hw1, hX⟩ := boxed w #[.int .i64 k, .string ⟨#[]⟩, .string ⟨#[]⟩, .int .i64 it, .int .i64 d, .slice p len cap] 36
  have HW := Lib.hid hw1
  have HX := Lib.hid hX
  clear hX hw1 hsh
  go_enter Tryz.func84, Tryz.ntmps84
  go_wp2_with fail
  rw [HW.out]
  refine (HSH.out _).mono ?_
  rintro e ws ⟨rfl, hbs⟩
  obtain ⟨c0, c1, c2, c3, c4, c5⟩ := boxed6 HX.out hbs
  have hl1 : w.heap.size < ws.heap.size := by have := HX.out.size; have := hbs.size; omega
  have hbw : Below w.heap.size w ws := HX.out.below.trans (hbs.mono HX.out.below.size)
  clear hbs
  go_wp2_with fail
  go_ret
  exact ⟨ret_intE (a := 1) HE.out.symm, hbw.alloc (by first | omega | (simp; done) | (simp; omega)) _⟩
 subst hz
 by_cases hz : d = 0
 rotate_left
 ·have HE := Lib.hid (checkN_arg (nm := ⟨#[]⟩) (mr := ⟨#[]⟩) (it := 0) (d := d) (len := len) hsh (by simp [argOk, hz]))
  have hz1 : (d != 0) = true := by simpa using hz
  clear hz
  obtain ⟨w1, hw1, hX⟩ := boxed w #[.int .i64 k, .string ⟨#[]⟩, .string ⟨#[]⟩, .int .i64 0, .int .i64 d, .slice p len cap] 36
  have HW := Lib.hid hw1
  have HX := Lib.hid hX
  clear hX hw1 hsh
  go_enter Tryz.func84, Tryz.ntmps84
  go_wp2_with fail
  rw [HW.out]
  refine (HSH.out _).mono ?_
  rintro e ws ⟨rfl, hbs⟩
  obtain ⟨c0, c1, c2, c3, c4, c5⟩ := boxed6 HX.out hbs
  have hl1 : w.heap.size < ws.heap.size := by have := HX.out.size; have := hbs.size; omega
  have hbw : Below w.heap.size w ws := HX.out.below.trans (hbs.mono HX.out.below.size)
  clear hbs
  go_wp2_with fail
  go_ret
  exact ⟨ret_intE (a := 1) HE.out.symm, hbw.alloc (by first | omega | (simp; done) | (simp; omega)) _⟩
 subst hz
 by_cases hz : len = ns
 rotate_left
 ·have HE := Lib.hid (checkN_arg (nm := ⟨#[]⟩) (mr := ⟨#[]⟩) (it := 0) (d := 0) (len := len) hsh (by simp [argOk, hz]))
  have hz1 : ((len : Int) != (ns : Int)) = true := by simp; omega
  have hz2 : (len != ns) = true := by simpa using hz
  clear hz
  obtain ⟨w1, hw1, hX⟩ := boxed w #[.int .i64 k, .string ⟨#[]⟩, .string ⟨#[]⟩, .int .i64 0, .int .i64 0, .slice p len cap] 36
  have HW := Lib.hid hw1
  have HX := Lib.hid hX
  clear hX hw1 hsh
  go_enter Tryz.func84, Tryz.ntmps84
  go_wp2_with fail
  rw [HW.out]
  refine (HSH.out _).mono ?_
  rintro e ws ⟨rfl, hbs⟩
  obtain ⟨c0, c1, c2, c3, c4, c5⟩ := boxed6 HX.out hbs
  have hl1 : w.heap.size < ws.heap.size := by have := HX.out.size; have := hbs.size; omega
  have hbw : Below w.heap.size w ws := HX.out.below.trans (hbs.mono HX.out.below.size)
  clear hbs
  go_wp2_with fail
  go_ret
  exact ⟨ret_intE (a := 1) HE.out.symm, hbw.alloc (by first | omega | (simp; done) | (simp; omega)) _⟩
 subst hz
 have HNE := Lib.hid (fun W => scheckNames_any k 0 0 len ⟨#[]⟩ ⟨#[]⟩ 0 0 (.slice p len cap) W hsh)
 have hok : argOk 0 0 len ⟨#[]⟩ ⟨#[]⟩ 0 0 len = true := by simp [argOk] <;> rfl
 obtain ⟨ne, hne⟩ : ∃ ne, namesErr k ⟨#[]⟩ ⟨#[]⟩ (decide (1 ≤ 0)) (decide (2 ≤ 0)) = ne := ⟨_, rfl⟩
 rw [hne] at HNE
 by_cases hz : ne = 0
 ·have HE := Lib.hid (checkN_range hsh hok (hne.trans hz))
  subst hz
  clear hok hne
  obtain ⟨w1, hw1, hX⟩ := boxed w #[.int .i64 k, .string ⟨#[]⟩, .string ⟨#[]⟩, .int .i64 0, .int .i64 0, .slice p len cap] 36
  have HW := Lib.hid hw1
  have HX := Lib.hid hX
  clear hX hw1 hsh
  go_enter Tryz.func84, Tryz.ntmps84
  go_wp2_with fail
  rw [HW.out]
  refine (HSH.out _).mono ?_
  rintro e ws ⟨rfl, hbs⟩
  obtain ⟨c0, c1, c2, c3, c4, c5⟩ := boxed6 HX.out hbs
  have hl1 : w.heap.size < ws.heap.size := by have := HX.out.size; have := hbs.size; omega
  have hbw : Below w.heap.size w ws := HX.out.below.trans (hbs.mono HX.out.below.size)
  clear hbs
  go_wp2_with (first
   | (go_at_call 144; refine (HNE.out _).mono ?_; rintro e wn ⟨rfl, hbn⟩; obtain ⟨hcn, hfn⟩ := bcellE hbn; have hln : w.heap.size < ws.heap.size + 1 := by omega)
   | (go_at_call 145; refine (scheckNumbers_any _ _ _ _ _ _ _).mono ?_; rintro e wm ⟨rfl, hbm⟩))
  go_ret
  exact ⟨ret_intE (a := rangeErr k 0 0) HE.out.symm, ((hbw.alloc (by first | omega | (simp; done) | (simp; omega)) _).trans (hbn.mono (by first | omega | (simp; done) | (simp; omega)))).trans (hbm.mono (by have hz1 := hbn.size; simp at hz1; omega))⟩
 ·have HE := Lib.hid (checkN_names hsh hok (by rw [hne]; exact hz))
  rw [hne] at HE
  have hz1 : (ne != 0) = true := by simpa using hz
  clear hok hne hz
  obtain ⟨w1, hw1, hX⟩ := boxed w #[.int .i64 k, .string ⟨#[]⟩, .string ⟨#[]⟩, .int .i64 0, .int .i64 0, .slice p len cap] 36
  have HW := Lib.hid hw1
  have HX := Lib.hid hX
  clear hX hw1 hsh
  go_enter Tryz.func84, Tryz.ntmps84
  go_wp2_with fail
  rw [HW.out]
  refine (HSH.out _).mono ?_
  rintro e ws ⟨rfl, hbs⟩
  obtain ⟨c0, c1, c2, c3, c4, c5⟩ := boxed6 HX.out hbs
  have hl1 : w.heap.size < ws.heap.size := by have := HX.out.size; have := hbs.size; omega
  have hbw : Below w.heap.size w ws := HX.out.below.trans (hbs.mono HX.out.below.size)
  clear hbs
  go_wp2_with (first
   | (go_at_call 144; refine (HNE.out _).mono ?_; rintro e wn ⟨rfl, hbn⟩; obtain ⟨hcn, hfn⟩ := bcellE hbn; have hln : w.heap.size < ws.heap.size + 1 := by omega))
  go_ret
  exact ⟨ret_intE (a := ne) HE.out.symm, (hbw.alloc (by first | omega | (simp; done) | (simp; omega)) _).trans (hbn.mono (by first | omega | (simp; done) | (simp; omega)))⟩
set_option maxHeartbeats 4000000 in
theorem scheckNode_02 (k : Int) (ns : Nat) (nm mr : ByteArray) (it d : Int) (p : Option Addr) (len cap : Nat) (w : World) (hsh : shapeK k = some (0, 2, ns)) :
  Calls Tryz.prog 84 #[.agg #[.int .i64 k, .string nm, .string mr, .int .i64 it, .int .i64 d, .slice p len cap]] w fun e w' => e = .returned (.int .i64 (checkN k nm mr it d len)) ∧ Below w.heap.size w w' := by
 have HSH := Lib.hid (fun W => sshapeOf_yes k 0 2 ns W hsh)
 by_cases hz : nm.size = 0
 rotate_left
 ·have HE := Lib.hid (checkN_arg (nm := nm) (mr := mr) (it := it) (d := d) (len := len) hsh (by simp [argOk, hz]))
  have hz1 := toList_ne' hz
  clear hz
  obtain ⟨w1, hw1, hX⟩ := boxed w #[.int .i64 k, .string nm, .string mr, .int .i64 it, .int .i64 d, .slice p len cap] 36
  have HW := Lib.hid hw1
  have HX := Lib.hid hX
  clear hX hw1 hsh
  go_enter Tryz.func84, Tryz.ntmps84
  go_wp2_with fail
  rw [HW.out]
  refine (HSH.out _).mono ?_
  rintro e ws ⟨rfl, hbs⟩
  obtain ⟨c0, c1, c2, c3, c4, c5⟩ := boxed6 HX.out hbs
  have hl1 : w.heap.size < ws.heap.size := by have := HX.out.size; have := hbs.size; omega
  have hbw : Below w.heap.size w ws := HX.out.below.trans (hbs.mono HX.out.below.size)
  clear hbs
  go_wp2_with fail
  go_ret
  exact ⟨ret_intE (a := 1) HE.out.symm, hbw.alloc (by first | omega | (simp; done) | (simp; omega)) _⟩
 obtain rfl := size_zero hz
 clear hz
 by_cases hz : mr.size = 0
 rotate_left
 ·have HE := Lib.hid (checkN_arg (nm := ⟨#[]⟩) (mr := mr) (it := it) (d := d) (len := len) hsh (by simp [argOk, hz]))
  have hz1 := toList_ne' hz
  clear hz
  obtain ⟨w1, hw1, hX⟩ := boxed w #[.int .i64 k, .string ⟨#[]⟩, .string mr, .int .i64 it, .int .i64 d, .slice p len cap] 36
  have HW := Lib.hid hw1
  have HX := Lib.hid hX
  clear hX hw1 hsh
  go_enter Tryz.func84, Tryz.ntmps84
  go_wp2_with fail
  rw [HW.out]
  refine (HSH.out _).mono ?_
  rintro e ws ⟨rfl, hbs⟩
  obtain ⟨c0, c1, c2, c3, c4, c5⟩ := boxed6 HX.out hbs
  have hl1 : w.heap.size < ws.heap.size := by have := HX.out.size; have := hbs.size; omega
  have hbw : Below w.heap.size w ws := HX.out.below.trans (hbs.mono HX.out.below.size)
  clear hbs
  go_wp2_with fail
  go_ret
  exact ⟨ret_intE (a := 1) HE.out.symm, hbw.alloc (by first | omega | (simp; done) | (simp; omega)) _⟩
 obtain rfl := size_zero hz
 clear hz
 by_cases hz : len = ns
 rotate_left
 ·have HE := Lib.hid (checkN_arg (nm := ⟨#[]⟩) (mr := ⟨#[]⟩) (it := it) (d := d) (len := len) hsh (by simp [argOk, hz]))
  have hz1 : ((len : Int) != (ns : Int)) = true := by simp; omega
  have hz2 : (len != ns) = true := by simpa using hz
  clear hz
  obtain ⟨w1, hw1, hX⟩ := boxed w #[.int .i64 k, .string ⟨#[]⟩, .string ⟨#[]⟩, .int .i64 it, .int .i64 d, .slice p len cap] 36
  have HW := Lib.hid hw1
  have HX := Lib.hid hX
  clear hX hw1 hsh
  go_enter Tryz.func84, Tryz.ntmps84
  go_wp2_with fail
  rw [HW.out]
  refine (HSH.out _).mono ?_
  rintro e ws ⟨rfl, hbs⟩
  obtain ⟨c0, c1, c2, c3, c4, c5⟩ := boxed6 HX.out hbs
  have hl1 : w.heap.size < ws.heap.size := by have := HX.out.size; have := hbs.size; omega
  have hbw : Below w.heap.size w ws := HX.out.below.trans (hbs.mono HX.out.below.size)
  clear hbs
  go_wp2_with fail
  go_ret
  exact ⟨ret_intE (a := 1) HE.out.symm, hbw.alloc (by first | omega | (simp; done) | (simp; omega)) _⟩
 subst hz
 have HNE := Lib.hid (fun W => scheckNames_any k 0 2 len ⟨#[]⟩ ⟨#[]⟩ it d (.slice p len cap) W hsh)
 have hok : argOk 0 2 len ⟨#[]⟩ ⟨#[]⟩ it d len = true := by simp [argOk] <;> rfl
 obtain ⟨ne, hne⟩ : ∃ ne, namesErr k ⟨#[]⟩ ⟨#[]⟩ (decide (1 ≤ 0)) (decide (2 ≤ 0)) = ne := ⟨_, rfl⟩
 rw [hne] at HNE
 by_cases hz : ne = 0
 ·have HE := Lib.hid (checkN_range hsh hok (hne.trans hz))
  subst hz
  clear hok hne
  obtain ⟨w1, hw1, hX⟩ := boxed w #[.int .i64 k, .string ⟨#[]⟩, .string ⟨#[]⟩, .int .i64 it, .int .i64 d, .slice p len cap] 36
  have HW := Lib.hid hw1
  have HX := Lib.hid hX
  clear hX hw1 hsh
  go_enter Tryz.func84, Tryz.ntmps84
  go_wp2_with fail
  rw [HW.out]
  refine (HSH.out _).mono ?_
  rintro e ws ⟨rfl, hbs⟩
  obtain ⟨c0, c1, c2, c3, c4, c5⟩ := boxed6 HX.out hbs
  have hl1 : w.heap.size < ws.heap.size := by have := HX.out.size; have := hbs.size; omega
  have hbw : Below w.heap.size w ws := HX.out.below.trans (hbs.mono HX.out.below.size)
  clear hbs
  go_wp2_with (first
   | (go_at_call 144; refine (HNE.out _).mono ?_; rintro e wn ⟨rfl, hbn⟩; obtain ⟨hcn, hfn⟩ := bcellE hbn; have hln : w.heap.size < ws.heap.size + 1 := by omega)
   | (go_at_call 145; refine (scheckNumbers_any _ _ _ _ _ _ _).mono ?_; rintro e wm ⟨rfl, hbm⟩))
  go_ret
  exact ⟨ret_intE (a := rangeErr k it d) HE.out.symm, ((hbw.alloc (by first | omega | (simp; done) | (simp; omega)) _).trans (hbn.mono (by first | omega | (simp; done) | (simp; omega)))).trans (hbm.mono (by have hz1 := hbn.size; simp at hz1; omega))⟩
 ·have HE := Lib.hid (checkN_names hsh hok (by rw [hne]; exact hz))
  rw [hne] at HE
  have hz1 : (ne != 0) = true := by simpa using hz
  clear hok hne hz
  obtain ⟨w1, hw1, hX⟩ := boxed w #[.int .i64 k, .string ⟨#[]⟩, .string ⟨#[]⟩, .int .i64 it, .int .i64 d, .slice p len cap] 36
  have HW := Lib.hid hw1
  have HX := Lib.hid hX
  clear hX hw1 hsh
  go_enter Tryz.func84, Tryz.ntmps84
  go_wp2_with fail
  rw [HW.out]
  refine (HSH.out _).mono ?_
  rintro e ws ⟨rfl, hbs⟩
  obtain ⟨c0, c1, c2, c3, c4, c5⟩ := boxed6 HX.out hbs
  have hl1 : w.heap.size < ws.heap.size := by have := HX.out.size; have := hbs.size; omega
  have hbw : Below w.heap.size w ws := HX.out.below.trans (hbs.mono HX.out.below.size)
  clear hbs
  go_wp2_with (first
   | (go_at_call 144; refine (HNE.out _).mono ?_; rintro e wn ⟨rfl, hbn⟩; obtain ⟨hcn, hfn⟩ := bcellE hbn; have hln : w.heap.size < ws.heap.size + 1 := by omega))
  go_ret
  exact ⟨ret_intE (a := ne) HE.out.symm, (hbw.alloc (by first | omega | (simp; done) | (simp; omega)) _).trans (hbn.mono (by first | omega | (simp; done) | (simp; omega)))⟩
theorem scheckNode_any (k : Int) (nm mr : ByteArray) (it d : Int) (p : Option Addr) (len cap : Nat) (w : World) :
  Calls Tryz.prog 84 #[.agg #[.int .i64 k, .string nm, .string mr, .int .i64 it, .int .i64 d, .slice p len cap]] w fun e w' => e = .returned (.int .i64 (checkN k nm mr it d len)) ∧ Below w.heap.size w w' := by
 rcases h : shapeK k with _ | ⟨nn, nu, ns⟩
 ·exact scheckNode_no k nm mr it d p len cap w h
 ·rcases shape_flags h with ⟨rfl, rfl⟩ | ⟨rfl, rfl⟩ | ⟨rfl, rfl⟩ | ⟨rfl, rfl⟩ | ⟨rfl, rfl⟩ | ⟨rfl, rfl⟩
  ·exact scheckNode_01 k ns nm mr it d p len cap w h
  ·exact scheckNode_10 k ns nm mr it d p len cap w h
  ·exact scheckNode_20 k ns nm mr it d p len cap w h
  ·exact scheckNode_11 k ns nm mr it d p len cap w h
  ·exact scheckNode_00 k ns nm mr it d p len cap w h
  ·exact scheckNode_02 k ns nm mr it d p len cap w h
end
section
open Go.RowKit
mutual
def checkE : Ex → Int
 | .mk k n m i d s => if checkN k n m i d s.length = 0 then checkEs s else checkN k n m i d s.length
def checkEs : List Ex → Int
 | [] => 0
 | e :: es => if checkE e = 0 then checkEs es else checkE e
end
theorem checkE_bad {k : Int} {nm mr : ByteArray} {it d c : Int} {sub : List Ex} (h : checkN k nm mr it d sub.length = c) (hc : ¬ c = 0) : checkE (.mk k nm mr it d sub) = c := by rw [checkE, h, if_neg hc]
theorem checkE_good {k : Int} {nm mr : ByteArray} {it d : Int} {sub : List Ex} (h : checkN k nm mr it d sub.length = 0) : checkE (.mk k nm mr it d sub) = checkEs sub := by rw [checkE, if_pos h]
end
section
open Go.RowKit
def checkX (t : Ex) : Int := if 400 < nodesE t ∨ 40 < depthE t then 4 else checkE t
theorem checkX_nodes {t : Ex} (h : 400 < nodesE t) : checkX t = 4 := by rw [checkX, if_pos (.inl h)]
theorem checkX_depth {t : Ex} (h : 40 < depthE t) : checkX t = 4 := by rw [checkX, if_pos (.inr h)]
theorem checkX_good {t : Ex} (h : ¬ 400 < nodesE t) (h' : ¬ 40 < depthE t) : checkX t = checkE t := by rw [checkX, if_neg (by omega)]
end
section
open Go.RowKit Go.Shelf
attribute [local go_sem] Oper.semAt_some
mutual
theorem preE_le : ∀ (d : Nat) (t : Ex) (x : Nat × Ex), x ∈ preE d t → x.1 + 1 ≤ d + depthE t
 | d, .mk k n m i dn s, x, h => by
  simp only [preE, List.mem_cons] at h
  rcases h with rfl | h
  ·simp only [depthE]; omega
  ·have := preL_le (d + 1) s x h; simp only [depthE]; omega
theorem preL_le : ∀ (d : Nat) (l : List Ex) (x : Nat × Ex), x ∈ preL d l → x.1 + 1 ≤ d + depthL l
 | d, [], x, h => by simp [preL] at h
 | d, e :: es, x, h => by
  simp only [preL, List.mem_append] at h
  rcases h with h | h
  ·have := preE_le d e x h; simp only [depthL]; omega
  ·have := preL_le d es x h; simp only [depthL]; omega
end
mutual
theorem preE_deep : ∀ (d : Nat) (t : Ex), ∃ x ∈ preE d t, x.1 + 1 = d + depthE t
 | d, .mk k n m i dn s => by
  rcases preL_deep (d + 1) s with ⟨rfl⟩ | ⟨x, hx, he⟩
  ·exact ⟨(d, .mk k n m i dn []), by simp [preE], by simp [depthE, depthL]⟩
  ·exact ⟨x, by simp only [preE, List.mem_cons]; exact .inr hx, by simp only [depthE]; omega⟩
theorem preL_deep : ∀ (d : Nat) (l : List Ex), l = [] ∨ ∃ x ∈ preL d l, x.1 + 1 = d + depthL l
 | d, [] => .inl rfl
 | d, e :: es => by
  right
  obtain ⟨x, hx, he⟩ := preE_deep d e
  rcases preL_deep d es with rfl | ⟨y, hy, hye⟩
  ·exact ⟨x, by simp only [preL, List.mem_append]; exact .inl hx, by simp only [depthL]; omega⟩
  ·rcases Nat.le_total (depthE e) (depthL es) with h | h
   ·exact ⟨y, by simp only [preL, List.mem_append]; exact .inr hy, by simp only [depthL]; omega⟩
   ·exact ⟨x, by simp only [preL, List.mem_append]; exact .inl hx, by simp only [depthL]; omega⟩
end
def nodeErr (t : Ex) : Int := checkN t.kind t.name t.more t.int t.den t.sub.length
def firstErr : List (Nat × Ex) → Int
 | [] => 0
 | x :: xs => if nodeErr x.2 = 0 then firstErr xs else nodeErr x.2
theorem firstErr_append : ∀ a b : List (Nat × Ex), firstErr (a ++ b) = if firstErr a = 0 then firstErr b else firstErr a
 | [], b => by simp [firstErr]
 | x :: xs, b => by
  simp only [firstErr, List.cons_append, firstErr_append xs b]
  by_cases h : nodeErr x.2 = 0 <;> simp [h]
mutual
theorem checkE_first : ∀ (d : Nat) (t : Ex), checkE t = firstErr (preE d t)
 | d, .mk k n m i dn s => by
  rw [checkE, preE, firstErr, checkEs_first (d + 1) s]; rfl
theorem checkEs_first : ∀ (d : Nat) (l : List Ex), checkEs l = firstErr (preL d l)
 | d, [] => by simp [checkEs, preL, firstErr]
 | d, e :: es => by rw [checkEs, preL, firstErr_append, checkE_first d e, checkEs_first d es]
end
theorem snodes_any (k : Int) (nm mr : ByteArray) (it d : Int) (p : Option Addr) (len cap : Nat) (w : World) :
  Calls Tryz.prog 83 #[.agg #[.int .i64 k, .string nm, .string mr, .int .i64 it, .int .i64 d, .slice p len cap]] w fun e w' =>
   e = .returned (.func (.func 142) #[] #[.pointer (some ⟨w.heap.size, 0, none⟩)]) ∧ w.alloc (.cells #[.int .i64 k, .string nm, .string mr, .int .i64 it, .int .i64 d, .slice p len cap] 36) = w' := by
 go_enter Tryz.func83, Tryz.ntmps83
 go_wp2
 go_ret
 exact ⟨rfl, rfl⟩
structure CkFrame (w : World) (E : Array Value) (res cnt : Int) (W : World) : Prop where
 e : W.heap[w.heap.size]? = some (.cells E 36 (0, 0))
 r : W.heap[w.heap.size + 1]? = some (.cells #[.int .i64 res] 27 (0, 0))
 c : W.heap[w.heap.size + 1 + 1]? = some (.cells #[.int .i64 cnt] 3 (0, 0))
 size : w.heap.size + 1 + 1 + 1 + 1 ≤ W.heap.size
 below : Below w.heap.size w W
theorem CkFrame.grown {w : World} {E : Array Value} {res cnt : Int} {A B : World} {row : Option Nat} (h : CkFrame w E res cnt A) (hg : A.grownBy B row) (hr : ∀ r, row = some r → w.heap.size ≤ r ∧ ∃ o : Obj, A.heap[r]? = some o ∧ o.isCells = false) : CkFrame w E res cnt B :=
 have hr' := fun r e => (hr r e).2
 ⟨(grownBy_keeps_cells hg hr' h.e rfl).trans h.e, (grownBy_keeps_cells hg hr' h.r rfl).trans h.r, (grownBy_keeps_cells hg hr' h.c rfl).trans h.c, Nat.le_trans h.size hg.size, h.below.trans ((Below.refl _ _).grown hg (by have := h.size; omega) (fun k e => (hr k e).1))⟩
theorem CkFrame.step {w : World} {E : Array Value} {res cnt : Int} {A B : World} {base : Nat} (h : CkFrame w E res cnt A) (hs : ItStep base A B) (hb : w.heap.size + 1 + 1 + 1 + 1 ≤ base) : CkFrame w E res cnt B :=
 ⟨(hs.below.block _ (by omega)).trans h.e, (hs.below.block _ (by omega)).trans h.r, (hs.below.block _ (by omega)).trans h.c, Nat.le_trans h.size hs.others.size, h.below.trans (hs.below.mono (by omega))⟩
theorem CkFrame.kept {w : World} {E : Array Value} {res cnt : Int} {A B : World} (h : CkFrame w E res cnt A) (hb : Below A.heap.size A B) : CkFrame w E res cnt B :=
 ⟨(hb.block _ (by have := h.size; omega)).trans h.e, (hb.block _ (by have := h.size; omega)).trans h.r, (hb.block _ (by have := h.size; omega)).trans h.c, Nat.le_trans h.size hb.size, h.below.trans (hb.mono (by have := h.size; omega))⟩
theorem CkFrame.setCnt {w : World} {E : Array Value} {res cnt : Int} {A : World} (h : CkFrame w E res cnt A) (x : Int) : CkFrame w E res x (A.setCell ⟨w.heap.size + 1 + 1, 0, none⟩ (.int .i64 x)) :=
 ⟨(Below.heap_setCell _ _ _ _ (by simp; omega)).trans h.e, (Below.heap_setCell _ _ _ _ (by simp)).trans h.r, one_setCell h.c, by simpa [World.setCell] using h.size, h.below.setCell (p := ⟨w.heap.size + 1 + 1, 0, none⟩) (by simp; omega) _⟩
theorem CkFrame.setRes {w : World} {E : Array Value} {res cnt : Int} {A : World} (h : CkFrame w E res cnt A) (x : Int) : CkFrame w E x cnt (A.setCell ⟨w.heap.size + 1, 0, none⟩ (.int .i64 x)) :=
 ⟨(Below.heap_setCell _ _ _ _ (by simp)).trans h.e, one_setCell h.r, (Below.heap_setCell _ _ _ _ (by simp)).trans h.c, by simpa [World.setCell] using h.size, h.below.setCell (p := ⟨w.heap.size + 1, 0, none⟩) (by simp) _⟩
def Ck1 (w : World) (E : Array Value) (pre : List (ItN)) (W : World) : Prop := CkFrame w E 0 pre.length W ∧ pre.length ≤ 400 ∧ ∀ x ∈ pre, x.1 ≤ 40
def Ck1x (w : World) (E : Array Value) (c : Code) (pre : List (ItN)) (W : World) : Prop := c = .ret ∧ (∃ n, CkFrame w E 4 n W) ∧ (400 < pre.length ∨ ∃ x ∈ pre, 40 < x.1)
def Ck2 (w : World) (E : Array Value) (D : Nat) (pre : List (ItN)) (W : World) : Prop := (∃ n, CkFrame w E 0 n W) ∧ firstErr (pre.map projN) = 0 ∧ W.heap[D]? = some (.deferred (some []))
def Ck2x (w : World) (E : Array Value) (D : Nat) (c : Code) (pre : List (ItN)) (W : World) : Prop := c = .ret ∧ ∃ err n, CkFrame w E err n W ∧ err ≠ 0 ∧ firstErr (pre.map projN) = err ∧ W.heap[D]? = some (.deferred (some []))
theorem ck1_own (w : World) (E : Array Value) (B : Nat) (hB : w.heap.size ≤ B) : OwnFrom B (Ck1 w E) := fun s W W' row hs hg hr => ⟨hs.1.grown hg (fun r e => ⟨by have := (hr r e).1; omega, (hr r e).2⟩), hs.2⟩
theorem ck1x_own (w : World) (E : Array Value) (c : Code) (B : Nat) (hB : w.heap.size ≤ B) : OwnFrom B (Ck1x w E c) := fun s W W' row hs hg hr => ⟨hs.1, ⟨_, hs.2.1.choose_spec.grown hg (fun r e => ⟨by have := (hr r e).1; omega, (hr r e).2⟩)⟩, hs.2.2⟩
theorem ck2_own (w : World) (E : Array Value) (D : Nat) (B : Nat) (hB : w.heap.size ≤ B) (hD : D < B) : OwnFrom B (Ck2 w E D) := fun s W W' row hs hg hr => ⟨⟨_, hs.1.choose_spec.grown hg (fun r e => ⟨by have := (hr r e).1; omega, (hr r e).2⟩)⟩, hs.2.1, (hg.block D (Array.getElem?_eq_some_iff.1 hs.2.2).1 (fun e => by have := (hr D e.symm).1; omega)).trans hs.2.2⟩
theorem ck2x_own (w : World) (E : Array Value) (D : Nat) (c : Code) (B : Nat) (hB : w.heap.size ≤ B) (hD : D < B) : OwnFrom B (Ck2x w E D c) := fun s W W' row ⟨h1, err, n, h2, h3, h4, h5⟩ hg hr => ⟨h1, err, n, h2.grown hg (fun r e => ⟨by have := (hr r e).1; omega, (hr r e).2⟩), h3, h4, (hg.block D (Array.getElem?_eq_some_iff.1 h5).1 (fun e => by have := (hr D e.symm).1; omega)).trans h5⟩
theorem limit_bad {t : Ex} {pre : List (ItN)} (hp : NodesPre t pre) (hb : 400 < pre.length ∨ ∃ x ∈ pre, 40 < x.1) : checkX t = 4 := by
 rcases hb with hb | ⟨x, hx, h40⟩
 ·apply checkX_nodes
  have := hp.length_le
  rw [List.length_map, preE_length] at this; omega
 ·apply checkX_depth
  have := preE_le 1 t (projN x) (hp.subset (List.mem_map_of_mem hx))
  simp only [projN] at this; omega
theorem limit_good {t : Ex} {pre : List (ItN)} (hp : NodesAll t pre) (h1 : pre.length ≤ 400) (h2 : ∀ x ∈ pre, x.1 ≤ 40) : ¬ 400 < nodesE t ∧ ¬ 40 < depthE t := by
 constructor
 ·have := congrArg List.length (show _ = _ from hp)
  rw [List.length_map, preE_length] at this; omega
 ·obtain ⟨x, hx, he⟩ := preE_deep 1 t
  rw [← (show _ = _ from hp)] at hx
  obtain ⟨y, hy, rfl⟩ := List.mem_map.1 hx
  have := h2 y hy
  simp only [projN] at he; omega
theorem sameLow_below {lo : Nat} {A B : World} (h : Below lo A B) : SameLow lo A B := fun b off hb _ hv => (h.cell (p := ⟨b, off, none⟩) hb).trans hv
theorem ck_start (w : World) (t1 t2 t3 : TypeId) (E : Array Value) (V : World) (hV : (((w.alloc (.cells E t1)).alloc (.cells #[.int .i64 0] t2)).alloc (.cells #[.int .i64 0] t3)).alloc (.cells E t1) = V) (h1 : t1 = 36 := by rfl) (h2 : t2 = 27 := by rfl) (h3 : t3 = 3 := by rfl) :
  CkFrame w E 0 0 V ∧ V.heap[w.heap.size + 1 + 1 + 1]? = some (.cells E t1 (0, 0)) ∧ V.heap.size = w.heap.size + 1 + 1 + 1 + 1 := by
 subst h1 h2 h3
 have q1 := World.alloc_heap_new w (.cells E 36)
 have q2 := World.alloc_heap_new (w.alloc (.cells E 36)) (.cells #[.int .i64 0] 27)
 have q3 := World.alloc_heap_new ((w.alloc (.cells E 36)).alloc (.cells #[.int .i64 0] 27)) (.cells #[.int .i64 0] 3)
 have q4 := World.alloc_heap_new (((w.alloc (.cells E 36)).alloc (.cells #[.int .i64 0] 27)).alloc (.cells #[.int .i64 0] 3)) (.cells E 36)
 simp only [World.size_alloc] at q2 q3 q4
 rw [hV] at q4
 refine ⟨⟨?_, ?_, ?_, ?_, ?_⟩, q4, ?_⟩ <;> rw [← hV]
 ·exact (Below.heap_alloc _ _ _ (by simp <;> omega)).trans ((Below.heap_alloc _ _ _ (by simp <;> omega)).trans ((Below.heap_alloc _ _ _ (by simp)).trans q1))
 ·exact (Below.heap_alloc _ _ _ (by simp <;> omega)).trans ((Below.heap_alloc _ _ _ (by simp)).trans q2)
 ·exact (Below.heap_alloc _ _ _ (by simp)).trans q3
 ·simp
 ·exact ((((Below.refl _ w).alloc (Nat.le_refl _) _).alloc (by simp) _).alloc (by simp; omega) _).alloc (by simp; omega) _
 ·simp
end
end Go.Proofs.YtnnolijagpakiaaGreatDoor
