/- checkNode of syntax. -/
import Derived.Test.YtnphcjpccieljaaGreatDoorExH
namespace Go.Proofs.YtnphcjpccieljaaGreatDoor
open Go.RowKit

def argOk (nn nu ns : Nat) (nm mr : ByteArray) (it d : Int) (len : Nat) : Bool :=
  (decide (1 ≤ nn) || decide (nm.size = 0)) && (decide (2 ≤ nn) || decide (mr.size = 0)) && (decide (1 ≤ nu) || decide (it = 0)) && (decide (2 ≤ nu) || decide (d = 0)) && decide (len = ns)
/-- the error of a node, apart from its parts -/
def checkN (k : Int) (nm mr : ByteArray) (it d : Int) (len : Nat) : Int :=
  match shapeK k with
  | none => 9
  | some (nn, nu, ns) => if argOk nn nu ns nm mr it d len then (if namesErr k nm mr (decide (1 ≤ nn)) (decide (2 ≤ nn)) = 0 then rangeErr k it d else namesErr k nm mr (decide (1 ≤ nn)) (decide (2 ≤ nn))) else 1
theorem checkN_none {k : Int} {nm mr : ByteArray} {it d : Int} {len : Nat} (h : shapeK k = none) : checkN k nm mr it d len = 9 := by simp [checkN, h]
theorem checkN_arg {k : Int} {nm mr : ByteArray} {it d : Int} {len nn nu ns : Nat} (h : shapeK k = some (nn, nu, ns)) (ha : argOk nn nu ns nm mr it d len = false) : checkN k nm mr it d len = 1 := by simp [checkN, h, ha]
theorem checkN_names {k : Int} {nm mr : ByteArray} {it d : Int} {len nn nu ns : Nat} (h : shapeK k = some (nn, nu, ns)) (ha : argOk nn nu ns nm mr it d len = true) (hn : ¬ namesErr k nm mr (decide (1 ≤ nn)) (decide (2 ≤ nn)) = 0) : checkN k nm mr it d len = namesErr k nm mr (decide (1 ≤ nn)) (decide (2 ≤ nn)) := by simp only [checkN, h, ha]; simp [hn]
theorem checkN_range {k : Int} {nm mr : ByteArray} {it d : Int} {len nn nu ns : Nat} (h : shapeK k = some (nn, nu, ns)) (ha : argOk nn nu ns nm mr it d len = true) (hn : namesErr k nm mr (decide (1 ≤ nn)) (decide (2 ≤ nn)) = 0) : checkN k nm mr it d len = rangeErr k it d := by simp only [checkN, h, ha]; simp [hn]
theorem shape_flags {k : Int} {nn nu ns : Nat} (h : shapeK k = some (nn, nu, ns)) : (nn = 0 ∧ nu = 1) ∨ (nn = 1 ∧ nu = 0) ∨ (nn = 2 ∧ nu = 0) ∨ (nn = 1 ∧ nu = 1) ∨ (nn = 0 ∧ nu = 0) ∨ (nn = 0 ∧ nu = 2) := by
  rcases shapeK_cases h with ⟨_, e⟩ | ⟨_, e⟩ | ⟨_, e⟩ | ⟨_, e⟩ | ⟨_, e⟩ | ⟨_, e⟩ | ⟨_, e⟩ | ⟨_, e⟩ | ⟨_, e⟩ | ⟨_, e⟩ | ⟨_, e⟩ | ⟨_, e⟩ | ⟨_, e⟩ | ⟨_, e⟩ | ⟨_, e⟩ <;> (cases e; simp)
set_option maxHeartbeats 4000000 in
theorem scheckNode_no (k : Int) (nm mr : ByteArray) (it d : Int) (p : Option Addr) (len cap : Nat) (w : World) (hsh : shapeK k = none) :
    Calls Tryz.prog 52 #[.agg #[.int .i64 k, .string nm, .string mr, .int .i64 it, .int .i64 d, .slice p len cap]] w fun e w' => e = .returned (.int .i64 (checkN k nm mr it d len)) ∧ Below w.heap.size w w' := by
  have HSH := Lib.hid (fun W => sshapeOf_no k W hsh)
  have HE := Lib.hid (checkN_none (nm := nm) (mr := mr) (it := it) (d := d) (len := len) hsh)
  obtain ⟨w1, hw1, hX⟩ := boxed w #[.int .i64 k, .string nm, .string mr, .int .i64 it, .int .i64 d, .slice p len cap] 35
  have HW := Lib.hid hw1
  have HX := Lib.hid hX
  clear hX hw1 hsh
  go_enter Tryz.func52, Tryz.ntmps52
  go_wp2_with fail
  rw [HW.out]
  refine (HSH.out _).mono ?_
  rintro e ws ⟨rfl, hbs⟩
  obtain ⟨c0, c1, c2, c3, c4, c5⟩ := boxed6 HX.out hbs
  have hl1 : w.heap.size < ws.heap.size := by have := HX.out.size; have := hbs.size; omega
  have hbw : Below w.heap.size w ws := HX.out.below.trans (hbs.mono HX.out.below.size)
  clear hbs
  go_wp2_with fail
  go_ret
  exact ⟨ret_intE (a := 9) HE.out.symm, hbw.alloc (by first | omega | (simp; done) | (simp; omega)) _⟩
set_option maxHeartbeats 4000000 in
theorem scheckNode_01 (k : Int) (ns : Nat) (nm mr : ByteArray) (it d : Int) (p : Option Addr) (len cap : Nat) (w : World) (hsh : shapeK k = some (0, 1, ns)) :
    Calls Tryz.prog 52 #[.agg #[.int .i64 k, .string nm, .string mr, .int .i64 it, .int .i64 d, .slice p len cap]] w fun e w' => e = .returned (.int .i64 (checkN k nm mr it d len)) ∧ Below w.heap.size w w' := by
  have HSH := Lib.hid (fun W => sshapeOf_yes k 0 1 ns W hsh)
  by_cases hz : nm.size = 0
  rotate_left
  · have HE := Lib.hid (checkN_arg (nm := nm) (mr := mr) (it := it) (d := d) (len := len) hsh (by simp [argOk, hz]))
    have hz1 := toList_ne' hz
    clear hz
    obtain ⟨w1, hw1, hX⟩ := boxed w #[.int .i64 k, .string nm, .string mr, .int .i64 it, .int .i64 d, .slice p len cap] 35
    have HW := Lib.hid hw1
    have HX := Lib.hid hX
    clear hX hw1 hsh
    go_enter Tryz.func52, Tryz.ntmps52
    go_wp2_with fail
    rw [HW.out]
    refine (HSH.out _).mono ?_
    rintro e ws ⟨rfl, hbs⟩
    obtain ⟨c0, c1, c2, c3, c4, c5⟩ := boxed6 HX.out hbs
    have hl1 : w.heap.size < ws.heap.size := by have := HX.out.size; have := hbs.size; omega
    have hbw : Below w.heap.size w ws := HX.out.below.trans (hbs.mono HX.out.below.size)
    clear hbs
    go_wp2_with fail
    go_ret
    exact ⟨ret_intE (a := 1) HE.out.symm, hbw.alloc (by first | omega | (simp; done) | (simp; omega)) _⟩
  obtain rfl := size_zero hz
  clear hz
  by_cases hz : mr.size = 0
  rotate_left
  · have HE := Lib.hid (checkN_arg (nm := ⟨#[]⟩) (mr := mr) (it := it) (d := d) (len := len) hsh (by simp [argOk, hz]))
    have hz1 := toList_ne' hz
    clear hz
    obtain ⟨w1, hw1, hX⟩ := boxed w #[.int .i64 k, .string ⟨#[]⟩, .string mr, .int .i64 it, .int .i64 d, .slice p len cap] 35
    have HW := Lib.hid hw1
    have HX := Lib.hid hX
    clear hX hw1 hsh
    go_enter Tryz.func52, Tryz.ntmps52
    go_wp2_with fail
    rw [HW.out]
    refine (HSH.out _).mono ?_
    rintro e ws ⟨rfl, hbs⟩
    obtain ⟨c0, c1, c2, c3, c4, c5⟩ := boxed6 HX.out hbs
    have hl1 : w.heap.size < ws.heap.size := by have := HX.out.size; have := hbs.size; omega
    have hbw : Below w.heap.size w ws := HX.out.below.trans (hbs.mono HX.out.below.size)
    clear hbs
    go_wp2_with fail
    go_ret
    exact ⟨ret_intE (a := 1) HE.out.symm, hbw.alloc (by first | omega | (simp; done) | (simp; omega)) _⟩
  obtain rfl := size_zero hz
  clear hz
  by_cases hz : d = 0
  rotate_left
  · have HE := Lib.hid (checkN_arg (nm := ⟨#[]⟩) (mr := ⟨#[]⟩) (it := it) (d := d) (len := len) hsh (by simp [argOk, hz]))
    have hz1 : (d != 0) = true := by simpa using hz
    clear hz
    obtain ⟨w1, hw1, hX⟩ := boxed w #[.int .i64 k, .string ⟨#[]⟩, .string ⟨#[]⟩, .int .i64 it, .int .i64 d, .slice p len cap] 35
    have HW := Lib.hid hw1
    have HX := Lib.hid hX
    clear hX hw1 hsh
    go_enter Tryz.func52, Tryz.ntmps52
    go_wp2_with fail
    rw [HW.out]
    refine (HSH.out _).mono ?_
    rintro e ws ⟨rfl, hbs⟩
    obtain ⟨c0, c1, c2, c3, c4, c5⟩ := boxed6 HX.out hbs
    have hl1 : w.heap.size < ws.heap.size := by have := HX.out.size; have := hbs.size; omega
    have hbw : Below w.heap.size w ws := HX.out.below.trans (hbs.mono HX.out.below.size)
    clear hbs
    go_wp2_with fail
    go_ret
    exact ⟨ret_intE (a := 1) HE.out.symm, hbw.alloc (by first | omega | (simp; done) | (simp; omega)) _⟩
  subst hz
  by_cases hz : len = ns
  rotate_left
  · have HE := Lib.hid (checkN_arg (nm := ⟨#[]⟩) (mr := ⟨#[]⟩) (it := it) (d := 0) (len := len) hsh (by simp [argOk, hz]))
    have hz1 : ((len : Int) != (ns : Int)) = true := by simp; omega
    have hz2 : (len != ns) = true := by simpa using hz
    clear hz
    obtain ⟨w1, hw1, hX⟩ := boxed w #[.int .i64 k, .string ⟨#[]⟩, .string ⟨#[]⟩, .int .i64 it, .int .i64 0, .slice p len cap] 35
    have HW := Lib.hid hw1
    have HX := Lib.hid hX
    clear hX hw1 hsh
    go_enter Tryz.func52, Tryz.ntmps52
    go_wp2_with fail
    rw [HW.out]
    refine (HSH.out _).mono ?_
    rintro e ws ⟨rfl, hbs⟩
    obtain ⟨c0, c1, c2, c3, c4, c5⟩ := boxed6 HX.out hbs
    have hl1 : w.heap.size < ws.heap.size := by have := HX.out.size; have := hbs.size; omega
    have hbw : Below w.heap.size w ws := HX.out.below.trans (hbs.mono HX.out.below.size)
    clear hbs
    go_wp2_with fail
    go_ret
    exact ⟨ret_intE (a := 1) HE.out.symm, hbw.alloc (by first | omega | (simp; done) | (simp; omega)) _⟩
  subst hz
  have HNE := Lib.hid (fun W => scheckNames_any k 0 1 len ⟨#[]⟩ ⟨#[]⟩ it 0 (.slice p len cap) W hsh)
  have hok : argOk 0 1 len ⟨#[]⟩ ⟨#[]⟩ it 0 len = true := by simp [argOk] <;> rfl
  obtain ⟨ne, hne⟩ : ∃ ne, namesErr k ⟨#[]⟩ ⟨#[]⟩ (decide (1 ≤ 0)) (decide (2 ≤ 0)) = ne := ⟨_, rfl⟩
  rw [hne] at HNE
  by_cases hz : ne = 0
  · have HE := Lib.hid (checkN_range hsh hok (hne.trans hz))
    subst hz
    clear hok hne
    obtain ⟨w1, hw1, hX⟩ := boxed w #[.int .i64 k, .string ⟨#[]⟩, .string ⟨#[]⟩, .int .i64 it, .int .i64 0, .slice p len cap] 35
    have HW := Lib.hid hw1
    have HX := Lib.hid hX
    clear hX hw1 hsh
    go_enter Tryz.func52, Tryz.ntmps52
    go_wp2_with fail
    rw [HW.out]
    refine (HSH.out _).mono ?_
    rintro e ws ⟨rfl, hbs⟩
    obtain ⟨c0, c1, c2, c3, c4, c5⟩ := boxed6 HX.out hbs
    have hl1 : w.heap.size < ws.heap.size := by have := HX.out.size; have := hbs.size; omega
    have hbw : Below w.heap.size w ws := HX.out.below.trans (hbs.mono HX.out.below.size)
    clear hbs
    go_wp2_with (first
      | (go_at_call 82; refine (HNE.out _).mono ?_; rintro e wn ⟨rfl, hbn⟩; obtain ⟨hcn, hfn⟩ := bcellE hbn; have hln : w.heap.size < ws.heap.size + 1 := by omega)
      | (go_at_call 83; refine (scheckNumbers_any _ _ _ _ _ _ _).mono ?_; rintro e wm ⟨rfl, hbm⟩))
    go_ret
    exact ⟨ret_intE (a := rangeErr k it 0) HE.out.symm, ((hbw.alloc (by first | omega | (simp; done) | (simp; omega)) _).trans (hbn.mono (by first | omega | (simp; done) | (simp; omega)))).trans (hbm.mono (by have hz1 := hbn.size; simp at hz1; omega))⟩
  · have HE := Lib.hid (checkN_names hsh hok (by rw [hne]; exact hz))
    rw [hne] at HE
    have hz1 : (ne != 0) = true := by simpa using hz
    clear hok hne hz
    obtain ⟨w1, hw1, hX⟩ := boxed w #[.int .i64 k, .string ⟨#[]⟩, .string ⟨#[]⟩, .int .i64 it, .int .i64 0, .slice p len cap] 35
    have HW := Lib.hid hw1
    have HX := Lib.hid hX
    clear hX hw1 hsh
    go_enter Tryz.func52, Tryz.ntmps52
    go_wp2_with fail
    rw [HW.out]
    refine (HSH.out _).mono ?_
    rintro e ws ⟨rfl, hbs⟩
    obtain ⟨c0, c1, c2, c3, c4, c5⟩ := boxed6 HX.out hbs
    have hl1 : w.heap.size < ws.heap.size := by have := HX.out.size; have := hbs.size; omega
    have hbw : Below w.heap.size w ws := HX.out.below.trans (hbs.mono HX.out.below.size)
    clear hbs
    go_wp2_with (first
      | (go_at_call 82; refine (HNE.out _).mono ?_; rintro e wn ⟨rfl, hbn⟩; obtain ⟨hcn, hfn⟩ := bcellE hbn; have hln : w.heap.size < ws.heap.size + 1 := by omega))
    go_ret
    exact ⟨ret_intE (a := ne) HE.out.symm, (hbw.alloc (by first | omega | (simp; done) | (simp; omega)) _).trans (hbn.mono (by first | omega | (simp; done) | (simp; omega)))⟩
set_option maxHeartbeats 4000000 in
theorem scheckNode_10 (k : Int) (ns : Nat) (nm mr : ByteArray) (it d : Int) (p : Option Addr) (len cap : Nat) (w : World) (hsh : shapeK k = some (1, 0, ns)) :
    Calls Tryz.prog 52 #[.agg #[.int .i64 k, .string nm, .string mr, .int .i64 it, .int .i64 d, .slice p len cap]] w fun e w' => e = .returned (.int .i64 (checkN k nm mr it d len)) ∧ Below w.heap.size w w' := by
  have HSH := Lib.hid (fun W => sshapeOf_yes k 1 0 ns W hsh)
  by_cases hz : mr.size = 0
  rotate_left
  · have HE := Lib.hid (checkN_arg (nm := nm) (mr := mr) (it := it) (d := d) (len := len) hsh (by simp [argOk, hz]))
    have hz1 := toList_ne' hz
    clear hz
    obtain ⟨w1, hw1, hX⟩ := boxed w #[.int .i64 k, .string nm, .string mr, .int .i64 it, .int .i64 d, .slice p len cap] 35
    have HW := Lib.hid hw1
    have HX := Lib.hid hX
    clear hX hw1 hsh
    go_enter Tryz.func52, Tryz.ntmps52
    go_wp2_with fail
    rw [HW.out]
    refine (HSH.out _).mono ?_
    rintro e ws ⟨rfl, hbs⟩
    obtain ⟨c0, c1, c2, c3, c4, c5⟩ := boxed6 HX.out hbs
    have hl1 : w.heap.size < ws.heap.size := by have := HX.out.size; have := hbs.size; omega
    have hbw : Below w.heap.size w ws := HX.out.below.trans (hbs.mono HX.out.below.size)
    clear hbs
    go_wp2_with fail
    go_ret
    exact ⟨ret_intE (a := 1) HE.out.symm, hbw.alloc (by first | omega | (simp; done) | (simp; omega)) _⟩
  obtain rfl := size_zero hz
  clear hz
  by_cases hz : it = 0
  rotate_left
  · have HE := Lib.hid (checkN_arg (nm := nm) (mr := ⟨#[]⟩) (it := it) (d := d) (len := len) hsh (by simp [argOk, hz]))
    have hz1 : (it != 0) = true := by simpa using hz
    clear hz
    obtain ⟨w1, hw1, hX⟩ := boxed w #[.int .i64 k, .string nm, .string ⟨#[]⟩, .int .i64 it, .int .i64 d, .slice p len cap] 35
    have HW := Lib.hid hw1
    have HX := Lib.hid hX
    clear hX hw1 hsh
    go_enter Tryz.func52, Tryz.ntmps52
    go_wp2_with fail
    rw [HW.out]
    refine (HSH.out _).mono ?_
    rintro e ws ⟨rfl, hbs⟩
    obtain ⟨c0, c1, c2, c3, c4, c5⟩ := boxed6 HX.out hbs
    have hl1 : w.heap.size < ws.heap.size := by have := HX.out.size; have := hbs.size; omega
    have hbw : Below w.heap.size w ws := HX.out.below.trans (hbs.mono HX.out.below.size)
    clear hbs
    go_wp2_with fail
    go_ret
    exact ⟨ret_intE (a := 1) HE.out.symm, hbw.alloc (by first | omega | (simp; done) | (simp; omega)) _⟩
  subst hz
  by_cases hz : d = 0
  rotate_left
  · have HE := Lib.hid (checkN_arg (nm := nm) (mr := ⟨#[]⟩) (it := 0) (d := d) (len := len) hsh (by simp [argOk, hz]))
    have hz1 : (d != 0) = true := by simpa using hz
    clear hz
    obtain ⟨w1, hw1, hX⟩ := boxed w #[.int .i64 k, .string nm, .string ⟨#[]⟩, .int .i64 0, .int .i64 d, .slice p len cap] 35
    have HW := Lib.hid hw1
    have HX := Lib.hid hX
    clear hX hw1 hsh
    go_enter Tryz.func52, Tryz.ntmps52
    go_wp2_with fail
    rw [HW.out]
    refine (HSH.out _).mono ?_
    rintro e ws ⟨rfl, hbs⟩
    obtain ⟨c0, c1, c2, c3, c4, c5⟩ := boxed6 HX.out hbs
    have hl1 : w.heap.size < ws.heap.size := by have := HX.out.size; have := hbs.size; omega
    have hbw : Below w.heap.size w ws := HX.out.below.trans (hbs.mono HX.out.below.size)
    clear hbs
    go_wp2_with fail
    go_ret
    exact ⟨ret_intE (a := 1) HE.out.symm, hbw.alloc (by first | omega | (simp; done) | (simp; omega)) _⟩
  subst hz
  by_cases hz : len = ns
  rotate_left
  · have HE := Lib.hid (checkN_arg (nm := nm) (mr := ⟨#[]⟩) (it := 0) (d := 0) (len := len) hsh (by simp [argOk, hz]))
    have hz1 : ((len : Int) != (ns : Int)) = true := by simp; omega
    have hz2 : (len != ns) = true := by simpa using hz
    clear hz
    obtain ⟨w1, hw1, hX⟩ := boxed w #[.int .i64 k, .string nm, .string ⟨#[]⟩, .int .i64 0, .int .i64 0, .slice p len cap] 35
    have HW := Lib.hid hw1
    have HX := Lib.hid hX
    clear hX hw1 hsh
    go_enter Tryz.func52, Tryz.ntmps52
    go_wp2_with fail
    rw [HW.out]
    refine (HSH.out _).mono ?_
    rintro e ws ⟨rfl, hbs⟩
    obtain ⟨c0, c1, c2, c3, c4, c5⟩ := boxed6 HX.out hbs
    have hl1 : w.heap.size < ws.heap.size := by have := HX.out.size; have := hbs.size; omega
    have hbw : Below w.heap.size w ws := HX.out.below.trans (hbs.mono HX.out.below.size)
    clear hbs
    go_wp2_with fail
    go_ret
    exact ⟨ret_intE (a := 1) HE.out.symm, hbw.alloc (by first | omega | (simp; done) | (simp; omega)) _⟩
  subst hz
  have HNE := Lib.hid (fun W => scheckNames_any k 1 0 len nm ⟨#[]⟩ 0 0 (.slice p len cap) W hsh)
  have hok : argOk 1 0 len nm ⟨#[]⟩ 0 0 len = true := by simp [argOk] <;> rfl
  obtain ⟨ne, hne⟩ : ∃ ne, namesErr k nm ⟨#[]⟩ (decide (1 ≤ 1)) (decide (2 ≤ 1)) = ne := ⟨_, rfl⟩
  rw [hne] at HNE
  by_cases hz : ne = 0
  · have HE := Lib.hid (checkN_range hsh hok (hne.trans hz))
    subst hz
    clear hok hne
    obtain ⟨w1, hw1, hX⟩ := boxed w #[.int .i64 k, .string nm, .string ⟨#[]⟩, .int .i64 0, .int .i64 0, .slice p len cap] 35
    have HW := Lib.hid hw1
    have HX := Lib.hid hX
    clear hX hw1 hsh
    go_enter Tryz.func52, Tryz.ntmps52
    go_wp2_with fail
    rw [HW.out]
    refine (HSH.out _).mono ?_
    rintro e ws ⟨rfl, hbs⟩
    obtain ⟨c0, c1, c2, c3, c4, c5⟩ := boxed6 HX.out hbs
    have hl1 : w.heap.size < ws.heap.size := by have := HX.out.size; have := hbs.size; omega
    have hbw : Below w.heap.size w ws := HX.out.below.trans (hbs.mono HX.out.below.size)
    clear hbs
    go_wp2_with (first
      | (go_at_call 82; refine (HNE.out _).mono ?_; rintro e wn ⟨rfl, hbn⟩; obtain ⟨hcn, hfn⟩ := bcellE hbn; have hln : w.heap.size < ws.heap.size + 1 := by omega)
      | (go_at_call 83; refine (scheckNumbers_any _ _ _ _ _ _ _).mono ?_; rintro e wm ⟨rfl, hbm⟩))
    go_ret
    exact ⟨ret_intE (a := rangeErr k 0 0) HE.out.symm, ((hbw.alloc (by first | omega | (simp; done) | (simp; omega)) _).trans (hbn.mono (by first | omega | (simp; done) | (simp; omega)))).trans (hbm.mono (by have hz1 := hbn.size; simp at hz1; omega))⟩
  · have HE := Lib.hid (checkN_names hsh hok (by rw [hne]; exact hz))
    rw [hne] at HE
    have hz1 : (ne != 0) = true := by simpa using hz
    clear hok hne hz
    obtain ⟨w1, hw1, hX⟩ := boxed w #[.int .i64 k, .string nm, .string ⟨#[]⟩, .int .i64 0, .int .i64 0, .slice p len cap] 35
    have HW := Lib.hid hw1
    have HX := Lib.hid hX
    clear hX hw1 hsh
    go_enter Tryz.func52, Tryz.ntmps52
    go_wp2_with fail
    rw [HW.out]
    refine (HSH.out _).mono ?_
    rintro e ws ⟨rfl, hbs⟩
    obtain ⟨c0, c1, c2, c3, c4, c5⟩ := boxed6 HX.out hbs
    have hl1 : w.heap.size < ws.heap.size := by have := HX.out.size; have := hbs.size; omega
    have hbw : Below w.heap.size w ws := HX.out.below.trans (hbs.mono HX.out.below.size)
    clear hbs
    go_wp2_with (first
      | (go_at_call 82; refine (HNE.out _).mono ?_; rintro e wn ⟨rfl, hbn⟩; obtain ⟨hcn, hfn⟩ := bcellE hbn; have hln : w.heap.size < ws.heap.size + 1 := by omega))
    go_ret
    exact ⟨ret_intE (a := ne) HE.out.symm, (hbw.alloc (by first | omega | (simp; done) | (simp; omega)) _).trans (hbn.mono (by first | omega | (simp; done) | (simp; omega)))⟩
set_option maxHeartbeats 4000000 in
theorem scheckNode_20 (k : Int) (ns : Nat) (nm mr : ByteArray) (it d : Int) (p : Option Addr) (len cap : Nat) (w : World) (hsh : shapeK k = some (2, 0, ns)) :
    Calls Tryz.prog 52 #[.agg #[.int .i64 k, .string nm, .string mr, .int .i64 it, .int .i64 d, .slice p len cap]] w fun e w' => e = .returned (.int .i64 (checkN k nm mr it d len)) ∧ Below w.heap.size w w' := by
  have HSH := Lib.hid (fun W => sshapeOf_yes k 2 0 ns W hsh)
  by_cases hz : it = 0
  rotate_left
  · have HE := Lib.hid (checkN_arg (nm := nm) (mr := mr) (it := it) (d := d) (len := len) hsh (by simp [argOk, hz]))
    have hz1 : (it != 0) = true := by simpa using hz
    clear hz
    obtain ⟨w1, hw1, hX⟩ := boxed w #[.int .i64 k, .string nm, .string mr, .int .i64 it, .int .i64 d, .slice p len cap] 35
    have HW := Lib.hid hw1
    have HX := Lib.hid hX
    clear hX hw1 hsh
    go_enter Tryz.func52, Tryz.ntmps52
    go_wp2_with fail
    rw [HW.out]
    refine (HSH.out _).mono ?_
    rintro e ws ⟨rfl, hbs⟩
    obtain ⟨c0, c1, c2, c3, c4, c5⟩ := boxed6 HX.out hbs
    have hl1 : w.heap.size < ws.heap.size := by have := HX.out.size; have := hbs.size; omega
    have hbw : Below w.heap.size w ws := HX.out.below.trans (hbs.mono HX.out.below.size)
    clear hbs
    go_wp2_with fail
    go_ret
    exact ⟨ret_intE (a := 1) HE.out.symm, hbw.alloc (by first | omega | (simp; done) | (simp; omega)) _⟩
  subst hz
  by_cases hz : d = 0
  rotate_left
  · have HE := Lib.hid (checkN_arg (nm := nm) (mr := mr) (it := 0) (d := d) (len := len) hsh (by simp [argOk, hz]))
    have hz1 : (d != 0) = true := by simpa using hz
    clear hz
    obtain ⟨w1, hw1, hX⟩ := boxed w #[.int .i64 k, .string nm, .string mr, .int .i64 0, .int .i64 d, .slice p len cap] 35
    have HW := Lib.hid hw1
    have HX := Lib.hid hX
    clear hX hw1 hsh
    go_enter Tryz.func52, Tryz.ntmps52
    go_wp2_with fail
    rw [HW.out]
    refine (HSH.out _).mono ?_
    rintro e ws ⟨rfl, hbs⟩
    obtain ⟨c0, c1, c2, c3, c4, c5⟩ := boxed6 HX.out hbs
    have hl1 : w.heap.size < ws.heap.size := by have := HX.out.size; have := hbs.size; omega
    have hbw : Below w.heap.size w ws := HX.out.below.trans (hbs.mono HX.out.below.size)
    clear hbs
    go_wp2_with fail
    go_ret
    exact ⟨ret_intE (a := 1) HE.out.symm, hbw.alloc (by first | omega | (simp; done) | (simp; omega)) _⟩
  subst hz
  by_cases hz : len = ns
  rotate_left
  · have HE := Lib.hid (checkN_arg (nm := nm) (mr := mr) (it := 0) (d := 0) (len := len) hsh (by simp [argOk, hz]))
    have hz1 : ((len : Int) != (ns : Int)) = true := by simp; omega
    have hz2 : (len != ns) = true := by simpa using hz
    clear hz
    obtain ⟨w1, hw1, hX⟩ := boxed w #[.int .i64 k, .string nm, .string mr, .int .i64 0, .int .i64 0, .slice p len cap] 35
    have HW := Lib.hid hw1
    have HX := Lib.hid hX
    clear hX hw1 hsh
    go_enter Tryz.func52, Tryz.ntmps52
    go_wp2_with fail
    rw [HW.out]
    refine (HSH.out _).mono ?_
    rintro e ws ⟨rfl, hbs⟩
    obtain ⟨c0, c1, c2, c3, c4, c5⟩ := boxed6 HX.out hbs
    have hl1 : w.heap.size < ws.heap.size := by have := HX.out.size; have := hbs.size; omega
    have hbw : Below w.heap.size w ws := HX.out.below.trans (hbs.mono HX.out.below.size)
    clear hbs
    go_wp2_with fail
    go_ret
    exact ⟨ret_intE (a := 1) HE.out.symm, hbw.alloc (by first | omega | (simp; done) | (simp; omega)) _⟩
  subst hz
  have HNE := Lib.hid (fun W => scheckNames_any k 2 0 len nm mr 0 0 (.slice p len cap) W hsh)
  have hok : argOk 2 0 len nm mr 0 0 len = true := by simp [argOk] <;> rfl
  obtain ⟨ne, hne⟩ : ∃ ne, namesErr k nm mr (decide (1 ≤ 2)) (decide (2 ≤ 2)) = ne := ⟨_, rfl⟩
  rw [hne] at HNE
  by_cases hz : ne = 0
  · have HE := Lib.hid (checkN_range hsh hok (hne.trans hz))
    subst hz
    clear hok hne
    obtain ⟨w1, hw1, hX⟩ := boxed w #[.int .i64 k, .string nm, .string mr, .int .i64 0, .int .i64 0, .slice p len cap] 35
    have HW := Lib.hid hw1
    have HX := Lib.hid hX
    clear hX hw1 hsh
    go_enter Tryz.func52, Tryz.ntmps52
    go_wp2_with fail
    rw [HW.out]
    refine (HSH.out _).mono ?_
    rintro e ws ⟨rfl, hbs⟩
    obtain ⟨c0, c1, c2, c3, c4, c5⟩ := boxed6 HX.out hbs
    have hl1 : w.heap.size < ws.heap.size := by have := HX.out.size; have := hbs.size; omega
    have hbw : Below w.heap.size w ws := HX.out.below.trans (hbs.mono HX.out.below.size)
    clear hbs
    go_wp2_with (first
      | (go_at_call 82; refine (HNE.out _).mono ?_; rintro e wn ⟨rfl, hbn⟩; obtain ⟨hcn, hfn⟩ := bcellE hbn; have hln : w.heap.size < ws.heap.size + 1 := by omega)
      | (go_at_call 83; refine (scheckNumbers_any _ _ _ _ _ _ _).mono ?_; rintro e wm ⟨rfl, hbm⟩))
    go_ret
    exact ⟨ret_intE (a := rangeErr k 0 0) HE.out.symm, ((hbw.alloc (by first | omega | (simp; done) | (simp; omega)) _).trans (hbn.mono (by first | omega | (simp; done) | (simp; omega)))).trans (hbm.mono (by have hz1 := hbn.size; simp at hz1; omega))⟩
  · have HE := Lib.hid (checkN_names hsh hok (by rw [hne]; exact hz))
    rw [hne] at HE
    have hz1 : (ne != 0) = true := by simpa using hz
    clear hok hne hz
    obtain ⟨w1, hw1, hX⟩ := boxed w #[.int .i64 k, .string nm, .string mr, .int .i64 0, .int .i64 0, .slice p len cap] 35
    have HW := Lib.hid hw1
    have HX := Lib.hid hX
    clear hX hw1 hsh
    go_enter Tryz.func52, Tryz.ntmps52
    go_wp2_with fail
    rw [HW.out]
    refine (HSH.out _).mono ?_
    rintro e ws ⟨rfl, hbs⟩
    obtain ⟨c0, c1, c2, c3, c4, c5⟩ := boxed6 HX.out hbs
    have hl1 : w.heap.size < ws.heap.size := by have := HX.out.size; have := hbs.size; omega
    have hbw : Below w.heap.size w ws := HX.out.below.trans (hbs.mono HX.out.below.size)
    clear hbs
    go_wp2_with (first
      | (go_at_call 82; refine (HNE.out _).mono ?_; rintro e wn ⟨rfl, hbn⟩; obtain ⟨hcn, hfn⟩ := bcellE hbn; have hln : w.heap.size < ws.heap.size + 1 := by omega))
    go_ret
    exact ⟨ret_intE (a := ne) HE.out.symm, (hbw.alloc (by first | omega | (simp; done) | (simp; omega)) _).trans (hbn.mono (by first | omega | (simp; done) | (simp; omega)))⟩
set_option maxHeartbeats 4000000 in
theorem scheckNode_11 (k : Int) (ns : Nat) (nm mr : ByteArray) (it d : Int) (p : Option Addr) (len cap : Nat) (w : World) (hsh : shapeK k = some (1, 1, ns)) :
    Calls Tryz.prog 52 #[.agg #[.int .i64 k, .string nm, .string mr, .int .i64 it, .int .i64 d, .slice p len cap]] w fun e w' => e = .returned (.int .i64 (checkN k nm mr it d len)) ∧ Below w.heap.size w w' := by
  have HSH := Lib.hid (fun W => sshapeOf_yes k 1 1 ns W hsh)
  by_cases hz : mr.size = 0
  rotate_left
  · have HE := Lib.hid (checkN_arg (nm := nm) (mr := mr) (it := it) (d := d) (len := len) hsh (by simp [argOk, hz]))
    have hz1 := toList_ne' hz
    clear hz
    obtain ⟨w1, hw1, hX⟩ := boxed w #[.int .i64 k, .string nm, .string mr, .int .i64 it, .int .i64 d, .slice p len cap] 35
    have HW := Lib.hid hw1
    have HX := Lib.hid hX
    clear hX hw1 hsh
    go_enter Tryz.func52, Tryz.ntmps52
    go_wp2_with fail
    rw [HW.out]
    refine (HSH.out _).mono ?_
    rintro e ws ⟨rfl, hbs⟩
    obtain ⟨c0, c1, c2, c3, c4, c5⟩ := boxed6 HX.out hbs
    have hl1 : w.heap.size < ws.heap.size := by have := HX.out.size; have := hbs.size; omega
    have hbw : Below w.heap.size w ws := HX.out.below.trans (hbs.mono HX.out.below.size)
    clear hbs
    go_wp2_with fail
    go_ret
    exact ⟨ret_intE (a := 1) HE.out.symm, hbw.alloc (by first | omega | (simp; done) | (simp; omega)) _⟩
  obtain rfl := size_zero hz
  clear hz
  by_cases hz : d = 0
  rotate_left
  · have HE := Lib.hid (checkN_arg (nm := nm) (mr := ⟨#[]⟩) (it := it) (d := d) (len := len) hsh (by simp [argOk, hz]))
    have hz1 : (d != 0) = true := by simpa using hz
    clear hz
    obtain ⟨w1, hw1, hX⟩ := boxed w #[.int .i64 k, .string nm, .string ⟨#[]⟩, .int .i64 it, .int .i64 d, .slice p len cap] 35
    have HW := Lib.hid hw1
    have HX := Lib.hid hX
    clear hX hw1 hsh
    go_enter Tryz.func52, Tryz.ntmps52
    go_wp2_with fail
    rw [HW.out]
    refine (HSH.out _).mono ?_
    rintro e ws ⟨rfl, hbs⟩
    obtain ⟨c0, c1, c2, c3, c4, c5⟩ := boxed6 HX.out hbs
    have hl1 : w.heap.size < ws.heap.size := by have := HX.out.size; have := hbs.size; omega
    have hbw : Below w.heap.size w ws := HX.out.below.trans (hbs.mono HX.out.below.size)
    clear hbs
    go_wp2_with fail
    go_ret
    exact ⟨ret_intE (a := 1) HE.out.symm, hbw.alloc (by first | omega | (simp; done) | (simp; omega)) _⟩
  subst hz
  by_cases hz : len = ns
  rotate_left
  · have HE := Lib.hid (checkN_arg (nm := nm) (mr := ⟨#[]⟩) (it := it) (d := 0) (len := len) hsh (by simp [argOk, hz]))
    have hz1 : ((len : Int) != (ns : Int)) = true := by simp; omega
    have hz2 : (len != ns) = true := by simpa using hz
    clear hz
    obtain ⟨w1, hw1, hX⟩ := boxed w #[.int .i64 k, .string nm, .string ⟨#[]⟩, .int .i64 it, .int .i64 0, .slice p len cap] 35
    have HW := Lib.hid hw1
    have HX := Lib.hid hX
    clear hX hw1 hsh
    go_enter Tryz.func52, Tryz.ntmps52
    go_wp2_with fail
    rw [HW.out]
    refine (HSH.out _).mono ?_
    rintro e ws ⟨rfl, hbs⟩
    obtain ⟨c0, c1, c2, c3, c4, c5⟩ := boxed6 HX.out hbs
    have hl1 : w.heap.size < ws.heap.size := by have := HX.out.size; have := hbs.size; omega
    have hbw : Below w.heap.size w ws := HX.out.below.trans (hbs.mono HX.out.below.size)
    clear hbs
    go_wp2_with fail
    go_ret
    exact ⟨ret_intE (a := 1) HE.out.symm, hbw.alloc (by first | omega | (simp; done) | (simp; omega)) _⟩
  subst hz
  have HNE := Lib.hid (fun W => scheckNames_any k 1 1 len nm ⟨#[]⟩ it 0 (.slice p len cap) W hsh)
  have hok : argOk 1 1 len nm ⟨#[]⟩ it 0 len = true := by simp [argOk] <;> rfl
  obtain ⟨ne, hne⟩ : ∃ ne, namesErr k nm ⟨#[]⟩ (decide (1 ≤ 1)) (decide (2 ≤ 1)) = ne := ⟨_, rfl⟩
  rw [hne] at HNE
  by_cases hz : ne = 0
  · have HE := Lib.hid (checkN_range hsh hok (hne.trans hz))
    subst hz
    clear hok hne
    obtain ⟨w1, hw1, hX⟩ := boxed w #[.int .i64 k, .string nm, .string ⟨#[]⟩, .int .i64 it, .int .i64 0, .slice p len cap] 35
    have HW := Lib.hid hw1
    have HX := Lib.hid hX
    clear hX hw1 hsh
    go_enter Tryz.func52, Tryz.ntmps52
    go_wp2_with fail
    rw [HW.out]
    refine (HSH.out _).mono ?_
    rintro e ws ⟨rfl, hbs⟩
    obtain ⟨c0, c1, c2, c3, c4, c5⟩ := boxed6 HX.out hbs
    have hl1 : w.heap.size < ws.heap.size := by have := HX.out.size; have := hbs.size; omega
    have hbw : Below w.heap.size w ws := HX.out.below.trans (hbs.mono HX.out.below.size)
    clear hbs
    go_wp2_with (first
      | (go_at_call 82; refine (HNE.out _).mono ?_; rintro e wn ⟨rfl, hbn⟩; obtain ⟨hcn, hfn⟩ := bcellE hbn; have hln : w.heap.size < ws.heap.size + 1 := by omega)
      | (go_at_call 83; refine (scheckNumbers_any _ _ _ _ _ _ _).mono ?_; rintro e wm ⟨rfl, hbm⟩))
    go_ret
    exact ⟨ret_intE (a := rangeErr k it 0) HE.out.symm, ((hbw.alloc (by first | omega | (simp; done) | (simp; omega)) _).trans (hbn.mono (by first | omega | (simp; done) | (simp; omega)))).trans (hbm.mono (by have hz1 := hbn.size; simp at hz1; omega))⟩
  · have HE := Lib.hid (checkN_names hsh hok (by rw [hne]; exact hz))
    rw [hne] at HE
    have hz1 : (ne != 0) = true := by simpa using hz
    clear hok hne hz
    obtain ⟨w1, hw1, hX⟩ := boxed w #[.int .i64 k, .string nm, .string ⟨#[]⟩, .int .i64 it, .int .i64 0, .slice p len cap] 35
    have HW := Lib.hid hw1
    have HX := Lib.hid hX
    clear hX hw1 hsh
    go_enter Tryz.func52, Tryz.ntmps52
    go_wp2_with fail
    rw [HW.out]
    refine (HSH.out _).mono ?_
    rintro e ws ⟨rfl, hbs⟩
    obtain ⟨c0, c1, c2, c3, c4, c5⟩ := boxed6 HX.out hbs
    have hl1 : w.heap.size < ws.heap.size := by have := HX.out.size; have := hbs.size; omega
    have hbw : Below w.heap.size w ws := HX.out.below.trans (hbs.mono HX.out.below.size)
    clear hbs
    go_wp2_with (first
      | (go_at_call 82; refine (HNE.out _).mono ?_; rintro e wn ⟨rfl, hbn⟩; obtain ⟨hcn, hfn⟩ := bcellE hbn; have hln : w.heap.size < ws.heap.size + 1 := by omega))
    go_ret
    exact ⟨ret_intE (a := ne) HE.out.symm, (hbw.alloc (by first | omega | (simp; done) | (simp; omega)) _).trans (hbn.mono (by first | omega | (simp; done) | (simp; omega)))⟩
set_option maxHeartbeats 4000000 in
theorem scheckNode_00 (k : Int) (ns : Nat) (nm mr : ByteArray) (it d : Int) (p : Option Addr) (len cap : Nat) (w : World) (hsh : shapeK k = some (0, 0, ns)) :
    Calls Tryz.prog 52 #[.agg #[.int .i64 k, .string nm, .string mr, .int .i64 it, .int .i64 d, .slice p len cap]] w fun e w' => e = .returned (.int .i64 (checkN k nm mr it d len)) ∧ Below w.heap.size w w' := by
  have HSH := Lib.hid (fun W => sshapeOf_yes k 0 0 ns W hsh)
  by_cases hz : nm.size = 0
  rotate_left
  · have HE := Lib.hid (checkN_arg (nm := nm) (mr := mr) (it := it) (d := d) (len := len) hsh (by simp [argOk, hz]))
    have hz1 := toList_ne' hz
    clear hz
    obtain ⟨w1, hw1, hX⟩ := boxed w #[.int .i64 k, .string nm, .string mr, .int .i64 it, .int .i64 d, .slice p len cap] 35
    have HW := Lib.hid hw1
    have HX := Lib.hid hX
    clear hX hw1 hsh
    go_enter Tryz.func52, Tryz.ntmps52
    go_wp2_with fail
    rw [HW.out]
    refine (HSH.out _).mono ?_
    rintro e ws ⟨rfl, hbs⟩
    obtain ⟨c0, c1, c2, c3, c4, c5⟩ := boxed6 HX.out hbs
    have hl1 : w.heap.size < ws.heap.size := by have := HX.out.size; have := hbs.size; omega
    have hbw : Below w.heap.size w ws := HX.out.below.trans (hbs.mono HX.out.below.size)
    clear hbs
    go_wp2_with fail
    go_ret
    exact ⟨ret_intE (a := 1) HE.out.symm, hbw.alloc (by first | omega | (simp; done) | (simp; omega)) _⟩
  obtain rfl := size_zero hz
  clear hz
  by_cases hz : mr.size = 0
  rotate_left
  · have HE := Lib.hid (checkN_arg (nm := ⟨#[]⟩) (mr := mr) (it := it) (d := d) (len := len) hsh (by simp [argOk, hz]))
    have hz1 := toList_ne' hz
    clear hz
    obtain ⟨w1, hw1, hX⟩ := boxed w #[.int .i64 k, .string ⟨#[]⟩, .string mr, .int .i64 it, .int .i64 d, .slice p len cap] 35
    have HW := Lib.hid hw1
    have HX := Lib.hid hX
    clear hX hw1 hsh
    go_enter Tryz.func52, Tryz.ntmps52
    go_wp2_with fail
    rw [HW.out]
    refine (HSH.out _).mono ?_
    rintro e ws ⟨rfl, hbs⟩
    obtain ⟨c0, c1, c2, c3, c4, c5⟩ := boxed6 HX.out hbs
    have hl1 : w.heap.size < ws.heap.size := by have := HX.out.size; have := hbs.size; omega
    have hbw : Below w.heap.size w ws := HX.out.below.trans (hbs.mono HX.out.below.size)
    clear hbs
    go_wp2_with fail
    go_ret
    exact ⟨ret_intE (a := 1) HE.out.symm, hbw.alloc (by first | omega | (simp; done) | (simp; omega)) _⟩
  obtain rfl := size_zero hz
  clear hz
  by_cases hz : it = 0
  rotate_left
  · have HE := Lib.hid (checkN_arg (nm := ⟨#[]⟩) (mr := ⟨#[]⟩) (it := it) (d := d) (len := len) hsh (by simp [argOk, hz]))
    have hz1 : (it != 0) = true := by simpa using hz
    clear hz
    obtain ⟨w1, hw1, hX⟩ := boxed w #[.int .i64 k, .string ⟨#[]⟩, .string ⟨#[]⟩, .int .i64 it, .int .i64 d, .slice p len cap] 35
    have HW := Lib.hid hw1
    have HX := Lib.hid hX
    clear hX hw1 hsh
    go_enter Tryz.func52, Tryz.ntmps52
    go_wp2_with fail
    rw [HW.out]
    refine (HSH.out _).mono ?_
    rintro e ws ⟨rfl, hbs⟩
    obtain ⟨c0, c1, c2, c3, c4, c5⟩ := boxed6 HX.out hbs
    have hl1 : w.heap.size < ws.heap.size := by have := HX.out.size; have := hbs.size; omega
    have hbw : Below w.heap.size w ws := HX.out.below.trans (hbs.mono HX.out.below.size)
    clear hbs
    go_wp2_with fail
    go_ret
    exact ⟨ret_intE (a := 1) HE.out.symm, hbw.alloc (by first | omega | (simp; done) | (simp; omega)) _⟩
  subst hz
  by_cases hz : d = 0
  rotate_left
  · have HE := Lib.hid (checkN_arg (nm := ⟨#[]⟩) (mr := ⟨#[]⟩) (it := 0) (d := d) (len := len) hsh (by simp [argOk, hz]))
    have hz1 : (d != 0) = true := by simpa using hz
    clear hz
    obtain ⟨w1, hw1, hX⟩ := boxed w #[.int .i64 k, .string ⟨#[]⟩, .string ⟨#[]⟩, .int .i64 0, .int .i64 d, .slice p len cap] 35
    have HW := Lib.hid hw1
    have HX := Lib.hid hX
    clear hX hw1 hsh
    go_enter Tryz.func52, Tryz.ntmps52
    go_wp2_with fail
    rw [HW.out]
    refine (HSH.out _).mono ?_
    rintro e ws ⟨rfl, hbs⟩
    obtain ⟨c0, c1, c2, c3, c4, c5⟩ := boxed6 HX.out hbs
    have hl1 : w.heap.size < ws.heap.size := by have := HX.out.size; have := hbs.size; omega
    have hbw : Below w.heap.size w ws := HX.out.below.trans (hbs.mono HX.out.below.size)
    clear hbs
    go_wp2_with fail
    go_ret
    exact ⟨ret_intE (a := 1) HE.out.symm, hbw.alloc (by first | omega | (simp; done) | (simp; omega)) _⟩
  subst hz
  by_cases hz : len = ns
  rotate_left
  · have HE := Lib.hid (checkN_arg (nm := ⟨#[]⟩) (mr := ⟨#[]⟩) (it := 0) (d := 0) (len := len) hsh (by simp [argOk, hz]))
    have hz1 : ((len : Int) != (ns : Int)) = true := by simp; omega
    have hz2 : (len != ns) = true := by simpa using hz
    clear hz
    obtain ⟨w1, hw1, hX⟩ := boxed w #[.int .i64 k, .string ⟨#[]⟩, .string ⟨#[]⟩, .int .i64 0, .int .i64 0, .slice p len cap] 35
    have HW := Lib.hid hw1
    have HX := Lib.hid hX
    clear hX hw1 hsh
    go_enter Tryz.func52, Tryz.ntmps52
    go_wp2_with fail
    rw [HW.out]
    refine (HSH.out _).mono ?_
    rintro e ws ⟨rfl, hbs⟩
    obtain ⟨c0, c1, c2, c3, c4, c5⟩ := boxed6 HX.out hbs
    have hl1 : w.heap.size < ws.heap.size := by have := HX.out.size; have := hbs.size; omega
    have hbw : Below w.heap.size w ws := HX.out.below.trans (hbs.mono HX.out.below.size)
    clear hbs
    go_wp2_with fail
    go_ret
    exact ⟨ret_intE (a := 1) HE.out.symm, hbw.alloc (by first | omega | (simp; done) | (simp; omega)) _⟩
  subst hz
  have HNE := Lib.hid (fun W => scheckNames_any k 0 0 len ⟨#[]⟩ ⟨#[]⟩ 0 0 (.slice p len cap) W hsh)
  have hok : argOk 0 0 len ⟨#[]⟩ ⟨#[]⟩ 0 0 len = true := by simp [argOk] <;> rfl
  obtain ⟨ne, hne⟩ : ∃ ne, namesErr k ⟨#[]⟩ ⟨#[]⟩ (decide (1 ≤ 0)) (decide (2 ≤ 0)) = ne := ⟨_, rfl⟩
  rw [hne] at HNE
  by_cases hz : ne = 0
  · have HE := Lib.hid (checkN_range hsh hok (hne.trans hz))
    subst hz
    clear hok hne
    obtain ⟨w1, hw1, hX⟩ := boxed w #[.int .i64 k, .string ⟨#[]⟩, .string ⟨#[]⟩, .int .i64 0, .int .i64 0, .slice p len cap] 35
    have HW := Lib.hid hw1
    have HX := Lib.hid hX
    clear hX hw1 hsh
    go_enter Tryz.func52, Tryz.ntmps52
    go_wp2_with fail
    rw [HW.out]
    refine (HSH.out _).mono ?_
    rintro e ws ⟨rfl, hbs⟩
    obtain ⟨c0, c1, c2, c3, c4, c5⟩ := boxed6 HX.out hbs
    have hl1 : w.heap.size < ws.heap.size := by have := HX.out.size; have := hbs.size; omega
    have hbw : Below w.heap.size w ws := HX.out.below.trans (hbs.mono HX.out.below.size)
    clear hbs
    go_wp2_with (first
      | (go_at_call 82; refine (HNE.out _).mono ?_; rintro e wn ⟨rfl, hbn⟩; obtain ⟨hcn, hfn⟩ := bcellE hbn; have hln : w.heap.size < ws.heap.size + 1 := by omega)
      | (go_at_call 83; refine (scheckNumbers_any _ _ _ _ _ _ _).mono ?_; rintro e wm ⟨rfl, hbm⟩))
    go_ret
    exact ⟨ret_intE (a := rangeErr k 0 0) HE.out.symm, ((hbw.alloc (by first | omega | (simp; done) | (simp; omega)) _).trans (hbn.mono (by first | omega | (simp; done) | (simp; omega)))).trans (hbm.mono (by have hz1 := hbn.size; simp at hz1; omega))⟩
  · have HE := Lib.hid (checkN_names hsh hok (by rw [hne]; exact hz))
    rw [hne] at HE
    have hz1 : (ne != 0) = true := by simpa using hz
    clear hok hne hz
    obtain ⟨w1, hw1, hX⟩ := boxed w #[.int .i64 k, .string ⟨#[]⟩, .string ⟨#[]⟩, .int .i64 0, .int .i64 0, .slice p len cap] 35
    have HW := Lib.hid hw1
    have HX := Lib.hid hX
    clear hX hw1 hsh
    go_enter Tryz.func52, Tryz.ntmps52
    go_wp2_with fail
    rw [HW.out]
    refine (HSH.out _).mono ?_
    rintro e ws ⟨rfl, hbs⟩
    obtain ⟨c0, c1, c2, c3, c4, c5⟩ := boxed6 HX.out hbs
    have hl1 : w.heap.size < ws.heap.size := by have := HX.out.size; have := hbs.size; omega
    have hbw : Below w.heap.size w ws := HX.out.below.trans (hbs.mono HX.out.below.size)
    clear hbs
    go_wp2_with (first
      | (go_at_call 82; refine (HNE.out _).mono ?_; rintro e wn ⟨rfl, hbn⟩; obtain ⟨hcn, hfn⟩ := bcellE hbn; have hln : w.heap.size < ws.heap.size + 1 := by omega))
    go_ret
    exact ⟨ret_intE (a := ne) HE.out.symm, (hbw.alloc (by first | omega | (simp; done) | (simp; omega)) _).trans (hbn.mono (by first | omega | (simp; done) | (simp; omega)))⟩
set_option maxHeartbeats 4000000 in
theorem scheckNode_02 (k : Int) (ns : Nat) (nm mr : ByteArray) (it d : Int) (p : Option Addr) (len cap : Nat) (w : World) (hsh : shapeK k = some (0, 2, ns)) :
    Calls Tryz.prog 52 #[.agg #[.int .i64 k, .string nm, .string mr, .int .i64 it, .int .i64 d, .slice p len cap]] w fun e w' => e = .returned (.int .i64 (checkN k nm mr it d len)) ∧ Below w.heap.size w w' := by
  have HSH := Lib.hid (fun W => sshapeOf_yes k 0 2 ns W hsh)
  by_cases hz : nm.size = 0
  rotate_left
  · have HE := Lib.hid (checkN_arg (nm := nm) (mr := mr) (it := it) (d := d) (len := len) hsh (by simp [argOk, hz]))
    have hz1 := toList_ne' hz
    clear hz
    obtain ⟨w1, hw1, hX⟩ := boxed w #[.int .i64 k, .string nm, .string mr, .int .i64 it, .int .i64 d, .slice p len cap] 35
    have HW := Lib.hid hw1
    have HX := Lib.hid hX
    clear hX hw1 hsh
    go_enter Tryz.func52, Tryz.ntmps52
    go_wp2_with fail
    rw [HW.out]
    refine (HSH.out _).mono ?_
    rintro e ws ⟨rfl, hbs⟩
    obtain ⟨c0, c1, c2, c3, c4, c5⟩ := boxed6 HX.out hbs
    have hl1 : w.heap.size < ws.heap.size := by have := HX.out.size; have := hbs.size; omega
    have hbw : Below w.heap.size w ws := HX.out.below.trans (hbs.mono HX.out.below.size)
    clear hbs
    go_wp2_with fail
    go_ret
    exact ⟨ret_intE (a := 1) HE.out.symm, hbw.alloc (by first | omega | (simp; done) | (simp; omega)) _⟩
  obtain rfl := size_zero hz
  clear hz
  by_cases hz : mr.size = 0
  rotate_left
  · have HE := Lib.hid (checkN_arg (nm := ⟨#[]⟩) (mr := mr) (it := it) (d := d) (len := len) hsh (by simp [argOk, hz]))
    have hz1 := toList_ne' hz
    clear hz
    obtain ⟨w1, hw1, hX⟩ := boxed w #[.int .i64 k, .string ⟨#[]⟩, .string mr, .int .i64 it, .int .i64 d, .slice p len cap] 35
    have HW := Lib.hid hw1
    have HX := Lib.hid hX
    clear hX hw1 hsh
    go_enter Tryz.func52, Tryz.ntmps52
    go_wp2_with fail
    rw [HW.out]
    refine (HSH.out _).mono ?_
    rintro e ws ⟨rfl, hbs⟩
    obtain ⟨c0, c1, c2, c3, c4, c5⟩ := boxed6 HX.out hbs
    have hl1 : w.heap.size < ws.heap.size := by have := HX.out.size; have := hbs.size; omega
    have hbw : Below w.heap.size w ws := HX.out.below.trans (hbs.mono HX.out.below.size)
    clear hbs
    go_wp2_with fail
    go_ret
    exact ⟨ret_intE (a := 1) HE.out.symm, hbw.alloc (by first | omega | (simp; done) | (simp; omega)) _⟩
  obtain rfl := size_zero hz
  clear hz
  by_cases hz : len = ns
  rotate_left
  · have HE := Lib.hid (checkN_arg (nm := ⟨#[]⟩) (mr := ⟨#[]⟩) (it := it) (d := d) (len := len) hsh (by simp [argOk, hz]))
    have hz1 : ((len : Int) != (ns : Int)) = true := by simp; omega
    have hz2 : (len != ns) = true := by simpa using hz
    clear hz
    obtain ⟨w1, hw1, hX⟩ := boxed w #[.int .i64 k, .string ⟨#[]⟩, .string ⟨#[]⟩, .int .i64 it, .int .i64 d, .slice p len cap] 35
    have HW := Lib.hid hw1
    have HX := Lib.hid hX
    clear hX hw1 hsh
    go_enter Tryz.func52, Tryz.ntmps52
    go_wp2_with fail
    rw [HW.out]
    refine (HSH.out _).mono ?_
    rintro e ws ⟨rfl, hbs⟩
    obtain ⟨c0, c1, c2, c3, c4, c5⟩ := boxed6 HX.out hbs
    have hl1 : w.heap.size < ws.heap.size := by have := HX.out.size; have := hbs.size; omega
    have hbw : Below w.heap.size w ws := HX.out.below.trans (hbs.mono HX.out.below.size)
    clear hbs
    go_wp2_with fail
    go_ret
    exact ⟨ret_intE (a := 1) HE.out.symm, hbw.alloc (by first | omega | (simp; done) | (simp; omega)) _⟩
  subst hz
  have HNE := Lib.hid (fun W => scheckNames_any k 0 2 len ⟨#[]⟩ ⟨#[]⟩ it d (.slice p len cap) W hsh)
  have hok : argOk 0 2 len ⟨#[]⟩ ⟨#[]⟩ it d len = true := by simp [argOk] <;> rfl
  obtain ⟨ne, hne⟩ : ∃ ne, namesErr k ⟨#[]⟩ ⟨#[]⟩ (decide (1 ≤ 0)) (decide (2 ≤ 0)) = ne := ⟨_, rfl⟩
  rw [hne] at HNE
  by_cases hz : ne = 0
  · have HE := Lib.hid (checkN_range hsh hok (hne.trans hz))
    subst hz
    clear hok hne
    obtain ⟨w1, hw1, hX⟩ := boxed w #[.int .i64 k, .string ⟨#[]⟩, .string ⟨#[]⟩, .int .i64 it, .int .i64 d, .slice p len cap] 35
    have HW := Lib.hid hw1
    have HX := Lib.hid hX
    clear hX hw1 hsh
    go_enter Tryz.func52, Tryz.ntmps52
    go_wp2_with fail
    rw [HW.out]
    refine (HSH.out _).mono ?_
    rintro e ws ⟨rfl, hbs⟩
    obtain ⟨c0, c1, c2, c3, c4, c5⟩ := boxed6 HX.out hbs
    have hl1 : w.heap.size < ws.heap.size := by have := HX.out.size; have := hbs.size; omega
    have hbw : Below w.heap.size w ws := HX.out.below.trans (hbs.mono HX.out.below.size)
    clear hbs
    go_wp2_with (first
      | (go_at_call 82; refine (HNE.out _).mono ?_; rintro e wn ⟨rfl, hbn⟩; obtain ⟨hcn, hfn⟩ := bcellE hbn; have hln : w.heap.size < ws.heap.size + 1 := by omega)
      | (go_at_call 83; refine (scheckNumbers_any _ _ _ _ _ _ _).mono ?_; rintro e wm ⟨rfl, hbm⟩))
    go_ret
    exact ⟨ret_intE (a := rangeErr k it d) HE.out.symm, ((hbw.alloc (by first | omega | (simp; done) | (simp; omega)) _).trans (hbn.mono (by first | omega | (simp; done) | (simp; omega)))).trans (hbm.mono (by have hz1 := hbn.size; simp at hz1; omega))⟩
  · have HE := Lib.hid (checkN_names hsh hok (by rw [hne]; exact hz))
    rw [hne] at HE
    have hz1 : (ne != 0) = true := by simpa using hz
    clear hok hne hz
    obtain ⟨w1, hw1, hX⟩ := boxed w #[.int .i64 k, .string ⟨#[]⟩, .string ⟨#[]⟩, .int .i64 it, .int .i64 d, .slice p len cap] 35
    have HW := Lib.hid hw1
    have HX := Lib.hid hX
    clear hX hw1 hsh
    go_enter Tryz.func52, Tryz.ntmps52
    go_wp2_with fail
    rw [HW.out]
    refine (HSH.out _).mono ?_
    rintro e ws ⟨rfl, hbs⟩
    obtain ⟨c0, c1, c2, c3, c4, c5⟩ := boxed6 HX.out hbs
    have hl1 : w.heap.size < ws.heap.size := by have := HX.out.size; have := hbs.size; omega
    have hbw : Below w.heap.size w ws := HX.out.below.trans (hbs.mono HX.out.below.size)
    clear hbs
    go_wp2_with (first
      | (go_at_call 82; refine (HNE.out _).mono ?_; rintro e wn ⟨rfl, hbn⟩; obtain ⟨hcn, hfn⟩ := bcellE hbn; have hln : w.heap.size < ws.heap.size + 1 := by omega))
    go_ret
    exact ⟨ret_intE (a := ne) HE.out.symm, (hbw.alloc (by first | omega | (simp; done) | (simp; omega)) _).trans (hbn.mono (by first | omega | (simp; done) | (simp; omega)))⟩
theorem scheckNode_any (k : Int) (nm mr : ByteArray) (it d : Int) (p : Option Addr) (len cap : Nat) (w : World) :
    Calls Tryz.prog 52 #[.agg #[.int .i64 k, .string nm, .string mr, .int .i64 it, .int .i64 d, .slice p len cap]] w fun e w' => e = .returned (.int .i64 (checkN k nm mr it d len)) ∧ Below w.heap.size w w' := by
  rcases h : shapeK k with _ | ⟨nn, nu, ns⟩
  · exact scheckNode_no k nm mr it d p len cap w h
  · rcases shape_flags h with ⟨rfl, rfl⟩ | ⟨rfl, rfl⟩ | ⟨rfl, rfl⟩ | ⟨rfl, rfl⟩ | ⟨rfl, rfl⟩ | ⟨rfl, rfl⟩
    · exact scheckNode_01 k ns nm mr it d p len cap w h
    · exact scheckNode_10 k ns nm mr it d p len cap w h
    · exact scheckNode_20 k ns nm mr it d p len cap w h
    · exact scheckNode_11 k ns nm mr it d p len cap w h
    · exact scheckNode_00 k ns nm mr it d p len cap w h
    · exact scheckNode_02 k ns nm mr it d p len cap w h
end Go.Proofs.YtnphcjpccieljaaGreatDoor
