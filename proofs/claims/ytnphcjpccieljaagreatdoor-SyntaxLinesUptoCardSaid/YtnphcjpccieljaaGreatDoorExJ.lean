/- check and CheckExpr of the reference of layer 21. -/
import Derived.Test.YtnphcjpccieljaaGreatDoorExI
namespace Go.Proofs.YtnphcjpccieljaaGreatDoor
open Go.RowKit

mutual
def checkE : Ex → Int
  | .mk k n m i d s => if checkN k n m i d s.length = 0 then checkEs s else checkN k n m i d s.length
def checkEs : List Ex → Int
  | [] => 0
  | e :: es => if checkE e = 0 then checkEs es else checkE e
end
theorem checkE_bad {k : Int} {nm mr : ByteArray} {it d c : Int} {sub : List Ex} (h : checkN k nm mr it d sub.length = c) (hc : ¬ c = 0) : checkE (.mk k nm mr it d sub) = c := by rw [checkE, h, if_neg hc]
theorem checkE_good {k : Int} {nm mr : ByteArray} {it d : Int} {sub : List Ex} (h : checkN k nm mr it d sub.length = 0) : checkE (.mk k nm mr it d sub) = checkEs sub := by rw [checkE, if_pos h]
theorem checkEs_append : ∀ a b : List Ex, checkEs (a ++ b) = if checkEs a = 0 then checkEs b else checkEs a
  | [], b => by simp [checkEs]
  | e :: es, b => by
    simp only [checkEs, List.cons_append, checkEs_append es b]
    by_cases h : checkE e = 0 <;> simp [h]
theorem checkEs_take_succ (l : List Ex) (j : Nat) (h : j < l.length) (h0 : checkEs (l.take j) = 0) : checkEs (l.take (j + 1)) = checkE l[j] := by
  rw [List.take_succ_eq_append_getElem h, checkEs_append, if_pos h0]
  simp only [checkEs]; split <;> simp_all
theorem checkEs_bad {l : List Ex} {j : Nat} (h : j < l.length) (h0 : checkEs (l.take j) = 0) (he : ¬ checkE l[j] = 0) : checkEs l = checkE l[j] := by
  have h1 := checkEs_append (l.take (j + 1)) (l.drop (j + 1))
  rw [List.take_append_drop, checkEs_take_succ l j h h0, if_neg he] at h1
  exact h1
theorem not13 {k : Int} {nn nu ns : Nat} (h : shapeK k = some (nn, nu, ns)) (hn : ¬ nn = 2) : (k == 13) = false := by
  rcases shapeK_cases h with ⟨e, h2⟩ | ⟨e, h2⟩ | ⟨e, h2⟩ | ⟨e, h2⟩ | ⟨e, h2⟩ | ⟨e, h2⟩ | ⟨e, h2⟩ | ⟨e, h2⟩ | ⟨e, h2⟩ | ⟨e, h2⟩ | ⟨e, h2⟩ | ⟨e, h2⟩ | ⟨e, h2⟩ | ⟨e, h2⟩ | ⟨e, h2⟩ <;> subst e <;> first | decide | (cases h2; exact absurd rfl hn)
theorem names6 {k : Int} {nm mr : ByteArray} {b0 b1 : Bool} (h : namedB k nm mr b0 b1 = false) : namesErr k nm mr b0 b1 = 6 := by simp [namesErr, h]
theorem names7 {nm : ByteArray} {b0 b1 : Bool} (h : namedB 13 nm nm b0 b1 = true) : namesErr 13 nm nm b0 b1 = 7 := by simp [namesErr, h]
theorem names0 {k : Int} {nm mr : ByteArray} {b0 b1 : Bool} (h : namedB k nm mr b0 b1 = true) (hn : ¬ (k = 13 ∧ nm = mr)) : namesErr k nm mr b0 b1 = 0 := by simp [namesErr, h]; exact fun a b => absurd ⟨a, b⟩ hn
def CheckRel (w0 : World) (sub : List Ex) (i : Value) (wr : World) : Prop := ∃ j : Nat, j ≤ sub.length ∧ i = .int .i64 j ∧ checkEs (sub.take j) = 0 ∧ Below w0.heap.size w0 wr
set_option maxHeartbeats 4000000 in
theorem rcheck_no (k : Int) (nm mr : ByteArray) (it d : Int) (sub : List Ex) (sv : Value) (w : World) (hs : SubAt w w.heap.size sub sv) (hsh : shapeK k = none) :
    Calls Tryz.prog 63 #[.agg #[.int .i64 k, .string nm, .string mr, .int .i64 it, .int .i64 d, sv]] w fun e w' => e = .returned (.int .i64 (checkE (.mk k nm mr it d sub))) ∧ Below w.heap.size w w' := by
  obtain ⟨p, cap, rfl, hcap, _⟩ := subAt_open hs
  have HS := Lib.hid hs
  clear hs
  have HSH := Lib.hid (fun W => rshapeOf_no k W hsh)
  have HE := Lib.hid (checkE_bad (nm := nm) (mr := mr) (it := it) (d := d) (sub := sub) (checkN_none hsh) (by decide))
  obtain ⟨w1, hw1, hX⟩ := boxed w #[.int .i64 k, .string nm, .string mr, .int .i64 it, .int .i64 d, .slice p sub.length cap] 35
  have HW := Lib.hid hw1
  have HX := Lib.hid hX
  clear hX hw1 hsh
  go_enter Tryz.func63, Tryz.ntmps63
  go_wp2_with fail
  rw [HW.out]
  refine (HSH.out _).mono ?_
  rintro e ws ⟨rfl, hbs⟩
  obtain ⟨c0, c1, c2, c3, c4, c5⟩ := boxed6 HX.out hbs
  have hl1 : w.heap.size < ws.heap.size := by have := HX.out.size; have := hbs.size; omega
  have hbw : Below w.heap.size w ws := HX.out.below.trans (hbs.mono HX.out.below.size)
  clear hbs
  go_wp2_with fail
  go_ret
  exact ⟨ret_intE (a := 9) HE.out.symm, hbw.alloc (by first | omega | (simp; done) | (simp; omega)) _⟩
set_option maxRecDepth 100000 in
set_option maxHeartbeats 8000000 in
theorem rcheck_01 (N : Nat) (ih : ∀ (k : Int) (nm mr : ByteArray) (it d : Int) (sub : List Ex) (sv : Value) (w : World), nodesL sub < N → SubAt w w.heap.size sub sv → Calls Tryz.prog 63 #[.agg #[.int .i64 k, .string nm, .string mr, .int .i64 it, .int .i64 d, sv]] w fun e w' => e = .returned (.int .i64 (checkE (.mk k nm mr it d sub))) ∧ Below w.heap.size w w')
    (k : Int) (ns : Nat) (nm mr : ByteArray) (it d : Int) (sub : List Ex) (sv : Value) (w : World) (hN : nodesL sub < N + 1) (hm : nodesL sub ≤ 1099511627776) (hs : SubAt w w.heap.size sub sv) (hsh : shapeK k = some (0, 1, ns)) :
    Calls Tryz.prog 63 #[.agg #[.int .i64 k, .string nm, .string mr, .int .i64 it, .int .i64 d, sv]] w fun e w' => e = .returned (.int .i64 (checkE (.mk k nm mr it d sub))) ∧ Below w.heap.size w w' := by
  obtain ⟨p, cap, rfl, hcap, _⟩ := subAt_open hs
  have HS := Lib.hid hs
  clear hs
  have hl := length_le_nodesL sub
  have HSH : Hid (∀ W : World, Calls Tryz.prog 98 #[.int .i64 k] W fun e w' => e = .returned (.tuple #[.agg #[.bool false, .bool false, .bool true, .bool false, .int .i64 ns], .bool true]) ∧ Below W.heap.size W w') := Lib.hid (fun W => rshapeOf_yes k 0 1 ns W hsh)
  have HIH := Lib.hid ih
  clear ih
  by_cases hz : nm.size = 0
  rotate_left
  · have HE := Lib.hid (checkE_bad (sub := sub) (checkN_arg (nm := nm) (mr := mr) (it := it) (d := d) hsh (by simp [argOk, hz])) (by decide))
    have hz1 := toList_ne' hz
    clear hz
    obtain ⟨w1, hw1, hX⟩ := boxed w #[.int .i64 k, .string nm, .string mr, .int .i64 it, .int .i64 d, .slice p sub.length cap] 35
    have HW := Lib.hid hw1
    have HX := Lib.hid hX
    clear hX hw1 hsh
    go_enter Tryz.func63, Tryz.ntmps63
    go_wp2_with fail
    rw [HW.out]
    refine (HSH.out _).mono ?_
    rintro e ws ⟨rfl, hbs⟩
    obtain ⟨c0, c1, c2, c3, c4, c5⟩ := boxed6 HX.out hbs
    have hl1 : w.heap.size < ws.heap.size := by have := HX.out.size; have := hbs.size; omega
    have hbw : Below w.heap.size w ws := HX.out.below.trans (hbs.mono HX.out.below.size)
    clear hbs
    go_wp2_with fail
    go_ret
    exact ⟨ret_intE (a := 1) HE.out.symm, hbw.alloc (by first | omega | (simp; done) | (simp; omega)) _⟩
  obtain rfl := size_zero hz
  clear hz
  by_cases hz : mr.size = 0
  rotate_left
  · have HE := Lib.hid (checkE_bad (sub := sub) (checkN_arg (nm := ⟨#[]⟩) (mr := mr) (it := it) (d := d) hsh (by simp [argOk, hz])) (by decide))
    have hz1 := toList_ne' hz
    clear hz
    obtain ⟨w1, hw1, hX⟩ := boxed w #[.int .i64 k, .string ⟨#[]⟩, .string mr, .int .i64 it, .int .i64 d, .slice p sub.length cap] 35
    have HW := Lib.hid hw1
    have HX := Lib.hid hX
    clear hX hw1 hsh
    go_enter Tryz.func63, Tryz.ntmps63
    go_wp2_with fail
    rw [HW.out]
    refine (HSH.out _).mono ?_
    rintro e ws ⟨rfl, hbs⟩
    obtain ⟨c0, c1, c2, c3, c4, c5⟩ := boxed6 HX.out hbs
    have hl1 : w.heap.size < ws.heap.size := by have := HX.out.size; have := hbs.size; omega
    have hbw : Below w.heap.size w ws := HX.out.below.trans (hbs.mono HX.out.below.size)
    clear hbs
    go_wp2_with fail
    go_ret
    exact ⟨ret_intE (a := 1) HE.out.symm, hbw.alloc (by first | omega | (simp; done) | (simp; omega)) _⟩
  obtain rfl := size_zero hz
  clear hz
  by_cases hz : d = 0
  rotate_left
  · have HE := Lib.hid (checkE_bad (sub := sub) (checkN_arg (nm := ⟨#[]⟩) (mr := ⟨#[]⟩) (it := it) (d := d) hsh (by simp [argOk, hz])) (by decide))
    have hz1 : (d != 0) = true := by simpa using hz
    clear hz
    obtain ⟨w1, hw1, hX⟩ := boxed w #[.int .i64 k, .string ⟨#[]⟩, .string ⟨#[]⟩, .int .i64 it, .int .i64 d, .slice p sub.length cap] 35
    have HW := Lib.hid hw1
    have HX := Lib.hid hX
    clear hX hw1 hsh
    go_enter Tryz.func63, Tryz.ntmps63
    go_wp2_with fail
    rw [HW.out]
    refine (HSH.out _).mono ?_
    rintro e ws ⟨rfl, hbs⟩
    obtain ⟨c0, c1, c2, c3, c4, c5⟩ := boxed6 HX.out hbs
    have hl1 : w.heap.size < ws.heap.size := by have := HX.out.size; have := hbs.size; omega
    have hbw : Below w.heap.size w ws := HX.out.below.trans (hbs.mono HX.out.below.size)
    clear hbs
    go_wp2_with fail
    go_ret
    exact ⟨ret_intE (a := 1) HE.out.symm, hbw.alloc (by first | omega | (simp; done) | (simp; omega)) _⟩
  subst hz
  by_cases hz : sub.length = ns
  rotate_left
  · have HE := Lib.hid (checkE_bad (sub := sub) (checkN_arg (nm := ⟨#[]⟩) (mr := ⟨#[]⟩) (it := it) (d := 0) hsh (by simp [argOk, hz])) (by decide))
    have hz1 : ((sub.length : Int) != (ns : Int)) = true := by simp; omega
    have hz2 : (sub.length != ns) = true := by simpa using hz
    clear hz
    obtain ⟨w1, hw1, hX⟩ := boxed w #[.int .i64 k, .string ⟨#[]⟩, .string ⟨#[]⟩, .int .i64 it, .int .i64 0, .slice p sub.length cap] 35
    have HW := Lib.hid hw1
    have HX := Lib.hid hX
    clear hX hw1 hsh
    go_enter Tryz.func63, Tryz.ntmps63
    go_wp2_with fail
    rw [HW.out]
    refine (HSH.out _).mono ?_
    rintro e ws ⟨rfl, hbs⟩
    obtain ⟨c0, c1, c2, c3, c4, c5⟩ := boxed6 HX.out hbs
    have hl1 : w.heap.size < ws.heap.size := by have := HX.out.size; have := hbs.size; omega
    have hbw : Below w.heap.size w ws := HX.out.below.trans (hbs.mono HX.out.below.size)
    clear hbs
    go_wp2_with fail
    go_ret
    exact ⟨ret_intE (a := 1) HE.out.symm, hbw.alloc (by first | omega | (simp; done) | (simp; omega)) _⟩
  subst hz
  have hok : argOk 0 1 sub.length ⟨#[]⟩ ⟨#[]⟩ it 0 sub.length = true := by simp [argOk] <;> rfl
  cases hz : namedB k ⟨#[]⟩ ⟨#[]⟩ false false
  · have HE := Lib.hid (checkE_bad (sub := sub) ((checkN_names hsh hok (by rw [show namesErr k ⟨#[]⟩ ⟨#[]⟩ (decide (1 ≤ 0)) (decide (2 ≤ 0)) = 6 from names6 hz]; decide)).trans (names6 hz)) (by decide))
    have HNB : Hid (∀ W : World, Calls Tryz.prog 99 #[.agg #[.int .i64 k, .string ⟨#[]⟩, .string ⟨#[]⟩, .int .i64 it, .int .i64 0, .slice p sub.length cap], .agg #[.bool false, .bool false, .bool true, .bool false, .int .i64 sub.length]] W fun e w' => e = .returned (.bool false) ∧ Below W.heap.size W w') := Lib.hid (fun W => by have := rnamed_any k ⟨#[]⟩ ⟨#[]⟩ it 0 (.slice p sub.length cap) false false true false sub.length W; rw [hz] at this; exact this)
    clear hz hok
    obtain ⟨w1, hw1, hX⟩ := boxed w #[.int .i64 k, .string ⟨#[]⟩, .string ⟨#[]⟩, .int .i64 it, .int .i64 0, .slice p sub.length cap] 35
    have HW := Lib.hid hw1
    have HX := Lib.hid hX
    clear hX hw1 hsh
    go_enter Tryz.func63, Tryz.ntmps63
    go_wp2_with fail
    rw [HW.out]
    refine (HSH.out _).mono ?_
    rintro e ws ⟨rfl, hbs⟩
    obtain ⟨c0, c1, c2, c3, c4, c5⟩ := boxed6 HX.out hbs
    have hl1 : w.heap.size < ws.heap.size := by have := HX.out.size; have := hbs.size; omega
    have hbw : Below w.heap.size w ws := HX.out.below.trans (hbs.mono HX.out.below.size)
    clear hbs
    go_wp2_with (first | (go_at_call 99; refine (HNB.out _).mono ?_; rintro e wn ⟨rfl, hbn⟩; obtain ⟨hcn, hfn⟩ := bcellE hbn; have hln : w.heap.size < ws.heap.size + 1 := (by omega); have hln2 : w.heap.size < wn.heap.size := by (have hzz := hbn.size; simp at hzz; omega)))
    go_ret
    exact ⟨ret_intE (a := 6) HE.out.symm, (hbw.alloc (by first | omega | (simp; done) | (simp; omega)) _).trans (hbn.mono (by first | omega | (simp; done) | (simp; omega)))⟩
  · have hne : namesErr k ⟨#[]⟩ ⟨#[]⟩ (decide (1 ≤ 0)) (decide (2 ≤ 0)) = 0 := names0 hz (fun h => by have := not13 hsh (by decide); simp [h.1] at this)
    have h13 := not13 hsh (by decide)
    have HNB : Hid (∀ W : World, Calls Tryz.prog 99 #[.agg #[.int .i64 k, .string ⟨#[]⟩, .string ⟨#[]⟩, .int .i64 it, .int .i64 0, .slice p sub.length cap], .agg #[.bool false, .bool false, .bool true, .bool false, .int .i64 sub.length]] W fun e w' => e = .returned (.bool true) ∧ Below W.heap.size W w') := Lib.hid (fun W => by have := rnamed_any k ⟨#[]⟩ ⟨#[]⟩ it 0 (.slice p sub.length cap) false false true false sub.length W; rw [hz] at this; exact this)
    clear hz
    have hrv := checkN_range hsh hok hne
    cases hz : rangedB k it 0
    · have HE := Lib.hid (checkE_bad (sub := sub) (hrv.trans (show rangeErr k it 0 = 2 by simp [rangeErr, hz])) (by decide))
      have HRG : Hid (∀ W : World, Calls Tryz.prog 100 #[.agg #[.int .i64 k, .string ⟨#[]⟩, .string ⟨#[]⟩, .int .i64 it, .int .i64 0, .slice p sub.length cap]] W fun e w' => e = .returned (.bool false) ∧ Below W.heap.size W w') := Lib.hid (fun W => by have := rranged_any k ⟨#[]⟩ ⟨#[]⟩ it 0 (.slice p sub.length cap) W; rw [hz] at this; exact this)
      clear hz hok hne hrv
      obtain ⟨w1, hw1, hX⟩ := boxed w #[.int .i64 k, .string ⟨#[]⟩, .string ⟨#[]⟩, .int .i64 it, .int .i64 0, .slice p sub.length cap] 35
      have HW := Lib.hid hw1
      have HX := Lib.hid hX
      clear hX hw1 hsh
      go_enter Tryz.func63, Tryz.ntmps63
      go_wp2_with fail
      rw [HW.out]
      refine (HSH.out _).mono ?_
      rintro e ws ⟨rfl, hbs⟩
      obtain ⟨c0, c1, c2, c3, c4, c5⟩ := boxed6 HX.out hbs
      have hl1 : w.heap.size < ws.heap.size := by have := HX.out.size; have := hbs.size; omega
      have hbw : Below w.heap.size w ws := HX.out.below.trans (hbs.mono HX.out.below.size)
      clear hbs
      go_wp2_with (first | (go_at_call 99; refine (HNB.out _).mono ?_; rintro e wn ⟨rfl, hbn⟩; obtain ⟨hcn, hfn⟩ := bcellE hbn; have hln : w.heap.size < ws.heap.size + 1 := (by omega); have hln2 : w.heap.size < wn.heap.size := by (have hzz := hbn.size; simp at hzz; omega)) | (go_at_call 100; refine (HRG.out _).mono ?_; rintro e wq ⟨rfl, hbq⟩; obtain ⟨hcq, hfq⟩ := bcellE hbq))
      go_ret
      exact ⟨ret_intE (a := 2) HE.out.symm, ((hbw.alloc (by first | omega | (simp; done) | (simp; omega)) _).trans (hbn.mono (by first | omega | (simp; done) | (simp; omega)))).trans (hbq.mono (by have hz1 := hbn.size; simp at hz1; omega))⟩
    · have HE := Lib.hid (checkE_good (sub := sub) (hrv.trans (show rangeErr k it 0 = 0 by simp [rangeErr, hz])))
      have HRG : Hid (∀ W : World, Calls Tryz.prog 100 #[.agg #[.int .i64 k, .string ⟨#[]⟩, .string ⟨#[]⟩, .int .i64 it, .int .i64 0, .slice p sub.length cap]] W fun e w' => e = .returned (.bool true) ∧ Below W.heap.size W w') := Lib.hid (fun W => by have := rranged_any k ⟨#[]⟩ ⟨#[]⟩ it 0 (.slice p sub.length cap) W; rw [hz] at this; exact this)
      clear hz hok hne hrv
      obtain ⟨w1, hw1, hX⟩ := boxed w #[.int .i64 k, .string ⟨#[]⟩, .string ⟨#[]⟩, .int .i64 it, .int .i64 0, .slice p sub.length cap] 35
      have HW := Lib.hid hw1
      have HX := Lib.hid hX
      clear hX hw1 hsh
      go_enter Tryz.func63, Tryz.ntmps63
      go_wp2_with fail
      rw [HW.out]
      refine (HSH.out _).mono ?_
      rintro e ws ⟨rfl, hbs⟩
      obtain ⟨c0, c1, c2, c3, c4, c5⟩ := boxed6 HX.out hbs
      have hl1 : w.heap.size < ws.heap.size := by have := HX.out.size; have := hbs.size; omega
      have hbw : Below w.heap.size w ws := HX.out.below.trans (hbs.mono HX.out.below.size)
      clear hbs
      go_wp2_with (first | (go_at_call 99; refine (HNB.out _).mono ?_; rintro e wn ⟨rfl, hbn⟩; obtain ⟨hcn, hfn⟩ := bcellE hbn; have hln : w.heap.size < ws.heap.size + 1 := (by omega); have hln2 : w.heap.size < wn.heap.size := by (have hzz := hbn.size; simp at hzz; omega)) | (go_at_call 100; refine (HRG.out _).mono ?_; rintro e wq ⟨rfl, hbq⟩; obtain ⟨hcq, hfq⟩ := bcellE hbq))
      have hB0 : Below w.heap.size w wq := ((hbw.alloc (by first | omega | (simp; done) | (simp; omega)) _).trans (hbn.mono (by first | omega | (simp; done) | (simp; omega)))).trans (hbq.mono (by have hz1 := hbn.size; simp at hz1; omega))
      have hc5 : wq.cell? ⟨w.heap.size, 5, none⟩ = some (.slice p sub.length cap) := by
        rw [hcq _ _ hln2, hcn _ _ (by simp; omega)]; go_simp
      have hsz : w.heap.size < wq.heap.size := by have := hbq.size; omega
      have HB0 := Lib.hid hB0
      have HC5 := Lib.hid hc5
      clear hB0 hc5 hcq hfq hcn hfn hbn hbq c0 c1 c2 c3 c4 c5 HRG HNB HSH HX HW
      go_loopw [5] (fun i wr => CheckRel wq sub i wr) (fun i _ => sub.length - (intOf i).toNat)
      case atStart => exact ⟨0, by omega, rfl, by simp [checkEs], Below.refl _ _⟩
      case round =>
        obtain ⟨j, hj, rfl, hP, hBr⟩ := hrel
        have HP := Lib.hid hP
        have hcr := (hBr.cell (p := ⟨w.heap.size, 5, none⟩) hsz).trans HC5.out
        clear hP
        by_cases hlt : j < sub.length
        · have hbw' : Below w.heap.size w wr := HB0.out.trans (hBr.mono (by omega))
          obtain ⟨b, off, cv, rfl, g0, g1, g2, g3, g4, g5, g6⟩ := subAt_at HS.out hbw' j hlt
          have hn1 := nodesL_get sub j hlt
          have hn2 := nodesE_eq sub[j]
          have hC := Lib.hid (HIH.out sub[j].kind sub[j].name sub[j].more sub[j].int sub[j].den sub[j].sub cv wr (by omega) g6)
          rw [Ex.eta] at hC
          clear g6 hn1 hn2
          by_cases hq : checkE sub[j] = 0
          · rw [hq] at hC
            have HT := Lib.hid ((checkEs_take_succ sub j hlt HP.out).trans hq)
            clear hq
            go_wp2_with (go_at_call 63; refine (hC.out).mono ?_; rintro e w' ⟨rfl, hb1⟩)
            go_roundw
            case rel => exact ⟨j + 1, by omega, by go_num, HT.out, hBr.trans (hb1.mono hBr.size)⟩
            case measure => simp [intOf]; omega
          · have HT := Lib.hid (checkEs_bad hlt HP.out hq)
            have hq1 : (checkE sub[j] != 0) = true := by simpa using hq
            clear hq
            generalize checkE sub[j] = C at *
            go_wp2_with (go_at_call 63; refine (hC.out).mono ?_; rintro e w' ⟨rfl, hb1⟩)
            go_ret
            exact ⟨ret_intE (a := C) (by rw [HE.out, HT.out]), HB0.out.trans ((hBr.mono (by omega)).trans (hb1.mono (by have := hBr.size; omega)))⟩
        · obtain rfl : j = sub.length := by omega
          go_wp2_with fail
          go_ret
          exact ⟨ret_intE (a := 0) (by have := HP.out; rw [List.take_length] at this; rw [HE.out, this]), HB0.out.trans (hBr.mono (by omega))⟩
set_option maxRecDepth 100000 in
set_option maxHeartbeats 8000000 in
theorem rcheck_10 (N : Nat) (ih : ∀ (k : Int) (nm mr : ByteArray) (it d : Int) (sub : List Ex) (sv : Value) (w : World), nodesL sub < N → SubAt w w.heap.size sub sv → Calls Tryz.prog 63 #[.agg #[.int .i64 k, .string nm, .string mr, .int .i64 it, .int .i64 d, sv]] w fun e w' => e = .returned (.int .i64 (checkE (.mk k nm mr it d sub))) ∧ Below w.heap.size w w')
    (k : Int) (ns : Nat) (nm mr : ByteArray) (it d : Int) (sub : List Ex) (sv : Value) (w : World) (hN : nodesL sub < N + 1) (hm : nodesL sub ≤ 1099511627776) (hs : SubAt w w.heap.size sub sv) (hsh : shapeK k = some (1, 0, ns)) :
    Calls Tryz.prog 63 #[.agg #[.int .i64 k, .string nm, .string mr, .int .i64 it, .int .i64 d, sv]] w fun e w' => e = .returned (.int .i64 (checkE (.mk k nm mr it d sub))) ∧ Below w.heap.size w w' := by
  obtain ⟨p, cap, rfl, hcap, _⟩ := subAt_open hs
  have HS := Lib.hid hs
  clear hs
  have hl := length_le_nodesL sub
  have HSH : Hid (∀ W : World, Calls Tryz.prog 98 #[.int .i64 k] W fun e w' => e = .returned (.tuple #[.agg #[.bool true, .bool false, .bool false, .bool false, .int .i64 ns], .bool true]) ∧ Below W.heap.size W w') := Lib.hid (fun W => rshapeOf_yes k 1 0 ns W hsh)
  have HIH := Lib.hid ih
  clear ih
  by_cases hz : mr.size = 0
  rotate_left
  · have HE := Lib.hid (checkE_bad (sub := sub) (checkN_arg (nm := nm) (mr := mr) (it := it) (d := d) hsh (by simp [argOk, hz])) (by decide))
    have hz1 := toList_ne' hz
    clear hz
    obtain ⟨w1, hw1, hX⟩ := boxed w #[.int .i64 k, .string nm, .string mr, .int .i64 it, .int .i64 d, .slice p sub.length cap] 35
    have HW := Lib.hid hw1
    have HX := Lib.hid hX
    clear hX hw1 hsh
    go_enter Tryz.func63, Tryz.ntmps63
    go_wp2_with fail
    rw [HW.out]
    refine (HSH.out _).mono ?_
    rintro e ws ⟨rfl, hbs⟩
    obtain ⟨c0, c1, c2, c3, c4, c5⟩ := boxed6 HX.out hbs
    have hl1 : w.heap.size < ws.heap.size := by have := HX.out.size; have := hbs.size; omega
    have hbw : Below w.heap.size w ws := HX.out.below.trans (hbs.mono HX.out.below.size)
    clear hbs
    go_wp2_with fail
    go_ret
    exact ⟨ret_intE (a := 1) HE.out.symm, hbw.alloc (by first | omega | (simp; done) | (simp; omega)) _⟩
  obtain rfl := size_zero hz
  clear hz
  by_cases hz : it = 0
  rotate_left
  · have HE := Lib.hid (checkE_bad (sub := sub) (checkN_arg (nm := nm) (mr := ⟨#[]⟩) (it := it) (d := d) hsh (by simp [argOk, hz])) (by decide))
    have hz1 : (it != 0) = true := by simpa using hz
    clear hz
    obtain ⟨w1, hw1, hX⟩ := boxed w #[.int .i64 k, .string nm, .string ⟨#[]⟩, .int .i64 it, .int .i64 d, .slice p sub.length cap] 35
    have HW := Lib.hid hw1
    have HX := Lib.hid hX
    clear hX hw1 hsh
    go_enter Tryz.func63, Tryz.ntmps63
    go_wp2_with fail
    rw [HW.out]
    refine (HSH.out _).mono ?_
    rintro e ws ⟨rfl, hbs⟩
    obtain ⟨c0, c1, c2, c3, c4, c5⟩ := boxed6 HX.out hbs
    have hl1 : w.heap.size < ws.heap.size := by have := HX.out.size; have := hbs.size; omega
    have hbw : Below w.heap.size w ws := HX.out.below.trans (hbs.mono HX.out.below.size)
    clear hbs
    go_wp2_with fail
    go_ret
    exact ⟨ret_intE (a := 1) HE.out.symm, hbw.alloc (by first | omega | (simp; done) | (simp; omega)) _⟩
  subst hz
  by_cases hz : d = 0
  rotate_left
  · have HE := Lib.hid (checkE_bad (sub := sub) (checkN_arg (nm := nm) (mr := ⟨#[]⟩) (it := 0) (d := d) hsh (by simp [argOk, hz])) (by decide))
    have hz1 : (d != 0) = true := by simpa using hz
    clear hz
    obtain ⟨w1, hw1, hX⟩ := boxed w #[.int .i64 k, .string nm, .string ⟨#[]⟩, .int .i64 0, .int .i64 d, .slice p sub.length cap] 35
    have HW := Lib.hid hw1
    have HX := Lib.hid hX
    clear hX hw1 hsh
    go_enter Tryz.func63, Tryz.ntmps63
    go_wp2_with fail
    rw [HW.out]
    refine (HSH.out _).mono ?_
    rintro e ws ⟨rfl, hbs⟩
    obtain ⟨c0, c1, c2, c3, c4, c5⟩ := boxed6 HX.out hbs
    have hl1 : w.heap.size < ws.heap.size := by have := HX.out.size; have := hbs.size; omega
    have hbw : Below w.heap.size w ws := HX.out.below.trans (hbs.mono HX.out.below.size)
    clear hbs
    go_wp2_with fail
    go_ret
    exact ⟨ret_intE (a := 1) HE.out.symm, hbw.alloc (by first | omega | (simp; done) | (simp; omega)) _⟩
  subst hz
  by_cases hz : sub.length = ns
  rotate_left
  · have HE := Lib.hid (checkE_bad (sub := sub) (checkN_arg (nm := nm) (mr := ⟨#[]⟩) (it := 0) (d := 0) hsh (by simp [argOk, hz])) (by decide))
    have hz1 : ((sub.length : Int) != (ns : Int)) = true := by simp; omega
    have hz2 : (sub.length != ns) = true := by simpa using hz
    clear hz
    obtain ⟨w1, hw1, hX⟩ := boxed w #[.int .i64 k, .string nm, .string ⟨#[]⟩, .int .i64 0, .int .i64 0, .slice p sub.length cap] 35
    have HW := Lib.hid hw1
    have HX := Lib.hid hX
    clear hX hw1 hsh
    go_enter Tryz.func63, Tryz.ntmps63
    go_wp2_with fail
    rw [HW.out]
    refine (HSH.out _).mono ?_
    rintro e ws ⟨rfl, hbs⟩
    obtain ⟨c0, c1, c2, c3, c4, c5⟩ := boxed6 HX.out hbs
    have hl1 : w.heap.size < ws.heap.size := by have := HX.out.size; have := hbs.size; omega
    have hbw : Below w.heap.size w ws := HX.out.below.trans (hbs.mono HX.out.below.size)
    clear hbs
    go_wp2_with fail
    go_ret
    exact ⟨ret_intE (a := 1) HE.out.symm, hbw.alloc (by first | omega | (simp; done) | (simp; omega)) _⟩
  subst hz
  have hok : argOk 1 0 sub.length nm ⟨#[]⟩ 0 0 sub.length = true := by simp [argOk] <;> rfl
  cases hz : namedB k nm ⟨#[]⟩ true false
  · have HE := Lib.hid (checkE_bad (sub := sub) ((checkN_names hsh hok (by rw [show namesErr k nm ⟨#[]⟩ (decide (1 ≤ 1)) (decide (2 ≤ 1)) = 6 from names6 hz]; decide)).trans (names6 hz)) (by decide))
    have HNB : Hid (∀ W : World, Calls Tryz.prog 99 #[.agg #[.int .i64 k, .string nm, .string ⟨#[]⟩, .int .i64 0, .int .i64 0, .slice p sub.length cap], .agg #[.bool true, .bool false, .bool false, .bool false, .int .i64 sub.length]] W fun e w' => e = .returned (.bool false) ∧ Below W.heap.size W w') := Lib.hid (fun W => by have := rnamed_any k nm ⟨#[]⟩ 0 0 (.slice p sub.length cap) true false false false sub.length W; rw [hz] at this; exact this)
    clear hz hok
    obtain ⟨w1, hw1, hX⟩ := boxed w #[.int .i64 k, .string nm, .string ⟨#[]⟩, .int .i64 0, .int .i64 0, .slice p sub.length cap] 35
    have HW := Lib.hid hw1
    have HX := Lib.hid hX
    clear hX hw1 hsh
    go_enter Tryz.func63, Tryz.ntmps63
    go_wp2_with fail
    rw [HW.out]
    refine (HSH.out _).mono ?_
    rintro e ws ⟨rfl, hbs⟩
    obtain ⟨c0, c1, c2, c3, c4, c5⟩ := boxed6 HX.out hbs
    have hl1 : w.heap.size < ws.heap.size := by have := HX.out.size; have := hbs.size; omega
    have hbw : Below w.heap.size w ws := HX.out.below.trans (hbs.mono HX.out.below.size)
    clear hbs
    go_wp2_with (first | (go_at_call 99; refine (HNB.out _).mono ?_; rintro e wn ⟨rfl, hbn⟩; obtain ⟨hcn, hfn⟩ := bcellE hbn; have hln : w.heap.size < ws.heap.size + 1 := (by omega); have hln2 : w.heap.size < wn.heap.size := by (have hzz := hbn.size; simp at hzz; omega)))
    go_ret
    exact ⟨ret_intE (a := 6) HE.out.symm, (hbw.alloc (by first | omega | (simp; done) | (simp; omega)) _).trans (hbn.mono (by first | omega | (simp; done) | (simp; omega)))⟩
  · have hne : namesErr k nm ⟨#[]⟩ (decide (1 ≤ 1)) (decide (2 ≤ 1)) = 0 := names0 hz (fun h => by have := not13 hsh (by decide); simp [h.1] at this)
    have h13 := not13 hsh (by decide)
    have HNB : Hid (∀ W : World, Calls Tryz.prog 99 #[.agg #[.int .i64 k, .string nm, .string ⟨#[]⟩, .int .i64 0, .int .i64 0, .slice p sub.length cap], .agg #[.bool true, .bool false, .bool false, .bool false, .int .i64 sub.length]] W fun e w' => e = .returned (.bool true) ∧ Below W.heap.size W w') := Lib.hid (fun W => by have := rnamed_any k nm ⟨#[]⟩ 0 0 (.slice p sub.length cap) true false false false sub.length W; rw [hz] at this; exact this)
    clear hz
    have hrv := checkN_range hsh hok hne
    cases hz : rangedB k 0 0
    · have HE := Lib.hid (checkE_bad (sub := sub) (hrv.trans (show rangeErr k 0 0 = 2 by simp [rangeErr, hz])) (by decide))
      have HRG : Hid (∀ W : World, Calls Tryz.prog 100 #[.agg #[.int .i64 k, .string nm, .string ⟨#[]⟩, .int .i64 0, .int .i64 0, .slice p sub.length cap]] W fun e w' => e = .returned (.bool false) ∧ Below W.heap.size W w') := Lib.hid (fun W => by have := rranged_any k nm ⟨#[]⟩ 0 0 (.slice p sub.length cap) W; rw [hz] at this; exact this)
      clear hz hok hne hrv
      obtain ⟨w1, hw1, hX⟩ := boxed w #[.int .i64 k, .string nm, .string ⟨#[]⟩, .int .i64 0, .int .i64 0, .slice p sub.length cap] 35
      have HW := Lib.hid hw1
      have HX := Lib.hid hX
      clear hX hw1 hsh
      go_enter Tryz.func63, Tryz.ntmps63
      go_wp2_with fail
      rw [HW.out]
      refine (HSH.out _).mono ?_
      rintro e ws ⟨rfl, hbs⟩
      obtain ⟨c0, c1, c2, c3, c4, c5⟩ := boxed6 HX.out hbs
      have hl1 : w.heap.size < ws.heap.size := by have := HX.out.size; have := hbs.size; omega
      have hbw : Below w.heap.size w ws := HX.out.below.trans (hbs.mono HX.out.below.size)
      clear hbs
      go_wp2_with (first | (go_at_call 99; refine (HNB.out _).mono ?_; rintro e wn ⟨rfl, hbn⟩; obtain ⟨hcn, hfn⟩ := bcellE hbn; have hln : w.heap.size < ws.heap.size + 1 := (by omega); have hln2 : w.heap.size < wn.heap.size := by (have hzz := hbn.size; simp at hzz; omega)) | (go_at_call 100; refine (HRG.out _).mono ?_; rintro e wq ⟨rfl, hbq⟩; obtain ⟨hcq, hfq⟩ := bcellE hbq))
      go_ret
      exact ⟨ret_intE (a := 2) HE.out.symm, ((hbw.alloc (by first | omega | (simp; done) | (simp; omega)) _).trans (hbn.mono (by first | omega | (simp; done) | (simp; omega)))).trans (hbq.mono (by have hz1 := hbn.size; simp at hz1; omega))⟩
    · have HE := Lib.hid (checkE_good (sub := sub) (hrv.trans (show rangeErr k 0 0 = 0 by simp [rangeErr, hz])))
      have HRG : Hid (∀ W : World, Calls Tryz.prog 100 #[.agg #[.int .i64 k, .string nm, .string ⟨#[]⟩, .int .i64 0, .int .i64 0, .slice p sub.length cap]] W fun e w' => e = .returned (.bool true) ∧ Below W.heap.size W w') := Lib.hid (fun W => by have := rranged_any k nm ⟨#[]⟩ 0 0 (.slice p sub.length cap) W; rw [hz] at this; exact this)
      clear hz hok hne hrv
      obtain ⟨w1, hw1, hX⟩ := boxed w #[.int .i64 k, .string nm, .string ⟨#[]⟩, .int .i64 0, .int .i64 0, .slice p sub.length cap] 35
      have HW := Lib.hid hw1
      have HX := Lib.hid hX
      clear hX hw1 hsh
      go_enter Tryz.func63, Tryz.ntmps63
      go_wp2_with fail
      rw [HW.out]
      refine (HSH.out _).mono ?_
      rintro e ws ⟨rfl, hbs⟩
      obtain ⟨c0, c1, c2, c3, c4, c5⟩ := boxed6 HX.out hbs
      have hl1 : w.heap.size < ws.heap.size := by have := HX.out.size; have := hbs.size; omega
      have hbw : Below w.heap.size w ws := HX.out.below.trans (hbs.mono HX.out.below.size)
      clear hbs
      go_wp2_with (first | (go_at_call 99; refine (HNB.out _).mono ?_; rintro e wn ⟨rfl, hbn⟩; obtain ⟨hcn, hfn⟩ := bcellE hbn; have hln : w.heap.size < ws.heap.size + 1 := (by omega); have hln2 : w.heap.size < wn.heap.size := by (have hzz := hbn.size; simp at hzz; omega)) | (go_at_call 100; refine (HRG.out _).mono ?_; rintro e wq ⟨rfl, hbq⟩; obtain ⟨hcq, hfq⟩ := bcellE hbq))
      have hB0 : Below w.heap.size w wq := ((hbw.alloc (by first | omega | (simp; done) | (simp; omega)) _).trans (hbn.mono (by first | omega | (simp; done) | (simp; omega)))).trans (hbq.mono (by have hz1 := hbn.size; simp at hz1; omega))
      have hc5 : wq.cell? ⟨w.heap.size, 5, none⟩ = some (.slice p sub.length cap) := by
        rw [hcq _ _ hln2, hcn _ _ (by simp; omega)]; go_simp
      have hsz : w.heap.size < wq.heap.size := by have := hbq.size; omega
      have HB0 := Lib.hid hB0
      have HC5 := Lib.hid hc5
      clear hB0 hc5 hcq hfq hcn hfn hbn hbq c0 c1 c2 c3 c4 c5 HRG HNB HSH HX HW
      go_loopw [5] (fun i wr => CheckRel wq sub i wr) (fun i _ => sub.length - (intOf i).toNat)
      case atStart => exact ⟨0, by omega, rfl, by simp [checkEs], Below.refl _ _⟩
      case round =>
        obtain ⟨j, hj, rfl, hP, hBr⟩ := hrel
        have HP := Lib.hid hP
        have hcr := (hBr.cell (p := ⟨w.heap.size, 5, none⟩) hsz).trans HC5.out
        clear hP
        by_cases hlt : j < sub.length
        · have hbw' : Below w.heap.size w wr := HB0.out.trans (hBr.mono (by omega))
          obtain ⟨b, off, cv, rfl, g0, g1, g2, g3, g4, g5, g6⟩ := subAt_at HS.out hbw' j hlt
          have hn1 := nodesL_get sub j hlt
          have hn2 := nodesE_eq sub[j]
          have hC := Lib.hid (HIH.out sub[j].kind sub[j].name sub[j].more sub[j].int sub[j].den sub[j].sub cv wr (by omega) g6)
          rw [Ex.eta] at hC
          clear g6 hn1 hn2
          by_cases hq : checkE sub[j] = 0
          · rw [hq] at hC
            have HT := Lib.hid ((checkEs_take_succ sub j hlt HP.out).trans hq)
            clear hq
            go_wp2_with (go_at_call 63; refine (hC.out).mono ?_; rintro e w' ⟨rfl, hb1⟩)
            go_roundw
            case rel => exact ⟨j + 1, by omega, by go_num, HT.out, hBr.trans (hb1.mono hBr.size)⟩
            case measure => simp [intOf]; omega
          · have HT := Lib.hid (checkEs_bad hlt HP.out hq)
            have hq1 : (checkE sub[j] != 0) = true := by simpa using hq
            clear hq
            generalize checkE sub[j] = C at *
            go_wp2_with (go_at_call 63; refine (hC.out).mono ?_; rintro e w' ⟨rfl, hb1⟩)
            go_ret
            exact ⟨ret_intE (a := C) (by rw [HE.out, HT.out]), HB0.out.trans ((hBr.mono (by omega)).trans (hb1.mono (by have := hBr.size; omega)))⟩
        · obtain rfl : j = sub.length := by omega
          go_wp2_with fail
          go_ret
          exact ⟨ret_intE (a := 0) (by have := HP.out; rw [List.take_length] at this; rw [HE.out, this]), HB0.out.trans (hBr.mono (by omega))⟩
set_option maxRecDepth 100000 in
set_option maxHeartbeats 8000000 in
theorem rcheck_20 (N : Nat) (ih : ∀ (k : Int) (nm mr : ByteArray) (it d : Int) (sub : List Ex) (sv : Value) (w : World), nodesL sub < N → SubAt w w.heap.size sub sv → Calls Tryz.prog 63 #[.agg #[.int .i64 k, .string nm, .string mr, .int .i64 it, .int .i64 d, sv]] w fun e w' => e = .returned (.int .i64 (checkE (.mk k nm mr it d sub))) ∧ Below w.heap.size w w')
    (k : Int) (ns : Nat) (nm mr : ByteArray) (it d : Int) (sub : List Ex) (sv : Value) (w : World) (hN : nodesL sub < N + 1) (hm : nodesL sub ≤ 1099511627776) (hs : SubAt w w.heap.size sub sv) (hsh : shapeK k = some (2, 0, ns)) :
    Calls Tryz.prog 63 #[.agg #[.int .i64 k, .string nm, .string mr, .int .i64 it, .int .i64 d, sv]] w fun e w' => e = .returned (.int .i64 (checkE (.mk k nm mr it d sub))) ∧ Below w.heap.size w w' := by
  obtain ⟨p, cap, rfl, hcap, _⟩ := subAt_open hs
  have HS := Lib.hid hs
  clear hs
  have hl := length_le_nodesL sub
  have HSH : Hid (∀ W : World, Calls Tryz.prog 98 #[.int .i64 k] W fun e w' => e = .returned (.tuple #[.agg #[.bool true, .bool true, .bool false, .bool false, .int .i64 ns], .bool true]) ∧ Below W.heap.size W w') := Lib.hid (fun W => rshapeOf_yes k 2 0 ns W hsh)
  have HIH := Lib.hid ih
  clear ih
  by_cases hz : it = 0
  rotate_left
  · have HE := Lib.hid (checkE_bad (sub := sub) (checkN_arg (nm := nm) (mr := mr) (it := it) (d := d) hsh (by simp [argOk, hz])) (by decide))
    have hz1 : (it != 0) = true := by simpa using hz
    clear hz
    obtain ⟨w1, hw1, hX⟩ := boxed w #[.int .i64 k, .string nm, .string mr, .int .i64 it, .int .i64 d, .slice p sub.length cap] 35
    have HW := Lib.hid hw1
    have HX := Lib.hid hX
    clear hX hw1 hsh
    go_enter Tryz.func63, Tryz.ntmps63
    go_wp2_with fail
    rw [HW.out]
    refine (HSH.out _).mono ?_
    rintro e ws ⟨rfl, hbs⟩
    obtain ⟨c0, c1, c2, c3, c4, c5⟩ := boxed6 HX.out hbs
    have hl1 : w.heap.size < ws.heap.size := by have := HX.out.size; have := hbs.size; omega
    have hbw : Below w.heap.size w ws := HX.out.below.trans (hbs.mono HX.out.below.size)
    clear hbs
    go_wp2_with fail
    go_ret
    exact ⟨ret_intE (a := 1) HE.out.symm, hbw.alloc (by first | omega | (simp; done) | (simp; omega)) _⟩
  subst hz
  by_cases hz : d = 0
  rotate_left
  · have HE := Lib.hid (checkE_bad (sub := sub) (checkN_arg (nm := nm) (mr := mr) (it := 0) (d := d) hsh (by simp [argOk, hz])) (by decide))
    have hz1 : (d != 0) = true := by simpa using hz
    clear hz
    obtain ⟨w1, hw1, hX⟩ := boxed w #[.int .i64 k, .string nm, .string mr, .int .i64 0, .int .i64 d, .slice p sub.length cap] 35
    have HW := Lib.hid hw1
    have HX := Lib.hid hX
    clear hX hw1 hsh
    go_enter Tryz.func63, Tryz.ntmps63
    go_wp2_with fail
    rw [HW.out]
    refine (HSH.out _).mono ?_
    rintro e ws ⟨rfl, hbs⟩
    obtain ⟨c0, c1, c2, c3, c4, c5⟩ := boxed6 HX.out hbs
    have hl1 : w.heap.size < ws.heap.size := by have := HX.out.size; have := hbs.size; omega
    have hbw : Below w.heap.size w ws := HX.out.below.trans (hbs.mono HX.out.below.size)
    clear hbs
    go_wp2_with fail
    go_ret
    exact ⟨ret_intE (a := 1) HE.out.symm, hbw.alloc (by first | omega | (simp; done) | (simp; omega)) _⟩
  subst hz
  by_cases hz : sub.length = ns
  rotate_left
  · have HE := Lib.hid (checkE_bad (sub := sub) (checkN_arg (nm := nm) (mr := mr) (it := 0) (d := 0) hsh (by simp [argOk, hz])) (by decide))
    have hz1 : ((sub.length : Int) != (ns : Int)) = true := by simp; omega
    have hz2 : (sub.length != ns) = true := by simpa using hz
    clear hz
    obtain ⟨w1, hw1, hX⟩ := boxed w #[.int .i64 k, .string nm, .string mr, .int .i64 0, .int .i64 0, .slice p sub.length cap] 35
    have HW := Lib.hid hw1
    have HX := Lib.hid hX
    clear hX hw1 hsh
    go_enter Tryz.func63, Tryz.ntmps63
    go_wp2_with fail
    rw [HW.out]
    refine (HSH.out _).mono ?_
    rintro e ws ⟨rfl, hbs⟩
    obtain ⟨c0, c1, c2, c3, c4, c5⟩ := boxed6 HX.out hbs
    have hl1 : w.heap.size < ws.heap.size := by have := HX.out.size; have := hbs.size; omega
    have hbw : Below w.heap.size w ws := HX.out.below.trans (hbs.mono HX.out.below.size)
    clear hbs
    go_wp2_with fail
    go_ret
    exact ⟨ret_intE (a := 1) HE.out.symm, hbw.alloc (by first | omega | (simp; done) | (simp; omega)) _⟩
  subst hz
  have hok : argOk 2 0 sub.length nm mr 0 0 sub.length = true := by simp [argOk] <;> rfl
  cases hz : namedB k nm mr true true
  · have HE := Lib.hid (checkE_bad (sub := sub) ((checkN_names hsh hok (by rw [show namesErr k nm mr (decide (1 ≤ 2)) (decide (2 ≤ 2)) = 6 from names6 hz]; decide)).trans (names6 hz)) (by decide))
    have HNB : Hid (∀ W : World, Calls Tryz.prog 99 #[.agg #[.int .i64 k, .string nm, .string mr, .int .i64 0, .int .i64 0, .slice p sub.length cap], .agg #[.bool true, .bool true, .bool false, .bool false, .int .i64 sub.length]] W fun e w' => e = .returned (.bool false) ∧ Below W.heap.size W w') := Lib.hid (fun W => by have := rnamed_any k nm mr 0 0 (.slice p sub.length cap) true true false false sub.length W; rw [hz] at this; exact this)
    clear hz hok
    obtain ⟨w1, hw1, hX⟩ := boxed w #[.int .i64 k, .string nm, .string mr, .int .i64 0, .int .i64 0, .slice p sub.length cap] 35
    have HW := Lib.hid hw1
    have HX := Lib.hid hX
    clear hX hw1 hsh
    go_enter Tryz.func63, Tryz.ntmps63
    go_wp2_with fail
    rw [HW.out]
    refine (HSH.out _).mono ?_
    rintro e ws ⟨rfl, hbs⟩
    obtain ⟨c0, c1, c2, c3, c4, c5⟩ := boxed6 HX.out hbs
    have hl1 : w.heap.size < ws.heap.size := by have := HX.out.size; have := hbs.size; omega
    have hbw : Below w.heap.size w ws := HX.out.below.trans (hbs.mono HX.out.below.size)
    clear hbs
    go_wp2_with (first | (go_at_call 99; refine (HNB.out _).mono ?_; rintro e wn ⟨rfl, hbn⟩; obtain ⟨hcn, hfn⟩ := bcellE hbn; have hln : w.heap.size < ws.heap.size + 1 := (by omega); have hln2 : w.heap.size < wn.heap.size := by (have hzz := hbn.size; simp at hzz; omega)))
    go_ret
    exact ⟨ret_intE (a := 6) HE.out.symm, (hbw.alloc (by first | omega | (simp; done) | (simp; omega)) _).trans (hbn.mono (by first | omega | (simp; done) | (simp; omega)))⟩
  · by_cases h13 : k = 13
    · subst h13
      by_cases hq : nm = mr
      · subst hq
        have HE := Lib.hid (checkE_bad (sub := sub) ((checkN_names hsh hok (by rw [show namesErr 13 nm nm (decide (1 ≤ 2)) (decide (2 ≤ 2)) = 7 from names7 hz]; decide)).trans (names7 hz)) (by decide))
        have HNB : Hid (∀ W : World, Calls Tryz.prog 99 #[.agg #[.int .i64 13, .string nm, .string nm, .int .i64 0, .int .i64 0, .slice p sub.length cap], .agg #[.bool true, .bool true, .bool false, .bool false, .int .i64 sub.length]] W fun e w' => e = .returned (.bool true) ∧ Below W.heap.size W w') := Lib.hid (fun W => by have := rnamed_any 13 nm nm 0 0 (.slice p sub.length cap) true true false false sub.length W; rw [hz] at this; exact this)
        clear hz hok
        obtain ⟨w1, hw1, hX⟩ := boxed w #[.int .i64 13, .string nm, .string nm, .int .i64 0, .int .i64 0, .slice p sub.length cap] 35
        have HW := Lib.hid hw1
        have HX := Lib.hid hX
        clear hX hw1 hsh
        go_enter Tryz.func63, Tryz.ntmps63
        go_wp2_with fail
        rw [HW.out]
        refine (HSH.out _).mono ?_
        rintro e ws ⟨rfl, hbs⟩
        obtain ⟨c0, c1, c2, c3, c4, c5⟩ := boxed6 HX.out hbs
        have hl1 : w.heap.size < ws.heap.size := by have := HX.out.size; have := hbs.size; omega
        have hbw : Below w.heap.size w ws := HX.out.below.trans (hbs.mono HX.out.below.size)
        clear hbs
        go_wp2_with (first | (go_at_call 99; refine (HNB.out _).mono ?_; rintro e wn ⟨rfl, hbn⟩; obtain ⟨hcn, hfn⟩ := bcellE hbn; have hln : w.heap.size < ws.heap.size + 1 := (by omega); have hln2 : w.heap.size < wn.heap.size := by (have hzz := hbn.size; simp at hzz; omega)))
        go_ret
        exact ⟨ret_intE (a := 7) HE.out.symm, (hbw.alloc (by first | omega | (simp; done) | (simp; omega)) _).trans (hbn.mono (by first | omega | (simp; done) | (simp; omega)))⟩
      · have hne : namesErr 13 nm mr (decide (1 ≤ 2)) (decide (2 ≤ 2)) = 0 := names0 hz (fun h => hq h.2)
        have hq1 : (nm.toList == mr.toList) = false := (Lib.bytes_beq_false_iff _ _).2 hq
        have HNB : Hid (∀ W : World, Calls Tryz.prog 99 #[.agg #[.int .i64 13, .string nm, .string mr, .int .i64 0, .int .i64 0, .slice p sub.length cap], .agg #[.bool true, .bool true, .bool false, .bool false, .int .i64 sub.length]] W fun e w' => e = .returned (.bool true) ∧ Below W.heap.size W w') := Lib.hid (fun W => by have := rnamed_any 13 nm mr 0 0 (.slice p sub.length cap) true true false false sub.length W; rw [hz] at this; exact this)
        clear hz
        have hrv := checkN_range hsh hok hne
        cases hz : rangedB 13 0 0
        · have HE := Lib.hid (checkE_bad (sub := sub) (hrv.trans (show rangeErr 13 0 0 = 2 by simp [rangeErr, hz])) (by decide))
          have HRG : Hid (∀ W : World, Calls Tryz.prog 100 #[.agg #[.int .i64 13, .string nm, .string mr, .int .i64 0, .int .i64 0, .slice p sub.length cap]] W fun e w' => e = .returned (.bool false) ∧ Below W.heap.size W w') := Lib.hid (fun W => by have := rranged_any 13 nm mr 0 0 (.slice p sub.length cap) W; rw [hz] at this; exact this)
          clear hz hok hne hrv
          obtain ⟨w1, hw1, hX⟩ := boxed w #[.int .i64 13, .string nm, .string mr, .int .i64 0, .int .i64 0, .slice p sub.length cap] 35
          have HW := Lib.hid hw1
          have HX := Lib.hid hX
          clear hX hw1 hsh
          go_enter Tryz.func63, Tryz.ntmps63
          go_wp2_with fail
          rw [HW.out]
          refine (HSH.out _).mono ?_
          rintro e ws ⟨rfl, hbs⟩
          obtain ⟨c0, c1, c2, c3, c4, c5⟩ := boxed6 HX.out hbs
          have hl1 : w.heap.size < ws.heap.size := by have := HX.out.size; have := hbs.size; omega
          have hbw : Below w.heap.size w ws := HX.out.below.trans (hbs.mono HX.out.below.size)
          clear hbs
          go_wp2_with (first | (go_at_call 99; refine (HNB.out _).mono ?_; rintro e wn ⟨rfl, hbn⟩; obtain ⟨hcn, hfn⟩ := bcellE hbn; have hln : w.heap.size < ws.heap.size + 1 := (by omega); have hln2 : w.heap.size < wn.heap.size := by (have hzz := hbn.size; simp at hzz; omega)) | (go_at_call 100; refine (HRG.out _).mono ?_; rintro e wq ⟨rfl, hbq⟩; obtain ⟨hcq, hfq⟩ := bcellE hbq))
          go_ret
          exact ⟨ret_intE (a := 2) HE.out.symm, ((hbw.alloc (by first | omega | (simp; done) | (simp; omega)) _).trans (hbn.mono (by first | omega | (simp; done) | (simp; omega)))).trans (hbq.mono (by have hz1 := hbn.size; simp at hz1; omega))⟩
        · have HE := Lib.hid (checkE_good (sub := sub) (hrv.trans (show rangeErr 13 0 0 = 0 by simp [rangeErr, hz])))
          have HRG : Hid (∀ W : World, Calls Tryz.prog 100 #[.agg #[.int .i64 13, .string nm, .string mr, .int .i64 0, .int .i64 0, .slice p sub.length cap]] W fun e w' => e = .returned (.bool true) ∧ Below W.heap.size W w') := Lib.hid (fun W => by have := rranged_any 13 nm mr 0 0 (.slice p sub.length cap) W; rw [hz] at this; exact this)
          clear hz hok hne hrv
          obtain ⟨w1, hw1, hX⟩ := boxed w #[.int .i64 13, .string nm, .string mr, .int .i64 0, .int .i64 0, .slice p sub.length cap] 35
          have HW := Lib.hid hw1
          have HX := Lib.hid hX
          clear hX hw1 hsh
          go_enter Tryz.func63, Tryz.ntmps63
          go_wp2_with fail
          rw [HW.out]
          refine (HSH.out _).mono ?_
          rintro e ws ⟨rfl, hbs⟩
          obtain ⟨c0, c1, c2, c3, c4, c5⟩ := boxed6 HX.out hbs
          have hl1 : w.heap.size < ws.heap.size := by have := HX.out.size; have := hbs.size; omega
          have hbw : Below w.heap.size w ws := HX.out.below.trans (hbs.mono HX.out.below.size)
          clear hbs
          go_wp2_with (first | (go_at_call 99; refine (HNB.out _).mono ?_; rintro e wn ⟨rfl, hbn⟩; obtain ⟨hcn, hfn⟩ := bcellE hbn; have hln : w.heap.size < ws.heap.size + 1 := (by omega); have hln2 : w.heap.size < wn.heap.size := by (have hzz := hbn.size; simp at hzz; omega)) | (go_at_call 100; refine (HRG.out _).mono ?_; rintro e wq ⟨rfl, hbq⟩; obtain ⟨hcq, hfq⟩ := bcellE hbq))
          have hB0 : Below w.heap.size w wq := ((hbw.alloc (by first | omega | (simp; done) | (simp; omega)) _).trans (hbn.mono (by first | omega | (simp; done) | (simp; omega)))).trans (hbq.mono (by have hz1 := hbn.size; simp at hz1; omega))
          have hc5 : wq.cell? ⟨w.heap.size, 5, none⟩ = some (.slice p sub.length cap) := by
            rw [hcq _ _ hln2, hcn _ _ (by simp; omega)]; go_simp
          have hsz : w.heap.size < wq.heap.size := by have := hbq.size; omega
          have HB0 := Lib.hid hB0
          have HC5 := Lib.hid hc5
          clear hB0 hc5 hcq hfq hcn hfn hbn hbq c0 c1 c2 c3 c4 c5 HRG HNB HSH HX HW
          go_loopw [5] (fun i wr => CheckRel wq sub i wr) (fun i _ => sub.length - (intOf i).toNat)
          case atStart => exact ⟨0, by omega, rfl, by simp [checkEs], Below.refl _ _⟩
          case round =>
            obtain ⟨j, hj, rfl, hP, hBr⟩ := hrel
            have HP := Lib.hid hP
            have hcr := (hBr.cell (p := ⟨w.heap.size, 5, none⟩) hsz).trans HC5.out
            clear hP
            by_cases hlt : j < sub.length
            · have hbw' : Below w.heap.size w wr := HB0.out.trans (hBr.mono (by omega))
              obtain ⟨b, off, cv, rfl, g0, g1, g2, g3, g4, g5, g6⟩ := subAt_at HS.out hbw' j hlt
              have hn1 := nodesL_get sub j hlt
              have hn2 := nodesE_eq sub[j]
              have hC := Lib.hid (HIH.out sub[j].kind sub[j].name sub[j].more sub[j].int sub[j].den sub[j].sub cv wr (by omega) g6)
              rw [Ex.eta] at hC
              clear g6 hn1 hn2
              by_cases hq : checkE sub[j] = 0
              · rw [hq] at hC
                have HT := Lib.hid ((checkEs_take_succ sub j hlt HP.out).trans hq)
                clear hq
                go_wp2_with (go_at_call 63; refine (hC.out).mono ?_; rintro e w' ⟨rfl, hb1⟩)
                go_roundw
                case rel => exact ⟨j + 1, by omega, by go_num, HT.out, hBr.trans (hb1.mono hBr.size)⟩
                case measure => simp [intOf]; omega
              · have HT := Lib.hid (checkEs_bad hlt HP.out hq)
                have hq1 : (checkE sub[j] != 0) = true := by simpa using hq
                clear hq
                generalize checkE sub[j] = C at *
                go_wp2_with (go_at_call 63; refine (hC.out).mono ?_; rintro e w' ⟨rfl, hb1⟩)
                go_ret
                exact ⟨ret_intE (a := C) (by rw [HE.out, HT.out]), HB0.out.trans ((hBr.mono (by omega)).trans (hb1.mono (by have := hBr.size; omega)))⟩
            · obtain rfl : j = sub.length := by omega
              go_wp2_with fail
              go_ret
              exact ⟨ret_intE (a := 0) (by have := HP.out; rw [List.take_length] at this; rw [HE.out, this]), HB0.out.trans (hBr.mono (by omega))⟩
    · have hne : namesErr k nm mr (decide (1 ≤ 2)) (decide (2 ≤ 2)) = 0 := names0 hz (fun h => h13 h.1)
      have hk13 : (k == 13) = false := by simpa using h13
      have HNB : Hid (∀ W : World, Calls Tryz.prog 99 #[.agg #[.int .i64 k, .string nm, .string mr, .int .i64 0, .int .i64 0, .slice p sub.length cap], .agg #[.bool true, .bool true, .bool false, .bool false, .int .i64 sub.length]] W fun e w' => e = .returned (.bool true) ∧ Below W.heap.size W w') := Lib.hid (fun W => by have := rnamed_any k nm mr 0 0 (.slice p sub.length cap) true true false false sub.length W; rw [hz] at this; exact this)
      clear hz
      have hrv := checkN_range hsh hok hne
      cases hz : rangedB k 0 0
      · have HE := Lib.hid (checkE_bad (sub := sub) (hrv.trans (show rangeErr k 0 0 = 2 by simp [rangeErr, hz])) (by decide))
        have HRG : Hid (∀ W : World, Calls Tryz.prog 100 #[.agg #[.int .i64 k, .string nm, .string mr, .int .i64 0, .int .i64 0, .slice p sub.length cap]] W fun e w' => e = .returned (.bool false) ∧ Below W.heap.size W w') := Lib.hid (fun W => by have := rranged_any k nm mr 0 0 (.slice p sub.length cap) W; rw [hz] at this; exact this)
        clear hz hok hne hrv
        obtain ⟨w1, hw1, hX⟩ := boxed w #[.int .i64 k, .string nm, .string mr, .int .i64 0, .int .i64 0, .slice p sub.length cap] 35
        have HW := Lib.hid hw1
        have HX := Lib.hid hX
        clear hX hw1 hsh
        go_enter Tryz.func63, Tryz.ntmps63
        go_wp2_with fail
        rw [HW.out]
        refine (HSH.out _).mono ?_
        rintro e ws ⟨rfl, hbs⟩
        obtain ⟨c0, c1, c2, c3, c4, c5⟩ := boxed6 HX.out hbs
        have hl1 : w.heap.size < ws.heap.size := by have := HX.out.size; have := hbs.size; omega
        have hbw : Below w.heap.size w ws := HX.out.below.trans (hbs.mono HX.out.below.size)
        clear hbs
        go_wp2_with (first | (go_at_call 99; refine (HNB.out _).mono ?_; rintro e wn ⟨rfl, hbn⟩; obtain ⟨hcn, hfn⟩ := bcellE hbn; have hln : w.heap.size < ws.heap.size + 1 := (by omega); have hln2 : w.heap.size < wn.heap.size := by (have hzz := hbn.size; simp at hzz; omega)) | (go_at_call 100; refine (HRG.out _).mono ?_; rintro e wq ⟨rfl, hbq⟩; obtain ⟨hcq, hfq⟩ := bcellE hbq))
        go_ret
        exact ⟨ret_intE (a := 2) HE.out.symm, ((hbw.alloc (by first | omega | (simp; done) | (simp; omega)) _).trans (hbn.mono (by first | omega | (simp; done) | (simp; omega)))).trans (hbq.mono (by have hz1 := hbn.size; simp at hz1; omega))⟩
      · have HE := Lib.hid (checkE_good (sub := sub) (hrv.trans (show rangeErr k 0 0 = 0 by simp [rangeErr, hz])))
        have HRG : Hid (∀ W : World, Calls Tryz.prog 100 #[.agg #[.int .i64 k, .string nm, .string mr, .int .i64 0, .int .i64 0, .slice p sub.length cap]] W fun e w' => e = .returned (.bool true) ∧ Below W.heap.size W w') := Lib.hid (fun W => by have := rranged_any k nm mr 0 0 (.slice p sub.length cap) W; rw [hz] at this; exact this)
        clear hz hok hne hrv
        obtain ⟨w1, hw1, hX⟩ := boxed w #[.int .i64 k, .string nm, .string mr, .int .i64 0, .int .i64 0, .slice p sub.length cap] 35
        have HW := Lib.hid hw1
        have HX := Lib.hid hX
        clear hX hw1 hsh
        go_enter Tryz.func63, Tryz.ntmps63
        go_wp2_with fail
        rw [HW.out]
        refine (HSH.out _).mono ?_
        rintro e ws ⟨rfl, hbs⟩
        obtain ⟨c0, c1, c2, c3, c4, c5⟩ := boxed6 HX.out hbs
        have hl1 : w.heap.size < ws.heap.size := by have := HX.out.size; have := hbs.size; omega
        have hbw : Below w.heap.size w ws := HX.out.below.trans (hbs.mono HX.out.below.size)
        clear hbs
        go_wp2_with (first | (go_at_call 99; refine (HNB.out _).mono ?_; rintro e wn ⟨rfl, hbn⟩; obtain ⟨hcn, hfn⟩ := bcellE hbn; have hln : w.heap.size < ws.heap.size + 1 := (by omega); have hln2 : w.heap.size < wn.heap.size := by (have hzz := hbn.size; simp at hzz; omega)) | (go_at_call 100; refine (HRG.out _).mono ?_; rintro e wq ⟨rfl, hbq⟩; obtain ⟨hcq, hfq⟩ := bcellE hbq))
        have hB0 : Below w.heap.size w wq := ((hbw.alloc (by first | omega | (simp; done) | (simp; omega)) _).trans (hbn.mono (by first | omega | (simp; done) | (simp; omega)))).trans (hbq.mono (by have hz1 := hbn.size; simp at hz1; omega))
        have hc5 : wq.cell? ⟨w.heap.size, 5, none⟩ = some (.slice p sub.length cap) := by
          rw [hcq _ _ hln2, hcn _ _ (by simp; omega)]; go_simp
        have hsz : w.heap.size < wq.heap.size := by have := hbq.size; omega
        have HB0 := Lib.hid hB0
        have HC5 := Lib.hid hc5
        clear hB0 hc5 hcq hfq hcn hfn hbn hbq c0 c1 c2 c3 c4 c5 HRG HNB HSH HX HW
        go_loopw [5] (fun i wr => CheckRel wq sub i wr) (fun i _ => sub.length - (intOf i).toNat)
        case atStart => exact ⟨0, by omega, rfl, by simp [checkEs], Below.refl _ _⟩
        case round =>
          obtain ⟨j, hj, rfl, hP, hBr⟩ := hrel
          have HP := Lib.hid hP
          have hcr := (hBr.cell (p := ⟨w.heap.size, 5, none⟩) hsz).trans HC5.out
          clear hP
          by_cases hlt : j < sub.length
          · have hbw' : Below w.heap.size w wr := HB0.out.trans (hBr.mono (by omega))
            obtain ⟨b, off, cv, rfl, g0, g1, g2, g3, g4, g5, g6⟩ := subAt_at HS.out hbw' j hlt
            have hn1 := nodesL_get sub j hlt
            have hn2 := nodesE_eq sub[j]
            have hC := Lib.hid (HIH.out sub[j].kind sub[j].name sub[j].more sub[j].int sub[j].den sub[j].sub cv wr (by omega) g6)
            rw [Ex.eta] at hC
            clear g6 hn1 hn2
            by_cases hq : checkE sub[j] = 0
            · rw [hq] at hC
              have HT := Lib.hid ((checkEs_take_succ sub j hlt HP.out).trans hq)
              clear hq
              go_wp2_with (go_at_call 63; refine (hC.out).mono ?_; rintro e w' ⟨rfl, hb1⟩)
              go_roundw
              case rel => exact ⟨j + 1, by omega, by go_num, HT.out, hBr.trans (hb1.mono hBr.size)⟩
              case measure => simp [intOf]; omega
            · have HT := Lib.hid (checkEs_bad hlt HP.out hq)
              have hq1 : (checkE sub[j] != 0) = true := by simpa using hq
              clear hq
              generalize checkE sub[j] = C at *
              go_wp2_with (go_at_call 63; refine (hC.out).mono ?_; rintro e w' ⟨rfl, hb1⟩)
              go_ret
              exact ⟨ret_intE (a := C) (by rw [HE.out, HT.out]), HB0.out.trans ((hBr.mono (by omega)).trans (hb1.mono (by have := hBr.size; omega)))⟩
          · obtain rfl : j = sub.length := by omega
            go_wp2_with fail
            go_ret
            exact ⟨ret_intE (a := 0) (by have := HP.out; rw [List.take_length] at this; rw [HE.out, this]), HB0.out.trans (hBr.mono (by omega))⟩
set_option maxRecDepth 100000 in
set_option maxHeartbeats 8000000 in
theorem rcheck_11 (N : Nat) (ih : ∀ (k : Int) (nm mr : ByteArray) (it d : Int) (sub : List Ex) (sv : Value) (w : World), nodesL sub < N → SubAt w w.heap.size sub sv → Calls Tryz.prog 63 #[.agg #[.int .i64 k, .string nm, .string mr, .int .i64 it, .int .i64 d, sv]] w fun e w' => e = .returned (.int .i64 (checkE (.mk k nm mr it d sub))) ∧ Below w.heap.size w w')
    (k : Int) (ns : Nat) (nm mr : ByteArray) (it d : Int) (sub : List Ex) (sv : Value) (w : World) (hN : nodesL sub < N + 1) (hm : nodesL sub ≤ 1099511627776) (hs : SubAt w w.heap.size sub sv) (hsh : shapeK k = some (1, 1, ns)) :
    Calls Tryz.prog 63 #[.agg #[.int .i64 k, .string nm, .string mr, .int .i64 it, .int .i64 d, sv]] w fun e w' => e = .returned (.int .i64 (checkE (.mk k nm mr it d sub))) ∧ Below w.heap.size w w' := by
  obtain ⟨p, cap, rfl, hcap, _⟩ := subAt_open hs
  have HS := Lib.hid hs
  clear hs
  have hl := length_le_nodesL sub
  have HSH : Hid (∀ W : World, Calls Tryz.prog 98 #[.int .i64 k] W fun e w' => e = .returned (.tuple #[.agg #[.bool true, .bool false, .bool true, .bool false, .int .i64 ns], .bool true]) ∧ Below W.heap.size W w') := Lib.hid (fun W => rshapeOf_yes k 1 1 ns W hsh)
  have HIH := Lib.hid ih
  clear ih
  by_cases hz : mr.size = 0
  rotate_left
  · have HE := Lib.hid (checkE_bad (sub := sub) (checkN_arg (nm := nm) (mr := mr) (it := it) (d := d) hsh (by simp [argOk, hz])) (by decide))
    have hz1 := toList_ne' hz
    clear hz
    obtain ⟨w1, hw1, hX⟩ := boxed w #[.int .i64 k, .string nm, .string mr, .int .i64 it, .int .i64 d, .slice p sub.length cap] 35
    have HW := Lib.hid hw1
    have HX := Lib.hid hX
    clear hX hw1 hsh
    go_enter Tryz.func63, Tryz.ntmps63
    go_wp2_with fail
    rw [HW.out]
    refine (HSH.out _).mono ?_
    rintro e ws ⟨rfl, hbs⟩
    obtain ⟨c0, c1, c2, c3, c4, c5⟩ := boxed6 HX.out hbs
    have hl1 : w.heap.size < ws.heap.size := by have := HX.out.size; have := hbs.size; omega
    have hbw : Below w.heap.size w ws := HX.out.below.trans (hbs.mono HX.out.below.size)
    clear hbs
    go_wp2_with fail
    go_ret
    exact ⟨ret_intE (a := 1) HE.out.symm, hbw.alloc (by first | omega | (simp; done) | (simp; omega)) _⟩
  obtain rfl := size_zero hz
  clear hz
  by_cases hz : d = 0
  rotate_left
  · have HE := Lib.hid (checkE_bad (sub := sub) (checkN_arg (nm := nm) (mr := ⟨#[]⟩) (it := it) (d := d) hsh (by simp [argOk, hz])) (by decide))
    have hz1 : (d != 0) = true := by simpa using hz
    clear hz
    obtain ⟨w1, hw1, hX⟩ := boxed w #[.int .i64 k, .string nm, .string ⟨#[]⟩, .int .i64 it, .int .i64 d, .slice p sub.length cap] 35
    have HW := Lib.hid hw1
    have HX := Lib.hid hX
    clear hX hw1 hsh
    go_enter Tryz.func63, Tryz.ntmps63
    go_wp2_with fail
    rw [HW.out]
    refine (HSH.out _).mono ?_
    rintro e ws ⟨rfl, hbs⟩
    obtain ⟨c0, c1, c2, c3, c4, c5⟩ := boxed6 HX.out hbs
    have hl1 : w.heap.size < ws.heap.size := by have := HX.out.size; have := hbs.size; omega
    have hbw : Below w.heap.size w ws := HX.out.below.trans (hbs.mono HX.out.below.size)
    clear hbs
    go_wp2_with fail
    go_ret
    exact ⟨ret_intE (a := 1) HE.out.symm, hbw.alloc (by first | omega | (simp; done) | (simp; omega)) _⟩
  subst hz
  by_cases hz : sub.length = ns
  rotate_left
  · have HE := Lib.hid (checkE_bad (sub := sub) (checkN_arg (nm := nm) (mr := ⟨#[]⟩) (it := it) (d := 0) hsh (by simp [argOk, hz])) (by decide))
    have hz1 : ((sub.length : Int) != (ns : Int)) = true := by simp; omega
    have hz2 : (sub.length != ns) = true := by simpa using hz
    clear hz
    obtain ⟨w1, hw1, hX⟩ := boxed w #[.int .i64 k, .string nm, .string ⟨#[]⟩, .int .i64 it, .int .i64 0, .slice p sub.length cap] 35
    have HW := Lib.hid hw1
    have HX := Lib.hid hX
    clear hX hw1 hsh
    go_enter Tryz.func63, Tryz.ntmps63
    go_wp2_with fail
    rw [HW.out]
    refine (HSH.out _).mono ?_
    rintro e ws ⟨rfl, hbs⟩
    obtain ⟨c0, c1, c2, c3, c4, c5⟩ := boxed6 HX.out hbs
    have hl1 : w.heap.size < ws.heap.size := by have := HX.out.size; have := hbs.size; omega
    have hbw : Below w.heap.size w ws := HX.out.below.trans (hbs.mono HX.out.below.size)
    clear hbs
    go_wp2_with fail
    go_ret
    exact ⟨ret_intE (a := 1) HE.out.symm, hbw.alloc (by first | omega | (simp; done) | (simp; omega)) _⟩
  subst hz
  have hok : argOk 1 1 sub.length nm ⟨#[]⟩ it 0 sub.length = true := by simp [argOk] <;> rfl
  cases hz : namedB k nm ⟨#[]⟩ true false
  · have HE := Lib.hid (checkE_bad (sub := sub) ((checkN_names hsh hok (by rw [show namesErr k nm ⟨#[]⟩ (decide (1 ≤ 1)) (decide (2 ≤ 1)) = 6 from names6 hz]; decide)).trans (names6 hz)) (by decide))
    have HNB : Hid (∀ W : World, Calls Tryz.prog 99 #[.agg #[.int .i64 k, .string nm, .string ⟨#[]⟩, .int .i64 it, .int .i64 0, .slice p sub.length cap], .agg #[.bool true, .bool false, .bool true, .bool false, .int .i64 sub.length]] W fun e w' => e = .returned (.bool false) ∧ Below W.heap.size W w') := Lib.hid (fun W => by have := rnamed_any k nm ⟨#[]⟩ it 0 (.slice p sub.length cap) true false true false sub.length W; rw [hz] at this; exact this)
    clear hz hok
    obtain ⟨w1, hw1, hX⟩ := boxed w #[.int .i64 k, .string nm, .string ⟨#[]⟩, .int .i64 it, .int .i64 0, .slice p sub.length cap] 35
    have HW := Lib.hid hw1
    have HX := Lib.hid hX
    clear hX hw1 hsh
    go_enter Tryz.func63, Tryz.ntmps63
    go_wp2_with fail
    rw [HW.out]
    refine (HSH.out _).mono ?_
    rintro e ws ⟨rfl, hbs⟩
    obtain ⟨c0, c1, c2, c3, c4, c5⟩ := boxed6 HX.out hbs
    have hl1 : w.heap.size < ws.heap.size := by have := HX.out.size; have := hbs.size; omega
    have hbw : Below w.heap.size w ws := HX.out.below.trans (hbs.mono HX.out.below.size)
    clear hbs
    go_wp2_with (first | (go_at_call 99; refine (HNB.out _).mono ?_; rintro e wn ⟨rfl, hbn⟩; obtain ⟨hcn, hfn⟩ := bcellE hbn; have hln : w.heap.size < ws.heap.size + 1 := (by omega); have hln2 : w.heap.size < wn.heap.size := by (have hzz := hbn.size; simp at hzz; omega)))
    go_ret
    exact ⟨ret_intE (a := 6) HE.out.symm, (hbw.alloc (by first | omega | (simp; done) | (simp; omega)) _).trans (hbn.mono (by first | omega | (simp; done) | (simp; omega)))⟩
  · have hne : namesErr k nm ⟨#[]⟩ (decide (1 ≤ 1)) (decide (2 ≤ 1)) = 0 := names0 hz (fun h => by have := not13 hsh (by decide); simp [h.1] at this)
    have h13 := not13 hsh (by decide)
    have HNB : Hid (∀ W : World, Calls Tryz.prog 99 #[.agg #[.int .i64 k, .string nm, .string ⟨#[]⟩, .int .i64 it, .int .i64 0, .slice p sub.length cap], .agg #[.bool true, .bool false, .bool true, .bool false, .int .i64 sub.length]] W fun e w' => e = .returned (.bool true) ∧ Below W.heap.size W w') := Lib.hid (fun W => by have := rnamed_any k nm ⟨#[]⟩ it 0 (.slice p sub.length cap) true false true false sub.length W; rw [hz] at this; exact this)
    clear hz
    have hrv := checkN_range hsh hok hne
    cases hz : rangedB k it 0
    · have HE := Lib.hid (checkE_bad (sub := sub) (hrv.trans (show rangeErr k it 0 = 2 by simp [rangeErr, hz])) (by decide))
      have HRG : Hid (∀ W : World, Calls Tryz.prog 100 #[.agg #[.int .i64 k, .string nm, .string ⟨#[]⟩, .int .i64 it, .int .i64 0, .slice p sub.length cap]] W fun e w' => e = .returned (.bool false) ∧ Below W.heap.size W w') := Lib.hid (fun W => by have := rranged_any k nm ⟨#[]⟩ it 0 (.slice p sub.length cap) W; rw [hz] at this; exact this)
      clear hz hok hne hrv
      obtain ⟨w1, hw1, hX⟩ := boxed w #[.int .i64 k, .string nm, .string ⟨#[]⟩, .int .i64 it, .int .i64 0, .slice p sub.length cap] 35
      have HW := Lib.hid hw1
      have HX := Lib.hid hX
      clear hX hw1 hsh
      go_enter Tryz.func63, Tryz.ntmps63
      go_wp2_with fail
      rw [HW.out]
      refine (HSH.out _).mono ?_
      rintro e ws ⟨rfl, hbs⟩
      obtain ⟨c0, c1, c2, c3, c4, c5⟩ := boxed6 HX.out hbs
      have hl1 : w.heap.size < ws.heap.size := by have := HX.out.size; have := hbs.size; omega
      have hbw : Below w.heap.size w ws := HX.out.below.trans (hbs.mono HX.out.below.size)
      clear hbs
      go_wp2_with (first | (go_at_call 99; refine (HNB.out _).mono ?_; rintro e wn ⟨rfl, hbn⟩; obtain ⟨hcn, hfn⟩ := bcellE hbn; have hln : w.heap.size < ws.heap.size + 1 := (by omega); have hln2 : w.heap.size < wn.heap.size := by (have hzz := hbn.size; simp at hzz; omega)) | (go_at_call 100; refine (HRG.out _).mono ?_; rintro e wq ⟨rfl, hbq⟩; obtain ⟨hcq, hfq⟩ := bcellE hbq))
      go_ret
      exact ⟨ret_intE (a := 2) HE.out.symm, ((hbw.alloc (by first | omega | (simp; done) | (simp; omega)) _).trans (hbn.mono (by first | omega | (simp; done) | (simp; omega)))).trans (hbq.mono (by have hz1 := hbn.size; simp at hz1; omega))⟩
    · have HE := Lib.hid (checkE_good (sub := sub) (hrv.trans (show rangeErr k it 0 = 0 by simp [rangeErr, hz])))
      have HRG : Hid (∀ W : World, Calls Tryz.prog 100 #[.agg #[.int .i64 k, .string nm, .string ⟨#[]⟩, .int .i64 it, .int .i64 0, .slice p sub.length cap]] W fun e w' => e = .returned (.bool true) ∧ Below W.heap.size W w') := Lib.hid (fun W => by have := rranged_any k nm ⟨#[]⟩ it 0 (.slice p sub.length cap) W; rw [hz] at this; exact this)
      clear hz hok hne hrv
      obtain ⟨w1, hw1, hX⟩ := boxed w #[.int .i64 k, .string nm, .string ⟨#[]⟩, .int .i64 it, .int .i64 0, .slice p sub.length cap] 35
      have HW := Lib.hid hw1
      have HX := Lib.hid hX
      clear hX hw1 hsh
      go_enter Tryz.func63, Tryz.ntmps63
      go_wp2_with fail
      rw [HW.out]
      refine (HSH.out _).mono ?_
      rintro e ws ⟨rfl, hbs⟩
      obtain ⟨c0, c1, c2, c3, c4, c5⟩ := boxed6 HX.out hbs
      have hl1 : w.heap.size < ws.heap.size := by have := HX.out.size; have := hbs.size; omega
      have hbw : Below w.heap.size w ws := HX.out.below.trans (hbs.mono HX.out.below.size)
      clear hbs
      go_wp2_with (first | (go_at_call 99; refine (HNB.out _).mono ?_; rintro e wn ⟨rfl, hbn⟩; obtain ⟨hcn, hfn⟩ := bcellE hbn; have hln : w.heap.size < ws.heap.size + 1 := (by omega); have hln2 : w.heap.size < wn.heap.size := by (have hzz := hbn.size; simp at hzz; omega)) | (go_at_call 100; refine (HRG.out _).mono ?_; rintro e wq ⟨rfl, hbq⟩; obtain ⟨hcq, hfq⟩ := bcellE hbq))
      have hB0 : Below w.heap.size w wq := ((hbw.alloc (by first | omega | (simp; done) | (simp; omega)) _).trans (hbn.mono (by first | omega | (simp; done) | (simp; omega)))).trans (hbq.mono (by have hz1 := hbn.size; simp at hz1; omega))
      have hc5 : wq.cell? ⟨w.heap.size, 5, none⟩ = some (.slice p sub.length cap) := by
        rw [hcq _ _ hln2, hcn _ _ (by simp; omega)]; go_simp
      have hsz : w.heap.size < wq.heap.size := by have := hbq.size; omega
      have HB0 := Lib.hid hB0
      have HC5 := Lib.hid hc5
      clear hB0 hc5 hcq hfq hcn hfn hbn hbq c0 c1 c2 c3 c4 c5 HRG HNB HSH HX HW
      go_loopw [5] (fun i wr => CheckRel wq sub i wr) (fun i _ => sub.length - (intOf i).toNat)
      case atStart => exact ⟨0, by omega, rfl, by simp [checkEs], Below.refl _ _⟩
      case round =>
        obtain ⟨j, hj, rfl, hP, hBr⟩ := hrel
        have HP := Lib.hid hP
        have hcr := (hBr.cell (p := ⟨w.heap.size, 5, none⟩) hsz).trans HC5.out
        clear hP
        by_cases hlt : j < sub.length
        · have hbw' : Below w.heap.size w wr := HB0.out.trans (hBr.mono (by omega))
          obtain ⟨b, off, cv, rfl, g0, g1, g2, g3, g4, g5, g6⟩ := subAt_at HS.out hbw' j hlt
          have hn1 := nodesL_get sub j hlt
          have hn2 := nodesE_eq sub[j]
          have hC := Lib.hid (HIH.out sub[j].kind sub[j].name sub[j].more sub[j].int sub[j].den sub[j].sub cv wr (by omega) g6)
          rw [Ex.eta] at hC
          clear g6 hn1 hn2
          by_cases hq : checkE sub[j] = 0
          · rw [hq] at hC
            have HT := Lib.hid ((checkEs_take_succ sub j hlt HP.out).trans hq)
            clear hq
            go_wp2_with (go_at_call 63; refine (hC.out).mono ?_; rintro e w' ⟨rfl, hb1⟩)
            go_roundw
            case rel => exact ⟨j + 1, by omega, by go_num, HT.out, hBr.trans (hb1.mono hBr.size)⟩
            case measure => simp [intOf]; omega
          · have HT := Lib.hid (checkEs_bad hlt HP.out hq)
            have hq1 : (checkE sub[j] != 0) = true := by simpa using hq
            clear hq
            generalize checkE sub[j] = C at *
            go_wp2_with (go_at_call 63; refine (hC.out).mono ?_; rintro e w' ⟨rfl, hb1⟩)
            go_ret
            exact ⟨ret_intE (a := C) (by rw [HE.out, HT.out]), HB0.out.trans ((hBr.mono (by omega)).trans (hb1.mono (by have := hBr.size; omega)))⟩
        · obtain rfl : j = sub.length := by omega
          go_wp2_with fail
          go_ret
          exact ⟨ret_intE (a := 0) (by have := HP.out; rw [List.take_length] at this; rw [HE.out, this]), HB0.out.trans (hBr.mono (by omega))⟩
set_option maxRecDepth 100000 in
set_option maxHeartbeats 8000000 in
theorem rcheck_00 (N : Nat) (ih : ∀ (k : Int) (nm mr : ByteArray) (it d : Int) (sub : List Ex) (sv : Value) (w : World), nodesL sub < N → SubAt w w.heap.size sub sv → Calls Tryz.prog 63 #[.agg #[.int .i64 k, .string nm, .string mr, .int .i64 it, .int .i64 d, sv]] w fun e w' => e = .returned (.int .i64 (checkE (.mk k nm mr it d sub))) ∧ Below w.heap.size w w')
    (k : Int) (ns : Nat) (nm mr : ByteArray) (it d : Int) (sub : List Ex) (sv : Value) (w : World) (hN : nodesL sub < N + 1) (hm : nodesL sub ≤ 1099511627776) (hs : SubAt w w.heap.size sub sv) (hsh : shapeK k = some (0, 0, ns)) :
    Calls Tryz.prog 63 #[.agg #[.int .i64 k, .string nm, .string mr, .int .i64 it, .int .i64 d, sv]] w fun e w' => e = .returned (.int .i64 (checkE (.mk k nm mr it d sub))) ∧ Below w.heap.size w w' := by
  obtain ⟨p, cap, rfl, hcap, _⟩ := subAt_open hs
  have HS := Lib.hid hs
  clear hs
  have hl := length_le_nodesL sub
  have HSH : Hid (∀ W : World, Calls Tryz.prog 98 #[.int .i64 k] W fun e w' => e = .returned (.tuple #[.agg #[.bool false, .bool false, .bool false, .bool false, .int .i64 ns], .bool true]) ∧ Below W.heap.size W w') := Lib.hid (fun W => rshapeOf_yes k 0 0 ns W hsh)
  have HIH := Lib.hid ih
  clear ih
  by_cases hz : nm.size = 0
  rotate_left
  · have HE := Lib.hid (checkE_bad (sub := sub) (checkN_arg (nm := nm) (mr := mr) (it := it) (d := d) hsh (by simp [argOk, hz])) (by decide))
    have hz1 := toList_ne' hz
    clear hz
    obtain ⟨w1, hw1, hX⟩ := boxed w #[.int .i64 k, .string nm, .string mr, .int .i64 it, .int .i64 d, .slice p sub.length cap] 35
    have HW := Lib.hid hw1
    have HX := Lib.hid hX
    clear hX hw1 hsh
    go_enter Tryz.func63, Tryz.ntmps63
    go_wp2_with fail
    rw [HW.out]
    refine (HSH.out _).mono ?_
    rintro e ws ⟨rfl, hbs⟩
    obtain ⟨c0, c1, c2, c3, c4, c5⟩ := boxed6 HX.out hbs
    have hl1 : w.heap.size < ws.heap.size := by have := HX.out.size; have := hbs.size; omega
    have hbw : Below w.heap.size w ws := HX.out.below.trans (hbs.mono HX.out.below.size)
    clear hbs
    go_wp2_with fail
    go_ret
    exact ⟨ret_intE (a := 1) HE.out.symm, hbw.alloc (by first | omega | (simp; done) | (simp; omega)) _⟩
  obtain rfl := size_zero hz
  clear hz
  by_cases hz : mr.size = 0
  rotate_left
  · have HE := Lib.hid (checkE_bad (sub := sub) (checkN_arg (nm := ⟨#[]⟩) (mr := mr) (it := it) (d := d) hsh (by simp [argOk, hz])) (by decide))
    have hz1 := toList_ne' hz
    clear hz
    obtain ⟨w1, hw1, hX⟩ := boxed w #[.int .i64 k, .string ⟨#[]⟩, .string mr, .int .i64 it, .int .i64 d, .slice p sub.length cap] 35
    have HW := Lib.hid hw1
    have HX := Lib.hid hX
    clear hX hw1 hsh
    go_enter Tryz.func63, Tryz.ntmps63
    go_wp2_with fail
    rw [HW.out]
    refine (HSH.out _).mono ?_
    rintro e ws ⟨rfl, hbs⟩
    obtain ⟨c0, c1, c2, c3, c4, c5⟩ := boxed6 HX.out hbs
    have hl1 : w.heap.size < ws.heap.size := by have := HX.out.size; have := hbs.size; omega
    have hbw : Below w.heap.size w ws := HX.out.below.trans (hbs.mono HX.out.below.size)
    clear hbs
    go_wp2_with fail
    go_ret
    exact ⟨ret_intE (a := 1) HE.out.symm, hbw.alloc (by first | omega | (simp; done) | (simp; omega)) _⟩
  obtain rfl := size_zero hz
  clear hz
  by_cases hz : it = 0
  rotate_left
  · have HE := Lib.hid (checkE_bad (sub := sub) (checkN_arg (nm := ⟨#[]⟩) (mr := ⟨#[]⟩) (it := it) (d := d) hsh (by simp [argOk, hz])) (by decide))
    have hz1 : (it != 0) = true := by simpa using hz
    clear hz
    obtain ⟨w1, hw1, hX⟩ := boxed w #[.int .i64 k, .string ⟨#[]⟩, .string ⟨#[]⟩, .int .i64 it, .int .i64 d, .slice p sub.length cap] 35
    have HW := Lib.hid hw1
    have HX := Lib.hid hX
    clear hX hw1 hsh
    go_enter Tryz.func63, Tryz.ntmps63
    go_wp2_with fail
    rw [HW.out]
    refine (HSH.out _).mono ?_
    rintro e ws ⟨rfl, hbs⟩
    obtain ⟨c0, c1, c2, c3, c4, c5⟩ := boxed6 HX.out hbs
    have hl1 : w.heap.size < ws.heap.size := by have := HX.out.size; have := hbs.size; omega
    have hbw : Below w.heap.size w ws := HX.out.below.trans (hbs.mono HX.out.below.size)
    clear hbs
    go_wp2_with fail
    go_ret
    exact ⟨ret_intE (a := 1) HE.out.symm, hbw.alloc (by first | omega | (simp; done) | (simp; omega)) _⟩
  subst hz
  by_cases hz : d = 0
  rotate_left
  · have HE := Lib.hid (checkE_bad (sub := sub) (checkN_arg (nm := ⟨#[]⟩) (mr := ⟨#[]⟩) (it := 0) (d := d) hsh (by simp [argOk, hz])) (by decide))
    have hz1 : (d != 0) = true := by simpa using hz
    clear hz
    obtain ⟨w1, hw1, hX⟩ := boxed w #[.int .i64 k, .string ⟨#[]⟩, .string ⟨#[]⟩, .int .i64 0, .int .i64 d, .slice p sub.length cap] 35
    have HW := Lib.hid hw1
    have HX := Lib.hid hX
    clear hX hw1 hsh
    go_enter Tryz.func63, Tryz.ntmps63
    go_wp2_with fail
    rw [HW.out]
    refine (HSH.out _).mono ?_
    rintro e ws ⟨rfl, hbs⟩
    obtain ⟨c0, c1, c2, c3, c4, c5⟩ := boxed6 HX.out hbs
    have hl1 : w.heap.size < ws.heap.size := by have := HX.out.size; have := hbs.size; omega
    have hbw : Below w.heap.size w ws := HX.out.below.trans (hbs.mono HX.out.below.size)
    clear hbs
    go_wp2_with fail
    go_ret
    exact ⟨ret_intE (a := 1) HE.out.symm, hbw.alloc (by first | omega | (simp; done) | (simp; omega)) _⟩
  subst hz
  by_cases hz : sub.length = ns
  rotate_left
  · have HE := Lib.hid (checkE_bad (sub := sub) (checkN_arg (nm := ⟨#[]⟩) (mr := ⟨#[]⟩) (it := 0) (d := 0) hsh (by simp [argOk, hz])) (by decide))
    have hz1 : ((sub.length : Int) != (ns : Int)) = true := by simp; omega
    have hz2 : (sub.length != ns) = true := by simpa using hz
    clear hz
    obtain ⟨w1, hw1, hX⟩ := boxed w #[.int .i64 k, .string ⟨#[]⟩, .string ⟨#[]⟩, .int .i64 0, .int .i64 0, .slice p sub.length cap] 35
    have HW := Lib.hid hw1
    have HX := Lib.hid hX
    clear hX hw1 hsh
    go_enter Tryz.func63, Tryz.ntmps63
    go_wp2_with fail
    rw [HW.out]
    refine (HSH.out _).mono ?_
    rintro e ws ⟨rfl, hbs⟩
    obtain ⟨c0, c1, c2, c3, c4, c5⟩ := boxed6 HX.out hbs
    have hl1 : w.heap.size < ws.heap.size := by have := HX.out.size; have := hbs.size; omega
    have hbw : Below w.heap.size w ws := HX.out.below.trans (hbs.mono HX.out.below.size)
    clear hbs
    go_wp2_with fail
    go_ret
    exact ⟨ret_intE (a := 1) HE.out.symm, hbw.alloc (by first | omega | (simp; done) | (simp; omega)) _⟩
  subst hz
  have hok : argOk 0 0 sub.length ⟨#[]⟩ ⟨#[]⟩ 0 0 sub.length = true := by simp [argOk] <;> rfl
  cases hz : namedB k ⟨#[]⟩ ⟨#[]⟩ false false
  · have HE := Lib.hid (checkE_bad (sub := sub) ((checkN_names hsh hok (by rw [show namesErr k ⟨#[]⟩ ⟨#[]⟩ (decide (1 ≤ 0)) (decide (2 ≤ 0)) = 6 from names6 hz]; decide)).trans (names6 hz)) (by decide))
    have HNB : Hid (∀ W : World, Calls Tryz.prog 99 #[.agg #[.int .i64 k, .string ⟨#[]⟩, .string ⟨#[]⟩, .int .i64 0, .int .i64 0, .slice p sub.length cap], .agg #[.bool false, .bool false, .bool false, .bool false, .int .i64 sub.length]] W fun e w' => e = .returned (.bool false) ∧ Below W.heap.size W w') := Lib.hid (fun W => by have := rnamed_any k ⟨#[]⟩ ⟨#[]⟩ 0 0 (.slice p sub.length cap) false false false false sub.length W; rw [hz] at this; exact this)
    clear hz hok
    obtain ⟨w1, hw1, hX⟩ := boxed w #[.int .i64 k, .string ⟨#[]⟩, .string ⟨#[]⟩, .int .i64 0, .int .i64 0, .slice p sub.length cap] 35
    have HW := Lib.hid hw1
    have HX := Lib.hid hX
    clear hX hw1 hsh
    go_enter Tryz.func63, Tryz.ntmps63
    go_wp2_with fail
    rw [HW.out]
    refine (HSH.out _).mono ?_
    rintro e ws ⟨rfl, hbs⟩
    obtain ⟨c0, c1, c2, c3, c4, c5⟩ := boxed6 HX.out hbs
    have hl1 : w.heap.size < ws.heap.size := by have := HX.out.size; have := hbs.size; omega
    have hbw : Below w.heap.size w ws := HX.out.below.trans (hbs.mono HX.out.below.size)
    clear hbs
    go_wp2_with (first | (go_at_call 99; refine (HNB.out _).mono ?_; rintro e wn ⟨rfl, hbn⟩; obtain ⟨hcn, hfn⟩ := bcellE hbn; have hln : w.heap.size < ws.heap.size + 1 := (by omega); have hln2 : w.heap.size < wn.heap.size := by (have hzz := hbn.size; simp at hzz; omega)))
    go_ret
    exact ⟨ret_intE (a := 6) HE.out.symm, (hbw.alloc (by first | omega | (simp; done) | (simp; omega)) _).trans (hbn.mono (by first | omega | (simp; done) | (simp; omega)))⟩
  · have hne : namesErr k ⟨#[]⟩ ⟨#[]⟩ (decide (1 ≤ 0)) (decide (2 ≤ 0)) = 0 := names0 hz (fun h => by have := not13 hsh (by decide); simp [h.1] at this)
    have h13 := not13 hsh (by decide)
    have HNB : Hid (∀ W : World, Calls Tryz.prog 99 #[.agg #[.int .i64 k, .string ⟨#[]⟩, .string ⟨#[]⟩, .int .i64 0, .int .i64 0, .slice p sub.length cap], .agg #[.bool false, .bool false, .bool false, .bool false, .int .i64 sub.length]] W fun e w' => e = .returned (.bool true) ∧ Below W.heap.size W w') := Lib.hid (fun W => by have := rnamed_any k ⟨#[]⟩ ⟨#[]⟩ 0 0 (.slice p sub.length cap) false false false false sub.length W; rw [hz] at this; exact this)
    clear hz
    have hrv := checkN_range hsh hok hne
    cases hz : rangedB k 0 0
    · have HE := Lib.hid (checkE_bad (sub := sub) (hrv.trans (show rangeErr k 0 0 = 2 by simp [rangeErr, hz])) (by decide))
      have HRG : Hid (∀ W : World, Calls Tryz.prog 100 #[.agg #[.int .i64 k, .string ⟨#[]⟩, .string ⟨#[]⟩, .int .i64 0, .int .i64 0, .slice p sub.length cap]] W fun e w' => e = .returned (.bool false) ∧ Below W.heap.size W w') := Lib.hid (fun W => by have := rranged_any k ⟨#[]⟩ ⟨#[]⟩ 0 0 (.slice p sub.length cap) W; rw [hz] at this; exact this)
      clear hz hok hne hrv
      obtain ⟨w1, hw1, hX⟩ := boxed w #[.int .i64 k, .string ⟨#[]⟩, .string ⟨#[]⟩, .int .i64 0, .int .i64 0, .slice p sub.length cap] 35
      have HW := Lib.hid hw1
      have HX := Lib.hid hX
      clear hX hw1 hsh
      go_enter Tryz.func63, Tryz.ntmps63
      go_wp2_with fail
      rw [HW.out]
      refine (HSH.out _).mono ?_
      rintro e ws ⟨rfl, hbs⟩
      obtain ⟨c0, c1, c2, c3, c4, c5⟩ := boxed6 HX.out hbs
      have hl1 : w.heap.size < ws.heap.size := by have := HX.out.size; have := hbs.size; omega
      have hbw : Below w.heap.size w ws := HX.out.below.trans (hbs.mono HX.out.below.size)
      clear hbs
      go_wp2_with (first | (go_at_call 99; refine (HNB.out _).mono ?_; rintro e wn ⟨rfl, hbn⟩; obtain ⟨hcn, hfn⟩ := bcellE hbn; have hln : w.heap.size < ws.heap.size + 1 := (by omega); have hln2 : w.heap.size < wn.heap.size := by (have hzz := hbn.size; simp at hzz; omega)) | (go_at_call 100; refine (HRG.out _).mono ?_; rintro e wq ⟨rfl, hbq⟩; obtain ⟨hcq, hfq⟩ := bcellE hbq))
      go_ret
      exact ⟨ret_intE (a := 2) HE.out.symm, ((hbw.alloc (by first | omega | (simp; done) | (simp; omega)) _).trans (hbn.mono (by first | omega | (simp; done) | (simp; omega)))).trans (hbq.mono (by have hz1 := hbn.size; simp at hz1; omega))⟩
    · have HE := Lib.hid (checkE_good (sub := sub) (hrv.trans (show rangeErr k 0 0 = 0 by simp [rangeErr, hz])))
      have HRG : Hid (∀ W : World, Calls Tryz.prog 100 #[.agg #[.int .i64 k, .string ⟨#[]⟩, .string ⟨#[]⟩, .int .i64 0, .int .i64 0, .slice p sub.length cap]] W fun e w' => e = .returned (.bool true) ∧ Below W.heap.size W w') := Lib.hid (fun W => by have := rranged_any k ⟨#[]⟩ ⟨#[]⟩ 0 0 (.slice p sub.length cap) W; rw [hz] at this; exact this)
      clear hz hok hne hrv
      obtain ⟨w1, hw1, hX⟩ := boxed w #[.int .i64 k, .string ⟨#[]⟩, .string ⟨#[]⟩, .int .i64 0, .int .i64 0, .slice p sub.length cap] 35
      have HW := Lib.hid hw1
      have HX := Lib.hid hX
      clear hX hw1 hsh
      go_enter Tryz.func63, Tryz.ntmps63
      go_wp2_with fail
      rw [HW.out]
      refine (HSH.out _).mono ?_
      rintro e ws ⟨rfl, hbs⟩
      obtain ⟨c0, c1, c2, c3, c4, c5⟩ := boxed6 HX.out hbs
      have hl1 : w.heap.size < ws.heap.size := by have := HX.out.size; have := hbs.size; omega
      have hbw : Below w.heap.size w ws := HX.out.below.trans (hbs.mono HX.out.below.size)
      clear hbs
      go_wp2_with (first | (go_at_call 99; refine (HNB.out _).mono ?_; rintro e wn ⟨rfl, hbn⟩; obtain ⟨hcn, hfn⟩ := bcellE hbn; have hln : w.heap.size < ws.heap.size + 1 := (by omega); have hln2 : w.heap.size < wn.heap.size := by (have hzz := hbn.size; simp at hzz; omega)) | (go_at_call 100; refine (HRG.out _).mono ?_; rintro e wq ⟨rfl, hbq⟩; obtain ⟨hcq, hfq⟩ := bcellE hbq))
      have hB0 : Below w.heap.size w wq := ((hbw.alloc (by first | omega | (simp; done) | (simp; omega)) _).trans (hbn.mono (by first | omega | (simp; done) | (simp; omega)))).trans (hbq.mono (by have hz1 := hbn.size; simp at hz1; omega))
      have hc5 : wq.cell? ⟨w.heap.size, 5, none⟩ = some (.slice p sub.length cap) := by
        rw [hcq _ _ hln2, hcn _ _ (by simp; omega)]; go_simp
      have hsz : w.heap.size < wq.heap.size := by have := hbq.size; omega
      have HB0 := Lib.hid hB0
      have HC5 := Lib.hid hc5
      clear hB0 hc5 hcq hfq hcn hfn hbn hbq c0 c1 c2 c3 c4 c5 HRG HNB HSH HX HW
      go_loopw [5] (fun i wr => CheckRel wq sub i wr) (fun i _ => sub.length - (intOf i).toNat)
      case atStart => exact ⟨0, by omega, rfl, by simp [checkEs], Below.refl _ _⟩
      case round =>
        obtain ⟨j, hj, rfl, hP, hBr⟩ := hrel
        have HP := Lib.hid hP
        have hcr := (hBr.cell (p := ⟨w.heap.size, 5, none⟩) hsz).trans HC5.out
        clear hP
        by_cases hlt : j < sub.length
        · have hbw' : Below w.heap.size w wr := HB0.out.trans (hBr.mono (by omega))
          obtain ⟨b, off, cv, rfl, g0, g1, g2, g3, g4, g5, g6⟩ := subAt_at HS.out hbw' j hlt
          have hn1 := nodesL_get sub j hlt
          have hn2 := nodesE_eq sub[j]
          have hC := Lib.hid (HIH.out sub[j].kind sub[j].name sub[j].more sub[j].int sub[j].den sub[j].sub cv wr (by omega) g6)
          rw [Ex.eta] at hC
          clear g6 hn1 hn2
          by_cases hq : checkE sub[j] = 0
          · rw [hq] at hC
            have HT := Lib.hid ((checkEs_take_succ sub j hlt HP.out).trans hq)
            clear hq
            go_wp2_with (go_at_call 63; refine (hC.out).mono ?_; rintro e w' ⟨rfl, hb1⟩)
            go_roundw
            case rel => exact ⟨j + 1, by omega, by go_num, HT.out, hBr.trans (hb1.mono hBr.size)⟩
            case measure => simp [intOf]; omega
          · have HT := Lib.hid (checkEs_bad hlt HP.out hq)
            have hq1 : (checkE sub[j] != 0) = true := by simpa using hq
            clear hq
            generalize checkE sub[j] = C at *
            go_wp2_with (go_at_call 63; refine (hC.out).mono ?_; rintro e w' ⟨rfl, hb1⟩)
            go_ret
            exact ⟨ret_intE (a := C) (by rw [HE.out, HT.out]), HB0.out.trans ((hBr.mono (by omega)).trans (hb1.mono (by have := hBr.size; omega)))⟩
        · obtain rfl : j = sub.length := by omega
          go_wp2_with fail
          go_ret
          exact ⟨ret_intE (a := 0) (by have := HP.out; rw [List.take_length] at this; rw [HE.out, this]), HB0.out.trans (hBr.mono (by omega))⟩
set_option maxRecDepth 100000 in
set_option maxHeartbeats 8000000 in
theorem rcheck_02 (N : Nat) (ih : ∀ (k : Int) (nm mr : ByteArray) (it d : Int) (sub : List Ex) (sv : Value) (w : World), nodesL sub < N → SubAt w w.heap.size sub sv → Calls Tryz.prog 63 #[.agg #[.int .i64 k, .string nm, .string mr, .int .i64 it, .int .i64 d, sv]] w fun e w' => e = .returned (.int .i64 (checkE (.mk k nm mr it d sub))) ∧ Below w.heap.size w w')
    (k : Int) (ns : Nat) (nm mr : ByteArray) (it d : Int) (sub : List Ex) (sv : Value) (w : World) (hN : nodesL sub < N + 1) (hm : nodesL sub ≤ 1099511627776) (hs : SubAt w w.heap.size sub sv) (hsh : shapeK k = some (0, 2, ns)) :
    Calls Tryz.prog 63 #[.agg #[.int .i64 k, .string nm, .string mr, .int .i64 it, .int .i64 d, sv]] w fun e w' => e = .returned (.int .i64 (checkE (.mk k nm mr it d sub))) ∧ Below w.heap.size w w' := by
  obtain ⟨p, cap, rfl, hcap, _⟩ := subAt_open hs
  have HS := Lib.hid hs
  clear hs
  have hl := length_le_nodesL sub
  have HSH : Hid (∀ W : World, Calls Tryz.prog 98 #[.int .i64 k] W fun e w' => e = .returned (.tuple #[.agg #[.bool false, .bool false, .bool true, .bool true, .int .i64 ns], .bool true]) ∧ Below W.heap.size W w') := Lib.hid (fun W => rshapeOf_yes k 0 2 ns W hsh)
  have HIH := Lib.hid ih
  clear ih
  by_cases hz : nm.size = 0
  rotate_left
  · have HE := Lib.hid (checkE_bad (sub := sub) (checkN_arg (nm := nm) (mr := mr) (it := it) (d := d) hsh (by simp [argOk, hz])) (by decide))
    have hz1 := toList_ne' hz
    clear hz
    obtain ⟨w1, hw1, hX⟩ := boxed w #[.int .i64 k, .string nm, .string mr, .int .i64 it, .int .i64 d, .slice p sub.length cap] 35
    have HW := Lib.hid hw1
    have HX := Lib.hid hX
    clear hX hw1 hsh
    go_enter Tryz.func63, Tryz.ntmps63
    go_wp2_with fail
    rw [HW.out]
    refine (HSH.out _).mono ?_
    rintro e ws ⟨rfl, hbs⟩
    obtain ⟨c0, c1, c2, c3, c4, c5⟩ := boxed6 HX.out hbs
    have hl1 : w.heap.size < ws.heap.size := by have := HX.out.size; have := hbs.size; omega
    have hbw : Below w.heap.size w ws := HX.out.below.trans (hbs.mono HX.out.below.size)
    clear hbs
    go_wp2_with fail
    go_ret
    exact ⟨ret_intE (a := 1) HE.out.symm, hbw.alloc (by first | omega | (simp; done) | (simp; omega)) _⟩
  obtain rfl := size_zero hz
  clear hz
  by_cases hz : mr.size = 0
  rotate_left
  · have HE := Lib.hid (checkE_bad (sub := sub) (checkN_arg (nm := ⟨#[]⟩) (mr := mr) (it := it) (d := d) hsh (by simp [argOk, hz])) (by decide))
    have hz1 := toList_ne' hz
    clear hz
    obtain ⟨w1, hw1, hX⟩ := boxed w #[.int .i64 k, .string ⟨#[]⟩, .string mr, .int .i64 it, .int .i64 d, .slice p sub.length cap] 35
    have HW := Lib.hid hw1
    have HX := Lib.hid hX
    clear hX hw1 hsh
    go_enter Tryz.func63, Tryz.ntmps63
    go_wp2_with fail
    rw [HW.out]
    refine (HSH.out _).mono ?_
    rintro e ws ⟨rfl, hbs⟩
    obtain ⟨c0, c1, c2, c3, c4, c5⟩ := boxed6 HX.out hbs
    have hl1 : w.heap.size < ws.heap.size := by have := HX.out.size; have := hbs.size; omega
    have hbw : Below w.heap.size w ws := HX.out.below.trans (hbs.mono HX.out.below.size)
    clear hbs
    go_wp2_with fail
    go_ret
    exact ⟨ret_intE (a := 1) HE.out.symm, hbw.alloc (by first | omega | (simp; done) | (simp; omega)) _⟩
  obtain rfl := size_zero hz
  clear hz
  by_cases hz : sub.length = ns
  rotate_left
  · have HE := Lib.hid (checkE_bad (sub := sub) (checkN_arg (nm := ⟨#[]⟩) (mr := ⟨#[]⟩) (it := it) (d := d) hsh (by simp [argOk, hz])) (by decide))
    have hz1 : ((sub.length : Int) != (ns : Int)) = true := by simp; omega
    have hz2 : (sub.length != ns) = true := by simpa using hz
    clear hz
    obtain ⟨w1, hw1, hX⟩ := boxed w #[.int .i64 k, .string ⟨#[]⟩, .string ⟨#[]⟩, .int .i64 it, .int .i64 d, .slice p sub.length cap] 35
    have HW := Lib.hid hw1
    have HX := Lib.hid hX
    clear hX hw1 hsh
    go_enter Tryz.func63, Tryz.ntmps63
    go_wp2_with fail
    rw [HW.out]
    refine (HSH.out _).mono ?_
    rintro e ws ⟨rfl, hbs⟩
    obtain ⟨c0, c1, c2, c3, c4, c5⟩ := boxed6 HX.out hbs
    have hl1 : w.heap.size < ws.heap.size := by have := HX.out.size; have := hbs.size; omega
    have hbw : Below w.heap.size w ws := HX.out.below.trans (hbs.mono HX.out.below.size)
    clear hbs
    go_wp2_with fail
    go_ret
    exact ⟨ret_intE (a := 1) HE.out.symm, hbw.alloc (by first | omega | (simp; done) | (simp; omega)) _⟩
  subst hz
  have hok : argOk 0 2 sub.length ⟨#[]⟩ ⟨#[]⟩ it d sub.length = true := by simp [argOk] <;> rfl
  cases hz : namedB k ⟨#[]⟩ ⟨#[]⟩ false false
  · have HE := Lib.hid (checkE_bad (sub := sub) ((checkN_names hsh hok (by rw [show namesErr k ⟨#[]⟩ ⟨#[]⟩ (decide (1 ≤ 0)) (decide (2 ≤ 0)) = 6 from names6 hz]; decide)).trans (names6 hz)) (by decide))
    have HNB : Hid (∀ W : World, Calls Tryz.prog 99 #[.agg #[.int .i64 k, .string ⟨#[]⟩, .string ⟨#[]⟩, .int .i64 it, .int .i64 d, .slice p sub.length cap], .agg #[.bool false, .bool false, .bool true, .bool true, .int .i64 sub.length]] W fun e w' => e = .returned (.bool false) ∧ Below W.heap.size W w') := Lib.hid (fun W => by have := rnamed_any k ⟨#[]⟩ ⟨#[]⟩ it d (.slice p sub.length cap) false false true true sub.length W; rw [hz] at this; exact this)
    clear hz hok
    obtain ⟨w1, hw1, hX⟩ := boxed w #[.int .i64 k, .string ⟨#[]⟩, .string ⟨#[]⟩, .int .i64 it, .int .i64 d, .slice p sub.length cap] 35
    have HW := Lib.hid hw1
    have HX := Lib.hid hX
    clear hX hw1 hsh
    go_enter Tryz.func63, Tryz.ntmps63
    go_wp2_with fail
    rw [HW.out]
    refine (HSH.out _).mono ?_
    rintro e ws ⟨rfl, hbs⟩
    obtain ⟨c0, c1, c2, c3, c4, c5⟩ := boxed6 HX.out hbs
    have hl1 : w.heap.size < ws.heap.size := by have := HX.out.size; have := hbs.size; omega
    have hbw : Below w.heap.size w ws := HX.out.below.trans (hbs.mono HX.out.below.size)
    clear hbs
    go_wp2_with (first | (go_at_call 99; refine (HNB.out _).mono ?_; rintro e wn ⟨rfl, hbn⟩; obtain ⟨hcn, hfn⟩ := bcellE hbn; have hln : w.heap.size < ws.heap.size + 1 := (by omega); have hln2 : w.heap.size < wn.heap.size := by (have hzz := hbn.size; simp at hzz; omega)))
    go_ret
    exact ⟨ret_intE (a := 6) HE.out.symm, (hbw.alloc (by first | omega | (simp; done) | (simp; omega)) _).trans (hbn.mono (by first | omega | (simp; done) | (simp; omega)))⟩
  · have hne : namesErr k ⟨#[]⟩ ⟨#[]⟩ (decide (1 ≤ 0)) (decide (2 ≤ 0)) = 0 := names0 hz (fun h => by have := not13 hsh (by decide); simp [h.1] at this)
    have h13 := not13 hsh (by decide)
    have HNB : Hid (∀ W : World, Calls Tryz.prog 99 #[.agg #[.int .i64 k, .string ⟨#[]⟩, .string ⟨#[]⟩, .int .i64 it, .int .i64 d, .slice p sub.length cap], .agg #[.bool false, .bool false, .bool true, .bool true, .int .i64 sub.length]] W fun e w' => e = .returned (.bool true) ∧ Below W.heap.size W w') := Lib.hid (fun W => by have := rnamed_any k ⟨#[]⟩ ⟨#[]⟩ it d (.slice p sub.length cap) false false true true sub.length W; rw [hz] at this; exact this)
    clear hz
    have hrv := checkN_range hsh hok hne
    cases hz : rangedB k it d
    · have HE := Lib.hid (checkE_bad (sub := sub) (hrv.trans (show rangeErr k it d = 2 by simp [rangeErr, hz])) (by decide))
      have HRG : Hid (∀ W : World, Calls Tryz.prog 100 #[.agg #[.int .i64 k, .string ⟨#[]⟩, .string ⟨#[]⟩, .int .i64 it, .int .i64 d, .slice p sub.length cap]] W fun e w' => e = .returned (.bool false) ∧ Below W.heap.size W w') := Lib.hid (fun W => by have := rranged_any k ⟨#[]⟩ ⟨#[]⟩ it d (.slice p sub.length cap) W; rw [hz] at this; exact this)
      clear hz hok hne hrv
      obtain ⟨w1, hw1, hX⟩ := boxed w #[.int .i64 k, .string ⟨#[]⟩, .string ⟨#[]⟩, .int .i64 it, .int .i64 d, .slice p sub.length cap] 35
      have HW := Lib.hid hw1
      have HX := Lib.hid hX
      clear hX hw1 hsh
      go_enter Tryz.func63, Tryz.ntmps63
      go_wp2_with fail
      rw [HW.out]
      refine (HSH.out _).mono ?_
      rintro e ws ⟨rfl, hbs⟩
      obtain ⟨c0, c1, c2, c3, c4, c5⟩ := boxed6 HX.out hbs
      have hl1 : w.heap.size < ws.heap.size := by have := HX.out.size; have := hbs.size; omega
      have hbw : Below w.heap.size w ws := HX.out.below.trans (hbs.mono HX.out.below.size)
      clear hbs
      go_wp2_with (first | (go_at_call 99; refine (HNB.out _).mono ?_; rintro e wn ⟨rfl, hbn⟩; obtain ⟨hcn, hfn⟩ := bcellE hbn; have hln : w.heap.size < ws.heap.size + 1 := (by omega); have hln2 : w.heap.size < wn.heap.size := by (have hzz := hbn.size; simp at hzz; omega)) | (go_at_call 100; refine (HRG.out _).mono ?_; rintro e wq ⟨rfl, hbq⟩; obtain ⟨hcq, hfq⟩ := bcellE hbq))
      go_ret
      exact ⟨ret_intE (a := 2) HE.out.symm, ((hbw.alloc (by first | omega | (simp; done) | (simp; omega)) _).trans (hbn.mono (by first | omega | (simp; done) | (simp; omega)))).trans (hbq.mono (by have hz1 := hbn.size; simp at hz1; omega))⟩
    · have HE := Lib.hid (checkE_good (sub := sub) (hrv.trans (show rangeErr k it d = 0 by simp [rangeErr, hz])))
      have HRG : Hid (∀ W : World, Calls Tryz.prog 100 #[.agg #[.int .i64 k, .string ⟨#[]⟩, .string ⟨#[]⟩, .int .i64 it, .int .i64 d, .slice p sub.length cap]] W fun e w' => e = .returned (.bool true) ∧ Below W.heap.size W w') := Lib.hid (fun W => by have := rranged_any k ⟨#[]⟩ ⟨#[]⟩ it d (.slice p sub.length cap) W; rw [hz] at this; exact this)
      clear hz hok hne hrv
      obtain ⟨w1, hw1, hX⟩ := boxed w #[.int .i64 k, .string ⟨#[]⟩, .string ⟨#[]⟩, .int .i64 it, .int .i64 d, .slice p sub.length cap] 35
      have HW := Lib.hid hw1
      have HX := Lib.hid hX
      clear hX hw1 hsh
      go_enter Tryz.func63, Tryz.ntmps63
      go_wp2_with fail
      rw [HW.out]
      refine (HSH.out _).mono ?_
      rintro e ws ⟨rfl, hbs⟩
      obtain ⟨c0, c1, c2, c3, c4, c5⟩ := boxed6 HX.out hbs
      have hl1 : w.heap.size < ws.heap.size := by have := HX.out.size; have := hbs.size; omega
      have hbw : Below w.heap.size w ws := HX.out.below.trans (hbs.mono HX.out.below.size)
      clear hbs
      go_wp2_with (first | (go_at_call 99; refine (HNB.out _).mono ?_; rintro e wn ⟨rfl, hbn⟩; obtain ⟨hcn, hfn⟩ := bcellE hbn; have hln : w.heap.size < ws.heap.size + 1 := (by omega); have hln2 : w.heap.size < wn.heap.size := by (have hzz := hbn.size; simp at hzz; omega)) | (go_at_call 100; refine (HRG.out _).mono ?_; rintro e wq ⟨rfl, hbq⟩; obtain ⟨hcq, hfq⟩ := bcellE hbq))
      have hB0 : Below w.heap.size w wq := ((hbw.alloc (by first | omega | (simp; done) | (simp; omega)) _).trans (hbn.mono (by first | omega | (simp; done) | (simp; omega)))).trans (hbq.mono (by have hz1 := hbn.size; simp at hz1; omega))
      have hc5 : wq.cell? ⟨w.heap.size, 5, none⟩ = some (.slice p sub.length cap) := by
        rw [hcq _ _ hln2, hcn _ _ (by simp; omega)]; go_simp
      have hsz : w.heap.size < wq.heap.size := by have := hbq.size; omega
      have HB0 := Lib.hid hB0
      have HC5 := Lib.hid hc5
      clear hB0 hc5 hcq hfq hcn hfn hbn hbq c0 c1 c2 c3 c4 c5 HRG HNB HSH HX HW
      go_loopw [5] (fun i wr => CheckRel wq sub i wr) (fun i _ => sub.length - (intOf i).toNat)
      case atStart => exact ⟨0, by omega, rfl, by simp [checkEs], Below.refl _ _⟩
      case round =>
        obtain ⟨j, hj, rfl, hP, hBr⟩ := hrel
        have HP := Lib.hid hP
        have hcr := (hBr.cell (p := ⟨w.heap.size, 5, none⟩) hsz).trans HC5.out
        clear hP
        by_cases hlt : j < sub.length
        · have hbw' : Below w.heap.size w wr := HB0.out.trans (hBr.mono (by omega))
          obtain ⟨b, off, cv, rfl, g0, g1, g2, g3, g4, g5, g6⟩ := subAt_at HS.out hbw' j hlt
          have hn1 := nodesL_get sub j hlt
          have hn2 := nodesE_eq sub[j]
          have hC := Lib.hid (HIH.out sub[j].kind sub[j].name sub[j].more sub[j].int sub[j].den sub[j].sub cv wr (by omega) g6)
          rw [Ex.eta] at hC
          clear g6 hn1 hn2
          by_cases hq : checkE sub[j] = 0
          · rw [hq] at hC
            have HT := Lib.hid ((checkEs_take_succ sub j hlt HP.out).trans hq)
            clear hq
            go_wp2_with (go_at_call 63; refine (hC.out).mono ?_; rintro e w' ⟨rfl, hb1⟩)
            go_roundw
            case rel => exact ⟨j + 1, by omega, by go_num, HT.out, hBr.trans (hb1.mono hBr.size)⟩
            case measure => simp [intOf]; omega
          · have HT := Lib.hid (checkEs_bad hlt HP.out hq)
            have hq1 : (checkE sub[j] != 0) = true := by simpa using hq
            clear hq
            generalize checkE sub[j] = C at *
            go_wp2_with (go_at_call 63; refine (hC.out).mono ?_; rintro e w' ⟨rfl, hb1⟩)
            go_ret
            exact ⟨ret_intE (a := C) (by rw [HE.out, HT.out]), HB0.out.trans ((hBr.mono (by omega)).trans (hb1.mono (by have := hBr.size; omega)))⟩
        · obtain rfl : j = sub.length := by omega
          go_wp2_with fail
          go_ret
          exact ⟨ret_intE (a := 0) (by have := HP.out; rw [List.take_length] at this; rw [HE.out, this]), HB0.out.trans (hBr.mono (by omega))⟩
theorem rcheck_any (N : Nat) : ∀ (k : Int) (nm mr : ByteArray) (it d : Int) (sub : List Ex) (sv : Value) (w : World), nodesL sub < N → N ≤ 1099511627776 → SubAt w w.heap.size sub sv →
    Calls Tryz.prog 63 #[.agg #[.int .i64 k, .string nm, .string mr, .int .i64 it, .int .i64 d, sv]] w fun e w' => e = .returned (.int .i64 (checkE (.mk k nm mr it d sub))) ∧ Below w.heap.size w w' := by
  induction N with
  | zero => intro k nm mr it d sub sv w hN; omega
  | succ N ih =>
    intro k nm mr it d sub sv w hN hm hs
    have ih' := fun k nm mr it d sub sv w h1 h2 => ih k nm mr it d sub sv w h1 (by omega) h2
    rcases h : shapeK k with _ | ⟨nn, nu, ns⟩
    · exact rcheck_no k nm mr it d sub sv w hs h
    · rcases shape_flags h with ⟨rfl, rfl⟩ | ⟨rfl, rfl⟩ | ⟨rfl, rfl⟩ | ⟨rfl, rfl⟩ | ⟨rfl, rfl⟩ | ⟨rfl, rfl⟩
      · exact rcheck_01 N ih' k ns nm mr it d sub sv w hN (by omega) hs h
      · exact rcheck_10 N ih' k ns nm mr it d sub sv w hN (by omega) hs h
      · exact rcheck_20 N ih' k ns nm mr it d sub sv w hN (by omega) hs h
      · exact rcheck_11 N ih' k ns nm mr it d sub sv w hN (by omega) hs h
      · exact rcheck_00 N ih' k ns nm mr it d sub sv w hN (by omega) hs h
      · exact rcheck_02 N ih' k ns nm mr it d sub sv w hN (by omega) hs h
end Go.Proofs.YtnphcjpccieljaaGreatDoor
