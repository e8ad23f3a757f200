/- alike of exprmerge and of the reference; equal of exprmerge. -/
import Derived.Test.YtiagjpiclnmpkaaDoorGExB
namespace Go.Proofs.YtiagjpiclnmpkaaDoor
open Go.RowKit

set_option maxRecDepth 100000 in
set_option maxHeartbeats 2000000 in
theorem malike_any (k : Int) (nm mr : ByteArray) (it d : Int) (sub : List Ex) (p : Option Addr) (cap : Nat) (k' : Int) (nm' mr' : ByteArray) (it' d' : Int) (sub' : List Ex) (p' : Option Addr) (cap' : Nat) (w : World) :
    Calls Tryd.prog 43 #[.agg #[.int .i64 k, .string nm, .string mr, .int .i64 it, .int .i64 d, .slice p sub.length cap], .agg #[.int .i64 k', .string nm', .string mr', .int .i64 it', .int .i64 d', .slice p' sub'.length cap']] w fun e w' => e = .returned (.bool (alikeE (.mk k nm mr it d sub) (.mk k' nm' mr' it' d' sub'))) ∧ Below w.heap.size w w' := by
  by_cases hal : alikeE (.mk k nm mr it d sub) (.mk k' nm' mr' it' d' sub') = true
  · obtain ⟨rfl, rfl, rfl, rfl, rfl, hlen⟩ : k = k' ∧ nm = nm' ∧ mr = mr' ∧ it = it' ∧ d = d' ∧ sub.length = sub'.length := (alikeE_iff _ _).1 hal
    rw [hal]
    have e1 : ((sub.length : Int) == (sub'.length : Int)) = true := by rw [hlen]; simp
    have e2 : (sub.length == sub'.length) = true := by rw [hlen]; simp
    clear hal hlen
    go_enter Tryd.func43, Tryd.ntmps43
    go_wp2_with fail
    go_ret
    exact ⟨rfl, ((Below.refl _ _).alloc (Nat.le_refl _) _).alloc (by simp) _⟩
  · have hal' : alikeE (.mk k nm mr it d sub) (.mk k' nm' mr' it' d' sub') = false := by simpa using hal
    rw [hal']
    clear hal'
    by_cases h0 : k = k'
    rotate_left
    · have f0 : (k == k') = false := by simpa using h0
      clear h0 hal
      go_enter Tryd.func43, Tryd.ntmps43
      go_wp2_with fail
      go_ret
      exact ⟨rfl, ((Below.refl _ _).alloc (Nat.le_refl _) _).alloc (by simp) _⟩
    subst h0
    by_cases h1 : nm = nm'
    rotate_left
    · have f1 : (nm.toList == nm'.toList) = false := (Lib.bytes_beq_false_iff _ _).2 h1
      clear h1 hal
      go_enter Tryd.func43, Tryd.ntmps43
      go_wp2_with fail
      go_ret
      exact ⟨rfl, ((Below.refl _ _).alloc (Nat.le_refl _) _).alloc (by simp) _⟩
    subst h1
    by_cases h2 : mr = mr'
    rotate_left
    · have f2 : (mr.toList == mr'.toList) = false := (Lib.bytes_beq_false_iff _ _).2 h2
      clear h2 hal
      go_enter Tryd.func43, Tryd.ntmps43
      go_wp2_with fail
      go_ret
      exact ⟨rfl, ((Below.refl _ _).alloc (Nat.le_refl _) _).alloc (by simp) _⟩
    subst h2
    by_cases h3 : it = it'
    rotate_left
    · have f3 : (it == it') = false := by simpa using h3
      clear h3 hal
      go_enter Tryd.func43, Tryd.ntmps43
      go_wp2_with fail
      go_ret
      exact ⟨rfl, ((Below.refl _ _).alloc (Nat.le_refl _) _).alloc (by simp) _⟩
    subst h3
    by_cases h4 : d = d'
    rotate_left
    · have f4 : (d == d') = false := by simpa using h4
      clear h4 hal
      go_enter Tryd.func43, Tryd.ntmps43
      go_wp2_with fail
      go_ret
      exact ⟨rfl, ((Below.refl _ _).alloc (Nat.le_refl _) _).alloc (by simp) _⟩
    subst h4
    have hlen : sub.length ≠ sub'.length := fun h => hal ((alikeE_iff _ _).2 ⟨rfl, rfl, rfl, rfl, rfl, h⟩)
    have f6 : ((sub.length : Int) == (sub'.length : Int)) = false := by simp; omega
    have f7 : (sub.length == sub'.length) = false := by simpa using hlen
    clear hal hlen
    go_enter Tryd.func43, Tryd.ntmps43
    go_wp2_with fail
    go_ret
    exact ⟨rfl, ((Below.refl _ _).alloc (Nat.le_refl _) _).alloc (by simp) _⟩
set_option maxRecDepth 100000 in
set_option maxHeartbeats 2000000 in
theorem ralike_any (k : Int) (nm mr : ByteArray) (it d : Int) (sub : List Ex) (p : Option Addr) (cap : Nat) (k' : Int) (nm' mr' : ByteArray) (it' d' : Int) (sub' : List Ex) (p' : Option Addr) (cap' : Nat) (w : World) :
    Calls Tryd.prog 44 #[.agg #[.int .i64 k, .string nm, .string mr, .int .i64 it, .int .i64 d, .slice p sub.length cap], .agg #[.int .i64 k', .string nm', .string mr', .int .i64 it', .int .i64 d', .slice p' sub'.length cap']] w fun e w' => e = .returned (.bool (alikeE (.mk k nm mr it d sub) (.mk k' nm' mr' it' d' sub'))) ∧ Below w.heap.size w w' := by
  by_cases hal : alikeE (.mk k nm mr it d sub) (.mk k' nm' mr' it' d' sub') = true
  · obtain ⟨rfl, rfl, rfl, rfl, rfl, hlen⟩ : k = k' ∧ nm = nm' ∧ mr = mr' ∧ it = it' ∧ d = d' ∧ sub.length = sub'.length := (alikeE_iff _ _).1 hal
    rw [hal]
    have e1 : ((sub.length : Int) == (sub'.length : Int)) = true := by rw [hlen]; simp
    have e2 : (sub.length == sub'.length) = true := by rw [hlen]; simp
    clear hal hlen
    go_enter Tryd.func44, Tryd.ntmps44
    go_wp2_with fail
    go_ret
    exact ⟨rfl, ((Below.refl _ _).alloc (Nat.le_refl _) _).alloc (by simp) _⟩
  · have hal' : alikeE (.mk k nm mr it d sub) (.mk k' nm' mr' it' d' sub') = false := by simpa using hal
    rw [hal']
    clear hal'
    by_cases h0 : k = k'
    rotate_left
    · have f0 : (k == k') = false := by simpa using h0
      clear h0 hal
      go_enter Tryd.func44, Tryd.ntmps44
      go_wp2_with fail
      go_ret
      exact ⟨rfl, ((Below.refl _ _).alloc (Nat.le_refl _) _).alloc (by simp) _⟩
    subst h0
    by_cases h1 : nm = nm'
    rotate_left
    · have f1 : (nm.toList == nm'.toList) = false := (Lib.bytes_beq_false_iff _ _).2 h1
      clear h1 hal
      go_enter Tryd.func44, Tryd.ntmps44
      go_wp2_with fail
      go_ret
      exact ⟨rfl, ((Below.refl _ _).alloc (Nat.le_refl _) _).alloc (by simp) _⟩
    subst h1
    by_cases h2 : mr = mr'
    rotate_left
    · have f2 : (mr.toList == mr'.toList) = false := (Lib.bytes_beq_false_iff _ _).2 h2
      clear h2 hal
      go_enter Tryd.func44, Tryd.ntmps44
      go_wp2_with fail
      go_ret
      exact ⟨rfl, ((Below.refl _ _).alloc (Nat.le_refl _) _).alloc (by simp) _⟩
    subst h2
    by_cases h3 : it = it'
    rotate_left
    · have f3 : (it == it') = false := by simpa using h3
      clear h3 hal
      go_enter Tryd.func44, Tryd.ntmps44
      go_wp2_with fail
      go_ret
      exact ⟨rfl, ((Below.refl _ _).alloc (Nat.le_refl _) _).alloc (by simp) _⟩
    subst h3
    by_cases h4 : d = d'
    rotate_left
    · have f4 : (d == d') = false := by simpa using h4
      clear h4 hal
      go_enter Tryd.func44, Tryd.ntmps44
      go_wp2_with fail
      go_ret
      exact ⟨rfl, ((Below.refl _ _).alloc (Nat.le_refl _) _).alloc (by simp) _⟩
    subst h4
    have hlen : sub.length ≠ sub'.length := fun h => hal ((alikeE_iff _ _).2 ⟨rfl, rfl, rfl, rfl, rfl, h⟩)
    have f6 : ((sub.length : Int) == (sub'.length : Int)) = false := by simp; omega
    have f7 : (sub.length == sub'.length) = false := by simpa using hlen
    clear hal hlen
    go_enter Tryd.func44, Tryd.ntmps44
    go_wp2_with fail
    go_ret
    exact ⟨rfl, ((Below.refl _ _).alloc (Nat.le_refl _) _).alloc (by simp) _⟩
set_option maxRecDepth 100000 in
set_option maxHeartbeats 2000000 in
theorem mequal_any (N : Nat) : ∀ (k : Int) (nm mr : ByteArray) (it d : Int) (sub : List Ex) (sv : Value) (k' : Int) (nm' mr' : ByteArray) (it' d' : Int) (sub' : List Ex) (sv' : Value) (w : World), nodesL sub < N → nodesL sub ≤ 1099511627776 → SubAt w w.heap.size sub sv → SubAt w w.heap.size sub' sv' →
    Calls Tryd.prog 42 #[.agg #[.int .i64 k, .string nm, .string mr, .int .i64 it, .int .i64 d, sv], .agg #[.int .i64 k', .string nm', .string mr', .int .i64 it', .int .i64 d', sv']] w fun e w' => e = .returned (.bool (sameE (.mk k nm mr it d sub) (.mk k' nm' mr' it' d' sub'))) ∧ Below w.heap.size w w' := by
  induction N with
  | zero => intro k nm mr it d sub sv _ _ _ _ _ _ _ w hN; omega
  | succ N ih =>
    intro k nm mr it d sub sv k' nm' mr' it' d' sub' sv' w hN hm hs hs'
    have hl := length_le_nodesL sub
    obtain ⟨p, cap, rfl, hcap, _⟩ := subAt_open hs
    obtain ⟨p', cap', rfl, hcap', _⟩ := subAt_open hs'
    obtain ⟨w1, hw1, hX⟩ := boxed w #[.int .i64 k, .string nm, .string mr, .int .i64 it, .int .i64 d, .slice p sub.length cap] 24
    obtain ⟨w2, hw2, hX2⟩ := boxed w1 #[.int .i64 k', .string nm', .string mr', .int .i64 it', .int .i64 d', .slice p' sub'.length cap'] 24
    have hz1 : w1.heap.size = w.heap.size + 1 := by rw [← hw1]; simp
    have hsz := hX.size
    have hsz2 := hX2.size
    have hB : Below w.heap.size w w2 := hX.below.trans (hX2.below.mono (by omega))
    have HS := Lib.hid hs
    have HS' := Lib.hid hs'
    have HIH := Lib.hid ih
    have HB := Lib.hid hB
    have HX := Lib.hid hX
    have HX2 := Lib.hid hX2
    have HW : Hid ((w.alloc (.cells #[.int .i64 k, .string nm, .string mr, .int .i64 it, .int .i64 d, .slice p sub.length cap] 24)).alloc (.cells #[.int .i64 k', .string nm', .string mr', .int .i64 it', .int .i64 d', .slice p' sub'.length cap'] 24) = w2) := Lib.hid (by rw [hw1, hw2])
    have HSE : Hid (sameE (.mk k nm mr it d sub) (.mk k' nm' mr' it' d' sub') = (alikeE (.mk k nm mr it d sub) (.mk k' nm' mr' it' d' sub') && sameL sub sub')) := Lib.hid (sameE_alike _ _)
    have HZ1 := Lib.hid hz1
    clear hs hs' ih hB hX hX2 hw1 hw2 hz1
    have HAL := Lib.hid (malike_any k nm mr it d sub p cap k' nm' mr' it' d' sub' p' cap' w2)
    by_cases hal : alikeE (.mk k nm mr it d sub) (.mk k' nm' mr' it' d' sub') = true
    · have hlen : sub.length = sub'.length := ((alikeE_iff _ _).1 hal).2.2.2.2.2
      rw [hal] at HSE HAL
      have HLEN := Lib.hid hlen
      clear hal hlen
      go_enter Tryd.func42, Tryd.ntmps42
      go_wp2_with fail
      rw [HW.out]
      refine (HAL.out).mono ?_
      rintro e wa ⟨rfl, hba⟩
      obtain ⟨x0, x1, x2, x3, x4, x5⟩ := boxed6 HX.out (HX2.out.below.trans (hba.mono HX2.out.below.size))
      obtain ⟨z0, z1, z2, z3, z4, z5⟩ := boxed6 HX2.out hba
      rw [HZ1.out] at z0 z1 z2 z3 z4 z5
      have HBA := Lib.hid (HB.out.trans (hba.mono HB.out.size))
      have hza : w2.heap.size ≤ wa.heap.size := hba.size
      go_wp2_with fail
      clear x0 x1 x2 x3 x4 x5 z0 z1 z2 z3 z4 z5
      obtain ⟨_, _, _, _, _, ha5⟩ := boxed6 HX.out (HX2.out.below.trans (hba.mono HX2.out.below.size))
      obtain ⟨_, _, _, _, _, hb5⟩ := boxed6 HX2.out hba
      rw [HZ1.out] at hb5
      have HA5 := Lib.hid ha5
      have HB5 := Lib.hid hb5
      clear ha5 hb5
      go_loopw [13] (fun i wr => SameRel wa sub sub' i wr) (fun i _ => sub.length - (intOf i).toNat)
      case atStart => exact ⟨0, by omega, rfl, by simp [sameL], Below.refl _ _⟩
      case round =>
        obtain ⟨j, hj, rfl, hP, hBr⟩ := hrel
        have HP := Lib.hid hP
        have hcr := (hBr.cell (p := ⟨w.heap.size, 5, none⟩) (by show w.heap.size < _; omega)).trans HA5.out
        have hcr' := (hBr.cell (p := ⟨w.heap.size + 1, 5, none⟩) (by have := HZ1.out; show w.heap.size + 1 < _; omega)).trans HB5.out
        clear hP
        by_cases hlt : j < sub.length
        · have hlt' : j < sub'.length := by have := HLEN.out; omega
          have hbw : Below w.heap.size w wr := HBA.out.trans (hBr.mono (by omega))
          obtain ⟨b, off, cv, rfl, g0, g1, g2, g3, g4, g5, g6⟩ := subAt_at HS.out hbw j hlt
          obtain ⟨b', off', cv', rfl, g0', g1', g2', g3', g4', g5', g6'⟩ := subAt_at HS'.out hbw j hlt'
          have hn1 := nodesL_get sub j hlt
          have hn2 := nodesE_eq sub[j]
          have hD : Below wr.heap.size wr wr.drew := below_drewE (Below.refl _ _)
          have hC := Lib.hid (HIH.out sub[j].kind sub[j].name sub[j].more sub[j].int sub[j].den sub[j].sub cv sub'[j].kind sub'[j].name sub'[j].more sub'[j].int sub'[j].den sub'[j].sub cv' wr.drew (by omega) (by omega) (subAt_below g6 hD hD.size) (subAt_below g6' hD hD.size))
          rw [Ex.eta, Ex.eta] at hC
          have HT := Lib.hid (sameL_take_succ sub sub' j hlt hlt')
          have l0 : (0 : Int) ≤ (j : Int) := by omega
          have l1 : (j : Int) < (sub.length : Int) := by omega
          have l2 : (j : Int) < (sub'.length : Int) := by omega
          clear g6 g6' hn1 hn2 hD
          go_wp2_with fail
          go_still_tail 10, (by kernel_rfl)
          cases hq : sameE sub[j] sub'[j]
          · rw [hq] at hC
            have HL := Lib.hid (sameL_bad HLEN.out hlt hlt' hq)
            clear hq
            go_wp2_with (go_at_call 42; refine (hC.out).mono ?_; rintro e w' ⟨rfl, hb1⟩)
            go_ret
            exact ⟨by rw [HSE.out, HL.out]; rfl, HBA.out.trans (((below_drewE hBr).mono (by omega)).trans (hb1.mono (by have := hBr.size; show _ ≤ wr.heap.size; omega)))⟩
          · rw [hq] at hC HT
            clear hq
            go_wp2_with (go_at_call 42; refine (hC.out).mono ?_; rintro e w' ⟨rfl, hb1⟩)
            go_roundw
            case rel => exact ⟨j + 1, by omega, by go_num, by rw [HT.out, HP.out]; rfl, (below_drewE hBr).trans (hb1.mono hBr.size)⟩
            case measure => simp [intOf]; omega
        · obtain rfl : j = sub.length := by omega
          have HP' : Hid (sameL sub sub' = true) := Lib.hid (by have := HP.out; rw [List.take_length, HLEN.out, List.take_length] at this; exact this)
          go_wp2_with fail
          go_ret
          exact ⟨by rw [HSE.out, HP'.out]; rfl, HBA.out.trans (hBr.mono (by omega))⟩
    · have hal' : alikeE (.mk k nm mr it d sub) (.mk k' nm' mr' it' d' sub') = false := by simpa using hal
      rw [hal'] at HSE HAL
      clear hal hal'
      go_enter Tryd.func42, Tryd.ntmps42
      go_wp2_with fail
      rw [HW.out]
      refine (HAL.out).mono ?_
      rintro e wa ⟨rfl, hba⟩
      go_wp2_with fail
      go_ret
      exact ⟨by rw [HSE.out]; rfl, HB.out.trans (hba.mono HB.out.size)⟩
end Go.Proofs.YtiagjpiclnmpkaaDoor
