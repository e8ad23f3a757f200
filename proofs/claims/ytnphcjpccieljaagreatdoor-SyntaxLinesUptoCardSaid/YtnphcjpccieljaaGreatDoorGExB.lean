/- Functions of the references that count over an expression. Great, Clean, Same of the references. -/
import Derived.Test.YtnphcjpccieljaaGreatDoorProg
import Derived.Test.YtnphcjpccieljaaGreatDoorGEx
import Derived.Outline
import Derived.StillTailTactics
import Derived.Deep.RegionHeld3
import Derived.Lib.SlicesS
namespace Go.Proofs.YtnphcjpccieljaaGreatDoor
open Go.RowKit

def CountRel (w1 : World) (f : List Ex → Nat) (sub : List Ex) (n i : Value) (wr : World) : Prop := ∃ j : Nat, j ≤ sub.length ∧ i = .int .i64 j ∧ n = .int .i64 (f (sub.take j) : Nat) ∧ Below w1.heap.size w1 wr
def LongRel (w1 : World) (f : List Ex → Bool) (sub : List Ex) (i : Value) (wr : World) : Prop := ∃ j : Nat, j ≤ sub.length ∧ i = .int .i64 j ∧ f (sub.take j) = false ∧ Below w1.heap.size w1 wr
set_option maxHeartbeats 1000000 in
theorem rNodes_any (N : Nat) : ∀ (k : Int) (nm mr : ByteArray) (it d : Int) (sub : List Ex) (sv : Value) (w : World), nodesL sub < N → nodesL sub ≤ 1099511627776 → SubAt w w.heap.size sub sv →
    Calls Tryz.prog 29 #[.agg #[.int .i64 k, .string nm, .string mr, .int .i64 it, .int .i64 d, sv]] w fun e w' => e = .returned (.int .i64 (nodesL sub + 1 : Nat)) ∧ Below w.heap.size w w' := by
  induction N with
  | zero => intro k nm mr it d sub sv w hN; omega
  | succ N ih =>
    intro k nm mr it d sub sv w hN hm hs
    have hl := length_le_nodesL sub
    obtain ⟨p, cap, rfl, hcap, _⟩ := subAt_open hs
    have HS := Lib.hid hs
    have HIH := Lib.hid ih
    clear hs ih
    obtain ⟨w1, hw1, hX⟩ := boxed w #[.int .i64 k, .string nm, .string mr, .int .i64 it, .int .i64 d, .slice p sub.length cap] 35
    have HW := Lib.hid hw1
    have hsz := hX.size
    have HB0 := Lib.hid hX.below
    have hc5 : w1.cell? ⟨w.heap.size, 5, none⟩ = some (.slice p sub.length cap) := hX.cell 5 (by simp)
    have HX := Lib.hid hX
    clear hX hw1
    go_enter Tryz.func29, Tryz.ntmps29
    go_wp2_with fail
    rw [HW.out]
    go_loopw [3, 4] (fun n i wr => CountRel w1 (fun l => nodesL l + 1) sub n i wr) (fun _ i _ => sub.length - (intOf i).toNat)
    case atStart => exact ⟨0, by omega, rfl, rfl, Below.refl _ _⟩
    case round =>
      obtain ⟨j, hj, rfl, rfl, hBr⟩ := hrel
      have hcr := (hBr.cell (p := ⟨w.heap.size, 5, none⟩) hsz).trans hc5
      have hcc := Lib.hid hc5
      have htk := nodesL_take_le sub j
      have hbd := hm
      clear hc5
      by_cases hlt : j < sub.length
      · have hbw : Below w.heap.size w wr := HB0.out.trans (hBr.mono (by omega))
        obtain ⟨b, off, cv, rfl, g0, g1, g2, g3, g4, g5, g6⟩ := subAt_at HS.out hbw j hlt
        have hn1 := nodesL_get sub j hlt
        have hn2 := nodesE_eq sub[j]
        have hC := Lib.hid (HIH.out sub[j].kind sub[j].name sub[j].more sub[j].int sub[j].den sub[j].sub cv wr (by omega) (by omega) g6)
        have HT := Lib.hid (nodesL_take_succ sub j hlt)
        rw [hn2] at HT
        have hn3 : nodesL sub[j].sub + 1 ≤ nodesL sub := by omega
        clear g6 hn1 hn2
        go_wp2_with (go_at_call 29; refine (hC.out).mono ?_; rintro e w' ⟨rfl, hb1⟩)
        go_roundw
        case rel => exact ⟨j + 1, by omega, by go_num, by simp only []; rw [HT.out]; go_num, hBr.trans (hb1.mono hBr.size)⟩
        case measure => simp [intOf]; omega
      · obtain rfl : j = sub.length := by omega
        go_wp2_with fail
        go_ret
        exact ⟨by simp [List.take_length], HB0.out.trans (hBr.mono (by omega))⟩
set_option maxHeartbeats 1000000 in
theorem rDepth_any (N : Nat) : ∀ (k : Int) (nm mr : ByteArray) (it d : Int) (sub : List Ex) (sv : Value) (w : World), nodesL sub < N → nodesL sub ≤ 1099511627776 → SubAt w w.heap.size sub sv →
    Calls Tryz.prog 20 #[.agg #[.int .i64 k, .string nm, .string mr, .int .i64 it, .int .i64 d, sv]] w fun e w' => e = .returned (.int .i64 (depthL sub + 1 : Nat)) ∧ Below w.heap.size w w' := by
  induction N with
  | zero => intro k nm mr it d sub sv w hN; omega
  | succ N ih =>
    intro k nm mr it d sub sv w hN hm hs
    have hl := length_le_nodesL sub
    obtain ⟨p, cap, rfl, hcap, _⟩ := subAt_open hs
    have HS := Lib.hid hs
    have HIH := Lib.hid ih
    clear hs ih
    obtain ⟨w1, hw1, hX⟩ := boxed w #[.int .i64 k, .string nm, .string mr, .int .i64 it, .int .i64 d, .slice p sub.length cap] 35
    have HW := Lib.hid hw1
    have hsz := hX.size
    have HB0 := Lib.hid hX.below
    have hc5 : w1.cell? ⟨w.heap.size, 5, none⟩ = some (.slice p sub.length cap) := hX.cell 5 (by simp)
    have HX := Lib.hid hX
    clear hX hw1
    go_enter Tryz.func20, Tryz.ntmps20
    go_wp2_with fail
    rw [HW.out]
    go_loopw [3, 4] (fun n i wr => CountRel w1 (fun l => depthL l) sub n i wr) (fun _ i _ => sub.length - (intOf i).toNat)
    case atStart => exact ⟨0, by omega, rfl, rfl, Below.refl _ _⟩
    case round =>
      obtain ⟨j, hj, rfl, rfl, hBr⟩ := hrel
      have hcr := (hBr.cell (p := ⟨w.heap.size, 5, none⟩) hsz).trans hc5
      have hcc := Lib.hid hc5
      have htk := depthL_take_le sub j
      have hbd := depthL_le sub
      clear hc5
      by_cases hlt : j < sub.length
      · have hbw : Below w.heap.size w wr := HB0.out.trans (hBr.mono (by omega))
        obtain ⟨b, off, cv, rfl, g0, g1, g2, g3, g4, g5, g6⟩ := subAt_at HS.out hbw j hlt
        have hn1 := nodesL_get sub j hlt
        have hn2 := nodesE_eq sub[j]
        have hC := Lib.hid (HIH.out sub[j].kind sub[j].name sub[j].more sub[j].int sub[j].den sub[j].sub cv wr (by omega) (by omega) g6)
        have HT := Lib.hid (depthL_take_succ sub j hlt)
        rw [depthE_eq] at HT
        have hn3 : depthL sub[j].sub ≤ nodesL sub[j].sub := depthL_le _
        have hn4 : nodesL sub[j].sub + 1 ≤ nodesL sub := by omega
        clear g6 hn1 hn2
        go_wp2_with (go_at_call 20; refine (hC.out).mono ?_; rintro e w' ⟨rfl, hb1⟩)
        go_roundw
        case rel => exact ⟨j + 1, by omega, by go_num, by simp only []; rw [HT.out]; go_num, hBr.trans (hb1.mono hBr.size)⟩
        case measure => simp [intOf]; omega
      · obtain rfl : j = sub.length := by omega
        go_wp2_with fail
        go_ret
        exact ⟨by simp [List.take_length], HB0.out.trans (hBr.mono (by omega))⟩
set_option maxHeartbeats 1000000 in
theorem rlong_any (N : Nat) : ∀ (k : Int) (nm mr : ByteArray) (it d : Int) (sub : List Ex) (sv : Value) (w : World), nodesL sub < N → nodesL sub ≤ 1099511627776 → SubAt w w.heap.size sub sv →
    Calls Tryz.prog 50 #[.agg #[.int .i64 k, .string nm, .string mr, .int .i64 it, .int .i64 d, sv]] w fun e w' => e = .returned (.bool (decide (100 < nm.size) || decide (100 < mr.size) || longL sub)) ∧ Below w.heap.size w w' := by
  induction N with
  | zero => intro k nm mr it d sub sv w hN; omega
  | succ N ih =>
    intro k nm mr it d sub sv w hN hm hs
    have hl := length_le_nodesL sub
    obtain ⟨p, cap, rfl, hcap, _⟩ := subAt_open hs
    have HS := Lib.hid hs
    have HIH := Lib.hid ih
    clear hs ih
    obtain ⟨w1, hw1, hX⟩ := boxed w #[.int .i64 k, .string nm, .string mr, .int .i64 it, .int .i64 d, .slice p sub.length cap] 35
    have HW := Lib.hid hw1
    have hsz := hX.size
    have HB0 := Lib.hid hX.below
    have hc5 : w1.cell? ⟨w.heap.size, 5, none⟩ = some (.slice p sub.length cap) := hX.cell 5 (by simp)
    have HX := Lib.hid hX
    clear hX hw1
    have hc1 : w1.cell? ⟨w.heap.size, 1, none⟩ = some (.string nm) := HX.out.cell 1 (by simp)
    have hc2 : w1.cell? ⟨w.heap.size, 2, none⟩ = some (.string mr) := HX.out.cell 2 (by simp)
    by_cases h1 : 100 < nm.size
    · have h1' : decide (100 < (nm.size : Int)) = true := by simp; omega
      go_enter Tryz.func50, Tryz.ntmps50
      go_wp2_with fail
      go_ret
      exact ⟨by simp [h1], by rw [HW.out]; exact HB0.out⟩
    · have h1' : decide (100 < (nm.size : Int)) = false := by simp; omega
      by_cases h2 : 100 < mr.size
      · have h2' : decide (100 < (mr.size : Int)) = true := by simp; omega
        go_enter Tryz.func50, Tryz.ntmps50
        go_wp2_with fail
        go_ret
        exact ⟨by simp [h2], by rw [HW.out]; exact HB0.out⟩
      · have h2' : decide (100 < (mr.size : Int)) = false := by simp; omega
        have H1 := Lib.hid h1
        have H2 := Lib.hid h2
        clear h1 h2
        go_enter Tryz.func50, Tryz.ntmps50
        go_wp2_with fail
        rw [HW.out]
        go_loopw [3] (fun i wr => LongRel w1 longL sub i wr) (fun i _ => sub.length - (intOf i).toNat)
        case atStart => exact ⟨0, by omega, rfl, rfl, Below.refl _ _⟩
        case round =>
          obtain ⟨j, hj, rfl, hP, hBr⟩ := hrel
          have HP := Lib.hid hP
          have hcr := (hBr.cell (p := ⟨w.heap.size, 5, none⟩) hsz).trans hc5
          have hcc := Lib.hid hc5
          clear hc5 hP
          by_cases hlt : j < sub.length
          · have hbw : Below w.heap.size w wr := HB0.out.trans (hBr.mono (by omega))
            obtain ⟨b, off, cv, rfl, g0, g1, g2, g3, g4, g5, g6⟩ := subAt_at HS.out hbw j hlt
            have hn1 := nodesL_get sub j hlt
            have hn2 := nodesE_eq sub[j]
            have hC := Lib.hid (HIH.out sub[j].kind sub[j].name sub[j].more sub[j].int sub[j].den sub[j].sub cv wr (by omega) (by omega) g6)
            rw [← longE_eq] at hC
            have HT := Lib.hid (longL_take_succ sub j hlt)
            clear g6 hn1 hn2
            cases hq : longE sub[j]
            · rw [hq] at hC HT
              go_wp2_with (go_at_call 50; refine (hC.out).mono ?_; rintro e w' ⟨rfl, hb1⟩)
              go_roundw
              case rel => exact ⟨j + 1, by omega, by go_num, by rw [HT.out, HP.out]; rfl, hBr.trans (hb1.mono hBr.size)⟩
              case measure => simp [intOf]; omega
            · rw [hq] at hC
              have HL := Lib.hid (longL_of hlt hq)
              go_wp2_with (go_at_call 50; refine (hC.out).mono ?_; rintro e w' ⟨rfl, hb1⟩)
              go_ret
              exact ⟨by simp [HL.out], HB0.out.trans ((hBr.mono (by omega)).trans (hb1.mono (by have := hBr.size; omega)))⟩
          · obtain rfl : j = sub.length := by omega
            rw [List.take_length] at HP
            go_wp2_with fail
            go_ret
            exact ⟨by simp [HP.out, H1.out, H2.out], HB0.out.trans (hBr.mono (by omega))⟩
end Go.Proofs.YtnphcjpccieljaaGreatDoor

namespace Go.Proofs.YtnphcjpccieljaaGreatDoor
open Go.RowKit

/-- greater than the statements examine -/
def greatE (t : Ex) : Bool := decide (40 < nodesE t) || longE t
theorem below_drewE {B : Nat} {a w : World} (h : Below B a w) : Below B a w.drew := ⟨h.os, h.tape, h.output, h.size, h.block⟩
theorem ret_boolE {a b : Bool} (h : a = b) : Ending.returned (.bool a) = .returned (.bool b) := by rw [h]
theorem bcell' {W w1 : World} (hb : Below W.heap.size W w1) : (∀ b o, b < W.heap.size → w1.cell? ⟨b, o, none⟩ = W.cell? ⟨b, o, none⟩) :=
  fun b o h => hb.cell (p := ⟨b, o, none⟩) h
set_option maxHeartbeats 1000000 in
theorem rGreat_any (k : Int) (nm mr : ByteArray) (it d : Int) (sub : List Ex) (sv : Value) (w : World) (hm : nodesL sub ≤ 1099511627776) (hs : SubAt w w.heap.size sub sv) :
    Calls Tryz.prog 18 #[.agg #[.int .i64 k, .string nm, .string mr, .int .i64 it, .int .i64 d, sv]] w fun e w' => e = .returned (.bool (greatE (.mk k nm mr it d sub))) ∧ Below w.heap.size w w' := by
  obtain ⟨p, cap, rfl, hcap, _⟩ := subAt_open hs
  obtain ⟨w1, hw1, hX⟩ := boxed w #[.int .i64 k, .string nm, .string mr, .int .i64 it, .int .i64 d, .slice p sub.length cap] 35
  have HW := Lib.hid hw1
  have hsz := hX.size
  have HB0 := Lib.hid hX.below
  have hs1 := subAt_below hs hX.below hX.below.size
  have HN := Lib.hid (rNodes_any (nodesL sub + 1) k nm mr it d sub _ w1 (by omega) hm hs1)
  have HX := Lib.hid hX
  have HS := Lib.hid hs1
  obtain ⟨n, hn⟩ : ∃ n, nodesL sub + 1 = n := ⟨_, rfl⟩
  rw [hn] at HN
  have hn1 : n ≤ 1099511627777 := by omega
  have hEq := Lib.hid hn
  clear hs hs1 hX hw1 hn
  go_enter Tryz.func18, Tryz.ntmps18
  go_wp2_with fail
  rw [HW.out]
  refine (HN.out).mono ?_
  rintro e w2 ⟨rfl, hb⟩
  have hbs := hb.size
  obtain ⟨c0, c1, c2, c3, c4, c5⟩ := boxed6 HX.out hb
  by_cases hgt : 40 < n
  · have hd : decide (40 < (n : Int)) = true := by simp; omega
    go_wp2_with fail
    go_ret
    exact ⟨by simp [greatE, nodesE, hEq.out, hgt], HB0.out.trans (hb.mono (by omega))⟩
  · have hd : decide (40 < (n : Int)) = false := by simp; omega
    have HG := Lib.hid hgt
    have HL := Lib.hid (rlong_any (nodesL sub + 1) k nm mr it d sub _ w2 (by omega) hm (subAt_below HS.out hb hb.size))
    clear hgt
    go_wp2_with (go_at_call 50; refine (HL.out).mono ?_; rintro e w3 ⟨rfl, hb3⟩)
    go_ret
    exact ⟨by simp [greatE, nodesE, longE, hEq.out, HG.out], HB0.out.trans ((hb.mono (by omega)).trans (hb3.mono (by omega)))⟩
/-- the five cells and the two parts that a comparison meets -/
def SameRel (w2 : World) (s t : List Ex) (i : Value) (wr : World) : Prop := ∃ j : Nat, j ≤ s.length ∧ i = .int .i64 j ∧ sameL (s.take j) (t.take j) = true ∧ Below w2.heap.size w2 wr
set_option maxRecDepth 100000 in
set_option maxHeartbeats 2000000 in
theorem rSame_any (N : Nat) : ∀ (k : Int) (nm mr : ByteArray) (it d : Int) (sub : List Ex) (sv : Value) (k' : Int) (nm' mr' : ByteArray) (it' d' : Int) (sub' : List Ex) (sv' : Value) (w : World), nodesL sub < N → nodesL sub ≤ 1099511627776 → SubAt w w.heap.size sub sv → SubAt w w.heap.size sub' sv' →
    Calls Tryz.prog 27 #[.agg #[.int .i64 k, .string nm, .string mr, .int .i64 it, .int .i64 d, sv], .agg #[.int .i64 k', .string nm', .string mr', .int .i64 it', .int .i64 d', sv']] w fun e w' => e = .returned (.bool (sameE (.mk k nm mr it d sub) (.mk k' nm' mr' it' d' sub'))) ∧ Below w.heap.size w w' := by
  induction N with
  | zero => intro k nm mr it d sub sv _ _ _ _ _ _ _ w hN; omega
  | succ N ih =>
    intro k nm mr it d sub sv k' nm' mr' it' d' sub' sv' w hN hm hs hs'
    have hl := length_le_nodesL sub
    obtain ⟨p, cap, rfl, hcap, _⟩ := subAt_open hs
    obtain ⟨p', cap', rfl, hcap', _⟩ := subAt_open hs'
    obtain ⟨w1, hw1, hX⟩ := boxed w #[.int .i64 k, .string nm, .string mr, .int .i64 it, .int .i64 d, .slice p sub.length cap] 35
    obtain ⟨w2, hw2, hX2⟩ := boxed w1 #[.int .i64 k', .string nm', .string mr', .int .i64 it', .int .i64 d', .slice p' sub'.length cap'] 35
    have hz1 : w1.heap.size = w.heap.size + 1 := by rw [← hw1]; simp
    have hsz := hX.size
    have hsz2 := hX2.size
    have hB : Below w.heap.size w w2 := hX.below.trans (hX2.below.mono (by omega))
    have HS := Lib.hid hs
    have HS' := Lib.hid hs'
    have HIH := Lib.hid ih
    have HB := Lib.hid hB
    have HX := Lib.hid hX
    have HX2 := Lib.hid hX2
    have HW : Hid ((w.alloc (.cells #[.int .i64 k, .string nm, .string mr, .int .i64 it, .int .i64 d, .slice p sub.length cap] 35)).alloc (.cells #[.int .i64 k', .string nm', .string mr', .int .i64 it', .int .i64 d', .slice p' sub'.length cap'] 35) = w2) := Lib.hid (by rw [hw1, hw2])
    have HSE : Hid (sameE (.mk k nm mr it d sub) (.mk k' nm' mr' it' d' sub') = (alikeE (.mk k nm mr it d sub) (.mk k' nm' mr' it' d' sub') && sameL sub sub')) := Lib.hid (sameE_alike _ _)
    have HZ1 := Lib.hid hz1
    clear hs hs' ih hB hX hX2 hw1 hw2 hz1
    by_cases hal : alikeE (.mk k nm mr it d sub) (.mk k' nm' mr' it' d' sub') = true
    · obtain ⟨rfl, rfl, rfl, rfl, rfl, hlen⟩ : k = k' ∧ nm = nm' ∧ mr = mr' ∧ it = it' ∧ d = d' ∧ sub.length = sub'.length := (alikeE_iff _ _).1 hal
      rw [hal] at HSE
      have HLEN := Lib.hid hlen
      have e1 : ((sub.length : Int) != (sub'.length : Int)) = false := by rw [hlen]; simp
      have e2 : (sub.length != sub'.length) = false := by rw [hlen]; simp
      clear hal hlen
      go_enter Tryz.func27, Tryz.ntmps27
      go_wp2_with fail
      rw [HW.out]
      obtain ⟨_, _, _, _, _, ha5⟩ := boxed6 HX.out HX2.out.below
      obtain ⟨_, _, _, _, _, hb5⟩ := boxed6 HX2.out (Below.refl _ _)
      rw [HZ1.out] at hb5
      have HA5 := Lib.hid ha5
      have HB5 := Lib.hid hb5
      clear ha5 hb5
      go_loopw [5] (fun i wr => SameRel w2 sub sub' i wr) (fun i _ => sub.length - (intOf i).toNat)
      case atStart => exact ⟨0, by omega, rfl, by simp [sameL], Below.refl _ _⟩
      case round =>
        obtain ⟨j, hj, rfl, hP, hBr⟩ := hrel
        have HP := Lib.hid hP
        have hcr := (hBr.cell (p := ⟨w.heap.size, 5, none⟩) (by show w.heap.size < _; omega)).trans HA5.out
        have hcr' := (hBr.cell (p := ⟨w.heap.size + 1, 5, none⟩) (by have := HZ1.out; show w.heap.size + 1 < _; omega)).trans HB5.out
        clear hP
        by_cases hlt : j < sub.length
        · have hlt' : j < sub'.length := by have := HLEN.out; omega
          have hbw : Below w.heap.size w wr := HB.out.trans (hBr.mono (by omega))
          obtain ⟨b, off, cv, rfl, g0, g1, g2, g3, g4, g5, g6⟩ := subAt_at HS.out hbw j hlt
          obtain ⟨b', off', cv', rfl, g0', g1', g2', g3', g4', g5', g6'⟩ := subAt_at HS'.out hbw j hlt'
          have hn1 := nodesL_get sub j hlt
          have hn2 := nodesE_eq sub[j]
          have hD : Below wr.heap.size wr wr.drew := below_drewE (Below.refl _ _)
          have hC := Lib.hid (HIH.out sub[j].kind sub[j].name sub[j].more sub[j].int sub[j].den sub[j].sub cv sub'[j].kind sub'[j].name sub'[j].more sub'[j].int sub'[j].den sub'[j].sub cv' wr.drew (by omega) (by omega) (subAt_below g6 hD hD.size) (subAt_below g6' hD hD.size))
          rw [Ex.eta, Ex.eta] at hC
          have HT := Lib.hid (sameL_take_succ sub sub' j hlt hlt')
          have l0 : (0 : Int) ≤ (j : Int) := by omega
          have l1 : (j : Int) < (sub.length : Int) := by omega
          have l2 : (j : Int) < (sub'.length : Int) := by omega
          clear g6 g6' hn1 hn2 hD
          go_wp2_with fail
          go_still_tail 10, (by kernel_rfl)
          cases hq : sameE sub[j] sub'[j]
          · rw [hq] at hC
            have HL := Lib.hid (sameL_bad HLEN.out hlt hlt' hq)
            clear hq
            go_wp2_with (go_at_call 27; refine (hC.out).mono ?_; rintro e w' ⟨rfl, hb1⟩)
            go_ret
            exact ⟨by rw [HSE.out, HL.out]; rfl, HB.out.trans (((below_drewE hBr).mono (by omega)).trans (hb1.mono (by have := hBr.size; show _ ≤ wr.heap.size; omega)))⟩
          · rw [hq] at hC HT
            clear hq
            go_wp2_with (go_at_call 27; refine (hC.out).mono ?_; rintro e w' ⟨rfl, hb1⟩)
            go_roundw
            case rel => exact ⟨j + 1, by omega, by go_num, by rw [HT.out, HP.out]; rfl, (below_drewE hBr).trans (hb1.mono hBr.size)⟩
            case measure => simp [intOf]; omega
        · obtain rfl : j = sub.length := by omega
          have HP' : Hid (sameL sub sub' = true) := Lib.hid (by have := HP.out; rw [List.take_length, HLEN.out, List.take_length] at this; exact this)
          go_wp2_with fail
          go_ret
          exact ⟨by rw [HSE.out, HP'.out]; rfl, HB.out.trans (hBr.mono (by omega))⟩
    · have hal' : alikeE (.mk k nm mr it d sub) (.mk k' nm' mr' it' d' sub') = false := by simpa using hal
      rw [hal'] at HSE
      clear hal'
      by_cases h0 : k = k'
      rotate_left
      · have f0 : (k != k') = true := by simpa using h0
        clear h0 hal
        go_enter Tryz.func27, Tryz.ntmps27
        go_wp2_with fail
        go_ret
        exact ⟨by rw [HSE.out]; rfl, by rw [HW.out]; exact HB.out⟩
      subst h0
      by_cases h1 : nm = nm'
      rotate_left
      · have f1 : (nm.toList == nm'.toList) = false := (Lib.bytes_beq_false_iff _ _).2 h1
        clear h1 hal
        go_enter Tryz.func27, Tryz.ntmps27
        go_wp2_with fail
        go_ret
        exact ⟨by rw [HSE.out]; rfl, by rw [HW.out]; exact HB.out⟩
      subst h1
      by_cases h2 : mr = mr'
      rotate_left
      · have f2 : (mr.toList == mr'.toList) = false := (Lib.bytes_beq_false_iff _ _).2 h2
        clear h2 hal
        go_enter Tryz.func27, Tryz.ntmps27
        go_wp2_with fail
        go_ret
        exact ⟨by rw [HSE.out]; rfl, by rw [HW.out]; exact HB.out⟩
      subst h2
      by_cases h3 : it = it'
      rotate_left
      · have f3 : (it != it') = true := by simpa using h3
        clear h3 hal
        go_enter Tryz.func27, Tryz.ntmps27
        go_wp2_with fail
        go_ret
        exact ⟨by rw [HSE.out]; rfl, by rw [HW.out]; exact HB.out⟩
      subst h3
      by_cases h4 : d = d'
      rotate_left
      · have f4 : (d != d') = true := by simpa using h4
        clear h4 hal
        go_enter Tryz.func27, Tryz.ntmps27
        go_wp2_with fail
        go_ret
        exact ⟨by rw [HSE.out]; rfl, by rw [HW.out]; exact HB.out⟩
      subst h4
      have hlen : sub.length ≠ sub'.length := fun h => hal ((alikeE_iff _ _).2 ⟨rfl, rfl, rfl, rfl, rfl, h⟩)
      have f6 : ((sub.length : Int) != (sub'.length : Int)) = true := by simp; omega
      have f7 : (sub.length != sub'.length) = true := by simp; omega
      clear hal hlen
      go_enter Tryz.func27, Tryz.ntmps27
      go_wp2_with fail
      go_ret
      exact ⟨by rw [HSE.out]; rfl, by rw [HW.out]; exact HB.out⟩
end Go.Proofs.YtnphcjpccieljaaGreatDoor
