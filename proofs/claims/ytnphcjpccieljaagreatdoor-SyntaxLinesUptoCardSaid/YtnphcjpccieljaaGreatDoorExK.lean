/- CheckExpr of the reference of layer 21. -/
import Derived.Test.YtnphcjpccieljaaGreatDoorExJ
namespace Go.Proofs.YtnphcjpccieljaaGreatDoor
open Go.RowKit

/-- why an expression is not valid -/
def checkX (t : Ex) : Int := if 400 < nodesE t ∨ 40 < depthE t then 4 else checkE t
theorem checkX_nodes {t : Ex} (h : 400 < nodesE t) : checkX t = 4 := by rw [checkX, if_pos (.inl h)]
theorem checkX_depth {t : Ex} (h : 40 < depthE t) : checkX t = 4 := by rw [checkX, if_pos (.inr h)]
theorem checkX_good {t : Ex} (h : ¬ 400 < nodesE t) (h' : ¬ 40 < depthE t) : checkX t = checkE t := by rw [checkX, if_neg (by omega)]
set_option maxHeartbeats 1000000 in
theorem rCheckExpr_any (k : Int) (nm mr : ByteArray) (it d : Int) (sub : List Ex) (sv : Value) (w : World) (hm : nodesL sub ≤ 1048576) (hs : SubAt w w.heap.size sub sv) :
    Calls Tryz.prog 31 #[.agg #[.int .i64 k, .string nm, .string mr, .int .i64 it, .int .i64 d, sv]] w fun e w' => e = .returned (.int .i64 (checkX (.mk k nm mr it d sub))) ∧ Below w.heap.size w w' := by
  obtain ⟨p, cap, rfl, hcap, _⟩ := subAt_open hs
  obtain ⟨w1, hw1, hX⟩ := boxed w #[.int .i64 k, .string nm, .string mr, .int .i64 it, .int .i64 d, .slice p sub.length cap] 35
  have HW := Lib.hid hw1
  have hsz := hX.size
  have HB0 := Lib.hid hX.below
  have hs1 := subAt_below hs hX.below hX.below.size
  have HN := Lib.hid (rNodes_any (nodesL sub + 1) k nm mr it d sub _ w1 (by omega) (by omega) hs1)
  have HX := Lib.hid hX
  have HS := Lib.hid hs1
  obtain ⟨n, hn⟩ : ∃ n, nodesL sub + 1 = n := ⟨_, rfl⟩
  rw [hn] at HN
  have hn1 : n ≤ 1048577 := by omega
  have hEq : Hid (nodesE (.mk k nm mr it d sub) = n) := Lib.hid (by rw [← hn, nodesE])
  have hdl := depthL_le sub
  clear hs hs1 hX hw1 hn
  go_enter Tryz.func31, Tryz.ntmps31
  go_wp2_with fail
  rw [HW.out]
  refine (HN.out).mono ?_
  rintro e w2 ⟨rfl, hb⟩
  have hbs := hb.size
  obtain ⟨c0, c1, c2, c3, c4, c5⟩ := boxed6 HX.out hb
  by_cases hgt : 400 < n
  · have hd : decide (400 < (n : Int)) = true := by simp; omega
    have HE := Lib.hid (checkX_nodes (t := .mk k nm mr it d sub) (by rw [hEq.out]; exact hgt))
    go_wp2_with fail
    go_ret
    exact ⟨ret_intE (a := 4) HE.out.symm, HB0.out.trans (hb.mono (by omega))⟩
  · have hd : decide (400 < (n : Int)) = false := by simp; omega
    have HG := Lib.hid hgt
    have HL := Lib.hid (rDepth_any (nodesL sub + 1) k nm mr it d sub _ w2 (by omega) (by omega) (subAt_below HS.out hb hb.size))
    obtain ⟨m, hm2⟩ : ∃ m, depthL sub + 1 = m := ⟨_, rfl⟩
    rw [hm2] at HL
    have hm3 : m ≤ 1048577 := by omega
    have hEq2 : Hid (depthE (.mk k nm mr it d sub) = m) := Lib.hid (by rw [← hm2, depthE])
    clear hgt hm2
    by_cases hgt2 : 40 < m
    · have hd2 : decide (40 < (m : Int)) = true := by simp; omega
      have HE := Lib.hid (checkX_depth (t := .mk k nm mr it d sub) (by rw [hEq2.out]; exact hgt2))
      go_wp2_with (go_at_call 20; refine (HL.out).mono ?_; rintro e w3 ⟨rfl, hb3⟩)
      go_ret
      exact ⟨ret_intE (a := 4) HE.out.symm, HB0.out.trans ((hb.mono (by omega)).trans (hb3.mono (by omega)))⟩
    · have hd2 : decide (40 < (m : Int)) = false := by simp; omega
      have HE := Lib.hid (checkX_good (t := .mk k nm mr it d sub) (by rw [hEq.out]; exact HG.out) (by rw [hEq2.out]; exact hgt2))
      clear hgt2
      go_wp2_with (go_at_call 20; refine (HL.out).mono ?_; rintro e w3 ⟨rfl, hb3⟩; obtain ⟨hc3, hf3⟩ := bcellE hb3; have hl3 : w.heap.size < w2.heap.size := (by omega))
      have HC := Lib.hid (rcheck_any (nodesL sub + 1) k nm mr it d sub _ w3 (by omega) (by omega) (subAt_below (subAt_below HS.out hb hb.size) hb3 hb3.size))
      refine (HC.out).mono ?_
      rintro e w4 ⟨rfl, hb4⟩
      go_wp2_with fail
      go_ret
      exact ⟨ret_intE (a := checkE (.mk k nm mr it d sub)) HE.out.symm, HB0.out.trans ((hb.mono (by omega)).trans ((hb3.mono (by omega)).trans (hb4.mono (by have := hb3.size; omega))))⟩
end Go.Proofs.YtnphcjpccieljaaGreatDoor
