/- SyntaxDifferent: the law walked. -/
import Derived.Test.YtnphcjpccieljaaGreatDoorSyZ
import Derived.Test.YtnphcjpccieljaaGreatDoorGPm
namespace Go.Proofs.YtnphcjpccieljaaGreatDoor
open Go Go.RowKit
theorem exprX_bad {t : Ex} (h : (exprX t).2 ≠ 0) : (exprX t).1 = ⟨#[]⟩ := by
  unfold exprX at h ⊢
  split
  · split
    · rfl
    · split
      · rfl
      · rename_i h1 h2 h3; rw [if_pos h1, if_neg h2, if_neg h3] at h; exact absurd rfl h
  · rfl
theorem exprX_ok {t : Ex} (h : (exprX t).2 = 0) : VT t ∧ (exprX t).1 = txE t ∧ (txE t).size ≤ 65536 ∧ checkX t = 0 := by
  unfold exprX at h ⊢
  by_cases h1 : checkX t = 0
  · rw [if_pos h1] at h ⊢
    by_cases h2 : kindsE 5 t = true
    · rw [if_pos h2] at h; exact absurd h (by decide)
    · rw [if_neg h2] at h ⊢
      by_cases h3 : 65536 < (txE t).size
      · rw [if_pos h3] at h; exact absurd h (by decide)
      · rw [if_neg h3]
        exact ⟨vt_X h1 (by simpa using h2), rfl, by omega, h1⟩
  · rw [if_neg h1] at h; exact absurd h h1
theorem tx_ne {t : Ex} (h : VT t) : txE t ≠ ⟨#[]⟩ := fun e => by
  obtain ⟨us, h1, h2⟩ := sc_scan (sc_ex h [] stop_nil)
  have e2 : tx t = [] := by rw [tx, e]
  rw [e2] at h1
  have : us = [] := by
    have h3 : scanAll [] = (([] : List LTok), none) := rfl
    rw [h3] at h1; injection h1 with h1 _; exact h1.symm
  subst this
  obtain ⟨y, q, e3, _⟩ := tk_head h
  rw [e3] at h2; cases h2
set_option maxRecDepth 100000 in
set_option maxHeartbeats 16000000 in
theorem lawDifferent_c (a b : Ex) (ha : nodesE a ≤ 1048576) (hb : nodesE b ≤ 1048576) : Con Tryz.prog 7 [avE a, avE b] (.d (.raw (.bool true))) := by
  have cga := rGreat_c a (by omega)
  have cgb := rGreat_c b (by omega)
  refine con_of Tryz.func7 rfl (by decide +kernel) rfl (by simp only [AV.closed, closedL, avE, closedL_d, Bool.and_self]) (by simp [Tryz.ntmps7]) fun A hA => ?_
  rw [Tryz.ntmps7] at hA
  refine goC 400 ?_
  simp only [go_sem, hA, avE_eq]
  refine goCall 300 cga rfl (by simp only [go_sem, avE_eq]) (by simp only [go_sem, hA]) ?_
  cases h1 : greatE a with
  | true =>
    simp only [go_sem, hA, undef]
    refine goCall 300 awake_c rfl rfl (by simp only [go_sem, hA]) ?_
    simp only [go_sem, hA, Tryz.results7]
  | false =>
  simp only [go_sem, hA]
  refine goCall 300 cgb rfl (by simp only [go_sem, avE_eq]) (by simp only [go_sem, hA]) ?_
  cases h2 : greatE b with
  | true =>
    simp only [go_sem, hA]
    refine goCall 300 awake_c rfl rfl (by simp only [go_sem, hA]) ?_
    simp only [go_sem, hA, Tryz.results7]
  | false =>
  have na := greatE_le h1
  have nb := greatE_le h2
  have cea := sExpr_c a (by omega) (fun h h5 => checkX_full h h5)
  have ceb := sExpr_c b (by omega) (fun h h5 => checkX_full h h5)
  have cs := rSame_c a b (by omega)
  simp only [go_sem, hA]
  refine goCall 300 cea rfl (by simp only [go_sem, avE_eq]) (by simp only [go_sem, hA]) ?_
  simp only [go_sem, hA]
  refine goCall 300 ceb rfl (by simp only [go_sem, avE_eq]) (by simp only [go_sem, hA]) ?_
  by_cases h3 : (exprX a).2 = 0
  case neg =>
    have k1 : decide ((exprX a).2 = 0) = false := decide_eq_false h3
    have k1' : (decide ¬ (exprX a).2 = 0) = true := decide_eq_true h3
    have e1 := exprX_bad h3
    by_cases h4 : (exprX b).2 = 0
    · have k2 : decide ((exprX b).2 = 0) = true := decide_eq_true h4
      simp only [go_sem, hA, k1, k1', k2, e1, undef]
      refine goCall 300 awake_c rfl rfl (by simp only [go_sem, hA]) ?_
      simp only [go_sem, hA, Tryz.results7]
    · have k2 : decide ((exprX b).2 = 0) = false := decide_eq_false h4
      have e2 := exprX_bad h4
      simp only [go_sem, hA, k1, k1', k2, e1, e2, undef]
      refine goCall 300 awake_c rfl rfl (by simp only [go_sem, hA]) ?_
      simp only [go_sem, hA, Tryz.results7]
  have k1 : decide ((exprX a).2 = 0) = true := decide_eq_true h3
  have k1' : (decide ¬ (exprX a).2 = 0) = false := decide_eq_false (fun h => h h3)
  by_cases h4 : (exprX b).2 = 0
  case neg =>
    have k2 : decide ((exprX b).2 = 0) = false := decide_eq_false h4
    have k2' : (decide ¬ (exprX b).2 = 0) = true := decide_eq_true h4
    have e2 := exprX_bad h4
    simp only [go_sem, hA, k1, k1', k2, k2', e2, undef]
    refine goCall 300 awake_c rfl rfl (by simp only [go_sem, hA]) ?_
    simp only [go_sem, hA, Tryz.results7]
  have k2' : (decide ¬ (exprX b).2 = 0) = false := decide_eq_false (fun h => h h4)
  obtain ⟨va, ta, _, _⟩ := exprX_ok h3
  obtain ⟨vb, tb, _, _⟩ := exprX_ok h4
  have k3 : (decide ¬ txE a = ⟨#[]⟩) = true := decide_eq_true (tx_ne va)
  have k4 : decide (txE a = txE b) = sameE a b := by
    cases hs : sameE a b with
    | true => rw [(sameE_iff a b).1 hs]; exact decide_eq_true rfl
    | false =>
      refine decide_eq_false fun e => ?_
      obtain rfl := tx_inj va vb (by rw [tx, e])
      rw [sameE_refl] at hs; cases hs
  simp only [go_sem, hA, k1', k2', ta, tb, k3]
  refine goCall 300 cs rfl (by simp only [go_sem, avE_eq]) (by simp only [go_sem, hA]) ?_
  simp only [go_sem, hA, k4]
  refine goCall 300 awake_c rfl rfl (by simp only [go_sem, hA]) ?_
  simp only [go_sem, hA, Tryz.results7]
end Go.Proofs.YtnphcjpccieljaaGreatDoor
