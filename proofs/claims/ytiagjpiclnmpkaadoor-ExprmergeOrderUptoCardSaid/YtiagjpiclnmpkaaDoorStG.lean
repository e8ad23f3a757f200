/- Side and Settle of the reference, walked. -/
import Derived.Test.YtiagjpiclnmpkaaDoorStF
namespace Go.Proofs.YtiagjpiclnmpkaaDoor
open Go Go.RowKit
theorem settled_con (side : Nat) (hs : side ≤ 2) (N : Nat) : ∀ (t : Ex) (j : Int), nodesE t < N → nodesE t ≤ 400 → sumsE t = true → -1 ≤ j → j < confE t ∨ j < 0 → Con Tryd.prog 37 [avE t, .d (.raw (.int .i64 j)), .d (.raw (.int .i64 side))] (avE (setE side t j)) := by
  induction N with
  | zero => intro t j h; omega
  | succ N ih => intro t j h hb hsum hj hj2; cases t; exact settled_step N side hs ih _ _ _ _ _ _ j h hb hsum hj hj2
set_option maxRecDepth 100000 in
set_option maxHeartbeats 4000000 in
theorem rSide_con (t : Ex) (side : Int) (hb : nodesE t ≤ 1048576) : Con Tryd.prog 22 [avE t, .d (.raw (.int .i64 side))] (.tup [avE (sideX t side).1, .d (.raw (.int .i64 (sideX t side).2))]) := by
  refine con_of Tryd.func22 rfl (by decide +kernel) (by simp only [AV.closed, closedL, avE, closedL_d, Bool.and_self]) (by simp only [AV.closed, closedL, avE, closedL_d, Bool.and_self]) (by simp [Tryd.ntmps22]) fun A hA => ?_
  rw [Tryd.ntmps22] at hA
  refine goC 300 ?_
  simp only [go_sem, hA, avE_eq]
  refine goCall 200 (rCheckExpr_c t hb) rfl (by simp only [go_sem, avE_eq]) (by simp only [go_sem, hA]) ?_
  simp only [go_sem, hA, avE_eq]
  refine goIf (fun hk => ?_) (fun hk => ?_)
  all_goals simp only [decide_eq_true_eq, decide_eq_false_iff_not] at hk
  · simp only [go_sem, hA, avE_eq, Tryd.results22]
    rw [sideX, if_neg hk]
    rfl
  · have hk0 : checkX t = 0 := by omega
    by_cases h1 : side < 0
    · simp only [go_sem, hA, avE_eq, h1, Tryd.results22]
      rw [sideX, if_pos hk0, if_pos (.inl h1)]
      rfl
    · by_cases h2 : 2 < side
      · simp only [go_sem, hA, avE_eq, h1, h2, Tryd.results22]
        rw [sideX, if_pos hk0, if_pos (.inr h2)]
        rfl
      · obtain ⟨s, rfl⟩ : ∃ s : Nat, side = s := ⟨side.toNat, by omega⟩
        simp only [go_sem, hA, avE_eq, h1, h2]
        refine goCall 200 (settled_con s (by omega) (nodesE t + 1) t (-1) (by omega) (checkX_ok hk0).1 (sumsE_of t (checkX_ok hk0).2.2) (by omega) (.inr (by omega))) rfl (by simp only [go_sem, avE_eq]) (by simp only [go_sem, hA]) ?_
        simp only [go_sem, hA, avE_eq, Tryd.results22]
        rw [sideX, if_pos hk0, if_neg (by omega), Int.toNat_natCast, setE, if_pos (by omega)]
set_option maxRecDepth 100000 in
set_option maxHeartbeats 4000000 in
theorem rSettle_con (t : Ex) (i side : Int) (hb : nodesE t ≤ 1048576) : Con Tryd.prog 24 [avE t, .d (.raw (.int .i64 i)), .d (.raw (.int .i64 side))] (.tup [avE (settleX t i side).1, .d (.raw (.int .i64 (settleX t i side).2))]) := by
  refine con_of Tryd.func24 rfl (by decide +kernel) (by simp only [AV.closed, closedL, avE, closedL_d, Bool.and_self]) (by simp only [AV.closed, closedL, avE, closedL_d, Bool.and_self]) (by simp [Tryd.ntmps24]) fun A hA => ?_
  rw [Tryd.ntmps24] at hA
  refine goC 300 ?_
  simp only [go_sem, hA, avE_eq]
  refine goCall 300 (rCheckExpr_c t hb) rfl (by simp only [go_sem, avE_eq]) (by simp only [go_sem, hA]) ?_
  simp only [go_sem, hA, avE_eq]
  refine goIf (fun hk => ?_) (fun hk => ?_)
  all_goals simp only [decide_eq_true_eq, decide_eq_false_iff_not] at hk
  · simp only [go_sem, hA, avE_eq, Tryd.results24]
    rw [settleX, if_neg hk]
    rfl
  · have hk0 : checkX t = 0 := by omega
    by_cases h1 : side < 0
    · simp only [go_sem, hA, avE_eq, h1, Tryd.results24]
      rw [settleX, if_pos hk0, if_pos (.inl h1)]
      rfl
    · by_cases h2 : 2 < side
      · simp only [go_sem, hA, avE_eq, h1, h2, Tryd.results24]
        rw [settleX, if_pos hk0, if_pos (.inr (.inl h2))]
        rfl
      · by_cases h3 : i < 0
        · simp only [go_sem, hA, avE_eq, h1, h2, h3, Tryd.results24]
          rw [settleX, if_pos hk0, if_pos (.inr (.inr (.inl h3)))]
          rfl
        · obtain ⟨s, rfl⟩ : ∃ s : Nat, side = s := ⟨side.toNat, by omega⟩
          simp only [go_sem, hA, avE_eq, h1, h2, h3]
          refine goCall 300 (rConflicts_c t hb) rfl (by simp only [go_sem, avE_eq]) (by simp only [go_sem, hA]) ?_
          by_cases h4 : (confE t : Int) ≤ i
          · simp only [go_sem, hA, avE_eq, h4, Tryd.results24]
            rw [settleX, if_pos hk0, if_pos (.inr (.inr (.inr h4)))]
            rfl
          · simp only [go_sem, hA, avE_eq, h4]
            have h5 := confE_nodes t
            refine goCall 200 (settled_con s (by omega) (nodesE t + 1) t i (by omega) (checkX_ok hk0).1 (sumsE_of t (checkX_ok hk0).2.2) (by omega) (.inl (by omega))) rfl (by simp only [go_sem, avE_eq]) (by simp only [go_sem, hA]) ?_
            simp only [go_sem, hA, avE_eq, Tryd.results24]
            rw [settleX, if_pos hk0, if_neg (by omega), Int.toNat_natCast, setE, if_neg h3]
end Go.Proofs.YtiagjpiclnmpkaaDoor
