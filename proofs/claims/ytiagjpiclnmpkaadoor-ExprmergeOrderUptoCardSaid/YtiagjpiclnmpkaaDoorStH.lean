/- ExprmergeSettles, walked. -/
import Derived.Test.YtiagjpiclnmpkaaDoorStG
namespace Go.Proofs.YtiagjpiclnmpkaaDoor
open Go Go.RowKit
mutual
theorem allE_nodes (side : Nat) : ∀ t : Ex, nodesE (allE side t) ≤ nodesE t
  | .mk k n m i d s => by
    have h := allL_nodes side s
    rw [allE, nodesE]
    split
    · by_cases hs : side < (allL side s).length
      · have h1 := nodesL_get (allL side s) side hs
        simp only [List.getD_eq_getElem?_getD, List.getElem?_eq_getElem hs, Option.getD_some]
        omega
      · simp only [List.getD_eq_getElem?_getD, List.getElem?_eq_none (Nat.le_of_not_lt hs), Option.getD_none]
        show nodesE zeroEx ≤ _
        simp only [zeroEx, nodesE, nodesL]; omega
    · rw [nodesE]; omega
theorem allL_nodes (side : Nat) : ∀ l : List Ex, nodesL (allL side l) ≤ nodesL l
  | [] => by rw [allL]; exact Nat.le_refl _
  | e :: es => by have := allE_nodes side e; have := allL_nodes side es; rw [allL, nodesL, nodesL]; omega
end
mutual
theorem oneE_nodes (side : Nat) : ∀ (t : Ex) (j : Int), nodesE (oneE side t j).1 ≤ nodesE t
  | .mk k n m i d s, j => by
    rw [oneE, nodesE]
    split
    · split
      · by_cases hs : side < s.length
        · have h1 := nodesL_get s side hs
          simp only [List.getD_eq_getElem?_getD, List.getElem?_eq_getElem hs, Option.getD_some]
          omega
        · simp only [List.getD_eq_getElem?_getD, List.getElem?_eq_none (Nat.le_of_not_lt hs), Option.getD_none]
          show nodesE zeroEx ≤ _
          simp only [zeroEx, nodesE, nodesL]; omega
      · have := oneL_nodes side s (j - 1); simp only [nodesE]; omega
    · have := oneL_nodes side s j; simp only [nodesE]; omega
theorem oneL_nodes (side : Nat) : ∀ (l : List Ex) (j : Int), nodesL (oneL side l j).1 ≤ nodesL l
  | [], j => by rw [oneL]; exact Nat.le_refl _
  | e :: es, j => by
    rw [oneL]
    split
    · exact Nat.le_refl _
    · have h1 := oneE_nodes side e j
      have h2 := oneL_nodes side es (oneE side e j).2
      simp only [nodesL]; omega
end
theorem nodes_side (t : Ex) (side : Int) (hb : nodesE t ≤ 1048576) : nodesE (sideX t side).1 ≤ 1099511627776 := by
  have h0 : nodesE zeroEx ≤ 1 := by simp [zeroEx, nodesE, nodesL]
  have h1 := allE_nodes side.toNat t
  unfold sideX
  split
  · split <;> simp only [] <;> omega
  · simp only []; omega
theorem nodes_settle (t : Ex) (i side : Int) (hb : nodesE t ≤ 1048576) : nodesE (settleX t i side).1 ≤ 1099511627776 := by
  have h0 : nodesE zeroEx ≤ 1 := by simp [zeroEx, nodesE, nodesL]
  have h1 := oneE_nodes side.toNat t i
  unfold settleX
  split
  · split <;> simp only [] <;> omega
  · simp only []; omega
set_option maxRecDepth 100000 in
set_option maxHeartbeats 4000000 in
theorem lawSettles_con (t : Ex) (i side : Int) (hb : nodesE t ≤ 1048576) : Con Tryd.prog 8 [avE t, .d (.raw (.int .i64 i)), .d (.raw (.int .i64 side))] (.d (.raw (.bool true))) := by
  refine con_of Tryd.func8 rfl (by decide +kernel) (by simp only [AV.closed, closedL, avE, closedL_d, Bool.and_self]) (by simp only [AV.closed, closedL, avE, closedL_d, Bool.and_self]) (by simp [Tryd.ntmps8]) fun A hA => ?_
  rw [Tryd.ntmps8] at hA
  refine goC 300 ?_
  simp only [go_sem, hA, avE_eq]
  refine goCall 200 (great_c [t] (by simp only [nodesL]; omega)) rfl (by simp only [go_sem, avE_eq, encL, encE_eq]) (by simp only [go_sem, hA]) ?_
  simp only [go_sem, hA, avE_eq]
  refine goIf (fun hk => ?_) (fun hk => ?_)
  · simp only [go_sem, hA, avE_eq]
    refine goCall 200 awake_c rfl (by simp only [go_sem, avE_eq]) (by simp only [go_sem, hA]) ?_
    simp only [go_sem, hA, avE_eq, Tryd.results8]
  · simp only [go_sem, hA, avE_eq]
    refine goCall 200 (mSide_con t side hb) rfl (by simp only [go_sem, avE_eq]) (by simp only [go_sem, hA]) ?_
    simp only [go_sem, hA, avE_eq]
    refine goCall 200 (rSide_con t side hb) rfl (by simp only [go_sem, avE_eq]) (by simp only [go_sem, hA]) ?_
    simp only [go_sem, hA, avE_eq]
    refine goCall 200 (mSettle_con t i side hb) rfl (by simp only [go_sem, avE_eq]) (by simp only [go_sem, hA]) ?_
    simp only [go_sem, hA, avE_eq]
    refine goCall 200 (rSettle_con t i side hb) rfl (by simp only [go_sem, avE_eq]) (by simp only [go_sem, hA]) ?_
    simp only [go_sem, hA, avE_eq, mixed]
    refine goCallD 200 (mConflicts_c t hb) rfl (by simp only [go_sem, avE_eq]) (by simp only [go_sem, hA]) ?_
    simp only [go_sem, hA, avE_eq, mixed]
    refine goCallD 200 (rConflicts_c t hb) rfl (by simp only [go_sem, avE_eq]) (by simp only [go_sem, hA]) ?_
    simp only [go_sem, hA, avE_eq, mixed]
    refine goCallD 200 (mClean_c t hb) rfl (by simp only [go_sem, avE_eq]) (by simp only [go_sem, hA]) ?_
    simp only [go_sem, hA, avE_eq, mixed]
    refine goCallD 200 (rClean_c t hb) rfl (by simp only [go_sem, avE_eq]) (by simp only [go_sem, hA]) ?_
    simp only [go_sem, hA, avE_eq, mixed]
    refine goCallD 200 (rSame_c (sideX t side).1 (sideX t side).1 (nodes_side t side hb)) rfl (by simp only [go_sem, avE_eq]) (by simp only [go_sem, hA]) ?_
    simp only [go_sem, hA, avE_eq, mixed, sameE_refl]
    refine goCallD 200 (rSame_c (settleX t i side).1 (settleX t i side).1 (nodes_settle t i side hb)) rfl (by simp only [go_sem, avE_eq]) (by simp only [go_sem, hA]) ?_
    simp only [go_sem, hA, avE_eq, mixed, sameE_refl]
    refine goCallD 200 awake_c rfl (by simp only [go_sem, avE_eq]) (by simp only [go_sem, hA]) ?_
    simp only [go_sem, hA, avE_eq, mixed, Tryd.results8]
    kernel_rfl
theorem hasC_raw {w : World} {F : Nat → Nat → Prop} {v u : Value} (h : HasC w F (.d (.raw v)) u) : u = v := by
  unfold HasC at h
  exact h.raw_eq
theorem lawSettles_x {t : Ex} {x : XV} {w : World} (h : XAt w t x) (i side : Int) (hb : nodesE t ≤ 1048576) : Calls Tryd.prog 8 #[.agg x.arr, .int .i64 i, .int .i64 side] w fun e w' => e = .returned (.bool true) ∧ Below w.heap.size w w' := by
  obtain ⟨_, _, hc⟩ := lawSettles_con t i side hb
  refine (hc (fun b _ => b < w.heap.size) w [.agg x.arr, .int .i64 i, .int .i64 side] (fun _ _ h => h) rfl (fun k hk hv => ?_)).mono ?_
  · match k, hk with
    | 0, _ => exact xAt_avE h
    | 1, _ => exact .d (.raw _)
    | 2, _ => exact .d (.raw _)
  · rintro e w' ⟨v, rfl, hv, hbl⟩
    rw [hasC_raw hv]
    exact ⟨rfl, hbl⟩
end Go.Proofs.YtiagjpiclnmpkaaDoor
