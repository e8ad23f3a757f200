/- ExprmergeOrder: the plain law. -/
import Derived.Test.YtiagjpiclnmpkaaDoorStH
namespace Go.Proofs.YtiagjpiclnmpkaaDoor
open Go Go.RowKit
theorem depthL_get : ∀ (l : List Ex) (i : Nat) (h : i < l.length), depthE l[i] ≤ depthL l
  | e :: es, 0, _ => by simp only [List.getElem_cons_zero, depthL]; omega
  | e :: es, i + 1, h => by
    have := depthL_get es i (by simpa using h)
    simp only [List.getElem_cons_succ, depthL]; omega
theorem confL_get : ∀ (l : List Ex) (i : Nat) (h : i < l.length), confE l[i] ≤ confL l
  | e :: es, 0, _ => by simp only [List.getElem_cons_zero, confL]; omega
  | e :: es, i + 1, h => by
    have := confL_get es i (by simpa using h)
    simp only [List.getElem_cons_succ, confL]; omega
theorem checkEs_get : ∀ (l : List Ex) (i : Nat) (h : i < l.length), checkEs l = 0 → checkE l[i] = 0
  | e :: es, i, h, hc => by
    rw [checkEs] at hc
    split at hc
    · rename_i he
      cases i with
      | zero => simpa using he
      | succ i => simpa using checkEs_get es i (by simpa using h) hc
    · exact absurd hc (by assumption)
mutual
theorem oneE_depth (side : Nat) : ∀ (t : Ex) (j : Int), depthE (oneE side t j).1 ≤ depthE t
  | .mk k n m i d s, j => by
    rw [oneE, depthE]
    split
    · split
      · by_cases hs : side < s.length
        · have h1 := depthL_get s side hs
          simp only [List.getD_eq_getElem?_getD, List.getElem?_eq_getElem hs, Option.getD_some]
          omega
        · simp only [List.getD_eq_getElem?_getD, List.getElem?_eq_none (Nat.le_of_not_lt hs), Option.getD_none]
          show depthE zeroEx ≤ _
          simp only [zeroEx, depthE, depthL]; omega
      · have := oneL_depth side s (j - 1); simp only [depthE]; omega
    · have := oneL_depth side s j; simp only [depthE]; omega
theorem oneL_depth (side : Nat) : ∀ (l : List Ex) (j : Int), depthL (oneL side l j).1 ≤ depthL l
  | [], j => by rw [oneL]; exact Nat.le_refl _
  | e :: es, j => by
    rw [oneL]
    split
    · exact Nat.le_refl _
    · have h1 := oneE_depth side e j
      have h2 := oneL_depth side es (oneE side e j).2
      simp only [depthL]; omega
end
mutual
theorem oneE_check (side : Nat) (hs : side ≤ 2) : ∀ (t : Ex) (j : Int), checkE t = 0 → checkE (oneE side t j).1 = 0
  | .mk k n m i d s, j, h => by
    have hsum := sumsE_of _ h
    simp only [sumsE, Bool.and_eq_true, Bool.or_eq_true, decide_eq_true_eq] at hsum
    rw [checkE] at h
    split at h
    · rename_i hn
      rw [oneE]
      split
      · rename_i hk
        split
        · have h3 : s.length = 3 := by rcases hsum.1 with h' | h'; exact absurd hk h'; exact h'
          have hlt : side < s.length := by omega
          simp only [List.getD_eq_getElem?_getD, List.getElem?_eq_getElem hlt, Option.getD_some]
          exact checkEs_get s side hlt h
        · simp only []
          rw [checkE, oneL_length, if_pos hn]
          exact oneL_check side hs s (j - 1) h
      · simp only []
        rw [checkE, oneL_length, if_pos hn]
        exact oneL_check side hs s j h
    · exact absurd h (by assumption)
theorem oneL_check (side : Nat) (hs : side ≤ 2) : ∀ (l : List Ex) (j : Int), checkEs l = 0 → checkEs (oneL side l j).1 = 0
  | [], j, h => by rw [oneL]; exact h
  | e :: es, j, h => by
    rw [oneL]
    split
    · exact h
    · rw [checkEs] at h
      split at h
      · rename_i he
        simp only []
        rw [checkEs, if_pos (oneE_check side hs e j he)]
        exact oneL_check side hs es _ h
      · exact absurd h (by assumption)
end
mutual
theorem all_one (side : Nat) (hs : side ≤ 2) : ∀ (t : Ex) (j : Int), sumsE t = true → allE side (oneE side t j).1 = allE side t
  | .mk k n m i d s, j, h => by
    simp only [sumsE, Bool.and_eq_true, Bool.or_eq_true, decide_eq_true_eq] at h
    rw [oneE]
    split
    · rename_i hk
      subst hk
      have h3 : s.length = 3 := by rcases h.1 with h' | h'; exact absurd rfl h'; exact h'
      have hlt : side < s.length := by omega
      split
      · simp only [List.getD_eq_getElem?_getD, List.getElem?_eq_getElem hlt, Option.getD_some]
        rw [sumA side n m i d s hlt]
      · simp only []
        rw [allE, allE, all_oneL side hs s (j - 1) h.2]
    · simp only []
      rw [allE, allE, all_oneL side hs s j h.2]
theorem all_oneL (side : Nat) (hs : side ≤ 2) : ∀ (l : List Ex) (j : Int), sumsL l = true → allL side (oneL side l j).1 = allL side l
  | [], j, h => by rw [oneL]
  | e :: es, j, h => by
    simp only [sumsL, Bool.and_eq_true] at h
    rw [oneL]
    split
    · rfl
    · simp only []
      rw [allL, allL, all_one side hs e j h.1, all_oneL side hs es _ h.2]
end
mutual
theorem confE_one (side : Nat) (hs : side ≤ 2) : ∀ (t : Ex) (j : Int), sumsE t = true → 0 ≤ j → j < confE t → confE (oneE side t j).1 < confE t
  | .mk k n m i d s, j, h, h0, hj => by
    simp only [sumsE, Bool.and_eq_true, Bool.or_eq_true, decide_eq_true_eq] at h
    rw [confE] at hj
    rw [oneE, confE]
    split
    · rename_i hk
      rw [if_pos hk] at hj
      split
      · have h3 : s.length = 3 := by rcases h.1 with h' | h'; exact absurd hk h'; exact h'
        have hlt : side < s.length := by omega
        simp only [List.getD_eq_getElem?_getD, List.getElem?_eq_getElem hlt, Option.getD_some]
        have := confL_get s side hlt
        omega
      · have := confL_one side hs s (j - 1) h.2 (by omega) (by omega)
        simp only []
        rw [confE, if_pos hk]
        omega
    · rename_i hk
      rw [if_neg hk] at hj
      have := confL_one side hs s j h.2 (by omega) (by omega)
      simp only []
      rw [confE, if_neg hk]
      omega
theorem confL_one (side : Nat) (hs : side ≤ 2) : ∀ (l : List Ex) (j : Int), sumsL l = true → 0 ≤ j → j < confL l → confL (oneL side l j).1 < confL l
  | [], j, h, h0, hj => by rw [confL] at hj; omega
  | e :: es, j, h, h0, hj => by
    simp only [sumsL, Bool.and_eq_true] at h
    rw [confL] at hj ⊢
    rw [oneL, if_neg (by omega)]
    have hi := oneE_idx side e j h0
    simp only []
    rw [confL]
    by_cases hc : j < confE e
    · rw [if_pos hc] at hi
      have h1 := confE_one side hs e j h.1 h0 hc
      rw [hi, oneL_neg side es (by omega)]
      show confE (oneE side e j).1 + confL es < confE e + confL es
      omega
    · rw [if_neg hc] at hi
      rw [oneE_skip side e j h0 (by omega), hi]
      have h1 := confL_one side hs es (j - confE e) h.2 (by omega) (by omega)
      omega
end
mutual
theorem all_clean (side : Nat) : ∀ t : Ex, confE t = 0 → allE side t = t
  | .mk k n m i d s, h => by
    rw [confE] at h
    have hk : ¬ k = 15 := fun e => by rw [if_pos e] at h; omega
    rw [if_neg hk] at h
    rw [allE, if_neg hk, all_cleanL side s (by omega)]
theorem all_cleanL (side : Nat) : ∀ l : List Ex, confL l = 0 → allL side l = l
  | [], _ => by rw [allL]
  | e :: es, h => by
    rw [confL] at h
    rw [allL, all_clean side e (by omega), all_cleanL side es (by omega)]
end
mutual
theorem conf_all (side : Nat) : ∀ t : Ex, confE (allE side t) = 0
  | .mk k n m i d s => by
    have h := conf_allL side s
    rw [allE]
    split
    · by_cases hs : side < (allL side s).length
      · have h1 := confL_get (allL side s) side hs
        simp only [List.getD_eq_getElem?_getD, List.getElem?_eq_getElem hs, Option.getD_some]
        omega
      · simp only [List.getD_eq_getElem?_getD, List.getElem?_eq_none (Nat.le_of_not_lt hs), Option.getD_none]
        show confE zeroEx = 0
        rfl
    · rename_i hk
      rw [confE, if_neg hk, h]
theorem conf_allL (side : Nat) : ∀ l : List Ex, confL (allL side l) = 0
  | [] => by rw [allL]; rfl
  | e :: es => by rw [allL, confL, conf_all side e, conf_allL side es]
end
/-- what the loop of the law keeps -/
structure OrdOk (e : Ex) (side i : Nat) (x : Ex) : Prop where
  check : checkX x = 0
  all : allE side x = allE side e
  conf : confE x + i ≤ 40
  nodes : nodesE x ≤ 40
theorem OrdOk.step {e x : Ex} {side i : Nat} (h : OrdOk e side i x) (hs : side ≤ 2) {j : Int} (h0 : 0 ≤ j) (hj : j < confE x) : settleX x j side = ((oneE side x j).1, 0) ∧ OrdOk e side (i + 1) (oneE side x j).1 := by
  obtain ⟨c1, c2, c3⟩ := checkX_ok h.check
  have hsum := sumsE_of _ c3
  have n1 := oneE_nodes side x j
  have n2 := oneE_depth side x j
  have n3 := confE_one side hs x j hsum h0 hj
  have n4 := h.nodes
  have n5 := h.conf
  refine ⟨by rw [settleX, if_pos h.check, if_neg (by omega), Int.toNat_natCast], ?_, (all_one side hs x j hsum).trans h.all, by omega, by omega⟩
  rw [checkX_good (by omega) (by omega)]
  exact oneE_check side hs x j c3
end Go.Proofs.YtiagjpiclnmpkaaDoor
