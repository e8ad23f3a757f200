/- ExprmergeParts: the plain law. -/
import Derived.Test.YtiagjpiclnmpkaaDoorExX
namespace Go.Proofs.YtiagjpiclnmpkaaDoor
open Go Go.RowKit
def nilE : Ex := .mk 11 ⟨#[]⟩ ⟨#[]⟩ 0 0 []
/-- two expressions composed -/
def bothE (k : Nat) (a b : Ex) : Ex :=
  match k with
  | 0 => .mk 10 ⟨#[43]⟩ ⟨#[]⟩ 0 0 [a, b]
  | 1 => .mk 7 ⟨#[]⟩ ⟨#[]⟩ 0 0 [a, b]
  | 2 => .mk 12 ⟨#[]⟩ ⟨#[]⟩ 0 0 [a, b]
  | 3 => .mk 8 ⟨#[120]⟩ ⟨#[]⟩ 0 0 [a, b]
  | _ => .mk 9 ⟨#[]⟩ ⟨#[]⟩ 0 0 [a, nilE, b]
theorem bothE_nodes (k : Nat) (a b : Ex) : nodesE (bothE k a b) ≤ nodesE a + nodesE b + 2 := by
  unfold bothE nilE
  split <;> simp only [nodesE, nodesL] <;> omega
theorem bothE_check (k : Nat) (a b : Ex) (ha : checkE a = 0) (hb : checkE b = 0) : checkE (bothE k a b) = 0 := by
  have h2 : checkEs [a, b] = 0 := by simp [checkEs, ha, hb]
  have hn : checkE nilE = 0 := by decide +kernel
  have h3 : checkEs [a, nilE, b] = 0 := by simp [checkEs, ha, hb, hn]
  unfold bothE
  split
  · exact (checkE_good (show checkN 10 ⟨#[43]⟩ ⟨#[]⟩ 0 0 2 = 0 by decide +kernel)).trans h2
  · exact (checkE_good (show checkN 7 ⟨#[]⟩ ⟨#[]⟩ 0 0 2 = 0 by decide +kernel)).trans h2
  · exact (checkE_good (show checkN 12 ⟨#[]⟩ ⟨#[]⟩ 0 0 2 = 0 by decide +kernel)).trans h2
  · exact (checkE_good (show checkN 8 ⟨#[120]⟩ ⟨#[]⟩ 0 0 2 = 0 by decide +kernel)).trans h2
  · exact (checkE_good (show checkN 9 ⟨#[]⟩ ⟨#[]⟩ 0 0 3 = 0 by decide +kernel)).trans h3
theorem checkX_zero {t : Ex} (h : checkX t = 0) : checkE t = 0 := by
  unfold checkX at h
  split at h
  · cases h
  · exact h
theorem bothX_check (k : Nat) (a b : Ex) (ha : checkX a = 0) (hb : checkX b = 0) : checkX (bothE k a b) = 0 ∨ checkX (bothE k a b) = 4 := by
  unfold checkX
  split
  · exact .inr rfl
  · exact .inl (bothE_check k a b (checkX_zero ha) (checkX_zero hb))
theorem mergeE_same (b l : Ex) : mergeE b l l = l := by
  rw [mergeE_eq, sameE_refl, Bool.true_or, if_pos rfl]
theorem mergeE_right (b l : Ex) : mergeE b l b = l := by
  rw [mergeE_eq, sameE_refl, Bool.or_true, if_pos rfl]
theorem mergeE_left (b r : Ex) : mergeE b b r = r := by
  rw [mergeE_eq]
  by_cases h : (sameE b r || sameE r b) = true
  · rw [if_pos h]
    rw [Bool.or_eq_true, sameE_iff, sameE_iff] at h
    rcases h with h | h
    · exact h
    · exact h.symm
  · rw [if_neg h, sameE_refl, if_pos rfl]
theorem bothE_inj {k : Nat} {a b a' b' : Ex} (h : bothE k a b = bothE k a' b') : a = a' ∧ b = b' := by
  unfold bothE at h
  split at h <;> simp only [Ex.mk.injEq, List.cons.injEq, and_true, true_and] at h <;> exact h
theorem bothE_merge (k : Nat) (b l r b' l' r' : Ex) : mergeE (bothE k b b') (bothE k l l') (bothE k r r') = bothE k (mergeE b l r) (mergeE b' l' r') := by
  by_cases h1 : bothE k l l' = bothE k r r'
  · obtain ⟨rfl, rfl⟩ := bothE_inj h1
    rw [mergeE_same, mergeE_same, mergeE_same]
  by_cases h2 : bothE k r r' = bothE k b b'
  · obtain ⟨rfl, rfl⟩ := bothE_inj h2
    rw [mergeE_right, mergeE_right, mergeE_right]
  by_cases h3 : bothE k l l' = bothE k b b'
  · obtain ⟨rfl, rfl⟩ := bothE_inj h3
    rw [mergeE_left, mergeE_left, mergeE_left]
  rw [mergeE_eq, sameE_false h1, sameE_false h2, sameE_false h3]
  simp only [Bool.or_self, Bool.false_eq_true, if_false]
  have hp : partsB (bothE k b b') (bothE k l l') (bothE k r r') = true := by
    unfold bothE
    split <;> simp [partsB, alikeE, Ex.kind, Ex.name, Ex.more, Ex.int, Ex.den, Ex.sub]
  rw [if_pos hp]
  unfold bothE
  split <;> simp only [Ex.kind, Ex.name, Ex.more, Ex.int, Ex.den, Ex.sub, mergeL, mergeE_same]
theorem mergeX_ok {b l r : Ex} (hb : checkX b = 0 ∨ checkX b = 4) (hl : checkX l = 0 ∨ checkX l = 4) (hr : checkX r = 0 ∨ checkX r = 4) : mergeX b l r = (zeroEx, 4) ∨ mergeX b l r = (mergeE b l r, 0) := by
  unfold mergeX
  rcases hb with hb | hb <;> rcases hl with hl | hl <;> rcases hr with hr | hr <;> simp only [hb, hl, hr, ne_eq, not_true_eq_false, if_false, if_true, Int.reduceEq, not_false_eq_true, true_or]
  by_cases h : checkX (mergeE b l r) = 0
  · rw [if_neg (by simpa using h)]; exact .inr rfl
  · rw [if_pos h]; exact .inl rfl
/-- the merge of what is composed is composed of the merges -/
theorem parts_law (k : Nat) (b l r b' l' r' : Ex) (hb : checkX b = 0) (hl : checkX l = 0) (hr : checkX r = 0) (hb' : checkX b' = 0) (hl' : checkX l' = 0) (hr' : checkX r' = 0) :
    ((mergeX b l r).2 = 0 ∨ (mergeX b l r).2 = 4) ∧ ((mergeX b' l' r').2 = 0 ∨ (mergeX b' l' r').2 = 4) ∧ ((mergeX (bothE k b b') (bothE k l l') (bothE k r r')).2 = 0 ∨ (mergeX (bothE k b b') (bothE k l l') (bothE k r r')).2 = 4) ∧
    ((mergeX b l r).2 = 0 → (mergeX b' l' r').2 = 0 → (mergeX (bothE k b b') (bothE k l l') (bothE k r r')).2 = 0 → sameE (mergeX (bothE k b b') (bothE k l l') (bothE k r r')).1 (bothE k (mergeX b l r).1 (mergeX b' l' r').1) = true) := by
  have h1 := mergeX_ok (.inl hb) (.inl hl) (.inl hr)
  have h2 := mergeX_ok (.inl hb') (.inl hl') (.inl hr')
  have h3 := mergeX_ok (bothX_check k b b' hb hb') (bothX_check k l l' hl hl') (bothX_check k r r' hr hr')
  refine ⟨?_, ?_, ?_, fun e1 e2 e3 => ?_⟩
  · rcases h1 with h | h <;> rw [h] <;> simp
  · rcases h2 with h | h <;> rw [h] <;> simp
  · rcases h3 with h | h <;> rw [h] <;> simp
  · rcases h1 with h1 | h1
    · rw [h1] at e1; cases e1
    rcases h2 with h2 | h2
    · rw [h2] at e2; cases e2
    rcases h3 with h3 | h3
    · rw [h3] at e3; cases e3
    rw [h1, h2, h3, bothE_merge, sameE_refl]
end Go.Proofs.YtiagjpiclnmpkaaDoor
