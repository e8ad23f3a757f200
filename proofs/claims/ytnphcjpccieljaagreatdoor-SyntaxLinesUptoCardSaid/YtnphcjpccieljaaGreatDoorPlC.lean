/- Free variables: sorted sets; binding removes a variable. No program in sight. -/
import Derived.Test.YtnphcjpccieljaaGreatDoorGPl
namespace Go.Proofs.YtnphcjpccieljaaGreatDoor
open Go Go.RowKit
theorem srt_ext {a b : List ByteArray} (ha : Srt a) (hb : Srt b) (h : ∀ x, x ∈ a ↔ x ∈ b) : a = b := by
  have hp : a.Perm b := (List.perm_ext_iff_of_nodup (srt_nodup ha) (srt_nodup hb)).2 h
  exact List.Perm.eq_of_pairwise (fun x y _ _ h1 h2 => absurd (ltL_trans h1 h2) (ltL_irrefl x)) ha hb hp
mutual
theorem freeE_srt : ∀ (t : Ex) (bd l : List ByteArray), Srt l → Srt (freeE t bd l)
  | .mk k n m i d s, bd, l, h => by
    rw [freeE]
    split
    · exact withS_srt n h
    · exact freeL_srt k n m 0 s bd l h
theorem freeL_srt (k : Int) (n m : ByteArray) : ∀ (i : Nat) (s : List Ex) (bd l : List ByteArray), Srt l → Srt (freeL k n m i s bd l)
  | i, [], bd, l, h => by rw [freeL]; exact h
  | i, e :: es, bd, l, h => by
    rw [freeL]
    exact freeL_srt k n m (i + 1) es bd _ (freeE_srt e _ l h)
end
theorem boundB_app (k : Int) (n m : ByteArray) (i : Nat) (c bd : List ByteArray) : boundB k n m i (c ++ bd) = c ++ boundB k n m i bd := by
  unfold boundB
  split
  · simp
  · split
    · split <;> simp
    · split
      · split <;> simp
      · rfl
mutual
/-- bound ahead: those variables are left out -/
theorem freeE_mem : ∀ (t : Ex) (c bd l : List ByteArray) (x : ByteArray), checkE t = 0 → (x ∈ freeE t (c ++ bd) l ↔ x ∈ l ∨ (x ∈ freeE t bd [] ∧ x ∉ c))
  | .mk k n m i d s, c, bd, l, x, hv => by
    obtain ⟨v1, v2⟩ := checkE_mk hv
    rw [freeE, freeE]
    by_cases hk : k = 3
    · have hs : s = [] := List.eq_nil_of_length_eq_zero ((checkN_len v1).2.2.2.1 hk)
      subst hs
      simp only [freeL]
      by_cases hb : n ∈ bd
      · have h1 : hasS bd n = true := hasS_iff.2 hb
        have h2 : hasS (c ++ bd) n = true := hasS_iff.2 (List.mem_append_right _ hb)
        simp [h1, h2]
      · have h1 : hasS bd n = false := by
          cases h : hasS bd n with
          | false => rfl
          | true => exact absurd (hasS_iff.1 h) hb
        by_cases hc : n ∈ c
        · have h2 : hasS (c ++ bd) n = true := hasS_iff.2 (List.mem_append_left _ hc)
          rw [if_neg (by rw [h2]; simp), if_pos ⟨hk, h1⟩, withS_mem]
          constructor
          · exact .inl
          · rintro (h | ⟨h | h, h'⟩)
            · exact h
            · cases h
            · subst h; exact absurd hc h'
        · have h2 : hasS (c ++ bd) n = false := by
            cases h : hasS (c ++ bd) n with
            | false => rfl
            | true =>
              rcases List.mem_append.1 (hasS_iff.1 h) with h | h
              · exact absurd h hc
              · exact absurd h hb
          rw [if_pos ⟨hk, h2⟩, if_pos ⟨hk, h1⟩, withS_mem, withS_mem]
          constructor
          · rintro (h | h)
            · exact .inl h
            · exact .inr ⟨.inr h, by rw [h]; exact hc⟩
          · rintro (h | ⟨h | h, _⟩)
            · exact .inl h
            · cases h
            · exact .inr h
    · rw [if_neg (fun h => hk h.1), if_neg (fun h => hk h.1)]
      exact freeL_mem k n m 0 s c bd l x v2
theorem freeL_mem (k : Int) (n m : ByteArray) : ∀ (i : Nat) (s : List Ex) (c bd l : List ByteArray) (x : ByteArray), checkEs s = 0 → (x ∈ freeL k n m i s (c ++ bd) l ↔ x ∈ l ∨ (x ∈ freeL k n m i s bd [] ∧ x ∉ c))
  | i, [], c, bd, l, x, _ => by simp [freeL]
  | i, e :: es, c, bd, l, x, hv => by
    obtain ⟨v1, v2⟩ := checkE_cons hv
    rw [freeL, freeL, freeL_mem k n m (i + 1) es c bd _ x v2, boundB_app, freeE_mem e c (boundB k n m i bd) l x v1]
    have h := freeL_mem k n m (i + 1) es [] bd (freeE e (boundB k n m i bd) []) x v2
    rw [List.nil_append] at h
    rw [h]
    simp only [List.not_mem_nil, not_false_eq_true, and_true]
    constructor
    · rintro ((h | h) | h)
      · exact .inl h
      · exact .inr ⟨.inl h.1, h.2⟩
      · exact .inr ⟨.inr h.1, h.2⟩
    · rintro (h | ⟨h | h, h'⟩)
      · exact .inl (.inl h)
      · exact .inl (.inr ⟨h, h'⟩)
      · exact .inr ⟨h, h'⟩
end
def foldW (l ys : List ByteArray) : List ByteArray := ys.foldl withS l
theorem foldW_mem : ∀ (ys l : List ByteArray) (x : ByteArray), x ∈ foldW l ys ↔ x ∈ l ∨ x ∈ ys
  | [], l, x => by simp [foldW]
  | y :: ys, l, x => by
    have := foldW_mem ys (withS l y) x
    unfold foldW at this ⊢
    rw [List.foldl_cons, this, withS_mem, List.mem_cons, or_assoc]
theorem foldW_srt : ∀ (ys l : List ByteArray), Srt l → Srt (foldW l ys)
  | [], _l, h => h
  | y :: ys, l, h => foldW_srt ys (withS l y) (withS_srt y h)
theorem foldW_snoc (l ys : List ByteArray) (y : ByteArray) : foldW l (ys ++ [y]) = withS (foldW l ys) y := by simp [foldW]
theorem foldW_length : ∀ (ys l : List ByteArray), (foldW l ys).length ≤ l.length + ys.length
  | [], l => by simp [foldW]
  | y :: ys, l => by
    have h1 := foldW_length ys (withS l y)
    have h2 := withS_length l y
    have e : foldW l (y :: ys) = foldW (withS l y) ys := rfl
    rw [e, List.length_cons]
    omega
def dropN (nm : ByteArray) (l : List ByteArray) : List ByteArray := l.filter fun s => decide (¬ s = nm)
theorem dropN_succ (nm : ByteArray) (l : List ByteArray) (q : Nat) (h : q < l.length) : dropN nm (l.take (q + 1)) = dropN nm (l.take q) ++ (if l[q] = nm then [] else [l[q]]) := by
  unfold dropN
  rw [List.take_succ_eq_append_getElem h, List.filter_append]
  congr 1
  by_cases e : l[q] = nm
  · simp [e]
  · simp [e]
def funE (nm : ByteArray) (b : Ex) : Ex := .mk 6 nm ⟨#[]⟩ 0 0 [b]
theorem free_fun (nm : ByteArray) (b : Ex) (hb : checkE b = 0) : freeE (funE nm b) [] [] = dropN nm (freeE b [] []) := by
  have e : freeE (funE nm b) [] [] = freeE b ([nm] ++ []) [] := by
    unfold funE
    rw [freeE, if_neg (by simp)]
    simp [freeL, boundB]
  rw [e]
  refine srt_ext (freeE_srt _ _ _ .nil) (List.Pairwise.sublist (List.filter_sublist) (freeE_srt _ _ _ .nil)) fun x => ?_
  rw [freeE_mem b [nm] [] [] x hb]
  simp [dropN]
theorem free_let (nm : ByteArray) (a b : Ex) (hb : checkE b = 0) : freeE (.mk 8 nm ⟨#[]⟩ 0 0 [a, b]) [] [] = foldW (foldW [] (freeE a [] [])) (dropN nm (freeE b [] [])) := by
  have e : freeE (.mk 8 nm ⟨#[]⟩ 0 0 [a, b]) [] [] = freeE b ([nm] ++ []) (freeE a [] []) := by
    rw [freeE, if_neg (by simp)]
    simp [freeL, boundB]
  rw [e]
  refine srt_ext (freeE_srt _ _ _ (freeE_srt _ _ _ .nil)) (foldW_srt _ _ (foldW_srt _ _ .nil)) fun x => ?_
  rw [freeE_mem b [nm] [] _ x hb, foldW_mem, foldW_mem]
  simp [dropN]
end Go.Proofs.YtnphcjpccieljaaGreatDoor
