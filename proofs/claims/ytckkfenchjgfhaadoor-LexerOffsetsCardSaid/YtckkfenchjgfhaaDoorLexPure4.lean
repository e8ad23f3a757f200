/- Print in plain form. -/
import Derived.Test.YtckkfenchjgfhaaDoorLexPure3
namespace Go.Proofs.YtckkfenchjgfhaaDoor

def greatL (ts : List Tok) : Bool := decide (60 < ts.length) || ts.any (fun t => decide (120 < t.text.length))
def checkT (t : Tok) : Int := checkL t.kind t.text t.pos
/-- the first error among tokens -/
def firstErr : List Tok → Int
  | [] => 0
  | t :: ts => if checkT t == 0 then firstErr ts else checkT t
def joinL : List Tok → List UInt8
  | [] => []
  | [t] => t.text
  | t :: u :: ts => t.text ++ 32 :: joinL (u :: ts)
def printL (ts : List Tok) : List UInt8 := if firstErr ts == 0 then joinL ts else []
def sizesL (ts : List Tok) : Nat := (ts.map (fun t => t.text.length + 1)).sum
theorem joinL_snoc : ∀ (ts : List Tok) (t : Tok), joinL (ts ++ [t]) = if ts.isEmpty then t.text else joinL ts ++ [32] ++ t.text
  | [], t => rfl
  | [u], t => by simp [joinL]
  | u :: v :: ts, t => by
    have ih := joinL_snoc (v :: ts) t
    simp only [List.cons_append, joinL, List.isEmpty_cons] at ih ⊢
    rw [ih]; simp
theorem joinL_len : ∀ (ts : List Tok), (joinL ts).length ≤ sizesL ts
  | [] => by simp [joinL, sizesL]
  | [t] => by simp [joinL, sizesL]
  | t :: u :: ts => by
    have ih := joinL_len (u :: ts)
    simp only [joinL, sizesL, List.map_cons, List.sum_cons, List.length_append, List.length_cons] at ih ⊢
    omega
theorem sizesL_le {ts : List Tok} (h : ∀ t ∈ ts, t.text.length ≤ 120) : sizesL ts ≤ ts.length * 121 := by
  induction ts with
  | nil => simp [sizesL]
  | cons t ts ih =>
    have h1 := h t (by simp)
    have h2 := ih (fun u hu => h u (by simp [hu]))
    simp only [sizesL, List.map_cons, List.sum_cons, List.length_cons] at h2 ⊢
    omega
theorem sizesL_snoc (ts : List Tok) (t : Tok) : sizesL (ts ++ [t]) = sizesL ts + (t.text.length + 1) := by simp [sizesL]
theorem firstErr_all {ts : List Tok} : (∀ t ∈ ts, checkT t = 0) → firstErr ts = 0 := by
  induction ts with
  | nil => intro _; rfl
  | cons t ts ih =>
    intro h
    rw [firstErr, if_pos (by simpa using h t (by simp))]
    exact ih (fun u hu => h u (by simp [hu]))
theorem firstErr_at {ts : List Tok} : ∀ {k : Nat} (hk : k < ts.length), (∀ j (hj : j < ts.length), j < k → checkT ts[j] = 0) → checkT ts[k] ≠ 0 → firstErr ts = checkT ts[k] := by
  induction ts with
  | nil => intro k hk; simp at hk
  | cons t ts ih =>
    intro k hk h hne
    cases k with
    | zero =>
      simp only [List.getElem_cons_zero] at hne ⊢
      rw [firstErr, if_neg (by simpa using hne)]
    | succ k =>
      have h0 := h 0 (by simp) (by omega)
      simp only [List.getElem_cons_zero] at h0
      rw [firstErr, if_pos (by simpa using h0)]
      exact ih (by simpa using hk) (fun j hj hlt => by have := h (j + 1) (by simpa using hj) (by omega); simpa using this) (by simpa using hne)
theorem take_snoc_get {ts : List Tok} {k : Nat} (h : k < ts.length) : ts.take (k + 1) = ts.take k ++ [ts[k]] := by
  rw [List.take_succ_eq_append_getElem h]
theorem greatL_long {ts : List Tok} (h : 60 < ts.length) : greatL ts = true := by simp [greatL, h]
theorem greatL_at {ts : List Tok} {k : Nat} (hk : k < ts.length) (h : 120 < ts[k].text.length) : greatL ts = true := by
  unfold greatL
  rw [Bool.or_eq_true]; right
  rw [List.any_eq_true]
  exact ⟨ts[k], List.getElem_mem _, by simpa using h⟩
theorem greatL_no {ts : List Tok} (h0 : ts.length ≤ 60) (h : ∀ k (hk : k < ts.length), ts[k].text.length ≤ 120) : greatL ts = false := by
  unfold greatL
  rw [Bool.or_eq_false_iff]
  refine ⟨by simpa using h0, ?_⟩
  rw [List.any_eq_false]
  intro t ht
  obtain ⟨k, hk, rfl⟩ := List.getElem_of_mem ht
  simpa using h k hk
theorem greatL_small {ts : List Tok} (h : greatL ts = false) : ts.length ≤ 60 ∧ ∀ t ∈ ts, t.text.length ≤ 120 := by
  unfold greatL at h
  rw [Bool.or_eq_false_iff, List.any_eq_false] at h
  exact ⟨by simpa using h.1, fun t ht => by simpa using h.2 t ht⟩
end Go.Proofs.YtckkfenchjgfhaaDoor
