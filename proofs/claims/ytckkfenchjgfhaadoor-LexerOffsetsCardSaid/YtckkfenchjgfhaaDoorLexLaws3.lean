/- Plain laws of scanning: what is scanned is valid; separators between tokens. -/
import Derived.Test.YtckkfenchjgfhaaDoorLexLaws2
namespace Go.Proofs.YtckkfenchjgfhaaDoor

theorem ok_tok {r : List UInt8} {p : Nat} (h : okNext r = true) : TokOK (tokL r p) := by
  have h : checkL (nextL r).1 (r.take (nextL r).2) 0 = 0 := by simpa [okNext] using h
  unfold checkL at h
  by_cases h1 : (nextL r).1 < 1 ∨ 4 < (nextL r).1
  · rw [if_pos h1] at h; omega
  · rw [if_neg h1] at h
    cases ht : textL (nextL r).1 (r.take (nextL r).2)
    · rw [if_neg (by simp [ht])] at h; omega
    · exact ⟨by show 1 ≤ (nextL r).1; omega, by show (nextL r).1 ≤ 4; omega, ht⟩
theorem scanT_valid : ∀ (f : Nat) (r : List UInt8) (p : Nat) (acc ts : List Tok), (∀ t ∈ acc, TokOK t) → scanT f r p acc = (ts, none) → ∀ t ∈ ts, TokOK t
  | 0, r, p, acc, ts, ha, h => by
    obtain rfl : acc = ts := by simpa [scanT] using h
    exact ha
  | f + 1, r, p, acc, ts, ha, h => by
    rcases Nat.eq_zero_or_pos r.length with h0 | h0
    · rw [scanT_end h0] at h
      obtain rfl : acc = ts := by simpa using h
      exact ha
    · cases ho : okNext r
      · rw [scanT_err h0 ho] at h; simp at h
      · rw [scanT_step h0 ho] at h
        refine scanT_valid f _ _ _ _ (fun t ht => ?_) h
        rcases List.mem_append.1 ht with ht | ht
        · exact ha t ht
        · obtain rfl : t = _ := List.mem_singleton.1 ht
          exact ok_tok ho
theorem scan_valid {l : List UInt8} {ts : List Tok} (h : scanAll l = (ts, none)) : ∀ t ∈ ts, TokOK t :=
  scanT_valid _ _ _ [] ts (fun t ht => by simp at ht) h
theorem word_short {m : Nat} {l : List UInt8} (h : wordL m l = true) : l.length ≤ m := by
  rcases Nat.lt_or_ge m l.length with h1 | h1
  · rw [wordL_long h1] at h; cases h
  · exact h1
theorem tok_short {t : Tok} (h : TokOK t) : t.text.length ≤ 90 := by
  obtain ⟨h1, h4, ht⟩ := h
  have : t.kind = 1 ∨ t.kind = 2 ∨ t.kind = 3 ∨ t.kind = 4 := by omega
  rcases this with e | e | e | e
  · rw [e, textL_1] at ht; have := word_short ht; omega
  · rw [e, textL_2, Bool.and_eq_true] at ht
    have := ht.1; unfold labelL at this; rw [Bool.and_eq_true] at this
    simpa using this.1
  · rw [e, textL_3] at ht
    unfold numberL at ht
    have core : ∀ l : List UInt8, numCore l = true → l.length ≤ 9 := fun l h => by
      simp only [numCore, Bool.and_eq_true, decide_eq_true_eq] at h; omega
    split at ht
    · rw [Bool.and_eq_true] at ht
      have := core _ ht.1
      simp at this; omega
    · have := core _ ht; omega
  · rw [e, textL_4, Bool.and_eq_true] at ht
    rcases sign_cases (by simpa using ht.1) (by simpa using ht.2) with hx | hx | hx | ⟨c, hx, _⟩ <;> rw [hx] <;> simp
/-- the separator that stands for a number -/
def sepL (m : Int) (cm : List UInt8) : List UInt8 :=
  if m == 0 then [32] else if m == 1 then [10] else if m == 2 then [32, 10, 32, 32] else [32, 35] ++ cm ++ [10]
theorem skipGo_comment : ∀ (cm x : List UInt8), (∀ c ∈ cm, c ≠ 10) → skipGo true (cm ++ 10 :: x) = cm.length + 1 + skipL x
  | [], x, _ => by show skipGo true (10 :: x) = _; rw [skipGo, if_pos (by decide)]; simp [skipL]
  | c :: cm, x, h => by
    have hc := h c (by simp)
    have : ((c.toNat : Int) == 10) = false := by
      cases hh : ((c.toNat : Int) == 10)
      · rfl
      · exact absurd (UInt8.toNat_inj.1 (by have := eq_of_beq hh; simp; omega)) hc
    rw [List.cons_append, skipGo, if_neg (by simp [this]), skipGo_comment cm x (fun d hd => h d (by simp [hd]))]
    simp; omega
theorem skipGo_last : ∀ (cm : List UInt8), (∀ c ∈ cm, c ≠ 10) → skipGo true cm = cm.length
  | [], _ => rfl
  | c :: cm, h => by
    have hc := h c (by simp)
    have : ((c.toNat : Int) == 10) = false := by
      cases hh : ((c.toNat : Int) == 10)
      · rfl
      · exact absurd (UInt8.toNat_inj.1 (by have := eq_of_beq hh; simp; omega)) hc
    rw [skipGo, if_neg (by simp [this]), skipGo_last cm (fun d hd => h d (by simp [hd]))]
    simp; omega
theorem skips_sep (m : Int) {cm : List UInt8} (h : ∀ c ∈ cm, c ≠ 10) : Skips (sepL m cm) := by
  have b32 : ∀ x, skipL (32 :: x) = 1 + skipL x := fun x => skipL_blank (.inl rfl)
  have b10 : ∀ x, skipL (10 :: x) = 1 + skipL x := fun x => skipL_blank (.inr rfl)
  intro x
  unfold sepL
  repeat' split
  · exact b32 x
  · exact b10 x
  · show skipL (32 :: 10 :: 32 :: 32 :: x) = _
    rw [b32, b10, b32, b32]; simp; omega
  · show skipL (32 :: 35 :: (cm ++ [10] ++ x)) = _ 
    rw [b32, List.append_assoc]
    show 1 + skipL (35 :: (cm ++ 10 :: x)) = _
    unfold skipL
    rw [skipGo, if_neg (by decide), if_pos (by decide), skipGo_comment cm x h]
    simp [skipL]; omega
theorem sep_head (m : Int) (cm : List UInt8) : ∃ c q, sepL m cm = c :: q ∧ (c = 32 ∨ c = 10) := by
  unfold sepL
  repeat' split
  · exact ⟨32, _, rfl, .inl rfl⟩
  · exact ⟨10, _, rfl, .inr rfl⟩
  · exact ⟨32, _, rfl, .inl rfl⟩
  · exact ⟨32, _, rfl, .inl rfl⟩
theorem sep_len (m : Int) (cm : List UInt8) : (sepL m cm).length ≤ cm.length + 4 := by
  unfold sepL
  repeat' split
  all_goals simp
theorem end_skip {cm : List UInt8} (h : ∀ c ∈ cm, c ≠ 10) : skipL (10 :: 35 :: cm) = (10 :: 35 :: cm).length := by
  rw [skipL_blank (.inr rfl)]
  unfold skipL
  rw [skipGo, if_neg (by decide), if_pos (by decide), skipGo_last cm h]
  simp; omega
theorem flat_snoc : ∀ (L : List (List UInt8 × Tok)) (s : List UInt8) (t : Tok), flatL (L ++ [(s, t)]) [] = flatL L [] ++ s ++ t.text
  | [], s, t => by simp [flatL]
  | (a, u) :: L, s, t => by simp [flatL, flat_snoc L s t]
theorem flat_end : ∀ (L : List (List UInt8 × Tok)) (z : List UInt8), flatL L z = flatL L [] ++ z
  | [], z => by simp [flatL]
  | (a, u) :: L, z => by simp only [flatL]; rw [flat_end L z]; simp
theorem flat_len {L : List (List UInt8 × Tok)} {n : Nat} (h : ∀ x ∈ L, x.1.length + x.2.text.length ≤ n) : (flatL L []).length ≤ L.length * n := by
  induction L with
  | nil => simp [flatL]
  | cons x L ih =>
    obtain ⟨s, t⟩ := x
    have h1 := h _ (List.mem_cons_self ..)
    have h2 := ih (fun y hy => h y (List.mem_cons_of_mem _ hy))
    simp only [flatL, List.length_append, List.length_cons, Nat.add_mul, Nat.one_mul] at h1 h2 ⊢
    omega
theorem sep_pure {L : List (List UInt8 × Tok)} {cm : List UInt8} (hL : LaidOK L) (hI : Inner L) (h : ∀ c ∈ cm, c ≠ 10) : ∃ ms, scanAll (flatL L (10 :: 35 :: cm)) = (ms, none) ∧ ms.map kt = L.map (fun x => kt x.2) := by
  cases L with
  | nil =>
    refine ⟨[], ?_, rfl⟩
    show scanAll (10 :: 35 :: cm) = _
    unfold scanAll
    rw [end_skip h, List.drop_length, scanT_end rfl]
  | cons x L =>
    obtain ⟨s, t⟩ := x
    obtain ⟨h1, h2⟩ := hL _ (List.mem_cons_self ..)
    obtain ⟨ms, e1, e2⟩ := scan_laid h1 h2 (fun y hy => hL y (List.mem_cons_of_mem _ hy)) (fun y hy => hI y (List.mem_cons_of_mem _ hy)) (end_skip h) (.inr ⟨10, _, rfl, .inr rfl⟩)
    exact ⟨ms, e1, by rw [e2]; rfl⟩
end Go.Proofs.YtckkfenchjgfhaaDoor
