/- Plain laws of scanning: fuel, beginnings of texts. -/
import Derived.Test.YtckkfenchjgfhaaDoorLexPure3
namespace Go.Proofs.YtckkfenchjgfhaaDoor

theorem skipGo_take : ∀ (b : Bool) (l : List UInt8) (m : Nat), skipGo b l ≤ m → skipGo b (l.take m) = skipGo b l
  | b, [], m, _ => by simp
  | true, c :: r, 0, h => by simp only [skipGo] at h; split at h <;> omega
  | true, c :: r, m + 1, h => by
    simp only [List.take_succ_cons, skipGo] at h ⊢
    split at h
    · rename_i hc; rw [if_pos hc, if_pos hc, skipGo_take false r m (by omega)]
    · rename_i hc; rw [if_neg hc, if_neg hc, skipGo_take true r m (by omega)]
  | false, c :: r, 0, h => by
    have : skipGo false (c :: r) = 0 := by omega
    rw [this]; rfl
  | false, c :: r, m + 1, h => by
    simp only [List.take_succ_cons, skipGo] at h ⊢
    split at h
    · rename_i hc; rw [if_pos hc, if_pos hc, skipGo_take false r m (by omega)]
    · rename_i hc
      rw [if_neg hc, if_neg hc]
      split at h
      · rename_i hd; rw [if_pos hd, if_pos hd, skipGo_take true r m (by omega)]
      · rename_i hd; rw [if_neg hd, if_neg hd]
theorem skipL_take {l : List UInt8} {m : Nat} (h : skipL l ≤ m) : skipL (l.take m) = skipL l := skipGo_take false l m h
theorem runL_take (p : UInt8 → Bool) : ∀ (l : List UInt8) (m : Nat), runL p l ≤ m → runL p (l.take m) = runL p l
  | [], m, _ => by simp
  | c :: r, 0, h => by have : runL p (c :: r) = 0 := by omega
                       rw [this]; rfl
  | c :: r, m + 1, h => by
    by_cases hc : p c = true
    · have e : ∀ r', runL p (c :: r') = runL p r' + 1 := fun r' => by simp [runL, hc]
      rw [List.take_succ_cons, e, e, runL_take p r m (by rw [e] at h; omega)]
    · simp [runL, hc]
theorem head_take {l : List UInt8} {m : Nat} (h : 0 < m) : (l.take m).head? = l.head? := by
  cases l with
  | nil => simp
  | cons c r => cases m with
    | zero => omega
    | succ m => rfl
theorem tail_take (l : List UInt8) (m : Nat) : (l.take m).tail = l.tail.take (m - 1) := by
  cases l with
  | nil => simp
  | cons c r => cases m with
    | zero => simp
    | succ m => simp
theorem prefix_take_of {l p : List UInt8} {m : Nat} (h : Lib.hasPrefix (l.take m) p = true) : Lib.hasPrefix l p = true := by
  unfold Lib.hasPrefix at *
  rw [List.isPrefixOf_iff_prefix] at *
  exact h.trans (List.take_prefix _ _)
theorem prefix_take_to {l p : List UInt8} {m : Nat} (h : Lib.hasPrefix l p = true) (hm : p.length ≤ m) : Lib.hasPrefix (l.take m) p = true := by
  unfold Lib.hasPrefix at *
  rw [List.isPrefixOf_iff_prefix] at *
  exact List.prefix_take_iff.2 ⟨h, hm⟩
theorem prefix_take_eq {l p : List UInt8} {m : Nat} (hm : p.length ≤ m) : Lib.hasPrefix (l.take m) p = Lib.hasPrefix l p := by
  rw [Bool.eq_iff_iff]; exact ⟨prefix_take_of, fun h => prefix_take_to h hm⟩
theorem signL_def (l : List UInt8) : signL l = if Lib.hasPrefix l [45, 62] || (Lib.hasPrefix l [58, 58] || Lib.hasPrefix l [124, 124]) then 2 else (match l.head? with | none => 0 | some c => if decide (0 ≤ Lib.indexByte onesL c) then 1 else 0) := by
  unfold signL
  cases l <;> rfl
theorem signL_take {l : List UInt8} {m : Nat} (h : signL l ≤ m) (h0 : 0 < signL l) : signL (l.take m) = signL l := by
  have hm : 0 < m := by omega
  rw [signL_def] at h h0
  rw [signL_def, signL_def, head_take hm]
  by_cases hp : (Lib.hasPrefix l [45, 62] || (Lib.hasPrefix l [58, 58] || Lib.hasPrefix l [124, 124])) = true
  · rw [if_pos hp] at h
    rw [prefix_take_eq (by simpa using h), prefix_take_eq (by simpa using h), prefix_take_eq (by simpa using h)]
  · have hp' : ¬ (Lib.hasPrefix (l.take m) [45, 62] || (Lib.hasPrefix (l.take m) [58, 58] || Lib.hasPrefix (l.take m) [124, 124])) = true := by
      intro hq; apply hp
      simp only [Bool.or_eq_true] at hq ⊢
      rcases hq with hq | hq | hq
      · exact .inl (prefix_take_of hq)
      · exact .inr (.inl (prefix_take_of hq))
      · exact .inr (.inr (prefix_take_of hq))
    rw [if_neg hp, if_neg hp']
theorem digit_inner {c : UInt8} (h : digitB c = true) : innerB c = true := by
  unfold digitB at h; simp [innerB, isRunning, h]
theorem nextL_take {r : List UInt8} {m : Nat} (h : (nextL r).2 ≤ m) (h0 : 0 < (nextL r).2) : nextL (r.take m) = nextL r := by
  have hm : 0 < m := by omega
  unfold nextL at h h0 ⊢
  rw [head_take hm]
  by_cases hl : letterB (r.head?.getD 0) = true
  · rw [if_pos hl] at h h0
    rw [if_pos hl, if_pos hl, runL_take _ _ _ h, List.take_take, Nat.min_eq_left h]
  · rw [if_neg hl] at h h0
    rw [if_neg hl, if_neg hl, tail_take]
    by_cases hn : (digitB (r.head?.getD 0) || ((r.head?.getD 0).toNat == 45 && decide (1 < r.length) && digitB (r.tail.head?.getD 0))) = true
    · rw [if_pos hn] at h h0
      have hr : runL innerB r.tail ≤ m - 1 := by simp only [] at h; omega
      rw [if_pos hn, if_pos, runL_take _ _ _ hr]
      by_cases hd : digitB (r.head?.getD 0) = true
      · simp [hd]
      · simp only [Bool.or_eq_true, Bool.and_eq_true, decide_eq_true_eq] at hn
        obtain ⟨⟨h1, h2⟩, h3⟩ := hn.resolve_left hd
        have hp : 0 < runL innerB r.tail := by
          cases ht : r.tail with
          | nil => rw [ht] at h3; simp [digitB, isDigit] at h3
          | cons c q => rw [ht] at h3; exact runL_pos (digit_inner (by simpa using h3))
        simp only [Bool.or_eq_true, Bool.and_eq_true, decide_eq_true_eq, List.length_take]
        refine .inr ⟨⟨h1, by simp only [] at h; omega⟩, ?_⟩
        rw [head_take (by omega)]; exact h3
    · rw [if_neg hn] at h h0
      rw [if_neg hn, if_neg, signL_take h h0]
      intro hq; apply hn
      simp only [Bool.or_eq_true, Bool.and_eq_true, decide_eq_true_eq, List.length_take] at hq ⊢
      rcases hq with hq | ⟨⟨h1, h2⟩, h3⟩
      · exact .inl hq
      · refine .inr ⟨⟨h1, by omega⟩, ?_⟩
        rw [head_take (by omega)] at h3; exact h3
theorem okNext_take {r : List UInt8} {m : Nat} (h : (nextL r).2 ≤ m) (ho : okNext r = true) : okNext (r.take m) = true := by
  have h0 := okNext_pos ho
  unfold okNext at ho ⊢
  rw [nextL_take h h0, List.take_take, Nat.min_eq_left h]; exact ho
theorem advL_take {r : List UInt8} {m : Nat} (h : advL r ≤ m) (h0 : 0 < (nextL r).2) : advL (r.take m) = advL r := by
  unfold advL at h ⊢
  rw [nextL_take (by omega) h0, List.drop_take, skipL_take (by omega)]
theorem tokL_take {r : List UInt8} {m p : Nat} (h : (nextL r).2 ≤ m) (h0 : 0 < (nextL r).2) : tokL (r.take m) p = tokL r p := by
  unfold tokL
  rw [nextL_take h h0, List.take_take, Nat.min_eq_left h]
theorem scanT_before : ∀ (f : Nat) (r : List UInt8) (p q : Nat) (acc ts : List Tok), scanT f r p acc = (ts, some q) → p ≤ q ∧ q < p + r.length ∧ ∃ ts', scanT f (r.take (q - p)) p acc = (ts', none)
  | 0, r, p, q, acc, ts, h => by simp [scanT] at h
  | f + 1, r, p, q, acc, ts, h => by
    rcases Nat.eq_zero_or_pos r.length with h0 | h0
    · rw [scanT_end h0] at h; simp at h
    · cases ho : okNext r
      · rw [scanT_err h0 ho] at h
        obtain rfl : p = q := by simpa using (Prod.mk.inj h).2
        refine ⟨Nat.le_refl _, by omega, acc, ?_⟩
        rw [Nat.sub_self, List.take_zero]; exact scanT_end rfl
      · rw [scanT_step h0 ho] at h
        obtain ⟨h1, h2, ts', h3⟩ := scanT_before f _ _ _ _ _ h
        have ha := advL_le r h0
        have hn := okNext_pos ho
        have hna : (nextL r).2 ≤ advL r := by unfold advL; omega
        simp only [List.length_drop] at h2
        refine ⟨by omega, by omega, ts', ?_⟩
        rw [scanT_step (by simp; omega) (okNext_take (by omega) ho), advL_take (by omega) hn, tokL_take (by omega) hn, List.drop_take, Nat.sub_sub]
        exact h3
theorem scanT_fuel : ∀ (n : Nat) (r : List UInt8) (f g p : Nat) (acc : List Tok), r.length ≤ n → n < f → n < g → scanT f r p acc = scanT g r p acc
  | n, r, 0, g, p, acc, _, hf, _ => by omega
  | n, r, f + 1, 0, p, acc, _, _, hg => by omega
  | n, r, f + 1, g + 1, p, acc, hn, hf, hg => by
    rcases Nat.eq_zero_or_pos r.length with h0 | h0
    · rw [scanT_end h0, scanT_end h0]
    · cases ho : okNext r
      · rw [scanT_err h0 ho, scanT_err h0 ho]
      · rw [scanT_step h0 ho, scanT_step h0 ho]
        have hn0 := okNext_pos ho
        have hna : (nextL r).2 ≤ advL r := by unfold advL; omega
        cases n with
        | zero => omega
        | succ n => exact scanT_fuel n _ f g _ _ (by simp; omega) (by omega) (by omega)
theorem scanAll_before {l : List UInt8} {q : Nat} {ts : List Tok} (h : scanAll l = (ts, some q)) : q < l.length ∧ ∃ ts', scanAll (l.take q) = (ts', none) := by
  unfold scanAll at h
  have hk := skipL_le l
  obtain ⟨h1, h2, ts', h3⟩ := scanT_before _ _ _ _ _ _ h
  simp only [List.length_drop] at h2
  refine ⟨by omega, ts', ?_⟩
  unfold scanAll
  rw [skipL_take h1, List.drop_take, ← h3]
  have hl : ((l.drop (skipL l)).take (q - skipL l)).length ≤ q := by simp; omega
  exact scanT_fuel q _ _ _ _ _ hl (by simp; omega) (by omega)
end Go.Proofs.YtckkfenchjgfhaaDoor
