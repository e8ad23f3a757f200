/- The token at the beginning of a text, in plain form. Scan in plain form. Plain laws of scanning: fuel, beginnings of texts. Plain laws of scanning: tokens that are laid out with separators between them are scanned as they are. -/
import Derived.Test.YtnphcjpccieljaaGreatDoorGLex
namespace Go.Proofs.YtnphcjpccieljaaGreatDoor

/-- kind and length of the token at the beginning -/
def nextL (l : List UInt8) : Int × Nat :=
  if letterB (l.head?.getD 0) then (if hasSlash (l.take (runL innerB l)) then 2 else 1, runL innerB l)
  else if digitB (l.head?.getD 0) || ((l.head?.getD 0).toNat == 45 && decide (1 < l.length) && digitB (l.tail.head?.getD 0)) then (3, 1 + runL innerB l.tail)
  else (4, signL l)
def okNext (l : List UInt8) : Bool := checkL (nextL l).1 (l.take (nextL l).2) 0 == 0
theorem prefix_two {l : List UInt8} {a b : UInt8} (h : Lib.hasPrefix l [a, b] = true) : 2 ≤ l.length := by
  unfold Lib.hasPrefix at h
  have := (List.isPrefixOf_iff_prefix.1 h).length_le
  simpa using this
theorem signL_le (l : List UInt8) : signL l ≤ l.length := by
  unfold signL
  split
  · rename_i h
    simp only [Bool.or_eq_true] at h
    rcases h with h | h | h <;> exact prefix_two h
  · cases l with
    | nil => simp
    | cons c r => simp only [List.length_cons]; split <;> omega
end Go.Proofs.YtnphcjpccieljaaGreatDoor

namespace Go.Proofs.YtnphcjpccieljaaGreatDoor

structure LTok where
  kind : Int
  text : List UInt8
  pos : Int

/-- how far the next token and what separates it from the one behind it reach -/
def advL (r : List UInt8) : Nat := (nextL r).2 + skipL (r.drop (nextL r).2)
def tokL (r : List UInt8) (p : Nat) : LTok := ⟨(nextL r).1, r.take (nextL r).2, p⟩
/-- the tokens from a place on, and where an error is -/
def scanT : Nat → List UInt8 → Nat → List LTok → List LTok × Option Nat
  | 0, _, _, acc => (acc, none)
  | f + 1, r, p, acc => if r.isEmpty then (acc, none) else if okNext r then scanT f (r.drop (advL r)) (p + advL r) (acc ++ [tokL r p]) else ([], some p)
def scanAll (l : List UInt8) : List LTok × Option Nat := scanT (l.length + 1) (l.drop (skipL l)) (skipL l) []

theorem nextL_le (l : List UInt8) (h : 0 < l.length) : (nextL l).2 ≤ l.length := by
  unfold nextL
  have h1 := runL_le innerB l
  have h2 := runL_le innerB l.tail
  have h3 := signL_le l
  simp only [List.length_tail] at h2
  repeat' split
  all_goals first | exact h1 | exact h3 | (simp only []; omega)
theorem textL_nil (k : Int) : textL k [] = false := by
  unfold textL; repeat' split
  all_goals rfl
theorem checkL_nil (k : Int) : (checkL k [] 0 == 0) = false := by
  unfold checkL; rw [textL_nil]; split <;> rfl
theorem okNext_pos {l : List UInt8} (h : okNext l = true) : 0 < (nextL l).2 := by
  rcases Nat.eq_zero_or_pos (nextL l).2 with h0 | h0
  · unfold okNext at h; rw [h0, List.take_zero, checkL_nil] at h; cases h
  · exact h0
theorem advL_le (r : List UInt8) (h : 0 < r.length) : advL r ≤ r.length := by
  have h1 := nextL_le r h
  have h2 := skipL_le (r.drop (nextL r).2)
  simp only [List.length_drop] at h2
  unfold advL; omega
theorem scanT_end {f : Nat} {r : List UInt8} {p : Nat} {acc : List LTok} (h : r.length = 0) : scanT f r p acc = (acc, none) := by
  obtain rfl := List.eq_nil_of_length_eq_zero h
  cases f <;> rfl
theorem scanT_step {f : Nat} {r : List UInt8} {p : Nat} {acc : List LTok} (h : 0 < r.length) (ho : okNext r = true) : scanT (f + 1) r p acc = scanT f (r.drop (advL r)) (p + advL r) (acc ++ [tokL r p]) := by
  rw [scanT, if_neg (by cases r <;> simp_all), if_pos ho]
theorem scanT_err {f : Nat} {r : List UInt8} {p : Nat} {acc : List LTok} (h : 0 < r.length) (ho : okNext r = false) : scanT (f + 1) r p acc = ([], some p) := by
  rw [scanT, if_neg (by cases r <;> simp_all), if_neg (by simp [ho])]
end Go.Proofs.YtnphcjpccieljaaGreatDoor

namespace Go.Proofs.YtnphcjpccieljaaGreatDoor

theorem skipGo_take : ∀ (b : Bool) (l : List UInt8) (m : Nat), skipGo b l ≤ m → skipGo b (l.take m) = skipGo b l
  | b, [], m, _ => by simp
  | true, c :: r, 0, h => by simp only [skipGo] at h; split at h <;> omega
  | true, c :: r, m + 1, h => by
    simp only [List.take_succ_cons, skipGo] at h ⊢
    split at h
    · rename_i hc; rw [if_pos hc, if_pos hc, skipGo_take false r m (by omega)]
    · rename_i hc; rw [if_neg hc, if_neg hc, skipGo_take true r m (by omega)]
  | false, c :: r, 0, h => by
    have : skipGo false (c :: r) = 0 := by omega
    rw [this]; rfl
  | false, c :: r, m + 1, h => by
    simp only [List.take_succ_cons, skipGo] at h ⊢
    split at h
    · rename_i hc; rw [if_pos hc, if_pos hc, skipGo_take false r m (by omega)]
    · rename_i hc
      rw [if_neg hc, if_neg hc]
      split at h
      · rename_i hd; rw [if_pos hd, if_pos hd, skipGo_take true r m (by omega)]
      · rename_i hd; rw [if_neg hd, if_neg hd]
theorem skipL_take {l : List UInt8} {m : Nat} (h : skipL l ≤ m) : skipL (l.take m) = skipL l := skipGo_take false l m h
theorem runL_take (p : UInt8 → Bool) : ∀ (l : List UInt8) (m : Nat), runL p l ≤ m → runL p (l.take m) = runL p l
  | [], m, _ => by simp
  | c :: r, 0, h => by have : runL p (c :: r) = 0 := by omega
                       rw [this]; rfl
  | c :: r, m + 1, h => by
    by_cases hc : p c = true
    · have e : ∀ r', runL p (c :: r') = runL p r' + 1 := fun r' => by simp [runL, hc]
      rw [List.take_succ_cons, e, e, runL_take p r m (by rw [e] at h; omega)]
    · simp [runL, hc]
theorem head_take {l : List UInt8} {m : Nat} (h : 0 < m) : (l.take m).head? = l.head? := by
  cases l with
  | nil => simp
  | cons c r => cases m with
    | zero => omega
    | succ m => rfl
theorem tail_take (l : List UInt8) (m : Nat) : (l.take m).tail = l.tail.take (m - 1) := by
  cases l with
  | nil => simp
  | cons c r => cases m with
    | zero => simp
    | succ m => simp
theorem prefix_take_of {l p : List UInt8} {m : Nat} (h : Lib.hasPrefix (l.take m) p = true) : Lib.hasPrefix l p = true := by
  unfold Lib.hasPrefix at *
  rw [List.isPrefixOf_iff_prefix] at *
  exact h.trans (List.take_prefix _ _)
theorem prefix_take_to {l p : List UInt8} {m : Nat} (h : Lib.hasPrefix l p = true) (hm : p.length ≤ m) : Lib.hasPrefix (l.take m) p = true := by
  unfold Lib.hasPrefix at *
  rw [List.isPrefixOf_iff_prefix] at *
  exact List.prefix_take_iff.2 ⟨h, hm⟩
theorem prefix_take_eq {l p : List UInt8} {m : Nat} (hm : p.length ≤ m) : Lib.hasPrefix (l.take m) p = Lib.hasPrefix l p := by
  rw [Bool.eq_iff_iff]; exact ⟨prefix_take_of, fun h => prefix_take_to h hm⟩
theorem signL_def (l : List UInt8) : signL l = if Lib.hasPrefix l [45, 62] || (Lib.hasPrefix l [58, 58] || Lib.hasPrefix l [124, 124]) then 2 else (match l.head? with | none => 0 | some c => if decide (0 ≤ Lib.indexByte onesL c) then 1 else 0) := by
  unfold signL
  cases l <;> rfl
theorem signL_take {l : List UInt8} {m : Nat} (h : signL l ≤ m) (h0 : 0 < signL l) : signL (l.take m) = signL l := by
  have hm : 0 < m := by omega
  rw [signL_def] at h h0
  rw [signL_def, signL_def, head_take hm]
  by_cases hp : (Lib.hasPrefix l [45, 62] || (Lib.hasPrefix l [58, 58] || Lib.hasPrefix l [124, 124])) = true
  · rw [if_pos hp] at h
    rw [prefix_take_eq (by simpa using h), prefix_take_eq (by simpa using h), prefix_take_eq (by simpa using h)]
  · have hp' : ¬ (Lib.hasPrefix (l.take m) [45, 62] || (Lib.hasPrefix (l.take m) [58, 58] || Lib.hasPrefix (l.take m) [124, 124])) = true := by
      intro hq; apply hp
      simp only [Bool.or_eq_true] at hq ⊢
      rcases hq with hq | hq | hq
      · exact .inl (prefix_take_of hq)
      · exact .inr (.inl (prefix_take_of hq))
      · exact .inr (.inr (prefix_take_of hq))
    rw [if_neg hp, if_neg hp']
theorem digit_inner {c : UInt8} (h : digitB c = true) : innerB c = true := by
  unfold digitB at h; simp [innerB, isRunning, h]
theorem nextL_take {r : List UInt8} {m : Nat} (h : (nextL r).2 ≤ m) (h0 : 0 < (nextL r).2) : nextL (r.take m) = nextL r := by
  have hm : 0 < m := by omega
  unfold nextL at h h0 ⊢
  rw [head_take hm]
  by_cases hl : letterB (r.head?.getD 0) = true
  · rw [if_pos hl] at h h0
    rw [if_pos hl, if_pos hl, runL_take _ _ _ h, List.take_take, Nat.min_eq_left h]
  · rw [if_neg hl] at h h0
    rw [if_neg hl, if_neg hl, tail_take]
    by_cases hn : (digitB (r.head?.getD 0) || ((r.head?.getD 0).toNat == 45 && decide (1 < r.length) && digitB (r.tail.head?.getD 0))) = true
    · rw [if_pos hn] at h h0
      have hr : runL innerB r.tail ≤ m - 1 := by simp only [] at h; omega
      rw [if_pos hn, if_pos, runL_take _ _ _ hr]
      by_cases hd : digitB (r.head?.getD 0) = true
      · simp [hd]
      · simp only [Bool.or_eq_true, Bool.and_eq_true, decide_eq_true_eq] at hn
        obtain ⟨⟨h1, h2⟩, h3⟩ := hn.resolve_left hd
        have hp : 0 < runL innerB r.tail := by
          cases ht : r.tail with
          | nil => rw [ht] at h3; simp [digitB, isDigit] at h3
          | cons c q => rw [ht] at h3; exact runL_pos (digit_inner (by simpa using h3))
        simp only [Bool.or_eq_true, Bool.and_eq_true, decide_eq_true_eq, List.length_take]
        refine .inr ⟨⟨h1, by simp only [] at h; omega⟩, ?_⟩
        rw [head_take (by omega)]; exact h3
    · rw [if_neg hn] at h h0
      rw [if_neg hn, if_neg, signL_take h h0]
      intro hq; apply hn
      simp only [Bool.or_eq_true, Bool.and_eq_true, decide_eq_true_eq, List.length_take] at hq ⊢
      rcases hq with hq | ⟨⟨h1, h2⟩, h3⟩
      · exact .inl hq
      · refine .inr ⟨⟨h1, by omega⟩, ?_⟩
        rw [head_take (by omega)] at h3; exact h3
theorem okNext_take {r : List UInt8} {m : Nat} (h : (nextL r).2 ≤ m) (ho : okNext r = true) : okNext (r.take m) = true := by
  have h0 := okNext_pos ho
  unfold okNext at ho ⊢
  rw [nextL_take h h0, List.take_take, Nat.min_eq_left h]; exact ho
theorem advL_take {r : List UInt8} {m : Nat} (h : advL r ≤ m) (h0 : 0 < (nextL r).2) : advL (r.take m) = advL r := by
  unfold advL at h ⊢
  rw [nextL_take (by omega) h0, List.drop_take, skipL_take (by omega)]
theorem tokL_take {r : List UInt8} {m p : Nat} (h : (nextL r).2 ≤ m) (h0 : 0 < (nextL r).2) : tokL (r.take m) p = tokL r p := by
  unfold tokL
  rw [nextL_take h h0, List.take_take, Nat.min_eq_left h]
theorem scanT_before : ∀ (f : Nat) (r : List UInt8) (p q : Nat) (acc ts : List LTok), scanT f r p acc = (ts, some q) → p ≤ q ∧ q < p + r.length ∧ ∃ ts', scanT f (r.take (q - p)) p acc = (ts', none)
  | 0, r, p, q, acc, ts, h => by simp [scanT] at h
  | f + 1, r, p, q, acc, ts, h => by
    rcases Nat.eq_zero_or_pos r.length with h0 | h0
    · rw [scanT_end h0] at h; simp at h
    · cases ho : okNext r
      · rw [scanT_err h0 ho] at h
        obtain rfl : p = q := by simpa using (Prod.mk.inj h).2
        refine ⟨Nat.le_refl _, by omega, acc, ?_⟩
        rw [Nat.sub_self, List.take_zero]; exact scanT_end rfl
      · rw [scanT_step h0 ho] at h
        obtain ⟨h1, h2, ts', h3⟩ := scanT_before f _ _ _ _ _ h
        have ha := advL_le r h0
        have hn := okNext_pos ho
        have hna : (nextL r).2 ≤ advL r := by unfold advL; omega
        simp only [List.length_drop] at h2
        refine ⟨by omega, by omega, ts', ?_⟩
        rw [scanT_step (by simp; omega) (okNext_take (by omega) ho), advL_take (by omega) hn, tokL_take (by omega) hn, List.drop_take, Nat.sub_sub]
        exact h3
theorem scanT_fuel : ∀ (n : Nat) (r : List UInt8) (f g p : Nat) (acc : List LTok), r.length ≤ n → n < f → n < g → scanT f r p acc = scanT g r p acc
  | n, r, 0, g, p, acc, _, hf, _ => by omega
  | n, r, f + 1, 0, p, acc, _, _, hg => by omega
  | n, r, f + 1, g + 1, p, acc, hn, hf, hg => by
    rcases Nat.eq_zero_or_pos r.length with h0 | h0
    · rw [scanT_end h0, scanT_end h0]
    · cases ho : okNext r
      · rw [scanT_err h0 ho, scanT_err h0 ho]
      · rw [scanT_step h0 ho, scanT_step h0 ho]
        have hn0 := okNext_pos ho
        have hna : (nextL r).2 ≤ advL r := by unfold advL; omega
        cases n with
        | zero => omega
        | succ n => exact scanT_fuel n _ f g _ _ (by simp; omega) (by omega) (by omega)
theorem scanAll_before {l : List UInt8} {q : Nat} {ts : List LTok} (h : scanAll l = (ts, some q)) : q < l.length ∧ ∃ ts', scanAll (l.take q) = (ts', none) := by
  unfold scanAll at h
  have hk := skipL_le l
  obtain ⟨h1, h2, ts', h3⟩ := scanT_before _ _ _ _ _ _ h
  simp only [List.length_drop] at h2
  refine ⟨by omega, ts', ?_⟩
  unfold scanAll
  rw [skipL_take h1, List.drop_take, ← h3]
  have hl : ((l.drop (skipL l)).take (q - skipL l)).length ≤ q := by simp; omega
  exact scanT_fuel q _ _ _ _ _ hl (by simp; omega) (by omega)
end Go.Proofs.YtnphcjpccieljaaGreatDoor

namespace Go.Proofs.YtnphcjpccieljaaGreatDoor

/-- nothing follows, or a space or a line feed -/
def Delim (r : List UInt8) : Prop := r = [] ∨ ∃ c q, r = c :: q ∧ (c = 32 ∨ c = 10)
def TokOK (t : LTok) : Prop := 1 ≤ t.kind ∧ t.kind ≤ 4 ∧ textL t.kind t.text = true
theorem runL_all {p : UInt8 → Bool} : ∀ {l r : List UInt8}, l.all p = true → (∀ c q, r = c :: q → p c = false) → runL p (l ++ r) = l.length
  | [], r, _, h => by
    cases r with
    | nil => rfl
    | cons c q => simp [runL, h c q rfl]
  | a :: l, r, ha, h => by
    simp only [List.all_cons, Bool.and_eq_true] at ha
    have ih := runL_all (l := l) (r := r) ha.2 h
    have e : runL p (a :: l ++ r) = runL p (l ++ r) + 1 := by simp [runL, ha.1]
    rw [e, ih]; rfl
theorem delim_inner {r : List UInt8} (h : Delim r) : ∀ c q, r = c :: q → innerB c = false := by
  intro c q e
  rcases h with h | ⟨d, q', h, hd⟩
  · rw [h] at e; cases e
  · rw [h] at e; injection e with e1 _; subst e1
    rcases hd with rfl | rfl <;> rfl
theorem alnum_inner {l : List UInt8} (h : l.all alnumB = true) : l.all innerB = true := by
  rw [List.all_eq_true] at *
  intro c hc
  have := h c hc
  unfold alnumB letterB digitB at this
  simp [innerB, isRunning]
  simp at this
  rcases this with h | h
  · exact .inl (.inl h)
  · exact .inl (.inr h)
theorem letter_alnum {c : UInt8} (h : letterB c = true) : alnumB c = true := by simp [alnumB, h]
theorem wordL_cons {m : Nat} {l : List UInt8} (h : wordL m l = true) : ∃ c q, l = c :: q ∧ letterB c = true ∧ l.all alnumB = true := by
  cases l with
  | nil => simp [wordL] at h
  | cons c q =>
    simp only [wordL, Bool.and_eq_true] at h
    exact ⟨c, q, rfl, h.1.2, by simp [letter_alnum h.1.2, h.2]⟩
theorem alnum_noSlash {l : List UInt8} (h : l.all alnumB = true) : hasSlash l = false := by
  unfold hasSlash
  have : Lib.indexByte l 47 = -1 := by
    induction l with
    | nil => rfl
    | cons c q ih =>
      simp only [List.all_cons, Bool.and_eq_true] at h
      have hc : (c == 47) = false := by
        cases hh : c == 47
        · rfl
        · have := eq_of_beq hh; subst this; have := h.1; simp [alnumB, letterB, digitB, isLetter, isDigit] at this
      rw [Lib.indexByte, hc, ih h.2]; rfl
  rw [this]; rfl
theorem parts_inner : ∀ l : List UInt8, (partsL l).all (wordL 20) = true → l.all innerB = true ∧ ∃ c q, l = c :: q ∧ letterB c = true
  | [], h => by simp [partsL, wordL] at h
  | c :: r, h => by
    by_cases hc : (c == 47) = true
    · rw [partsL, if_pos hc] at h; simp [wordL] at h
    · rw [partsL, if_neg hc] at h
      cases hp : partsL r with
      | nil => exact absurd hp (partsL_ne r)
      | cons p ps =>
        rw [hp] at h
        simp only [List.all_cons, Bool.and_eq_true] at h
        obtain ⟨c', q', e, hl, hall⟩ := wordL_cons h.1
        injection e with e1 e2
        subst e1
        refine ⟨?_, c, r, rfl, hl⟩
        simp only [List.all_cons] at hall
        have hci : innerB c = true := by
          have := alnum_inner (l := [c]) (by simp [letter_alnum hl])
          simpa using this
        rw [List.all_cons, hci, Bool.true_and]
        -- the rest: its first part goes on, or a slash follows
        clear hl
        have key : ∀ (r : List UInt8) (p : List UInt8) (ps : List (List UInt8)), partsL r = p :: ps → p.all alnumB = true → ps.all (wordL 20) = true → r.all innerB = true := by
          intro r
          induction r with
          | nil => intro _ _ _ _ _; rfl
          | cons d r ih =>
            intro p ps hp hpa hps
            by_cases hd : (d == 47) = true
            · rw [partsL, if_pos hd] at hp
              injection hp with h1 h2
              subst h1
              have hdi : innerB d = true := by rw [eq_of_beq hd]; rfl
              rw [List.all_cons, hdi, Bool.true_and]
              cases hq : partsL r with
              | nil => exact absurd hq (partsL_ne r)
              | cons p' ps' =>
                rw [hq] at h2; subst h2
                simp only [List.all_cons, Bool.and_eq_true] at hps
                obtain ⟨_, _, _, _, ha⟩ := wordL_cons hps.1
                exact ih p' ps' hq ha hps.2
            · rw [partsL, if_neg hd] at hp
              cases hq : partsL r with
              | nil => exact absurd hq (partsL_ne r)
              | cons p' ps' =>
                rw [hq] at hp
                injection hp with h1 h2
                subst h1 h2
                simp only [List.all_cons, Bool.and_eq_true] at hpa
                have hdi : innerB d = true := by
                  have := alnum_inner (l := [d]) (by simp [hpa.1])
                  simpa using this
                rw [List.all_cons, hdi, Bool.true_and]
                exact ih p' ps' hq hpa.2 hps
        exact key r p ps hp (by simp only [Bool.and_eq_true] at hall; exact hall.2) h.2

theorem letter_not_sep {c : UInt8} (h : letterB c = true) : c ≠ 32 ∧ c ≠ 10 ∧ c ≠ 35 := by
  refine ⟨?_, ?_, ?_⟩ <;> (rintro rfl; simp [letterB, isLetter] at h)
theorem digit_not_letter {c : UInt8} (h : digitB c = true) : letterB c = false := by
  simp [digitB, isDigit] at h; simp [letterB, isLetter]; omega
theorem numCore_all {l : List UInt8} (h : numCore l = true) : 0 < l.length ∧ l.all digitB = true := by
  simp only [numCore, Bool.and_eq_true, decide_eq_true_eq] at h
  exact ⟨by omega, h.2⟩
theorem digits_inner {l : List UInt8} (h : l.all digitB = true) : l.all innerB = true := by
  rw [List.all_eq_true] at *
  exact fun c hc => digit_inner (h c hc)
theorem next_of_word {l r : List UInt8} {m : Nat} (h : wordL m l = true) (hr : Delim r) : nextL (l ++ r) = (1, l.length) := by
  obtain ⟨c, q, e, hl, ha⟩ := wordL_cons h
  have hrun : runL innerB (l ++ r) = l.length := runL_all (alnum_inner ha) (delim_inner hr)
  unfold nextL
  rw [hrun, List.take_left']
  · rw [if_pos (by rw [e]; exact hl), alnum_noSlash ha]; rfl
  · rfl
theorem next_of_label {l r : List UInt8} (h : labelL l = true) (hs : hasSlash l = true) (hr : Delim r) : nextL (l ++ r) = (2, l.length) := by
  have hp : (partsL l).all (wordL 20) = true := by
    unfold labelL at h; rw [Bool.and_eq_true] at h; exact h.2
  obtain ⟨ha, c, q, e, hl⟩ := parts_inner l hp
  have hrun : runL innerB (l ++ r) = l.length := runL_all ha (delim_inner hr)
  unfold nextL
  rw [hrun, List.take_left']
  · rw [if_pos (by rw [e]; exact hl), hs]; rfl
  · rfl
theorem nextL_isNum {l : List UInt8} (h1 : letterB (l.head?.getD 0) = false) (h2 : (digitB (l.head?.getD 0) || ((l.head?.getD 0).toNat == 45 && decide (1 < l.length) && digitB (l.tail.head?.getD 0))) = true) : nextL l = (3, 1 + runL innerB l.tail) := by
  unfold nextL
  rw [if_neg (show ¬ letterB (l.head?.getD 0) = true by simp [h1]), if_pos h2]
theorem nextL_isSign {l : List UInt8} (h1 : letterB (l.head?.getD 0) = false) (h2 : (digitB (l.head?.getD 0) || ((l.head?.getD 0).toNat == 45 && decide (1 < l.length) && digitB (l.tail.head?.getD 0))) = false) : nextL l = (4, signL l) := by
  unfold nextL
  rw [if_neg (show ¬ letterB (l.head?.getD 0) = true by simp [h1]), if_neg (by rw [h2]; decide)]
theorem next_of_number {l r : List UInt8} (h : numberL l = true) (hr : Delim r) : nextL (l ++ r) = (3, l.length) := by
  unfold numberL at h
  by_cases hp : Lib.hasPrefix l [45] = true
  · rw [if_pos hp, Bool.and_eq_true] at h
    cases l with
    | nil => simp [Lib.hasPrefix] at hp
    | cons c q =>
      obtain rfl : 45 = c := by simpa [Lib.hasPrefix] using hp
      simp only [List.tail_cons] at h
      obtain ⟨hq, hd⟩ := numCore_all h.1
      cases q with
      | nil => simp at hq
      | cons d q =>
        simp only [List.all_cons, Bool.and_eq_true] at hd
        have hrun : runL innerB ((d :: q) ++ r) = (d :: q).length := runL_all (digits_inner (by simp [hd.1, hd.2])) (delim_inner hr)
        rw [nextL_isNum rfl (by simp [hd.1])]
        rw [List.cons_append] at hrun
        simp only [List.cons_append, List.tail_cons]
        rw [hrun]; simp; omega
  · rw [if_neg hp] at h
    obtain ⟨hq, hd⟩ := numCore_all h
    cases l with
    | nil => simp at hq
    | cons c q =>
      simp only [List.all_cons, Bool.and_eq_true] at hd
      have hrun : runL innerB (q ++ r) = q.length := runL_all (digits_inner hd.2) (delim_inner hr)
      rw [nextL_isNum (by simp [digit_not_letter hd.1]) (by simp [hd.1])]
      simp only [List.cons_append, List.tail_cons]
      rw [hrun]; simp; omega
theorem ones_cases {c : UInt8} (h : (0 : Int) ≤ Lib.indexByte onesL c) : c = 40 ∨ c = 41 ∨ c = 61 ∨ c = 43 ∨ c = 45 ∨ c = 42 ∨ c = 60 ∨ c = 124 ∨ c = 46 ∨ c = 59 ∨ c = 64 := by
  have key : ∀ l : List UInt8, (0 : Int) ≤ Lib.indexByte l c → c ∈ l := by
    intro l
    induction l with
    | nil => intro h; simp [Lib.indexByte] at h
    | cons b l ih =>
      intro h
      unfold Lib.indexByte at h
      by_cases hb : (b == c) = true
      · rw [eq_of_beq hb]; simp
      · rw [if_neg hb] at h
        by_cases hl : (Lib.indexByte l c == -1) = true
        · rw [if_pos hl] at h; simp at h
        · have := Lib.indexByte_ge l c
          have h2 : (0 : Int) ≤ Lib.indexByte l c := by simp at hl; omega
          exact List.mem_cons_of_mem _ (ih h2)
  have := key _ h
  simpa [onesL] using this
/-- a sign: two bytes, or one -/
theorem sign_cases {l : List UInt8} (h0 : 0 < l.length) (h : signL l = l.length) : l = [45, 62] ∨ l = [58, 58] ∨ l = [124, 124] ∨ ∃ c, l = [c] ∧ (0 : Int) ≤ Lib.indexByte onesL c := by
  rw [signL_def] at h
  by_cases hp : (Lib.hasPrefix l [45, 62] || (Lib.hasPrefix l [58, 58] || Lib.hasPrefix l [124, 124])) = true
  · rw [if_pos hp] at h
    have key : ∀ a b : UInt8, Lib.hasPrefix l [a, b] = true → l = [a, b] := fun a b hq => by
      unfold Lib.hasPrefix at hq
      rw [List.isPrefixOf_iff_prefix] at hq
      obtain ⟨t, ht⟩ := hq
      have := congrArg List.length ht
      simp at this
      have : t = [] := List.eq_nil_of_length_eq_zero (by omega)
      subst this; simpa using ht.symm
    simp only [Bool.or_eq_true] at hp
    rcases hp with hp | hp | hp
    · exact .inl (key _ _ hp)
    · exact .inr (.inl (key _ _ hp))
    · exact .inr (.inr (.inl (key _ _ hp)))
  · rw [if_neg hp] at h
    cases l with
    | nil => simp at h0
    | cons c q =>
      simp only [List.head?_cons] at h
      by_cases hc : decide ((0 : Int) ≤ Lib.indexByte onesL c) = true
      · rw [if_pos hc] at h
        have : q = [] := List.eq_nil_of_length_eq_zero (by rw [List.length_cons] at h; omega)
        subst this
        exact .inr (.inr (.inr ⟨c, rfl, by simpa using hc⟩))
      · rw [if_neg hc] at h; simp at h
theorem signL_two' {a b : UInt8} {r : List UInt8} (h : (a = 45 ∧ b = 62) ∨ (a = 58 ∧ b = 58) ∨ (a = 124 ∧ b = 124)) : signL (a :: b :: r) = 2 := by
  rw [signL_def, if_pos]
  rcases h with ⟨rfl, rfl⟩ | ⟨rfl, rfl⟩ | ⟨rfl, rfl⟩ <;> simp [Lib.hasPrefix]
theorem signL_one' {c : UInt8} {r : List UInt8} (h : (0 : Int) ≤ Lib.indexByte onesL c) (hr : Delim r) : signL (c :: r) = 1 := by
  rw [signL_def, if_neg, List.head?_cons]
  · simp [h]
  · rcases hr with rfl | ⟨d, q, rfl, hd⟩
    · simp [Lib.hasPrefix]
    · rcases hd with rfl | rfl <;> simp [Lib.hasPrefix]
theorem delim_head_digit {r : List UInt8} (h : Delim r) : digitB (r.head?.getD 0) = false := by
  rcases h with rfl | ⟨d, q, rfl, hd⟩
  · rfl
  · rcases hd with rfl | rfl <;> rfl
theorem next_of_sign {l r : List UInt8} (h0 : 0 < l.length) (h : signL l = l.length) (hr : Delim r) : nextL (l ++ r) = (4, l.length) := by
  have two : ∀ a b : UInt8, ((a = 45 ∧ b = 62) ∨ (a = 58 ∧ b = 58) ∨ (a = 124 ∧ b = 124)) → nextL ([a, b] ++ r) = (4, 2) := fun a b hab => by
    have hs := signL_two' (r := r) hab
    rw [nextL_isSign]
    · rw [show [a, b] ++ r = a :: b :: r from rfl, hs]
    · rcases hab with ⟨rfl, rfl⟩ | ⟨rfl, rfl⟩ | ⟨rfl, rfl⟩ <;> rfl
    · rcases hab with ⟨rfl, rfl⟩ | ⟨rfl, rfl⟩ | ⟨rfl, rfl⟩ <;> simp [digitB, isDigit]
  rcases sign_cases h0 h with rfl | rfl | rfl | ⟨c, rfl, hc⟩
  · exact two 45 62 (.inl ⟨rfl, rfl⟩)
  · exact two 58 58 (.inr (.inl ⟨rfl, rfl⟩))
  · exact two 124 124 (.inr (.inr ⟨rfl, rfl⟩))
  · have hs := signL_one' hc hr
    have hd := delim_head_digit hr
    rw [nextL_isSign]
    · rw [show [c] ++ r = c :: r from rfl, hs]; rfl
    · rcases ones_cases hc with rfl | rfl | rfl | rfl | rfl | rfl | rfl | rfl | rfl | rfl | rfl <;> rfl
    · simp only [List.cons_append, List.nil_append, List.head?_cons, Option.getD_some, List.tail_cons, hd]
      rcases ones_cases hc with rfl | rfl | rfl | rfl | rfl | rfl | rfl | rfl | rfl | rfl | rfl <;> simp [digitB, isDigit]
theorem next_of_tok {t : LTok} {r : List UInt8} (h : TokOK t) (hr : Delim r) : nextL (t.text ++ r) = (t.kind, t.text.length) := by
  obtain ⟨h1, h4, ht⟩ := h
  have : t.kind = 1 ∨ t.kind = 2 ∨ t.kind = 3 ∨ t.kind = 4 := by omega
  rcases this with e | e | e | e
  · rw [e] at ht ⊢; exact next_of_word (textL_1 _ ▸ ht) hr
  · rw [e, textL_2, Bool.and_eq_true] at ht; rw [e]; exact next_of_label ht.1 ht.2 hr
  · rw [e] at ht ⊢; exact next_of_number (textL_3 _ ▸ ht) hr
  · rw [e, textL_4, Bool.and_eq_true] at ht; rw [e]; exact next_of_sign (by simpa using ht.1) (by simpa using ht.2) hr
theorem ok_of_tok {t : LTok} {r : List UInt8} (h : TokOK t) (hr : Delim r) : okNext (t.text ++ r) = true := by
  unfold okNext
  rw [next_of_tok h hr, List.take_left' rfl, checkL_ok h.1 h.2.1 h.2.2 (by omega)]; rfl
theorem tok_pos {t : LTok} (h : TokOK t) : 0 < t.text.length := by
  rcases Nat.eq_zero_or_pos t.text.length with h0 | h0
  · have := h.2.2; rw [List.eq_nil_of_length_eq_zero h0, textL_nil] at this; cases this
  · exact h0

/-- bytes that only separate -/
def Skips (s : List UInt8) : Prop := ∀ x, skipL (s ++ x) = s.length + skipL x
theorem tok_head {t : LTok} (h : TokOK t) (r : List UInt8) : skipL (t.text ++ r) = 0 := by
  have stop : ∀ (c : UInt8) (q : List UInt8), c ≠ 32 → c ≠ 10 → c ≠ 35 → skipL (c :: q) = 0 := fun c q h1 h2 h3 => by
    have e : ∀ n : UInt8, c ≠ n → ((c.toNat : Int) == (n.toNat : Int)) = false := fun n hn => by
      cases hh : ((c.toNat : Int) == (n.toNat : Int))
      · rfl
      · exact absurd (UInt8.toNat_inj.1 (by have := eq_of_beq hh; omega)) hn
    exact skipL_stop (e 32 h1) (e 10 h2) (e 35 h3)
  obtain ⟨h1, h4, ht⟩ := h
  have : t.kind = 1 ∨ t.kind = 2 ∨ t.kind = 3 ∨ t.kind = 4 := by omega
  rcases this with e | e | e | e
  · rw [e, textL_1] at ht
    obtain ⟨c, q, e', hl, _⟩ := wordL_cons ht
    obtain ⟨a, b, d⟩ := letter_not_sep hl
    rw [e']; exact stop c _ a b d
  · rw [e, textL_2, Bool.and_eq_true] at ht
    have hp : (partsL t.text).all (wordL 20) = true := by
      have := ht.1; unfold labelL at this; rw [Bool.and_eq_true] at this; exact this.2
    obtain ⟨_, c, q, e', hl⟩ := parts_inner _ hp
    obtain ⟨a, b, d⟩ := letter_not_sep hl
    rw [e']; exact stop c _ a b d
  · rw [e, textL_3] at ht
    unfold numberL at ht
    cases hx : t.text with
    | nil => rw [hx] at ht; simp [Lib.hasPrefix, numCore] at ht
    | cons c q =>
      rw [hx] at ht
      by_cases hp : Lib.hasPrefix (c :: q) [45] = true
      · obtain rfl : 45 = c := by simpa [Lib.hasPrefix] using hp
        exact stop 45 _ (by decide) (by decide) (by decide)
      · rw [if_neg hp] at ht
        have hd := (numCore_all ht).2
        simp only [List.all_cons, Bool.and_eq_true] at hd
        refine stop c _ ?_ ?_ ?_ <;> (rintro rfl; have := hd.1; simp [digitB, isDigit] at this)
  · rw [e, textL_4, Bool.and_eq_true] at ht
    rcases sign_cases (by simpa using ht.1) (by simpa using ht.2) with hx | hx | hx | ⟨c, hx, hc⟩
    · rw [hx]; exact stop 45 _ (by decide) (by decide) (by decide)
    · rw [hx]; exact stop 58 _ (by decide) (by decide) (by decide)
    · rw [hx]; exact stop 124 _ (by decide) (by decide) (by decide)
    · rw [hx]
      refine stop c _ ?_ ?_ ?_ <;> (rintro rfl; simp [onesL, Lib.indexByte] at hc)
/-- tokens, each behind its separator, and what stands behind them all -/
def flatL : List (List UInt8 × LTok) → List UInt8 → List UInt8
  | [], z => z
  | (s, t) :: L, z => s ++ (t.text ++ flatL L z)
def LaidOK (L : List (List UInt8 × LTok)) : Prop := ∀ x ∈ L, Skips x.1 ∧ TokOK x.2
def Inner (L : List (List UInt8 × LTok)) : Prop := ∀ x ∈ L, ∃ c q, x.1 = c :: q ∧ (c = 32 ∨ c = 10)
theorem flat_delim {L : List (List UInt8 × LTok)} {z : List UInt8} (h : Inner L) (hz : Delim z) : Delim (flatL L z) := by
  cases L with
  | nil => exact hz
  | cons x L =>
    obtain ⟨s, t⟩ := x
    obtain ⟨c, q, e, hc⟩ := h _ (List.mem_cons_self ..)
    simp only at e
    refine .inr ⟨c, q ++ (t.text ++ flatL L z), ?_, hc⟩
    simp [flatL, e]
theorem flat_skip {L : List (List UInt8 × LTok)} {z : List UInt8} (h : LaidOK L) (hz : skipL z = z.length) :
    ∃ m, skipL (flatL L z) = m ∧ ((L = [] ∧ m = (flatL L z).length) ∨ ∃ s t L', L = (s, t) :: L' ∧ (flatL L z).drop m = t.text ++ flatL L' z) := by
  cases L with
  | nil => exact ⟨_, rfl, .inl ⟨rfl, hz⟩⟩
  | cons x L =>
    obtain ⟨s, t⟩ := x
    obtain ⟨h1, h2⟩ := h _ (List.mem_cons_self ..)
    refine ⟨s.length, ?_, .inr ⟨s, t, L, rfl, by simp [flatL]⟩⟩
    show skipL (s ++ (t.text ++ flatL L z)) = _
    rw [h1, tok_head h2]; rfl
def kt (t : LTok) : Int × List UInt8 := (t.kind, t.text)
theorem scan_flat (z : List UInt8) (hz : skipL z = z.length) (hzd : Delim z) : ∀ (L : List (List UInt8 × LTok)) (t : LTok) (f p : Nat) (acc : List LTok), TokOK t → LaidOK L → Inner L → (t.text ++ flatL L z).length < f →
    ∃ ts, scanT f (t.text ++ flatL L z) p acc = (acc ++ ts, none) ∧ ts.map kt = kt t :: L.map (fun x => kt x.2) := by
  intro L
  induction L with
  | nil =>
    intro t f p acc ht _ _ hf
    cases f with
    | zero => omega
    | succ f =>
      have hp := tok_pos ht
      have hn := next_of_tok ht hzd
      refine ⟨[tokL (t.text ++ z) p], ?_, ?_⟩
      · show scanT (f + 1) (t.text ++ z) p acc = _
        rw [scanT_step (by simp; omega) (ok_of_tok ht hzd)]
        have ha : advL (t.text ++ z) = (t.text ++ z).length := by
          unfold advL; rw [hn]; simp [hz]
        rw [ha, List.drop_length, scanT_end rfl]
      · simp [tokL, hn, kt]
  | cons x L ih =>
    intro t f p acc ht hL hI hf
    obtain ⟨s, u⟩ := x
    obtain ⟨hs, hu⟩ := hL _ (List.mem_cons_self ..)
    have hd := flat_delim hI hzd
    cases f with
    | zero => omega
    | succ f =>
      have hp := tok_pos ht
      have hn := next_of_tok ht hd
      have ha : advL (t.text ++ flatL ((s, u) :: L) z) = t.text.length + s.length := by
        unfold advL; rw [hn]
        simp only [List.drop_left', flatL]
        rw [hs, tok_head hu]; rfl
      rw [scanT_step (by simp; omega) (ok_of_tok ht hd), ha]
      have hdr : (t.text ++ flatL ((s, u) :: L) z).drop (t.text.length + s.length) = u.text ++ flatL L z := by
        rw [← List.drop_drop, List.drop_left']
        · simp [flatL]
        · rfl
      rw [hdr]
      obtain ⟨ts, h1, h2⟩ := ih u f (p + (t.text.length + s.length)) (acc ++ [tokL (t.text ++ flatL ((s, u) :: L) z) p]) hu (fun y hy => hL y (List.mem_cons_of_mem _ hy)) (fun y hy => hI y (List.mem_cons_of_mem _ hy)) (by simp only [flatL, List.length_append] at hf ⊢; omega)
      refine ⟨tokL (t.text ++ flatL ((s, u) :: L) z) p :: ts, ?_, ?_⟩
      · rw [h1]; simp
      · simp [tokL, hn, kt, h2]
/-- the tokens of a text that is laid out -/
theorem scan_laid {s : List UInt8} {t : LTok} {L : List (List UInt8 × LTok)} {z : List UInt8} (hs : Skips s) (ht : TokOK t) (hL : LaidOK L) (hI : Inner L) (hz : skipL z = z.length) (hzd : Delim z) :
    ∃ ts, scanAll (flatL ((s, t) :: L) z) = (ts, none) ∧ ts.map kt = kt t :: L.map (fun x => kt x.2) := by
  have hk : skipL (flatL ((s, t) :: L) z) = s.length := by
    show skipL (s ++ (t.text ++ flatL L z)) = _
    rw [hs, tok_head ht]; rfl
  unfold scanAll
  rw [hk]
  have hd : (flatL ((s, t) :: L) z).drop s.length = t.text ++ flatL L z := by simp [flatL]
  rw [hd]
  obtain ⟨ts, h1, h2⟩ := scan_flat z hz hzd L t ((flatL ((s, t) :: L) z).length + 1) s.length [] ht hL hI (by simp [flatL]; omega)
  exact ⟨ts, by rw [h1]; simp, h2⟩
end Go.Proofs.YtnphcjpccieljaaGreatDoor
