/- Texts of this proof, part 16: what the proof uses of them. -/
import Derived.Test.YtnnolijagpakiaaGreatDoorQah
import Derived.Test.YtnnolijagpakiaaGreatDoorQae
import Derived.Test.YtnnolijagpakiaaGreatDoorRows
import Derived.Test.YtnnolijagpakiaaGreatDoorQag
import Derived.Deep.Slices
import Derived.Carry
import Derived.Test.YtnnolijagpakiaaGreatDoorQao
import Derived.Test.YtnnolijagpakiaaGreatDoorCards
import Derived.Test.YtnnolijagpakiaaGreatDoorTie
import Derived.WalkKit
import Derived.ProofKit
import Derived.OpenShut
import Derived.Deep.DeepHandedRow
import Derived.Lib.LaidTab
import Derived.Below
import Derived.ChangeSame
import Derived.Stop.LaidErr
import Derived.MakeChecks
import Derived.ShapedOpen
namespace Go.Proofs.YtnnolijagpakiaaGreatDoor
def nextL (l : List UInt8) : Int × Nat :=
  if letterB (l.head?.getD 0) then (if hasSlash (l.take (runL innerB l)) then 2 else 1, runL innerB l)
  else if digitB (l.head?.getD 0) || ((l.head?.getD 0).toNat == 45 && decide (1 < l.length) && digitB (l.tail.head?.getD 0)) then (3, 1 + runL innerB l.tail)
  else (4, signL l)
def okNext (l : List UInt8) : Bool := checkL (nextL l).1 (l.take (nextL l).2) 0 == 0
theorem prefix_two {l : List UInt8} {a b : UInt8} (h : Lib.hasPrefix l [a, b] = true) : 2 ≤ l.length := by
  unfold Lib.hasPrefix at h
  have := (List.isPrefixOf_iff_prefix.1 h).length_le
  simpa using this
theorem signL_le (l : List UInt8) : signL l ≤ l.length := by
  unfold signL
  split
  · rename_i h
    simp only [Bool.or_eq_true] at h
    rcases h with h | h | h <;> exact prefix_two h
  · cases l with
    | nil => simp
    | cons c r => simp only [List.length_cons]; split <;> omega
end Go.Proofs.YtnnolijagpakiaaGreatDoor
namespace Go.Proofs.YtnnolijagpakiaaGreatDoor
structure LTok where
  kind : Int
  text : List UInt8
  pos : Int
def advL (r : List UInt8) : Nat := (nextL r).2 + skipL (r.drop (nextL r).2)
def tokL (r : List UInt8) (p : Nat) : LTok := ⟨(nextL r).1, r.take (nextL r).2, p⟩
def scanT : Nat → List UInt8 → Nat → List LTok → List LTok × Option Nat
  | 0, _, _, acc => (acc, none)
  | f + 1, r, p, acc => if r.isEmpty then (acc, none) else if okNext r then scanT f (r.drop (advL r)) (p + advL r) (acc ++ [tokL r p]) else ([], some p)
def scanAll (l : List UInt8) : List LTok × Option Nat := scanT (l.length + 1) (l.drop (skipL l)) (skipL l) []
theorem nextL_le (l : List UInt8) (h : 0 < l.length) : (nextL l).2 ≤ l.length := by
  unfold nextL
  have h1 := runL_le innerB l
  have h2 := runL_le innerB l.tail
  have h3 := signL_le l
  simp only [List.length_tail] at h2
  repeat' split
  all_goals first | exact h1 | exact h3 | (simp only []; omega)
theorem textL_nil (k : Int) : textL k [] = false := by
  unfold textL; repeat' split
  all_goals rfl
theorem checkL_nil (k : Int) : (checkL k [] 0 == 0) = false := by
  unfold checkL; rw [textL_nil]; split <;> rfl
theorem okNext_pos {l : List UInt8} (h : okNext l = true) : 0 < (nextL l).2 := by
  rcases Nat.eq_zero_or_pos (nextL l).2 with h0 | h0
  · unfold okNext at h; rw [h0, List.take_zero, checkL_nil] at h; cases h
  · exact h0
theorem advL_le (r : List UInt8) (h : 0 < r.length) : advL r ≤ r.length := by
  have h1 := nextL_le r h
  have h2 := skipL_le (r.drop (nextL r).2)
  simp only [List.length_drop] at h2
  unfold advL; omega
theorem scanT_end {f : Nat} {r : List UInt8} {p : Nat} {acc : List LTok} (h : r.length = 0) : scanT f r p acc = (acc, none) := by
  obtain rfl := List.eq_nil_of_length_eq_zero h
  cases f <;> rfl
theorem scanT_step {f : Nat} {r : List UInt8} {p : Nat} {acc : List LTok} (h : 0 < r.length) (ho : okNext r = true) : scanT (f + 1) r p acc = scanT f (r.drop (advL r)) (p + advL r) (acc ++ [tokL r p]) := by
  rw [scanT, if_neg (by cases r <;> simp_all), if_pos ho]
theorem scanT_err {f : Nat} {r : List UInt8} {p : Nat} {acc : List LTok} (h : 0 < r.length) (ho : okNext r = false) : scanT (f + 1) r p acc = ([], some p) := by
  rw [scanT, if_neg (by cases r <;> simp_all), if_neg (by simp [ho])]
end Go.Proofs.YtnnolijagpakiaaGreatDoor
namespace Go.Proofs.YtnnolijagpakiaaGreatDoor
theorem signL_def (l : List UInt8) : signL l = if Lib.hasPrefix l [45, 62] || (Lib.hasPrefix l [58, 58] || Lib.hasPrefix l [124, 124]) then 2 else (match l.head? with | none => 0 | some c => if decide (0 ≤ Lib.indexByte onesL c) then 1 else 0) := by
  unfold signL
  cases l <;> rfl
theorem digit_inner {c : UInt8} (h : digitB c = true) : innerB c = true := by
  unfold digitB at h; simp [innerB, isRunning, h]
end Go.Proofs.YtnnolijagpakiaaGreatDoor
namespace Go.Proofs.YtnnolijagpakiaaGreatDoor
def Delim (r : List UInt8) : Prop := r = [] ∨ ∃ c q, r = c :: q ∧ (c = 32 ∨ c = 10)
def TokOK (t : LTok) : Prop := 1 ≤ t.kind ∧ t.kind ≤ 4 ∧ textL t.kind t.text = true
theorem runL_all {p : UInt8 → Bool} : ∀ {l r : List UInt8}, l.all p = true → (∀ c q, r = c :: q → p c = false) → runL p (l ++ r) = l.length
  | [], r, _, h => by
    cases r with
    | nil => rfl
    | cons c q => simp [runL, h c q rfl]
  | a :: l, r, ha, h => by
    simp only [List.all_cons, Bool.and_eq_true] at ha
    have ih := runL_all (l := l) (r := r) ha.2 h
    have e : runL p (a :: l ++ r) = runL p (l ++ r) + 1 := by simp [runL, ha.1]
    rw [e, ih]; rfl
theorem delim_inner {r : List UInt8} (h : Delim r) : ∀ c q, r = c :: q → innerB c = false := by
  intro c q e
  rcases h with h | ⟨d, q', h, hd⟩
  · rw [h] at e; cases e
  · rw [h] at e; injection e with e1 _; subst e1
    rcases hd with rfl | rfl <;> rfl
theorem alnum_inner {l : List UInt8} (h : l.all alnumB = true) : l.all innerB = true := by
  rw [List.all_eq_true] at *
  intro c hc
  have := h c hc
  unfold alnumB letterB digitB at this
  simp [innerB, isRunning]
  simp at this
  rcases this with h | h
  · exact .inl (.inl h)
  · exact .inl (.inr h)
theorem letter_alnum {c : UInt8} (h : letterB c = true) : alnumB c = true := by simp [alnumB, h]
theorem wordL_cons {m : Nat} {l : List UInt8} (h : wordL m l = true) : ∃ c q, l = c :: q ∧ letterB c = true ∧ l.all alnumB = true := by
  cases l with
  | nil => simp [wordL] at h
  | cons c q =>
    simp only [wordL, Bool.and_eq_true] at h
    exact ⟨c, q, rfl, h.1.2, by simp [letter_alnum h.1.2, h.2]⟩
theorem alnum_noSlash {l : List UInt8} (h : l.all alnumB = true) : hasSlash l = false := by
  unfold hasSlash
  have : Lib.indexByte l 47 = -1 := by
    induction l with
    | nil => rfl
    | cons c q ih =>
      simp only [List.all_cons, Bool.and_eq_true] at h
      have hc : (c == 47) = false := by
        cases hh : c == 47
        · rfl
        · have := eq_of_beq hh; subst this; have := h.1; simp [alnumB, letterB, digitB, isLetter, isDigit] at this
      rw [Lib.indexByte, hc, ih h.2]; rfl
  rw [this]; rfl
theorem parts_inner : ∀ l : List UInt8, (partsL l).all (wordL 20) = true → l.all innerB = true ∧ ∃ c q, l = c :: q ∧ letterB c = true
  | [], h => by simp [partsL, wordL] at h
  | c :: r, h => by
    by_cases hc : (c == 47) = true
    · rw [partsL, if_pos hc] at h; simp [wordL] at h
    · rw [partsL, if_neg hc] at h
      cases hp : partsL r with
      | nil => exact absurd hp (partsL_ne r)
      | cons p ps =>
        rw [hp] at h
        simp only [List.all_cons, Bool.and_eq_true] at h
        obtain ⟨c', q', e, hl, hall⟩ := wordL_cons h.1
        injection e with e1 e2
        subst e1
        refine ⟨?_, c, r, rfl, hl⟩
        simp only [List.all_cons] at hall
        have hci : innerB c = true := by
          have := alnum_inner (l := [c]) (by simp [letter_alnum hl])
          simpa using this
        rw [List.all_cons, hci, Bool.true_and]
        -- the rest: its first part goes on, or a slash follows
        clear hl
        have key : ∀ (r : List UInt8) (p : List UInt8) (ps : List (List UInt8)), partsL r = p :: ps → p.all alnumB = true → ps.all (wordL 20) = true → r.all innerB = true := by
          intro r
          induction r with
          | nil => intro _ _ _ _ _; rfl
          | cons d r ih =>
            intro p ps hp hpa hps
            by_cases hd : (d == 47) = true
            · rw [partsL, if_pos hd] at hp
              injection hp with h1 h2
              subst h1
              have hdi : innerB d = true := by rw [eq_of_beq hd]; rfl
              rw [List.all_cons, hdi, Bool.true_and]
              cases hq : partsL r with
              | nil => exact absurd hq (partsL_ne r)
              | cons p' ps' =>
                rw [hq] at h2; subst h2
                simp only [List.all_cons, Bool.and_eq_true] at hps
                obtain ⟨_, _, _, _, ha⟩ := wordL_cons hps.1
                exact ih p' ps' hq ha hps.2
            · rw [partsL, if_neg hd] at hp
              cases hq : partsL r with
              | nil => exact absurd hq (partsL_ne r)
              | cons p' ps' =>
                rw [hq] at hp
                injection hp with h1 h2
                subst h1 h2
                simp only [List.all_cons, Bool.and_eq_true] at hpa
                have hdi : innerB d = true := by
                  have := alnum_inner (l := [d]) (by simp [hpa.1])
                  simpa using this
                rw [List.all_cons, hdi, Bool.true_and]
                exact ih p' ps' hq hpa.2 hps
        exact key r p ps hp (by simp only [Bool.and_eq_true] at hall; exact hall.2) h.2
theorem letter_not_sep {c : UInt8} (h : letterB c = true) : c ≠ 32 ∧ c ≠ 10 ∧ c ≠ 35 := by
  refine ⟨?_, ?_, ?_⟩ <;> (rintro rfl; simp [letterB, isLetter] at h)
theorem digit_not_letter {c : UInt8} (h : digitB c = true) : letterB c = false := by
  simp [digitB, isDigit] at h; simp [letterB, isLetter]; omega
theorem numCore_all {l : List UInt8} (h : numCore l = true) : 0 < l.length ∧ l.all digitB = true := by
  simp only [numCore, Bool.and_eq_true, decide_eq_true_eq] at h
  exact ⟨by omega, h.2⟩
theorem digits_inner {l : List UInt8} (h : l.all digitB = true) : l.all innerB = true := by
  rw [List.all_eq_true] at *
  exact fun c hc => digit_inner (h c hc)
theorem next_of_word {l r : List UInt8} {m : Nat} (h : wordL m l = true) (hr : Delim r) : nextL (l ++ r) = (1, l.length) := by
  obtain ⟨c, q, e, hl, ha⟩ := wordL_cons h
  have hrun : runL innerB (l ++ r) = l.length := runL_all (alnum_inner ha) (delim_inner hr)
  unfold nextL
  rw [hrun, List.take_left']
  · rw [if_pos (by rw [e]; exact hl), alnum_noSlash ha]; rfl
  · rfl
theorem next_of_label {l r : List UInt8} (h : labelL l = true) (hs : hasSlash l = true) (hr : Delim r) : nextL (l ++ r) = (2, l.length) := by
  have hp : (partsL l).all (wordL 20) = true := by
    unfold labelL at h; rw [Bool.and_eq_true] at h; exact h.2
  obtain ⟨ha, c, q, e, hl⟩ := parts_inner l hp
  have hrun : runL innerB (l ++ r) = l.length := runL_all ha (delim_inner hr)
  unfold nextL
  rw [hrun, List.take_left']
  · rw [if_pos (by rw [e]; exact hl), hs]; rfl
  · rfl
theorem nextL_isNum {l : List UInt8} (h1 : letterB (l.head?.getD 0) = false) (h2 : (digitB (l.head?.getD 0) || ((l.head?.getD 0).toNat == 45 && decide (1 < l.length) && digitB (l.tail.head?.getD 0))) = true) : nextL l = (3, 1 + runL innerB l.tail) := by
  unfold nextL
  rw [if_neg (show ¬ letterB (l.head?.getD 0) = true by simp [h1]), if_pos h2]
theorem nextL_isSign {l : List UInt8} (h1 : letterB (l.head?.getD 0) = false) (h2 : (digitB (l.head?.getD 0) || ((l.head?.getD 0).toNat == 45 && decide (1 < l.length) && digitB (l.tail.head?.getD 0))) = false) : nextL l = (4, signL l) := by
  unfold nextL
  rw [if_neg (show ¬ letterB (l.head?.getD 0) = true by simp [h1]), if_neg (by rw [h2]; decide)]
theorem next_of_number {l r : List UInt8} (h : numberL l = true) (hr : Delim r) : nextL (l ++ r) = (3, l.length) := by
  unfold numberL at h
  by_cases hp : Lib.hasPrefix l [45] = true
  · rw [if_pos hp, Bool.and_eq_true] at h
    cases l with
    | nil => simp [Lib.hasPrefix] at hp
    | cons c q =>
      obtain rfl : 45 = c := by simpa [Lib.hasPrefix] using hp
      simp only [List.tail_cons] at h
      obtain ⟨hq, hd⟩ := numCore_all h.1
      cases q with
      | nil => simp at hq
      | cons d q =>
        simp only [List.all_cons, Bool.and_eq_true] at hd
        have hrun : runL innerB ((d :: q) ++ r) = (d :: q).length := runL_all (digits_inner (by simp [hd.1, hd.2])) (delim_inner hr)
        rw [nextL_isNum rfl (by simp [hd.1])]
        rw [List.cons_append] at hrun
        simp only [List.cons_append, List.tail_cons]
        rw [hrun]; simp; omega
  · rw [if_neg hp] at h
    obtain ⟨hq, hd⟩ := numCore_all h
    cases l with
    | nil => simp at hq
    | cons c q =>
      simp only [List.all_cons, Bool.and_eq_true] at hd
      have hrun : runL innerB (q ++ r) = q.length := runL_all (digits_inner hd.2) (delim_inner hr)
      rw [nextL_isNum (by simp [digit_not_letter hd.1]) (by simp [hd.1])]
      simp only [List.cons_append, List.tail_cons]
      rw [hrun]; simp; omega
theorem ones_cases {c : UInt8} (h : (0 : Int) ≤ Lib.indexByte onesL c) : c = 40 ∨ c = 41 ∨ c = 61 ∨ c = 43 ∨ c = 45 ∨ c = 42 ∨ c = 60 ∨ c = 124 ∨ c = 46 ∨ c = 59 ∨ c = 64 := by
  have key : ∀ l : List UInt8, (0 : Int) ≤ Lib.indexByte l c → c ∈ l := by
    intro l
    induction l with
    | nil => intro h; simp [Lib.indexByte] at h
    | cons b l ih =>
      intro h
      unfold Lib.indexByte at h
      by_cases hb : (b == c) = true
      · rw [eq_of_beq hb]; simp
      · rw [if_neg hb] at h
        by_cases hl : (Lib.indexByte l c == -1) = true
        · rw [if_pos hl] at h; simp at h
        · have := Lib.indexByte_ge l c
          have h2 : (0 : Int) ≤ Lib.indexByte l c := by simp at hl; omega
          exact List.mem_cons_of_mem _ (ih h2)
  have := key _ h
  simpa [onesL] using this
theorem sign_cases {l : List UInt8} (h0 : 0 < l.length) (h : signL l = l.length) : l = [45, 62] ∨ l = [58, 58] ∨ l = [124, 124] ∨ ∃ c, l = [c] ∧ (0 : Int) ≤ Lib.indexByte onesL c := by
  rw [signL_def] at h
  by_cases hp : (Lib.hasPrefix l [45, 62] || (Lib.hasPrefix l [58, 58] || Lib.hasPrefix l [124, 124])) = true
  · rw [if_pos hp] at h
    have key : ∀ a b : UInt8, Lib.hasPrefix l [a, b] = true → l = [a, b] := fun a b hq => by
      unfold Lib.hasPrefix at hq
      rw [List.isPrefixOf_iff_prefix] at hq
      obtain ⟨t, ht⟩ := hq
      have := congrArg List.length ht
      simp at this
      have : t = [] := List.eq_nil_of_length_eq_zero (by omega)
      subst this; simpa using ht.symm
    simp only [Bool.or_eq_true] at hp
    rcases hp with hp | hp | hp
    · exact .inl (key _ _ hp)
    · exact .inr (.inl (key _ _ hp))
    · exact .inr (.inr (.inl (key _ _ hp)))
  · rw [if_neg hp] at h
    cases l with
    | nil => simp at h0
    | cons c q =>
      simp only [List.head?_cons] at h
      by_cases hc : decide ((0 : Int) ≤ Lib.indexByte onesL c) = true
      · rw [if_pos hc] at h
        have : q = [] := List.eq_nil_of_length_eq_zero (by rw [List.length_cons] at h; omega)
        subst this
        exact .inr (.inr (.inr ⟨c, rfl, by simpa using hc⟩))
      · rw [if_neg hc] at h; simp at h
theorem signL_two' {a b : UInt8} {r : List UInt8} (h : (a = 45 ∧ b = 62) ∨ (a = 58 ∧ b = 58) ∨ (a = 124 ∧ b = 124)) : signL (a :: b :: r) = 2 := by
  rw [signL_def, if_pos]
  rcases h with ⟨rfl, rfl⟩ | ⟨rfl, rfl⟩ | ⟨rfl, rfl⟩ <;> simp [Lib.hasPrefix]
theorem signL_one' {c : UInt8} {r : List UInt8} (h : (0 : Int) ≤ Lib.indexByte onesL c) (hr : Delim r) : signL (c :: r) = 1 := by
  rw [signL_def, if_neg, List.head?_cons]
  · simp [h]
  · rcases hr with rfl | ⟨d, q, rfl, hd⟩
    · simp [Lib.hasPrefix]
    · rcases hd with rfl | rfl <;> simp [Lib.hasPrefix]
theorem delim_head_digit {r : List UInt8} (h : Delim r) : digitB (r.head?.getD 0) = false := by
  rcases h with rfl | ⟨d, q, rfl, hd⟩
  · rfl
  · rcases hd with rfl | rfl <;> rfl
theorem next_of_sign {l r : List UInt8} (h0 : 0 < l.length) (h : signL l = l.length) (hr : Delim r) : nextL (l ++ r) = (4, l.length) := by
  have two : ∀ a b : UInt8, ((a = 45 ∧ b = 62) ∨ (a = 58 ∧ b = 58) ∨ (a = 124 ∧ b = 124)) → nextL ([a, b] ++ r) = (4, 2) := fun a b hab => by
    have hs := signL_two' (r := r) hab
    rw [nextL_isSign]
    · rw [show [a, b] ++ r = a :: b :: r from rfl, hs]
    · rcases hab with ⟨rfl, rfl⟩ | ⟨rfl, rfl⟩ | ⟨rfl, rfl⟩ <;> rfl
    · rcases hab with ⟨rfl, rfl⟩ | ⟨rfl, rfl⟩ | ⟨rfl, rfl⟩ <;> simp [digitB, isDigit]
  rcases sign_cases h0 h with rfl | rfl | rfl | ⟨c, rfl, hc⟩
  · exact two 45 62 (.inl ⟨rfl, rfl⟩)
  · exact two 58 58 (.inr (.inl ⟨rfl, rfl⟩))
  · exact two 124 124 (.inr (.inr ⟨rfl, rfl⟩))
  · have hs := signL_one' hc hr
    have hd := delim_head_digit hr
    rw [nextL_isSign]
    · rw [show [c] ++ r = c :: r from rfl, hs]; rfl
    · rcases ones_cases hc with rfl | rfl | rfl | rfl | rfl | rfl | rfl | rfl | rfl | rfl | rfl <;> rfl
    · simp only [List.cons_append, List.nil_append, List.head?_cons, Option.getD_some, List.tail_cons, hd]
      rcases ones_cases hc with rfl | rfl | rfl | rfl | rfl | rfl | rfl | rfl | rfl | rfl | rfl <;> simp [digitB, isDigit]
theorem next_of_tok {t : LTok} {r : List UInt8} (h : TokOK t) (hr : Delim r) : nextL (t.text ++ r) = (t.kind, t.text.length) := by
  obtain ⟨h1, h4, ht⟩ := h
  have : t.kind = 1 ∨ t.kind = 2 ∨ t.kind = 3 ∨ t.kind = 4 := by omega
  rcases this with e | e | e | e
  · rw [e] at ht ⊢; exact next_of_word (textL_1 _ ▸ ht) hr
  · rw [e, textL_2, Bool.and_eq_true] at ht; rw [e]; exact next_of_label ht.1 ht.2 hr
  · rw [e] at ht ⊢; exact next_of_number (textL_3 _ ▸ ht) hr
  · rw [e, textL_4, Bool.and_eq_true] at ht; rw [e]; exact next_of_sign (by simpa using ht.1) (by simpa using ht.2) hr
theorem tok_pos {t : LTok} (h : TokOK t) : 0 < t.text.length := by
  rcases Nat.eq_zero_or_pos t.text.length with h0 | h0
  · have := h.2.2; rw [List.eq_nil_of_length_eq_zero h0, textL_nil] at this; cases this
  · exact h0
theorem tok_head {t : LTok} (h : TokOK t) (r : List UInt8) : skipL (t.text ++ r) = 0 := by
  have stop : ∀ (c : UInt8) (q : List UInt8), c ≠ 32 → c ≠ 10 → c ≠ 35 → skipL (c :: q) = 0 := fun c q h1 h2 h3 => by
    have e : ∀ n : UInt8, c ≠ n → ((c.toNat : Int) == (n.toNat : Int)) = false := fun n hn => by
      cases hh : ((c.toNat : Int) == (n.toNat : Int))
      · rfl
      · exact absurd (UInt8.toNat_inj.1 (by have := eq_of_beq hh; omega)) hn
    exact skipL_stop (e 32 h1) (e 10 h2) (e 35 h3)
  obtain ⟨h1, h4, ht⟩ := h
  have : t.kind = 1 ∨ t.kind = 2 ∨ t.kind = 3 ∨ t.kind = 4 := by omega
  rcases this with e | e | e | e
  · rw [e, textL_1] at ht
    obtain ⟨c, q, e', hl, _⟩ := wordL_cons ht
    obtain ⟨a, b, d⟩ := letter_not_sep hl
    rw [e']; exact stop c _ a b d
  · rw [e, textL_2, Bool.and_eq_true] at ht
    have hp : (partsL t.text).all (wordL 20) = true := by
      have := ht.1; unfold labelL at this; rw [Bool.and_eq_true] at this; exact this.2
    obtain ⟨_, c, q, e', hl⟩ := parts_inner _ hp
    obtain ⟨a, b, d⟩ := letter_not_sep hl
    rw [e']; exact stop c _ a b d
  · rw [e, textL_3] at ht
    unfold numberL at ht
    cases hx : t.text with
    | nil => rw [hx] at ht; simp [Lib.hasPrefix, numCore] at ht
    | cons c q =>
      rw [hx] at ht
      by_cases hp : Lib.hasPrefix (c :: q) [45] = true
      · obtain rfl : 45 = c := by simpa [Lib.hasPrefix] using hp
        exact stop 45 _ (by decide) (by decide) (by decide)
      · rw [if_neg hp] at ht
        have hd := (numCore_all ht).2
        simp only [List.all_cons, Bool.and_eq_true] at hd
        refine stop c _ ?_ ?_ ?_ <;> (rintro rfl; have := hd.1; simp [digitB, isDigit] at this)
  · rw [e, textL_4, Bool.and_eq_true] at ht
    rcases sign_cases (by simpa using ht.1) (by simpa using ht.2) with hx | hx | hx | ⟨c, hx, hc⟩
    · rw [hx]; exact stop 45 _ (by decide) (by decide) (by decide)
    · rw [hx]; exact stop 58 _ (by decide) (by decide) (by decide)
    · rw [hx]; exact stop 124 _ (by decide) (by decide) (by decide)
    · rw [hx]
      refine stop c _ ?_ ?_ ?_ <;> (rintro rfl; simp [onesL, Lib.indexByte] at hc)
def kt (t : LTok) : Int × List UInt8 := (t.kind, t.text)
end Go.Proofs.YtnnolijagpakiaaGreatDoor
namespace Go.Proofs.YtnnolijagpakiaaGreatDoor
open Go Go.RowKit
def encT (t : LTok) : List D := [.raw (.int .i64 t.kind), .raw (.string ⟨t.text.toArray⟩), .raw (.int .i64 t.pos)]
def encTs (l : List LTok) : List (List D) := l.map encT
theorem encTs_length (l : List LTok) : (encTs l).length = l.length := by simp [encTs]
theorem encTs_at (l : List LTok) (i : Nat) (h : i < l.length) : (encTs l).getD i [] = encT l[i] := by
  simp [encTs, List.getD_eq_getElem?_getD, h]
theorem encTs_row (l : List LTok) : ∀ r ∈ encTs l, r.length = 3 := fun r h => by
  obtain ⟨t, _, rfl⟩ := List.mem_map.1 h; rfl
theorem encTs_fit (l : List LTok) : rowsFit 3 (encTs l) := by
  intro r hr
  obtain ⟨t, _, rfl⟩ := List.mem_map.1 hr
  exact ⟨rfl, fun x hx => by simp [encT] at hx; rcases hx with rfl | rfl | rfl <;> rfl⟩
end Go.Proofs.YtnnolijagpakiaaGreatDoor
namespace Go.Proofs.YtnnolijagpakiaaGreatDoor
open Go Go.ChangeShapes Go.WideShapes Go.Deep Go.RowKit
inductive Typed (P : Program) : TypeId → List D → Prop
  | int {t : TypeId} {k : IntKind} (n : Int) (h : P.underlying t = some (.int k)) (hw : (Lit.int k n).wf = true) : Typed P t [.raw (.int k n)]
  | str {t : TypeId} (s : ByteArray) (h : P.underlying t = some .string) (hs : s.size ≤ Go.maxLen) : Typed P t [.raw (.string s)]
  | bool {t : TypeId} (b : Bool) (h : P.underlying t = some .bool) : Typed P t [.raw (.bool b)]
  | struct {t : TypeId} (fs : Array Field) (parts : List (List D)) (h : P.underlying t = some (.struct fs)) (hl : parts.length = fs.toList.length) (hp : ∀ i (hi : i < fs.toList.length) (hi' : i < parts.length), Typed P fs.toList[i].type parts[i]) : Typed P t parts.flatten
  | slice {t e : TypeId} (rows : List (List D)) (h : P.underlying t = some (.slice e)) (hr : ∀ i (hi : i < rows.length), Typed P e rows[i]) : Typed P t [.sl rows]
mutual
def D.size : D → Nat
  | .raw v => match v with
    | .string s => s.size + 1
    | _ => 1
  | .sl rows => sizeR rows + 1
def sizeL : List D → Nat
  | [] => 0
  | d :: l => d.size + sizeL l
def sizeR : List (List D) → Nat
  | [] => 0
  | r :: rs => sizeL r + sizeR rs
end
theorem sizeL_append : ∀ a b : List D, sizeL (a ++ b) = sizeL a + sizeL b
  | [], b => by simp [sizeL]
  | x :: a, b => by simp [sizeL, sizeL_append a b]; omega
theorem typed_int {P : Program} {t : TypeId} {k : IntKind} {ds : List D} (h : Typed P t ds) (ht : P.underlying t = some (.int k)) : ∃ n, ds = [.raw (.int k n)] ∧ (Lit.int k n).wf = true := by
  cases h with
  | int n h hw => rw [ht] at h; cases h; exact ⟨n, rfl, hw⟩
  | str s h => rw [ht] at h; cases h
  | bool b h => rw [ht] at h; cases h
  | struct fs parts h => rw [ht] at h; cases h
  | slice rows h => rw [ht] at h; cases h
theorem typed_str {P : Program} {t : TypeId} {ds : List D} (h : Typed P t ds) (ht : P.underlying t = some .string) : ∃ s, ds = [.raw (.string s)] ∧ s.size ≤ Go.maxLen := by
  cases h with
  | int n h hw => rw [ht] at h; cases h
  | str s h hs => exact ⟨s, rfl, hs⟩
  | bool b h => rw [ht] at h; cases h
  | struct fs parts h => rw [ht] at h; cases h
  | slice rows h => rw [ht] at h; cases h
theorem typed_slice {P : Program} {t e : TypeId} {ds : List D} (h : Typed P t ds) (ht : P.underlying t = some (.slice e)) : ∃ rows, ds = [.sl rows] ∧ ∀ i (hi : i < rows.length), Typed P e rows[i] := by
  cases h with
  | int n h hw => rw [ht] at h; cases h
  | str s h => rw [ht] at h; cases h
  | bool b h => rw [ht] at h; cases h
  | struct fs parts h => rw [ht] at h; cases h
  | slice rows h hr => rw [ht] at h; cases h; exact ⟨rows, rfl, hr⟩
theorem typed_struct {P : Program} {t : TypeId} {fs : Array Field} {ds : List D} (h : Typed P t ds) (ht : P.underlying t = some (.struct fs)) : ∃ parts : List (List D), ds = parts.flatten ∧ parts.length = fs.toList.length ∧ ∀ i (hi : i < fs.toList.length) (hi' : i < parts.length), Typed P fs.toList[i].type parts[i] := by
  cases h with
  | int n h hw => rw [ht] at h; cases h
  | str s h => rw [ht] at h; cases h
  | bool b h => rw [ht] at h; cases h
  | struct fs parts h hl hp => rw [ht] at h; cases h; exact ⟨parts, rfl, hl, hp⟩
  | slice rows h => rw [ht] at h; cases h
def allR (R : D → Value → Prop) : List D → List Value → Prop
  | [], [] => True
  | d :: ds, c :: cs => R d c ∧ allR R ds cs
  | _, _ => False
theorem allR_append {R : D → Value → Prop} : ∀ {a b : List D} {c d : List Value}, allR R a c → allR R b d → allR R (a ++ b) (c ++ d)
  | [], _, [], _, _, h => h
  | [], _, _ :: _, _, h, _ => h.elim
  | _ :: _, _, [], _, h, _ => h.elim
  | _ :: _, _, _ :: _, _, h, h' => ⟨h.1, allR_append h.2 h'⟩
theorem allR_spec {R : D → Value → Prop} : ∀ {a : List D} {c : List Value}, allR R a c → a.length = c.length ∧ ∀ i (hi : i < a.length) (hv : i < c.length), R a[i] c[i]
  | [], [], _ => ⟨rfl, fun i hi => absurd hi (Nat.not_lt_zero _)⟩
  | [], _ :: _, h => h.elim
  | _ :: _, [], h => h.elim
  | x :: a, y :: c, h => by
    obtain ⟨h1, h2⟩ := allR_spec h.2
    refine ⟨by simp [h1], fun i hi hv => ?_⟩
    cases i with
    | zero => exact h.1
    | succ i => exact h2 i (by simpa using hi) (by simpa using hv)
def packedL (P : Program) : Nat → List Field → Option Nat
  | n, [] => some n
  | n, f :: fs => if f.offset = n then packedL P (n + P.cellsOf f.type) fs else none
def plainTy (P : Program) (tys : List TypeId) (t : TypeId) : Bool :=
  match P.underlying t with
  | some (.int _) => true
  | some .string => true
  | some .bool => true
  | some (.slice e) => tys.contains e && decide (P.cellsOf e ≠ 0)
  | some (.struct fs) => decide (packedL P 0 fs.toList = some (P.cellsOf t)) && fs.toList.all (fun f => tys.contains f.type)
  | _ => false
theorem blkOne {H : Type} (d : DataW H) : 1 ≤ Rows.uptoBulk d := by
  cases d with
  | lit l => cases l <;> simp [Rows.uptoBulk]
  | nil => simp [Rows.uptoBulk]
  | ptr d => simp [Rows.uptoBulk]
  | slice elems spare => simp [Rows.uptoBulk]
  | agg parts => simp [Rows.uptoBulk]
  | iface t d => simp [Rows.uptoBulk]
  | map entries => simp [Rows.uptoBulk]
  | held h => simp [Rows.uptoBulk]
theorem blkPart {H : Type} {d : DataW H} {l : List (DataW H)} (h : d ∈ l) : Rows.uptoBulk d ≤ Rows.uptoBulkAll l := by
  induction l with
  | nil => cases h
  | cons x r ih =>
    simp only [Rows.uptoBulkAll]
    cases List.mem_cons.1 h with
    | inl e => subst e; omega
    | inr e => have := ih e; omega
theorem blkRows {H : Type} (f : Nat → List D) (E : Nat → DataW H) : ∀ l : List Nat, (∀ i ∈ l, sizeL (f i) ≤ Rows.uptoBulk (E i)) → sizeR (l.map f) ≤ Rows.uptoBulkAll (l.map E)
  | [], _ => by simp [sizeR]
  | a :: r, h => by
    have h1 := h a (by simp)
    have h2 := blkRows f E r (fun i hi => h i (by simp [hi]))
    simp only [List.map_cons, sizeR, Rows.uptoBulkAll]; omega
section
variable {H : Type} {enc : TypeId × Value → H} {P : Program} {W : World} {base : Nat} {spare : Nat → Bool} {held : Bool}
abbrev below (W : World) : Nat → Nat → Prop := fun b _ => b < W.heap.size
def Opened (P : Program) (W : World) (t : TypeId) (cs : List Value) (n : Nat) : Prop := ∃ ds : List D, Typed P t ds ∧ allR (Reads W (below W)) ds cs ∧ sizeL ds ≤ n
theorem open_typed {tys : List TypeId} (hall : tys.all (plainTy P tys) = true) (N : Nat) : ∀ (fuel : Nat) (t : TypeId) (cs : List Value) (x : DataW H × List MemPlace), Rows.uptoBulk x.1 ≤ N → tys.contains t = true → DataW.trod enc P W base spare held fuel t cs = some x → (∀ p ∈ x.2, p.block < W.heap.size) →
    Opened P W t cs (Rows.uptoBulk x.1) := by
  induction N with
  | zero => intro fuel t cs x hN; have := blkOne x.1; omega
  | succ N ih =>
    intro fuel t cs x hN ht h hlt
    have hp : plainTy P tys t = true := List.all_eq_true.1 hall t (by simpa using ht)
    unfold plainTy at hp
    split at hp
    · rename_i k hk
      obtain ⟨n, rfl, hx, hw⟩ := DataW.trod_int hk h
      exact ⟨_, .int n hk hw, ⟨.raw _, trivial⟩, by simpa [sizeL, D.size] using blkOne x.1⟩
    · rename_i hk
      obtain ⟨s, rfl, rfl, hs⟩ := DataW.trod_string hk h
      refine ⟨_, .str s hk hs, ⟨.raw _, trivial⟩, ?_⟩
      have : s.data.toList.length = s.size := rfl
      simp only [sizeL, D.size, Rows.uptoBulk, this]
      omega
    · rename_i hk
      obtain ⟨b, rfl, hx⟩ := DataW.trod_bool hk h
      exact ⟨_, .bool b hk, ⟨.raw _, trivial⟩, by simpa [sizeL, D.size] using blkOne x.1⟩
    · rename_i e hk
      simp only [Bool.and_eq_true, decide_eq_true_eq] at hp
      obtain ⟨he, h0⟩ := hp
      rcases open_slice hk h with ⟨rfl, rfl⟩ | ⟨a, len, cap, m, n', E, Pl, rfl, _, hlc, hcm, hm, rfl, hi⟩
      · exact ⟨_, .slice [] hk (fun i hi => absurd hi (Nat.not_lt_zero _)), ⟨.nil _ _, trivial⟩, by simp [sizeL, D.size, sizeR, Rows.uptoBulk]⟩
      · have hlm : len ≤ m := by rw [hm]; split <;> omega
        have hbs : Rows.uptoBulkAll ((List.range len).map E) + 1 ≤ Rows.uptoBulk (DataW.slice ((List.range len).map E) ((List.range (m - len)).map fun j => E (len + j))) := by simp only [Rows.uptoBulk]; omega
        have hbx : Rows.uptoBulk (DataW.slice ((List.range len).map E) ((List.range (m - len)).map fun j => E (len + j))) ≤ N + 1 := hN
        have ex : ∀ i, ∃ r : List D, i < len → (Typed P e r ∧ sizeL r ≤ Rows.uptoBulk (E i) ∧ ∃ cs', W.cells? base (a.add (i * P.cellsOf e)) (P.cellsOf e) = some cs' ∧ allR (Reads W (below W)) r cs') := by
          intro i
          by_cases hil : i < len
          · obtain ⟨cs', hc, hti⟩ := hi i (by omega)
            have hbi := blkPart (d := E i) (l := (List.range len).map E) (List.mem_map.2 ⟨i, List.mem_range.2 hil, rfl⟩)
            obtain ⟨r, h1, h2, h3⟩ := ih n' e cs' (E i, Pl i) (by show Rows.uptoBulk (E i) ≤ N; omega) he hti (fun p hp => hlt p (List.mem_append.2 (.inr (List.mem_flatMap.2 ⟨i, List.mem_range.2 (by omega), hp⟩))))
            exact ⟨r, fun _ => ⟨h1, h3, cs', hc, h2⟩⟩
          · exact ⟨[], fun h => absurd h hil⟩
        obtain ⟨f, hf⟩ := Classical.axiomOfChoice ex
        have hsz := blkRows f E (List.range len) (fun i hi => (hf i (List.mem_range.1 hi)).2.1)
        have hget : ∀ i (hi : i < ((List.range len).map f).length), ((List.range len).map f)[i] = f i := fun i hi => by simp
        refine ⟨_, .slice ((List.range len).map f) hk (fun i hi => by rw [hget i hi]; exact (hf i (by simpa using hi)).1), ⟨?_, trivial⟩, ?_⟩
        · by_cases hp : 0 < len
          · obtain ⟨b, off, spot⟩ := a
            have cell0 : ∀ i, i < len → ∀ j (hj : j < (f i).length), ∃ u, W.cell? (((⟨b, off, spot⟩ : Addr).add (i * P.cellsOf e)).add j) = some u ∧ Reads W (below W) (f i)[j] u := fun i hi j hj => by
              obtain ⟨_, _, cs', hc, hr⟩ := hf i hi
              obtain ⟨_, hl, hat⟩ := World.cells?_some hc
              obtain ⟨h1, h2⟩ := allR_spec hr
              have hj' : j < cs'.length := by omega
              exact ⟨cs'[j], by rw [hat j (by omega), List.getElem?_eq_getElem hj'], h2 j hj hj'⟩
            have hfl : ∀ i, i < len → (f i).length = P.cellsOf e := fun i hi => by
              obtain ⟨_, _, cs', hc, hr⟩ := hf i hi
              obtain ⟨_, hl, _⟩ := World.cells?_some hc
              rw [(allR_spec hr).1, hl]
            obtain ⟨u0, hu0, _⟩ := cell0 0 hp 0 (by rw [hfl 0 hp]; omega)
            have hspot : spot = none := by simpa [Addr.add] using World.cell?_spot hu0
            subst hspot
            have hblt : b < W.heap.size := by
              have : MemPlace.cell b (off + 0) ∈ MemPlace.row ⟨b, off, none⟩ (m * P.cellsOf e) ++ (List.range m).flatMap Pl := by
                refine List.mem_append.2 (.inl ?_)
                unfold MemPlace.row
                exact List.mem_map.2 ⟨0, List.mem_range.2 (Nat.mul_pos (by omega) (by omega)), rfl⟩
              exact hlt _ this
            have hlen : ((List.range len).map f).length = len := by simp
            have key : Reads W (below W) (.sl ((List.range len).map f)) (.slice (some ⟨b, off, none⟩) ((List.range len).map f).length cap) := by
              refine Reads.mk (st := P.cellsOf e) (by omega) (fun i hi => by rw [hget i hi]; exact hfl i (by simpa using hi)) fun i hi j hj => ?_
              have hi' : i < len := by simpa using hi
              have hj' : j < (f i).length := by rw [hget i hi] at hj; exact hj
              obtain ⟨u, hu, hr⟩ := cell0 i hi' j hj'
              rw [Go.WideShapes.add_plain, Go.WideShapes.add_plain] at hu
              refine ⟨hblt, u, hu, ?_⟩
              have : ((List.range len).map f)[i][j] = (f i)[j] := by simp
              rw [this]
              exact hr
            rw [hlen] at key
            exact key
          · obtain rfl : len = 0 := by omega
            exact .nil _ _
        · simp only [sizeL, D.size]
          show sizeR ((List.range len).map f) + 1 + 0 ≤ Rows.uptoBulk (DataW.slice ((List.range len).map E) ((List.range (m - len)).map fun j => E (len + j)))
          omega
    · rename_i fs hk
      simp only [Bool.and_eq_true, decide_eq_true_eq] at hp
      obtain ⟨hpk, hfs⟩ := hp
      obtain ⟨xs, n, _, hx, hlen, hxl, hf⟩ := DataW.trod_struct hk h
      subst hx
      have step : ∀ (fl : List Field) (ys : List (DataW H × List MemPlace)) (k : Nat), packedL P k fl = some (P.cellsOf t) → ys.length = fl.length → (∀ y ∈ ys, y ∈ xs) → (∀ f ∈ fl, tys.contains f.type = true) → (∀ (i : Nat) (f : Field), fl[i]? = some f → DataW.trod enc P W base spare held n f.type ((cs.drop f.offset).take (P.cellsOf f.type)) = ys[i]?) →
          ∃ parts : List (List D), parts.length = fl.length ∧ (∀ i (hi : i < fl.length) (hi' : i < parts.length), Typed P fl[i].type parts[i]) ∧ allR (Reads W (below W)) parts.flatten (cs.drop k) ∧ sizeL parts.flatten ≤ Rows.uptoBulkAll (ys.map (·.1)) := by
        intro fl
        induction fl with
        | nil =>
          intro ys k hk' hl _ _ _
          obtain rfl : ys = [] := List.eq_nil_of_length_eq_zero hl
          simp only [packedL, Option.some.injEq] at hk'
          refine ⟨[], rfl, fun i hi => absurd hi (Nat.not_lt_zero _), ?_, by simp [sizeL, Rows.uptoBulkAll]⟩
          rw [List.drop_of_length_le (by omega)]
          trivial
        | cons f fl ih2 =>
          intro ys k hk' hl hys htys hf'
          match ys, hl with
          | y :: ys, hl =>
            unfold packedL at hk'
            split at hk'
            · rename_i hoff
              obtain ⟨parts, p1, p2, p3, p4⟩ := ih2 ys _ hk' (by simpa using hl) (fun z hz => hys z (by simp [hz])) (fun g hg => htys g (by simp [hg])) (fun i g hg => by have := hf' (i + 1) g (by simpa using hg); simpa using this)
              have ht0 : DataW.trod enc P W base spare held n f.type ((cs.drop f.offset).take (P.cellsOf f.type)) = some y := by simpa using hf' 0 f rfl
              have hb0 := blkPart (d := y.1) (l := xs.map (·.1)) (List.mem_map.2 ⟨y, hys y (by simp), rfl⟩)
              obtain ⟨r, h1, h2, h3⟩ := ih n f.type _ y (by simp only [Rows.uptoBulk] at hN; omega) (htys f (by simp)) ht0 (fun p hp => hlt p (List.mem_flatMap.2 ⟨y, hys y (by simp), hp⟩))
              refine ⟨r :: parts, by simp [p1], fun i hi hi' => ?_, ?_, ?_⟩
              · cases i with
                | zero => exact h1
                | succ i => exact p2 i (by simpa using hi) (by simpa using hi')
              · rw [List.flatten_cons]
                have e : cs.drop k = (cs.drop f.offset).take (P.cellsOf f.type) ++ cs.drop (k + P.cellsOf f.type) := by
                  rw [hoff, ← List.drop_drop, List.take_append_drop]
                rw [e]
                exact allR_append h2 p3
              · rw [List.flatten_cons, sizeL_append]
                simp only [List.map_cons, Rows.uptoBulkAll]
                omega
            · cases hk'
      obtain ⟨parts, p1, p2, p3, p4⟩ := step fs.toList xs 0 hpk (by simpa using hxl) (fun _ h => h) (fun f hf => List.all_eq_true.1 hfs f hf) (fun i f hf' => hf i f (by simpa using hf'))
      refine ⟨_, .struct fs parts hk p1 p2, by simpa using p3, ?_⟩
      simp only [Rows.uptoBulk]
      omega
    · cases hp
end
theorem allR_agg {W : World} {ds : List D} {cs : List Value} (h : allR (Reads W (below W)) ds cs) : HasC W (below W) (.agg (ds.map .d)) (.agg cs.toArray) := by
  obtain ⟨h1, h2⟩ := allR_spec h
  refine .agg _ _ (by simp [h1]) fun i hi hv => ?_
  rw [List.getElem_map]
  exact .d (h2 i (by simpa using hi) hv)
theorem allR_one {W : World} {d : D} {v : Value} (h : allR (Reads W (below W)) [d] [v]) : HasC W (below W) (.d d) v := .d h.1
end Go.Proofs.YtnnolijagpakiaaGreatDoor
namespace Go.Proofs.YtnnolijagpakiaaGreatDoor
open Go Go.RowKit
theorem typed_rows {α : Type} {e : TypeId} {enc : α → List D} {sz : α → Nat} {szL : List α → Nat} (h0 : szL [] = 0) (hc : ∀ a l, szL (a :: l) = sz a + szL l) (N : Nat) (ih : ∀ ds, sizeL ds ≤ N → Typed Tryz.prog e ds → ∃ t, ds = enc t ∧ sz t ≤ sizeL ds) : ∀ rows : List (List D), sizeR rows ≤ N → (∀ i (hi : i < rows.length), Typed Tryz.prog e rows[i]) → ∃ l : List α, rows = l.map enc ∧ szL l ≤ sizeR rows
  | [], _, _ => ⟨[], rfl, by rw [h0]; exact Nat.zero_le _⟩
  | r :: rows, hN, h => by
    simp only [sizeR] at hN
    obtain ⟨t, ht, hn⟩ := ih r (by omega) (by have := h 0 (by simp); simpa using this)
    obtain ⟨l, hl, hn2⟩ := typed_rows h0 hc N ih rows (by omega) fun i hi => by have := h (i + 1) (by simpa using hi); simpa using this
    subst ht hl
    refine ⟨t :: l, rfl, ?_⟩
    rw [hc]
    simp only [sizeR]
    omega
theorem typed_ex (N : Nat) : ∀ ds : List D, sizeL ds ≤ N → Typed Tryz.prog 36 ds → ∃ t : Ex, ds = encE t ∧ nodesE t ≤ sizeL ds := by
  induction N with
  | zero =>
    intro ds hN h
    obtain ⟨parts, rfl, hl, hp⟩ := typed_struct h Tryz.underlying36
    match parts, hl with
    | [p0, p1, p2, p3, p4, p5], _ =>
      obtain ⟨k, rfl, _⟩ := typed_int (hp 0 (by decide) (by simp)) Tryz.underlying3
      simp [sizeL, D.size] at hN
  | succ N ih =>
    intro ds hN h
    obtain ⟨parts, rfl, hl, hp⟩ := typed_struct h Tryz.underlying36
    match parts, hl with
    | [p0, p1, p2, p3, p4, p5], _ =>
      obtain ⟨k, rfl, _⟩ := typed_int (hp 0 (by decide) (by simp)) Tryz.underlying3
      obtain ⟨n, e1, _⟩ := typed_str (hp 1 (by decide) (by simp)) Tryz.underlying9
      obtain ⟨m, e2, _⟩ := typed_str (hp 2 (by decide) (by simp)) Tryz.underlying9
      obtain ⟨i, e3, _⟩ := typed_int (hp 3 (by decide) (by simp)) Tryz.underlying3
      obtain ⟨d, e4, _⟩ := typed_int (hp 4 (by decide) (by simp)) Tryz.underlying3
      obtain ⟨rows, e5, hr⟩ := typed_slice (hp 5 (by decide) (by simp)) Tryz.underlying34
      have e1 : p1 = [.raw (.string n)] := e1
      have e2 : p2 = [.raw (.string m)] := e2
      have e3 : p3 = [.raw (.int .i64 i)] := e3
      have e4 : p4 = [.raw (.int .i64 d)] := e4
      have e5 : p5 = [.sl rows] := e5
      subst e1 e2 e3 e4 e5
      simp only [List.flatten_cons, List.flatten_nil, List.append_nil, List.cons_append, List.nil_append, sizeL, D.size] at hN ⊢
      obtain ⟨l, rfl, hn⟩ := typed_rows (enc := encE) (sz := nodesE) (szL := nodesL) rfl (fun _ _ => rfl) N ih rows (by omega) hr
      refine ⟨.mk k n m i d l, ?_, ?_⟩
      · rw [encE, encL_map]
      · rw [nodesE]; omega
def plainTys : List TypeId := [3, 9, 4, 36, 34, 23, 57, 24, 26]
theorem plain_ok : plainTys.all (plainTy Tryz.prog plainTys) = true := by kernel_rfl
end Go.Proofs.YtnnolijagpakiaaGreatDoor
namespace Go.Proofs.YtnnolijagpakiaaGreatDoor
open Go Go.RowKit
theorem typed_tok {ds : List D} (h : Typed Tryz.prog 43 ds) : ∃ x : LTok, ds = encT x ∧ 1 ≤ sizeL ds := by
  obtain ⟨parts, rfl, hl, hp⟩ := typed_struct h Tryz.underlying43
  match parts, hl with
  | [p0, p1, p2], _ =>
    obtain ⟨k, e0, _⟩ := typed_int (hp 0 (by decide) (by simp)) Tryz.underlying3
    obtain ⟨s, e1, _⟩ := typed_str (hp 1 (by decide) (by simp)) Tryz.underlying9
    obtain ⟨p, e2, _⟩ := typed_int (hp 2 (by decide) (by simp)) Tryz.underlying3
    have e0 : p0 = [.raw (.int .i64 k)] := e0
    have e1 : p1 = [.raw (.string s)] := e1
    have e2 : p2 = [.raw (.int .i64 p)] := e2
    subst e0 e1 e2
    exact ⟨⟨k, s.data.toList, p⟩, rfl, by simp [sizeL, D.size]⟩
def plainTysR : List TypeId := plainTys ++ [43, 32, 5, 51]
theorem plain_okR : plainTysR.all (plainTy Tryz.prog plainTysR) = true := by kernel_rfl
theorem typed_toks {ds : List D} (h : Typed Tryz.prog 32 ds) : ∃ t : List LTok, ds = [.sl (encTs t)] ∧ t.length ≤ sizeL ds := by
  obtain ⟨rows, rfl, hr⟩ := typed_slice h Tryz.underlying32
  obtain ⟨l, rfl, hn⟩ := typed_rows (enc := encT) (sz := fun _ : LTok => 1) (szL := List.length) rfl (fun a l => by rw [List.length_cons]; omega) _ (fun ds _ h => typed_tok h) rows (Nat.le_refl _) hr
  refine ⟨l, rfl, ?_⟩
  simp only [sizeL, D.size]
  omega
end Go.Proofs.YtnnolijagpakiaaGreatDoor
namespace Go.Proofs.YtnnolijagpakiaaGreatDoor
open Go.ChangeShapes Go.WideShapes Go.ChangeAt Go.RowKit
section
variable {H : Type} {enc : TypeId × Value → H} {P : Program}
theorem post_of_below {f : Func} {s : ChangeSpec} {apart fresh handsOn again : Bool} {W W' : World} {args : Array Value} {v : Value} {ds gs : List (DataW H)} {before pa pv : List MemPlace}
    (hW : DataW.Whole enc P f.params.toList s.vars apart W args.toList ds gs before)
    (hres : ∀ (b : Nat) (sp : Nat → Bool) (hd : Bool), DataW.TrodAll enc P W' b sp hd f.resultTypes.toList (v.resultList f.resultTypes.size) (s.fn H (ds ++ gs)).results [])
    (hargs : ∀ sp : Nat → Bool, (∀ p ∈ before, sp p.block = true) → DataW.TrodAll enc P W' 0 sp true f.params.toList args.toList (s.fn H (ds ++ gs)).args pa)
    (hvars : ∀ sp : Nat → Bool, (∀ p ∈ before, sp p.block = true) → DataW.TrodVars enc P W' sp s.vars (s.fn H (ds ++ gs)).vars pv)
    (hps : before = pa ++ pv) (hb : Below W.heap.size W W')
    (hok : ∀ (j : Nat) (t : TypeId) (r : Value), f.resultTypes[j]? = some t → (v.resultList f.resultTypes.size)[j]? = some r → Value.okWide P W' .any 0 t r) :
    s.post enc P f apart fresh handsOn again W args v W' := by
  have hlt : ∀ p ∈ before, p.block < W.heap.size := fun p hp => hW.lt p hp
  have hold : ∀ p ∈ before, (fun b => decide (b < W.heap.size)) p.block = true := fun p hp => by simpa using hlt p hp
  refine ⟨ds, gs, before, [], pa, pv, hW, hres _ _ _, hargs _ hold, hvars _ hold, World.keptBut_mono (fun p hp => ⟨hp, ?_⟩) (hb.frame (· ∈ before)), fun _ => ?_⟩
  · rw [hps, List.mem_append] at hp
    exact Or.inr hp
  · obtain ⟨_, _, _, _, _, hz, hn⟩ := hW
    refine ⟨hok, _, _, ([] ++ pa) ++ pv, ⟨[] ++ pa, pv, trodAll_append (hargs _ (fun _ _ => rfl)) (hres _ _ _), hvars _ (fun _ _ => rfl), rfl, ?_, ?_⟩, ?_⟩
    · intro b off hp
      have hin : MemPlace.cell b off ∈ before := by rw [hps]; simpa using hp
      rw [hb.frozen (hlt _ hin)]
      exact hz b off hin
    · intro ha
      have := hn ha
      rw [hps] at this
      simpa using this
    · intro p hp _
      rw [hps]
      simpa using hp
end
theorem own : ownKnob Tryz.prog.godebug = none := by kernel_rfl
mutual
/-- the cells of a datum of numbers -/
def dataCells : DataW Unit → List Value
  | .lit (.int k n) => [.int k n]
  | .agg l => dataCellsL l
  | _ => []
def dataCellsL : List (DataW Unit) → List Value
  | [] => []
  | d :: l => dataCells d ++ dataCellsL l
end
def putCells (cs : Array Value) : Obj → Obj
  | .cells _ t frozen => .cells cs t frozen
  | o => o
def tables : List (Nat × DataW Unit) := [(6, Rows.laid_math_bits_deBruijn32tab), (7, Rows.laid_math_bits_deBruijn64tab), (3, Rows.laid_internal_strconv_uint64pow10), (5, Rows.laid_unicode_utf8_acceptRanges), (4, Rows.laid_unicode_utf8_first)]
abbrev txRange : ByteArray := ⟨#[118, 97, 108, 117, 101, 32, 111, 117, 116, 32, 111, 102, 32, 114, 97, 110, 103, 101]⟩
abbrev txSyntax : ByteArray := ⟨#[105, 110, 118, 97, 108, 105, 100, 32, 115, 121, 110, 116, 97, 120]⟩
noncomputable def lowN : Nat := (World.holding Tryz.prog default ⟨#[], #[], []⟩).heap.size
noncomputable def errCells (k : Nat) : Array Value := #[.iface 219 (.pointer (some ⟨lowN + k, 0, none⟩))]
noncomputable def heldWorld (os : Os) : World := World.holding Tryz.prog os ⟨#[.cells #[.string txRange] 221, .cells #[.string txSyntax] 221], #[], []⟩
noncomputable def laidWorld (os : Os) : World :=
  { heldWorld os with heap := ((tables.foldl (fun h x => h.modify x.1 (putCells (dataCells x.2).toArray)) (heldWorld os).heap).modify 2 (putCells (errCells 0))).modify 1 (putCells (errCells 1)) }
def laid7 : List (String × DataW Unit) := [("math/bits.deBruijn32tab", Rows.laid_math_bits_deBruijn32tab), ("math/bits.deBruijn64tab", Rows.laid_math_bits_deBruijn64tab), ("internal/strconv.uint64pow10", Rows.laid_internal_strconv_uint64pow10), ("unicode/utf8.acceptRanges", Rows.laid_unicode_utf8_acceptRanges), ("strconv.ErrRange", Rows.laid_strconv_ErrRange), ("strconv.ErrSyntax", Rows.laid_strconv_ErrSyntax), ("unicode/utf8.first", Rows.laid_unicode_utf8_first)]
theorem int_of_shape {P : Program} {w : World} {g : Nat} {t : TypeId} {zero : Array Value} (h : w.ShapedOpen P) (hg : g < P.globals.size)
    (h0 : ((begin P (fun _ _ => 0) default).world.heap[g]?).bind Obj.row? = some (zero, t)) (hz : zero.size = 1)
    (hb : P.buildable t = true) (hc : P.cellTypes P.depth t = some [t]) (hu : P.underlying t = some (.int .i64)) : ∃ m, w.cell? ⟨g, 0, none⟩ = some (.int .i64 m) := by
  obtain ⟨cs, hh, hs, hr⟩ := h.1 g zero t hg h0
  obtain ⟨ts, hts, _, hall⟩ := hr hb
  rw [hc] at hts
  cases hts
  have h1 : 0 < cs.size := by omega
  obtain ⟨u, hu', hok⟩ := hall 0 cs[0] (by simp [h1])
  have : u = t := by simpa using hu'.symm
  subst this
  have key : ∃ m, cs[0] = .int .i64 m := by
    revert hok
    cases cs[0] <;> simp [Cell.ok, hu]
    exact fun h _ => h
  obtain ⟨m, hm⟩ := key
  exact ⟨m, by simp [World.cell?, hh, h1, hm]⟩
theorem glob_of {W : World} (h : laidMetH Tryz.prog laid7 W) (hs : W.ShapedOpen Tryz.prog) : Glob Tryz.prog W := by
  rw [Go.MakeChecks.laidMetH_plain _ _ _ (by kernel_rfl)] at h
  refine ⟨?_, fun g _ => ?_, fun g hg => ?_⟩
  · have hx : (((begin Tryz.prog (fun _ _ => 0) default).world.heap[7]?).bind Obj.row?).isSome = true := by kernel_rfl
    obtain ⟨⟨zero, t⟩, h0⟩ := Option.isSome_iff_exists.1 hx
    obtain ⟨cs, h1, _⟩ := hs.1 7 zero t (of_decide_eq_true (by kernel_rfl)) h0
    have h2 := (Array.getElem?_eq_some_iff.1 h1).1
    have h3 : Tryz.prog.globals.size = 8 := by kernel_rfl
    omega
  · exact Lib.tabIs_of_head (g := 3) (t := 207) (e := 193) (n := 20) (by kernel_rfl) (by kernel_rfl) (by kernel_rfl) (by kernel_rfl) (by kernel_rfl) (by kernel_rfl) h.tail.tail
  · obtain rfl : g = 0 := (Option.some.inj ((show Tryz.prog.globalNamed "internal/bytealg.MaxLen" = some 0 by kernel_rfl).symm.trans hg)).symm
    exact int_of_shape hs (t := 3) (zero := #[.int .i64 0]) (of_decide_eq_true (by kernel_rfl)) (by kernel_rfl) (by kernel_rfl) (by kernel_rfl) (by kernel_rfl) (by kernel_rfl)
section
variable {H : Type} {enc : TypeId × Value → H} {W : World} {base : Nat} {spare : Nat → Bool} {held : Bool}
set_option maxRecDepth 100000 in
theorem in_ex {v : Value} {d : DataW H} {p : List MemPlace} (hval : Value.okWide Tryz.prog W .any base 36 v) (h : DataW.Trod enc Tryz.prog W 0 (fun _ => true) true 36 v d p) (hlt : ∀ x ∈ p, x.block < W.heap.size) : ∃ t : Ex, HasC W (below W) (avE t) v ∧ nodesE t ≤ Rows.uptoBulk d := by
  obtain ⟨fuel, hf⟩ := h
  obtain ⟨ds, hT, hR, hS⟩ := open_typed plain_ok _ fuel 36 v.cells.toList (d, p) (Nat.le_refl _) (by decide) hf hlt
  obtain ⟨t, rfl, hn⟩ := typed_ex _ _ (Nat.le_refl _) hT
  obtain ⟨cs, rfl, _⟩ := okWide_struct Tryz.underlying36 hval
  have hS : sizeL (encE t) ≤ Rows.uptoBulk d := hS
  refine ⟨t, ?_, by omega⟩
  have := allR_agg (cs := cs.toList) hR
  simpa [avE] using this
set_option maxRecDepth 100000 in
theorem in_toks {v : Value} {d : DataW H} {p : List MemPlace} (hval : Value.okWide Tryz.prog W .any base 32 v) (h : DataW.Trod enc Tryz.prog W 0 (fun _ => true) true 32 v d p) (hlt : ∀ x ∈ p, x.block < W.heap.size) : ∃ t : List LTok, HasC W (below W) (.d (.sl (encTs t))) v ∧ t.length ≤ Rows.uptoBulk d := by
  obtain ⟨fuel, hf⟩ := h
  obtain ⟨ds, hT, hR, hS⟩ := open_typed plain_okR _ fuel 32 v.cells.toList (d, p) (Nat.le_refl _) (by decide) hf hlt
  obtain ⟨t, rfl, hn⟩ := typed_toks hT
  obtain ⟨a, len, cap, rfl⟩ := okWide_slice Tryz.underlying32 hval
  have hS : sizeL [.sl (encTs t)] ≤ Rows.uptoBulk d := hS
  exact ⟨t, allR_one hR, by omega⟩
end
theorem law_calls {f : FuncId} {args : List AV} {vs : List Value} {W : World} (hc : Con Tryz.prog f args (.d (.raw (.bool true)))) (hg : Glob Tryz.prog W) (hl : args.length = vs.length) (hv : ∀ i (hi : i < args.length) (hv : i < vs.length), HasC W (below W) args[i] vs[i]) :
    Calls Tryz.prog f vs.toArray W fun e W' => e = .returned (.bool true) ∧ Below W.heap.size W W' := by
  refine (hc.2.2 (below W) W vs (fun _ _ h => h) hg hl hv).mono ?_
  rintro e w' ⟨v, rfl, hv, hb⟩
  exact ⟨by rw [hv.raw_eq], hb⟩
end Go.Proofs.YtnnolijagpakiaaGreatDoor
