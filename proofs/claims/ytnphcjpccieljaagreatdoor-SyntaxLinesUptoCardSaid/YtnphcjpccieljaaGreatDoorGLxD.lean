/- Plain laws of scanning: what is scanned is valid; separators between tokens. Tokens lie in the text at their offsets; between them are separators, and separators are blank lines or comments. The lines of the text of a source. No program in sight. strings.Split at one byte, by trees. -/
import Derived.Test.YtnphcjpccieljaaGreatDoorGLxA
import Derived.Lib.Split
import Derived.Lib.TrimByte
import Derived.Test.YtnphcjpccieljaaGreatDoorGPm
import Derived.Test.YtnphcjpccieljaaGreatDoorGYg
import Derived.Test.YtnphcjpccieljaaGreatDoorShelfC
import Derived.Lib.SplitLaws
import Derived.Lib.IndexBytes
namespace Go.Proofs.YtnphcjpccieljaaGreatDoor

theorem ok_tok {r : List UInt8} {p : Nat} (h : okNext r = true) : TokOK (tokL r p) := by
  have h : checkL (nextL r).1 (r.take (nextL r).2) 0 = 0 := by simpa [okNext] using h
  unfold checkL at h
  by_cases h1 : (nextL r).1 < 1 ∨ 4 < (nextL r).1
  · rw [if_pos h1] at h; omega
  · rw [if_neg h1] at h
    cases ht : textL (nextL r).1 (r.take (nextL r).2)
    · rw [if_neg (by simp [ht])] at h; omega
    · exact ⟨by show 1 ≤ (nextL r).1; omega, by show (nextL r).1 ≤ 4; omega, ht⟩
theorem scanT_valid : ∀ (f : Nat) (r : List UInt8) (p : Nat) (acc ts : List LTok), (∀ t ∈ acc, TokOK t) → scanT f r p acc = (ts, none) → ∀ t ∈ ts, TokOK t
  | 0, r, p, acc, ts, ha, h => by
    obtain rfl : acc = ts := by simpa [scanT] using h
    exact ha
  | f + 1, r, p, acc, ts, ha, h => by
    rcases Nat.eq_zero_or_pos r.length with h0 | h0
    · rw [scanT_end h0] at h
      obtain rfl : acc = ts := by simpa using h
      exact ha
    · cases ho : okNext r
      · rw [scanT_err h0 ho] at h; simp at h
      · rw [scanT_step h0 ho] at h
        refine scanT_valid f _ _ _ _ (fun t ht => ?_) h
        rcases List.mem_append.1 ht with ht | ht
        · exact ha t ht
        · obtain rfl : t = _ := List.mem_singleton.1 ht
          exact ok_tok ho
theorem scan_valid {l : List UInt8} {ts : List LTok} (h : scanAll l = (ts, none)) : ∀ t ∈ ts, TokOK t :=
  scanT_valid _ _ _ [] ts (fun t ht => by simp at ht) h
theorem word_short {m : Nat} {l : List UInt8} (h : wordL m l = true) : l.length ≤ m := by
  rcases Nat.lt_or_ge m l.length with h1 | h1
  · rw [wordL_long h1] at h; cases h
  · exact h1
theorem tok_short {t : LTok} (h : TokOK t) : t.text.length ≤ 90 := by
  obtain ⟨h1, h4, ht⟩ := h
  have : t.kind = 1 ∨ t.kind = 2 ∨ t.kind = 3 ∨ t.kind = 4 := by omega
  rcases this with e | e | e | e
  · rw [e, textL_1] at ht; have := word_short ht; omega
  · rw [e, textL_2, Bool.and_eq_true] at ht
    have := ht.1; unfold labelL at this; rw [Bool.and_eq_true] at this
    simpa using this.1
  · rw [e, textL_3] at ht
    unfold numberL at ht
    have core : ∀ l : List UInt8, numCore l = true → l.length ≤ 9 := fun l h => by
      simp only [numCore, Bool.and_eq_true, decide_eq_true_eq] at h; omega
    split at ht
    · rw [Bool.and_eq_true] at ht
      have := core _ ht.1
      simp at this; omega
    · have := core _ ht; omega
  · rw [e, textL_4, Bool.and_eq_true] at ht
    rcases sign_cases (by simpa using ht.1) (by simpa using ht.2) with hx | hx | hx | ⟨c, hx, _⟩ <;> rw [hx] <;> simp
/-- the separator that stands for a number -/
def sepL (m : Int) (cm : List UInt8) : List UInt8 :=
  if m == 0 then [32] else if m == 1 then [10] else if m == 2 then [32, 10, 32, 32] else [32, 35] ++ cm ++ [10]
theorem skipGo_comment : ∀ (cm x : List UInt8), (∀ c ∈ cm, c ≠ 10) → skipGo true (cm ++ 10 :: x) = cm.length + 1 + skipL x
  | [], x, _ => by show skipGo true (10 :: x) = _; rw [skipGo, if_pos (by decide)]; simp [skipL]
  | c :: cm, x, h => by
    have hc := h c (by simp)
    have : ((c.toNat : Int) == 10) = false := by
      cases hh : ((c.toNat : Int) == 10)
      · rfl
      · exact absurd (UInt8.toNat_inj.1 (by have := eq_of_beq hh; simp; omega)) hc
    rw [List.cons_append, skipGo, if_neg (by simp [this]), skipGo_comment cm x (fun d hd => h d (by simp [hd]))]
    simp; omega
theorem skipGo_last : ∀ (cm : List UInt8), (∀ c ∈ cm, c ≠ 10) → skipGo true cm = cm.length
  | [], _ => rfl
  | c :: cm, h => by
    have hc := h c (by simp)
    have : ((c.toNat : Int) == 10) = false := by
      cases hh : ((c.toNat : Int) == 10)
      · rfl
      · exact absurd (UInt8.toNat_inj.1 (by have := eq_of_beq hh; simp; omega)) hc
    rw [skipGo, if_neg (by simp [this]), skipGo_last cm (fun d hd => h d (by simp [hd]))]
    simp; omega
theorem skips_sep (m : Int) {cm : List UInt8} (h : ∀ c ∈ cm, c ≠ 10) : Skips (sepL m cm) := by
  have b32 : ∀ x, skipL (32 :: x) = 1 + skipL x := fun x => skipL_blank (.inl rfl)
  have b10 : ∀ x, skipL (10 :: x) = 1 + skipL x := fun x => skipL_blank (.inr rfl)
  intro x
  unfold sepL
  repeat' split
  · exact b32 x
  · exact b10 x
  · show skipL (32 :: 10 :: 32 :: 32 :: x) = _
    rw [b32, b10, b32, b32]; simp; omega
  · show skipL (32 :: 35 :: (cm ++ [10] ++ x)) = _ 
    rw [b32, List.append_assoc]
    show 1 + skipL (35 :: (cm ++ 10 :: x)) = _
    unfold skipL
    rw [skipGo, if_neg (by decide), if_pos (by decide), skipGo_comment cm x h]
    simp [skipL]; omega
theorem sep_head (m : Int) (cm : List UInt8) : ∃ c q, sepL m cm = c :: q ∧ (c = 32 ∨ c = 10) := by
  unfold sepL
  repeat' split
  · exact ⟨32, _, rfl, .inl rfl⟩
  · exact ⟨10, _, rfl, .inr rfl⟩
  · exact ⟨32, _, rfl, .inl rfl⟩
  · exact ⟨32, _, rfl, .inl rfl⟩
theorem sep_len (m : Int) (cm : List UInt8) : (sepL m cm).length ≤ cm.length + 4 := by
  unfold sepL
  repeat' split
  all_goals simp
theorem end_skip {cm : List UInt8} (h : ∀ c ∈ cm, c ≠ 10) : skipL (10 :: 35 :: cm) = (10 :: 35 :: cm).length := by
  rw [skipL_blank (.inr rfl)]
  unfold skipL
  rw [skipGo, if_neg (by decide), if_pos (by decide), skipGo_last cm h]
  simp; omega
theorem flat_snoc : ∀ (L : List (List UInt8 × LTok)) (s : List UInt8) (t : LTok), flatL (L ++ [(s, t)]) [] = flatL L [] ++ s ++ t.text
  | [], s, t => by simp [flatL]
  | (a, u) :: L, s, t => by simp [flatL, flat_snoc L s t]
theorem flat_end : ∀ (L : List (List UInt8 × LTok)) (z : List UInt8), flatL L z = flatL L [] ++ z
  | [], z => by simp [flatL]
  | (a, u) :: L, z => by simp only [flatL]; rw [flat_end L z]; simp
theorem flat_len {L : List (List UInt8 × LTok)} {n : Nat} (h : ∀ x ∈ L, x.1.length + x.2.text.length ≤ n) : (flatL L []).length ≤ L.length * n := by
  induction L with
  | nil => simp [flatL]
  | cons x L ih =>
    obtain ⟨s, t⟩ := x
    have h1 := h _ (List.mem_cons_self ..)
    have h2 := ih (fun y hy => h y (List.mem_cons_of_mem _ hy))
    simp only [flatL, List.length_append, List.length_cons, Nat.add_mul, Nat.one_mul] at h1 h2 ⊢
    omega
theorem sep_pure {L : List (List UInt8 × LTok)} {cm : List UInt8} (hL : LaidOK L) (hI : Inner L) (h : ∀ c ∈ cm, c ≠ 10) : ∃ ms, scanAll (flatL L (10 :: 35 :: cm)) = (ms, none) ∧ ms.map kt = L.map (fun x => kt x.2) := by
  cases L with
  | nil =>
    refine ⟨[], ?_, rfl⟩
    show scanAll (10 :: 35 :: cm) = _
    unfold scanAll
    rw [end_skip h, List.drop_length, scanT_end rfl]
  | cons x L =>
    obtain ⟨s, t⟩ := x
    obtain ⟨h1, h2⟩ := hL _ (List.mem_cons_self ..)
    obtain ⟨ms, e1, e2⟩ := scan_laid h1 h2 (fun y hy => hL y (List.mem_cons_of_mem _ hy)) (fun y hy => hI y (List.mem_cons_of_mem _ hy)) (end_skip h) (.inr ⟨10, _, rfl, .inr rfl⟩)
    exact ⟨ms, e1, by rw [e2]; rfl⟩
end Go.Proofs.YtnphcjpccieljaaGreatDoor

namespace Go.Proofs.YtnphcjpccieljaaGreatDoor

/-- before a comment only spaces -/
def lineOK (p : List UInt8) : Prop := Lib.trimB (Lib.cut p [35]).1 32 = []
def spacesB (p : List UInt8) : Bool := (p.takeWhile (· != 35)).all (· == 32)

theorem take_first {c : UInt8} : ∀ (l : List UInt8) (i : Nat), (∀ j, j < i → l[j]? ≠ some c) → l[i]? = some c → l.takeWhile (· != c) = l.take i
  | [], i, _, h => by simp at h
  | b :: l, 0, _, h => by simp at h; simp [h]
  | b :: l, i + 1, h1, h => by
    have h2 : b ≠ c := by have := h1 0 (by omega); simpa using this
    have h3 := take_first l i (fun j hj => by have := h1 (j + 1) (by omega); simpa using this) (by simpa using h)
    simp [h2, h3]
theorem take_none {c : UInt8} : ∀ (l : List UInt8), (∀ j : Nat, l[j]? ≠ some c) → l.takeWhile (· != c) = l
  | [], _ => rfl
  | b :: l, h1 => by
    have h2 : b ≠ c := by have := h1 0; simpa using this
    have h3 := take_none l (fun j => by have := h1 (j + 1); simpa using this)
    simp [h2, h3]
theorem occ_one {s : List UInt8} {c : UInt8} {i : Nat} : Lib.occAt s [c] i = true ↔ s[i]? = some c := by
  constructor
  · intro h; exact Lib.occAt_head rfl h
  · intro h
    unfold Lib.occAt
    obtain ⟨h1, h2⟩ := List.getElem?_eq_some_iff.1 h
    rw [List.drop_eq_getElem_cons h1, h2]; simp
/-- the first place of a byte -/
theorem index_one_cases (s : List UInt8) (c : UInt8) : (Lib.index s [c] = -1 ∧ ∀ j : Nat, s[j]? ≠ some c) ∨ ∃ i : Nat, Lib.index s [c] = i ∧ s[i]? = some c ∧ ∀ j, j < i → s[j]? ≠ some c := by
  rcases Lib.index_spec s [c] with ⟨h, h2⟩ | ⟨i, h, h1, h2, h3⟩
  · refine .inl ⟨h, fun j e => ?_⟩
    have hj := (List.getElem?_eq_some_iff.1 e).1
    have := h2 j (by omega)
    rw [occ_one.2 e] at this; cases this
  · refine .inr ⟨i, h, occ_one.1 h2, fun j hj e => ?_⟩
    have := h3 j hj
    rw [occ_one.2 e] at this; simp at this
theorem cut_one (s : List UInt8) (c : UInt8) : (Lib.cut s [c]).1 = s.takeWhile (· != c) := by
  unfold Lib.cut
  rcases index_one_cases s c with ⟨h, h2⟩ | ⟨i, h, h1, h2⟩
  · rw [if_neg (by omega)]; exact (take_none s h2).symm
  · rw [if_pos (by omega), h]; exact (take_first s i h2 h1).symm
theorem drop_all {q : UInt8 → Bool} : ∀ l : List UInt8, (∀ x ∈ l, q x = true) → l.dropWhile q = []
  | [], _ => rfl
  | b :: l, h => by rw [List.dropWhile_cons_of_pos (h b (by simp))]; exact drop_all l fun x hx => h x (by simp [hx])
theorem trim_all {c : UInt8} {l : List UInt8} (h : l.all (· == c) = true) : Lib.trimB l c = [] := by
  unfold Lib.trimB Lib.trimLeftB Lib.trimRightB
  have e : l.reverse.dropWhile (· == c) = [] := by
    exact drop_all _ fun x hx => List.all_eq_true.1 h x (List.mem_reverse.1 hx)
  rw [e]; rfl
theorem line_ok {p : List UInt8} (h : spacesB p = true) : lineOK p := by
  unfold lineOK
  rw [cut_one]
  exact trim_all h
/-- the first line of separators is blank, and separators follow it -/
theorem skip_line : ∀ (l : List UInt8) (b : Bool) (i : Nat), skipGo b l = l.length → (∀ j, j < i → l[j]? ≠ some 10) → (l[i]? = some 10 ∨ l.length ≤ i) → (b = false → spacesB (l.take i) = true) ∧ skipL (l.drop (i + 1)) = (l.drop (i + 1)).length
  | [], b, i, _, _, _ => by simp [spacesB, skipL_nil]
  | c :: r, b, 0, h, _, h2 => by
    have hc : c = 10 := by rcases h2 with h2 | h2 <;> simp at h2; exact h2
    subst hc
    refine ⟨fun _ => by simp [spacesB], ?_⟩
    have := skipGo_le false r
    cases b <;> simp [skipGo] at h <;> simp [skipL] <;> omega
  | c :: r, true, i + 1, h, h1, h2 => by
    have hc : c ≠ 10 := by have := h1 0 (by omega); simpa using this
    have hn : ¬ ((c.toNat : Int) == 10) = true := by
      intro e; apply hc; have e2 : (c.toNat : Int) = 10 := by simpa using e
      apply UInt8.toNat_inj.1; show c.toNat = 10; omega
    rw [skipGo, if_neg hn] at h
    obtain ⟨_, q⟩ := skip_line r true i (by simp at h; omega) (fun j hj => by have := h1 (j + 1) (by omega); simpa using this) (by simpa using h2)
    exact ⟨fun e => (by simp at e), (by simpa using q)⟩
  | c :: r, false, i + 1, h, h1, h2 => by
    have hc : c ≠ 10 := by have := h1 0 (by omega); simpa using this
    have hn : ((c.toNat : Int) == 10) = false := by
      cases q : ((c.toNat : Int) == 10)
      · rfl
      · exfalso; apply hc; have e2 : (c.toNat : Int) = 10 := by simpa using q
        apply UInt8.toNat_inj.1; show c.toNat = 10; omega
    cases q1 : ((c.toNat : Int) == 32)
    · cases q2 : ((c.toNat : Int) == 35)
      · rw [skipGo, if_neg (by simp [q1, hn]), if_neg (by simp [q2])] at h; simp at h
      · rw [skipGo, if_neg (by simp [q1, hn]), if_pos q2] at h
        have e : c = 35 := by have e2 : (c.toNat : Int) = 35 := by simpa using q2
                              apply UInt8.toNat_inj.1; show c.toNat = 35; omega
        obtain ⟨_, q⟩ := skip_line r true i (by simp at h; omega) (fun j hj => by have := h1 (j + 1) (by omega); simpa using this) (by simpa using h2)
        exact ⟨fun _ => by simp [spacesB, e], by simpa using q⟩
    · rw [skipGo, if_pos (by simp [q1])] at h
      have e : c = 32 := by have e2 : (c.toNat : Int) = 32 := by simpa using q1
                            apply UInt8.toNat_inj.1; show c.toNat = 32; omega
      obtain ⟨p, q⟩ := skip_line r false i (by simp at h; omega) (fun j hj => by have := h1 (j + 1) (by omega); simpa using this) (by simpa using h2)
      have p' := p rfl
      refine ⟨fun _ => ?_, by simpa using q⟩
      subst e
      unfold spacesB at p' ⊢
      simp only [List.take_succ_cons]
      rw [List.takeWhile_cons_of_pos (by decide), List.all_cons, p']; rfl
/-- every line of separators is blank -/
theorem skip_lines : ∀ (k : Nat) (l : List UInt8), Lib.count l [10] = k → skipL l = l.length → ∀ p ∈ Lib.splitK [10] 0 k l, lineOK p
  | 0, l, hk, h, p, hp => by
    rcases index_one_cases l 10 with ⟨h1, h2⟩ | ⟨i, h1, _⟩
    · obtain rfl : p = l := by simpa [Lib.splitK] using hp
      have := (skip_line p false p.length h (fun j _ => h2 j) (.inr (Nat.le_refl _))).1 rfl
      rw [List.take_length] at this
      exact line_ok this
    · rw [Lib.count_hit (by simp) h1] at hk; omega
  | k + 1, l, hk, h, p, hp => by
    rcases index_one_cases l 10 with ⟨h1, h2⟩ | ⟨i, h1, h2, h3⟩
    · rw [Lib.count_miss h1] at hk; omega
    · rw [Lib.count_hit (by simp) h1] at hk
      obtain ⟨q1, q2⟩ := skip_line l false i h h3 (.inl h2)
      rw [Lib.splitK, if_neg (by rw [h1]; simp), h1] at hp
      rcases List.mem_cons.1 hp with rfl | hp
      · exact line_ok (q1 rfl)
      · exact skip_lines k _ (by simp at hk ⊢; omega) q2 p hp

/-- the tokens lie in the text, from a place on -/
def Lies (l : List UInt8) : Nat → List LTok → Prop
  | e, [] => e ≤ l.length ∧ skipL (l.drop e) = (l.drop e).length
  | e, t :: ts => ∃ p : Nat, t.pos = p ∧ e ≤ p ∧ p + t.text.length ≤ l.length ∧ TokOK t ∧ (l.drop p).take t.text.length = t.text ∧ skipL ((l.drop e).take (p - e)) = p - e ∧ Lies l (p + t.text.length) ts
theorem scanT_lies (l : List UInt8) : ∀ (f p e : Nat) (acc ts : List LTok), e ≤ p → p ≤ l.length → skipL (l.drop e) = p - e → l.length - p < f → scanT f (l.drop p) p acc = (ts, none) → ∃ us, ts = acc ++ us ∧ Lies l e us
  | 0, p, e, acc, ts, _, _, _, h, _ => by omega
  | f + 1, p, e, acc, ts, h1, h2, h3, h4, h => by
    rcases Nat.eq_zero_or_pos (l.drop p).length with h0 | h0
    · rw [scanT_end h0] at h
      obtain rfl := (Prod.mk.inj h).1
      refine ⟨[], by simp, by omega, ?_⟩
      simp at h0 ⊢; omega
    · cases ho : okNext (l.drop p)
      · rw [scanT_err h0 ho] at h; simp at h
      · rw [scanT_step h0 ho] at h
        have ha := advL_le (l.drop p) h0
        have hn := nextL_le (l.drop p) h0
        have hp := okNext_pos ho
        have had : advL (l.drop p) = (nextL (l.drop p)).2 + skipL ((l.drop p).drop (nextL (l.drop p)).2) := rfl
        rw [List.length_drop] at ha hn
        rw [List.drop_drop] at h
        rw [List.drop_drop] at had
        obtain ⟨us, e1, e2⟩ := scanT_lies l f (p + advL (l.drop p)) (p + (nextL (l.drop p)).2) (acc ++ [tokL (l.drop p) p]) ts (by omega) (by omega) (by omega) (by omega) h
        refine ⟨tokL (l.drop p) p :: us, by rw [e1]; simp, ?_⟩
        have hl : (tokL (l.drop p) p).text.length = (nextL (l.drop p)).2 := by simp [tokL]; omega
        refine ⟨p, rfl, h1, by rw [hl]; omega, ok_tok ho, by rw [hl]; rfl, ?_, by rw [hl]; exact e2⟩
        rw [skipL_take (by omega)]; exact h3
theorem scan_lies {l : List UInt8} {ts : List LTok} (h : scanAll l = (ts, none)) : Lies l 0 ts := by
  obtain ⟨us, rfl, h2⟩ := scanT_lies l (l.length + 1) (skipL l) 0 [] ts (by omega) (skipL_le l) (by simp) (by omega) h
  exact h2
theorem lies_le {l : List UInt8} : ∀ {e : Nat} {ts : List LTok}, Lies l e ts → e ≤ l.length
  | _, [], h => h.1
  | _, _ :: _, ⟨_, _, h1, h2, _⟩ => by omega
end Go.Proofs.YtnphcjpccieljaaGreatDoor

namespace Go.Proofs.YtnphcjpccieljaaGreatDoor
open Go Go.RowKit
abbrev NoNL (l : List UInt8) : Prop := (10 : UInt8) ∉ l
theorem noNL_app {a b : List UInt8} (ha : NoNL a) (hb : NoNL b) : NoNL (a ++ b) := fun h => (List.mem_append.1 h).elim ha hb
theorem noNL_alnum {l : List UInt8} (h : l.all innerB = true) : NoNL l := fun hm => by
  have := List.all_eq_true.1 h _ hm
  exact absurd this (by decide)
theorem noNL_word {n : Nat} {l : List UInt8} (h : wordL n l = true) : NoNL l := by
  obtain ⟨_, _, _, _, ha⟩ := wordL_cons h
  exact noNL_alnum (alnum_inner ha)
theorem noNL_name {n : ByteArray} (h : nameB n = true) : NoNL n.data.toList := noNL_word (name_word h)
theorem noNL_itoa (i : Int) : NoNL (Lib.itoa i) := by
  unfold Lib.itoa
  split
  · refine noNL_app (a := [45]) (by decide) (noNL_alnum (digits_inner (dec_ok _ _ (Nat.lt_succ_self _)).dig))
  · exact noNL_alnum (digits_inner (dec_ok _ _ (Nat.lt_succ_self _)).dig)
theorem noNL_tx {t : Ex} (h : VT t) : NoNL (tx t) := by
  induction h with
  | int i _ _ => rw [tx_1]; exact noNL_itoa i
  | bool i _ => rw [tx_2]; split <;> decide
  | var n hn => rw [tx_3]; exact noNL_name hn
  | dot n m hn hm => rw [tx_4]; exact noNL_app (noNL_name hn) (noNL_app (by decide) (noNL_name hm))
  | fn n a hn _ ih => rw [tx_6]; exact noNL_app (by decide) (noNL_app (by decide) (noNL_app (by decide) (noNL_app (noNL_name hn) (noNL_app (by decide) (noNL_app (by decide) (noNL_app (by decide) (noNL_app ih (by decide))))))))
  | call a b _ _ iha ihb => rw [tx_7]; exact noNL_app (by decide) (noNL_app iha (noNL_app (by decide) (noNL_app ihb (by decide))))
  | letx n a b hn _ _ iha ihb => rw [tx_8]; exact noNL_app (by decide) (noNL_app (by decide) (noNL_app (by decide) (noNL_app (noNL_name hn) (noNL_app (by decide) (noNL_app (by decide) (noNL_app (by decide) (noNL_app iha (noNL_app (by decide) (noNL_app (by decide) (noNL_app (by decide) (noNL_app ihb (by decide))))))))))))
  | ifx a b c _ _ _ iha ihb ihc => rw [tx_9]; exact noNL_app (by decide) (noNL_app (by decide) (noNL_app (by decide) (noNL_app iha (noNL_app (by decide) (noNL_app (by decide) (noNL_app (by decide) (noNL_app ihb (noNL_app (by decide) (noNL_app (by decide) (noNL_app (by decide) (noNL_app ihc (by decide))))))))))))
  | op n a b hn _ _ iha ihb =>
    rw [tx_10]
    obtain ⟨c, rfl, hc, _⟩ := op_sign hn
    exact noNL_app (by decide) (noNL_app iha (noNL_app (by decide) (noNL_app (by rcases hc with rfl | rfl | rfl | rfl | rfl <;> decide) (noNL_app (by decide) (noNL_app ihb (by decide))))))
  | nil => rw [tx_11]; decide
  | cons a b _ _ iha ihb => rw [tx_12]; exact noNL_app (by decide) (noNL_app iha (noNL_app (by decide) (noNL_app (by decide) (noNL_app (by decide) (noNL_app ihb (by decide))))))
  | casex n m a b c hn hm _ _ _ _ iha ihb ihc =>
    rw [tx_13]
    exact noNL_app (by decide) (noNL_app (by decide) (noNL_app (by decide) (noNL_app iha (noNL_app (by decide) (noNL_app (by decide) (noNL_app (by decide) (noNL_app (by decide) (noNL_app (by decide) (noNL_app (by decide) (noNL_app (by decide) (noNL_app ihb (noNL_app (by decide) (noNL_app (by decide) (noNL_app (by decide) (noNL_app (noNL_name hn) (noNL_app (by decide) (noNL_app (by decide) (noNL_app (by decide) (noNL_app (noNL_name hm) (noNL_app (by decide) (noNL_app (by decide) (noNL_app (by decide) (noNL_app ihc (by decide))))))))))))))))))))))))
  | chance i d _ _ _ _ => rw [tx_14]; exact noNL_app (by decide) (noNL_app (by decide) (noNL_app (by decide) (noNL_app (noNL_itoa i) (noNL_app (by decide) (noNL_app (by decide) (noNL_app (by decide) (noNL_app (noNL_itoa d) (by decide))))))))
  | sum a b c _ _ _ iha ihb ihc => rw [tx_15]; exact noNL_app (by decide) (noNL_app (by decide) (noNL_app (by decide) (noNL_app iha (noNL_app (by decide) (noNL_app (by decide) (noNL_app (by decide) (noNL_app ihb (noNL_app (by decide) (noNL_app (by decide) (noNL_app (by decide) (noNL_app ihc (by decide))))))))))))
/-- the line of a use, without its end -/
def uLine (s : ByteArray) : List UInt8 := wUse ++ ([32] ++ (s.data.toList ++ ([32] ++ [59])))
/-- the line of a declaration, without its end: what stands ahead of its body, its body, the semicolon -/
def dHead (x : Dc) : List UInt8 := preW x.doubt wConflict ++ (preW x.pub wPub ++ (kW x.kind ++ ([32] ++ (namesL x.names ++ ([32] ++ idL x.id)))))
def dBare (x : Dc) : List UInt8 := dHead x ++ ([61] ++ ([32] ++ (tx x.body ++ ([32] ++ [59]))))
theorem useB_line (s : ByteArray) : (useB s).data.toList = uLine s ++ [10] := by rw [useB_data]; simp [uLine]
theorem dTx_line (x : Dc) : dTx x = dBare x ++ [10] := by simp [dTx, dBare, dHead]
theorem noNL_label {s : List UInt8} (h : labelL s = true) : NoNL s := by
  have hp : (partsL s).all (wordL 20) = true := by
    unfold labelL at h; rw [Bool.and_eq_true] at h; exact h.2
  exact noNL_alnum (parts_inner s hp).1
theorem noNL_use {s : ByteArray} (h : labelL s.data.toList = true) : NoNL (uLine s) := noNL_app (by decide) (noNL_app (by decide) (noNL_app (noNL_label h) (by decide)))
theorem noNL_pre (b : Bool) {w : List UInt8} (h : NoNL w) : NoNL (preW b w) := by
  cases b with
  | false => exact List.not_mem_nil
  | true => exact noNL_app h (by decide)
theorem noNL_names {l : List ByteArray} (h : ∀ s ∈ l, nameB s = true ∨ s = ⟨#[]⟩) : NoNL (namesL l) := by
  unfold namesL
  split
  · exact noNL_word (nil_word (h _ (by simp)))
  · exact noNL_app (noNL_word (nil_word (h _ (by simp)))) (noNL_app (by decide) (noNL_app (by decide) (noNL_app (by decide) (noNL_app (noNL_word (nil_word (h _ (by simp)))) (noNL_app (by decide) (noNL_app (by decide) (noNL_app (by decide) (noNL_word (nil_word (h _ (by simp)))))))))))
  · exact List.not_mem_nil
theorem noNL_id (i : Int) : NoNL (idL i) := by
  unfold idL
  split
  · exact List.not_mem_nil
  · exact noNL_app (by decide) (noNL_app (noNL_itoa i) (by decide))
theorem noNL_decl {x : Dc} (h : OkD x) : NoNL (dBare x) := by
  unfold dBare dHead
  exact noNL_app (noNL_app (noNL_pre _ (by decide)) (noNL_app (noNL_pre _ (by decide)) (noNL_app (noNL_word (kW_word _)) (noNL_app (by decide) (noNL_app (noNL_names h.nm') (noNL_app (by decide) (noNL_id _))))))) (noNL_app (by decide) (noNL_app (by decide) (noNL_app (noNL_tx h.vt) (by decide))))
/-- the lines of a source -/
def linesS (x : Sr) : List (List UInt8) := x.uses.map uLine ++ x.decls.map dBare
theorem srcParts_lines {x : Sr} (h : OkSr x) : catL (srcParts x) = ((linesS x).map (· ++ [10])).flatten := by
  unfold catL srcParts linesS
  rw [List.map_append, List.map_append]
  simp only [List.map_map]
  congr 1
  congr 1
  · exact List.map_congr_left fun s _ => useB_line s
  · exact List.map_congr_left fun d hd => (dTx_eq (h.dec d hd).len).trans (dTx_line d)
theorem noNL_lines {x : Sr} (h : OkSr x) : ∀ l ∈ linesS x, NoNL l := fun l hl => by
  rcases List.mem_append.1 hl with hl | hl
  · obtain ⟨s, hs, rfl⟩ := List.mem_map.1 hl; exact noNL_use (h.lab s hs)
  · obtain ⟨d, hd, rfl⟩ := List.mem_map.1 hl; exact noNL_decl (h.dec d hd)
theorem index_nl {x r : List UInt8} (h : NoNL x) : Lib.index (x ++ 10 :: r) [10] = (x.length : Int) := by
  rcases index_one_cases (x ++ 10 :: r) 10 with ⟨_, h2⟩ | ⟨i, h1, h2, h3⟩
  · exact absurd (by simp) (h2 x.length)
  · rw [h1]
    rcases Nat.lt_trichotomy i x.length with hi | hi | hi
    · rw [List.getElem?_append_left hi] at h2
      exact absurd (List.mem_of_getElem? h2) h
    · rw [hi]
    · exact absurd (by simp) (h3 x.length hi)
theorem index_none {x : List UInt8} (h : NoNL x) : Lib.index x [10] = -1 := by
  rcases index_one_cases x 10 with ⟨h1, _⟩ | ⟨i, h1, h2, _⟩
  · exact h1
  · exact absurd (List.mem_of_getElem? h2) h
theorem split_lines : ∀ L : List (List UInt8), (∀ x ∈ L, NoNL x) → Lib.count (L.map (· ++ [10])).flatten [10] = L.length ∧ Lib.splitK [10] 0 L.length (L.map (· ++ [10])).flatten = L ++ [[]]
  | [], _ => ⟨Lib.count_miss (index_none List.not_mem_nil), rfl⟩
  | x :: L, h => by
    obtain ⟨h1, h2⟩ := split_lines L fun y hy => h y (by simp [hy])
    have e : ((x :: L).map (· ++ [10])).flatten = x ++ 10 :: (L.map (· ++ [10])).flatten := by simp
    have hi := index_nl (r := (L.map (· ++ [10])).flatten) (h x (by simp))
    have hd : (x ++ 10 :: (L.map (· ++ [10])).flatten).drop (x.length + 1) = (L.map (· ++ [10])).flatten := by
      rw [← List.drop_drop, List.drop_left' rfl]; rfl
    rw [e]
    constructor
    · rw [Lib.count_hit (by simp) hi]
      simp only [List.length_singleton]
      rw [hd, h1, List.length_cons, Nat.add_comm]
    · rw [List.length_cons, Lib.splitK, hi]
      rw [if_neg (by simp)]
      simp only [Int.toNat_natCast, List.length_singleton, Nat.add_zero]
      rw [hd, h2, List.take_left' rfl]
      rfl
theorem sc_uLine {s : ByteArray} (h : labelL s.data.toList = true) (z : List UInt8) : Sc (uLine s) (tkU s) z :=
  .wsp (by decide) ((sc_lab h stop_sp).app (sc_one (by decide) z).sp)
theorem dBare_eq (x : Dc) : dBare x = preW x.doubt wConflict ++ (preW x.pub wPub ++ (kW x.kind ++ ([32] ++ (namesL x.names ++ ([32] ++ (idL x.id ++ ([61] ++ ([32] ++ (tx x.body ++ ([32] ++ [59])))))))))) := by simp [dBare, dHead]
theorem sc_dBare {x : Dc} (h : OkD x) (z : List UInt8) : Sc (dBare x) (tkD x) z := by
  rw [dBare_eq]
  have h5 : Sc ([61] ++ ([32] ++ (tx x.body ++ ([32] ++ [59])))) (sg [61] :: (tkE x.body ++ [sg [59]])) z := .sign one61 (.ex (sc_ex h.vt) (sc_one (by decide) z))
  exact sc_pre (by decide) (sc_pre (by decide) (.wsp (kW_word _) (sc_names h.len h.nm' (sc_id h.id h5))))
end Go.Proofs.YtnphcjpccieljaaGreatDoor

namespace Go.Proofs.YtnphcjpccieljaaGreatDoor
open Go Go.RowKit
section
variable {P : Program} {A : Base P} {σ : St} {g : Gh} {a : Act} {w : World}
theorem opOk_min {o : Oper} {ts : Array TypeId} {p q : Operand} {x y : Int} {k k' : IntKind} (ho : o.op = .call { callee := .builtin .min, args := #[p, q], argTypes := ts }) (hp : σ.eval p = .d (.raw (.int k x))) (hq : σ.eval q = .d (.raw (.int k' y))) :
    OpOk P A o σ σ (.d (.raw (.int k (if y < x then y else x)))) := by
  refine opOk_pure fun g a w hk => ?_
  have e1 := hk.eval p
  have e2 := hk.eval q
  rw [hp] at e1
  rw [hq] at e2
  refine ⟨_, ?_, .d (.raw _)⟩
  simp only [execOp, ho, resolve, invoke, builtin, Sem.run_bind, Sem.run_pure, Result.andThen_ok, List.map_toArray, List.map_cons, List.map_nil, e1.raw_eq, e2.raw_eq, run_min_int2]
end
theorem indexB_c (s : ByteArray) (c : UInt8) : Con Tryz.prog 111 [.d (.raw (.string s)), .d (.raw (.string ⟨#[c]⟩))] (.d (.raw (.int .i64 (Lib.indexByte s.data.toList c)))) := by
  refine ⟨⟨_, Tryz.func111, by decide +kernel, rfl⟩, rfl, fun F w vs hF _ hl hv => ?_⟩
  match vs, hl with
  | [v, v'], _ =>
    have h0 := hv 0 (by simp) (by simp)
    have h1 := hv 1 (by simp) (by simp)
    simp only [List.getElem_cons_zero, List.getElem_cons_succ] at h0 h1
    unfold HasC at h0 h1
    rw [h0.raw_eq, h1.raw_eq]
    exact (Tryz.strings_Index_one s c w).mono fun e w' h' => ⟨_, h'.1, .d (.raw _), h'.2 ▸ Below.refl _ _⟩
theorem countB_c (s : ByteArray) (c : UInt8) : Con Tryz.prog 110 [.d (.raw (.string s)), .d (.raw (.string ⟨#[c]⟩))] (.d (.raw (.int .i64 (Lib.countByte s.data.toList c)))) := by
  refine ⟨⟨_, Tryz.func110, by decide +kernel, rfl⟩, rfl, fun F w vs hF _ hl hv => ?_⟩
  match vs, hl with
  | [v, v'], _ =>
    have h0 := hv 0 (by simp) (by simp)
    have h1 := hv 1 (by simp) (by simp)
    simp only [List.getElem_cons_zero, List.getElem_cons_succ] at h0 h1
    unfold HasC at h0 h1
    rw [h0.raw_eq, h1.raw_eq]
    exact (Tryz.strings_Count_one s c w).mono fun e w' h' => ⟨_, h'.1, .d (.raw _), h'.2 ▸ Below.refl _ _⟩
theorem index_hit {c : UInt8} : ∀ {l : List UInt8}, 0 < l.count c → ∃ i : Nat, Lib.indexByte l c = i ∧ i < l.length ∧ (l.drop (i + 1)).count c + 1 = l.count c
  | [], h => by simp at h
  | b :: l, h => by
    rw [Lib.indexByte]
    by_cases hb : (b == c) = true
    · refine ⟨0, if_pos hb, by simp, ?_⟩
      rw [eq_of_beq hb]; simp
    · have hne : b ≠ c := fun e => hb (by simp [e])
      rw [List.count_cons_of_ne hne] at h ⊢
      obtain ⟨i, h1, h2, h3⟩ := index_hit h
      refine ⟨i + 1, ?_, by simpa using h2, by simpa using h3⟩
      rw [if_neg hb, h1, if_neg (by simp)]; omega
/-- the pieces of a text between a byte -/
def pieces (c : UInt8) (k : Nat) (l : List UInt8) : List ByteArray := (Lib.splitK [c] 0 k l).map bsL
theorem pieces_zero (c : UInt8) (l : List UInt8) : pieces c 0 l = [bsL l] := rfl
theorem pieces_succ {c : UInt8} {k i : Nat} {l : List UInt8} (h : Lib.indexByte l c = i) : pieces c (k + 1) l = bsL (l.take i) :: pieces c k (l.drop (i + 1)) := by
  have h1 : Lib.index l [c] = (i : Int) := by rw [Lib.index_one, h]
  unfold pieces
  rw [Lib.splitK, h1, if_neg (by simp)]
  simp
theorem pieces_length {c : UInt8} : ∀ (k : Nat) (l : List UInt8), l.count c = k → (pieces c k l).length = k + 1
  | 0, l, _ => rfl
  | k + 1, l, h => by
    obtain ⟨i, h1, _, h3⟩ := index_hit (c := c) (l := l) (by omega)
    rw [pieces_succ h1, List.length_cons, pieces_length k _ (by omega)]
abbrev gsSt (c : UInt8) (cnt : Nat) (dn : List ByteArray) (r : ByteArray) : St := ⟨[(0, .d (.raw (.string r))), (1, .d (.raw (.string ⟨#[c]⟩))), (2, .d (.raw (.int .i64 0))), (3, .d (.raw (.int .i64 cnt))), (9, .own 8001 (cnt + 1)), (10, .d (.raw (.int .i64 dn.length)))],
  [(8001, some (.row 1 9 (encS (dn ++ List.replicate (cnt + 1 - dn.length) ⟨#[]⟩))))], []⟩
theorem encS_rep (n : Nat) : encS (List.replicate n ⟨#[]⟩) = List.replicate n [.raw (.string ⟨#[]⟩)] := by simp [encS]
theorem gs_set (cnt : Nat) (dn : List ByteArray) (x : ByteArray) (h : dn.length ≤ cnt) : (encS (dn ++ List.replicate (cnt + 1 - dn.length) ⟨#[]⟩)).set dn.length [.raw (.string x)] = encS ((dn ++ [x]) ++ List.replicate (cnt + 1 - (dn ++ [x]).length) ⟨#[]⟩) := by
  have e : cnt + 1 - dn.length = (cnt - dn.length) + 1 := by omega
  have e2 : cnt + 1 - (dn ++ [x]).length = cnt - dn.length := by simp
  rw [e, e2, ← encS_append, ← encS_append, List.replicate_succ]
  have hl : (encS dn).length = dn.length := encS_length dn
  rw [List.set_append_right _ _ (by omega), hl, Nat.sub_self, ← encS_append]
  simp [encS]
theorem gs_row (cnt : Nat) (dn : List ByteArray) (h : dn.length ≤ cnt) : (encS (dn ++ List.replicate (cnt + 1 - dn.length) ⟨#[]⟩)).getD dn.length [] = [.raw (.string ⟨#[]⟩)] := by
  rw [encS_at _ _ (by simp; omega)]
  simp [List.getElem_append_right, List.getElem_replicate]
set_option maxRecDepth 100000 in
set_option maxHeartbeats 8000000 in
theorem genSplit_c (s : ByteArray) (c : UInt8) (hs : s.size ≤ 1099511627776) : Con Tryz.prog 66 [.d (.raw (.string s)), .d (.raw (.string ⟨#[c]⟩)), .d (.raw (.int .i64 0)), .d (.raw (.int .i64 (-1)))] (.d (.sl (encS (pieces c (s.data.toList.count c) s.data.toList)))) := by
  have hcl : s.data.toList.count c ≤ s.size := List.count_le_length
  have hcc := countB_c s c
  have hpl := pieces_length _ s.data.toList (c := c) rfl
  unfold Lib.countByte at hcc
  obtain ⟨cnt, hcnt⟩ : ∃ cnt, s.data.toList.count c = cnt := ⟨_, rfl⟩
  rw [hcnt] at hcc hcl hpl ⊢
  have kc : decide ((⟨#[c]⟩ : ByteArray) = ⟨#[]⟩) = false := decide_eq_false (fun h => by have := congrArg ByteArray.size h; exact absurd this (by show ¬ (1 = 0); decide))
  have zc : (⟨#[c]⟩ : ByteArray).size = 1 := rfl
  refine con_of Tryz.func66 rfl (by decide +kernel) rfl rfl (by simp [Tryz.ntmps66]) fun A hA => ?_
  rw [Tryz.ntmps66] at hA
  refine goC 300 ?_
  simp only [go_sem, hA, kc]
  refine goCall 28 hcc rfl (by simp only [go_sem]) (by simp only [go_sem, hA]) ?_
  simp only [go_sem, hA]
  refine ⟨by unfold inI64; omega, by unfold inI64; omega, goStep 300 (by simp only [go_sem]) (opOk_min (x := (cnt : Int) + 1) (y := (s.size : Int) + 1) (by rfl) (by rfl) (by rfl)) (by simp only [go_sem, hA]) ?_⟩
  rw [if_neg (by omega)]
  simp only [go_sem, hA]
  have hrep : ∀ n : Nat, (List.replicate n [D.raw (.string ⟨#[]⟩)]) = encS ([] ++ List.replicate n ⟨#[]⟩) := fun n => by rw [List.nil_append, encS_rep]
  refine ⟨by omega, ?_⟩
  refine ⟨by unfold inI64; omega, ?_⟩
  have e1 : (cnt : Int) + 1 - 1 = (cnt : Int) := by omega
  have e2 : ((cnt : Int) + 1).toNat = cnt + 1 := by omega
  rw [e1, e2]
  refine satC_loop [0, 1, 2, 3, 9, 10] [8001] [] (fun y σ => ∃ dn r, dn.length ≤ cnt ∧ r.data.toList.count c = cnt - dn.length ∧ r.size ≤ s.size ∧ pieces c cnt s.data.toList = dn ++ pieces c (cnt - dn.length) r.data.toList ∧ y = cnt - dn.length ∧ σ = gsSt c cnt dn r) cnt ⟨[], s, by simp, by rw [hcnt]; rfl, by omega, rfl, rfl, by simp only [go_sem, gsSt, hrep]; rfl⟩ ?_
  rintro y σ ⟨dn, r, hd, hrc, hrs, hp, rfl, rfl⟩
  by_cases hlt : dn.length < cnt
  · obtain ⟨i, h1, h2, h3⟩ := index_hit (c := c) (l := r.data.toList) (by omega)
    have hrl : r.data.toList.length = r.size := rfl
    have hix := indexB_c r c
    rw [h1] at hix
    have k1 : decide ((dn.length : Int) < (cnt : Int)) = true := decide_eq_true (by omega)
    have k2 : decide ((i : Int) < 0) = false := decide_eq_false (by omega)
    refine goC 300 ?_
    simp only [go_sem, hA, gsSt, k1]
    refine goCall 300 hix rfl (by simp only [go_sem]) (by simp only [go_sem, hA]) ?_
    simp only [go_sem, hA, k2]
    have e3 : ((i : Int) + 0).toNat = i := by omega
    have e4 : ((i : Int) + 1).toNat = i + 1 := by omega
    simp only [e3, e4, Int.toNat_natCast, gs_row cnt dn hd]
    have hlen2 : (encS (dn ++ List.replicate (cnt + 1 - dn.length) ⟨#[]⟩)).length = cnt + 1 := by rw [encS_length]; simp; omega
    refine ⟨by unfold inI64; omega, ⟨by omega, by omega⟩, ⟨by omega, by omega⟩, by omega, by unfold inI64; omega, ⟨by omega, by omega, by omega⟩, by unfold inI64; omega, cnt - (dn.length + 1), by omega, dn ++ [r.extract 0 i], r.extract (i + 1) r.size, by simp; omega, ?_, by simp; omega, ?_, by simp, ?_⟩
    · rw [extract_end]; simp; omega
    · rw [hp, show cnt - dn.length = (cnt - (dn.length + 1)) + 1 by omega, pieces_succ h1, extract_end]
      have e5 : bsL (r.data.toList.take i) = r.extract 0 i := by
        apply ba_inj; rw [extract_list]; simp
      rw [e5]; simp
    · have hset := gs_set cnt dn (r.extract 0 i) hd
      simp only [List.drop_succ_cons, List.drop_zero, hset]
      simp
  · have k1 : decide ((dn.length : Int) < (cnt : Int)) = false := decide_eq_false (by omega)
    obtain rfl : dn.length = cnt := by omega
    refine goC 62 ?_
    simp only [go_sem, hA, gsSt, k1]
    have hlen2 : (encS (dn ++ List.replicate (dn.length + 1 - dn.length) ⟨#[]⟩)).length = dn.length + 1 := by rw [encS_length]; simp
    refine ⟨⟨by omega, by omega⟩, by rw [hlen2]; omega, by unfold inI64; omega, goFrzO 300 8001 ?_⟩
    simp only [go_sem, Int.toNat_natCast, gs_set dn.length dn r (Nat.le_refl _), gs_row dn.length dn (Nat.le_refl _), List.drop_succ_cons, List.drop_zero]
    have heq : encS (dn ++ [r] ++ List.replicate (dn.length + 1 - (dn ++ [r]).length) ⟨#[]⟩) = encS (dn ++ [r]) := by simp
    have hl3 : (encS (dn ++ [r])).length = dn.length + 1 := by rw [encS_length]; simp
    have e4 : ((dn.length : Int) + 1).toNat = dn.length + 1 := by omega
    have hat : (encS (dn ++ [r]))[dn.length]? = some [.raw (.string r)] := by simp [encS]
    have htk : (encS (dn ++ [r])).take (dn.length + 1) = encS (dn ++ [r]) := List.take_of_length_le (by omega)
    have hfin : pieces c dn.length s.data.toList = dn ++ [r] := by
      rw [hp, Nat.sub_self, pieces_zero, bsL_data]
    simp only [heq, hl3, hat, if_true]
    simp only [go_sem, hA, e4, htk, hfin, Tryz.results66]
    exact ⟨encS_row _, by omega, by omega⟩
set_option maxRecDepth 100000 in
theorem split_c (s : ByteArray) (c : UInt8) (hs : s.size ≤ 1099511627776) : Con Tryz.prog 33 [.d (.raw (.string s)), .d (.raw (.string ⟨#[c]⟩))] (.d (.sl (encS (pieces c (s.data.toList.count c) s.data.toList)))) := by
  have hc := genSplit_c s c hs
  refine con_of Tryz.func33 rfl (by decide +kernel) rfl rfl (by simp [Tryz.ntmps33]) fun A hA => ?_
  rw [Tryz.ntmps33] at hA
  refine goC 300 ?_
  simp only [go_sem, hA]
  refine goCall 300 hc rfl (by simp only [go_sem]) (by simp only [go_sem, hA]) ?_
  simp only [go_sem, hA, Tryz.results33]
end Go.Proofs.YtnphcjpccieljaaGreatDoor
