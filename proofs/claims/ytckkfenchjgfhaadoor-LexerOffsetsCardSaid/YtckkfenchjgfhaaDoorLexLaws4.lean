/- Tokens lie in the text at their offsets; between them are separators, and separators are blank lines or comments. -/
import Derived.Test.YtckkfenchjgfhaaDoorLexLaws3
import Derived.Lib.Split
import Derived.Lib.TrimByte
namespace Go.Proofs.YtckkfenchjgfhaaDoor

/-- before a comment only spaces -/
def lineOK (p : List UInt8) : Prop := Lib.trimB (Lib.cut p [35]).1 32 = []
def spacesB (p : List UInt8) : Bool := (p.takeWhile (· != 35)).all (· == 32)

theorem take_first {c : UInt8} : ∀ (l : List UInt8) (i : Nat), (∀ j, j < i → l[j]? ≠ some c) → l[i]? = some c → l.takeWhile (· != c) = l.take i
  | [], i, _, h => by simp at h
  | b :: l, 0, _, h => by simp at h; simp [h]
  | b :: l, i + 1, h1, h => by
    have h2 : b ≠ c := by have := h1 0 (by omega); simpa using this
    have h3 := take_first l i (fun j hj => by have := h1 (j + 1) (by omega); simpa using this) (by simpa using h)
    simp [h2, h3]
theorem take_none {c : UInt8} : ∀ (l : List UInt8), (∀ j : Nat, l[j]? ≠ some c) → l.takeWhile (· != c) = l
  | [], _ => rfl
  | b :: l, h1 => by
    have h2 : b ≠ c := by have := h1 0; simpa using this
    have h3 := take_none l (fun j => by have := h1 (j + 1); simpa using this)
    simp [h2, h3]
theorem occ_one {s : List UInt8} {c : UInt8} {i : Nat} : Lib.occAt s [c] i = true ↔ s[i]? = some c := by
  constructor
  · intro h; exact Lib.occAt_head rfl h
  · intro h
    unfold Lib.occAt
    obtain ⟨h1, h2⟩ := List.getElem?_eq_some_iff.1 h
    rw [List.drop_eq_getElem_cons h1, h2]; simp
/-- the first place of a byte -/
theorem index_one_cases (s : List UInt8) (c : UInt8) : (Lib.index s [c] = -1 ∧ ∀ j : Nat, s[j]? ≠ some c) ∨ ∃ i : Nat, Lib.index s [c] = i ∧ s[i]? = some c ∧ ∀ j, j < i → s[j]? ≠ some c := by
  rcases Lib.index_spec s [c] with ⟨h, h2⟩ | ⟨i, h, h1, h2, h3⟩
  · refine .inl ⟨h, fun j e => ?_⟩
    have hj := (List.getElem?_eq_some_iff.1 e).1
    have := h2 j (by omega)
    rw [occ_one.2 e] at this; cases this
  · refine .inr ⟨i, h, occ_one.1 h2, fun j hj e => ?_⟩
    have := h3 j hj
    rw [occ_one.2 e] at this; simp at this
theorem cut_one (s : List UInt8) (c : UInt8) : (Lib.cut s [c]).1 = s.takeWhile (· != c) := by
  unfold Lib.cut
  rcases index_one_cases s c with ⟨h, h2⟩ | ⟨i, h, h1, h2⟩
  · rw [if_neg (by omega)]; exact (take_none s h2).symm
  · rw [if_pos (by omega), h]; exact (take_first s i h2 h1).symm
theorem drop_all {q : UInt8 → Bool} : ∀ l : List UInt8, (∀ x ∈ l, q x = true) → l.dropWhile q = []
  | [], _ => rfl
  | b :: l, h => by rw [List.dropWhile_cons_of_pos (h b (by simp))]; exact drop_all l fun x hx => h x (by simp [hx])
theorem trim_all {c : UInt8} {l : List UInt8} (h : l.all (· == c) = true) : Lib.trimB l c = [] := by
  unfold Lib.trimB Lib.trimLeftB Lib.trimRightB
  have e : l.reverse.dropWhile (· == c) = [] := by
    exact drop_all _ fun x hx => List.all_eq_true.1 h x (List.mem_reverse.1 hx)
  rw [e]; rfl
theorem line_ok {p : List UInt8} (h : spacesB p = true) : lineOK p := by
  unfold lineOK
  rw [cut_one]
  exact trim_all h
/-- the first line of separators is blank, and separators follow it -/
theorem skip_line : ∀ (l : List UInt8) (b : Bool) (i : Nat), skipGo b l = l.length → (∀ j, j < i → l[j]? ≠ some 10) → (l[i]? = some 10 ∨ l.length ≤ i) → (b = false → spacesB (l.take i) = true) ∧ skipL (l.drop (i + 1)) = (l.drop (i + 1)).length
  | [], b, i, _, _, _ => by simp [spacesB, skipL_nil]
  | c :: r, b, 0, h, _, h2 => by
    have hc : c = 10 := by rcases h2 with h2 | h2 <;> simp at h2; exact h2
    subst hc
    refine ⟨fun _ => by simp [spacesB], ?_⟩
    have := skipGo_le false r
    cases b <;> simp [skipGo] at h <;> simp [skipL] <;> omega
  | c :: r, true, i + 1, h, h1, h2 => by
    have hc : c ≠ 10 := by have := h1 0 (by omega); simpa using this
    have hn : ¬ ((c.toNat : Int) == 10) = true := by
      intro e; apply hc; have e2 : (c.toNat : Int) = 10 := by simpa using e
      apply UInt8.toNat_inj.1; show c.toNat = 10; omega
    rw [skipGo, if_neg hn] at h
    obtain ⟨_, q⟩ := skip_line r true i (by simp at h; omega) (fun j hj => by have := h1 (j + 1) (by omega); simpa using this) (by simpa using h2)
    exact ⟨fun e => (by simp at e), (by simpa using q)⟩
  | c :: r, false, i + 1, h, h1, h2 => by
    have hc : c ≠ 10 := by have := h1 0 (by omega); simpa using this
    have hn : ((c.toNat : Int) == 10) = false := by
      cases q : ((c.toNat : Int) == 10)
      · rfl
      · exfalso; apply hc; have e2 : (c.toNat : Int) = 10 := by simpa using q
        apply UInt8.toNat_inj.1; show c.toNat = 10; omega
    cases q1 : ((c.toNat : Int) == 32)
    · cases q2 : ((c.toNat : Int) == 35)
      · rw [skipGo, if_neg (by simp [q1, hn]), if_neg (by simp [q2])] at h; simp at h
      · rw [skipGo, if_neg (by simp [q1, hn]), if_pos q2] at h
        have e : c = 35 := by have e2 : (c.toNat : Int) = 35 := by simpa using q2
                              apply UInt8.toNat_inj.1; show c.toNat = 35; omega
        obtain ⟨_, q⟩ := skip_line r true i (by simp at h; omega) (fun j hj => by have := h1 (j + 1) (by omega); simpa using this) (by simpa using h2)
        exact ⟨fun _ => by simp [spacesB, e], by simpa using q⟩
    · rw [skipGo, if_pos (by simp [q1])] at h
      have e : c = 32 := by have e2 : (c.toNat : Int) = 32 := by simpa using q1
                            apply UInt8.toNat_inj.1; show c.toNat = 32; omega
      obtain ⟨p, q⟩ := skip_line r false i (by simp at h; omega) (fun j hj => by have := h1 (j + 1) (by omega); simpa using this) (by simpa using h2)
      have p' := p rfl
      refine ⟨fun _ => ?_, by simpa using q⟩
      subst e
      unfold spacesB at p' ⊢
      simp only [List.take_succ_cons]
      rw [List.takeWhile_cons_of_pos (by decide), List.all_cons, p']; rfl
/-- every line of separators is blank -/
theorem skip_lines : ∀ (k : Nat) (l : List UInt8), Lib.count l [10] = k → skipL l = l.length → ∀ p ∈ Lib.splitK [10] 0 k l, lineOK p
  | 0, l, hk, h, p, hp => by
    rcases index_one_cases l 10 with ⟨h1, h2⟩ | ⟨i, h1, _⟩
    · obtain rfl : p = l := by simpa [Lib.splitK] using hp
      have := (skip_line p false p.length h (fun j _ => h2 j) (.inr (Nat.le_refl _))).1 rfl
      rw [List.take_length] at this
      exact line_ok this
    · rw [Lib.count_hit (by simp) h1] at hk; omega
  | k + 1, l, hk, h, p, hp => by
    rcases index_one_cases l 10 with ⟨h1, h2⟩ | ⟨i, h1, h2, h3⟩
    · rw [Lib.count_miss h1] at hk; omega
    · rw [Lib.count_hit (by simp) h1] at hk
      obtain ⟨q1, q2⟩ := skip_line l false i h h3 (.inl h2)
      rw [Lib.splitK, if_neg (by rw [h1]; simp), h1] at hp
      rcases List.mem_cons.1 hp with rfl | hp
      · exact line_ok (q1 rfl)
      · exact skip_lines k _ (by simp at hk ⊢; omega) q2 p hp

/-- the tokens lie in the text, from a place on -/
def Lies (l : List UInt8) : Nat → List Tok → Prop
  | e, [] => e ≤ l.length ∧ skipL (l.drop e) = (l.drop e).length
  | e, t :: ts => ∃ p : Nat, t.pos = p ∧ e ≤ p ∧ p + t.text.length ≤ l.length ∧ TokOK t ∧ (l.drop p).take t.text.length = t.text ∧ skipL ((l.drop e).take (p - e)) = p - e ∧ Lies l (p + t.text.length) ts
theorem scanT_lies (l : List UInt8) : ∀ (f p e : Nat) (acc ts : List Tok), e ≤ p → p ≤ l.length → skipL (l.drop e) = p - e → l.length - p < f → scanT f (l.drop p) p acc = (ts, none) → ∃ us, ts = acc ++ us ∧ Lies l e us
  | 0, p, e, acc, ts, _, _, _, h, _ => by omega
  | f + 1, p, e, acc, ts, h1, h2, h3, h4, h => by
    rcases Nat.eq_zero_or_pos (l.drop p).length with h0 | h0
    · rw [scanT_end h0] at h
      obtain rfl := (Prod.mk.inj h).1
      refine ⟨[], by simp, by omega, ?_⟩
      simp at h0 ⊢; omega
    · cases ho : okNext (l.drop p)
      · rw [scanT_err h0 ho] at h; simp at h
      · rw [scanT_step h0 ho] at h
        have ha := advL_le (l.drop p) h0
        have hn := nextL_le (l.drop p) h0
        have hp := okNext_pos ho
        have had : advL (l.drop p) = (nextL (l.drop p)).2 + skipL ((l.drop p).drop (nextL (l.drop p)).2) := rfl
        rw [List.length_drop] at ha hn
        rw [List.drop_drop] at h
        rw [List.drop_drop] at had
        obtain ⟨us, e1, e2⟩ := scanT_lies l f (p + advL (l.drop p)) (p + (nextL (l.drop p)).2) (acc ++ [tokL (l.drop p) p]) ts (by omega) (by omega) (by omega) (by omega) h
        refine ⟨tokL (l.drop p) p :: us, by rw [e1]; simp, ?_⟩
        have hl : (tokL (l.drop p) p).text.length = (nextL (l.drop p)).2 := by simp [tokL]; omega
        refine ⟨p, rfl, h1, by rw [hl]; omega, ok_tok ho, by rw [hl]; rfl, ?_, by rw [hl]; exact e2⟩
        rw [skipL_take (by omega)]; exact h3
theorem scan_lies {l : List UInt8} {ts : List Tok} (h : scanAll l = (ts, none)) : Lies l 0 ts := by
  obtain ⟨us, rfl, h2⟩ := scanT_lies l (l.length + 1) (skipL l) 0 [] ts (by omega) (skipL_le l) (by simp) (by omega) h
  exact h2
theorem lies_le {l : List UInt8} : ∀ {e : Nat} {ts : List Tok}, Lies l e ts → e ≤ l.length
  | _, [], h => h.1
  | _, _ :: _, ⟨_, _, h1, h2, _⟩ => by omega
end Go.Proofs.YtckkfenchjgfhaaDoor
