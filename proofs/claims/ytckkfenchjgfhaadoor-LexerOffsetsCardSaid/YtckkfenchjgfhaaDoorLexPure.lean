/- The lexer's plain functions on lists of bytes, and their laws: no program is named here. -/
import Derived.Below
import Derived.Lib.Bytealg
import Derived.Lib.Strings
namespace Go.Proofs.YtckkfenchjgfhaaDoor

def isLetter (c : Int) : Bool := decide (97 ≤ c) && decide (c ≤ 122)
def isDigit (c : Int) : Bool := decide (48 ≤ c) && decide (c ≤ 57)
def isRunning (c : Int) : Bool := isLetter c || isDigit c || c == 47
def letterB (c : UInt8) : Bool := isLetter (c.toNat : Int)
def digitB (c : UInt8) : Bool := isDigit (c.toNat : Int)
def alnumB (c : UInt8) : Bool := letterB c || digitB c
def innerB (c : UInt8) : Bool := isRunning (c.toNat : Int)

/-- a word of at most 'most' characters -/
def wordL (most : Nat) (l : List UInt8) : Bool :=
  match l with
  | [] => false
  | c :: r => decide (r.length + 1 ≤ most) && letterB c && r.all alnumB

theorem wordL_true {most : Nat} {l : List UInt8} (h0 : 0 < l.length) (h1 : l.length ≤ most)
    (h : ∀ j (hj : j < l.length), letterB l[j] = true ∨ (j ≠ 0 ∧ digitB l[j] = true)) : wordL most l = true := by
  cases l with
  | nil => simp at h0
  | cons c r =>
    simp only [wordL, Bool.and_eq_true, decide_eq_true_eq, List.all_eq_true]
    refine ⟨⟨by simpa using h1, ?_⟩, fun x hx => ?_⟩
    · have := h 0 (by simp)
      simpa using this
    · obtain ⟨j, hj, rfl⟩ := List.getElem_of_mem hx
      have := h (j + 1) (by simpa using hj)
      simp only [List.getElem_cons_succ] at this
      unfold alnumB
      rcases this with h | ⟨_, h⟩ <;> simp [h]

theorem wordL_false {most : Nat} {l : List UInt8} {j : Nat} (hj : j < l.length) (h1 : letterB l[j] = false) (h2 : j = 0 ∨ digitB l[j] = false) : wordL most l = false := by
  cases l with
  | nil => rfl
  | cons c r =>
    cases j with
    | zero => simp at h1; simp [wordL, h1]
    | succ j =>
      have hj' : j < r.length := by simpa using hj
      simp only [List.getElem_cons_succ] at h1 h2
      have h3 : digitB r[j] = false := by rcases h2 with h | h; · omega
                                          · exact h
      have : r.all alnumB = false := by
        rw [List.all_eq_false]
        exact ⟨r[j], List.getElem_mem _, by simp [alnumB, h1, h3]⟩
      simp [wordL, this]

theorem wordL_long {most : Nat} {l : List UInt8} (h : most < l.length) : wordL most l = false := by
  cases l with
  | nil => rfl
  | cons c r =>
    have : ¬ (r.length + 1 ≤ most) := by simp at h; omega
    simp [wordL, this]
theorem wordL_nil {most : Nat} {l : List UInt8} (h : l.length = 0) : wordL most l = false := by
  cases l with
  | nil => rfl
  | cons c r => simp at h

/-- how many bytes at the beginning belong to a class -/
def runL (p : UInt8 → Bool) (l : List UInt8) : Nat := (l.takeWhile p).length
theorem runL_le (p : UInt8 → Bool) (l : List UInt8) : runL p l ≤ l.length := by
  unfold runL; exact (List.takeWhile_sublist p).length_le
theorem runL_eq {p : UInt8 → Bool} : ∀ {l : List UInt8} {k : Nat}, k ≤ l.length → (∀ j (hj : j < l.length), j < k → p l[j] = true) → (∀ h : k < l.length, p l[k] = false) → runL p l = k := by
  intro l
  induction l with
  | nil => intro k hk _ _; simp at hk; subst hk; rfl
  | cons c r ih =>
    intro k hk h1 h2
    cases k with
    | zero =>
      have := h2 (by simp)
      simp only [List.getElem_cons_zero] at this
      simp [runL, this]
    | succ k =>
      have hc : p c = true := h1 0 (by simp) (by omega)
      have := ih (k := k) (by simpa using hk) (fun j hj hlt => h1 (j + 1) (by simpa using hj) (by omega)) (fun h => by
        have := h2 (by simpa using h)
        simpa using this)
      unfold runL at this ⊢
      simp [hc, this]
def lineB (c : UInt8) : Bool := (c.toNat : Int) != 10

/-- how many bytes at the beginning separate tokens; the first argument: within a comment -/
def skipGo : Bool → List UInt8 → Nat
  | _, [] => 0
  | true, c :: r => if (c.toNat : Int) == 10 then 1 + skipGo false r else 1 + skipGo true r
  | false, c :: r => if (c.toNat : Int) == 32 || (c.toNat : Int) == 10 then 1 + skipGo false r else if (c.toNat : Int) == 35 then 1 + skipGo true r else 0
def skipL (l : List UInt8) : Nat := skipGo false l
theorem skipGo_le : ∀ (b : Bool) (l : List UInt8), skipGo b l ≤ l.length
  | _, [] => by cases ‹Bool› <;> simp [skipGo]
  | true, c :: r => by
    have h1 := skipGo_le false r
    have h2 := skipGo_le true r
    simp only [skipGo, List.length_cons]; split <;> omega
  | false, c :: r => by
    have h1 := skipGo_le false r
    have h2 := skipGo_le true r
    simp only [skipGo, List.length_cons]; repeat' split
    all_goals omega
theorem skipL_le (l : List UInt8) : skipL l ≤ l.length := skipGo_le false l
theorem skipL_nil : skipL [] = 0 := rfl
theorem skipL_blank {c : UInt8} {r : List UInt8} (h : ((c.toNat : Int) == 32) = true ∨ ((c.toNat : Int) == 10) = true) : skipL (c :: r) = 1 + skipL r := by
  unfold skipL; rw [skipGo, if_pos]; rcases h with h | h <;> simp [h]
theorem skipL_stop {c : UInt8} {r : List UInt8} (h1 : ((c.toNat : Int) == 32) = false) (h2 : ((c.toNat : Int) == 10) = false) (h3 : ((c.toNat : Int) == 35) = false) : skipL (c :: r) = 0 := by
  unfold skipL; rw [skipGo, if_neg (by simp [h1, h2]), if_neg (by simp [h3])]
theorem skipGo_line : ∀ r : List UInt8, skipGo true r = runL lineB r + skipL (r.drop (runL lineB r))
  | [] => rfl
  | c :: r => by
    by_cases h : ((c.toNat : Int) == 10) = true
    · have h' : lineB c = false := by simp only [lineB, bne, h]; rfl
      have e : runL lineB (c :: r) = 0 := by simp [runL, h']
      rw [e, skipGo, if_pos h]
      simp only [List.drop_zero, Nat.zero_add]
      rw [skipL_blank (.inr h)]; rfl
    · have h' : lineB c = true := by simp only [lineB, bne, Bool.eq_false_iff.2 h]; rfl
      have e : runL lineB (c :: r) = 1 + runL lineB r := by simp [runL, h']; omega
      rw [skipGo, if_neg h, skipGo_line r, e, Nat.add_comm 1 (runL lineB r), List.drop_succ_cons]; omega
theorem skipL_hash {c : UInt8} {r : List UInt8} (h1 : ((c.toNat : Int) == 32) = false) (h2 : ((c.toNat : Int) == 10) = false) (h3 : ((c.toNat : Int) == 35) = true) :
    skipL (c :: r) = runL lineB (c :: r) + skipL ((c :: r).drop (runL lineB (c :: r))) := by
  rw [← skipGo_line, skipGo, if_neg (by simp [h2]), skipL, skipGo, if_neg (by simp [h1, h2]), if_pos h3]
theorem runL_pos {p : UInt8 → Bool} {c : UInt8} {r : List UInt8} (h : p c = true) : 0 < runL p (c :: r) := by simp [runL, h]

def onesL : List UInt8 := [40, 41, 61, 43, 45, 42, 60, 124, 46, 59, 64]
/-- the number of bytes of the longest sign at the beginning -/
def signL (l : List UInt8) : Nat :=
  if Lib.hasPrefix l [45, 62] || (Lib.hasPrefix l [58, 58] || Lib.hasPrefix l [124, 124]) then 2
  else match l with
    | [] => 0
    | c :: _ => if decide (0 ≤ Lib.indexByte onesL c) then 1 else 0
/-- the digits of a number, without its sign -/
def numCore (l : List UInt8) : Bool := decide (1 ≤ l.length) && decide (l.length ≤ 9) && !((l.head?.getD 0).toNat == 48 && decide (1 < l.length)) && l.all digitB
def numberL (l : List UInt8) : Bool :=
  if Lib.hasPrefix l [45] then numCore l.tail && !((l.tail.head?.getD 0).toNat == 48) else numCore l
/-- the parts between the slashes -/
def partsL : List UInt8 → List (List UInt8)
  | [] => [[]]
  | c :: r => if c == 47 then [] :: partsL r else match partsL r with
    | p :: ps => (c :: p) :: ps
    | [] => [[c]]
def labelL (l : List UInt8) : Bool := decide (l.length ≤ 90) && (partsL l).all (wordL 20)
theorem partsL_ne (l : List UInt8) : partsL l ≠ [] := by
  cases l with
  | nil => simp [partsL]
  | cons c r => unfold partsL; repeat' split
                all_goals simp
theorem partsL_none {l : List UInt8} (h : Lib.indexByte l 47 = -1) : partsL l = [l] := by
  induction l with
  | nil => rfl
  | cons c r ih =>
    unfold Lib.indexByte at h
    by_cases hc : (c == 47) = true
    · simp [hc] at h
    · rw [if_neg hc] at h
      by_cases hr : (Lib.indexByte r 47 == -1) = true
      · have := ih (by simpa using hr)
        rw [partsL, if_neg hc, this]
      · rw [if_neg hr] at h
        have := Lib.indexByte_ge r 47
        exfalso; apply hr; simp; omega
theorem partsL_some : ∀ {l : List UInt8} {i : Nat}, Lib.indexByte l 47 = (i : Int) → i < l.length ∧ partsL l = l.take i :: partsL (l.drop (i + 1)) := by
  intro l
  induction l with
  | nil => intro i h; simp [Lib.indexByte] at h
  | cons c r ih =>
    intro i h
    unfold Lib.indexByte at h
    by_cases hc : (c == 47) = true
    · rw [if_pos hc] at h
      obtain rfl : i = 0 := by omega
      refine ⟨by simp, ?_⟩
      rw [partsL, if_pos hc]; rfl
    · rw [if_neg hc] at h
      by_cases hr : (Lib.indexByte r 47 == -1) = true
      · rw [if_pos hr] at h; omega
      · rw [if_neg hr] at h
        cases i with
        | zero => have := Lib.indexByte_ge r 47; exfalso; apply hr; simp; omega
        | succ i =>
          obtain ⟨h1, h2⟩ := ih (i := i) (by omega)
          refine ⟨by simpa using h1, ?_⟩
          rw [partsL, if_neg hc, h2]
          simp
def hasSlash (l : List UInt8) : Bool := decide ((0 : Int) ≤ Lib.indexByte l 47)
/-- whether a text fits a kind -/
def textL (k : Int) (l : List UInt8) : Bool :=
  if k == 1 then wordL 24 l else if k == 2 then labelL l && hasSlash l else if k == 3 then numberL l else decide (0 < l.length) && signL l == l.length
def checkL (k : Int) (l : List UInt8) (p : Int) : Int :=
  if k < 1 ∨ 4 < k then 9 else if textL k l then (if p < 0 then 2 else 0) else 3
theorem checkL_kind {k p : Int} {l : List UInt8} (h : k < 1 ∨ 4 < k) : checkL k l p = 9 := by unfold checkL; rw [if_pos h]
theorem checkL_text {k p : Int} {l : List UInt8} (h1 : 1 ≤ k) (h2 : k ≤ 4) (h : textL k l = false) : checkL k l p = 3 := by
  unfold checkL; rw [if_neg (by omega), if_neg (by simp [h])]
theorem checkL_at {k p : Int} {l : List UInt8} (h1 : 1 ≤ k) (h2 : k ≤ 4) (h : textL k l = true) (hp : p < 0) : checkL k l p = 2 := by
  unfold checkL; rw [if_neg (by omega), if_pos h, if_pos hp]
theorem checkL_ok {k p : Int} {l : List UInt8} (h1 : 1 ≤ k) (h2 : k ≤ 4) (h : textL k l = true) (hp : ¬ p < 0) : checkL k l p = 0 := by
  unfold checkL; rw [if_neg (by omega), if_pos h, if_neg hp]
theorem textL_1 (l : List UInt8) : textL 1 l = wordL 24 l := rfl
theorem textL_2 (l : List UInt8) : textL 2 l = (labelL l && hasSlash l) := rfl
theorem textL_3 (l : List UInt8) : textL 3 l = numberL l := rfl
theorem textL_4 (l : List UInt8) : textL 4 l = (decide (0 < l.length) && signL l == l.length) := rfl
end Go.Proofs.YtckkfenchjgfhaaDoor
