/- Texts of this proof, part 23: what the proof uses of them. -/
import Derived.Test.YtnnolijagpakiaaGreatDoorRao
import Derived.Test.YtnnolijagpakiaaGreatDoorRap
import Derived.Test.YtnnolijagpakiaaGreatDoorRav
namespace Go.Proofs.YtnnolijagpakiaaGreatDoor
open Go Go.RowKit
inductive VT : Ex → Prop
 | int (i : Int) : -999999999 ≤ i → i ≤ 999999999 → VT (.mk 1 ⟨#[]⟩ ⟨#[]⟩ i 0 [])
 | bool (i : Int) : i = 0 ∨ i = 1 → VT (.mk 2 ⟨#[]⟩ ⟨#[]⟩ i 0 [])
 | var (n : ByteArray) : nameB n = true → VT (.mk 3 n ⟨#[]⟩ 0 0 [])
 | dot (n m : ByteArray) : nameB n = true → nameB m = true → VT (.mk 4 n m 0 0 [])
 | fn (n : ByteArray) (a : Ex) : nameB n = true → VT a → VT (.mk 6 n ⟨#[]⟩ 0 0 [a])
 | call (a b : Ex) : VT a → VT b → VT (.mk 7 ⟨#[]⟩ ⟨#[]⟩ 0 0 [a, b])
 | letx (n : ByteArray) (a b : Ex) : nameB n = true → VT a → VT b → VT (.mk 8 n ⟨#[]⟩ 0 0 [a, b])
 | ifx (a b c : Ex) : VT a → VT b → VT c → VT (.mk 9 ⟨#[]⟩ ⟨#[]⟩ 0 0 [a, b, c])
 | op (n : ByteArray) (a b : Ex) : hasB opNames n = true → VT a → VT b → VT (.mk 10 n ⟨#[]⟩ 0 0 [a, b])
 | nil : VT (.mk 11 ⟨#[]⟩ ⟨#[]⟩ 0 0 [])
 | cons (a b : Ex) : VT a → VT b → VT (.mk 12 ⟨#[]⟩ ⟨#[]⟩ 0 0 [a, b])
 | casex (n m : ByteArray) (a b c : Ex) : nameB n = true → nameB m = true → n ≠ m → VT a → VT b → VT c → VT (.mk 13 n m 0 0 [a, b, c])
 | chance (i d : Int) : 1 ≤ d → d ≤ 999999 → 0 ≤ i → i ≤ d → VT (.mk 14 ⟨#[]⟩ ⟨#[]⟩ i d [])
 | sum (a b c : Ex) : VT a → VT b → VT c → VT (.mk 15 ⟨#[]⟩ ⟨#[]⟩ 0 0 [a, b, c])
theorem ba_empty {s : ByteArray} (h : s.size = 0) : s = ⟨#[]⟩ := by
 apply ba_inj
 have h1 : s.data.toList.length = 0 := h
 exact List.eq_nil_of_length_eq_zero h1
theorem checkEs_all : ∀ {l : List Ex}, checkEs l = 0 → ∀ x ∈ l, checkE x = 0
 | e :: es, h, x, hx => by
  obtain ⟨h1, h2⟩ := checkE_cons h
  rcases List.mem_cons.1 hx with rfl | hx
  ·exact h1
  ·exact checkEs_all h2 x hx
theorem kindsL_all {k : Int} : ∀ {l : List Ex}, kindsL k l = false → ∀ x ∈ l, kindsE k x = false
 | e :: es, h, x, hx => by
  simp only [kindsL, Bool.or_eq_false_iff] at h
  rcases List.mem_cons.1 hx with rfl | hx
  ·exact h.1
  ·exact kindsL_all h.2 x hx
theorem nodesL_all : ∀ {l : List Ex}, ∀ x ∈ l, nodesE x ≤ nodesL l
 | e :: es, x, hx => by
  rw [nodesL]
  rcases List.mem_cons.1 hx with rfl | hx
  ·omega
  ·have := nodesL_all x hx; omega
set_option maxHeartbeats 4000000 in
theorem vt_of (N : Nat) : ∀ t : Ex, nodesE t < N → checkE t = 0 → kindsE 5 t = false → VT t := by
 induction N with
 | zero => intro t h; omega
 | succ N ih =>
  intro t hN h h5
  obtain ⟨k, n, m, i, d, s⟩ := t
  obtain ⟨h1, h2⟩ := checkE_mk h
  obtain ⟨nn, nu, ns, hs, ha, hn, he, hr⟩ := checkN_zero h1
  simp only [kindsE, Bool.or_eq_false_iff, decide_eq_false_iff_not] at h5
  simp only [argOk, Bool.and_eq_true, Bool.or_eq_true, decide_eq_true_eq] at ha
  obtain ⟨⟨⟨⟨ha1, ha2⟩, ha3⟩, ha4⟩, ha5⟩ := ha
  rw [nodesE] at hN
  have hv : ∀ x ∈ s, VT x := fun x hx => ih x (by have := nodesL_all x hx; omega) (checkEs_all h2 x hx) (kindsL_all h5.2 x hx)
  simp only [namedB, Bool.and_eq_true, Bool.or_eq_true, Bool.not_eq_true', decide_eq_false_iff_not] at hn
  rcases shapeK_cases hs with ⟨rfl, e⟩ | ⟨rfl, e⟩ | ⟨rfl, e⟩ | ⟨rfl, e⟩ | ⟨rfl, e⟩ | ⟨rfl, e⟩ | ⟨rfl, e⟩ | ⟨rfl, e⟩ | ⟨rfl, e⟩ | ⟨rfl, e⟩ | ⟨rfl, e⟩ | ⟨rfl, e⟩ | ⟨rfl, e⟩ | ⟨rfl, e⟩ | ⟨rfl, e⟩ <;> cases e <;>
   simp only [okName, Int.reduceEq, if_false, if_true, Nat.reduceLeDiff, decide_true, decide_false, Bool.not_true, Bool.not_false, Bool.false_or, Bool.true_or, rangedB, Bool.and_eq_true, Bool.or_eq_true, decide_eq_true_eq, false_or, not_true_eq_false, true_or, not_false_eq_true, true_and] at ha1 ha2 ha3 ha4 hn hr
  ·obtain rfl := ba_empty ha1; obtain rfl := ba_empty ha2; subst ha4
   obtain rfl := List.eq_nil_of_length_eq_zero ha5
   exact .int i hr.1 hr.2
  ·obtain rfl := ba_empty ha1; obtain rfl := ba_empty ha2; subst ha4
   obtain rfl := List.eq_nil_of_length_eq_zero ha5
   exact .bool i hr
  ·obtain rfl := ba_empty ha2; subst ha3 ha4
   obtain rfl := List.eq_nil_of_length_eq_zero ha5
   exact .var n hn
  ·subst ha3 ha4
   obtain rfl := List.eq_nil_of_length_eq_zero ha5
   exact .dot n m hn.2 hn.1
  ·exact absurd rfl h5.1
  ·obtain rfl := ba_empty ha2; subst ha3 ha4
   match s, ha5 with
   | [a], _ => exact .fn n a hn (hv a (by simp))
  ·obtain rfl := ba_empty ha1; obtain rfl := ba_empty ha2; subst ha3 ha4
   match s, ha5 with
   | [a, b], _ => exact .call a b (hv a (by simp)) (hv b (by simp))
  ·obtain rfl := ba_empty ha2; subst ha3 ha4
   match s, ha5 with
   | [a, b], _ => exact .letx n a b hn (hv a (by simp)) (hv b (by simp))
  ·obtain rfl := ba_empty ha1; obtain rfl := ba_empty ha2; subst ha3 ha4
   match s, ha5 with
   | [a, b, c], _ => exact .ifx a b c (hv a (by simp)) (hv b (by simp)) (hv c (by simp))
  ·obtain rfl := ba_empty ha2; subst ha3 ha4
   match s, ha5 with
   | [a, b], _ => exact .op n a b hn (hv a (by simp)) (hv b (by simp))
  ·obtain rfl := ba_empty ha1; obtain rfl := ba_empty ha2; subst ha3 ha4
   obtain rfl := List.eq_nil_of_length_eq_zero ha5
   exact .nil
  ·obtain rfl := ba_empty ha1; obtain rfl := ba_empty ha2; subst ha3 ha4
   match s, ha5 with
   | [a, b], _ => exact .cons a b (hv a (by simp)) (hv b (by simp))
  ·subst ha3 ha4
   match s, ha5 with
   | [a, b, c], _ => exact .casex n m a b c hn.2 hn.1 (fun e => he ⟨rfl, e⟩) (hv a (by simp)) (hv b (by simp)) (hv c (by simp))
  ·obtain rfl := ba_empty ha1; obtain rfl := ba_empty ha2
   obtain rfl := List.eq_nil_of_length_eq_zero ha5
   exact .chance i d hr.1.1.1 hr.1.1.2 hr.1.2 hr.2
  ·obtain rfl := ba_empty ha1; obtain rfl := ba_empty ha2; subst ha3 ha4
   match s, ha5 with
   | [a, b, c], _ => exact .sum a b c (hv a (by simp)) (hv b (by simp)) (hv c (by simp))
theorem vt_X {t : Ex} (h : checkX t = 0) (h5 : kindsE 5 t = false) : VT t := vt_of _ t (Nat.lt_succ_self _) (checkX_E h).1 h5
abbrev KT := Int × List UInt8
abbrev wd (s : List UInt8) : KT := (1, s)
abbrev sg (s : List UInt8) : KT := (4, s)
abbrev nmT (s : ByteArray) : KT := (1, s.data.toList)
abbrev nuT (i : Int) : KT := (3, Lib.itoa i)
def atT (l : List (List KT)) (i : Nat) : List KT := l.getD i []
def wFun : List UInt8 := [102, 117, 110]
def wLet : List UInt8 := [108, 101, 116]
def wIn : List UInt8 := [105, 110]
def wIf : List UInt8 := [105, 102]
def wThen : List UInt8 := [116, 104, 101, 110]
def wElse : List UInt8 := [101, 108, 115, 101]
def wCase : List UInt8 := [99, 97, 115, 101]
def wOf : List UInt8 := [111, 102]
def wNil : List UInt8 := [110, 105, 108]
def wChance : List UInt8 := [99, 104, 97, 110, 99, 101]
def wConflict : List UInt8 := [99, 111, 110, 102, 108, 105, 99, 116]
def wTrue : List UInt8 := [116, 114, 117, 101]
def wFalse : List UInt8 := [102, 97, 108, 115, 101]
def nodeToks (k : Int) (n m : ByteArray) (i d : Int) (l : List (List KT)) : List KT :=
 if k = 1 then [nuT i]
 else if k = 2 then [wd (if i = 1 then wTrue else wFalse)]
 else if k = 3 then [nmT n]
 else if k = 4 then [nmT n, sg [46], nmT m]
 else if k = 6 then sg [40] :: wd wFun :: nmT n :: sg [45, 62] :: (atT l 0 ++ [sg [41]])
 else if k = 7 then sg [40] :: (atT l 0 ++ (atT l 1 ++ [sg [41]]))
 else if k = 8 then sg [40] :: wd wLet :: nmT n :: sg [61] :: (atT l 0 ++ wd wIn :: (atT l 1 ++ [sg [41]]))
 else if k = 9 then sg [40] :: wd wIf :: (atT l 0 ++ wd wThen :: (atT l 1 ++ wd wElse :: (atT l 2 ++ [sg [41]])))
 else if k = 10 then sg [40] :: (atT l 0 ++ sg n.data.toList :: (atT l 1 ++ [sg [41]]))
 else if k = 12 then sg [40] :: (atT l 0 ++ sg [58, 58] :: (atT l 1 ++ [sg [41]]))
 else if k = 13 then sg [40] :: wd wCase :: (atT l 0 ++ wd wOf :: wd wNil :: sg [45, 62] :: (atT l 1 ++ sg [124] :: nmT n :: sg [58, 58] :: nmT m :: sg [45, 62] :: (atT l 2 ++ [sg [41]])))
 else if k = 14 then [sg [40], wd wChance, nuT i, wd wOf, nuT d, sg [41]]
 else if k = 15 then sg [40] :: wd wConflict :: (atT l 0 ++ sg [124, 124] :: (atT l 1 ++ sg [124, 124] :: (atT l 2 ++ [sg [41]])))
 else [wd wNil]
mutual
def tkE : Ex → List KT
 | .mk k n m i d s => nodeToks k n m i d (tkL s)
def tkL : List Ex → List (List KT)
 | [] => []
 | e :: es => tkE e :: tkL es
end
def Stop (z : List UInt8) : Prop := ∀ c q, z = c :: q → innerB c = false
theorem stop_cons {c : UInt8} {q : List UInt8} (h : innerB c = false) : Stop (c :: q) := fun _ _ e => by cases e; exact h
def Sc (s : List UInt8) (ts : List KT) (z : List UInt8) : Prop :=
 ∀ f p acc, (s ++ z).length < f → ∃ us g q, us.map kt = ts ∧ z.length < g ∧ scanT f ((s ++ z).drop (skipL (s ++ z))) p acc = scanT g (z.drop (skipL z)) q (acc ++ us)
theorem Sc.app {s1 s2 z : List UInt8} {t1 t2 : List KT} (h1 : Sc s1 t1 (s2 ++ z)) (h2 : Sc s2 t2 z) : Sc (s1 ++ s2) (t1 ++ t2) z := by
 intro f p acc hf
 rw [List.append_assoc] at hf ⊢
 obtain ⟨u1, g1, q1, e1, l1, r1⟩ := h1 f p acc hf
 obtain ⟨u2, g2, q2, e2, l2, r2⟩ := h2 g1 q1 (acc ++ u1) l1
 exact ⟨u1 ++ u2, g2, q2, by rw [List.map_append, e1, e2], l2, by rw [r1, r2, List.append_assoc]⟩
theorem Sc.nil (z : List UInt8) : Sc [] [] z := fun f p acc hf => ⟨[], f, p, rfl, hf, by rw [List.nil_append, List.append_nil]⟩
theorem sc_blank {c : UInt8} (h : c = 32 ∨ c = 10) (z : List UInt8) : Sc [c] [] z := fun f p acc hf => by
 refine ⟨[], f, p, rfl, by simp at hf; omega, ?_⟩
 have h1 : skipL (c :: z) = 1 + skipL z := skipL_blank (by rcases h with rfl | rfl <;> simp)
 rw [List.singleton_append, h1, Nat.add_comm, List.drop_succ_cons, List.append_nil]
theorem sc_tok {t : LTok} {z : List UInt8} (ht : TokOK t) (hn : nextL (t.text ++ z) = (t.kind, t.text.length)) : Sc t.text [kt t] z := fun f p acc hf => by
 have h0 := tok_head ht z
 rw [h0, List.drop_zero]
 have hp := tok_pos ht
 cases f with
 | zero => omega
 | succ f =>
  have ho : okNext (t.text ++ z) = true := by
   unfold okNext
   rw [hn, List.take_left' rfl, checkL_ok ht.1 ht.2.1 ht.2.2 (by omega)]; rfl
  have ha : advL (t.text ++ z) = t.text.length + skipL z := by
   unfold advL; rw [hn]
   simp only [List.drop_left']
  rw [scanT_step (by simp; omega) ho, ha, ← List.drop_drop, List.drop_left' rfl]
  refine ⟨[tokL (t.text ++ z) p], f, _, ?_, ?_, rfl⟩
  ·simp [tokL, hn, kt]
  ·simp only [List.length_append] at hf; omega
theorem sc_word {l z : List UInt8} (h : wordL 24 l = true) (hz : Stop z) : Sc l [wd l] z := by
 obtain ⟨c, q, e, hl, ha⟩ := wordL_cons h
 have hrun : runL innerB (l ++ z) = l.length := runL_all (alnum_inner ha) hz
 refine sc_tok (t := ⟨1, l, 0⟩) ⟨by show (1:Int) ≤ 1; decide, by show (1:Int) ≤ 4; decide, h⟩ ?_
 show nextL (l ++ z) = (1, l.length)
 unfold nextL
 rw [hrun, List.take_left' rfl, if_pos (by rw [e]; exact hl), alnum_noSlash ha]; rfl
theorem sc_label {l z : List UInt8} (h : labelL l = true) (hs : hasSlash l = true) (hz : Stop z) : Sc l [(2, l)] z := by
 have hp : (partsL l).all (wordL 20) = true := by
  unfold labelL at h; rw [Bool.and_eq_true] at h; exact h.2
 obtain ⟨ha, c, q, e, hl⟩ := parts_inner l hp
 have hrun : runL innerB (l ++ z) = l.length := runL_all ha hz
 refine sc_tok (t := ⟨2, l, 0⟩) ⟨by show (1:Int) ≤ 2; decide, by show (2:Int) ≤ 4; decide, by show textL 2 l = true; rw [textL_2, h, hs]; rfl⟩ ?_
 show nextL (l ++ z) = (2, l.length)
 unfold nextL
 rw [hrun, List.take_left' rfl, if_pos (by rw [e]; exact hl), hs]; rfl
theorem sc_number {l z : List UInt8} (h : numberL l = true) (hz : Stop z) : Sc l [(3, l)] z := by
 refine sc_tok (t := ⟨3, l, 0⟩) ⟨by show (1:Int) ≤ 3; decide, by show (3:Int) ≤ 4; decide, h⟩ ?_
 show nextL (l ++ z) = (3, l.length)
 unfold numberL at h
 by_cases hp : Lib.hasPrefix l [45] = true
 ·rw [if_pos hp, Bool.and_eq_true] at h
  cases l with
  | nil => simp [Lib.hasPrefix] at hp
  | cons c q =>
   obtain rfl : 45 = c := by simpa [Lib.hasPrefix] using hp
   simp only [List.tail_cons] at h
   obtain ⟨hq, hd⟩ := numCore_all h.1
   cases q with
   | nil => simp at hq
   | cons d q =>
    simp only [List.all_cons, Bool.and_eq_true] at hd
    have hrun : runL innerB ((d :: q) ++ z) = (d :: q).length := runL_all (digits_inner (by simp [hd.1, hd.2])) hz
    rw [nextL_isNum rfl (by simp [hd.1])]
    rw [List.cons_append] at hrun
    simp only [List.cons_append, List.tail_cons]
    rw [hrun]; simp; omega
 ·rw [if_neg hp] at h
  obtain ⟨hq, hd⟩ := numCore_all h
  cases l with
  | nil => simp at hq
  | cons c q =>
   simp only [List.all_cons, Bool.and_eq_true] at hd
   have hrun : runL innerB (q ++ z) = q.length := runL_all (digits_inner hd.2) hz
   rw [nextL_isNum (by simp [digit_not_letter hd.1]) (by simp [hd.1])]
   simp only [List.cons_append, List.tail_cons]
   rw [hrun]; simp; omega
theorem sc_one {c : UInt8} (h : c = 40 ∨ c = 41 ∨ c = 61 ∨ c = 43 ∨ c = 42 ∨ c = 60 ∨ c = 46 ∨ c = 59 ∨ c = 64) (z : List UInt8) : Sc [c] [sg [c]] z := by
 have hs : signL (c :: z) = 1 := by
  rw [signL_def, if_neg, List.head?_cons]
  ·rcases h with rfl | rfl | rfl | rfl | rfl | rfl | rfl | rfl | rfl <;> rfl
  ·rcases h with rfl | rfl | rfl | rfl | rfl | rfl | rfl | rfl | rfl <;> simp [Lib.hasPrefix]
 refine sc_tok (t := ⟨4, [c], 0⟩) ⟨by show (1:Int) ≤ 4; decide, by show (4:Int) ≤ 4; decide, ?_⟩ ?_
 ·rcases h with rfl | rfl | rfl | rfl | rfl | rfl | rfl | rfl | rfl <;> rfl
 ·show nextL (c :: z) = (4, 1)
  rw [nextL_isSign, hs]
  ·rcases h with rfl | rfl | rfl | rfl | rfl | rfl | rfl | rfl | rfl <;> rfl
  ·simp only [List.head?_cons, Option.getD_some, List.tail_cons]
   rcases h with rfl | rfl | rfl | rfl | rfl | rfl | rfl | rfl | rfl <;> simp [digitB, isDigit]
theorem sc_two {a b : UInt8} (h : (a = 45 ∧ b = 62) ∨ (a = 58 ∧ b = 58) ∨ (a = 124 ∧ b = 124)) (z : List UInt8) : Sc [a, b] [sg [a, b]] z := by
 refine sc_tok (t := ⟨4, [a, b], 0⟩) ⟨by show (1:Int) ≤ 4; decide, by show (4:Int) ≤ 4; decide, ?_⟩ ?_
 ·rcases h with ⟨rfl, rfl⟩ | ⟨rfl, rfl⟩ | ⟨rfl, rfl⟩ <;> rfl
 ·show nextL (a :: b :: z) = (4, 2)
  rw [nextL_isSign, signL_two' h]
  ·rcases h with ⟨rfl, rfl⟩ | ⟨rfl, rfl⟩ | ⟨rfl, rfl⟩ <;> rfl
  ·rcases h with ⟨rfl, rfl⟩ | ⟨rfl, rfl⟩ | ⟨rfl, rfl⟩ <;> simp [digitB, isDigit]
theorem sc_sign {c : UInt8} (h : (0 : Int) ≤ Lib.indexByte onesL c) (z : List UInt8) : Sc [c] [sg [c]] (32 :: z) := by
 have h1 : textL 4 [c] = true := by
  rcases ones_cases h with rfl | rfl | rfl | rfl | rfl | rfl | rfl | rfl | rfl | rfl | rfl <;> rfl
 have ht : TokOK ⟨4, [c], 0⟩ := ⟨by show (1:Int) ≤ 4; decide, by show (4:Int) ≤ 4; decide, h1⟩
 exact sc_tok ht (next_of_tok ht (.inr ⟨32, z, rfl, .inl rfl⟩))
end Go.Proofs.YtnnolijagpakiaaGreatDoor
namespace Go.Proofs.YtnnolijagpakiaaGreatDoor
open Go Go.RowKit
def valD (l : List UInt8) : Nat := l.foldl (fun a c => 10 * a + (c.toNat - 48)) 0
theorem valD_snoc (l : List UInt8) (c : UInt8) : valD (l ++ [c]) = 10 * valD l + (c.toNat - 48) := by simp [valD]
def numV (l : List UInt8) : Int := if l.head? = some 45 then -(valD l.tail : Int) else valD l
theorem dig_of (n : Nat) (h : n < 10) : digitB (UInt8.ofNat (48 + n)) = true ∧ (UInt8.ofNat (48 + n)).toNat = 48 + n ∧ UInt8.ofNat (48 + n) ≠ 45 := by
 have : ∀ n : Fin 10, digitB (UInt8.ofNat (48 + n.val)) = true ∧ (UInt8.ofNat (48 + n.val)).toNat = 48 + n.val ∧ UInt8.ofNat (48 + n.val) ≠ 45 := by decide
 exact this ⟨n, h⟩
structure DecOK (n : Nat) : Prop where
 dig : (Lib.decDigits n).all digitB = true
 pos : ∃ c q, Lib.decDigits n = c :: q ∧ c ≠ 45 ∧ (0 < n → c.toNat ≠ 48)
 len : ∀ k, 1 ≤ k → n < 10 ^ k → (Lib.decDigits n).length ≤ k
 val : valD (Lib.decDigits n) = n
theorem dec_ok (N : Nat) : ∀ n, n < N → DecOK n := by
 induction N with
 | zero => intro n h; omega
 | succ N ih =>
  intro n hN
  by_cases h : n < 10
  ·obtain ⟨h1, h2, h3⟩ := dig_of n h
   have e := Lib.decDigits_one h
   refine ⟨by rw [e, List.all_cons, h1]; rfl, ⟨_, [], e, h3, fun h0 => by rw [h2]; omega⟩, fun k hk _ => by rw [e]; exact hk, ?_⟩
   rw [e, show [UInt8.ofNat (48 + n)] = [] ++ [UInt8.ofNat (48 + n)] from rfl, valD_snoc, h2]; show 10 * 0 + (48 + n - 48) = n; omega
  ·have e : Lib.decDigits n = Lib.decDigits (n / 10) ++ [UInt8.ofNat (48 + n % 10)] := by rw [Lib.decDigits, dif_neg h]
   obtain ⟨i1, ⟨c, q, i2, i3, i4⟩, i5, i6⟩ := ih (n / 10) (by omega)
   obtain ⟨h1, h2, h3⟩ := dig_of (n % 10) (by omega)
   refine ⟨by rw [e]; simp only [List.all_append, i1, List.all_cons, h1, List.all_nil, Bool.and_self], ⟨c, q ++ [UInt8.ofNat (48 + n % 10)], by rw [e, i2]; rfl, i3, fun _ => i4 (by omega)⟩, fun k hk hlt => ?_, ?_⟩
   ·rw [e, List.length_append]
    have hk2 : 2 ≤ k := by
     rcases Nat.lt_or_ge k 2 with h | h
     ·obtain rfl : k = 1 := by omega
      omega
     ·exact h
    obtain ⟨j, rfl⟩ : ∃ j, k = j + 1 := ⟨k - 1, by omega⟩
    have hp : n / 10 < 10 ^ j := by rw [Nat.pow_succ] at hlt; omega
    have := i5 j (by omega) hp
    simp only [List.length_cons, List.length_nil]; omega
   ·rw [e, valD_snoc, i6, h2]; omega
theorem dec_core {n : Nat} (h : n < 1000000000) : numCore (Lib.decDigits n) = true := by
 obtain ⟨h1, ⟨c, q, e, _, h3⟩, h5, _⟩ := dec_ok _ n (Nat.lt_succ_self n)
 have hl := h5 9 (by decide) (by omega)
 have hz : n = 0 ∨ 0 < n := by omega
 unfold numCore
 rw [h1, Bool.and_true, Bool.and_eq_true, Bool.and_eq_true]
 refine ⟨⟨decide_eq_true (by rw [e]; simp), decide_eq_true hl⟩, ?_⟩
 rcases hz with rfl | hz
 ·rw [Lib.decDigits_one (by decide)]; rfl
 ·have := h3 hz
  rw [e]
  simp [this]
theorem itoa_number {i : Int} (h1 : -999999999 ≤ i) (h2 : i ≤ 999999999) : numberL (Lib.itoa i) = true ∧ numV (Lib.itoa i) = i := by
 unfold Lib.itoa
 by_cases h0 : i < 0
 ·rw [if_pos h0]
  obtain ⟨_, ⟨c, q, e, _, h3⟩, _, hv⟩ := dec_ok _ i.natAbs (Nat.lt_succ_self _)
  have hc := dec_core (n := i.natAbs) (by omega)
  have h3 := h3 (by omega)
  constructor
  ·unfold numberL
   rw [if_pos (by simp [Lib.hasPrefix]), List.tail_cons, hc, e]
   simp [h3]
  ·unfold numV
   rw [List.head?_cons, if_pos rfl, List.tail_cons, hv]; omega
 ·rw [if_neg h0]
  obtain ⟨_, ⟨c, q, e, h4, _⟩, _, hv⟩ := dec_ok _ i.toNat (Nat.lt_succ_self _)
  have hc := dec_core (n := i.toNat) (by omega)
  constructor
  ·unfold numberL
   rw [if_neg, hc]
   rw [e]; simp [Lib.hasPrefix]
   exact fun h => h4 h.symm
  ·unfold numV
   rw [if_neg, hv]
   ·omega
   ·rw [e]; simpa using h4
abbrev tx (t : Ex) : List UInt8 := (txE t).data.toList
theorem name_word {n : ByteArray} (h : nameB n = true) : wordL 24 n.data.toList = true := by
 simp only [nameB, Bool.and_eq_true] at h; exact h.1
section
variable {X z : List UInt8} {T : List KT}
theorem Sc.sp (h : Sc X T z) : Sc ([32] ++ X) T z := (sc_blank (.inl rfl) _).app h
theorem stop_sp : Stop (([32] ++ X) ++ z) := stop_cons rfl
theorem stop_dot : Stop (([46] ++ X) ++ z) := stop_cons rfl
theorem stop_br : Stop ([41] ++ z) := stop_cons rfl
theorem Sc.wsp {l : List UInt8} (hl : wordL 24 l = true) (h : Sc X T z) : Sc (l ++ ([32] ++ X)) (wd l :: T) z := (sc_word hl stop_sp).app h.sp
theorem Sc.nsp {i : Int} (h1 : -999999999 ≤ i) (h2 : i ≤ 999999999) (h : Sc X T z) : Sc (Lib.itoa i ++ ([32] ++ X)) (nuT i :: T) z := (sc_number (itoa_number h1 h2).1 stop_sp).app h.sp
theorem Sc.open (h : Sc X T z) : Sc ([40] ++ X) (sg [40] :: T) z := (sc_one (.inl rfl) _).app h
theorem Sc.two {a b : UInt8} (h : (a = 45 ∧ b = 62) ∨ (a = 58 ∧ b = 58) ∨ (a = 124 ∧ b = 124)) (hx : Sc X T z) : Sc ([a, b] ++ ([32] ++ X)) (sg [a, b] :: T) z := (sc_two h _).app hx.sp
theorem Sc.sign {c : UInt8} (h : (0 : Int) ≤ Lib.indexByte onesL c) (hx : Sc X T z) : Sc ([c] ++ ([32] ++ X)) (sg [c] :: T) z := (sc_sign h _).app hx.sp
theorem Sc.ex {l : List UInt8} {t : List KT} (ih : ∀ z, Stop z → Sc l t z) (h : Sc X T z) : Sc (l ++ ([32] ++ X)) (t ++ T) z := (ih _ stop_sp).app h.sp
theorem Sc.last {l : List UInt8} {t : List KT} (ih : ∀ z, Stop z → Sc l t z) : Sc (l ++ [41]) (t ++ [sg [41]]) z := (ih _ stop_br).app (sc_one (.inr (.inl rfl)) z)
end
theorem op_sign {n : ByteArray} (h : hasB opNames n = true) : ∃ c : UInt8, n = ⟨#[c]⟩ ∧ (c = 43 ∨ c = 45 ∨ c = 42 ∨ c = 61 ∨ c = 60) ∧ (0 : Int) ≤ Lib.indexByte onesL c := by
 simp only [hasB, opNames, List.any_cons, List.any_nil, Bool.or_false, Bool.or_eq_true, decide_eq_true_eq] at h
 rcases h with rfl | rfl | rfl | rfl | rfl
 ·exact ⟨43, rfl, by simp, by decide⟩
 ·exact ⟨45, rfl, by simp, by decide⟩
 ·exact ⟨42, rfl, by simp, by decide⟩
 ·exact ⟨61, rfl, by simp, by decide⟩
 ·exact ⟨60, rfl, by simp, by decide⟩
theorem tx_1 (n m : ByteArray) (i d : Int) : tx (.mk 1 n m i d []) = Lib.itoa i := by simp [tx, txE, nodeText, itoaB]
theorem tx_2 (n m : ByteArray) (i d : Int) : tx (.mk 2 n m i d []) = if i = 1 then wTrue else wFalse := by
 simp only [tx, txE, nodeText, Int.reduceEq, if_false, if_true]
 split <;> rfl
theorem tx_3 (n m : ByteArray) (i d : Int) : tx (.mk 3 n m i d []) = n.data.toList := by simp [tx, txE, nodeText]
theorem tx_4 (n m : ByteArray) (i d : Int) : tx (.mk 4 n m i d []) = n.data.toList ++ ([46] ++ m.data.toList) := by simp [tx, txE, nodeText]
theorem tx_6 (n m : ByteArray) (i d : Int) (a : Ex) : tx (.mk 6 n m i d [a]) = [40] ++ (wFun ++ ([32] ++ (n.data.toList ++ ([32] ++ ([45, 62] ++ ([32] ++ (tx a ++ [41]))))))) := by simp [tx, txE, txL, nodeText, atB, wFun]
theorem tx_7 (n m : ByteArray) (i d : Int) (a b : Ex) : tx (.mk 7 n m i d [a, b]) = [40] ++ (tx a ++ ([32] ++ (tx b ++ [41]))) := by simp [tx, txE, txL, nodeText, atB]
theorem tx_8 (n m : ByteArray) (i d : Int) (a b : Ex) : tx (.mk 8 n m i d [a, b]) = [40] ++ (wLet ++ ([32] ++ (n.data.toList ++ ([32] ++ ([61] ++ ([32] ++ (tx a ++ ([32] ++ (wIn ++ ([32] ++ (tx b ++ [41]))))))))))) := by simp [tx, txE, txL, nodeText, atB, wLet, wIn]
theorem tx_9 (n m : ByteArray) (i d : Int) (a b c : Ex) : tx (.mk 9 n m i d [a, b, c]) = [40] ++ (wIf ++ ([32] ++ (tx a ++ ([32] ++ (wThen ++ ([32] ++ (tx b ++ ([32] ++ (wElse ++ ([32] ++ (tx c ++ [41]))))))))))) := by simp [tx, txE, txL, nodeText, atB, wIf, wThen, wElse]
theorem tx_10 (n m : ByteArray) (i d : Int) (a b : Ex) : tx (.mk 10 n m i d [a, b]) = [40] ++ (tx a ++ ([32] ++ (n.data.toList ++ ([32] ++ (tx b ++ [41]))))) := by simp [tx, txE, txL, nodeText, atB]
theorem tx_11 (n m : ByteArray) (i d : Int) : tx (.mk 11 n m i d []) = wNil := by simp [tx, txE, nodeText, wNil]
theorem tx_12 (n m : ByteArray) (i d : Int) (a b : Ex) : tx (.mk 12 n m i d [a, b]) = [40] ++ (tx a ++ ([32] ++ ([58, 58] ++ ([32] ++ (tx b ++ [41]))))) := by simp [tx, txE, txL, nodeText, atB]
theorem tx_13 (n m : ByteArray) (i d : Int) (a b c : Ex) : tx (.mk 13 n m i d [a, b, c]) = [40] ++ (wCase ++ ([32] ++ (tx a ++ ([32] ++ (wOf ++ ([32] ++ (wNil ++ ([32] ++ ([45, 62] ++ ([32] ++ (tx b ++ ([32] ++ ([124] ++ ([32] ++ (n.data.toList ++ ([32] ++ ([58, 58] ++ ([32] ++ (m.data.toList ++ ([32] ++ ([45, 62] ++ ([32] ++ (tx c ++ [41]))))))))))))))))))))))) := by simp [tx, txE, txL, nodeText, atB, wCase, wOf, wNil]
theorem tx_14 (n m : ByteArray) (i d : Int) : tx (.mk 14 n m i d []) = [40] ++ (wChance ++ ([32] ++ (Lib.itoa i ++ ([32] ++ (wOf ++ ([32] ++ (Lib.itoa d ++ [41]))))))) := by simp [tx, txE, nodeText, itoaB, wChance, wOf]
theorem tx_15 (n m : ByteArray) (i d : Int) (a b c : Ex) : tx (.mk 15 n m i d [a, b, c]) = [40] ++ (wConflict ++ ([32] ++ (tx a ++ ([32] ++ ([124, 124] ++ ([32] ++ (tx b ++ ([32] ++ ([124, 124] ++ ([32] ++ (tx c ++ [41]))))))))))) := by simp [tx, txE, txL, nodeText, atB, wConflict]
theorem one61 : (0 : Int) ≤ Lib.indexByte onesL 61 := by decide
theorem one124 : (0 : Int) ≤ Lib.indexByte onesL 124 := by decide
theorem sc_ex {t : Ex} (h : VT t) : ∀ z, Stop z → Sc (tx t) (tkE t) z := by
 induction h with
 | int i h1 h2 => intro z hz; rw [tx_1]; exact sc_number (itoa_number h1 h2).1 hz
 | bool i hi =>
  intro z hz; rw [tx_2]
  show Sc _ [wd (if i = 1 then wTrue else wFalse)] z
  split
  ·exact sc_word (by decide) hz
  ·exact sc_word (by decide) hz
 | var n hn => intro z hz; rw [tx_3]; exact sc_word (name_word hn) hz
 | dot n m hn hm => intro z hz; rw [tx_4]; exact (sc_word (name_word hn) (stop_dot (X := m.data.toList))).app ((sc_one (by decide) _).app (sc_word (name_word hm) hz))
 | fn n a hn _ ih => intro z _; rw [tx_6]; exact .open (.wsp (by decide) (.wsp (name_word hn) (.two (.inl ⟨rfl, rfl⟩) (.last ih))))
 | call a b _ _ iha ihb => intro z _; rw [tx_7]; exact .open (.ex iha (.last ihb))
 | letx n a b hn _ _ iha ihb => intro z _; rw [tx_8]; exact .open (.wsp (by decide) (.wsp (name_word hn) (.sign one61 (.ex iha (.wsp (by decide) (.last ihb))))))
 | ifx a b c _ _ _ iha ihb ihc => intro z _; rw [tx_9]; exact .open (.wsp (by decide) (.ex iha (.wsp (by decide) (.ex ihb (.wsp (by decide) (.last ihc))))))
 | op n a b hn _ _ iha ihb =>
  intro z _; rw [tx_10]
  obtain ⟨c, rfl, _, hc⟩ := op_sign hn
  exact .open (.ex iha (.sign hc (.last ihb)))
 | nil => intro z hz; rw [tx_11]; exact sc_word (by decide) hz
 | cons a b _ _ iha ihb => intro z _; rw [tx_12]; exact .open (.ex iha (.two (.inr (.inl ⟨rfl, rfl⟩)) (.last ihb)))
 | casex n m a b c hn hm _ _ _ _ iha ihb ihc => intro z _; rw [tx_13]; exact .open (.wsp (by decide) (.ex iha (.wsp (by decide) (.wsp (by decide) (.two (.inl ⟨rfl, rfl⟩) (.ex ihb (.sign one124 (.wsp (name_word hn) (.two (.inr (.inl ⟨rfl, rfl⟩)) (.wsp (name_word hm) (.two (.inl ⟨rfl, rfl⟩) (.last ihc))))))))))))
 | chance i d h1 h2 h3 h4 => intro z _; rw [tx_14]; exact .open (.wsp (by decide) (.nsp (by omega) (by omega) (.wsp (by decide) (.last (t := [nuT d]) fun z hz => sc_number (itoa_number (by omega) (by omega)).1 hz))))
 | sum a b c _ _ _ iha ihb ihc => intro z _; rw [tx_15]; exact .open (.wsp (by decide) (.ex iha (.two (.inr (.inr ⟨rfl, rfl⟩)) (.ex ihb (.two (.inr (.inr ⟨rfl, rfl⟩)) (.last ihc))))))
theorem sc_scan {s : List UInt8} {ts : List KT} (h : Sc s ts []) : ∃ us, scanAll s = (us, none) ∧ us.map kt = ts := by
 obtain ⟨us, g, q, e, _, hs⟩ := h (s.length + 1) (skipL s) [] (by simp)
 rw [List.append_nil] at hs
 refine ⟨us, ?_, e⟩
 unfold scanAll
 rw [hs, List.nil_append]
 exact scanT_end rfl
end Go.Proofs.YtnnolijagpakiaaGreatDoor
namespace Go.Proofs.YtnnolijagpakiaaGreatDoor
open Go Go.RowKit
abbrev PR (α : Type) := Option α × List KT
def PR.bind {α β : Type} (a : PR α) (f : α → List KT → PR β) : PR β :=
 match a with
 | (some x, r) => f x r
 | (none, r) => (none, r)
@[simp] theorem PR.bind_some {α β : Type} (x : α) (r : List KT) (f : α → List KT → PR β) : PR.bind (some x, r) f = f x r := rfl
abbrev bsL (l : List UInt8) : ByteArray := ⟨l.toArray⟩
theorem bsL_data (n : ByteArray) : bsL n.data.toList = n := rfl
def nameT (y : KT) : Bool := decide (y.1 = 1) && nameB (bsL y.2)
def numT (y : KT) : Bool := decide (y.1 = 3) && numberL y.2
def eatT (x : KT) : List KT → PR Unit
 | [] => (none, [])
 | y :: r => if y = x then (some (), r) else (none, y :: r)
def pName : List KT → PR ByteArray
 | [] => (none, [])
 | y :: r => if nameT y then (some (bsL y.2), r) else (none, y :: r)
def pNum : List KT → PR Int
 | [] => (none, [])
 | y :: r => if numT y then (some (numV y.2), r) else (none, y :: r)
def pDot (n : ByteArray) : List KT → PR Ex
 | [] => (some (.mk 3 n ⟨#[]⟩ 0 0 []), [])
 | z :: r => if z = sg [46] then (pName r).bind fun m r => (some (.mk 4 n m 0 0 []), r) else (some (.mk 3 n ⟨#[]⟩ 0 0 []), z :: r)
def pLeaf : List KT → PR Ex
 | [] => (none, [])
 | y :: r =>
  if numT y then (some (.mk 1 ⟨#[]⟩ ⟨#[]⟩ (numV y.2) 0 []), r)
  else if y = wd wTrue then (some (.mk 2 ⟨#[]⟩ ⟨#[]⟩ 1 0 []), r)
  else if y = wd wFalse then (some (.mk 2 ⟨#[]⟩ ⟨#[]⟩ 0 0 []), r)
  else if y = wd wNil then (some (.mk 11 ⟨#[]⟩ ⟨#[]⟩ 0 0 []), r)
  else if nameT y then pDot (bsL y.2) r
  else (none, y :: r)
def opT (z : KT) : Bool := decide (z.1 = 4) && hasB opNames (bsL z.2)
def pTail (pe : List KT → PR Ex) (a : Ex) : List KT → PR Ex
 | [] => (pe []).bind fun b r => (some (.mk 7 ⟨#[]⟩ ⟨#[]⟩ 0 0 [a, b]), r)
 | z :: r =>
  if z = sg [58, 58] then (pe r).bind fun b r => (some (.mk 12 ⟨#[]⟩ ⟨#[]⟩ 0 0 [a, b]), r)
  else if opT z then (pe r).bind fun b r => (some (.mk 10 (bsL z.2) ⟨#[]⟩ 0 0 [a, b]), r)
  else (pe (z :: r)).bind fun b r => (some (.mk 7 ⟨#[]⟩ ⟨#[]⟩ 0 0 [a, b]), r)
def pFun (pe : List KT → PR Ex) (l : List KT) : PR Ex :=
 (pName l).bind fun n r => (eatT (sg [45, 62]) r).bind fun _ r => (pe r).bind fun a r => (some (.mk 6 n ⟨#[]⟩ 0 0 [a]), r)
def pLet (pe : List KT → PR Ex) (l : List KT) : PR Ex :=
 (pName l).bind fun n r => (eatT (sg [61]) r).bind fun _ r => (pe r).bind fun a r => (eatT (wd wIn) r).bind fun _ r => (pe r).bind fun b r => (some (.mk 8 n ⟨#[]⟩ 0 0 [a, b]), r)
def pIf (pe : List KT → PR Ex) (l : List KT) : PR Ex :=
 (pe l).bind fun a r => (eatT (wd wThen) r).bind fun _ r => (pe r).bind fun b r => (eatT (wd wElse) r).bind fun _ r => (pe r).bind fun c r => (some (.mk 9 ⟨#[]⟩ ⟨#[]⟩ 0 0 [a, b, c]), r)
def pCase (pe : List KT → PR Ex) (l : List KT) : PR Ex :=
 (pe l).bind fun a r => (eatT (wd wOf) r).bind fun _ r => (eatT (wd wNil) r).bind fun _ r => (eatT (sg [45, 62]) r).bind fun _ r => (pe r).bind fun b r =>
 (eatT (sg [124]) r).bind fun _ r => (pName r).bind fun n r => (eatT (sg [58, 58]) r).bind fun _ r => (pName r).bind fun m r => (eatT (sg [45, 62]) r).bind fun _ r =>
 (pe r).bind fun c r => (some (.mk 13 n m 0 0 [a, b, c]), r)
def pChance (l : List KT) : PR Ex :=
 (pNum l).bind fun i r => (eatT (wd wOf) r).bind fun _ r => (pNum r).bind fun d r => (some (.mk 14 ⟨#[]⟩ ⟨#[]⟩ i d []), r)
def pSum (pe : List KT → PR Ex) (l : List KT) : PR Ex :=
 (pe l).bind fun a r => (eatT (sg [124, 124]) r).bind fun _ r => (pe r).bind fun b r => (eatT (sg [124, 124]) r).bind fun _ r => (pe r).bind fun c r => (some (.mk 15 ⟨#[]⟩ ⟨#[]⟩ 0 0 [a, b, c]), r)
def pIn (pe : List KT → PR Ex) : List KT → PR Ex
 | [] => (pe []).bind fun a r => pTail pe a r
 | y :: r =>
  if y = wd wFun then pFun pe r
  else if y = wd wLet then pLet pe r
  else if y = wd wIf then pIf pe r
  else if y = wd wCase then pCase pe r
  else if y = wd wChance then pChance r
  else if y = wd wConflict then pSum pe r
  else (pe (y :: r)).bind fun a r => pTail pe a r
def pE : Nat → List KT → PR Ex
 | 0, l => (none, l)
 | _ + 1, [] => (none, [])
 | f + 1, y :: r => if y = sg [40] then (pIn (pE f) r).bind fun e r => (eatT (sg [41]) r).bind fun _ r => (some e, r) else pLeaf (y :: r)
theorem nameT_ok {n : ByteArray} (h : nameB n = true) : nameT (nmT n) = true := by simp [nameT, bsL_data, h]
theorem pName_ok {n : ByteArray} (h : nameB n = true) (r : List KT) : pName (nmT n :: r) = (some n, r) := by
 rw [pName, if_pos (nameT_ok h)]
theorem numT_ok {i : Int} (h1 : -999999999 ≤ i) (h2 : i ≤ 999999999) : numT (nuT i) = true := by simp [numT, (itoa_number h1 h2).1]
theorem pNum_ok {i : Int} (h1 : -999999999 ≤ i) (h2 : i ≤ 999999999) (r : List KT) : pNum (nuT i :: r) = (some i, r) := by
 rw [pNum, if_pos (numT_ok h1 h2), (itoa_number h1 h2).2]
@[simp] theorem eatT_ok (x : KT) (r : List KT) : eatT x (x :: r) = (some (), r) := if_pos rfl
theorem name_res {n : ByteArray} (h : nameB n = true) : hasB reservedL n = false := by
 simp only [nameB, Bool.and_eq_true, Bool.not_eq_true'] at h; exact h.2
theorem nm_ne {n : ByteArray} (h : nameB n = true) {w : List UInt8} (hw : hasB reservedL (bsL w) = true) : nmT n ≠ wd w := fun e => by
 have e2 : n.data.toList = w := congrArg Prod.snd e
 have : n = bsL w := ba_inj (by rw [e2])
 rw [← this, name_res h] at hw; exact absurd hw (by decide)
theorem numT_word (w : List UInt8) : numT (wd w) = false := by simp [numT]
theorem pDot_no (n : ByteArray) {r : List KT} (h : r.head? ≠ some (sg [46])) : pDot n r = (some (.mk 3 n ⟨#[]⟩ 0 0 []), r) := by
 cases r with
 | nil => rfl
 | cons z r =>
  rw [pDot, if_neg]
  rintro rfl
  exact h rfl
structure Head (y : KT) : Prop where
 notWord : ∀ w, w = wFun ∨ w = wLet ∨ w = wIf ∨ w = wCase ∨ w = wChance ∨ w = wConflict → y ≠ wd w
 sign : y.1 = 4 → y = sg [40]
theorem nm_head {n : ByteArray} (h : nameB n = true) : Head (nmT n) where
 notWord w hw := nm_ne h (by rcases hw with rfl | rfl | rfl | rfl | rfl | rfl <;> decide)
 sign e := by cases e
theorem sg_head : Head (sg [40]) := ⟨fun _ _ e => (by cases e), fun _ => rfl⟩
theorem wd_head {s : List UInt8} (h : s = wTrue ∨ s = wFalse ∨ s = wNil) : Head (wd s) where
 notWord w hw e := by
  have e2 : s = w := congrArg Prod.snd e
  subst e2
  rcases h with rfl | rfl | rfl <;> revert hw <;> decide
 sign e := by cases e
theorem tk_head {t : Ex} (h : VT t) : ∃ y q, tkE t = y :: q ∧ Head y := by
 cases h with
 | int i h1 h2 => exact ⟨nuT i, [], rfl, ⟨fun _ _ e => (by cases e), fun e => (by cases e)⟩⟩
 | bool i hi =>
  refine ⟨_, [], rfl, wd_head ?_⟩
  split
  ·exact .inl rfl
  ·exact .inr (.inl rfl)
 | var n hn => exact ⟨nmT n, [], rfl, nm_head hn⟩
 | dot n m hn hm => exact ⟨nmT n, _, rfl, nm_head hn⟩
 | nil => exact ⟨_, [], rfl, wd_head (.inr (.inr rfl))⟩
 | fn | call | letx | ifx | op | cons | casex | chance | sum => exact ⟨sg [40], _, rfl, sg_head⟩
theorem pIn_ex {t : Ex} (h : VT t) (pe : List KT → PR Ex) (r : List KT) : pIn pe (tkE t ++ r) = (pe (tkE t ++ r)).bind fun a r => pTail pe a r := by
 obtain ⟨y, q, e, hy⟩ := tk_head h
 rw [e, List.cons_append, pIn, if_neg (hy.notWord _ (by simp)), if_neg (hy.notWord _ (by simp)), if_neg (hy.notWord _ (by simp)), if_neg (hy.notWord _ (by simp)), if_neg (hy.notWord _ (by simp)), if_neg (hy.notWord _ (by simp))]
theorem pTail_ex {t : Ex} (h : VT t) (pe : List KT → PR Ex) (a : Ex) (r : List KT) : pTail pe a (tkE t ++ r) = (pe (tkE t ++ r)).bind fun b r => (some (.mk 7 ⟨#[]⟩ ⟨#[]⟩ 0 0 [a, b]), r) := by
 obtain ⟨y, q, e, hy⟩ := tk_head h
 have h1 : y ≠ sg [58, 58] := fun e => by
  have := hy.sign (by rw [e])
  rw [e] at this; cases this
 have h2 : opT y = false := by
  cases ho : opT y with
  | false => rfl
  | true =>
   simp only [opT, Bool.and_eq_true, decide_eq_true_eq] at ho
   rw [hy.sign ho.1] at ho
   exact absurd ho.2 (by decide)
 rw [e, List.cons_append, pTail, if_neg h1, if_neg (by rw [h2]; decide)]
theorem nodot_ex {t : Ex} (h : VT t) (r : List KT) : (tkE t ++ r).head? ≠ some (sg [46]) := by
 obtain ⟨y, q, e, hy⟩ := tk_head h
 rw [e, List.cons_append, List.head?_cons]
 intro e
 injection e with e
 have := hy.sign (by rw [e])
 rw [e] at this; cases this
theorem op_tok {n : ByteArray} (h : hasB opNames n = true) : opT (sg n.data.toList) = true ∧ sg n.data.toList ≠ sg [58, 58] ∧ sg n.data.toList ≠ sg [46] := by
 obtain ⟨c, rfl, hc, _⟩ := op_sign h
 rcases hc with rfl | rfl | rfl | rfl | rfl <;> decide
set_option maxHeartbeats 4000000 in
theorem pE_tk {t : Ex} (h : VT t) : ∀ (f : Nat) (r : List KT), depthE t ≤ f → r.head? ≠ some (sg [46]) → pE f (tkE t ++ r) = (some t, r) := by
 induction h with
 | int i h1 h2 =>
  intro f r hf hr
  obtain ⟨f, rfl⟩ : ∃ g, f = g + 1 := ⟨f - 1, by simp only [depthE] at hf; omega⟩
  show pE (f + 1) (nuT i :: r) = _
  rw [pE, if_neg (by intro e; cases e), pLeaf, if_pos (numT_ok h1 h2), (itoa_number h1 h2).2]
 | bool i hi =>
  intro f r hf hr
  obtain ⟨f, rfl⟩ : ∃ g, f = g + 1 := ⟨f - 1, by simp only [depthE] at hf; omega⟩
  show pE (f + 1) (wd (if i = 1 then wTrue else wFalse) :: r) = _
  rw [pE, if_neg (by intro e; cases e), pLeaf, if_neg (by rw [numT_word]; decide)]
  rcases hi with rfl | rfl
  ·rfl
  ·rfl
 | var n hn =>
  intro f r hf hr
  obtain ⟨f, rfl⟩ : ∃ g, f = g + 1 := ⟨f - 1, by simp only [depthE] at hf; omega⟩
  show pE (f + 1) (nmT n :: r) = _
  rw [pE, if_neg (by intro e; cases e), pLeaf, if_neg (by rw [numT_word]; decide), if_neg (nm_ne hn (by decide)), if_neg (nm_ne hn (by decide)), if_neg (nm_ne hn (by decide)), if_pos (nameT_ok hn)]
  exact pDot_no n hr
 | dot n m hn hm =>
  intro f r hf hr
  obtain ⟨f, rfl⟩ : ∃ g, f = g + 1 := ⟨f - 1, by simp only [depthE] at hf; omega⟩
  show pE (f + 1) (nmT n :: sg [46] :: nmT m :: r) = _
  rw [pE, if_neg (by intro e; cases e), pLeaf, if_neg (by rw [numT_word]; decide), if_neg (nm_ne hn (by decide)), if_neg (nm_ne hn (by decide)), if_neg (nm_ne hn (by decide)), if_pos (nameT_ok hn)]
  show pDot n (sg [46] :: nmT m :: r) = _
  rw [pDot, if_pos rfl, pName_ok hm]; rfl
 | nil =>
  intro f r hf hr
  obtain ⟨f, rfl⟩ : ∃ g, f = g + 1 := ⟨f - 1, by simp only [depthE] at hf; omega⟩
  show pE (f + 1) (wd wNil :: r) = _
  rw [pE, if_neg (by intro e; cases e), pLeaf, if_neg (by rw [numT_word]; decide), if_neg (by decide), if_neg (by decide), if_pos rfl]
 | fn n a hn va ih =>
  intro f r hf hr
  simp only [depthE, depthL] at hf
  obtain ⟨f, rfl⟩ : ∃ g, f = g + 1 := ⟨f - 1, by omega⟩
  have e : tkE (.mk 6 n ⟨#[]⟩ 0 0 [a]) ++ r = sg [40] :: wd wFun :: nmT n :: sg [45, 62] :: (tkE a ++ sg [41] :: r) := by simp [tkE, tkL, nodeToks, atT]
  rw [e, pE, if_pos rfl, pIn, if_pos rfl, pFun, pName_ok hn, PR.bind_some, eatT_ok, PR.bind_some, ih f _ (by omega) (by simp), PR.bind_some, PR.bind_some, eatT_ok, PR.bind_some]
 | call a b va vb iha ihb =>
  intro f r hf hr
  simp only [depthE, depthL] at hf
  obtain ⟨f, rfl⟩ : ∃ g, f = g + 1 := ⟨f - 1, by omega⟩
  have e : tkE (.mk 7 ⟨#[]⟩ ⟨#[]⟩ 0 0 [a, b]) ++ r = sg [40] :: (tkE a ++ (tkE b ++ sg [41] :: r)) := by simp [tkE, tkL, nodeToks, atT]
  rw [e, pE, if_pos rfl, pIn_ex va, iha f _ (by omega) (nodot_ex vb _), PR.bind_some, pTail_ex vb, ihb f _ (by omega) (by simp), PR.bind_some, PR.bind_some, eatT_ok, PR.bind_some]
 | letx n a b hn va vb iha ihb =>
  intro f r hf hr
  simp only [depthE, depthL] at hf
  obtain ⟨f, rfl⟩ : ∃ g, f = g + 1 := ⟨f - 1, by omega⟩
  have e : tkE (.mk 8 n ⟨#[]⟩ 0 0 [a, b]) ++ r = sg [40] :: wd wLet :: nmT n :: sg [61] :: (tkE a ++ wd wIn :: (tkE b ++ sg [41] :: r)) := by simp [tkE, tkL, nodeToks, atT]
  rw [e, pE, if_pos rfl, pIn, if_neg (by decide), if_pos rfl, pLet, pName_ok hn, PR.bind_some, eatT_ok, PR.bind_some, iha f _ (by omega) (by simp), PR.bind_some, eatT_ok, PR.bind_some, ihb f _ (by omega) (by simp), PR.bind_some, PR.bind_some, eatT_ok, PR.bind_some]
 | ifx a b c va vb vc iha ihb ihc =>
  intro f r hf hr
  simp only [depthE, depthL] at hf
  obtain ⟨f, rfl⟩ : ∃ g, f = g + 1 := ⟨f - 1, by omega⟩
  have e : tkE (.mk 9 ⟨#[]⟩ ⟨#[]⟩ 0 0 [a, b, c]) ++ r = sg [40] :: wd wIf :: (tkE a ++ wd wThen :: (tkE b ++ wd wElse :: (tkE c ++ sg [41] :: r))) := by simp [tkE, tkL, nodeToks, atT]
  rw [e, pE, if_pos rfl, pIn, if_neg (by decide), if_neg (by decide), if_pos rfl, pIf, iha f _ (by omega) (by simp), PR.bind_some, eatT_ok, PR.bind_some, ihb f _ (by omega) (by simp), PR.bind_some, eatT_ok, PR.bind_some, ihc f _ (by omega) (by simp), PR.bind_some, PR.bind_some, eatT_ok, PR.bind_some]
 | op n a b hn va vb iha ihb =>
  intro f r hf hr
  simp only [depthE, depthL] at hf
  obtain ⟨f, rfl⟩ : ∃ g, f = g + 1 := ⟨f - 1, by omega⟩
  obtain ⟨o1, o2, o3⟩ := op_tok hn
  have e : tkE (.mk 10 n ⟨#[]⟩ 0 0 [a, b]) ++ r = sg [40] :: (tkE a ++ sg n.data.toList :: (tkE b ++ sg [41] :: r)) := by simp [tkE, tkL, nodeToks, atT]
  rw [e, pE, if_pos rfl, pIn_ex va, iha f _ (by omega) (by rw [List.head?_cons]; exact fun h => o3 (by injection h)), PR.bind_some, pTail, if_neg o2, if_pos o1, ihb f _ (by omega) (by simp), PR.bind_some, PR.bind_some, eatT_ok, PR.bind_some]
 | cons a b va vb iha ihb =>
  intro f r hf hr
  simp only [depthE, depthL] at hf
  obtain ⟨f, rfl⟩ : ∃ g, f = g + 1 := ⟨f - 1, by omega⟩
  have e : tkE (.mk 12 ⟨#[]⟩ ⟨#[]⟩ 0 0 [a, b]) ++ r = sg [40] :: (tkE a ++ sg [58, 58] :: (tkE b ++ sg [41] :: r)) := by simp [tkE, tkL, nodeToks, atT]
  rw [e, pE, if_pos rfl, pIn_ex va, iha f _ (by omega) (by simp), PR.bind_some, pTail, if_pos rfl, ihb f _ (by omega) (by simp), PR.bind_some, PR.bind_some, eatT_ok, PR.bind_some]
 | casex n m a b c hn hm hne va vb vc iha ihb ihc =>
  intro f r hf hr
  simp only [depthE, depthL] at hf
  obtain ⟨f, rfl⟩ : ∃ g, f = g + 1 := ⟨f - 1, by omega⟩
  have e : tkE (.mk 13 n m 0 0 [a, b, c]) ++ r = sg [40] :: wd wCase :: (tkE a ++ wd wOf :: wd wNil :: sg [45, 62] :: (tkE b ++ sg [124] :: nmT n :: sg [58, 58] :: nmT m :: sg [45, 62] :: (tkE c ++ sg [41] :: r))) := by simp [tkE, tkL, nodeToks, atT]
  rw [e, pE, if_pos rfl, pIn, if_neg (by decide), if_neg (by decide), if_neg (by decide), if_pos rfl, pCase, iha f _ (by omega) (by simp), PR.bind_some, eatT_ok, PR.bind_some, eatT_ok, PR.bind_some, eatT_ok, PR.bind_some, ihb f _ (by omega) (by simp), PR.bind_some, eatT_ok, PR.bind_some, pName_ok hn, PR.bind_some, eatT_ok, PR.bind_some, pName_ok hm, PR.bind_some, eatT_ok, PR.bind_some, ihc f _ (by omega) (by simp), PR.bind_some, PR.bind_some, eatT_ok, PR.bind_some]
 | chance i d h1 h2 h3 h4 =>
  intro f r hf hr
  obtain ⟨f, rfl⟩ : ∃ g, f = g + 1 := ⟨f - 1, by simp only [depthE] at hf; omega⟩
  have e : tkE (.mk 14 ⟨#[]⟩ ⟨#[]⟩ i d []) ++ r = sg [40] :: wd wChance :: nuT i :: wd wOf :: nuT d :: sg [41] :: r := by simp [tkE, nodeToks]
  rw [e, pE, if_pos rfl, pIn, if_neg (by decide), if_neg (by decide), if_neg (by decide), if_neg (by decide), if_pos rfl, pChance, pNum_ok (by omega) (by omega), PR.bind_some, eatT_ok, PR.bind_some, pNum_ok (by omega) (by omega), PR.bind_some, PR.bind_some, eatT_ok, PR.bind_some]
 | sum a b c va vb vc iha ihb ihc =>
  intro f r hf hr
  simp only [depthE, depthL] at hf
  obtain ⟨f, rfl⟩ : ∃ g, f = g + 1 := ⟨f - 1, by omega⟩
  have e : tkE (.mk 15 ⟨#[]⟩ ⟨#[]⟩ 0 0 [a, b, c]) ++ r = sg [40] :: wd wConflict :: (tkE a ++ sg [124, 124] :: (tkE b ++ sg [124, 124] :: (tkE c ++ sg [41] :: r))) := by simp [tkE, tkL, nodeToks, atT]
  rw [e, pE, if_pos rfl, pIn, if_neg (by decide), if_neg (by decide), if_neg (by decide), if_neg (by decide), if_neg (by decide), if_pos rfl, pSum, iha f _ (by omega) (by simp), PR.bind_some, eatT_ok, PR.bind_some, ihb f _ (by omega) (by simp), PR.bind_some, eatT_ok, PR.bind_some, ihc f _ (by omega) (by simp), PR.bind_some, PR.bind_some, eatT_ok, PR.bind_some]
end Go.Proofs.YtnnolijagpakiaaGreatDoor
namespace Go.Proofs.YtnnolijagpakiaaGreatDoor
open Go Go.RowKit
def wUse : List UInt8 := [117, 115, 101]
def wPub : List UInt8 := [112, 117, 98]
def wTest : List UInt8 := [116, 101, 115, 116]
def wFlaky : List UInt8 := [102, 108, 97, 107, 121]
def kW (k : Int) : List UInt8 := if k = 1 then wLet else if k = 2 then wTest else wFlaky
def lbT (s : ByteArray) : KT := (if hasSlash s.data.toList then 2 else 1, s.data.toList)
def tkU (s : ByteArray) : List KT := [wd wUse, lbT s, sg [59]]
def nilT (s : ByteArray) : KT := wd (nilS s).data.toList
def namesT : List ByteArray → List KT
 | [a] => [nilT a]
 | [a, b, c] => [nilT a, sg [124, 124], nilT b, sg [124, 124], nilT c]
 | _ => []
def idT (i : Int) : List KT := if i = 0 then [] else [sg [64], nuT i]
def tkB (x : Dc) : List KT := wd (kW x.kind) :: (namesT x.names ++ (idT x.id ++ sg [61] :: (tkE x.body ++ [sg [59]])))
def tkP (b : Bool) (w : List UInt8) : List KT := if b then [wd w] else []
def tkD (x : Dc) : List KT := tkP x.doubt wConflict ++ (tkP x.pub wPub ++ tkB x)
def tkS (x : Sr) : List KT := (x.uses.map tkU).flatten ++ (x.decls.map tkD).flatten
def preW (b : Bool) (w : List UInt8) : List UInt8 := if b then w ++ [32] else []
def namesL : List ByteArray → List UInt8
 | [a] => (nilS a).data.toList
 | [a, b, c] => (nilS a).data.toList ++ ([32] ++ ([124, 124] ++ ([32] ++ ((nilS b).data.toList ++ ([32] ++ ([124, 124] ++ ([32] ++ (nilS c).data.toList)))))))
 | _ => []
def idL (i : Int) : List UInt8 := if i = 0 then [] else [64] ++ (Lib.itoa i ++ [32])
def dTx (x : Dc) : List UInt8 := preW x.doubt wConflict ++ (preW x.pub wPub ++ (kW x.kind ++ ([32] ++ (namesL x.names ++ ([32] ++ (idL x.id ++ ([61] ++ ([32] ++ (tx x.body ++ ([32] ++ ([59] ++ [10])))))))))))
theorem kindW_data (k : Int) : (kindW k).data.toList = kW k := by
 unfold kindW kW; split
 ·rfl
 ·split <;> rfl
theorem dTx_eq {x : Dc} (h : x.names.length = 1 ∨ x.names.length = 3) : (dLine x).data.toList = dTx x := by
 obtain ⟨id, kind, pub, names, doubt, body⟩ := x
 have hk := kindW_data kind
 have key : ∀ N : ByteArray, N.data.toList = namesL names → ((joinB ((if doubt = true then [bs [99, 111, 110, 102, 108, 105, 99, 116]] else []) ++ (if pub = true then [bs [112, 117, 98]] else []) ++ [kindW kind] ++ [N] ++ (if id = 0 then [] else [bs [64] ++ itoaB id]) ++ [bs [61], txE body, bs [59]]) [32]) ++ bs [10]).data.toList = dTx ⟨id, kind, pub, names, doubt, body⟩ := fun N hN => by
  rw [ba_app]
  unfold dTx preW idL joinB
  cases doubt <;> cases pub <;> by_cases hi : id = 0 <;> simp [hi, hN, hk, Lib.join, itoaB, wConflict, wPub]
 refine key _ ?_
 simp only at h
 match names, h with
 | [a], _ => simp [joinB, Lib.join, namesL]
 | [a, b, c], _ => simp [joinB, Lib.join, namesL]
theorem useB_data (s : ByteArray) : (useB s).data.toList = wUse ++ ([32] ++ (s.data.toList ++ ([32] ++ ([59] ++ [10])))) := by simp [useB, wUse]
theorem wordL_more {m n : Nat} {l : List UInt8} (h : wordL m l = true) (hmn : m ≤ n) : wordL n l = true := by
 cases l with
 | nil => simp [wordL] at h
 | cons c q =>
  simp only [wordL, Bool.and_eq_true, decide_eq_true_eq] at h ⊢
  exact ⟨⟨by omega, h.1.2⟩, h.2⟩
theorem label_word {l : List UInt8} (h : labelL l = true) (hs : hasSlash l = false) : wordL 24 l = true := by
 have h1 : Lib.indexByte l 47 = -1 := by
  have := Lib.indexByte_ge l 47
  simp only [hasSlash, decide_eq_false_iff_not] at hs
  omega
 simp only [labelL, partsL_none h1, Bool.and_eq_true, List.all_cons, List.all_nil] at h
 exact wordL_more h.2.1 (by decide)
theorem sc_lab {s : ByteArray} (h : labelL s.data.toList = true) {z : List UInt8} (hz : Stop z) : Sc s.data.toList [lbT s] z := by
 unfold lbT
 cases hs : hasSlash s.data.toList with
 | true => exact sc_label h hs hz
 | false => exact sc_word (label_word h hs) hz
theorem sc_end (z : List UInt8) : Sc ([59] ++ [10]) [sg [59]] z := (sc_one (by decide) _).app (sc_blank (.inr rfl) z)
theorem sc_use {s : ByteArray} (h : labelL s.data.toList = true) (z : List UInt8) : Sc (useB s).data.toList (tkU s) z := by
 rw [useB_data]
 exact .wsp (by decide) ((sc_lab h stop_sp).app (sc_end z).sp)
theorem nil_word {s : ByteArray} (h : nameB s = true ∨ s = ⟨#[]⟩) : wordL 24 (nilS s).data.toList = true := by
 unfold nilS
 split
 ·decide
 ·rename_i hne
  rcases h with h | h
  ·exact name_word h
  ·exact absurd h hne
theorem OkD.nm' {x : Dc} (h : OkD x) : ∀ s ∈ x.names, nameB s = true ∨ s = ⟨#[]⟩ := fun s hs => (h.nm s hs).imp (fun x => x) And.right
theorem sc_names {l : List ByteArray} (hl : l.length = 1 ∨ l.length = 3) (h : ∀ s ∈ l, nameB s = true ∨ s = ⟨#[]⟩) {X z : List UInt8} {T : List KT} (hx : Sc X T z) : Sc (namesL l ++ ([32] ++ X)) (namesT l ++ T) z := by
 match l, hl with
 | [a], _ => exact .wsp (nil_word (h a (by simp))) hx
 | [a, b, c], _ =>
  have e : namesL [a, b, c] ++ ([32] ++ X) = (nilS a).data.toList ++ ([32] ++ ([124, 124] ++ ([32] ++ ((nilS b).data.toList ++ ([32] ++ ([124, 124] ++ ([32] ++ ((nilS c).data.toList ++ ([32] ++ X))))))))) := by simp [namesL]
  rw [e]
  exact .wsp (nil_word (h a (by simp))) (.two (.inr (.inr ⟨rfl, rfl⟩)) (.wsp (nil_word (h b (by simp))) (.two (.inr (.inr ⟨rfl, rfl⟩)) (.wsp (nil_word (h c (by simp))) hx))))
theorem sc_id {i : Int} (h : 0 ≤ i ∧ i ≤ 999999) {X z : List UInt8} {T : List KT} (hx : Sc X T z) : Sc (idL i ++ X) (idT i ++ T) z := by
 unfold idL idT
 split
 ·exact hx
 ·have e : [64] ++ (Lib.itoa i ++ [32]) ++ X = [64] ++ (Lib.itoa i ++ ([32] ++ X)) := by simp
  rw [e]
  exact (sc_one (by decide) _).app (.nsp (by omega) (by omega) hx)
theorem sc_pre {b : Bool} {w : List UInt8} (hw : wordL 24 w = true) {X z : List UInt8} {T : List KT} (hx : Sc X T z) : Sc (preW b w ++ X) (tkP b w ++ T) z := by
 cases b with
 | false => exact hx
 | true =>
  have e : preW true w ++ X = w ++ ([32] ++ X) := by simp [preW]
  rw [e]
  exact .wsp hw hx
theorem kW_word (k : Int) : wordL 24 (kW k) = true := by
 unfold kW; split
 ·decide
 ·split <;> decide
theorem OkD.vt {x : Dc} (h : OkD x) : VT x.body := vt_X h.chk h.ref
theorem sc_decl {x : Dc} (h : OkD x) (z : List UInt8) : Sc (dLine x).data.toList (tkD x) z := by
 rw [dTx_eq h.len]
 have h5 : Sc ([61] ++ ([32] ++ (tx x.body ++ ([32] ++ ([59] ++ [10]))))) (sg [61] :: (tkE x.body ++ [sg [59]])) z := .sign one61 (.ex (sc_ex h.vt) (sc_end z))
 exact sc_pre (by decide) (sc_pre (by decide) (.wsp (kW_word _) (sc_names h.len h.nm' (sc_id h.id h5))))
theorem sc_flat {α : Type} {f : α → ByteArray} {g : α → List KT} {z : List UInt8} : ∀ l : List α, (∀ x ∈ l, ∀ z, Sc (f x).data.toList (g x) z) → Sc (catL (l.map f)) (l.map g).flatten z
 | [], _ => Sc.nil z
 | x :: l, h => by
  have e : catL ((x :: l).map f) = (f x).data.toList ++ catL (l.map f) := by simp [catL]
  rw [e, List.map_cons, List.flatten_cons]
  exact (h x (by simp) _).app (sc_flat l fun y hy => h y (by simp [hy]))
theorem sc_source {x : Sr} (h : OkSr x) (z : List UInt8) : Sc (catL (srcParts x)) (tkS x) z := by
 unfold srcParts tkS
 rw [catL_append]
 exact (sc_flat x.uses fun s hs z => sc_use (h.lab s hs) z).app (sc_flat x.decls fun d hd z => sc_decl (h.dec d hd) z)
def labelT (y : KT) : Bool := (decide (y.1 = 1) || decide (y.1 = 2)) && labelL y.2
def pLab : List KT → PR ByteArray
 | [] => (none, [])
 | y :: r => if labelT y then (some (bsL y.2), r) else (none, y :: r)
def pUses : Nat → List KT → PR (List ByteArray)
 | 0, l => (some [], l)
 | f + 1, l => if l.head? = some (wd wUse) then (pLab l.tail).bind fun s r => (eatT (sg [59]) r).bind fun _ r => (pUses f r).bind fun us r => (some (s :: us), r) else (some [], l)
def pSide : List KT → PR ByteArray
 | [] => (none, [])
 | y :: r => if y = wd wNil then (some ⟨#[]⟩, r) else pName (y :: r)
def pNames (l : List KT) : PR (List ByteArray) :=
 (pSide l).bind fun a r => if a ≠ ⟨#[]⟩ ∧ r.head? ≠ some (sg [124, 124]) then (some [a], r) else
  (eatT (sg [124, 124]) r).bind fun _ r => (pSide r).bind fun b r => (eatT (sg [124, 124]) r).bind fun _ r => (pSide r).bind fun c r => (some [a, b, c], r)
def pKind : List KT → PR Int
 | [] => (none, [])
 | y :: r => if y = wd wLet then (some 1, r) else if y = wd wTest then (some 2, r) else if y = wd wFlaky then (some 3, r) else (none, y :: r)
def pPos : List KT → PR Int
 | [] => (none, [])
 | y :: r => if numT y ∧ numV y.2 ≠ 0 then (some (numV y.2), r) else (none, y :: r)
def pId (l : List KT) : PR Int := if l.head? = some (sg [64]) then pPos l.tail else (some 0, l)
def pFlag (w : List UInt8) (l : List KT) : Bool × List KT := if l.head? = some (wd w) then (true, l.tail) else (false, l)
def pBody (f : Nat) (doubt pub : Bool) (l : List KT) : PR (Dc × Nat) :=
 (pKind l).bind fun k r => (pNames r).bind fun ns r2 => (pId r2).bind fun i r3 => (eatT (sg [61]) r3).bind fun _ r4 => (pE f r4).bind fun e r5 => (eatT (sg [59]) r5).bind fun _ r6 => (some (⟨i, k, pub, ns, doubt, e⟩, r.length), r6)
def pDecl (f : Nat) (l : List KT) : PR (Dc × Nat) := pBody f (pFlag wConflict l).1 (pFlag wPub (pFlag wConflict l).2).1 (pFlag wPub (pFlag wConflict l).2).2
def pDecls (f : Nat) : Nat → List KT → PR (List (Dc × Nat))
 | _, [] => (some [], [])
 | 0, y :: r => (none, y :: r)
 | g + 1, y :: r => (pDecl f (y :: r)).bind fun d r => (pDecls f g r).bind fun ds r => (some (d :: ds), r)
def pSrc (f : Nat) (l : List KT) : PR (Sr × List Nat) :=
 (pUses f l).bind fun us r => (pDecls f f r).bind fun ds r => (some (⟨us, ds.map Prod.fst⟩, ds.map Prod.snd), r)
theorem labelT_ok {s : ByteArray} (h : labelL s.data.toList = true) : labelT (lbT s) = true := by
 unfold labelT lbT
 rw [h]
 split <;> rfl
theorem pUse_tk {s : ByteArray} (h : labelL s.data.toList = true) (f : Nat) (r : List KT) : pUses (f + 1) (tkU s ++ r) = (pUses f r).bind fun us r => (some (s :: us), r) := by
 show pUses (f + 1) (wd wUse :: lbT s :: sg [59] :: r) = _
 rw [pUses, if_pos (by rfl), List.tail_cons, pLab, if_pos (labelT_ok h), PR.bind_some, eatT_ok, PR.bind_some]
 rfl
theorem pUses_tk : ∀ (l : List ByteArray) (f : Nat) (r : List KT), (∀ s ∈ l, labelL s.data.toList = true) → l.length < f → r.head? ≠ some (wd wUse) → pUses f ((l.map tkU).flatten ++ r) = (some l, r)
 | [], f + 1, r, _, _, hr => by
  rw [List.map_nil, List.flatten_nil, List.nil_append, pUses, if_neg hr]
 | s :: l, f + 1, r, h, hf, hr => by
  rw [List.map_cons, List.flatten_cons, List.append_assoc, pUse_tk (h s (by simp)), pUses_tk l f r (fun t ht => h t (by simp [ht])) (by simpa using hf) hr]
  rfl
theorem nil_ne {s : ByteArray} (h : nameB s = true) : s ≠ ⟨#[]⟩ := by
 rintro rfl
 exact absurd h (by decide)
theorem pSide_tk {s : ByteArray} (h : nameB s = true ∨ s = ⟨#[]⟩) (r : List KT) : pSide (nilT s :: r) = (some s, r) := by
 rcases h with h | rfl
 ·have e : nilT s = nmT s := by unfold nilT nilS; rw [if_neg (nil_ne h)]
  rw [e, pSide, if_neg (nm_ne h (by decide)), pName_ok h]
 ·rw [pSide, if_pos (by rfl)]
theorem pNames_tk {l : List ByteArray} (hl : l.length = 1 ∨ l.length = 3) (h : ∀ s ∈ l, nameB s = true ∨ (l.length = 3 ∧ s = ⟨#[]⟩)) {r : List KT} (hr : r.head? ≠ some (sg [124, 124])) : pNames (namesT l ++ r) = (some l, r) := by
 match l, hl with
 | [a], _ =>
  have ha := h a (by simp)
  have ha : nameB a = true := by
   rcases ha with ha | ⟨ha, _⟩
   ·exact ha
   ·simp at ha
  show pNames (nilT a :: r) = _
  rw [pNames, pSide_tk (.inl ha), PR.bind_some, if_pos ⟨nil_ne ha, hr⟩]
 | [a, b, c], _ =>
  have ha := (h a (by simp)).imp id And.right
  have hb := (h b (by simp)).imp id And.right
  have hc := (h c (by simp)).imp id And.right
  show pNames (nilT a :: sg [124, 124] :: nilT b :: sg [124, 124] :: nilT c :: r) = _
  rw [pNames, pSide_tk ha, PR.bind_some, if_neg (by rintro ⟨_, h⟩; exact h rfl), eatT_ok, PR.bind_some, pSide_tk hb, PR.bind_some, eatT_ok, PR.bind_some, pSide_tk hc, PR.bind_some]
theorem pId_tk {i : Int} (h : 0 ≤ i ∧ i ≤ 999999) {r : List KT} (hr : r.head? ≠ some (sg [64])) : pId (idT i ++ r) = (some i, r) := by
 unfold idT
 split
 ·rename_i h0; subst h0; rw [List.nil_append, pId, if_neg hr]
 ·rename_i h0
  show pId (sg [64] :: nuT i :: r) = _
  rw [pId, if_pos (by rfl), List.tail_cons, pPos, if_pos ⟨numT_ok (by omega) (by omega), by rw [(itoa_number (by omega) (by omega)).2]; exact h0⟩, (itoa_number (by omega) (by omega)).2]
theorem idT_head (i : Int) (_l r : List KT) : (idT i ++ sg [61] :: r).head? ≠ some (sg [124, 124]) := by
 unfold idT; split <;> simp
theorem pKind_tk {k : Int} (h : 1 ≤ k ∧ k ≤ 3) (r : List KT) : pKind (wd (kW k) :: r) = (some k, r) := by
 obtain rfl | rfl | rfl : k = 1 ∨ k = 2 ∨ k = 3 := by omega
 ·rw [pKind, if_pos (by rfl)]
 ·rw [pKind, if_neg (by decide), if_pos (by rfl)]
 ·rw [pKind, if_neg (by decide), if_neg (by decide), if_pos (by rfl)]
theorem kW_ne (k : Int) : kW k ≠ wConflict ∧ kW k ≠ wPub ∧ kW k ≠ wUse := by
 unfold kW; split
 ·decide
 ·split <;> decide
theorem pBody_tk {x : Dc} (h : OkD x) {f : Nat} (hf : depthE x.body ≤ f) (r : List KT) : pBody f x.doubt x.pub (tkB x ++ r) = (some (x, (tkB x ++ r).length - 1), r) := by
 have e : tkB x ++ r = wd (kW x.kind) :: (namesT x.names ++ (idT x.id ++ sg [61] :: (tkE x.body ++ sg [59] :: r))) := by simp [tkB]
 rw [e, pBody, pKind_tk h.kind, PR.bind_some, pNames_tk h.len h.nm (idT_head _ [] _), PR.bind_some, pId_tk h.id (by simp), PR.bind_some, eatT_ok, PR.bind_some, pE_tk h.vt f _ hf (by simp), PR.bind_some, eatT_ok, PR.bind_some]
 rfl
theorem pFlag_tk {b : Bool} {w : List UInt8} {r : List KT} (hr : r.head? ≠ some (wd w)) : pFlag w (tkP b w ++ r) = (b, r) := by
 unfold pFlag tkP
 cases b with
 | false => exact if_neg hr
 | true => exact if_pos rfl
theorem tkB_head (x : Dc) (r : List KT) {w : List UInt8} (h : kW x.kind ≠ w) : (tkB x ++ r).head? ≠ some (wd w) := by
 show some (wd (kW x.kind)) ≠ some (wd w)
 intro e
 injection e with e
 injection e with _ e
 exact h e
theorem tkP_head (b : Bool) {w v : List UInt8} (hw : w ≠ v) {r : List KT} (hr : r.head? ≠ some (wd v)) : (tkP b w ++ r).head? ≠ some (wd v) := by
 cases b with
 | false => exact hr
 | true =>
  show some (wd w) ≠ some (wd v)
  intro e
  injection e with e
  injection e with _ e
  exact hw e
theorem tkD_head (x : Dc) (r : List KT) : (tkD x ++ r).head? ≠ some (wd wUse) := by
 unfold tkD
 rw [List.append_assoc, List.append_assoc]
 exact tkP_head _ (by decide) (tkP_head _ (by decide) (tkB_head x r (kW_ne _).2.2))
theorem pDecl_tk {x : Dc} (h : OkD x) {f : Nat} (hf : depthE x.body ≤ f) (r : List KT) : ∃ n, pDecl f (tkD x ++ r) = (some (x, n), r) := by
 refine ⟨(tkB x ++ r).length - 1, ?_⟩
 unfold tkD
 rw [List.append_assoc, List.append_assoc, pDecl, pFlag_tk (tkP_head _ (by decide) (tkB_head x r (kW_ne _).1)), pFlag_tk (tkB_head x r (kW_ne _).2.1)]
 exact pBody_tk h hf r
theorem tkD_cons (x : Dc) (r : List KT) : ∃ y q, tkD x ++ r = y :: q := by
 cases h : tkD x ++ r with
 | nil =>
  have := congrArg List.length h
  simp [tkD, tkB] at this
 | cons y q => exact ⟨y, q, rfl⟩
theorem pDecls_tk (f : Nat) : ∀ (l : List Dc) (g : Nat), (∀ x ∈ l, OkD x ∧ depthE x.body ≤ f) → l.length ≤ g → ∃ ds, pDecls f g (l.map tkD).flatten = (some ds, []) ∧ ds.map Prod.fst = l
 | [], g, _, _ => ⟨[], by rw [List.map_nil, List.flatten_nil]; cases g <;> rfl, rfl⟩
 | x :: l, g + 1, h, hg => by
  obtain ⟨ds, h1, h2⟩ := pDecls_tk f l g (fun y hy => h y (by simp [hy])) (by simpa using hg)
  obtain ⟨n, h3⟩ := pDecl_tk (h x (by simp)).1 (h x (by simp)).2 (l.map tkD).flatten
  obtain ⟨y, q, h4⟩ := tkD_cons x (l.map tkD).flatten
  refine ⟨(x, n) :: ds, ?_, by rw [List.map_cons, h2]⟩
  rw [List.map_cons, List.flatten_cons, h4, pDecls, ← h4, h3, PR.bind_some, h1, PR.bind_some]
theorem pSrc_tk {x : Sr} (h : OkSr x) {f : Nat} (h1 : x.uses.length < f) (h2 : x.decls.length ≤ f) (h3 : ∀ d ∈ x.decls, depthE d.body ≤ f) : ∃ ps, pSrc f (tkS x) = (some (x, ps), []) := by
 obtain ⟨ds, e1, e2⟩ := pDecls_tk f x.decls f (fun d hd => ⟨h.dec d hd, h3 d hd⟩) h2
 have hh : (x.decls.map tkD).flatten.head? ≠ some (wd wUse) := by
  cases hd : x.decls with
  | nil => simp
  | cons d l => rw [List.map_cons, List.flatten_cons]; exact tkD_head d _
 refine ⟨ds.map Prod.snd, ?_⟩
 unfold pSrc tkS
 rw [pUses_tk x.uses f _ h.lab h1 hh, PR.bind_some, e1, PR.bind_some, e2]
end Go.Proofs.YtnnolijagpakiaaGreatDoor
