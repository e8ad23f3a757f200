/- Lists of strings: Has, With, SameStrings of the reference of layer 21, walked. With, free and Free of the reference of layer 21, walked. Kinds, free and Decimal of the reference of layer 21, walked. Decimal of the reference of layer 21, walked. text of the reference of layer 21: plain. -/
import Derived.Test.YtnphcjpccieljaaGreatDoorTrS
import Derived.Test.YtnphcjpccieljaaGreatDoorGEnc
import Derived.Lib.ItoaNum
import Derived.Lib.ItoaLen
namespace Go.Proofs.YtnphcjpccieljaaGreatDoor
open Go Go.RowKit
def encS (l : List ByteArray) : List (List D) := l.map fun s => [.raw (.string s)]
theorem encS_length (l : List ByteArray) : (encS l).length = l.length := by simp [encS]
theorem encS_at (l : List ByteArray) (i : Nat) (h : i < l.length) : (encS l).getD i [] = [.raw (.string l[i])] := by
  simp [encS, List.getD_eq_getElem?_getD, h]
theorem encS_fit (l : List ByteArray) : rowsFit 1 (encS l) := by
  intro r hr
  obtain ⟨s, _, rfl⟩ := List.mem_map.1 hr
  exact ⟨rfl, fun x hx => by simp at hx; subst hx; rfl⟩
theorem encS_append (a b : List ByteArray) : encS a ++ encS b = encS (a ++ b) := by simp [encS]
theorem encS_take (l : List ByteArray) (n : Nat) : (encS l).take n = encS (l.take n) := by simp [encS]
theorem encS_drop (l : List ByteArray) (n : Nat) : (encS l).drop n = encS (l.drop n) := by simp [encS]
theorem encS_row (l : List ByteArray) : ∀ r ∈ encS l, r.length = 1 := fun r hr => (encS_fit l r hr).1
def hasS (l : List ByteArray) (s : ByteArray) : Bool := l.any fun x => decide (x = s)
theorem hasS_take_succ (l : List ByteArray) (s : ByteArray) (q : Nat) (h : q < l.length) : hasS (l.take (q + 1)) s = (hasS (l.take q) s || decide (l[q] = s)) := by
  rw [List.take_succ_eq_append_getElem h, hasS, hasS, List.any_append]; simp
theorem hasS_of {l : List ByteArray} {s : ByteArray} {q : Nat} (h : q < l.length) (e : l[q] = s) : hasS l s = true := List.any_eq_true.2 ⟨l[q], List.getElem_mem h, by simp [e]⟩
abbrev hasSt (l : List ByteArray) (s : ByteArray) (q : Nat) : St := ⟨[(0, .d (.sl (encS l))), (1, .d (.raw (.string s))), (5, .d (.raw (.int .i64 q)))], [], []⟩
set_option maxRecDepth 100000 in
set_option maxHeartbeats 4000000 in
theorem rHas_c (l : List ByteArray) (s : ByteArray) (hl : l.length ≤ 1048576) : Con Tryz.prog 54 [.d (.sl (encS l)), .d (.raw (.string s))] (.d (.raw (.bool (hasS l s)))) := by
  refine con_of Tryz.func54 rfl (by decide +kernel) rfl rfl (by simp [Tryz.ntmps54]) fun A hA => ?_
  rw [Tryz.ntmps54] at hA
  refine goC 300 ?_
  simp only [go_sem, hA]
  refine satC_loop [0, 1, 5] [] [] (fun x σ => ∃ q : Nat, q ≤ l.length ∧ x = l.length - q ∧ hasS (l.take q) s = false ∧ σ = hasSt l s q) l.length ⟨0, by omega, by omega, rfl, by simp only [go_sem, hasSt]⟩ ?_
  rintro x σ ⟨q, hq, rfl, hf, rfl⟩
  refine goC 300 ?_
  by_cases hlt : q < l.length
  · have g1 : decide ((q : Int) < (l.length : Int)) = true := decide_eq_true (by omega)
    by_cases he : l[q] = s
    · have g2 : decide (l[q] = s) = true := decide_eq_true he
      simp only [go_sem, hA, hasSt, encS_length, g1, Int.toNat_natCast, encS_at l q hlt, g2, Tryz.results54, hasS_of hlt he]
      exact ⟨by omega, by omega⟩
    · have g2 : decide (l[q] = s) = false := decide_eq_false he
      simp only [go_sem, hA, hasSt, encS_length, g1, Int.toNat_natCast, encS_at l q hlt, g2]
      exact ⟨⟨by omega, by omega⟩, by unfold inI64; omega, l.length - (q + 1), by omega, q + 1, by omega, rfl, by rw [hasS_take_succ l s q hlt, hf, g2]; rfl, rfl⟩
  · have g1 : decide ((q : Int) < (l.length : Int)) = false := decide_eq_false (by omega)
    obtain rfl : q = l.length := by omega
    rw [List.take_length] at hf
    simp only [go_sem, hA, hasSt, encS_length, g1, Tryz.results54, hf]
def sameS : List ByteArray → List ByteArray → Bool
  | [], [] => true
  | x :: xs, y :: ys => decide (x = y) && sameS xs ys
  | _, _ => false
theorem sameS_iff : ∀ a b : List ByteArray, sameS a b = true ↔ a = b
  | [], [] => by simp [sameS]
  | x :: xs, y :: ys => by simp only [sameS, Bool.and_eq_true, decide_eq_true_eq, sameS_iff xs ys, List.cons.injEq]
  | [], y :: ys => by simp [sameS]
  | x :: xs, [] => by simp [sameS]
theorem sameS_false {a b : List ByteArray} (h : a ≠ b) : sameS a b = false := by
  cases hc : sameS a b
  · rfl
  · exact absurd ((sameS_iff a b).1 hc) h
theorem sameS_refl (a : List ByteArray) : sameS a a = true := (sameS_iff a a).2 rfl
abbrev ssSt (l m : List ByteArray) (q : Nat) : St := ⟨[(0, .d (.sl (encS l))), (1, .d (.sl (encS m))), (5, .d (.raw (.int .i64 q)))], [], []⟩
set_option maxRecDepth 100000 in
set_option maxHeartbeats 4000000 in
theorem rSameStrings_c (l m : List ByteArray) (hl : l.length ≤ 1048576) : Con Tryz.prog 24 [.d (.sl (encS l)), .d (.sl (encS m))] (.d (.raw (.bool (sameS l m)))) := by
  refine con_of Tryz.func24 rfl (by decide +kernel) rfl rfl (by simp [Tryz.ntmps24]) fun A hA => ?_
  rw [Tryz.ntmps24] at hA
  refine goC 300 ?_
  by_cases hlm : l.length = m.length
  · have g0 : (decide ¬ (l.length : Int) = (m.length : Int)) = false := decide_eq_false (by omega)
    simp only [go_sem, hA, encS_length, g0]
    refine satC_loop [0, 1, 5] [] [] (fun x σ => ∃ q : Nat, q ≤ l.length ∧ x = l.length - q ∧ l.take q = m.take q ∧ σ = ssSt l m q) l.length ⟨0, by omega, by omega, rfl, by simp only [go_sem, ssSt]⟩ ?_
    rintro x σ ⟨q, hq, rfl, hf, rfl⟩
    refine goC 300 ?_
    by_cases hlt : q < l.length
    · have g1 : decide ((q : Int) < (l.length : Int)) = true := decide_eq_true (by omega)
      by_cases he : l[q] = m[q]
      · have g2 : (decide ¬ l[q] = m[q]) = false := decide_eq_false (by simp [he])
        simp only [go_sem, hA, ssSt, encS_length, g1, Int.toNat_natCast, encS_at l q hlt, encS_at m q (by omega), g2, mixed]
        exact ⟨⟨by omega, by omega⟩, ⟨by omega, by omega⟩, by kernel_rfl, by unfold inI64; omega, l.length - (q + 1), by omega, q + 1, by omega, rfl, by rw [List.take_succ_eq_append_getElem hlt, List.take_succ_eq_append_getElem (show q < m.length by omega), hf, he], rfl⟩
      · have g2 : (decide ¬ l[q] = m[q]) = true := decide_eq_true he
        have hne : sameS l m = false := sameS_false fun e => he (by simp [e])
        simp only [go_sem, hA, ssSt, encS_length, g1, Int.toNat_natCast, encS_at l q hlt, encS_at m q (by omega), g2, mixed, Tryz.results24, hne]
        exact ⟨⟨by omega, by omega⟩, ⟨by omega, by omega⟩, by kernel_rfl⟩
    · have g1 : decide ((q : Int) < (l.length : Int)) = false := decide_eq_false (by omega)
      obtain rfl : q = l.length := by omega
      have he : l = m := by rw [List.take_length, List.take_of_length_le (by omega)] at hf; exact hf
      have hs : sameS l m = true := (sameS_iff _ _).2 he
      simp only [go_sem, hA, ssSt, encS_length, g1, Tryz.results24, hs]
  · have g0 : (decide ¬ (l.length : Int) = (m.length : Int)) = true := decide_eq_true (by omega)
    have hne : sameS l m = false := sameS_false fun e => hlm (by rw [e])
    simp only [go_sem, hA, encS_length, g0, Tryz.results24, hne]
end Go.Proofs.YtnphcjpccieljaaGreatDoor


namespace Go.Proofs.YtnphcjpccieljaaGreatDoor
open Go Go.RowKit
def ltS (a b : ByteArray) : Bool := Op.bytesLess a.data.toList b.data.toList
/-- where s belongs -/
def posS (l : List ByteArray) (s : ByteArray) : Nat := (l.takeWhile fun x => ltS x s).length
def withS (l : List ByteArray) (s : ByteArray) : List ByteArray := if l[posS l s]? = some s then l else l.take (posS l s) ++ [s] ++ l.drop (posS l s)
theorem posS_le (l : List ByteArray) (s : ByteArray) : posS l s ≤ l.length := (List.takeWhile_sublist _).length_le
theorem encS_one (s : ByteArray) : [[D.raw (Value.string s)]] = encS [s] := rfl
theorem withS_length (l : List ByteArray) (s : ByteArray) : (withS l s).length ≤ l.length + 1 := by
  have := posS_le l s
  unfold withS
  split
  · omega
  · simp; omega
/-- the leading elements are smaller -/
theorem posS_stop {l : List ByteArray} {s : ByteArray} {q : Nat} (hq : q ≤ l.length) (h : ∀ i (hi : i < q), ltS (l[i]'(by omega)) s = true) (hn : q = l.length ∨ ∃ h : q < l.length, ltS l[q] s = false) : posS l s = q := by
  unfold posS
  induction l generalizing q with
  | nil => simp at hq; simp [hq]
  | cons x xs ih =>
    cases q with
    | zero =>
      rcases hn with hn | ⟨_, hn⟩
      · simp at hn
      · simp only [List.getElem_cons_zero] at hn
        rw [List.takeWhile_cons, hn]; rfl
    | succ q =>
      have h0 := h 0 (by omega)
      simp only [List.getElem_cons_zero] at h0
      rw [List.takeWhile_cons, h0]
      simp only [if_true, List.length_cons]
      rw [ih (by simpa using hq) (fun i hi => by have := h (i + 1) (by omega); simpa using this) (by
        rcases hn with hn | ⟨h1, hn⟩
        · left; simpa using hn
        · right; exact ⟨by simpa using h1, by simpa using hn⟩)]
abbrev wiSt (l : List ByteArray) (s : ByteArray) (q : Nat) : St := ⟨[(0, .d (.sl (encS l))), (1, .d (.raw (.string s))), (5, .d (.raw (.int .i64 q)))], [], []⟩
set_option maxRecDepth 100000 in
set_option maxHeartbeats 4000000 in
theorem rWith_c (l : List ByteArray) (s : ByteArray) (hl : l.length ≤ 1048576) : Con Tryz.prog 23 [.d (.sl (encS l)), .d (.raw (.string s))] (.d (.sl (encS (withS l s)))) := by
  refine con_of Tryz.func23 rfl (by decide +kernel) rfl rfl (by simp [Tryz.ntmps23]) fun A hA => ?_
  rw [Tryz.ntmps23] at hA
  refine goC 300 ?_
  simp only [go_sem, hA]
  refine satC_loop [0, 1, 5] [] [] (fun x σ => ∃ q : Nat, q ≤ l.length ∧ x = l.length - q ∧ (∀ i (hi : i < q) (hi' : i < l.length), ltS l[i] s = true) ∧ σ = wiSt l s q) l.length ⟨0, by omega, by omega, by omega, by simp only [go_sem, wiSt]⟩ ?_
  rintro x σ ⟨q, hq, rfl, hf, rfl⟩
  refine goC 300 ?_
  by_cases hlt : q < l.length
  · have g1 : decide ((q : Int) < (l.length : Int)) = true := decide_eq_true (by omega)
    cases he : ltS l[q] s with
    | true =>
      have g2 : Op.bytesLess l[q].data.toList s.data.toList = true := he
      simp only [go_sem, hA, wiSt, encS_length, g1, Int.toNat_natCast, encS_at l q hlt, g2]
      refine ⟨⟨by omega, by omega⟩, by unfold inI64; omega, l.length - (q + 1), by omega, q + 1, by omega, rfl, fun i hi hi' => ?_, rfl⟩
      by_cases e : i < q
      · exact hf i e hi'
      · obtain rfl : i = q := by omega
        exact he
    | false =>
      have g2 : Op.bytesLess l[q].data.toList s.data.toList = false := he
      have hp := posS_stop hq (fun i hi => hf i hi (by omega)) (.inr ⟨hlt, he⟩)
      by_cases hs : l[q] = s
      · have g3 : decide (l[q] = s) = true := decide_eq_true hs
        have hw : withS l s = l := by unfold withS; rw [hp, if_pos (by simp [hlt, hs])]
        simp only [go_sem, hA, wiSt, encS_length, g1, Int.toNat_natCast, encS_at l q hlt, g2, g3, hw, Tryz.results23]
        exact ⟨⟨by omega, by omega⟩, by omega, by omega⟩
      · have g3 : decide (l[q] = s) = false := decide_eq_false hs
        have hw : withS l s = l.take q ++ [s] ++ l.drop q := by unfold withS; rw [hp, if_neg (by simp [hlt, hs])]
        simp only [go_sem, hA, wiSt, encS_length, g1, Int.toNat_natCast, encS_at l q hlt, g2, g3, hw, Tryz.results23]
        simp only [encS_one, encS_take, encS_drop, encS_append, encS_length, List.take_length]
        have hql : (l.take q).length = q := by simp; omega
        exact ⟨⟨by omega, by omega⟩, ⟨by omega, by omega⟩, ⟨encS_row _, by omega, by omega⟩, ⟨encS_fit _, (fun r hr => by cases hr), by omega⟩, ⟨by omega, encS_fit _, encS_row _, by omega⟩, ⟨encS_row _, by omega, by omega, Int.le_refl _⟩, ⟨by simp, encS_fit _, encS_row _, by simp; omega⟩, trivial⟩
  · have g1 : decide ((q : Int) < (l.length : Int)) = false := decide_eq_false (by omega)
    obtain rfl : q = l.length := by omega
    have hp := posS_stop (Nat.le_refl _) (fun i hi => hf i hi hi) (.inl rfl)
    have hw : withS l s = l.take l.length ++ [s] ++ l.drop l.length := by unfold withS; rw [hp, if_neg (by simp)]
    simp only [go_sem, hA, wiSt, encS_length, g1, hw, Int.toNat_natCast, Tryz.results23]
    simp only [encS_one, encS_take, encS_drop, encS_append, encS_length, List.take_length]
    exact ⟨⟨encS_row _, by omega, by omega⟩, ⟨encS_fit _, (fun r hr => by cases hr), by omega⟩, ⟨by omega, encS_fit _, encS_row _, by omega⟩, ⟨encS_row _, by omega, by omega, Int.le_refl _⟩, ⟨by simp, encS_fit _, encS_row _, by simp; omega⟩, trivial⟩
end Go.Proofs.YtnphcjpccieljaaGreatDoor

namespace Go.Proofs.YtnphcjpccieljaaGreatDoor
open Go Go.RowKit
mutual
def kindsE (k : Int) : Ex → Bool
  | .mk k' _ _ _ _ s => decide (k' = k) || kindsL k s
def kindsL (k : Int) : List Ex → Bool
  | [] => false
  | e :: es => kindsE k e || kindsL k es
end
theorem kindsL_take_succ (k : Int) (l : List Ex) (q : Nat) (h : q < l.length) : kindsL k (l.take (q + 1)) = (kindsL k (l.take q) || kindsE k l[q]) := by
  have app : ∀ a b : List Ex, kindsL k (a ++ b) = (kindsL k a || kindsL k b) := fun a b => by
    induction a with
    | nil => simp [kindsL]
    | cons x xs ih => simp only [List.cons_append, kindsL, ih, Bool.or_assoc]
  rw [List.take_succ_eq_append_getElem h, app]
  simp [kindsL]
theorem kindsL_of (k : Int) (l : List Ex) (q : Nat) (h : q < l.length) (he : kindsE k l[q] = true) : kindsL k l = true := by
  induction l generalizing q with
  | nil => simp at h
  | cons x xs ih =>
    cases q with
    | zero => simp only [List.getElem_cons_zero] at he; simp [kindsL, he]
    | succ q => simp only [List.getElem_cons_succ] at he; simp [kindsL, ih q (by simpa using h) he]
abbrev cellsX (k : Int) (n m : ByteArray) (i d : Int) (s : List Ex) : List AV := [.d (.raw (.int .i64 k)), .d (.raw (.string n)), .d (.raw (.string m)), .d (.raw (.int .i64 i)), .d (.raw (.int .i64 d)), .d (.sl (encL s))]
abbrev kiSt (k : Int) (n m : ByteArray) (i d : Int) (s : List Ex) (kk : Int) (q : Nat) : St := ⟨[(1, .d (.raw (.int .i64 kk))), (2, .box 0 0), (5, .d (.raw (.int .i64 q)))], [(0, some (.cell 35 (cellsX k n m i d s)))], []⟩
set_option maxRecDepth 100000 in
set_option maxHeartbeats 4000000 in
theorem rKinds_step (N : Nat) (kk : Int) (ih : ∀ t : Ex, nodesE t < N → nodesE t ≤ 1048576 → Con Tryz.prog 48 [avE t, .d (.raw (.int .i64 kk))] (.d (.raw (.bool (kindsE kk t)))))
    (k : Int) (n m : ByteArray) (i d : Int) (s : List Ex) (hN : nodesE (.mk k n m i d s) < N + 1) (hb : nodesE (.mk k n m i d s) ≤ 1048576) : Con Tryz.prog 48 [avE (.mk k n m i d s), .d (.raw (.int .i64 kk))] (.d (.raw (.bool (kindsE kk (.mk k n m i d s))))) := by
  rw [nodesE] at hN hb
  have hlen := length_le_nodesL s
  refine con_of Tryz.func48 rfl (by decide +kernel) rfl (by simp only [AV.closed, closedL, avE, closedL_d, Bool.and_self]) (by simp [Tryz.ntmps48]) fun A hA => ?_
  rw [Tryz.ntmps48] at hA
  refine goC 300 ?_
  by_cases hk : k = kk
  · have g0 : decide (k = kk) = true := decide_eq_true hk
    simp only [go_sem, hA, avE, encE, g0, kindsE, Bool.true_or, Tryz.results48]
  · have g0 : decide (k = kk) = false := decide_eq_false hk
    simp only [go_sem, hA, avE, encE, g0, kindsE]
    refine satC_loop [1, 2, 5] [0] [] (fun x σ => ∃ q : Nat, q ≤ s.length ∧ x = s.length - q ∧ kindsL kk (s.take q) = false ∧ σ = kiSt k n m i d s kk q) s.length ⟨0, by omega, by omega, rfl, by simp only [go_sem, kiSt]⟩ ?_
    rintro x σ ⟨q, hq, rfl, hf, rfl⟩
    refine goC 300 ?_
    by_cases hlt : q < s.length
    · have g1 : decide ((q : Int) < (s.length : Int)) = true := decide_eq_true (by omega)
      have hn1 := nodesL_get s q hlt
      have hc := ih s[q] (by omega) (by omega)
      simp only [go_sem, hA, kiSt, encL_length, g1, Int.toNat_natCast, encL_at s q hlt]
      refine ⟨⟨by omega, by omega⟩, ?_⟩
      cases he : kindsE kk s[q] with
      | true =>
        rw [he] at hc
        refine goCall 300 hc rfl (by simp only [go_sem, avE_eq]) (by simp only [go_sem, hA]) ?_
        simp only [go_sem, hA, Tryz.results48, kindsL_of kk s q hlt he]
      | false =>
        rw [he] at hc
        refine goCall 300 hc rfl (by simp only [go_sem, avE_eq]) (by simp only [go_sem, hA]) ?_
        simp only [go_sem, hA]
        exact ⟨by unfold inI64; omega, s.length - (q + 1), by omega, q + 1, by omega, rfl, by rw [kindsL_take_succ kk s q hlt, hf, he]; rfl, rfl⟩
    · have g1 : decide ((q : Int) < (s.length : Int)) = false := decide_eq_false (by omega)
      obtain rfl : q = s.length := by omega
      rw [List.take_length] at hf
      simp only [go_sem, hA, kiSt, encL_length, g1, Tryz.results48, hf]
theorem rKinds_c (kk : Int) (N : Nat) : ∀ t : Ex, nodesE t < N → nodesE t ≤ 1048576 → Con Tryz.prog 48 [avE t, .d (.raw (.int .i64 kk))] (.d (.raw (.bool (kindsE kk t)))) := by
  induction N with
  | zero => intro t h; omega
  | succ N ih => intro t h hb; cases t; exact rKinds_step N kk ih _ _ _ _ _ _ h hb
/-- the names that are bound within part number i -/
def boundB (k : Int) (n m : ByteArray) (i : Nat) (bd : List ByteArray) : List ByteArray :=
  if k = 6 then bd ++ [n] else if k = 8 then (if i = 1 then bd ++ [n] else bd) else if k = 13 then (if i = 2 then bd ++ [n, m] else bd) else bd
theorem boundB_length (k : Int) (n m : ByteArray) (i : Nat) (bd : List ByteArray) : (boundB k n m i bd).length ≤ bd.length + 2 := by
  unfold boundB
  split
  · simp
  split
  · split <;> simp
  split
  · split <;> simp
  · simp
theorem encS_one_fit (n : ByteArray) : rowsFit 1 [[D.raw (Value.string n)]] := encS_fit [n]
theorem encS_two_fit (n m : ByteArray) : rowsFit 1 [[D.raw (Value.string n)], [D.raw (Value.string m)]] := encS_fit [n, m]
mutual
def freeE : Ex → List ByteArray → List ByteArray → List ByteArray
  | .mk k n m _ _ s, bd, l => if k = 3 ∧ hasS bd n = false then withS l n else freeL k n m 0 s bd l
def freeL (k : Int) (n m : ByteArray) : Nat → List Ex → List ByteArray → List ByteArray → List ByteArray
  | _, [], _, l => l
  | i, e :: es, bd, l => freeL k n m (i + 1) es bd (freeE e (boundB k n m i bd) l)
end
theorem freeL_append (k : Int) (n m : ByteArray) : ∀ (i : Nat) (a b : List Ex) (bd l : List ByteArray), freeL k n m i (a ++ b) bd l = freeL k n m (i + a.length) b bd (freeL k n m i a bd l)
  | i, [], b, bd, l => by simp [freeL]
  | i, e :: es, b, bd, l => by
    simp only [List.cons_append, freeL, freeL_append k n m (i + 1) es b, List.length_cons]
    rw [show i + 1 + es.length = i + (es.length + 1) by omega]
theorem freeL_take_succ (k : Int) (n m : ByteArray) (s : List Ex) (bd l : List ByteArray) (q : Nat) (h : q < s.length) : freeL k n m 0 (s.take (q + 1)) bd l = freeE s[q] (boundB k n m q bd) (freeL k n m 0 (s.take q) bd l) := by
  rw [List.take_succ_eq_append_getElem h, freeL_append]
  simp only [freeL, List.length_take, Nat.zero_add]
  rw [Nat.min_eq_left (by omega)]
mutual
theorem freeE_length : ∀ (t : Ex) (bd l : List ByteArray), (freeE t bd l).length ≤ l.length + nodesE t
  | .mk k n m i d s, bd, l => by
    rw [freeE, nodesE]
    split
    · have := withS_length l n; omega
    · have := freeL_length k n m 0 s bd l; omega
theorem freeL_length (k : Int) (n m : ByteArray) : ∀ (i : Nat) (s : List Ex) (bd l : List ByteArray), (freeL k n m i s bd l).length ≤ l.length + nodesL s
  | i, [], bd, l => by rw [freeL, nodesL]; omega
  | i, e :: es, bd, l => by
    rw [freeL, nodesL]
    have h1 := freeL_length k n m (i + 1) es bd (freeE e (boundB k n m i bd) l)
    have h2 := freeE_length e (boundB k n m i bd) l
    omega
end
abbrev frSt (k : Int) (n m : ByteArray) (i d : Int) (s : List Ex) (bd l : List ByteArray) (q : Nat) : St := ⟨[(1, .d (.sl (encS bd))), (2, .d (.sl (encS (freeL k n m 0 (s.take q) bd l)))), (3, .box 0 0), (7, .d (.raw (.int .i64 q)))], [(0, some (.cell 35 (cellsX k n m i d s)))], []⟩
set_option maxRecDepth 100000 in
set_option maxHeartbeats 8000000 in
theorem rfree_step (N : Nat) (ih : ∀ (t : Ex) (bd l : List ByteArray), nodesE t < N → 2 * nodesE t + bd.length ≤ 1048576 → nodesE t + l.length ≤ 1048576 → Con Tryz.prog 62 [avE t, .d (.sl (encS bd)), .d (.sl (encS l))] (.d (.sl (encS (freeE t bd l)))))
    (k : Int) (n m : ByteArray) (i d : Int) (s : List Ex) (bd l : List ByteArray) (hN : nodesE (.mk k n m i d s) < N + 1) (hb : 2 * nodesE (.mk k n m i d s) + bd.length ≤ 1048576) (hl : nodesE (.mk k n m i d s) + l.length ≤ 1048576) :
    Con Tryz.prog 62 [avE (.mk k n m i d s), .d (.sl (encS bd)), .d (.sl (encS l))] (.d (.sl (encS (freeE (.mk k n m i d s) bd l)))) := by
  rw [nodesE] at hN hb hl
  have hlen := length_le_nodesL s
  have cH := rHas_c bd n (by omega)
  have cW := rWith_c l n (by omega)
  refine con_of Tryz.func62 rfl (by decide +kernel) rfl (by simp only [AV.closed, closedL, avE, closedL_d, Bool.and_self]) (by simp [Tryz.ntmps62]) fun A hA => ?_
  rw [Tryz.ntmps62] at hA
  refine goC 300 ?_
  by_cases hv : k = 3 ∧ hasS bd n = false
  · obtain ⟨h3, hh⟩ := hv
    have g0 : decide (k = 3) = true := decide_eq_true h3
    rw [hh] at cH
    have hf : freeE (.mk k n m i d s) bd l = withS l n := by rw [freeE, if_pos ⟨h3, hh⟩]
    simp only [go_sem, hA, avE, encE, g0]
    refine goCall 300 cH rfl (by simp only [go_sem]) (by simp only [go_sem, hA]) ?_
    simp only [go_sem, hA]
    refine goCall 300 cW rfl (by simp only [go_sem]) (by simp only [go_sem, hA]) ?_
    simp only [go_sem, hA, hf, Tryz.results62]
  · have hf : freeE (.mk k n m i d s) bd l = freeL k n m 0 s bd l := by rw [freeE, if_neg hv]
    have h2 : ¬ k = 3 ∨ (k = 3 ∧ hasS bd n = true) := by
      by_cases h3 : k = 3
      · right
        refine ⟨h3, ?_⟩
        cases hh : hasS bd n
        · exact absurd ⟨h3, hh⟩ hv
        · rfl
      · exact .inl h3
    rcases h2 with h3 | ⟨h3, hh⟩
    case' inr =>
      have g0 : decide (k = 3) = true := decide_eq_true h3
      rw [hh] at cH
      simp only [go_sem, hA, avE, encE, g0]
      refine goCall 300 cH rfl (by simp only [go_sem]) (by simp only [go_sem, hA]) ?_
      simp only [go_sem, hA]
    case' inl =>
      have g0 : decide (k = 3) = false := decide_eq_false h3
      simp only [go_sem, hA, avE, encE, g0]
    all_goals
      refine satC_loop [1, 2, 3, 7] [0] [] (fun x σ => ∃ q : Nat, q ≤ s.length ∧ x = s.length - q ∧ σ = frSt k n m i d s bd l q) s.length ⟨0, by omega, by omega, by simp only [go_sem, frSt, List.take_zero, freeL]⟩ ?_
      rintro x σ ⟨q, hq, rfl, rfl⟩
      refine goC 300 ?_
      by_cases hlt : q < s.length
      · have g1 : decide ((q : Int) < (s.length : Int)) = true := decide_eq_true (by omega)
        have hn1 := nodesL_get s q hlt
        have hil := boundB_length k n m q bd
        have hac := freeL_length k n m 0 (s.take q) bd l
        have hnt : nodesL (s.take q) + nodesE s[q] ≤ nodesL s := by
          have h1 := nodesL_append (s.take (q + 1)) (s.drop (q + 1))
          rw [List.take_append_drop, List.take_succ_eq_append_getElem hlt, nodesL_append] at h1
          simp only [nodesL] at h1
          omega
        have hc := ih s[q] (boundB k n m q bd) (freeL k n m 0 (s.take q) bd l) (by omega) (by omega) (by omega)
        have hts := freeL_take_succ k n m s bd l q hlt
        have hfin : inI64 ((q : Int) + 1) ∧ ∃ n', n' < s.length - q ∧ ∃ q_1, q_1 ≤ s.length ∧ n' = s.length - q_1 ∧ frSt k n m i d s bd l (q + 1) = frSt k n m i d s bd l q_1 := ⟨by unfold inI64; omega, s.length - (q + 1), by omega, q + 1, by omega, rfl, rfl⟩
        simp only [go_sem, hA, frSt, encL_length, g1]
        refine ⟨⟨encS_fit _, (fun r hr => by cases hr), by rw [encS_length]; omega⟩, ?_⟩
        rcases (show k = 6 ∨ (k = 8 ∧ q = 1) ∨ (k = 8 ∧ ¬ q = 1) ∨ (k = 13 ∧ q = 2) ∨ (k = 13 ∧ ¬ q = 2) ∨ (¬ k = 6 ∧ ¬ k = 8 ∧ ¬ k = 13) by omega) with h | ⟨h, h'⟩ | ⟨h, h'⟩ | ⟨h, h'⟩ | ⟨h, h'⟩ | ⟨h, h', h''⟩
        · have d6 : decide (k = 6) = true := decide_eq_true (by omega)
          have hin : encS (boundB k n m q bd) = encS bd ++ [[.raw (.string n)]] := by rw [show boundB k n m q bd = bd ++ [n] by simp [boundB, h]]; simp [encS]
          simp only [go_sem, hA, d6, Int.toNat_natCast, encL_length, encL_at s q hlt]
          refine ⟨⟨by omega, encS_one_fit n, encS_row _, by rw [encS_length]; omega⟩, ⟨by omega, by omega⟩, goCall 300 hc rfl (by simp only [go_sem, avE_eq, hin]) (by simp only [go_sem, hA]) ?_⟩
          simp only [go_sem, hA]
          exact ⟨by unfold inI64; omega, s.length - (q + 1), by omega, q + 1, by omega, rfl, by rw [hts]; rfl⟩
        · have d6 : decide (k = 6) = false := decide_eq_false (by omega)
          have d8 : decide (k = 8) = true := decide_eq_true (by omega)
          have dq : decide ((q : Int) = 1) = true := decide_eq_true (by omega)
          have hin : encS (boundB k n m q bd) = encS bd ++ [[.raw (.string n)]] := by rw [show boundB k n m q bd = bd ++ [n] by simp [boundB, h, h']]; simp [encS]
          simp only [go_sem, hA, d6, d8, dq, Int.toNat_natCast, encL_length, encL_at s q hlt]
          refine ⟨⟨by omega, encS_one_fit n, encS_row _, by rw [encS_length]; omega⟩, ⟨by omega, by omega⟩, goCall 300 hc rfl (by simp only [go_sem, avE_eq, hin]) (by simp only [go_sem, hA]) ?_⟩
          simp only [go_sem, hA]
          exact ⟨by unfold inI64; omega, s.length - (q + 1), by omega, q + 1, by omega, rfl, by rw [hts]; rfl⟩
        · have d6 : decide (k = 6) = false := decide_eq_false (by omega)
          have d8 : decide (k = 8) = true := decide_eq_true (by omega)
          have d13 : decide (k = 13) = false := decide_eq_false (by omega)
          have dq : decide ((q : Int) = 1) = false := decide_eq_false (by omega)
          have hin : encS (boundB k n m q bd) = encS bd := by rw [show boundB k n m q bd = bd by simp [boundB, h, h']]
          simp only [go_sem, hA, d6, d8, d13, dq, Int.toNat_natCast, encL_length, encL_at s q hlt]
          refine ⟨⟨by omega, by omega⟩, goCall 300 hc rfl (by simp only [go_sem, avE_eq, hin]) (by simp only [go_sem, hA]) ?_⟩
          simp only [go_sem, hA]
          exact ⟨by unfold inI64; omega, s.length - (q + 1), by omega, q + 1, by omega, rfl, by rw [hts]; rfl⟩
        · have d6 : decide (k = 6) = false := decide_eq_false (by omega)
          have d8 : decide (k = 8) = false := decide_eq_false (by omega)
          have d13 : decide (k = 13) = true := decide_eq_true (by omega)
          have dq : decide ((q : Int) = 2) = true := decide_eq_true (by omega)
          have hin : encS (boundB k n m q bd) = encS bd ++ [[.raw (.string n)], [.raw (.string m)]] := by rw [show boundB k n m q bd = bd ++ [n, m] by simp [boundB, h, h']]; simp [encS]
          simp only [go_sem, hA, d6, d8, d13, dq, Int.toNat_natCast, encL_length, encL_at s q hlt]
          refine ⟨⟨by omega, encS_two_fit n m, encS_row _, by rw [encS_length]; omega⟩, ⟨by omega, by omega⟩, goCall 300 hc rfl (by simp only [go_sem, avE_eq, hin]) (by simp only [go_sem, hA]) ?_⟩
          simp only [go_sem, hA]
          exact ⟨by unfold inI64; omega, s.length - (q + 1), by omega, q + 1, by omega, rfl, by rw [hts]; rfl⟩
        · have d6 : decide (k = 6) = false := decide_eq_false (by omega)
          have d8 : decide (k = 8) = false := decide_eq_false (by omega)
          have d13 : decide (k = 13) = true := decide_eq_true (by omega)
          have dq : decide ((q : Int) = 2) = false := decide_eq_false (by omega)
          have hin : encS (boundB k n m q bd) = encS bd := by rw [show boundB k n m q bd = bd by simp [boundB, h, h']]
          simp only [go_sem, hA, d6, d8, d13, dq, Int.toNat_natCast, encL_length, encL_at s q hlt]
          refine ⟨⟨by omega, by omega⟩, goCall 300 hc rfl (by simp only [go_sem, avE_eq, hin]) (by simp only [go_sem, hA]) ?_⟩
          simp only [go_sem, hA]
          exact ⟨by unfold inI64; omega, s.length - (q + 1), by omega, q + 1, by omega, rfl, by rw [hts]; rfl⟩
        · have d6 : decide (k = 6) = false := decide_eq_false (by omega)
          have d8 : decide (k = 8) = false := decide_eq_false (by omega)
          have d13 : decide (k = 13) = false := decide_eq_false (by omega)
          have hin : encS (boundB k n m q bd) = encS bd := by rw [show boundB k n m q bd = bd by simp [boundB, h, h', h'']]
          simp only [go_sem, hA, d6, d8, d13, Int.toNat_natCast, encL_length, encL_at s q hlt]
          refine ⟨⟨by omega, by omega⟩, goCall 300 hc rfl (by simp only [go_sem, avE_eq, hin]) (by simp only [go_sem, hA]) ?_⟩
          simp only [go_sem, hA]
          exact ⟨by unfold inI64; omega, s.length - (q + 1), by omega, q + 1, by omega, rfl, by rw [hts]; rfl⟩
      · have g1 : decide ((q : Int) < (s.length : Int)) = false := decide_eq_false (by omega)
        obtain rfl : q = s.length := by omega
        simp only [go_sem, hA, frSt, encL_length, g1, Tryz.results62, hf, List.take_length]
end Go.Proofs.YtnphcjpccieljaaGreatDoor

namespace Go.Proofs.YtnphcjpccieljaaGreatDoor
open Go Go.RowKit
def itoaB (n : Int) : ByteArray := ⟨(Lib.itoa n).toArray⟩
theorem itoa_more {n : Int} (h : 10 ≤ n.natAbs) : Lib.itoa n = Lib.itoa (n.tdiv 10) ++ [UInt8.ofNat (48 + n.natAbs % 10)] := by
  have hd : Lib.decDigits n.natAbs = Lib.decDigits (n.natAbs / 10) ++ [UInt8.ofNat (48 + n.natAbs % 10)] := by rw [Lib.decDigits, dif_neg (by omega)]
  unfold Lib.itoa
  by_cases h0 : n < 0
  · have h1 : n.tdiv 10 < 0 := by
      rw [show n = -(n.natAbs : Int) by omega, Int.neg_tdiv, Int.tdiv_eq_ediv_of_nonneg (by omega)]; omega
    have h2 : (n.tdiv 10).natAbs = n.natAbs / 10 := by
      rw [Int.natAbs_tdiv]; rfl
    rw [if_pos h0, if_pos h1, h2, hd]; rfl
  · have h1 : ¬ n.tdiv 10 < 0 := by rw [Int.tdiv_eq_ediv_of_nonneg (by omega)]; omega
    have h2 : (n.tdiv 10).toNat = n.natAbs / 10 := by rw [Int.tdiv_eq_ediv_of_nonneg (by omega)]; omega
    have h3 : n.toNat = n.natAbs := by omega
    rw [if_neg h0, if_neg h1, h2, h3, hd]
theorem itoa_less {n : Int} (h : n.natAbs < 10) : Lib.itoa n = if n < 0 then [45, UInt8.ofNat (48 + n.natAbs)] else [UInt8.ofNat (48 + n.natAbs)] := by
  unfold Lib.itoa
  by_cases h0 : n < 0
  · rw [if_pos h0, if_pos h0, Lib.decDigits_one h]
  · rw [if_neg h0, if_neg h0, show n.toNat = n.natAbs by omega, Lib.decDigits_one h]
theorem digit_at : ∀ l : Fin 10, (ByteArray.mk #[48, 49, 50, 51, 52, 53, 54, 55, 56, 57]).extract l.val (l.val + 1) = ⟨#[UInt8.ofNat (48 + l.val)]⟩ := by decide +kernel
theorem ba_append (a b : List UInt8) : (ByteArray.mk a.toArray) ++ (ByteArray.mk b.toArray) = ⟨(a ++ b).toArray⟩ := by
  apply ByteArray.ext
  simp
theorem itoaB_size (n : Int) (h : inI64 n) : (itoaB n).size ≤ 21 := by
  unfold inI64 at h
  have := Lib.itoa_length_le n (by omega) (by omega)
  unfold itoaB ByteArray.size
  simpa using this
set_option maxRecDepth 100000 in
set_option maxHeartbeats 4000000 in
theorem rDecimal_step (N : Nat) (ih : ∀ n : Int, n.natAbs < N → inI64 n → Con Tryz.prog 74 [.d (.raw (.int .i64 n))] (.d (.raw (.string (itoaB n))))) (n : Int) (hN : n.natAbs < N + 1) (hn : inI64 n) :
    Con Tryz.prog 74 [.d (.raw (.int .i64 n))] (.d (.raw (.string (itoaB n)))) := by
  unfold inI64 at hn
  obtain ⟨l, hl, hlt⟩ : ∃ l : Nat, l < 10 ∧ l = n.natAbs % 10 := ⟨_, Nat.mod_lt _ (by omega), rfl⟩
  have hdig := digit_at ⟨l, hl⟩
  simp only at hdig
  refine con_of Tryz.func74 rfl (by decide +kernel) rfl rfl (by simp [Tryz.ntmps74]) fun A hA => ?_
  rw [Tryz.ntmps74] at hA
  refine goC 300 ?_
  -- the last digit, without its sign
  have hm : (n.tmod 10 < 0 ∧ -(n.tmod 10) = l) ∨ (¬ n.tmod 10 < 0 ∧ n.tmod 10 = l) := by
    by_cases h0 : n < 0
    · have e : n.tmod 10 = -(l : Int) := by
        rw [show n = -(n.natAbs : Int) by omega, Int.neg_tmod, Int.tmod_eq_emod_of_nonneg (by omega)]; omega
      by_cases hz : l = 0
      · right; rw [e]; omega
      · left; rw [e]; omega
    · right
      have e : n.tmod 10 = (l : Int) := by rw [Int.tmod_eq_emod_of_nonneg (by omega)]; omega
      rw [e]; omega
  have hq : n.tdiv 10 = 0 ∨ (¬ n.tdiv 10 = 0) := by omega
  have hsz : ∀ m : Int, inI64 m → ((itoaB m).size : Int) + 1 ≤ 9223372036854775807 := fun m h => by have := itoaB_size m h; omega
  have hl1 : ((l : Int) + 1).toNat = l + 1 := by omega
  have dl : decide ((l : Int) < 0) = false := decide_eq_false (by omega)
  have htd : inI64 (n.tdiv 10) ∧ (n.tdiv 10).natAbs ≤ n.natAbs / 10 := by
    have e : (n.tdiv 10).natAbs = n.natAbs / 10 := by rw [Int.natAbs_tdiv]; rfl
    unfold inI64
    omega
  rcases hm with ⟨h1, h2⟩ | ⟨h1, h2⟩
  case' inl =>
    have d1 : decide (n.tmod 10 < 0) = true := decide_eq_true h1
    simp only [go_sem, hA, d1, h2, Int.toNat_natCast, hl1, hdig]
    refine ⟨by omega, by unfold inI64; omega, by unfold inI64; omega, ⟨by omega, by omega, by omega⟩, ⟨by omega, htd.1⟩, ?_⟩
  case' inr =>
    simp only [go_sem, hA, dl, h2, Int.toNat_natCast, hl1, hdig]
    refine ⟨by omega, by unfold inI64; omega, ⟨by omega, by omega, by omega⟩, ⟨by omega, htd.1⟩, ?_⟩
  all_goals
    by_cases hz : n.tdiv 10 = 0
    · have dz : (decide ¬ n.tdiv 10 = 0) = false := by simpa using hz
      have hsm : n.natAbs < 10 := by
        have e : (n.tdiv 10).natAbs = n.natAbs / 10 := by rw [Int.natAbs_tdiv]; rfl
        rw [hz] at e
        have e0 : (0 : Int).natAbs = 0 := rfl
        omega
      have hll : l = n.natAbs := by omega
      by_cases hneg : n < 0
      · have dn : decide (n < 0) = true := decide_eq_true hneg
        have he : itoaB n = ⟨#[45]⟩ ++ ⟨#[UInt8.ofNat (48 + l)]⟩ := by
          unfold itoaB; rw [itoa_less hsm, if_pos hneg, hll]; rfl
        simp only [go_sem, hA, dz, dn, he, Tryz.results74]
      · have dn : decide (n < 0) = false := decide_eq_false hneg
        have he : itoaB n = ⟨#[UInt8.ofNat (48 + l)]⟩ := by
          unfold itoaB; rw [itoa_less hsm, if_neg hneg, hll]
        simp only [go_sem, hA, dz, dn, he, Tryz.results74]
    · have dz : (decide ¬ n.tdiv 10 = 0) = true := by simpa using hz
      have hbig : 10 ≤ n.natAbs := by
        have e : (n.tdiv 10).natAbs = n.natAbs / 10 := by rw [Int.natAbs_tdiv]; rfl
        omega
      have he : itoaB n = itoaB (n.tdiv 10) ++ ⟨#[UInt8.ofNat (48 + l)]⟩ := by
        unfold itoaB; rw [itoa_more hbig, hlt, ← ba_append]
      have hs := hsz (n.tdiv 10) htd.1
      simp only [go_sem, hA, dz]
      refine ⟨⟨by omega, htd.1⟩, goCall 300 (ih (n.tdiv 10) (by omega) htd.1) rfl (by simp only [go_sem]) (by simp only [go_sem, hA]) ?_⟩
      simp only [go_sem, hA, he, Tryz.results74]
      omega
theorem rDecimal_c (n : Int) (hn : inI64 n) : Con Tryz.prog 74 [.d (.raw (.int .i64 n))] (.d (.raw (.string (itoaB n)))) := by
  have key : ∀ N (n : Int), n.natAbs < N → inI64 n → Con Tryz.prog 74 [.d (.raw (.int .i64 n))] (.d (.raw (.string (itoaB n)))) := fun N => by
    induction N with
    | zero => intro n h; omega
    | succ N ih => exact fun n h hn => rDecimal_step N ih n h hn
  exact key (n.natAbs + 1) n (by omega) hn
end Go.Proofs.YtnphcjpccieljaaGreatDoor

namespace Go.Proofs.YtnphcjpccieljaaGreatDoor
open Go Go.RowKit
abbrev bs (l : List UInt8) : ByteArray := ⟨l.toArray⟩
def atB (l : List ByteArray) (i : Nat) : ByteArray := l.getD i ⟨#[]⟩
/-- the text of an expression out of those of its parts -/
def nodeText (k : Int) (n m : ByteArray) (i d : Int) (l : List ByteArray) : ByteArray :=
  if k = 1 then itoaB i
  else if k = 2 then (if i = 1 then bs [116, 114, 117, 101] else bs [102, 97, 108, 115, 101])
  else if k = 3 then n
  else if k = 4 then n ++ bs [46] ++ m
  else if k = 6 then bs [40, 102, 117, 110, 32] ++ n ++ bs [32, 45, 62, 32] ++ atB l 0 ++ bs [41]
  else if k = 7 then bs [40] ++ atB l 0 ++ bs [32] ++ atB l 1 ++ bs [41]
  else if k = 8 then bs [40, 108, 101, 116, 32] ++ n ++ bs [32, 61, 32] ++ atB l 0 ++ bs [32, 105, 110, 32] ++ atB l 1 ++ bs [41]
  else if k = 9 then bs [40, 105, 102, 32] ++ atB l 0 ++ bs [32, 116, 104, 101, 110, 32] ++ atB l 1 ++ bs [32, 101, 108, 115, 101, 32] ++ atB l 2 ++ bs [41]
  else if k = 10 then bs [40] ++ atB l 0 ++ bs [32] ++ n ++ bs [32] ++ atB l 1 ++ bs [41]
  else if k = 12 then bs [40] ++ atB l 0 ++ bs [32, 58, 58, 32] ++ atB l 1 ++ bs [41]
  else if k = 13 then bs [40, 99, 97, 115, 101, 32] ++ atB l 0 ++ bs [32, 111, 102, 32, 110, 105, 108, 32, 45, 62, 32] ++ atB l 1 ++ bs [32, 124, 32] ++ n ++ bs [32, 58, 58, 32] ++ m ++ bs [32, 45, 62, 32] ++ atB l 2 ++ bs [41]
  else if k = 14 then bs [40, 99, 104, 97, 110, 99, 101, 32] ++ itoaB i ++ bs [32, 111, 102, 32] ++ itoaB d ++ bs [41]
  else if k = 15 then bs [40, 99, 111, 110, 102, 108, 105, 99, 116, 32] ++ atB l 0 ++ bs [32, 124, 124, 32] ++ atB l 1 ++ bs [32, 124, 124, 32] ++ atB l 2 ++ bs [41]
  else bs [110, 105, 108]
mutual
def txE : Ex → ByteArray
  | .mk k n m i d s => nodeText k n m i d (txL s)
def txL : List Ex → List ByteArray
  | [] => []
  | e :: es => txE e :: txL es
end
theorem txL_map : ∀ l : List Ex, txL l = l.map txE
  | [] => rfl
  | e :: es => by rw [txL, txL_map es]; rfl
theorem txL_length (l : List Ex) : (txL l).length = l.length := by simp [txL_map]
theorem ba_size (a b : ByteArray) : (a ++ b).size = a.size + b.size := ByteArray.size_append
theorem bs_size (l : List UInt8) : (bs l).size = l.length := by simp [ByteArray.size]
def sumB : List ByteArray → Nat
  | [] => 0
  | x :: xs => x.size + sumB xs
theorem sumB_three : ∀ l : List ByteArray, (atB l 0).size + (atB l 1).size + (atB l 2).size ≤ sumB l
  | [] => by
    have h0 : (ByteArray.mk #[]).size = 0 := rfl
    simp only [atB, sumB, List.getD_nil, h0]; omega
  | [a] => by
    have h0 : (ByteArray.mk #[]).size = 0 := rfl
    simp only [atB, sumB, List.getD_cons_zero, List.getD_cons_succ, List.getD_nil, h0]; omega
  | [a, b] => by
    have h0 : (ByteArray.mk #[]).size = 0 := rfl
    simp only [atB, sumB, List.getD_cons_zero, List.getD_cons_succ, List.getD_nil, h0]; omega
  | a :: b :: c :: r => by simp only [atB, sumB, List.getD_cons_zero, List.getD_cons_succ]; omega
/-- how many parts the text reads -/
def arity (k : Int) : Nat := if k = 6 then 1 else if k = 7 ∨ k = 8 ∨ k = 10 ∨ k = 12 then 2 else if k = 9 ∨ k = 13 ∨ k = 15 then 3 else 0
def okN (k : Int) (n m : ByteArray) (i d : Int) (len : Nat) : Bool := decide (arity k ≤ len) && decide (n.size ≤ 120) && decide (m.size ≤ 120) && decide (-9223372036854775808 ≤ i ∧ i ≤ 9223372036854775807) && decide (-9223372036854775808 ≤ d ∧ d ≤ 9223372036854775807) && decide (k ≠ 5)
mutual
/-- what has a text -/
def okE : Ex → Bool
  | .mk k n m i d s => okN k n m i d s.length && okL s
def okL : List Ex → Bool
  | [] => true
  | e :: es => okE e && okL es
end
theorem okL_get : ∀ {l : List Ex} (i : Nat) (h : i < l.length), okL l = true → okE l[i] = true
  | e :: es, 0, _, h => by simp only [okL, Bool.and_eq_true] at h; simpa using h.1
  | e :: es, i + 1, hi, h => by
    simp only [okL, Bool.and_eq_true] at h
    simpa using okL_get i (by simpa using hi) h.2
theorem okN_iff {k : Int} {n m : ByteArray} {i d : Int} {len : Nat} (h : okN k n m i d len = true) : arity k ≤ len ∧ n.size ≤ 120 ∧ m.size ≤ 120 ∧ (-9223372036854775808 ≤ i ∧ i ≤ 9223372036854775807) ∧ (-9223372036854775808 ≤ d ∧ d ≤ 9223372036854775807) ∧ k ≠ 5 := by
  simp only [okN, Bool.and_eq_true, decide_eq_true_eq] at h
  exact ⟨h.1.1.1.1.1, h.1.1.1.1.2, h.1.1.1.2, h.1.1.2, h.1.2, h.2⟩
theorem ite_size {c : Prop} [Decidable c] {a b : ByteArray} {N : Nat} (ha : a.size ≤ N) (hb : b.size ≤ N) : (if c then a else b).size ≤ N := by
  by_cases h : c
  · rw [if_pos h]; exact ha
  · rw [if_neg h]; exact hb
theorem nodeText_size {k : Int} {n m : ByteArray} {i d : Int} {len : Nat} {l : List ByteArray} (h : okN k n m i d len = true) : (nodeText k n m i d l).size ≤ 390 + sumB l := by
  obtain ⟨_, hn, hm, hi, hd, _⟩ := okN_iff h
  have h3 := sumB_three l
  have h1 := itoaB_size i (by unfold inI64; omega)
  have h2 := itoaB_size d (by unfold inI64; omega)
  unfold nodeText
  repeat' apply ite_size
  all_goals (try simp only [ba_size, bs_size, List.length_cons, List.length_nil])
  all_goals omega
mutual
theorem txE_size : ∀ t : Ex, okE t = true → (txE t).size ≤ 390 * nodesE t
  | .mk k n m i d s, h => by
    simp only [okE, Bool.and_eq_true] at h
    have h1 := nodeText_size (l := txL s) h.1
    have h2 := txL_size s h.2
    rw [txE, nodesE]
    omega
theorem txL_size : ∀ l : List Ex, okL l = true → sumB (txL l) ≤ 390 * nodesL l
  | [], _ => by simp [txL, sumB]
  | e :: es, h => by
    simp only [okL, Bool.and_eq_true] at h
    have h1 := txE_size e h.1
    have h2 := txL_size es h.2
    simp only [txL, sumB, nodesL]
    omega
end
theorem encS_atB (l : List ByteArray) (i : Nat) (h : i < l.length) : (encS l).getD i [] = [.raw (.string (atB l i))] := by
  rw [encS_at l i h]
  simp [atB, List.getD_eq_getElem?_getD, h]
theorem txL_take_succ (s : List Ex) (q : Nat) (h : q < s.length) : txL (s.take (q + 1)) = txL (s.take q) ++ [txE s[q]] := by
  rw [txL_map, txL_map, List.take_succ_eq_append_getElem h, List.map_append]; rfl
end Go.Proofs.YtnphcjpccieljaaGreatDoor
