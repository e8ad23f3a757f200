/- Texts of this proof, part 17: what the proof uses of them. -/
import Derived.Test.YtnjedgpidalioaaGreatDoorQap
import Derived.Test.YtnjedgpidalioaaGreatDoorQam
namespace Go.Proofs.YtnjedgpidalioaaGreatDoor
section
open Go Go.RowKit
def zeroEx : Ex := .mk 0 ⟨#[]⟩ ⟨#[]⟩ 0 0 []
mutual
/-- the conflict of number j settled by a side, and what is left of j -/
def oneE (side : Nat) : Ex → Int → Ex × Int
 | .mk k n m i d s, j => if k = 15 then (if j = 0 then (s.getD side zeroEx, -1) else (.mk k n m i d (oneL side s (j - 1)).1, (oneL side s (j - 1)).2)) else (.mk k n m i d (oneL side s j).1, (oneL side s j).2)
def oneL (side : Nat) : List Ex → Int → List Ex × Int
 | [], j => ([], j)
 | e :: es, j => if j < 0 then (e :: es, j) else ((oneE side e j).1 :: (oneL side es (oneE side e j).2).1, (oneL side es (oneE side e j).2).2)
end
theorem oneL_neg (side : Nat) (l : List Ex) {j : Int} (h : j < 0) : oneL side l j = (l, j) := by
 cases l with
 | nil => rw [oneL]
 | cons e es => rw [oneL, if_pos h]
theorem oneL_append (side : Nat) : ∀ (a b : List Ex) (j : Int), oneL side (a ++ b) j = ((oneL side a j).1 ++ (oneL side b (oneL side a j).2).1, (oneL side b (oneL side a j).2).2)
 | [], b, j => by simp [oneL]
 | e :: es, b, j => by
  by_cases h : j < 0
  ·rw [oneL_neg side _ h, oneL_neg side _ h, oneL_neg side b h]
  ·rw [List.cons_append, oneL, if_neg h, oneL, if_neg h, oneL_append side es b]; rfl
theorem oneL_length (side : Nat) : ∀ (a : List Ex) (j : Int), (oneL side a j).1.length = a.length
 | [], j => by rw [oneL]
 | e :: es, j => by
  by_cases h : j < 0
  ·rw [oneL_neg side _ h]
  ·rw [oneL, if_neg h]; simp [oneL_length side es]
theorem oneL_take_succ (side : Nat) (l : List Ex) (i : Nat) (h : i < l.length) (j : Int) (hn : ¬ (oneL side (l.take i) j).2 < 0) :
  oneL side (l.take (i + 1)) j = ((oneL side (l.take i) j).1 ++ [(oneE side l[i] (oneL side (l.take i) j).2).1], (oneE side l[i] (oneL side (l.take i) j).2).2) := by
 rw [List.take_succ_eq_append_getElem h, oneL_append]
 rw [oneL, if_neg hn, oneL]
theorem oneL_stop (side : Nat) (l : List Ex) (i : Nat) (j : Int) (hn : (oneL side (l.take i) j).2 < 0) : oneL side l j = ((oneL side (l.take i) j).1 ++ l.drop i, (oneL side (l.take i) j).2) := by
 have h := oneL_append side (l.take i) (l.drop i) j
 rw [List.take_append_drop, oneL_neg side (l.drop i) hn] at h
 exact h
mutual
theorem oneE_idx (side : Nat) : ∀ (t : Ex) (j : Int), 0 ≤ j → (oneE side t j).2 = if j < confE t then -1 else j - confE t
 | .mk k n m i d s, j, h => by
  rw [oneE, confE]
  by_cases hk : k = 15
  ·rw [if_pos hk, if_pos hk]
   by_cases h0 : j = 0
   ·rw [if_pos h0, if_pos (by omega)]
   ·rw [if_neg h0]
    simp only []
    rw [oneL_idx side s (j - 1) (by omega)]
    split <;> split <;> omega
  ·rw [if_neg hk, if_neg hk]
   simp only []
   rw [oneL_idx side s j h]
   split <;> split <;> omega
theorem oneL_idx (side : Nat) : ∀ (l : List Ex) (j : Int), 0 ≤ j → (oneL side l j).2 = if j < confL l then -1 else j - confL l
 | [], j, h => by
  have e : confL [] = 0 := by rw [confL]
  rw [oneL, e, if_neg (by omega)]
  show j = j - 0
  omega
 | e :: es, j, h => by
  have e1 : confL (e :: es) = confE e + confL es := by rw [confL]
  rw [oneL, if_neg (by omega), e1]
  have h1 := oneE_idx side e j h
  by_cases hc : j < confE e
  ·rw [if_pos hc] at h1
   rw [h1, oneL_neg side es (by omega), if_pos (by omega)]
  ·rw [if_neg hc] at h1
   rw [h1, oneL_idx side es _ (by omega)]
   split <;> split <;> omega
end
theorem oneL_low (side : Nat) (l : List Ex) (j : Int) (h : 0 ≤ j) : -1 ≤ (oneL side l j).2 ∧ (oneL side l j).2 ≤ j := by
 rw [oneL_idx side l j h]; split <;> omega
mutual
def sumsE : Ex → Bool
 | .mk k _ _ _ _ s => (decide (k ≠ 15) || decide (s.length = 3)) && sumsL s
def sumsL : List Ex → Bool
 | [] => true
 | e :: es => sumsE e && sumsL es
end
theorem sumsL_get : ∀ {l : List Ex} (i : Nat) (h : i < l.length), sumsL l = true → sumsE l[i] = true
 | e :: es, 0, _, h => by simp only [sumsL, Bool.and_eq_true] at h; simpa using h.1
 | e :: es, i + 1, hi, h => by
  simp only [sumsL, Bool.and_eq_true] at h
  simpa using sumsL_get i (by simpa using hi) h.2
abbrev soSt (k : Int) (n m : ByteArray) (i d : Int) (s : List Ex) (side : Nat) (j : Int) (q : Nat) : St :=
 ⟨[(1, .d (.raw (.int .i64 (oneL side (s.take q) j).2))), (2, .d (.raw (.int .i64 side))), (3, .box 0 0), (6, .box 1 0), (8, .own 5003 s.length), (9, .d (.raw (.int .i64 q)))],
  [(0, some (.cell 98 [.d (.raw (.int .i64 k)), .d (.raw (.string n)), .d (.raw (.string m)), .d (.raw (.int .i64 i)), .d (.raw (.int .i64 d)), .d (.sl (encL s))])), (1, some (.cell 98 [.d (.raw (.int .i64 0)), .d (.raw (.string ⟨#[]⟩)), .d (.raw (.string ⟨#[]⟩)), .d (.raw (.int .i64 0)), .d (.raw (.int .i64 0)), .d (.raw (.slice none 0 0))])), (5003, some (.row 6 98 (encL ((oneL side (s.take q) j).1 ++ s.drop q))))], []⟩
theorem one_row (side : Nat) (s : List Ex) (j : Int) (q : Nat) (h : q < s.length) : (encL ((oneL side (s.take q) j).1 ++ s.drop q)).getD q [] = [.raw (.int .i64 s[q].kind), .raw (.string s[q].name), .raw (.string s[q].more), .raw (.int .i64 s[q].int), .raw (.int .i64 s[q].den), .sl (encL s[q].sub)] := by
 have hl : (oneL side (s.take q) j).1.length = q := by rw [oneL_length]; simp; omega
 have hq : q < ((oneL side (s.take q) j).1 ++ s.drop q).length := by simp; omega
 rw [encL_at _ q hq]
 have e : ((oneL side (s.take q) j).1 ++ s.drop q)[q] = s[q] := by
  rw [List.getElem_append_right (by omega)]
  simp [hl]
 rw [e]
theorem one_set (side : Nat) (s : List Ex) (j : Int) (q : Nat) (h : q < s.length) (hn : ¬ (oneL side (s.take q) j).2 < 0) (t : Ex) (ht : t = (oneE side s[q] (oneL side (s.take q) j).2).1) :
  (encL ((oneL side (s.take q) j).1 ++ s.drop q)).set q [.raw (.int .i64 t.kind), .raw (.string t.name), .raw (.string t.more), .raw (.int .i64 t.int), .raw (.int .i64 t.den), .sl (encL t.sub)] = encL ((oneL side (s.take (q + 1)) j).1 ++ s.drop (q + 1)) := by
 rw [← encE_eq, encL_set, oneL_take_succ side s q h j hn, ht]
 have hl : (oneL side (s.take q) j).1.length = q := by rw [oneL_length]; simp; omega
 congr 1
 rw [List.set_append_right _ _ (by omega), hl, Nat.sub_self, List.drop_eq_getElem_cons h, List.set_cons_zero]
 simp
theorem one_len (side : Nat) (s : List Ex) (j : Int) (q : Nat) (h : q ≤ s.length) : (encL ((oneL side (s.take q) j).1 ++ s.drop q)).length = s.length := by
 rw [encL_length, List.length_append, oneL_length]; simp; omega
set_option maxRecDepth 100000 in
set_option maxHeartbeats 4000000 in
theorem settleOne_step (N : Nat) (side : Nat) (hs : side ≤ 2)
  (ih : ∀ (t : Ex) (j : Int), nodesE t < N → nodesE t ≤ 1048576 → 0 ≤ j → j ≤ 1048576 → sumsE t = true → Con Tryz.prog 144 [avE t, .d (.raw (.int .i64 j)), .d (.raw (.int .i64 side))] (.tup [avE (oneE side t j).1, .d (.raw (.int .i64 (oneE side t j).2))]))
  (k : Int) (n m : ByteArray) (i d : Int) (s : List Ex) (j : Int) (hN : nodesE (.mk k n m i d s) < N + 1) (hb : nodesE (.mk k n m i d s) ≤ 1048576) (hj : 0 ≤ j) (hj2 : j ≤ 1048576) (hsum : sumsE (.mk k n m i d s) = true) :
  Con Tryz.prog 144 [avE (.mk k n m i d s), .d (.raw (.int .i64 j)), .d (.raw (.int .i64 side))] (.tup [avE (oneE side (.mk k n m i d s) j).1, .d (.raw (.int .i64 (oneE side (.mk k n m i d s) j).2))]) := by
 rw [nodesE] at hN hb
 have hlen := length_le_nodesL s
 simp only [sumsE, Bool.and_eq_true, Bool.or_eq_true, decide_eq_true_eq] at hsum
 refine con_of Tryz.func144 rfl (by decide +kernel) (by simp only [AV.closed, closedL, avE, closedL_d, Bool.and_self]) (by simp only [AV.closed, closedL, avE, closedL_d, Bool.and_self]) (by simp [Tryz.ntmps144]) fun A hA => ?_
 rw [Tryz.ntmps144] at hA
 refine goC 300 ?_
 simp only [go_sem, hA, avE, encE]
 refine goIf (fun hk => ?_) (fun hk => ?_)
 rotate_left
 all_goals simp only [decide_eq_true_eq, decide_eq_false_iff_not] at hk
 ·obtain ⟨j', hj', hj2', hone⟩ : ∃ j' : Int, 0 ≤ j' ∧ j' ≤ 1048576 ∧ oneE side (.mk k n m i d s) j = (.mk k n m i d (oneL side s j').1, (oneL side s j').2) ∧ j' = j := ⟨j, hj, hj2, by rw [oneE, if_neg hk], rfl⟩
  obtain ⟨hone, rfl⟩ := hone
  simp only [go_sem, hA, Int.toNat_natCast, encL_length]
  refine ⟨⟨by omega, by omega, by omega⟩, ⟨by simp, encL_fit s⟩, ?_⟩
  refine satC_loop [1, 2, 3, 6, 8, 9] [0, 1, 5003] [] (fun x σ => ∃ q : Nat, q ≤ s.length ∧ x = s.length - q ∧ σ = soSt k n m i d s side j' q) s.length ⟨0, by omega, by omega, by simp only [go_sem, soSt, List.take_zero, List.drop_zero, oneL]⟩ ?_
  rintro x σ ⟨q, hq, rfl, rfl⟩
  refine goC 300 ?_
  have hlow := oneL_low side (s.take q) j' hj'
  have hlen2 := one_len side s j' q hq
  by_cases hlt : q < s.length
  ·have h1 : decide ((q : Int) < (s.length : Int)) = true := by simpa using hlt
   by_cases hneg : (oneL side (s.take q) j').2 < 0
   ·have h2 : decide (0 ≤ (oneL side (s.take q) j').2) = false := by simpa using hneg
    have h3 := oneL_stop side s q j' hneg
    simp only [go_sem, hA, soSt, h1, h2, Tryz.results144, hlen2, hone, h3, encE]
   ·have h2 : decide (0 ≤ (oneL side (s.take q) j').2) = true := by simp; omega
    have hn1 := nodesL_get s q hlt
    simp only [go_sem, hA, soSt, h1, h2, Int.toNat_natCast, encL_length, one_row side s j' q hlt]
    refine ⟨⟨by omega, by omega⟩, by rw [encL_length] at hlen2; omega, goCall 200 (ih s[q] (oneL side (s.take q) j').2 (by omega) (by omega) (by omega) (by omega) (sumsL_get q hlt hsum.2)) rfl (by simp only [go_sem, avE_eq]) (by simp only [go_sem, hA]) ?_⟩
    have hst := one_set side s j' q hlt hneg _ rfl
    have htk := oneL_take_succ side s q hlt j' hneg
    simp only [go_sem, hA, avE_eq, Int.toNat_natCast, encL_length, one_row side s j' q hlt, hst]
    refine ⟨⟨by omega, by omega⟩, by rw [encL_length] at hlen2; omega, ⟨by omega, by omega⟩, ?_⟩
    exact ⟨s.length - (q + 1), by omega, q + 1, by omega, rfl, by simp only [go_sem, htk]; rfl⟩
  ·have h1 : decide ((q : Int) < (s.length : Int)) = false := by simp; omega
   obtain rfl : q = s.length := by omega
   have h3 : oneL side s j' = ((oneL side (s.take s.length) j').1 ++ s.drop s.length, (oneL side (s.take s.length) j').2) := by simp
   simp only [go_sem, hA, soSt, h1, Tryz.results144, hlen2, hone, h3, encE]
 ·subst hk
  have h3 : s.length = 3 := by rcases hsum.1 with h | h; exact absurd rfl h; exact h
  have hlt : side < s.length := by omega
  simp only [go_sem, hA]
  refine goIf (fun hk => ?_) (fun hk => ?_)
  ·simp only [decide_eq_true_eq] at hk
   subst hk
   simp only [go_sem, hA, Int.toNat_natCast, encL_length, encL_at s side hlt]
   refine ⟨⟨by omega, by omega⟩, ?_⟩
   rw [oneE, if_pos rfl, if_pos rfl]
   have e : s.getD side zeroEx = s[side] := by simp [List.getD_eq_getElem?_getD, hlt]
   rw [e, encE_eq]
   rfl
  ·simp only [decide_eq_false_iff_not] at hk
   obtain ⟨j', hj', hj2', hone⟩ : ∃ j' : Int, 0 ≤ j' ∧ j' ≤ 1048576 ∧ oneE side (.mk 15 n m i d s) j = (.mk 15 n m i d (oneL side s j').1, (oneL side s j').2) ∧ j - 1 = j' := ⟨j - 1, by omega, by omega, by rw [oneE, if_pos rfl, if_neg hk], rfl⟩
   obtain ⟨hone, hjj⟩ := hone
   simp only [go_sem, hA, Int.toNat_natCast, encL_length, hjj]
   refine ⟨by unfold inI64; omega, ⟨by omega, by omega, by omega⟩, ⟨by simp, encL_fit s⟩, ?_⟩
   refine satC_loop [1, 2, 3, 6, 8, 9] [0, 1, 5003] [] (fun x σ => ∃ q : Nat, q ≤ s.length ∧ x = s.length - q ∧ σ = soSt 15 n m i d s side j' q) s.length ⟨0, by omega, by omega, by simp only [go_sem, soSt, List.take_zero, List.drop_zero, oneL]⟩ ?_
   rintro x σ ⟨q, hq, rfl, rfl⟩
   refine goC 300 ?_
   have hlow := oneL_low side (s.take q) j' hj'
   have hlen2 := one_len side s j' q hq
   by_cases hlt : q < s.length
   ·have h1 : decide ((q : Int) < (s.length : Int)) = true := by simpa using hlt
    by_cases hneg : (oneL side (s.take q) j').2 < 0
    ·have h2 : decide (0 ≤ (oneL side (s.take q) j').2) = false := by simpa using hneg
     have h3 := oneL_stop side s q j' hneg
     simp only [go_sem, hA, soSt, h1, h2, Tryz.results144, hlen2, hone, h3, encE]
    ·have h2 : decide (0 ≤ (oneL side (s.take q) j').2) = true := by simp; omega
     have hn1 := nodesL_get s q hlt
     simp only [go_sem, hA, soSt, h1, h2, Int.toNat_natCast, encL_length, one_row side s j' q hlt]
     refine ⟨⟨by omega, by omega⟩, by rw [encL_length] at hlen2; omega, goCall 200 (ih s[q] (oneL side (s.take q) j').2 (by omega) (by omega) (by omega) (by omega) (sumsL_get q hlt hsum.2)) rfl (by simp only [go_sem, avE_eq]) (by simp only [go_sem, hA]) ?_⟩
     have hst := one_set side s j' q hlt hneg _ rfl
     have htk := oneL_take_succ side s q hlt j' hneg
     simp only [go_sem, hA, avE_eq, Int.toNat_natCast, encL_length, one_row side s j' q hlt, hst]
     refine ⟨⟨by omega, by omega⟩, by rw [encL_length] at hlen2; omega, ⟨by omega, by omega⟩, ?_⟩
     exact ⟨s.length - (q + 1), by omega, q + 1, by omega, rfl, by simp only [go_sem, htk]; rfl⟩
   ·have h1 : decide ((q : Int) < (s.length : Int)) = false := by simp; omega
    obtain rfl : q = s.length := by omega
    have h3 : oneL side s j' = ((oneL side (s.take s.length) j').1 ++ s.drop s.length, (oneL side (s.take s.length) j').2) := by simp
    simp only [go_sem, hA, soSt, h1, Tryz.results144, hlen2, hone, h3, encE]
theorem settleOne_con (side : Nat) (hs : side ≤ 2) (N : Nat) : ∀ (t : Ex) (j : Int), nodesE t < N → nodesE t ≤ 1048576 → 0 ≤ j → j ≤ 1048576 → sumsE t = true → Con Tryz.prog 144 [avE t, .d (.raw (.int .i64 j)), .d (.raw (.int .i64 side))] (.tup [avE (oneE side t j).1, .d (.raw (.int .i64 (oneE side t j).2))]) := by
 induction N with
 | zero => intro t j h; omega
 | succ N ih => intro t j h hb hj hj2 hsum; cases t; exact settleOne_step N side hs ih _ _ _ _ _ _ j h hb hj hj2 hsum
mutual
theorem sumsE_of : ∀ t : Ex, checkE t = 0 → sumsE t = true
 | .mk k n m i d s, h => by
  rw [checkE] at h
  split at h
  ·rename_i hn
   rw [sumsE, sumsL_of s h, Bool.and_true, Bool.or_eq_true]
   by_cases hk : k = 15
   ·right
    subst hk
    simp only [decide_eq_true_eq]
    by_cases h3 : s.length = 3
    ·exact h3
    ·exfalso
     have hsh : shapeK 15 = some (0, 0, 3) := rfl
     rw [checkN_arg hsh (by simp [argOk, h3])] at hn
     cases hn
   ·left; simpa using hk
  ·exact absurd h (by assumption)
theorem sumsL_of : ∀ l : List Ex, checkEs l = 0 → sumsL l = true
 | [], _ => rfl
 | e :: es, h => by
  rw [checkEs] at h
  split at h
  ·rename_i he
   rw [sumsL, sumsE_of e he, sumsL_of es h]; rfl
  ·exact absurd h (by assumption)
end
theorem checkX_ok {t : Ex} (h : checkX t = 0) : nodesE t ≤ 400 ∧ depthE t ≤ 40 ∧ checkE t = 0 := by
 unfold checkX at h
 split at h
 ·cases h
 ·exact ⟨by omega, by omega, h⟩
mutual
theorem confE_nodes : ∀ t : Ex, confE t ≤ nodesE t
 | .mk k n m i d s => by have := confL_nodes s; rw [confE, nodesE]; split <;> omega
theorem confL_nodes : ∀ l : List Ex, confL l ≤ nodesL l
 | [] => by rw [confL, nodesL]; omega
 | e :: es => by have := confE_nodes e; have := confL_nodes es; rw [confL, nodesL]; omega
end
def setEX (t : Ex) (i side : Int) : Ex × Int := if checkX t = 0 then (if side < 0 ∨ 2 < side ∨ i < 0 ∨ (confE t : Int) ≤ i then (zeroEx, 2) else ((oneE side.toNat t i).1, 0)) else (zeroEx, checkX t)
set_option maxRecDepth 100000 in
set_option maxHeartbeats 4000000 in
theorem eSettle_c (t : Ex) (i side : Int) (hb : nodesE t ≤ 1048576) : Con Tryz.prog 97 [avE t, .d (.raw (.int .i64 i)), .d (.raw (.int .i64 side))] (.tup [avE (setEX t i side).1, .d (.raw (.int .i64 (setEX t i side).2))]) := by
 refine con_of Tryz.func97 rfl (by decide +kernel) (by simp only [AV.closed, closedL, avE, closedL_d, Bool.and_self]) (by simp only [AV.closed, closedL, avE, closedL_d, Bool.and_self]) (by simp [Tryz.ntmps97]) fun A hA => ?_
 rw [Tryz.ntmps97] at hA
 refine goC 300 ?_
 simp only [go_sem, hA, avE_eq]
 refine goCall 300 (sCheckExpr_c t hb) rfl (by simp only [go_sem, avE_eq]) (by simp only [go_sem, hA]) ?_
 simp only [go_sem, hA]
 refine goIf (fun hk => ?_) (fun hk => ?_)
 all_goals simp only [decide_eq_true_eq, decide_eq_false_iff_not] at hk
 ·simp only [go_sem, hA, Tryz.results97]
  rw [setEX, if_neg hk]
  rfl
 ·have hk0 : checkX t = 0 := by omega
  by_cases h1 : side < 0
  ·simp only [go_sem, hA, h1, Tryz.results97]
   rw [setEX, if_pos hk0, if_pos (.inl h1)]
   rfl
  ·by_cases h2 : 2 < side
   ·simp only [go_sem, hA, h1, h2, Tryz.results97]
    rw [setEX, if_pos hk0, if_pos (.inr (.inl h2))]
    rfl
   ·by_cases h3 : i < 0
    ·simp only [go_sem, hA, h1, h2, h3, Tryz.results97]
     rw [setEX, if_pos hk0, if_pos (.inr (.inr (.inl h3)))]
     rfl
    ·obtain ⟨s, rfl⟩ : ∃ s : Nat, side = s := ⟨side.toNat, by omega⟩
     simp only [go_sem, hA, h1, h2, h3]
     refine goCall 300 (mmConflicts_c t hb) rfl (by simp only [go_sem, avE_eq]) (by simp only [go_sem, hA]) ?_
     by_cases h4 : (confE t : Int) ≤ i
     ·simp only [go_sem, hA, h4, Tryz.results97]
      rw [setEX, if_pos hk0, if_pos (.inr (.inr (.inr h4)))]
      rfl
     ·simp only [go_sem, hA, h4]
      have h5 := confE_nodes t
      refine goCall 200 (settleOne_con s (by omega) (nodesE t + 1) t i (by omega) hb (by omega) (by omega) (sumsE_of t (checkX_ok hk0).2.2)) rfl (by simp only [go_sem, avE_eq]) (by simp only [go_sem, hA]) ?_
      simp only [go_sem, hA, avE_eq, Tryz.results97]
      rw [setEX, if_pos hk0, if_neg (by omega), Int.toNat_natCast]
end
section
open Go Go.RowKit
def spR (s : ByteArray) (k i j : Int) : List D := [.raw (.string s), .raw (.int .i64 k), .raw (.int .i64 i), .raw (.int .i64 j)]
def pre3 (b : Bool) (s : ByteArray) (i : Int) (k : Int) (rows : List (List D)) : List (List D) := if b then rows ++ [spR s k i 0] else rows
def mid3 (s : ByteArray) (i : Int) (n : Nat) (rows : List (List D)) : List (List D) := rows ++ (List.range n).map fun (j : Nat) => spR s 2 i (j : Int)
def one3 (d : Dc) : ByteArray := d.names.getD 0 ⟨#[]⟩
def spotsD (s : ByteArray) (a : List (List D) × List ByteArray) (d : Dc) : List (List D) × List ByteArray :=
 (pre3 (decide (d.names.length = 1) && hasS a.2 (one3 d)) s d.id 4 (pre3 d.doubt s d.id 3 (mid3 s d.id (confE d.body) (pre3 (decide (d.names.length = 3)) s d.id 1 a.1))),
  if d.names.length = 1 then addS a.2 (one3 d) else a.2)
def spotsF (x : Mo) (n : Nat) : List (List D) × List ByteArray := (x.decls.take n).foldl (spotsD x.label) ([], [])
abbrev mc1St (x : Mo) (rows : List (List D)) (fs : List ByteArray) (q : Nat) : St := ⟨[(1, .box 0 0), (3, .grow 99 rows), (4, .mp 2000), (10, .d (.sl (encDs x.decls))), (11, .d (.raw (.int .i64 x.decls.length))), (12, .d (.raw (.int .i64 q)))], [(0, some (.cell 53 [.d (.raw (.string x.label)), .d (.sl (encS x.uses)), .d (.sl (encDs x.decls))])), (2000, some (.map none (keysS fs) (truesS fs)))], [(99, some ⟨4, 38, rows.length, none⟩)]⟩
abbrev mc2St (x : Mo) (d : Dc) (rows : List (List D)) (fs : List ByteArray) (q j : Nat) : St := ⟨[(1, .box 0 0), (3, .grow 99 rows), (4, .mp 2000), (6, .box 5002 0), (10, .d (.sl (encDs x.decls))), (11, .d (.raw (.int .i64 x.decls.length))), (12, .d (.raw (.int .i64 q))), (30, .d (.raw (.int .i64 (confE d.body)))), (31, .d (.raw (.int .i64 j)))],
 [(0, some (.cell 53 [.d (.raw (.string x.label)), .d (.sl (encS x.uses)), .d (.sl (encDs x.decls))])), (2000, some (.map none (keysS fs) (truesS fs))),
  (5002, some (.cell 100 [.d (.raw (.int .i64 d.id)), .d (.raw (.int .i64 d.kind)), .d (.raw (.bool d.pub)), .d (.sl (encS d.names)), .d (.raw (.bool d.doubt)), .d (.raw (.int .i64 d.body.kind)), .d (.raw (.string d.body.name)), .d (.raw (.string d.body.more)), .d (.raw (.int .i64 d.body.int)), .d (.raw (.int .i64 d.body.den)), .d (.sl (encL d.body.sub))]))], [(99, some ⟨4, 38, rows.length, none⟩)]⟩
def Sp4 (rows : List (List D)) (n : Nat) : Prop := (∀ r ∈ rows, r.length = 4) ∧ rows.length ≤ n
theorem Sp4.le {rows : List (List D)} {n m : Nat} (h : Sp4 rows n) (hm : n ≤ m) : Sp4 rows m := ⟨h.1, Nat.le_trans h.2 hm⟩
theorem trues_set (fs : List ByteArray) (j : Nat) : (truesS fs).set j (.d (.raw (.bool true))) = truesS fs := by simp [truesS]
theorem sp4_nil (n : Nat) : Sp4 [] n := ⟨fun _ h => (by cases h), by simp⟩
theorem pre3_t (s : ByteArray) (i k : Int) (rows : List (List D)) : pre3 true s i k rows = rows ++ [[.raw (.string s), .raw (.int .i64 k), .raw (.int .i64 i), .raw (.int .i64 0)]] := rfl
theorem pre3_f (s : ByteArray) (i k : Int) (rows : List (List D)) : pre3 false s i k rows = rows := rfl
theorem mid3_zero (s : ByteArray) (i : Int) (rows : List (List D)) : mid3 s i 0 rows = rows := by simp [mid3]
theorem truesS_ment (r : Nat) (fs : List ByteArray) : mentL r (truesS fs) = false := mentL_rep _ _
theorem spR_fit (s : ByteArray) (k i j : Int) : rowsFit 4 [[D.raw (Value.string s), D.raw (Value.int IntKind.i64 k), D.raw (Value.int IntKind.i64 i), D.raw (Value.int IntKind.i64 j)]] := by
 intro r hr
 simp at hr
 subst hr
 exact ⟨rfl, fun x hx => by simp at hx; rcases hx with rfl | rfl | rfl | rfl <;> rfl⟩
theorem Sp4.pre {rows : List (List D)} {n : Nat} (h : Sp4 rows n) (b : Bool) (s : ByteArray) (i k : Int) : Sp4 (pre3 b s i k rows) (n + 1) := by
 cases b
 ·exact ⟨h.1, Nat.le_succ_of_le h.2⟩
 ·refine ⟨fun r hr => ?_, by have := h.2; simp [pre3]; omega⟩
  rcases List.mem_append.1 (show r ∈ rows ++ [_] from hr) with h1 | h1
  ·exact h.1 r h1
  ·simp at h1; subst h1; rfl
theorem mid3_succ (s : ByteArray) (i : Int) (n : Nat) (rows : List (List D)) : mid3 s i (n + 1) rows = mid3 s i n rows ++ [spR s 2 i n] := by simp [mid3, List.range_succ]
theorem Sp4.mid {rows : List (List D)} {n : Nat} (h : Sp4 rows n) (s : ByteArray) (i : Int) : ∀ m, Sp4 (mid3 s i m rows) (n + m)
 | 0 => by simpa [mid3] using h
 | m + 1 => by
  have ih := Sp4.mid h s i m
  rw [mid3_succ]
  refine ⟨fun r hr => ?_, by have := ih.2; simp; omega⟩
  rcases List.mem_append.1 hr with h1 | h1
  ·exact ih.1 r h1
  ·simp at h1; subst h1; rfl
set_option maxRecDepth 100000 in
set_option maxHeartbeats 16000000 in
theorem mconfs_c (x : Mo) (hl : x.decls.length ≤ 1048576) (hb : ∀ d ∈ x.decls, nodesE d.body ≤ 524288) : Con Tryz.prog 61 [avM x] (.d (.sl (spotsF x x.decls.length).1)) := by
 refine con_of Tryz.func61 rfl (by decide +kernel) rfl rfl (by simp [Tryz.ntmps61]) fun A hA => ?_
 rw [Tryz.ntmps61] at hA
 refine goC 20 ?_
 simp only [go_sem, hA, avM]
 refine satC_growTmp 99 3 4 38 (by simp only [go_sem]) rfl ?_
 refine goC 400 ?_
 simp only [go_sem, hA, encDs_length]
 refine satC_loop [1, 3, 4, 10, 11, 12] [0, 2000] [99] (fun y σ => ∃ (q : Nat) (rows : List (List D)) (fs : List ByteArray), q ≤ x.decls.length ∧ y = x.decls.length - q ∧ spotsF x q = (rows, fs) ∧ Sp4 rows (q * 524292) ∧ σ = mc1St x rows fs q) x.decls.length ⟨0, [], [], by omega, by omega, rfl, sp4_nil _, by simp only [go_sem, mc1St]; rfl⟩ ?_
 rintro y σ ⟨q, rows, fs, hq, rfl, hf, hs, rfl⟩
 by_cases hlt : q < x.decls.length
 ·have k1 : decide ((q : Int) < (x.decls.length : Int)) = true := decide_eq_true (by omega)
  have hd := hb _ (List.getElem_mem hlt)
  refine goC 400 ?_
  simp only [go_sem, hA, mc1St, k1, encDs_length, Int.toNat_natCast, encDs_at x.decls q hlt, encD, mentL_rep, encS_length]
  refine ⟨⟨by omega, by omega⟩, ?_⟩
  have hn := confE_le x.decls[q].body
  have hs3 := hs.pre (decide (x.decls[q].names.length = 3)) x.label x.decls[q].id 1
  have kn : decide (x.decls[q].names.length = 3) = decide (((x.decls[q].names.length : Nat) : Int) = 3) := decide_eq_decide.2 (by omega)
  have hcf := mmConflicts_c x.decls[q].body (by omega)
  rw [kn] at hs3
  cases k3 : decide (((x.decls[q].names.length : Nat) : Int) = 3)
  all_goals
   rw [k3] at kn hs3
   simp only [go_sem, hA, truesS_ment]
  rotate_left
  refine ⟨⟨spR_fit _ _ _ _, hs.1, by have := hs.2; omega⟩, ?_⟩
  all_goals
   refine goCall 400 hcf rfl (by simp only [go_sem, avE_eq]) (by simp only [go_sem, hA]) ?_
   simp only [go_sem, hA]
   refine satC_loop [1, 3, 4, 6, 10, 11, 12, 30, 31] [0, 2000, 5002] [99] (fun y σ => ∃ j : Nat, j ≤ confE x.decls[q].body ∧ y = confE x.decls[q].body - j ∧ σ = mc2St x x.decls[q] (mid3 x.label x.decls[q].id j (pre3 (decide (((x.decls[q].names.length : Nat) : Int) = 3)) x.label x.decls[q].id 1 rows)) fs q j) (confE x.decls[q].body) ⟨0, by omega, by omega, by (simp only [go_sem, mc2St, mid3_zero, k3, pre3_t, pre3_f, List.length_append, List.length_cons, List.length_nil]) <;> rfl⟩ ?_
   rintro y σ ⟨j, hj, rfl, rfl⟩
   rw [k3]
   generalize hr3 : pre3 _ x.label x.decls[q].id 1 rows = r3 at hs3 ⊢
   have hsm := hs3.mid x.label x.decls[q].id j
   refine goC 400 ?_
   by_cases hj1 : j < confE x.decls[q].body
   ·have k4 : decide ((j : Int) < (confE x.decls[q].body : Int)) = true := decide_eq_true (by omega)
    simp only [go_sem, hA, mc2St, k4, truesS_ment]
    exact ⟨⟨spR_fit _ _ _ _, hsm.1, by have := hsm.2; omega⟩, by unfold inI64; omega, confE x.decls[q].body - (j + 1), by omega, j + 1, by omega, rfl, by rw [mid3_succ]; simp only [List.length_append, List.length_cons, List.length_nil]; rfl⟩
   ·have k4 : decide ((j : Int) < (confE x.decls[q].body : Int)) = false := decide_eq_false (by omega)
    obtain rfl : j = confE x.decls[q].body := by omega
    have hsp : spotsF x (q + 1) = spotsD x.label (rows, fs) x.decls[q] := by unfold spotsF at hf ⊢; rw [List.take_succ_eq_append_getElem hlt, List.foldl_append, hf]; rfl
    unfold spotsD at hsp
    simp only at hsp
    rw [kn, hr3] at hsp
    generalize mid3 x.label x.decls[q].id (confE x.decls[q].body) r3 = r4 at hsm hsp ⊢
    have hs5 := hsm.pre x.decls[q].doubt x.label x.decls[q].id 3
    simp only [go_sem, hA, mc2St, k4, truesS_ment]
    cases k5 : x.decls[q].doubt
    all_goals
     rw [k5] at hs5 hsp
     simp only [go_sem, hA, encS_length, truesS_ment]
    rotate_left
    refine ⟨⟨spR_fit _ _ _ _, hsm.1, by have := hsm.2; omega⟩, ?_⟩
    all_goals
     cases k6 : decide (((x.decls[q].names.length : Nat) : Int) = 1)
     ·have k6' : ¬ x.decls[q].names.length = 1 := by have := of_decide_eq_false k6; omega
      rw [if_neg k6', decide_eq_false k6', Bool.false_and, pre3_f] at hsp
      simp only [go_sem, hA]
      exact ⟨by unfold inI64; omega, x.decls.length - (q + 1), by omega, q + 1, _, _, by omega, rfl, hsp, hs5.le (by omega), by (simp only [pre3_t, pre3_f, List.length_append, List.length_cons, List.length_nil]) <;> rfl⟩
     ·have k6' : x.decls[q].names.length = 1 := by have := of_decide_eq_true k6; omega
      rw [if_pos k6', decide_eq_true k6', Bool.true_and] at hsp
      have h0 : 0 < x.decls[q].names.length := by omega
      have h1 : one3 x.decls[q] = x.decls[q].names[0] := by simp [one3, List.getD_eq_getElem?_getD, h0]
      rw [h1] at hsp
      have hs6 := hs5.pre (hasS fs x.decls[q].names[0]) x.label x.decls[q].id 4
      cases k7 : hasS fs x.decls[q].names[0] with
      | true =>
       obtain ⟨j', hj1', hj2'⟩ := find_some k7
       rw [k7] at hsp hs6
       have ha : addS fs x.decls[q].names[0] = fs := by simp [addS, k7]
       rw [ha] at hsp
       simp only [go_sem, hA, encS_length, encS_at _ 0 h0, hj1', hj2', keysS_fit, truesS_ment, trues_set]
       refine ⟨by omega, ?_, by omega, by unfold inI64; omega, x.decls.length - (q + 1), by omega, q + 1, _, _, by omega, rfl, hsp, hs6.le (by omega), by (simp only [pre3_t, pre3_f, List.length_append, List.length_cons, List.length_nil]) <;> rfl⟩
       have hl5 := hs5.2
       first | exact ⟨spR_fit _ _ _ _, hs5.1, by have : r4.length = (pre3 false x.label x.decls[q].id 3 r4).length := rfl; omega⟩ | exact ⟨by simp, spR_fit _ _ _ _, hs5.1, Nat.le_trans hl5 (by omega)⟩
      | false =>
       have hj' := find_none k7
       rw [k7] at hsp hs6
       have ha : addS fs x.decls[q].names[0] = fs ++ [x.decls[q].names[0]] := by simp [addS, k7]
       rw [ha] at hsp
       simp only [go_sem, hA, encS_length, encS_at _ 0 h0, hj', keysS_fit, truesS_ment, ← keys_snoc]
       refine ⟨by omega, by omega, by unfold inI64; omega, x.decls.length - (q + 1), by omega, q + 1, _, _, by omega, rfl, hsp, hs6.le (by omega), by (simp only [pre3_t, pre3_f, trues_snoc, List.length_append, List.length_cons, List.length_nil]) <;> rfl⟩
 ·have k1 : decide ((q : Int) < (x.decls.length : Int)) = false := decide_eq_false (by omega)
  obtain rfl : q = x.decls.length := by omega
  rw [hf]
  refine goC 400 ?_
  simp only [go_sem, hA, mc1St, k1, Tryz.results61]
end
section
open Go Go.RowKit
def confM (x : Mo) : List (List D) := if bindX x = 0 then (spotsF x x.decls.length).1 else []
set_option maxRecDepth 100000 in
theorem mConfs_c (x : Mo) (hl : x.decls.length ≤ 1048576) (hb : ∀ d ∈ x.decls, nodesE d.body ≤ 524288) : Con Tryz.prog 45 [avM x] (.d (.sl (confM x))) := by
 refine con_of Tryz.func45 rfl (by decide +kernel) rfl rfl (by simp [Tryz.ntmps45]) fun A hA => ?_
 rw [Tryz.ntmps45] at hA
 refine goC 400 ?_
 simp only [go_sem, hA, avM]
 refine goCall 400 (bind_c x hb) rfl (by simp only [go_sem, avM]) (by simp only [go_sem, hA]) ?_
 by_cases hx : bindX x = 0
 ·have g : (decide ¬ bindX x = 0) = false := by simp [hx]
  have hr : confM x = (spotsF x x.decls.length).1 := if_pos hx
  simp only [go_sem, hA, g, hr]
  refine goCall 400 (mconfs_c x hl hb) rfl (by simp only [go_sem, avM]) (by simp only [go_sem, hA]) ?_
  simp only [go_sem, hA, Tryz.results45]
 ·have g : (decide ¬ bindX x = 0) = true := by simp [hx]
  have hr : confM x = [] := if_neg hx
  simp only [go_sem, hA, g, hr, Tryz.results45]
end
section
open Go Go.RowKit
def modsP (m : Mg) (q : Nat) : List (List D) := (m.ms.take q).flatMap confM
def textsP (m : Mg) (q : Nat) : List (List D) := modsP m m.ms.length ++ (m.ts.take q).map fun x => spR x.path 5 0 0
def listG (m : Mg) : List (List D) := textsP m m.ts.length
abbrev li1St (m : Mg) (q : Nat) : St := ⟨[(1, .box 0 0), (3, .grow 99 (modsP m q)), (9, .d (.sl (encMs m.ms))), (10, .d (.raw (.int .i64 m.ms.length))), (11, .d (.raw (.int .i64 q)))], [(0, some (.cell 26 [.d (.sl (encMs m.ms)), .d (.sl (encFs m.fs)), .d (.sl (encCs m.ts))]))], [(99, some ⟨4, 38, (modsP m q).length, none⟩)]⟩
abbrev li2St (m : Mg) (q : Nat) : St := ⟨[(1, .box 0 0), (3, .grow 99 (textsP m q)), (21, .d (.sl (encCs m.ts))), (22, .d (.raw (.int .i64 m.ts.length))), (23, .d (.raw (.int .i64 q)))], [(0, some (.cell 26 [.d (.sl (encMs m.ms)), .d (.sl (encFs m.fs)), .d (.sl (encCs m.ts))]))], [(99, some ⟨4, 38, (textsP m q).length, none⟩)]⟩
theorem modsP_row {m : Mg} (h : ∀ x ∈ m.ms, rowsFit 4 (confM x)) (q : Nat) : ∀ r ∈ modsP m q, r.length = 4 := fun r hr => by
 obtain ⟨x, hx, hr⟩ := List.mem_flatMap.1 hr
 exact (h x (List.mem_of_mem_take hx) r hr).1
theorem textsP_row {m : Mg} (h : ∀ x ∈ m.ms, rowsFit 4 (confM x)) (q : Nat) : ∀ r ∈ textsP m q, r.length = 4 := fun r hr => by
 rcases List.mem_append.1 hr with h1 | h1
 ·exact modsP_row h _ r h1
 ·obtain ⟨x, _, rfl⟩ := List.mem_map.1 h1; rfl
theorem modsP_snoc (m : Mg) (q : Nat) (h : q < m.ms.length) : modsP m (q + 1) = modsP m q ++ confM m.ms[q] := by unfold modsP; rw [List.take_succ_eq_append_getElem h, List.flatMap_append]; simp only [List.flatMap_cons, List.flatMap_nil, List.append_nil]
theorem textsP_snoc (m : Mg) (q : Nat) (h : q < m.ts.length) : textsP m (q + 1) = textsP m q ++ [spR m.ts[q].path 5 0 0] := by unfold textsP; rw [List.take_succ_eq_append_getElem h, List.map_append, List.map_cons, List.map_nil, List.append_assoc]
theorem textsP_zero (m : Mg) : textsP m 0 = modsP m m.ms.length := by simp [textsP]
theorem textsP_length (m : Mg) (q : Nat) : (textsP m q).length ≤ (modsP m m.ms.length).length + m.ts.length := by simp [textsP]; omega
set_option maxRecDepth 100000 in
set_option maxHeartbeats 16000000 in
theorem slist_c (m : Mg) (hl : m.ms.length ≤ 1048576) (ht : m.ts.length ≤ 1048576) (hd : ∀ x ∈ m.ms, x.decls.length ≤ 1048576 ∧ ∀ d ∈ x.decls, nodesE d.body ≤ 524288) (hr4 : ∀ x ∈ m.ms, rowsFit 4 (confM x)) (hT : ∀ q, (modsP m q).length ≤ 1099500000000) :
  Con Tryz.prog 20 [avG m] (.d (.sl (listG m))) := by
 refine con_of Tryz.func20 rfl (by decide +kernel) rfl rfl (by simp [Tryz.ntmps20]) fun A hA => ?_
 rw [Tryz.ntmps20] at hA
 refine goC 20 ?_
 simp only [go_sem, hA, avG]
 refine satC_growTmp 99 3 4 38 (by simp only [go_sem]) rfl ?_
 refine goC 400 ?_
 simp only [go_sem, hA, encMs_length]
 refine satC_loop [1, 3, 9, 10, 11] [0] [99] (fun y σ => ∃ q : Nat, q ≤ m.ms.length ∧ y = m.ms.length - q ∧ σ = li1St m q) m.ms.length ⟨0, by omega, by omega, by (simp only [go_sem, li1St]) <;> rfl⟩ ?_
 rintro y σ ⟨q, hq, rfl, rfl⟩
 refine goC 400 ?_
 have hT0 := hT q
 by_cases hlt : q < m.ms.length
 ·have k1 : decide ((q : Int) < (m.ms.length : Int)) = true := decide_eq_true (by omega)
  have hdx := hd _ (List.getElem_mem hlt)
  simp only [go_sem, hA, li1St, k1, encMs_length, Int.toNat_natCast, encMs_at m.ms q hlt, encM]
  refine ⟨⟨by omega, by omega⟩, ?_⟩
  refine goCall 400 (mConfs_c m.ms[q] hdx.1 hdx.2) rfl (by simp only [go_sem, avM]) (by simp only [go_sem, hA]) ?_
  simp only [go_sem, hA]
  have hT1 := hT (q + 1)
  rw [modsP_snoc m q hlt, List.length_append] at hT1
  exact ⟨⟨hr4 _ (List.getElem_mem hlt), modsP_row hr4 q, by omega⟩, by unfold inI64; omega, m.ms.length - (q + 1), by omega, q + 1, by omega, rfl, by rw [modsP_snoc m q hlt, List.length_append]; rfl⟩
 have k1 : decide ((q : Int) < (m.ms.length : Int)) = false := decide_eq_false (by omega)
 obtain rfl : q = m.ms.length := by omega
 simp only [go_sem, hA, li1St, k1, encCs_length]
 refine satC_loop [1, 3, 21, 22, 23] [0] [99] (fun y σ => ∃ q : Nat, q ≤ m.ts.length ∧ y = m.ts.length - q ∧ σ = li2St m q) m.ts.length ⟨0, by omega, by omega, by (simp only [go_sem, li2St, textsP_zero]) <;> rfl⟩ ?_
 clear hlt k1 hq
 rintro y σ ⟨q, hq, rfl, rfl⟩
 refine goC 400 ?_
 by_cases hlt : q < m.ts.length
 ·have k1 : decide ((q : Int) < (m.ts.length : Int)) = true := decide_eq_true (by omega)
  have hTl := textsP_length m q
  simp only [go_sem, hA, li2St, k1, encCs_length, Int.toNat_natCast, encCs_at m.ts q hlt, encC]
  exact ⟨⟨by omega, by omega⟩, ⟨spR_fit _ _ _ _, textsP_row hr4 q, by omega⟩, by unfold inI64; omega, m.ts.length - (q + 1), by omega, q + 1, by omega, rfl, by rw [textsP_snoc m q hlt, List.length_append]; rfl⟩
 have k1 : decide ((q : Int) < (m.ts.length : Int)) = false := decide_eq_false (by omega)
 obtain rfl : q = m.ts.length := by omega
 simp only [go_sem, hA, li2St, k1, listG, Tryz.results20]
end
section
open Go Go.RowKit
def listX (m : Mg) : List (List D) := if settX m = 0 then listG m else []
set_option maxRecDepth 100000 in
theorem sList_c (m : Mg) (hm : m.Fine) (ht : m.ts.length ≤ 1048576) (hd : ∀ x ∈ m.ms, x.decls.length ≤ 1048576) (hr4 : ∀ x ∈ m.ms, rowsFit 4 (confM x)) (hT : ∀ q, (modsP m q).length ≤ 1099500000000) :
  Con Tryz.prog 8 [avG m] (.d (.sl (listX m))) := by
 refine con_of Tryz.func8 rfl (by decide +kernel) rfl rfl (by simp [Tryz.ntmps8]) fun A hA => ?_
 rw [Tryz.ntmps8] at hA
 refine goC 400 ?_
 simp only [go_sem, hA, avG]
 refine goCall 400 (settle_c m hm) rfl (by simp only [go_sem, avG]) (by simp only [go_sem, hA]) ?_
 by_cases hx : settX m = 0
 ·have g : (decide ¬ settX m = 0) = false := by simp [hx]
  have hr : listX m = listG m := if_pos hx
  simp only [go_sem, hA, g, hr]
  refine goCall 400 (slist_c m hm.ml ht (fun x h => ⟨hd x h, hm.bd x h⟩) hr4 hT) rfl (by simp only [go_sem, avG]) (by simp only [go_sem, hA]) ?_
  simp only [go_sem, hA, Tryz.results8]
 ·have g : (decide ¬ settX m = 0) = true := by simp [hx]
  have hr : listX m = [] := if_neg hx
  simp only [go_sem, hA, g, hr, Tryz.results8]
end
section
open Go Go.RowKit
def cleanM (x : Mo) : Bool := decide (bindX x = 0) && decide ((((spotsF x x.decls.length).1.length : Nat) : Int) = 0)
def cleanG (m : Mg) : Bool := decide (((m.ts.length : Nat) : Int) = 0) && !(m.ms.any fun x => !cleanM x)
set_option maxRecDepth 100000 in
theorem mClean_c' (x : Mo) (hl : x.decls.length ≤ 1048576) (hb : ∀ d ∈ x.decls, nodesE d.body ≤ 524288) : Con Tryz.prog 30 [avM x] (.d (.raw (.bool (cleanM x)))) := by
 refine con_of Tryz.func30 rfl (by decide +kernel) rfl rfl (by simp [Tryz.ntmps30]) fun A hA => ?_
 rw [Tryz.ntmps30] at hA
 refine goC 400 ?_
 simp only [go_sem, hA, avM]
 refine goCall 400 (bind_c x hb) rfl (by simp only [go_sem, avM]) (by simp only [go_sem, hA]) ?_
 have hr : cleanM x = (decide (bindX x = 0) && decide ((((spotsF x x.decls.length).1.length : Nat) : Int) = 0)) := rfl
 cases g : decide (bindX x = 0) with
 | true =>
  rw [g, Bool.true_and] at hr
  simp only [go_sem, hA, g, hr]
  refine goCall 400 (mconfs_c x hl hb) rfl (by simp only [go_sem, avM]) (by simp only [go_sem, hA]) ?_
  simp only [go_sem, hA, Tryz.results30]
 | false =>
  rw [g, Bool.false_and] at hr
  simp only [go_sem, hA, g, hr, undef, Tryz.results30]
set_option maxRecDepth 100000 in
theorem notClean_c (x : Mo) (hl : x.decls.length ≤ 1048576) (hb : ∀ d ∈ x.decls, nodesE d.body ≤ 524288) : Con Tryz.prog 29 [avM x] (.d (.raw (.bool (!cleanM x)))) := by
 refine con_of Tryz.func29 rfl (by decide +kernel) rfl rfl (by simp [Tryz.ntmps29]) fun A hA => ?_
 rw [Tryz.ntmps29] at hA
 refine goC 400 ?_
 simp only [go_sem, hA, avM]
 refine goCall 400 (mClean_c' x hl hb) rfl (by simp only [go_sem, avM]) (by simp only [go_sem, hA]) ?_
 simp only [go_sem, hA, Tryz.results29]
set_option maxRecDepth 100000 in
theorem rClean_c' (m : Mg) (hml : m.ms.length ≤ 1048576) (hd : ∀ x ∈ m.ms, x.decls.length ≤ 1048576 ∧ ∀ d ∈ x.decls, nodesE d.body ≤ 524288) : Con Tryz.prog 10 [avG m] (.d (.raw (.bool (cleanG m)))) := by
 refine con_of Tryz.func10 rfl (by decide +kernel) rfl rfl (by simp [Tryz.ntmps10]) fun A hA => ?_
 rw [Tryz.ntmps10] at hA
 refine goC 400 ?_
 have hr : cleanG m = (decide (((m.ts.length : Nat) : Int) = 0) && !(m.ms.any fun x => !cleanM x)) := rfl
 cases g : decide (((m.ts.length : Nat) : Int) = 0) with
 | true =>
  rw [g, Bool.true_and] at hr
  simp only [go_sem, hA, avG, encCs_length, g, hr]
  refine goCall 400 (ixModAny_c m.ms _ [] (fun x => !cleanM x) rfl rfl hml fun x hx => notClean_c x (hd x hx).1 (hd x hx).2) rfl (by simp only [go_sem]) (by simp only [go_sem, hA]) ?_
  simp only [go_sem, hA, Tryz.results10]
 | false =>
  rw [g, Bool.false_and] at hr
  simp only [go_sem, hA, avG, encCs_length, g, hr, undef, Tryz.results10]
end
section
open Go Go.RowKit
structure Sq where
 label : ByteArray
 kind : Int
 id : Int
 pos : Int
def encQ (x : Sq) : List D := spR x.label x.kind x.id x.pos
def encQs (l : List Sq) : List (List D) := l.map encQ
def avQ (x : Sq) : AV := .agg [.d (.raw (.string x.label)), .d (.raw (.int .i64 x.kind)), .d (.raw (.int .i64 x.id)), .d (.raw (.int .i64 x.pos))]
def eqQ (x y : Sq) : Bool := decide (x.label = y.label) && (decide (x.kind = y.kind) && (decide (x.id = y.id) && decide (x.pos = y.pos)))
theorem encQs_length (l : List Sq) : (encQs l).length = l.length := by simp [encQs]
theorem encQs_at (l : List Sq) (i : Nat) (h : i < l.length) : (encQs l).getD i [] = encQ l[i] := by simp [encQs, List.getD_eq_getElem?_getD, h]
abbrev iqSt (l : List Sq) (x : Sq) (q : Nat) : St := ⟨[(0, .d (.sl (encQs l))), (3, .box 0 0), (7, .d (.raw (.int .i64 l.length))), (8, .d (.raw (.int .i64 q)))], [(0, some (.cell 38 [.d (.raw (.string x.label)), .d (.raw (.int .i64 x.kind)), .d (.raw (.int .i64 x.id)), .d (.raw (.int .i64 x.pos))]))], []⟩
set_option maxRecDepth 100000 in
theorem ixQ_c (l : List Sq) (x : Sq) (hl : l.length ≤ 1048576) : Con Tryz.prog 96 [.d (.sl (encQs l)), avQ x] (.d (.raw (.int .i64 (ixF (eqQ x) l)))) := by
 refine con_of Tryz.func96 rfl (by decide +kernel) rfl rfl (by simp [Tryz.ntmps96]) fun A hA => ?_
 rw [Tryz.ntmps96] at hA
 refine goC 400 ?_
 simp only [go_sem, hA, avQ, encQs_length]
 refine satC_loop [0, 3, 7, 8] [0] [] (fun y σ => ∃ q : Nat, q ≤ l.length ∧ y = l.length - q ∧ ((l.take q).any (eqQ x)) = false ∧ σ = iqSt l x q) l.length ⟨0, by omega, by omega, rfl, by simp only [go_sem, iqSt]⟩ ?_
 rintro y σ ⟨q, hq, rfl, hf, rfl⟩
 refine goC 400 ?_
 by_cases hlt : q < l.length
 ·have k1 : decide ((q : Int) < (l.length : Int)) = true := decide_eq_true (by omega)
  have he : ((decide (x.label = l[q].label)) && ((decide (x.kind = l[q].kind)) && ((decide (x.id = l[q].id)) && (decide (x.pos = l[q].pos))))) = eqQ x l[q] := rfl
  cases hx : eqQ x l[q] with
  | true =>
   rw [hx] at he
   simp only [go_sem, hA, iqSt, encQs_length, k1, Int.toNat_natCast, encQs_at l q hlt, encQ, spR, String.reduceEq, he, ixF_hit hlt hf hx, Tryz.results96]
   exact ⟨⟨by omega, by omega⟩, ⟨by kernel_rfl, by kernel_rfl⟩, by show chk _ _ _ = true; kernel_rfl⟩
  | false =>
   rw [hx] at he
   simp only [go_sem, hA, iqSt, encQs_length, k1, Int.toNat_natCast, encQs_at l q hlt, encQ, spR, String.reduceEq, he]
   exact ⟨⟨by omega, by omega⟩, ⟨by kernel_rfl, by kernel_rfl⟩, by show chk _ _ _ = true; kernel_rfl, by unfold inI64; omega, l.length - (q + 1), by omega, q + 1, by omega, rfl, any_step hlt hf hx, rfl⟩
 ·have k1 : decide ((q : Int) < (l.length : Int)) = false := decide_eq_false (by omega)
  obtain rfl : q = l.length := by omega
  rw [List.take_length] at hf
  have hr : ixF (eqQ x) l = -1 := by unfold ixF; rw [hf]; rfl
  simp only [go_sem, hA, iqSt, k1, hr, Tryz.results96]
set_option maxRecDepth 100000 in
theorem hasQ_c (l : List Sq) (x : Sq) (hl : l.length ≤ 1048576) : Con Tryz.prog 67 [.d (.sl (encQs l)), avQ x] (.d (.raw (.bool (l.any (eqQ x))))) := by
 refine con_of Tryz.func67 rfl (by decide +kernel) rfl rfl (by simp [Tryz.ntmps67]) fun A hA => ?_
 rw [Tryz.ntmps67] at hA
 refine goC 400 ?_
 simp only [go_sem, hA, avQ]
 refine goCall 400 (ixQ_c l x hl) rfl (by simp only [go_sem, avQ]) (by simp only [go_sem, hA]) ?_
 simp only [go_sem, hA, ixF_nonneg, Tryz.results67]
end
section
open Go Go.RowKit
set_option maxRecDepth 100000 in
set_option maxHeartbeats 16000000 in
theorem mName_c (s : ByteArray) : Con Tryz.prog 99 [.d (.raw (.string s))] (.d (.raw (.bool (nameB s)))) := by
 refine con_of Tryz.func99 rfl (by decide +kernel) rfl rfl (by simp [Tryz.ntmps99]) fun A hA => ?_
 rw [Tryz.ntmps99] at hA
 have hx : decide (checkX (.mk 3 s ⟨#[]⟩ 0 0 []) = 0) = nameB s := by
  cases h : nameB s with
  | true => exact decide_eq_true ((name_check s).2 h)
  | false => exact decide_eq_false fun h' => by rw [(name_check s).1 h'] at h; cases h
 refine goC 400 ?_
 simp only [go_sem, hA]
 refine goCall 400 (sCheckExpr_c (.mk 3 s ⟨#[]⟩ 0 0 []) (by simp [nodesE, nodesL])) rfl (by simp only [go_sem, avE_eq, Ex.kind, Ex.name, Ex.more, Ex.int, Ex.den, Ex.sub, encL]) (by simp only [go_sem, hA]) ?_
 simp only [go_sem, hA, hx, Tryz.results99]
def zeroDc : Dc := ⟨0, 0, false, [], false, zeroEx⟩
def nmX (d : Dc) (nm : ByteArray) : Dc × Bool × Int := if nameB nm = true then ({ d with names := [nm] }, true, 0) else (zeroDc, false, 6)
def stdX (d : Dc) (s : Sq) (k : Nat) : Dc × Bool × Int :=
 if s.kind = 1 then nmX d (d.names.getD k ⟨#[]⟩)
 else if s.kind = 2 then (if (setEX d.body s.pos k).2 = 0 then ({ d with body := (setEX d.body s.pos k).1 }, true, 0) else (zeroDc, false, (setEX d.body s.pos k).2))
 else if k = 2 then (zeroDc, false, 0)
 else if s.kind = 3 then ({ d with doubt := false }, true, 0)
 else nmX d (d.names.getD 0 ⟨#[]⟩ ++ itoaB d.id)
set_option maxRecDepth 100000 in
set_option maxHeartbeats 16000000 in
theorem settleDecl_c (d : Dc) (s : Sq) (k : Nat) (hk : k < 3) (hb : nodesE d.body ≤ 1048576) (hid : inI64 d.id) (h1 : s.kind = 1 → k < d.names.length) (h4 : 0 < d.names.length ∨ s.kind = 2 ∨ s.kind = 3) (hns : ∀ nm ∈ d.names, nm.size ≤ 1099511627776) :
  Con Tryz.prog 68 [avD d, avQ s, .d (.raw (.int .i64 k))] (.tup [avD (stdX d s k).1, .d (.raw (.bool (stdX d s k).2.1)), .d (.raw (.int .i64 (stdX d s k).2.2))]) := by
 refine con_of Tryz.func68 rfl (by decide +kernel) rfl rfl (by simp [Tryz.ntmps68]) fun A hA => ?_
 rw [Tryz.ntmps68] at hA
 have e21 : decide ((2 : Int) = 1) = false := by decide
 have e31 : decide ((3 : Int) = 1) = false := by decide
 have e32 : decide ((3 : Int) = 2) = false := by decide
 have hg0 : ∀ x : D, ([[x]] : List (List D)).getD 0 [] = [x] := fun _ => rfl
 refine goC 400 ?_
 by_cases g1 : s.kind = 1
 ·have hr : stdX d s k = nmX d (d.names.getD k ⟨#[]⟩) := if_pos g1
  have hk1 := h1 g1
  have hn : d.names.getD k ⟨#[]⟩ = d.names[k] := by simp [List.getD_eq_getElem?_getD, hk1]
  rw [hn] at hr
  simp only [go_sem, hA, avD, avQ, g1, encS_length, Int.toNat_natCast, encS_at d.names k hk1, hg0]
  refine ⟨⟨by omega, by omega⟩, ?_⟩
  refine goCall 400 (mName_c d.names[k]) rfl (by simp only [go_sem]) (by simp only [go_sem, hA]) ?_
  cases hb2 : nameB d.names[k] with
  | true =>
   rw [nmX, if_pos hb2] at hr
   simp only [go_sem, hA, hr, Tryz.results68]
   rfl
  | false =>
   rw [nmX, if_neg (by simp [hb2])] at hr
   simp only [go_sem, hA, hr, Tryz.results68]
   rfl
 by_cases g2 : s.kind = 2
 ·have hr : stdX d s k = if (setEX d.body s.pos k).2 = 0 then ({ d with body := (setEX d.body s.pos k).1 }, true, 0) else (zeroDc, false, (setEX d.body s.pos k).2) := by
   unfold stdX; rw [if_neg g1, if_pos g2]
  have hc := eSettle_c d.body s.pos k hb
  simp only [go_sem, hA, avD, avQ, g2, e21]
  refine goCall 400 hc rfl (by simp only [go_sem, avE_eq]) (by simp only [go_sem, hA]) ?_
  generalize setEX d.body s.pos k = r at hr
  obtain ⟨e, er⟩ := r
  simp only [go_sem, hA, avE_eq]
  by_cases he : er = 0
  ·subst he
   rw [if_pos rfl] at hr
   simp only [go_sem, hA, hr, Tryz.results68]
  ·rw [if_neg he] at hr
   simp only [go_sem, hA, he, hr, Tryz.results68]
   rfl
 by_cases gk : k = 2
 ·have hr : stdX d s k = (zeroDc, false, 0) := by unfold stdX; rw [if_neg g1, if_neg g2, if_pos gk]
  subst gk
  simp only [go_sem, hA, avD, avQ, g1, g2, hr, Tryz.results68]
  rfl
 have gk' : decide ((k : Int) = 2) = false := decide_eq_false (by omega)
 by_cases g3 : s.kind = 3
 ·have hr : stdX d s k = ({ d with doubt := false }, true, 0) := by unfold stdX; rw [if_neg g1, if_neg g2, if_neg gk, if_pos g3]
  simp only [go_sem, hA, avD, avQ, g3, gk', e31, e32, hr, Tryz.results68]
 ·have hr : stdX d s k = nmX d (d.names.getD 0 ⟨#[]⟩ ++ itoaB d.id) := by unfold stdX; rw [if_neg g1, if_neg g2, if_neg gk, if_neg g3]
  have h0 : 0 < d.names.length := by
   rcases h4 with h | h | h
   ·exact h
   ·exact absurd h g2
   ·exact absurd h g3
  have hn : d.names.getD 0 ⟨#[]⟩ = d.names[0] := by simp [List.getD_eq_getElem?_getD, h0]
  have hne : (encS d.names).getD 0 [] = [.raw (.string d.names[0])] := encS_at d.names 0 h0
  rw [hn] at hr
  simp only [go_sem, hA, avD, avQ, g1, g2, g3, gk', encS_length, hne, mixed]
  refine ⟨by omega, ?_⟩
  refine goCallD 400 (itoa_c d.id hid) rfl (by simp only [go_sem]) (by simp only [go_sem, hA]) ?_
  simp only [go_sem, hA, hg0]
  have hsz := hns _ (List.getElem_mem h0)
  have hil : (itoaB d.id).size ≤ 21 := by unfold inI64 at hid; exact Lib.itoa_length_le d.id (by omega) (by omega)
  refine ⟨by omega, by show chk _ _ _ = true; kernel_rfl, ?_⟩
  refine goCall 400 (mName_c (d.names[0] ++ itoaB d.id)) rfl (by simp only [go_sem]) (by simp only [go_sem, hA]) ?_
  cases hb2 : nameB (d.names[0] ++ itoaB d.id) with
  | true =>
   rw [nmX, if_pos hb2] at hr
   simp only [go_sem, hA, hr, Tryz.results68]
   rfl
  | false =>
   rw [nmX, if_neg (by simp [hb2])] at hr
   simp only [go_sem, hA, hr, Tryz.results68]
   rfl
end
section
open Go Go.RowKit
theorem bind_decls {x : Mo} (h : bindX x = 0) : labelL x.label.data.toList = true ∧ x.decls.length ≤ 100 ∧ ∀ i, i < x.decls.length → bdE x.label x.decls i = 0 := by
 unfold bindX at h
 split at h
 ·rename_i hl
  refine ⟨hl, ?_⟩
  split at h
  ·exact absurd h (by assumption)
  split at h
  ·exact absurd h (by assumption)
  split at h
  ·cases h
  ·exact ⟨by omega, firstN_zero h⟩
 ·cases h
theorem bd_of {x : Mo} (h : bindX x = 0) (i : Nat) (hi : i < x.decls.length) : bdeclX x.label x.decls[i] = 0 ∧ (0 < i → ∀ hj : i - 1 < x.decls.length, x.decls[i - 1].id < x.decls[i].id) := by
 have h1 := (bind_decls h).2.2 i hi
 have e0 := atD_get x.decls i hi
 unfold bdE at h1
 split at h1
 ·exact absurd h1 (by assumption)
 ·rename_i h2
  have h3 : bdeclX x.label x.decls[i] = 0 := by rw [← e0]; exact Classical.not_not.1 h2
  refine ⟨h3, fun h0 hj => ?_⟩
  have e1 := atD_get x.decls (i - 1) hj
  split at h1
  ·cases h1
  ·rename_i h4
   rw [e0, e1] at h4
   have : ¬ x.decls[i].id ≤ x.decls[i - 1].id := fun hle => h4 ⟨h0, hle⟩
   omega
theorem ids_lt {x : Mo} (h : bindX x = 0) : ∀ (j i : Nat) (hj : j < x.decls.length) (hi : i < j), x.decls[i].id < x.decls[j].id := by
 intro j
 induction j with
 | zero => intro i hj hi; omega
 | succ j ih =>
  intro i hj hi
  have h1 := (bd_of h (j + 1) hj).2 (by omega) (by omega)
  have e : j + 1 - 1 = j := by omega
  simp only [e] at h1
  by_cases hij : i = j
  ·subst hij; exact h1
  ·have := ih i (by omega) (by omega); omega
theorem ids_inj {x : Mo} (h : bindX x = 0) {d e : Dc} (hd : d ∈ x.decls) (he : e ∈ x.decls) (hi : d.id = e.id) : d = e := by
 obtain ⟨i, hi1, rfl⟩ := List.mem_iff_getElem.1 hd
 obtain ⟨j, hj1, rfl⟩ := List.mem_iff_getElem.1 he
 rcases Nat.lt_trichotomy i j with h1 | h1 | h1
 ·have := ids_lt h j i hj1 h1; omega
 ·subst h1; rfl
 ·have := ids_lt h i j hi1 h1; omega
theorem bd_mem {x : Mo} (h : bindX x = 0) {d : Dc} (hd : d ∈ x.decls) : bdeclX x.label d = 0 := by
 obtain ⟨i, hi, rfl⟩ := List.mem_iff_getElem.1 hd
 exact (bd_of h i hi).1
theorem bdecl_ok {l : ByteArray} {d : Dc} (h : bdeclX l d = 0) : 1 ≤ d.id ∧ d.id ≤ 999999 ∧ (d.kind = 1 ∨ d.kind = 2 ∨ d.kind = 3) ∧ namesX d.names = 0 ∧ checkX d.body = 0 ∧ anyE (fun x => decide (x.kind = 4)) d.body = false ∧ (sfreeX d.body).length = 0 ∧ anyE (ownRef l) d.body = false := by
 unfold bdeclX at h
 split at h
 ·cases h
 split at h
 ·cases h
 split at h
 ·exact absurd h (by assumption)
 split at h
 ·exact absurd h (by assumption)
 split at h
 ·cases h
 split at h
 ·cases h
 split at h
 ·cases h
 rename_i h1 h2 h3 h4 h5 h6 h7
 refine ⟨by omega, by omega, ?_, Classical.not_not.1 h3, Classical.not_not.1 h4, by simpa using h5, by omega, by simpa using h7⟩
 by_cases k1 : d.kind = 1
 ·exact .inl k1
 ·by_cases k2 : d.kind = 2
  ·exact .inr (.inl k2)
  ·by_cases k3 : d.kind = 3
   ·exact .inr (.inr k3)
   ·exact absurd ⟨k1, k2, k3⟩ h2
end
section
open Go Go.RowKit
def preQ (b : Bool) (q : Sq) (l : List Sq) : List Sq := if b then l ++ [q] else l
def midQ (s : ByteArray) (i : Int) (n : Nat) (l : List Sq) : List Sq := l ++ (List.range n).map fun (j : Nat) => ⟨s, 2, i, (j : Int)⟩
def spotsDQ (s : ByteArray) (a : List Sq × List ByteArray) (d : Dc) : List Sq × List ByteArray :=
 (preQ (decide (d.names.length = 1) && hasS a.2 (one3 d)) ⟨s, 4, d.id, 0⟩ (preQ d.doubt ⟨s, 3, d.id, 0⟩ (midQ s d.id (confE d.body) (preQ (decide (d.names.length = 3)) ⟨s, 1, d.id, 0⟩ a.1))),
  if d.names.length = 1 then addS a.2 (one3 d) else a.2)
def spotsQ (x : Mo) (n : Nat) : List Sq × List ByteArray := (x.decls.take n).foldl (spotsDQ x.label) ([], [])
def confQ (x : Mo) : List Sq := (spotsQ x x.decls.length).1
theorem preQ_enc (b : Bool) (s : ByteArray) (k i : Int) (l : List Sq) : pre3 b s i k (encQs l) = encQs (preQ b ⟨s, k, i, 0⟩ l) := by cases b <;> simp [pre3, preQ, encQs, encQ]
theorem midQ_enc (s : ByteArray) (i : Int) (n : Nat) (l : List Sq) : mid3 s i n (encQs l) = encQs (midQ s i n l) := by simp [mid3, midQ, encQs, encQ, Function.comp_def]
theorem spotsDQ_enc (s : ByteArray) (l : List Sq) (fs : List ByteArray) (d : Dc) : spotsD s (encQs l, fs) d = (encQs (spotsDQ s (l, fs) d).1, (spotsDQ s (l, fs) d).2) := by
 unfold spotsD spotsDQ
 simp only [preQ_enc, midQ_enc]
theorem spotsQ_enc (x : Mo) : ∀ n, spotsF x n = (encQs (spotsQ x n).1, (spotsQ x n).2)
 | 0 => rfl
 | n + 1 => by
  by_cases h : n < x.decls.length
  ·have ih := spotsQ_enc x n
   unfold spotsF spotsQ at ih ⊢
   rw [List.take_succ_eq_append_getElem h, List.foldl_append, List.foldl_append, ih]
   exact spotsDQ_enc _ _ _ _
  ·have e : ∀ m, x.decls.length ≤ m → x.decls.take m = x.decls := fun m hm => List.take_of_length_le hm
   have ih := spotsQ_enc x n
   unfold spotsF spotsQ at ih ⊢
   rw [e _ (by omega)] at ih ⊢
   exact ih
theorem conf_enc (x : Mo) : (spotsF x x.decls.length).1 = encQs (confQ x) := by rw [spotsQ_enc]; rfl
def Spot.At (x : Mo) (d : Dc) (q : Sq) : Prop := q.label = x.label ∧ q.id = d.id ∧ ((q.kind = 1 ∧ d.names.length = 3) ∨ (q.kind = 2 ∧ 0 ≤ q.pos ∧ q.pos < confE d.body) ∨ (q.kind = 3 ∧ d.doubt = true) ∨ (q.kind = 4 ∧ d.names.length = 1))
theorem mem_preQ {b : Bool} {q r : Sq} {l : List Sq} (h : r ∈ preQ b q l) : r ∈ l ∨ (b = true ∧ r = q) := by
 cases b
 ·exact .inl h
 ·rcases List.mem_append.1 (show r ∈ l ++ [q] from h) with h1 | h1
  ·exact .inl h1
  ·exact .inr ⟨rfl, by simpa using h1⟩
theorem spotsDQ_mem {x : Mo} {a : List Sq × List ByteArray} {d : Dc} {q : Sq} (h : q ∈ (spotsDQ x.label a d).1) : q ∈ a.1 ∨ Spot.At x d q := by
 unfold spotsDQ at h
 rcases mem_preQ h with h | ⟨hb, rfl⟩
 ·rcases mem_preQ h with h | ⟨hb, rfl⟩
  ·unfold midQ at h
   rcases List.mem_append.1 h with h | h
   ·rcases mem_preQ h with h | ⟨hb, rfl⟩
    ·exact .inl h
    ·exact .inr ⟨rfl, rfl, .inl ⟨rfl, by simpa using hb⟩⟩
   ·obtain ⟨j, hj, rfl⟩ := List.mem_map.1 h
    have := List.mem_range.1 hj
    exact .inr ⟨rfl, rfl, .inr (.inl ⟨rfl, by simp, by simpa using this⟩)⟩
  ·exact .inr ⟨rfl, rfl, .inr (.inr (.inl ⟨rfl, hb⟩))⟩
 ·simp only [Bool.and_eq_true, decide_eq_true_eq] at hb
  exact .inr ⟨rfl, rfl, .inr (.inr (.inr ⟨rfl, hb.1⟩))⟩
theorem spotsQ_mem {x : Mo} {q : Sq} : ∀ n, q ∈ (spotsQ x n).1 → ∃ d ∈ x.decls, Spot.At x d q
 | 0, h => by cases h
 | n + 1, h => by
  by_cases hn : n < x.decls.length
  ·have e : spotsQ x (n + 1) = spotsDQ x.label (spotsQ x n) x.decls[n] := by
    unfold spotsQ
    rw [List.take_succ_eq_append_getElem hn, List.foldl_append]; rfl
   rw [e] at h
   rcases spotsDQ_mem h with h | h
   ·exact spotsQ_mem n h
   ·exact ⟨_, List.getElem_mem hn, h⟩
  ·have e : spotsQ x (n + 1) = spotsQ x n := by
    unfold spotsQ
    rw [List.take_of_length_le (by omega), List.take_of_length_le (by omega)]
   rw [e] at h
   exact spotsQ_mem n h
theorem conf_mem {x : Mo} {q : Sq} (h : q ∈ confQ x) : ∃ d ∈ x.decls, Spot.At x d q := spotsQ_mem _ h
theorem encQs_fit (l : List Sq) : rowsFit 4 (encQs l) := by
 intro r hr
 obtain ⟨x, _, rfl⟩ := List.mem_map.1 hr
 exact ⟨rfl, fun x hx => by simp [encQ, spR] at hx; rcases hx with rfl | rfl | rfl | rfl <;> rfl⟩
end
end Go.Proofs.YtnjedgpidalioaaGreatDoor
