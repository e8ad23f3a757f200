/- Settling conflicts, plain; expressions as trees of cells. settleOne, walked. Expressions in memory and expressions as trees of cells. -/
import Derived.Test.YtiagjpiclnmpkaaDoorLaw32
import Derived.Test.YtiagjpiclnmpkaaDoorGTe
import Derived.Test.YtiagjpiclnmpkaaDoorTrS
namespace Go.Proofs.YtiagjpiclnmpkaaDoor
open Go Go.RowKit

mutual
def encE : Ex → List D
  | .mk k n m i d s => [.raw (.int .i64 k), .raw (.string n), .raw (.string m), .raw (.int .i64 i), .raw (.int .i64 d), .sl (encL s)]
def encL : List Ex → List (List D)
  | [] => []
  | e :: es => encE e :: encL es
end
theorem encE_eq (t : Ex) : encE t = [.raw (.int .i64 t.kind), .raw (.string t.name), .raw (.string t.more), .raw (.int .i64 t.int), .raw (.int .i64 t.den), .sl (encL t.sub)] := by cases t; rfl
theorem encL_length : ∀ l : List Ex, (encL l).length = l.length
  | [] => rfl
  | e :: es => by rw [encL]; simp [encL_length es]
theorem encE_length (t : Ex) : (encE t).length = 6 := by cases t; rfl
theorem encL_map : ∀ l : List Ex, encL l = l.map encE
  | [] => rfl
  | e :: es => by rw [encL, encL_map es]; rfl
theorem encL_getD (l : List Ex) (i : Nat) (h : i < l.length) : (encL l).getD i [] = encE l[i] := by
  rw [encL_map]; simp [List.getD_eq_getElem?_getD, h]
theorem encL_at (l : List Ex) (i : Nat) (h : i < l.length) : (encL l).getD i [] = [.raw (.int .i64 l[i].kind), .raw (.string l[i].name), .raw (.string l[i].more), .raw (.int .i64 l[i].int), .raw (.int .i64 l[i].den), .sl (encL l[i].sub)] := by
  rw [encL_getD l i h, encE_eq]
theorem encL_fit (l : List Ex) : rowsFit 6 (encL l) := by
  intro r hr
  rw [encL_map] at hr
  obtain ⟨t, _, rfl⟩ := List.mem_map.1 hr
  refine ⟨encE_length t, fun x hx => ?_⟩
  rw [encE_eq] at hx
  simp only [List.mem_cons, List.not_mem_nil, or_false] at hx
  rcases hx with rfl | rfl | rfl | rfl | rfl | rfl <;> rfl
theorem encL_set (l : List Ex) (i : Nat) (t : Ex) : (encL l).set i (encE t) = encL (l.set i t) := by
  rw [encL_map, encL_map, List.map_set]
theorem encL_append (a b : List Ex) : encL a ++ encL b = encL (a ++ b) := by simp [encL_map]
def avE (t : Ex) : AV := .agg ((encE t).map .d)
theorem avE_eq (t : Ex) : avE t = .agg [.d (.raw (.int .i64 t.kind)), .d (.raw (.string t.name)), .d (.raw (.string t.more)), .d (.raw (.int .i64 t.int)), .d (.raw (.int .i64 t.den)), .d (.sl (encL t.sub))] := by
  rw [avE, encE_eq]; rfl
mutual
/-- all conflicts settled by a side -/
def allE (side : Nat) : Ex → Ex
  | .mk k n m i d s => if k = 15 then (allL side s).getD side zeroEx else .mk k n m i d (allL side s)
def allL (side : Nat) : List Ex → List Ex
  | [] => []
  | e :: es => allE side e :: allL side es
end
mutual
/-- the conflict of number j settled by a side, and what is left of j -/
def oneE (side : Nat) : Ex → Int → Ex × Int
  | .mk k n m i d s, j => if k = 15 then (if j = 0 then (s.getD side zeroEx, -1) else (.mk k n m i d (oneL side s (j - 1)).1, (oneL side s (j - 1)).2)) else (.mk k n m i d (oneL side s j).1, (oneL side s j).2)
def oneL (side : Nat) : List Ex → Int → List Ex × Int
  | [], j => ([], j)
  | e :: es, j => if j < 0 then (e :: es, j) else ((oneE side e j).1 :: (oneL side es (oneE side e j).2).1, (oneL side es (oneE side e j).2).2)
end
theorem oneL_neg (side : Nat) (l : List Ex) {j : Int} (h : j < 0) : oneL side l j = (l, j) := by
  cases l with
  | nil => rw [oneL]
  | cons e es => rw [oneL, if_pos h]
theorem oneL_append (side : Nat) : ∀ (a b : List Ex) (j : Int), oneL side (a ++ b) j = ((oneL side a j).1 ++ (oneL side b (oneL side a j).2).1, (oneL side b (oneL side a j).2).2)
  | [], b, j => by simp [oneL]
  | e :: es, b, j => by
    by_cases h : j < 0
    · rw [oneL_neg side _ h, oneL_neg side _ h, oneL_neg side b h]
    · rw [List.cons_append, oneL, if_neg h, oneL, if_neg h, oneL_append side es b]; rfl
theorem oneL_length (side : Nat) : ∀ (a : List Ex) (j : Int), (oneL side a j).1.length = a.length
  | [], j => by rw [oneL]
  | e :: es, j => by
    by_cases h : j < 0
    · rw [oneL_neg side _ h]
    · rw [oneL, if_neg h]; simp [oneL_length side es]
theorem oneL_take_succ (side : Nat) (l : List Ex) (i : Nat) (h : i < l.length) (j : Int) (hn : ¬ (oneL side (l.take i) j).2 < 0) :
    oneL side (l.take (i + 1)) j = ((oneL side (l.take i) j).1 ++ [(oneE side l[i] (oneL side (l.take i) j).2).1], (oneE side l[i] (oneL side (l.take i) j).2).2) := by
  rw [List.take_succ_eq_append_getElem h, oneL_append]
  rw [oneL, if_neg hn, oneL]
theorem oneL_stop (side : Nat) (l : List Ex) (i : Nat) (j : Int) (hn : (oneL side (l.take i) j).2 < 0) : oneL side l j = ((oneL side (l.take i) j).1 ++ l.drop i, (oneL side (l.take i) j).2) := by
  have h := oneL_append side (l.take i) (l.drop i) j
  rw [List.take_append_drop, oneL_neg side (l.drop i) hn] at h
  exact h
mutual
theorem oneE_idx (side : Nat) : ∀ (t : Ex) (j : Int), 0 ≤ j → (oneE side t j).2 = if j < confE t then -1 else j - confE t
  | .mk k n m i d s, j, h => by
    rw [oneE, confE]
    by_cases hk : k = 15
    · rw [if_pos hk, if_pos hk]
      by_cases h0 : j = 0
      · rw [if_pos h0, if_pos (by omega)]
      · rw [if_neg h0]
        simp only []
        rw [oneL_idx side s (j - 1) (by omega)]
        split <;> split <;> omega
    · rw [if_neg hk, if_neg hk]
      simp only []
      rw [oneL_idx side s j h]
      split <;> split <;> omega
theorem oneL_idx (side : Nat) : ∀ (l : List Ex) (j : Int), 0 ≤ j → (oneL side l j).2 = if j < confL l then -1 else j - confL l
  | [], j, h => by
    have e : confL [] = 0 := by rw [confL]
    rw [oneL, e, if_neg (by omega)]
    show j = j - 0
    omega
  | e :: es, j, h => by
    have e1 : confL (e :: es) = confE e + confL es := by rw [confL]
    rw [oneL, if_neg (by omega), e1]
    have h1 := oneE_idx side e j h
    by_cases hc : j < confE e
    · rw [if_pos hc] at h1
      rw [h1, oneL_neg side es (by omega), if_pos (by omega)]
    · rw [if_neg hc] at h1
      rw [h1, oneL_idx side es _ (by omega)]
      split <;> split <;> omega
end
theorem oneL_low (side : Nat) (l : List Ex) (j : Int) (h : 0 ≤ j) : -1 ≤ (oneL side l j).2 ∧ (oneL side l j).2 ≤ j := by
  rw [oneL_idx side l j h]; split <;> omega
end Go.Proofs.YtiagjpiclnmpkaaDoor

namespace Go.Proofs.YtiagjpiclnmpkaaDoor
open Go Go.RowKit
/- every conflict below has three sides -/
mutual
def sumsE : Ex → Bool
  | .mk k _ _ _ _ s => (decide (k ≠ 15) || decide (s.length = 3)) && sumsL s
def sumsL : List Ex → Bool
  | [] => true
  | e :: es => sumsE e && sumsL es
end
theorem sumsL_get : ∀ {l : List Ex} (i : Nat) (h : i < l.length), sumsL l = true → sumsE l[i] = true
  | e :: es, 0, _, h => by simp only [sumsL, Bool.and_eq_true] at h; simpa using h.1
  | e :: es, i + 1, hi, h => by
    simp only [sumsL, Bool.and_eq_true] at h
    simpa using sumsL_get i (by simpa using hi) h.2
/-- what is left of the loop of settleOne -/
abbrev soSt (k : Int) (n m : ByteArray) (i d : Int) (s : List Ex) (side : Nat) (j : Int) (q : Nat) : St :=
  ⟨[(1, .d (.raw (.int .i64 (oneL side (s.take q) j).2))), (2, .d (.raw (.int .i64 side))), (3, .box 0 0), (6, .box 1 0), (8, .own 5003 s.length), (9, .d (.raw (.int .i64 q)))],
   [(0, some (.cell 24 [.d (.raw (.int .i64 k)), .d (.raw (.string n)), .d (.raw (.string m)), .d (.raw (.int .i64 i)), .d (.raw (.int .i64 d)), .d (.sl (encL s))])), (1, some (.cell 24 [.d (.raw (.int .i64 0)), .d (.raw (.string ⟨#[]⟩)), .d (.raw (.string ⟨#[]⟩)), .d (.raw (.int .i64 0)), .d (.raw (.int .i64 0)), .d (.raw (.slice none 0 0))])), (5003, some (.row 6 24 (encL ((oneL side (s.take q) j).1 ++ s.drop q))))], []⟩
theorem one_row (side : Nat) (s : List Ex) (j : Int) (q : Nat) (h : q < s.length) : (encL ((oneL side (s.take q) j).1 ++ s.drop q)).getD q [] = [.raw (.int .i64 s[q].kind), .raw (.string s[q].name), .raw (.string s[q].more), .raw (.int .i64 s[q].int), .raw (.int .i64 s[q].den), .sl (encL s[q].sub)] := by
  have hl : (oneL side (s.take q) j).1.length = q := by rw [oneL_length]; simp; omega
  have hq : q < ((oneL side (s.take q) j).1 ++ s.drop q).length := by simp; omega
  rw [encL_at _ q hq]
  have e : ((oneL side (s.take q) j).1 ++ s.drop q)[q] = s[q] := by
    rw [List.getElem_append_right (by omega)]
    simp [hl]
  rw [e]
theorem one_set (side : Nat) (s : List Ex) (j : Int) (q : Nat) (h : q < s.length) (hn : ¬ (oneL side (s.take q) j).2 < 0) (t : Ex) (ht : t = (oneE side s[q] (oneL side (s.take q) j).2).1) :
    (encL ((oneL side (s.take q) j).1 ++ s.drop q)).set q [.raw (.int .i64 t.kind), .raw (.string t.name), .raw (.string t.more), .raw (.int .i64 t.int), .raw (.int .i64 t.den), .sl (encL t.sub)] = encL ((oneL side (s.take (q + 1)) j).1 ++ s.drop (q + 1)) := by
  rw [← encE_eq, encL_set, oneL_take_succ side s q h j hn, ht]
  have hl : (oneL side (s.take q) j).1.length = q := by rw [oneL_length]; simp; omega
  congr 1
  rw [List.set_append_right _ _ (by omega), hl, Nat.sub_self, List.drop_eq_getElem_cons h, List.set_cons_zero]
  simp
theorem one_len (side : Nat) (s : List Ex) (j : Int) (q : Nat) (h : q ≤ s.length) : (encL ((oneL side (s.take q) j).1 ++ s.drop q)).length = s.length := by
  rw [encL_length, List.length_append, oneL_length]; simp; omega
set_option maxRecDepth 100000 in
set_option maxHeartbeats 4000000 in
theorem settleOne_step (N : Nat) (side : Nat) (hs : side ≤ 2)
    (ih : ∀ (t : Ex) (j : Int), nodesE t < N → nodesE t ≤ 1048576 → 0 ≤ j → j ≤ 1048576 → sumsE t = true → Con Tryd.prog 38 [avE t, .d (.raw (.int .i64 j)), .d (.raw (.int .i64 side))] (.tup [avE (oneE side t j).1, .d (.raw (.int .i64 (oneE side t j).2))]))
    (k : Int) (n m : ByteArray) (i d : Int) (s : List Ex) (j : Int) (hN : nodesE (.mk k n m i d s) < N + 1) (hb : nodesE (.mk k n m i d s) ≤ 1048576) (hj : 0 ≤ j) (hj2 : j ≤ 1048576) (hsum : sumsE (.mk k n m i d s) = true) :
    Con Tryd.prog 38 [avE (.mk k n m i d s), .d (.raw (.int .i64 j)), .d (.raw (.int .i64 side))] (.tup [avE (oneE side (.mk k n m i d s) j).1, .d (.raw (.int .i64 (oneE side (.mk k n m i d s) j).2))]) := by
  rw [nodesE] at hN hb
  have hlen := length_le_nodesL s
  simp only [sumsE, Bool.and_eq_true, Bool.or_eq_true, decide_eq_true_eq] at hsum
  refine con_of Tryd.func38 rfl (by decide +kernel) (by simp only [AV.closed, closedL, avE, closedL_d, Bool.and_self]) (by simp only [AV.closed, closedL, avE, closedL_d, Bool.and_self]) (by simp [Tryd.ntmps38]) fun A hA => ?_
  rw [Tryd.ntmps38] at hA
  refine goC 300 ?_
  simp only [go_sem, hA, avE, encE]
  refine goIf (fun hk => ?_) (fun hk => ?_)
  rotate_left
  all_goals simp only [decide_eq_true_eq, decide_eq_false_iff_not] at hk
  · obtain ⟨j', hj', hj2', hone⟩ : ∃ j' : Int, 0 ≤ j' ∧ j' ≤ 1048576 ∧ oneE side (.mk k n m i d s) j = (.mk k n m i d (oneL side s j').1, (oneL side s j').2) ∧ j' = j := ⟨j, hj, hj2, by rw [oneE, if_neg hk], rfl⟩
    obtain ⟨hone, rfl⟩ := hone
    simp only [go_sem, hA, Int.toNat_natCast, encL_length]
    refine ⟨⟨by omega, by omega, by omega⟩, ⟨by simp, encL_fit s⟩, ?_⟩
    refine satC_loop [1, 2, 3, 6, 8, 9] [0, 1, 5003] [] (fun x σ => ∃ q : Nat, q ≤ s.length ∧ x = s.length - q ∧ σ = soSt k n m i d s side j' q) s.length ⟨0, by omega, by omega, by simp only [go_sem, soSt, List.take_zero, List.drop_zero, oneL]⟩ ?_
    rintro x σ ⟨q, hq, rfl, rfl⟩
    refine goC 300 ?_
    have hlow := oneL_low side (s.take q) j' hj'
    have hlen2 := one_len side s j' q hq
    by_cases hlt : q < s.length
    · have h1 : decide ((q : Int) < (s.length : Int)) = true := by simpa using hlt
      by_cases hneg : (oneL side (s.take q) j').2 < 0
      · have h2 : decide (0 ≤ (oneL side (s.take q) j').2) = false := by simpa using hneg
        have h3 := oneL_stop side s q j' hneg
        simp only [go_sem, hA, soSt, h1, h2, Tryd.results38, hlen2, hone, h3, encE]
      · have h2 : decide (0 ≤ (oneL side (s.take q) j').2) = true := by simp; omega
        have hn1 := nodesL_get s q hlt
        simp only [go_sem, hA, soSt, h1, h2, Int.toNat_natCast, encL_length, one_row side s j' q hlt]
        refine ⟨⟨by omega, by omega⟩, by rw [encL_length] at hlen2; omega, goCall 200 (ih s[q] (oneL side (s.take q) j').2 (by omega) (by omega) (by omega) (by omega) (sumsL_get q hlt hsum.2)) rfl (by simp only [go_sem, avE_eq]) (by simp only [go_sem, hA]) ?_⟩
        have hst := one_set side s j' q hlt hneg _ rfl
        have htk := oneL_take_succ side s q hlt j' hneg
        simp only [go_sem, hA, avE_eq, Int.toNat_natCast, encL_length, one_row side s j' q hlt, hst]
        refine ⟨⟨by omega, by omega⟩, by rw [encL_length] at hlen2; omega, ⟨by omega, by omega⟩, ?_⟩
        exact ⟨s.length - (q + 1), by omega, q + 1, by omega, rfl, by simp only [go_sem, htk]; rfl⟩
    · have h1 : decide ((q : Int) < (s.length : Int)) = false := by simp; omega
      obtain rfl : q = s.length := by omega
      have h3 : oneL side s j' = ((oneL side (s.take s.length) j').1 ++ s.drop s.length, (oneL side (s.take s.length) j').2) := by simp
      simp only [go_sem, hA, soSt, h1, Tryd.results38, hlen2, hone, h3, encE]
  · subst hk
    have h3 : s.length = 3 := by rcases hsum.1 with h | h; exact absurd rfl h; exact h
    have hlt : side < s.length := by omega
    simp only [go_sem, hA]
    refine goIf (fun hk => ?_) (fun hk => ?_)
    · simp only [decide_eq_true_eq] at hk
      subst hk
      simp only [go_sem, hA, Int.toNat_natCast, encL_length, encL_at s side hlt]
      refine ⟨⟨by omega, by omega⟩, ?_⟩
      rw [oneE, if_pos rfl, if_pos rfl]
      have e : s.getD side zeroEx = s[side] := by simp [List.getD_eq_getElem?_getD, hlt]
      rw [e, encE_eq]
      rfl
    · simp only [decide_eq_false_iff_not] at hk
      obtain ⟨j', hj', hj2', hone⟩ : ∃ j' : Int, 0 ≤ j' ∧ j' ≤ 1048576 ∧ oneE side (.mk 15 n m i d s) j = (.mk 15 n m i d (oneL side s j').1, (oneL side s j').2) ∧ j - 1 = j' := ⟨j - 1, by omega, by omega, by rw [oneE, if_pos rfl, if_neg hk], rfl⟩
      obtain ⟨hone, hjj⟩ := hone
      simp only [go_sem, hA, Int.toNat_natCast, encL_length, hjj]
      refine ⟨by unfold inI64; omega, ⟨by omega, by omega, by omega⟩, ⟨by simp, encL_fit s⟩, ?_⟩
      refine satC_loop [1, 2, 3, 6, 8, 9] [0, 1, 5003] [] (fun x σ => ∃ q : Nat, q ≤ s.length ∧ x = s.length - q ∧ σ = soSt 15 n m i d s side j' q) s.length ⟨0, by omega, by omega, by simp only [go_sem, soSt, List.take_zero, List.drop_zero, oneL]⟩ ?_
      rintro x σ ⟨q, hq, rfl, rfl⟩
      refine goC 300 ?_
      have hlow := oneL_low side (s.take q) j' hj'
      have hlen2 := one_len side s j' q hq
      by_cases hlt : q < s.length
      · have h1 : decide ((q : Int) < (s.length : Int)) = true := by simpa using hlt
        by_cases hneg : (oneL side (s.take q) j').2 < 0
        · have h2 : decide (0 ≤ (oneL side (s.take q) j').2) = false := by simpa using hneg
          have h3 := oneL_stop side s q j' hneg
          simp only [go_sem, hA, soSt, h1, h2, Tryd.results38, hlen2, hone, h3, encE]
        · have h2 : decide (0 ≤ (oneL side (s.take q) j').2) = true := by simp; omega
          have hn1 := nodesL_get s q hlt
          simp only [go_sem, hA, soSt, h1, h2, Int.toNat_natCast, encL_length, one_row side s j' q hlt]
          refine ⟨⟨by omega, by omega⟩, by rw [encL_length] at hlen2; omega, goCall 200 (ih s[q] (oneL side (s.take q) j').2 (by omega) (by omega) (by omega) (by omega) (sumsL_get q hlt hsum.2)) rfl (by simp only [go_sem, avE_eq]) (by simp only [go_sem, hA]) ?_⟩
          have hst := one_set side s j' q hlt hneg _ rfl
          have htk := oneL_take_succ side s q hlt j' hneg
          simp only [go_sem, hA, avE_eq, Int.toNat_natCast, encL_length, one_row side s j' q hlt, hst]
          refine ⟨⟨by omega, by omega⟩, by rw [encL_length] at hlen2; omega, ⟨by omega, by omega⟩, ?_⟩
          exact ⟨s.length - (q + 1), by omega, q + 1, by omega, rfl, by simp only [go_sem, htk]; rfl⟩
      · have h1 : decide ((q : Int) < (s.length : Int)) = false := by simp; omega
        obtain rfl : q = s.length := by omega
        have h3 : oneL side s j' = ((oneL side (s.take s.length) j').1 ++ s.drop s.length, (oneL side (s.take s.length) j').2) := by simp
        simp only [go_sem, hA, soSt, h1, Tryd.results38, hlen2, hone, h3, encE]
end Go.Proofs.YtiagjpiclnmpkaaDoor

namespace Go.Proofs.YtiagjpiclnmpkaaDoor
open Go Go.RowKit
theorem rowAt_mk {w : World} {B b : Nat} : ∀ (l : List Ex) (off : Nat), (∀ k (h : k < l.length), NodeAt w B b (off + k * 6) l[k]) → RowAt w B b off l
  | [], off, _ => by simp [RowAt]
  | e :: es, off, h => by
    rw [rowAt_cons]
    refine ⟨by have h0 := h 0 (by simp); rw [Nat.zero_mul, Nat.add_zero] at h0; exact h0, rowAt_mk es (off + 6) fun k hk => ?_⟩
    have := h (k + 1) (by simpa using hk)
    rw [show off + (k + 1) * 6 = off + 6 + k * 6 by omega] at this
    exact this
theorem reads_sub {w : World} {F : Nat → Nat → Prop} (hF : ∀ b o, F b o → b < w.heap.size) (N : Nat) : ∀ (sub : List Ex) (v : Value), nodesL sub < N → Reads w F (.sl (encL sub)) v → SubAt w w.heap.size sub v := by
  induction N with
  | zero => intro sub v h; omega
  | succ N ih =>
    intro sub v hN h
    obtain ⟨p, cap, rfl, hcap⟩ := h.slice
    rw [encL_length] at hcap h ⊢
    refine ⟨p, cap, rfl, hcap, fun hpos => ?_⟩
    have hlen := encL_length sub
    have hrow : ∀ k (hk : k < sub.length), (encL sub)[k]'(by omega) = encE sub[k] := fun k hk => by
      simp only [encL_map, List.getElem_map]
    obtain ⟨b, off, hp, h0⟩ := h.row 0 (by omega) (st := 6) (by rw [hrow 0 hpos]; exact encE_length _)
    have hb : b < w.heap.size := by
      obtain ⟨h1, _⟩ := h0 0 (by rw [hrow 0 hpos, encE_length]; omega)
      exact hF _ _ h1
    refine ⟨b, off, hp, hb, rowAt_mk sub off fun k hk => ?_⟩
    obtain ⟨b', off', hp', hk0⟩ := h.row k (by omega) (st := 6) (by rw [hrow k hk]; exact encE_length _)
    rw [hp] at hp'
    simp only [Option.some.injEq, Addr.mk.injEq, and_true] at hp'
    obtain ⟨rfl, rfl⟩ := hp'
    have hn := nodesL_get sub k hk
    rw [nodesE_eq] at hn
    have cell : ∀ j (hj : j < 6), ∃ u, w.cell? ⟨b, off + k * 6 + j, none⟩ = some u ∧ Reads w F ((encE sub[k])[j]'(by rw [encE_length]; exact hj)) u := fun j hj => by
      obtain ⟨_, u, h1, h2⟩ := hk0 j (by rw [hrow k hk, encE_length]; exact hj)
      refine ⟨u, h1, ?_⟩
      have e : ((encL sub)[k]'(by omega))[j]'(by rw [hrow k hk, encE_length]; exact hj) = (encE sub[k])[j]'(by rw [encE_length]; exact hj) := by simp only [hrow k hk]
      rw [← e]; exact h2
    have enc : ∀ j (hj : j < 6), (encE sub[k])[j]'(by rw [encE_length]; exact hj) = [D.raw (.int .i64 sub[k].kind), .raw (.string sub[k].name), .raw (.string sub[k].more), .raw (.int .i64 sub[k].int), .raw (.int .i64 sub[k].den), .sl (encL sub[k].sub)][j] := fun j hj => by
      simp only [encE_eq]
    obtain ⟨u0, a0, b0⟩ := cell 0 (by omega); rw [enc 0 (by omega)] at b0
    obtain ⟨u1, a1, b1⟩ := cell 1 (by omega); rw [enc 1 (by omega)] at b1
    obtain ⟨u2, a2, b2⟩ := cell 2 (by omega); rw [enc 2 (by omega)] at b2
    obtain ⟨u3, a3, b3⟩ := cell 3 (by omega); rw [enc 3 (by omega)] at b3
    obtain ⟨u4, a4, b4⟩ := cell 4 (by omega); rw [enc 4 (by omega)] at b4
    obtain ⟨u5, a5, b5⟩ := cell 5 (by omega); rw [enc 5 (by omega)] at b5
    obtain rfl := b0.raw_eq
    obtain rfl := b1.raw_eq
    obtain rfl := b2.raw_eq
    obtain rfl := b3.raw_eq
    obtain rfl := b4.raw_eq
    exact ⟨u5, a0, a1, a2, a3, a4, a5, ih _ _ (by omega) b5⟩
theorem sub_reads {w : World} {B : Nat} (N : Nat) : ∀ (sub : List Ex) (v : Value), nodesL sub < N → SubAt w B sub v → Reads w (fun b _ => b < B) (.sl (encL sub)) v := by
  induction N with
  | zero => intro sub v h; omega
  | succ N ih =>
    intro sub v hN h
    obtain ⟨p, cap, rfl, hcap, hat⟩ := subAt_open h
    have hlen := encL_length sub
    rw [← hlen]
    by_cases hpos : 0 < sub.length
    · obtain ⟨b, off, rfl, hb, _⟩ := hat 0 hpos
      refine Reads.mk (st := 6) (by omega) (fun i hi => by simp only [encL_map, List.getElem_map, encE_length]) fun i hi j hj => ⟨hb, ?_⟩
      have hi' : i < sub.length := by omega
      have hrow : (encL sub)[i] = encE sub[i] := by simp only [encL_map, List.getElem_map]
      obtain ⟨b', off', hp, _, sv, c0, c1, c2, c3, c4, c5, hs⟩ := hat i hi'
      simp only [Option.some.injEq, Addr.mk.injEq, and_true] at hp
      obtain ⟨rfl, rfl⟩ := hp
      have hn := nodesL_get sub i hi'
      rw [nodesE_eq] at hn
      have hj6 : j < 6 := by rw [hrow, encE_length] at hj; exact hj
      have e : (encL sub)[i][j] = [D.raw (.int .i64 sub[i].kind), .raw (.string sub[i].name), .raw (.string sub[i].more), .raw (.int .i64 sub[i].int), .raw (.int .i64 sub[i].den), .sl (encL sub[i].sub)][j] := by
        simp only [hrow, encE_eq]
      rw [e]
      match j, hj6 with
      | 0, _ => exact ⟨_, c0, .raw _⟩
      | 1, _ => exact ⟨_, c1, .raw _⟩
      | 2, _ => exact ⟨_, c2, .raw _⟩
      | 3, _ => exact ⟨_, c3, .raw _⟩
      | 4, _ => exact ⟨_, c4, .raw _⟩
      | 5, _ => exact ⟨_, c5, ih _ _ (by omega) hs⟩
    · have e : sub = [] := List.eq_nil_of_length_eq_zero (by omega)
      subst e
      exact .nil _ _
theorem avE_xAt {w : World} {F : Nat → Nat → Prop} {t : Ex} {v : Value} (hF : ∀ b o, F b o → b < w.heap.size) (h : HasC w F (avE t) v) : ∃ x : XV, v = .agg x.arr ∧ XAt w t x := by
  rw [avE_eq] at h
  unfold HasC at h
  generalize hcs : [AV.d (.raw (.int .i64 t.kind)), .d (.raw (.string t.name)), .d (.raw (.string t.more)), .d (.raw (.int .i64 t.int)), .d (.raw (.int .i64 t.den)), .d (.sl (encL t.sub))] = cs at h
  cases h with
  | agg _ vs hl hh =>
    subst hcs
    match vs, hl with
    | [v0, v1, v2, v3, v4, v5], _ =>
      have g0 := hh 0 (by simp) (by simp)
      have g1 := hh 1 (by simp) (by simp)
      have g2 := hh 2 (by simp) (by simp)
      have g3 := hh 3 (by simp) (by simp)
      have g4 := hh 4 (by simp) (by simp)
      have g5 := hh 5 (by simp) (by simp)
      obtain rfl : v0 = _ := g0.raw_eq
      obtain rfl : v1 = _ := g1.raw_eq
      obtain rfl : v2 = _ := g2.raw_eq
      obtain rfl : v3 = _ := g3.raw_eq
      obtain rfl : v4 = _ := g4.raw_eq
      have h5 : Reads w F (.sl (encL t.sub)) v5 := by
        simp only [List.getElem_cons_succ, List.getElem_cons_zero] at g5
        cases g5 with
        | d h => exact h
      have hs := reads_sub hF (nodesL t.sub + 1) t.sub v5 (by omega) h5
      obtain ⟨p, cap, rfl, hcap, hat⟩ := subAt_open hs
      exact ⟨⟨t.kind, t.name, t.more, t.int, t.den, p, t.sub.length, cap⟩, rfl, by
        unfold XAt
        rw [exAt_iff]
        exact ⟨_, rfl, hs⟩⟩
theorem xAt_avE {w : World} {t : Ex} {x : XV} (h : XAt w t x) : HasC w (fun b _ => b < w.heap.size) (avE t) (.agg x.arr) := by
  obtain ⟨hx, hs⟩ := xAt_sub h
  rw [hx, avE_eq]
  have hr := sub_reads (nodesL t.sub + 1) t.sub _ (by omega) hs
  refine .agg _ [.int .i64 t.kind, .string t.name, .string t.more, .int .i64 t.int, .int .i64 t.den, .slice x.p t.sub.length x.c] rfl fun i hi hv => ?_
  match i, hi with
  | 0, _ => exact .d (.raw _)
  | 1, _ => exact .d (.raw _)
  | 2, _ => exact .d (.raw _)
  | 3, _ => exact .d (.raw _)
  | 4, _ => exact .d (.raw _)
  | 5, _ => exact .d hr
/-- a function of an expression that answers with one value -/
theorem con_e1 {P : Program} {f : FuncId} {t : Ex} {r : Value} (he : Enters P f) (h : ∀ (x : XV) (w : World), XAt w t x → Calls P f #[.agg x.arr] w fun e w' => e = .returned r ∧ Below w.heap.size w w') : Con P f [avE t] (.d (.raw r)) := by
  refine ⟨he, rfl, fun F w vs hF hl hv => ?_⟩
  match vs, hl with
  | [v], _ =>
    obtain ⟨x, rfl, hx⟩ := avE_xAt hF (hv 0 (by simp) (by simp))
    exact (h x w hx).mono fun e w' h' => ⟨r, h'.1, .d (.raw _), h'.2⟩
theorem con_e2 {P : Program} {f : FuncId} {t u : Ex} {r : Value} (he : Enters P f) (h : ∀ (x y : XV) (w : World), XAt w t x → XAt w u y → Calls P f #[.agg x.arr, .agg y.arr] w fun e w' => e = .returned r ∧ Below w.heap.size w w') : Con P f [avE t, avE u] (.d (.raw r)) := by
  refine ⟨he, rfl, fun F w vs hF hl hv => ?_⟩
  match vs, hl with
  | [v, v'], _ =>
    obtain ⟨x, rfl, hx⟩ := avE_xAt hF (hv 0 (by simp) (by simp))
    obtain ⟨y, rfl, hy⟩ := avE_xAt hF (hv 1 (by simp) (by simp))
    exact (h x y w hx hy).mono fun e w' h' => ⟨r, h'.1, .d (.raw _), h'.2⟩
theorem con_e0 {P : Program} {f : FuncId} {r : Value} (he : Enters P f) (h : ∀ (w : World), Calls P f #[] w fun e w' => e = .returned r ∧ Below w.heap.size w w') : Con P f [] (.d (.raw r)) := by
  refine ⟨he, rfl, fun F w vs hF hl hv => ?_⟩
  match vs, hl with
  | [], _ => exact (h w).mono fun e w' h' => ⟨r, h'.1, .d (.raw _), h'.2⟩
theorem con_l1 {P : Program} {f : FuncId} {l : List Ex} {r : Value} (he : Enters P f) (h : ∀ (v : Value) (w : World), SubAt w w.heap.size l v → Calls P f #[v] w fun e w' => e = .returned r ∧ Below w.heap.size w w') : Con P f [.d (.sl (encL l))] (.d (.raw r)) := by
  refine ⟨he, rfl, fun F w vs hF hl hv => ?_⟩
  match vs, hl with
  | [v], _ =>
    have h0 := hv 0 (by simp) (by simp)
    simp only [List.getElem_cons_zero] at h0
    have hr : Reads w F (.sl (encL l)) v := by
      unfold HasC at h0
      cases h0 with
      | d h => exact h
    exact (h v w (reads_sub hF (nodesL l + 1) l v (by omega) hr)).mono fun e w' h' => ⟨r, h'.1, .d (.raw _), h'.2⟩
theorem great_c (l : List Ex) (hsz : nodesL l ≤ 1048576) : Con Tryd.prog 10 [.d (.sl (encL l))] (.d (.raw (.bool (anyE greatE l)))) := con_l1 ⟨_, Tryd.func10, by decide +kernel, rfl⟩ fun _ _ hx => great_x hx hsz
theorem rSame_c (a b : Ex) (hsz : nodesE a ≤ 1099511627776) : Con Tryd.prog 14 [avE a, avE b] (.d (.raw (.bool (sameE a b)))) := con_e2 ⟨_, Tryd.func14, by decide +kernel, rfl⟩ fun _ _ _ hx hy => rSame_x hx hy hsz
theorem rCheckExpr_c (a : Ex) (hsz : nodesE a ≤ 1048576) : Con Tryd.prog 15 [avE a] (.d (.raw (.int .i64 (checkX a)))) := con_e1 ⟨_, Tryd.func15, by decide +kernel, rfl⟩ fun _ _ hx => rCheckExpr_x hx hsz
theorem sCheckExpr_c (a : Ex) (hsz : nodesE a ≤ 1048576) : Con Tryd.prog 29 [avE a] (.d (.raw (.int .i64 (checkX a)))) := con_e1 ⟨_, Tryd.func29, by decide +kernel, rfl⟩ fun _ _ hx => sCheckExpr_x hx hsz
theorem rGreat_c (a : Ex) (hsz : nodesE a ≤ 1048576) : Con Tryd.prog 28 [avE a] (.d (.raw (.bool (greatE a)))) := con_e1 ⟨_, Tryd.func28, by decide +kernel, rfl⟩ fun _ _ hx => rGreat_x hx hsz
theorem rClean_c (a : Ex) (hsz : nodesE a ≤ 1048576) : Con Tryd.prog 27 [avE a] (.d (.raw (.bool (confE a == 0)))) := con_e1 ⟨_, Tryd.func27, by decide +kernel, rfl⟩ fun _ _ hx => rClean_x hx hsz
theorem mClean_c (a : Ex) (hsz : nodesE a ≤ 1048576) : Con Tryd.prog 20 [avE a] (.d (.raw (.bool (confE a == 0)))) := con_e1 ⟨_, Tryd.func20, by decide +kernel, rfl⟩ fun _ _ hx => mClean_x hx hsz
theorem mConflicts_c (a : Ex) (hsz : nodesE a ≤ 1048576) : Con Tryd.prog 25 [avE a] (.d (.raw (.int .i64 (confE a)))) := con_e1 ⟨_, Tryd.func25, by decide +kernel, rfl⟩ fun _ _ hx => mConflicts_x hx hsz
theorem rConflicts_c (a : Ex) (hsz : nodesE a ≤ 1048576) : Con Tryd.prog 26 [avE a] (.d (.raw (.int .i64 (confE a)))) := con_e1 ⟨_, Tryd.func26, by decide +kernel, rfl⟩ fun _ _ hx => rConflicts_x hx hsz
theorem awake_c : Con Tryd.prog 11 [] (.d (.raw (.bool true))) := con_e0 ⟨_, Tryd.func11, by decide +kernel, rfl⟩ fun w => awake_x w
/-- settleOne -/
theorem settleOne_con (side : Nat) (hs : side ≤ 2) (N : Nat) : ∀ (t : Ex) (j : Int), nodesE t < N → nodesE t ≤ 1048576 → 0 ≤ j → j ≤ 1048576 → sumsE t = true → Con Tryd.prog 38 [avE t, .d (.raw (.int .i64 j)), .d (.raw (.int .i64 side))] (.tup [avE (oneE side t j).1, .d (.raw (.int .i64 (oneE side t j).2))]) := by
  induction N with
  | zero => intro t j h; omega
  | succ N ih => intro t j h hb hj hj2 hsum; cases t; exact settleOne_step N side hs ih _ _ _ _ _ _ j h hb hj hj2 hsum
end Go.Proofs.YtiagjpiclnmpkaaDoor
