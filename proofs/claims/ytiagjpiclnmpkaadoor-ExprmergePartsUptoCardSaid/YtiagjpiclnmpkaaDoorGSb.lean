/- settleAll and settled, walked. Side and Settle, walked. -/
import Derived.Test.YtiagjpiclnmpkaaDoorGSa
namespace Go.Proofs.YtiagjpiclnmpkaaDoor
open Go Go.RowKit
theorem allL_map (side : Nat) : ∀ l : List Ex, allL side l = l.map (allE side)
  | [] => by rw [allL]; rfl
  | e :: es => by rw [allL, allL_map side es]; rfl
abbrev saSt (k : Int) (n m : ByteArray) (i d : Int) (s : List Ex) (side : Nat) (q : Nat) : St :=
  ⟨[(1, .d (.raw (.int .i64 side))), (2, .box 0 0), (4, .box 1 0), (5, .own 5003 s.length), (26, .own 5003 s.length), (27, .d (.raw (.int .i64 s.length))), (28, .d (.raw (.int .i64 q)))],
   [(0, some (.cell 24 [.d (.raw (.int .i64 k)), .d (.raw (.string n)), .d (.raw (.string m)), .d (.raw (.int .i64 i)), .d (.raw (.int .i64 d)), .d (.sl (encL s))])), (1, some (.cell 24 [.d (.raw (.int .i64 0)), .d (.raw (.string ⟨#[]⟩)), .d (.raw (.string ⟨#[]⟩)), .d (.raw (.int .i64 0)), .d (.raw (.int .i64 0)), .d (.raw (.slice none 0 0))])), (5003, some (.row 6 24 (encL ((s.take q).map (allE side) ++ List.replicate (s.length - q) zeroEx))))], []⟩
theorem sa_len (s : List Ex) (f : Ex → Ex) (q : Nat) (h : q ≤ s.length) : (encL ((s.take q).map f ++ List.replicate (s.length - q) zeroEx)).length = s.length := by
  rw [encL_length]; simp; omega
theorem sa_set (s : List Ex) (f : Ex → Ex) (q : Nat) (h : q < s.length) (t : Ex) (ht : t = f s[q]) :
    (encL ((s.take q).map f ++ List.replicate (s.length - q) zeroEx)).set q [.raw (.int .i64 t.kind), .raw (.string t.name), .raw (.string t.more), .raw (.int .i64 t.int), .raw (.int .i64 t.den), .sl (encL t.sub)] = encL ((s.take (q + 1)).map f ++ List.replicate (s.length - (q + 1)) zeroEx) := by
  rw [← encE_eq, encL_set, ht, List.take_succ_eq_append_getElem h]
  have hl : ((s.take q).map f).length = q := by simp; omega
  congr 1
  rw [List.set_append_right _ _ (by omega), hl, Nat.sub_self, show s.length - q = (s.length - (q + 1)) + 1 by omega, List.replicate_succ, List.set_cons_zero, List.map_append, List.append_assoc]
  rfl
theorem sa_row (s : List Ex) (f : Ex → Ex) (q : Nat) (h : q < s.length) : (encL ((s.take q).map f ++ List.replicate (s.length - q) zeroEx)).getD q [] = [D.raw (Value.int IntKind.i64 0), D.raw (Value.string ⟨#[]⟩), D.raw (Value.string ⟨#[]⟩), D.raw (Value.int IntKind.i64 0), D.raw (Value.int IntKind.i64 0), D.sl []] := by
  have hl : ((s.take q).map f).length = q := by simp; omega
  have hq : q < ((s.take q).map f ++ List.replicate (s.length - q) zeroEx).length := by simp; omega
  rw [encL_getD _ q hq]
  have e : ((s.take q).map f ++ List.replicate (s.length - q) zeroEx)[q] = zeroEx := by
    rw [List.getElem_append_right (by omega)]; simp
  rw [e]; rfl
theorem sa_zero (n : Nat) : List.replicate n [D.raw (Value.int IntKind.i64 0), D.raw (Value.string ⟨#[]⟩), D.raw (Value.string ⟨#[]⟩), D.raw (Value.int IntKind.i64 0), D.raw (Value.int IntKind.i64 0), D.sl []] = encL (List.replicate n zeroEx) := by
  rw [encL_map, List.map_replicate]; rfl
theorem oddE (side : Nat) (k : Int) (n m : ByteArray) (i d : Int) (s : List Ex) (hk : ¬ k = 15) : allE side (.mk k n m i d s) = .mk k n m i d (allL side s) := by rw [allE, if_neg hk]
theorem sumA (side : Nat) (n m : ByteArray) (i d : Int) (s : List Ex) (h : side < s.length) : allE side (.mk 15 n m i d s) = allE side s[side] := by
  rw [allE, if_pos rfl, allL_map]; simp [List.getD_eq_getElem?_getD, h]
set_option maxRecDepth 100000 in
set_option maxHeartbeats 4000000 in
theorem settleAll_step (N : Nat) (side : Nat) (hs : side ≤ 2)
    (ih : ∀ (t : Ex), nodesE t < N → nodesE t ≤ 1048576 → sumsE t = true → Con Tryd.prog 36 [avE t, .d (.raw (.int .i64 side))] (avE (allE side t)))
    (k : Int) (n m : ByteArray) (i d : Int) (s : List Ex) (hN : nodesE (.mk k n m i d s) < N + 1) (hb : nodesE (.mk k n m i d s) ≤ 1048576) (hsum : sumsE (.mk k n m i d s) = true) :
    Con Tryd.prog 36 [avE (.mk k n m i d s), .d (.raw (.int .i64 side))] (avE (allE side (.mk k n m i d s))) := by
  rw [nodesE] at hN hb
  have hlen := length_le_nodesL s
  simp only [sumsE, Bool.and_eq_true, Bool.or_eq_true, decide_eq_true_eq] at hsum
  refine con_of Tryd.func36 rfl (by decide +kernel) (by simp only [AV.closed, avE, closedL_d]) (by simp only [AV.closed, closedL, avE, closedL_d, Bool.and_self]) (by simp [Tryd.ntmps36]) fun A hA => ?_
  rw [Tryd.ntmps36] at hA
  refine goC 300 ?_
  simp only [go_sem, hA, avE, encE]
  refine goIf (fun hk => ?_) (fun hk => ?_)
  all_goals simp only [decide_eq_true_eq, decide_eq_false_iff_not] at hk
  · subst hk
    have h3 : s.length = 3 := by rcases hsum.1 with h | h; exact absurd rfl h; exact h
    have hlt : side < s.length := by omega
    have hn1 := nodesL_get s side hlt
    simp only [go_sem, hA, Int.toNat_natCast, encL_length, encL_at s side hlt]
    refine ⟨⟨by omega, by omega⟩, goCall 200 (ih s[side] (by omega) (by omega) (sumsL_get side hlt hsum.2)) rfl (by simp only [go_sem, avE_eq]) (by simp only [go_sem, hA]) ?_⟩
    simp only [go_sem, avE_eq, Tryd.results36]
    rw [sumA side n m i d s hlt, encE_eq]
    rfl
  · simp only [go_sem, hA, encL_length]
    by_cases h0 : s.length = 0
    · have h1 : decide ((s.length : Int) = 0) = true := by simpa using h0
      have e : s = [] := List.eq_nil_of_length_eq_zero h0
      simp only [go_sem, hA, h1, Tryd.results36]
      rw [oddE side k n m i d s hk, e]
      rfl
    · have h1 : decide ((s.length : Int) = 0) = false := by simpa using h0
      simp only [go_sem, hA, h1, encL_length, Int.toNat_natCast]
      refine ⟨⟨by omega, by omega, by omega⟩, ?_⟩
      refine satC_loop [1, 2, 4, 5, 26, 27, 28] [0, 1, 5003] [] (fun x σ => ∃ q : Nat, q ≤ s.length ∧ x = s.length - q ∧ σ = saSt k n m i d s side q) s.length ⟨0, by omega, by omega, by simp only [go_sem, saSt, List.take_zero, List.map_nil, List.nil_append, Nat.sub_zero, sa_zero]⟩ ?_
      rintro x σ ⟨q, hq, rfl, rfl⟩
      refine goC 300 ?_
      have hlen2 := sa_len s (allE side) q hq
      by_cases hlt : q < s.length
      · have h1 : decide ((q : Int) < (s.length : Int)) = true := by simpa using hlt
        have hn1 := nodesL_get s q hlt
        simp only [go_sem, hA, saSt, h1, Int.toNat_natCast, encL_length, encL_at s q hlt]
        refine ⟨⟨by omega, by omega⟩, goCall 200 (ih s[q] (by omega) (by omega) (sumsL_get q hlt hsum.2)) rfl (by simp only [go_sem, avE_eq]) (by simp only [go_sem, hA]) ?_⟩
        have hst := sa_set s (allE side) q hlt _ rfl
        simp only [go_sem, hA, avE_eq, Int.toNat_natCast, hlen2, hst, sa_row s (allE side) q hlt]
        refine ⟨⟨by omega, by omega⟩, by omega, by unfold inI64; omega, s.length - (q + 1), by omega, q + 1, by omega, rfl, ?_⟩
        rfl
      · have h1 : decide ((q : Int) < (s.length : Int)) = false := by simp; omega
        obtain rfl : q = s.length := by omega
        simp only [go_sem, hA, saSt, h1, Tryd.results36, hlen2, oddE side k n m i d s hk, allL_map]
        simp only [List.take_length, Nat.sub_self, List.replicate_zero, List.append_nil]
        rfl
theorem settleAll_con (side : Nat) (hs : side ≤ 2) (N : Nat) : ∀ (t : Ex), nodesE t < N → nodesE t ≤ 1048576 → sumsE t = true → Con Tryd.prog 36 [avE t, .d (.raw (.int .i64 side))] (avE (allE side t)) := by
  induction N with
  | zero => intro t h; omega
  | succ N ih => intro t h hb hsum; cases t; exact settleAll_step N side hs ih _ _ _ _ _ _ h hb hsum
end Go.Proofs.YtiagjpiclnmpkaaDoor

namespace Go.Proofs.YtiagjpiclnmpkaaDoor
open Go Go.RowKit
mutual
theorem sumsE_of : ∀ t : Ex, checkE t = 0 → sumsE t = true
  | .mk k n m i d s, h => by
    rw [checkE] at h
    split at h
    · rename_i hn
      rw [sumsE, sumsL_of s h, Bool.and_true, Bool.or_eq_true]
      by_cases hk : k = 15
      · right
        subst hk
        simp only [decide_eq_true_eq]
        by_cases h3 : s.length = 3
        · exact h3
        · exfalso
          have hsh : shapeK 15 = some (0, 0, 3) := rfl
          rw [checkN_arg hsh (by simp [argOk, h3])] at hn
          cases hn
      · left; simpa using hk
    · exact absurd h (by assumption)
theorem sumsL_of : ∀ l : List Ex, checkEs l = 0 → sumsL l = true
  | [], _ => rfl
  | e :: es, h => by
    rw [checkEs] at h
    split at h
    · rename_i he
      rw [sumsL, sumsE_of e he, sumsL_of es h]; rfl
    · exact absurd h (by assumption)
end
theorem checkX_ok {t : Ex} (h : checkX t = 0) : nodesE t ≤ 400 ∧ depthE t ≤ 40 ∧ checkE t = 0 := by
  unfold checkX at h
  split at h
  · cases h
  · exact ⟨by omega, by omega, h⟩
mutual
theorem confE_nodes : ∀ t : Ex, confE t ≤ nodesE t
  | .mk k n m i d s => by have := confL_nodes s; rw [confE, nodesE]; split <;> omega
theorem confL_nodes : ∀ l : List Ex, confL l ≤ nodesL l
  | [] => by rw [confL, nodesL]; omega
  | e :: es => by have := confE_nodes e; have := confL_nodes es; rw [confL, nodesL]; omega
end
def sideX (t : Ex) (side : Int) : Ex × Int := if checkX t = 0 then (if side < 0 ∨ 2 < side then (zeroEx, 2) else (allE side.toNat t, 0)) else (zeroEx, checkX t)
def settleX (t : Ex) (i side : Int) : Ex × Int := if checkX t = 0 then (if side < 0 ∨ 2 < side ∨ i < 0 ∨ (confE t : Int) ≤ i then (zeroEx, 2) else ((oneE side.toNat t i).1, 0)) else (zeroEx, checkX t)
set_option maxRecDepth 100000 in
set_option maxHeartbeats 4000000 in
theorem mSide_con (t : Ex) (side : Int) (hb : nodesE t ≤ 1048576) : Con Tryd.prog 21 [avE t, .d (.raw (.int .i64 side))] (.tup [avE (sideX t side).1, .d (.raw (.int .i64 (sideX t side).2))]) := by
  refine con_of Tryd.func21 rfl (by decide +kernel) (by simp only [AV.closed, closedL, avE, closedL_d, Bool.and_self]) (by simp only [AV.closed, closedL, avE, closedL_d, Bool.and_self]) (by simp [Tryd.ntmps21]) fun A hA => ?_
  rw [Tryd.ntmps21] at hA
  refine goC 300 ?_
  simp only [go_sem, hA, avE_eq]
  refine goCall 200 (sCheckExpr_c t hb) rfl (by simp only [go_sem, avE_eq]) (by simp only [go_sem, hA]) ?_
  simp only [go_sem, hA]
  refine goIf (fun hk => ?_) (fun hk => ?_)
  all_goals simp only [decide_eq_true_eq, decide_eq_false_iff_not] at hk
  · simp only [go_sem, hA, Tryd.results21]
    rw [sideX, if_neg hk]
    rfl
  · have hk0 : checkX t = 0 := by omega
    by_cases h1 : side < 0
    · simp only [go_sem, hA, h1, Tryd.results21]
      rw [sideX, if_pos hk0, if_pos (.inl h1)]
      rfl
    · by_cases h2 : 2 < side
      · simp only [go_sem, hA, h1, h2, Tryd.results21]
        rw [sideX, if_pos hk0, if_pos (.inr h2)]
        rfl
      · obtain ⟨s, rfl⟩ : ∃ s : Nat, side = s := ⟨side.toNat, by omega⟩
        simp only [go_sem, hA, h1, h2]
        refine goCall 200 (settleAll_con s (by omega) (nodesE t + 1) t (by omega) hb (sumsE_of t (checkX_ok hk0).2.2)) rfl (by simp only [go_sem, avE_eq]) (by simp only [go_sem, hA]) ?_
        simp only [go_sem, hA, avE_eq, Tryd.results21]
        rw [sideX, if_pos hk0, if_neg (by omega), Int.toNat_natCast]
set_option maxRecDepth 100000 in
set_option maxHeartbeats 4000000 in
theorem mSettle_con (t : Ex) (i side : Int) (hb : nodesE t ≤ 1048576) : Con Tryd.prog 23 [avE t, .d (.raw (.int .i64 i)), .d (.raw (.int .i64 side))] (.tup [avE (settleX t i side).1, .d (.raw (.int .i64 (settleX t i side).2))]) := by
  refine con_of Tryd.func23 rfl (by decide +kernel) (by simp only [AV.closed, closedL, avE, closedL_d, Bool.and_self]) (by simp only [AV.closed, closedL, avE, closedL_d, Bool.and_self]) (by simp [Tryd.ntmps23]) fun A hA => ?_
  rw [Tryd.ntmps23] at hA
  refine goC 300 ?_
  simp only [go_sem, hA, avE_eq]
  refine goCall 300 (sCheckExpr_c t hb) rfl (by simp only [go_sem, avE_eq]) (by simp only [go_sem, hA]) ?_
  simp only [go_sem, hA]
  refine goIf (fun hk => ?_) (fun hk => ?_)
  all_goals simp only [decide_eq_true_eq, decide_eq_false_iff_not] at hk
  · simp only [go_sem, hA, Tryd.results23]
    rw [settleX, if_neg hk]
    rfl
  · have hk0 : checkX t = 0 := by omega
    by_cases h1 : side < 0
    · simp only [go_sem, hA, h1, Tryd.results23]
      rw [settleX, if_pos hk0, if_pos (.inl h1)]
      rfl
    · by_cases h2 : 2 < side
      · simp only [go_sem, hA, h1, h2, Tryd.results23]
        rw [settleX, if_pos hk0, if_pos (.inr (.inl h2))]
        rfl
      · by_cases h3 : i < 0
        · simp only [go_sem, hA, h1, h2, h3, Tryd.results23]
          rw [settleX, if_pos hk0, if_pos (.inr (.inr (.inl h3)))]
          rfl
        · obtain ⟨s, rfl⟩ : ∃ s : Nat, side = s := ⟨side.toNat, by omega⟩
          simp only [go_sem, hA, h1, h2, h3]
          refine goCall 300 (mConflicts_c t hb) rfl (by simp only [go_sem, avE_eq]) (by simp only [go_sem, hA]) ?_
          by_cases h4 : (confE t : Int) ≤ i
          · simp only [go_sem, hA, h4, Tryd.results23]
            rw [settleX, if_pos hk0, if_pos (.inr (.inr (.inr h4)))]
            rfl
          · simp only [go_sem, hA, h4]
            have h5 := confE_nodes t
            refine goCall 200 (settleOne_con s (by omega) (nodesE t + 1) t i (by omega) hb (by omega) (by omega) (sumsE_of t (checkX_ok hk0).2.2)) rfl (by simp only [go_sem, avE_eq]) (by simp only [go_sem, hA]) ?_
            simp only [go_sem, hA, avE_eq, Tryd.results23]
            rw [settleX, if_pos hk0, if_neg (by omega), Int.toNat_natCast]
end Go.Proofs.YtiagjpiclnmpkaaDoor
