/- settled of the reference, walked. -/
import Derived.Test.YtiagjpiclnmpkaaDoorGSb
namespace Go.Proofs.YtiagjpiclnmpkaaDoor
open Go Go.RowKit
def setE (side : Nat) (t : Ex) (j : Int) : Ex := if j < 0 then allE side t else (oneE side t j).1
mutual
theorem oneE_skip (side : Nat) : ∀ (t : Ex) (j : Int), 0 ≤ j → (confE t : Int) ≤ j → (oneE side t j).1 = t
  | .mk k n m i d s, j, h, hc => by
    rw [confE] at hc
    rw [oneE]
    by_cases hk : k = 15
    · rw [if_pos hk] at hc ⊢
      rw [if_neg (by omega)]
      simp only []
      rw [oneL_skip side s (j - 1) (by omega) (by omega)]
    · rw [if_neg hk] at hc ⊢
      simp only []
      rw [oneL_skip side s j (by omega) (by omega)]
theorem oneL_skip (side : Nat) : ∀ (l : List Ex) (j : Int), 0 ≤ j → (confL l : Int) ≤ j → (oneL side l j).1 = l
  | [], j, _, _ => by rw [oneL]
  | e :: es, j, h, hc => by
    rw [confL] at hc
    rw [oneL, if_neg (by omega)]
    have h1 := oneE_idx side e j h
    rw [if_neg (by omega)] at h1
    simp only []
    rw [oneE_skip side e j h (by omega), h1, oneL_skip side es _ (by omega) (by omega)]
end
def outL (side : Nat) (s : List Ex) (j : Int) (q : Nat) : List Ex := if j < 0 then (s.take q).map (allE side) else (oneL side (s.take q) j).1
def RegOk (s : List Ex) (j : Int) (q : Nat) (r : Int) : Prop := (j < 0 ∧ r = j) ∨ (0 ≤ j ∧ ¬ j < confL (s.take q) ∧ r = j - confL (s.take q)) ∨ (0 ≤ j ∧ j < confL (s.take q) ∧ 400 - (confL (s.take q) : Int) ≤ r ∧ r ≤ 400)
theorem confL_take_succ' (s : List Ex) (q : Nat) (h : q < s.length) : confL (s.take (q + 1)) = confL (s.take q) + confE s[q] := by
  rw [List.take_succ_eq_append_getElem h, confL_append]; simp [confL]
theorem confL_take_le' (s : List Ex) (q : Nat) : confL (s.take q) ≤ confL s := by
  have := confL_append (s.take q) (s.drop q)
  rw [List.take_append_drop] at this; omega
/-- a child that is settled: the register tells that its conflict lies in it -/
theorem out_in (side : Nat) (s : List Ex) (j : Int) (q : Nat) (r : Int) (hj : -1 ≤ j) (hc : confL s ≤ 399) (h : q < s.length) (hr : RegOk s j q r) (hlt : r < confE s[q]) :
    -1 ≤ r ∧ outL side s j (q + 1) = outL side s j q ++ [setE side s[q] r] ∧ ((r < 0 ∧ RegOk s j (q + 1) r) ∨ (0 ≤ r ∧ RegOk s j (q + 1) 400)) := by
  have e1 := confL_take_succ' s q h
  have e2 := confL_take_le' s (q + 1)
  rcases hr with ⟨h1, rfl⟩ | ⟨h1, h2, rfl⟩ | ⟨h1, h2, h3, h4⟩
  · refine ⟨hj, ?_, .inl ⟨h1, .inl ⟨h1, rfl⟩⟩⟩
    rw [outL, outL, if_pos h1, if_pos h1, List.take_succ_eq_append_getElem h, setE, if_pos h1, List.map_append]; rfl
  · refine ⟨by omega, ?_, .inr ⟨by omega, .inr (.inr ⟨h1, by omega, by omega, by omega⟩)⟩⟩
    have h3 := oneL_idx side (s.take q) j h1
    rw [if_neg h2] at h3
    rw [outL, outL, if_neg (by omega), if_neg (by omega), oneL_take_succ side s q h j (by omega), setE, if_neg (by omega), h3]
  · omega
/-- a child that stays -/
theorem out_out (side : Nat) (s : List Ex) (j : Int) (q : Nat) (r : Int) (hc : confL s ≤ 399) (h : q < s.length) (hr : RegOk s j q r) (hlt : ¬ r < confE s[q]) (hj9 : j ≤ 400) :
    0 ≤ r ∧ outL side s j (q + 1) = outL side s j q ++ [s[q]] ∧ 0 ≤ r - confE s[q] ∧ r ≤ 400 ∧ RegOk s j (q + 1) (r - confE s[q]) := by
  have e1 := confL_take_succ' s q h
  have e2 := confL_take_le' s (q + 1)
  rcases hr with ⟨h1, rfl⟩ | ⟨h1, h2, rfl⟩ | ⟨h1, h2, h3, h4⟩
  · omega
  · refine ⟨by omega, ?_, by omega, by omega, .inr (.inl ⟨h1, by omega, by omega⟩)⟩
    have h3 := oneL_idx side (s.take q) j h1
    rw [if_neg h2] at h3
    rw [outL, outL, if_neg (by omega), if_neg (by omega), oneL_take_succ side s q h j (by omega), h3, oneE_skip side s[q] _ (by omega) (by omega)]
  · refine ⟨by omega, ?_, by omega, by omega, .inr (.inr ⟨h1, by omega, by omega, by omega⟩)⟩
    have h3 := oneL_idx side (s.take q) j h1
    rw [if_pos h2] at h3
    have h4 : (oneL side (s.take (q + 1)) j) = ((oneL side (s.take q) j).1 ++ [s[q]], (oneL side (s.take q) j).2) := by
      have h5 := oneL_append side (s.take q) [s[q]] j
      rw [← List.take_succ_eq_append_getElem h, oneL_neg side [s[q]] (by omega)] at h5
      exact h5
    rw [outL, outL, if_neg (by omega), if_neg (by omega), h4]
theorem outL_length (side : Nat) (s : List Ex) (j : Int) (q : Nat) (h : q ≤ s.length) : (outL side s j q).length = q := by
  unfold outL; split
  · simp; omega
  · rw [oneL_length]; simp; omega
theorem enc_snoc (l : List Ex) (t : Ex) : encL l ++ [[.raw (.int .i64 t.kind), .raw (.string t.name), .raw (.string t.more), .raw (.int .i64 t.int), .raw (.int .i64 t.den), .sl (encL t.sub)]] = encL (l ++ [t]) := by
  rw [← encE_eq, ← encL_append]; rfl
theorem row_fit (t : Ex) : rowsFit 6 [[.raw (.int .i64 t.kind), .raw (.string t.name), .raw (.string t.more), .raw (.int .i64 t.int), .raw (.int .i64 t.den), .sl (encL t.sub)]] := by
  rw [← encE_eq]; exact encL_fit [t]
theorem enc_six (l : List Ex) : ∀ r ∈ encL l, r.length = 6 := fun r hr => (encL_fit l r hr).1
abbrev sdSt (k : Int) (n m : ByteArray) (i d : Int) (s : List Ex) (side : Nat) (j : Int) (q : Nat) (r : Int) : St :=
  ⟨[(1, .d (.raw (.int .i64 r))), (2, .d (.raw (.int .i64 side))), (3, .box 0 0), (6, .box 1 0), (7, .box 5001 0), (8, .d (.raw (.int .i64 q)))],
   [(0, some (.cell 24 [.d (.raw (.int .i64 k)), .d (.raw (.string n)), .d (.raw (.string m)), .d (.raw (.int .i64 i)), .d (.raw (.int .i64 d)), .d (.sl (encL s))])), (1, some (.cell 24 [.d (.raw (.int .i64 0)), .d (.raw (.string ⟨#[]⟩)), .d (.raw (.string ⟨#[]⟩)), .d (.raw (.int .i64 0)), .d (.raw (.int .i64 0)), .d (.raw (.slice none 0 0))])), (5001, some (.cell 24 [.d (.raw (.int .i64 k)), .d (.raw (.string n)), .d (.raw (.string m)), .d (.raw (.int .i64 i)), .d (.raw (.int .i64 d)), .grow 99 (encL (outL side s j q))]))], [(99, some ⟨6, 24, q⟩)]⟩
theorem outE_odd (side : Nat) (k : Int) (n m : ByteArray) (i d : Int) (s : List Ex) (j j' : Int) (hk : ¬ k = 15 ∧ j' = j ∨ k = 15 ∧ 0 < j ∧ j' = j - 1) : setE side (.mk k n m i d s) j = .mk k n m i d (outL side s j' s.length) := by
  rcases hk with ⟨hk, rfl⟩ | ⟨rfl, h1, rfl⟩
  · unfold setE outL
    split
    · rw [oddE side k n m i d s hk, allL_map]; simp
    · rw [oneE, if_neg hk]; simp
  · unfold setE outL
    rw [if_neg (by omega), if_neg (by omega), oneE, if_pos rfl, if_neg (by omega)]; simp
set_option maxRecDepth 100000 in
set_option maxHeartbeats 4000000 in
theorem settled_step (N : Nat) (side : Nat) (hs : side ≤ 2)
    (ih : ∀ (t : Ex) (j : Int), nodesE t < N → nodesE t ≤ 400 → sumsE t = true → -1 ≤ j → j < confE t ∨ j < 0 → Con Tryd.prog 37 [avE t, .d (.raw (.int .i64 j)), .d (.raw (.int .i64 side))] (avE (setE side t j)))
    (k : Int) (n m : ByteArray) (i d : Int) (s : List Ex) (j : Int) (hN : nodesE (.mk k n m i d s) < N + 1) (hb : nodesE (.mk k n m i d s) ≤ 400) (hsum : sumsE (.mk k n m i d s) = true) (hj : -1 ≤ j) (hj2 : j < confE (.mk k n m i d s) ∨ j < 0) :
    Con Tryd.prog 37 [avE (.mk k n m i d s), .d (.raw (.int .i64 j)), .d (.raw (.int .i64 side))] (avE (setE side (.mk k n m i d s) j)) := by
  have hcn := confE_nodes (.mk k n m i d s)
  rw [nodesE] at hN hb hcn
  have hlen := length_le_nodesL s
  simp only [sumsE, Bool.and_eq_true, Bool.or_eq_true, decide_eq_true_eq] at hsum
  refine con_of Tryd.func37 rfl (by decide +kernel) (by simp only [AV.closed, closedL, avE, closedL_d, Bool.and_self]) (by simp only [AV.closed, closedL, avE, closedL_d, Bool.and_self]) (by simp [Tryd.ntmps37]) fun A hA => ?_
  rw [Tryd.ntmps37] at hA
  refine goC 300 ?_
  by_cases hk : k = 15
  · subst hk
    have h3 : s.length = 3 := by rcases hsum.1 with h | h; exact absurd rfl h; exact h
    have hlt : side < s.length := by omega
    have hn1 := nodesL_get s side hlt
    by_cases h0 : j = 0
    · subst h0
      simp only [go_sem, hA, avE, encE, encL_length, Int.toNat_natCast, encL_at s side hlt, Tryd.results37]
      refine ⟨⟨by omega, by omega⟩, ?_⟩
      have e : setE side (.mk 15 n m i d s) 0 = s[side] := by
        rw [setE, if_neg (by omega), oneE, if_pos rfl, if_pos rfl]
        simp [List.getD_eq_getElem?_getD, hlt]
      rw [e, encE_eq]
      rfl
    · by_cases hneg : j < 0
      · simp only [go_sem, hA, avE, encE, h0, hneg, encL_length, Int.toNat_natCast, encL_at s side hlt]
        refine ⟨⟨by omega, by omega⟩, goCall 300 (ih s[side] j (by omega) (by omega) (sumsL_get side hlt hsum.2) hj (.inr hneg)) rfl (by simp only [go_sem, avE_eq]) (by simp only [go_sem, hA]) ?_⟩
        simp only [go_sem, hA, avE_eq, Tryd.results37]
        have e : setE side (.mk 15 n m i d s) j = setE side s[side] j := by
          rw [setE, setE, if_pos hneg, if_pos hneg, sumA side n m i d s hlt]
        rw [e, encE_eq]
        rfl
      · obtain ⟨j', hjj, hj', hj2', hjr⟩ : ∃ j', (¬ (15 : Int) = 15 ∧ j' = j ∨ (15 : Int) = 15 ∧ 0 < j ∧ j' = j - 1) ∧ -1 ≤ j' ∧ (j' < confL s ∨ j' < 0) ∧ j - 1 = j' := ⟨j - 1, .inr ⟨rfl, by omega, rfl⟩, by omega, by rw [confE, if_pos rfl] at hj2; omega, rfl⟩
        have hcs : confL s ≤ 399 := by have := confL_nodes s; omega
        simp only [go_sem, hA, avE, encE, h0, hneg, encL_length, Int.toNat_natCast, hjr]
        refine ⟨by unfold inI64; omega, ?_⟩
        refine satC_growCell 99 5001 5 6 24 (by simp only [go_sem, hA]) rfl rfl ?_
        simp only [go_sem, hA]
        refine satC_loop [1, 2, 3, 6, 7, 8] [0, 1, 5001] [99] (fun x σ => ∃ (q : Nat) (r : Int), q ≤ s.length ∧ x = s.length - q ∧ RegOk s j' q r ∧ σ = sdSt 15 n m i d s side j' q r) s.length ⟨0, j', by omega, by omega, by (have e0 : confL (s.take 0) = 0 := by rw [List.take_zero, confL]); unfold RegOk; rw [e0]; omega, by (have e0 : encL (outL side s j' 0) = [] := by unfold outL; split <;> simp [oneL, encL]); simp only [go_sem, sdSt, e0]; rfl⟩ ?_
        rintro x σ ⟨q, r, hq, rfl, hr, rfl⟩
        refine goC 300 ?_
        have hol := outL_length side s j' q hq
        by_cases hlt : q < s.length
        · have h1 : decide ((q : Int) < (s.length : Int)) = true := by simpa using hlt
          have hn1 := nodesL_get s q hlt
          have hc1 := confE_nodes s[q]
          simp only [go_sem, hA, sdSt, h1, Int.toNat_natCast, encL_length, encL_at s q hlt]
          refine ⟨⟨by omega, by omega⟩, goCall 300 (rConflicts_c s[q] (by omega)) rfl (by simp only [go_sem, avE_eq]) (by simp only [go_sem, hA]) ?_⟩
          by_cases hlt2 : r < confE s[q]
          · obtain ⟨g1, g2, g3⟩ := out_in side s j' q r hj' (by omega) hlt hr hlt2
            simp only [go_sem, hA, avE_eq, Int.toNat_natCast, encL_length, encL_at s q hlt, hlt2]
            refine ⟨⟨by omega, by omega⟩, goCall 300 (ih s[q] r (by omega) (by omega) (sumsL_get q hlt hsum.2) g1 (.inl hlt2)) rfl (by simp only [go_sem, avE_eq]) (by simp only [go_sem, hA]) ?_⟩
            simp only [go_sem, hA, avE_eq, encL_length]
            refine ⟨⟨hol, row_fit _, enc_six _, by omega⟩, ?_⟩
            rcases g3 with ⟨g3, g4⟩ | ⟨g3, g4⟩
            · have h2 : ¬ 0 ≤ r := by omega
              simp only [go_sem, hA, h2]
              refine ⟨by unfold inI64; omega, s.length - (q + 1), by omega, q + 1, r, by omega, rfl, g4, ?_⟩
              rw [g2, ← enc_snoc]
              rfl
            · have h2 : r - (confE s[q] : Int) < 0 := by omega
              simp only [go_sem, hA, g3, h2]
              refine ⟨by unfold inI64; omega, by unfold inI64; omega, s.length - (q + 1), by omega, q + 1, 400, by omega, rfl, g4, ?_⟩
              rw [g2, ← enc_snoc]
              rfl
          · obtain ⟨g1, g2, g3, g4, g5⟩ := out_out side s j' q r (by omega) hlt hr hlt2 (by omega)
            simp only [go_sem, hA, avE_eq, Int.toNat_natCast, encL_length, encL_at s q hlt, hlt2]
            refine ⟨⟨by omega, by omega⟩, ⟨hol, row_fit _, enc_six _, by omega⟩, ?_⟩
            have h2 : ¬ r - (confE s[q] : Int) < 0 := by omega
            simp only [go_sem, hA, g1, h2]
            refine ⟨by unfold inI64; omega, by unfold inI64; omega, s.length - (q + 1), by omega, q + 1, r - confE s[q], by omega, rfl, g5, ?_⟩
            rw [g2, ← enc_snoc]
            rfl
        · have h1 : decide ((q : Int) < (s.length : Int)) = false := by simp; omega
          obtain rfl : q = s.length := by omega
          simp only [go_sem, hA, sdSt, h1, encL_length, Tryd.results37]
          rw [outE_odd side 15 n m i d s j j' hjj]
          rfl
  · obtain ⟨j', hjj, hj', hj2', hjr⟩ : ∃ j', (¬ k = 15 ∧ j' = j ∨ k = 15 ∧ 0 < j ∧ j' = j - 1) ∧ -1 ≤ j' ∧ (j' < confL s ∨ j' < 0) ∧ j = j' := ⟨j, .inl ⟨hk, rfl⟩, by omega, by rw [confE, if_neg hk] at hj2; omega, rfl⟩
    subst hjr
    have hcs : confL s ≤ 399 := by have := confL_nodes s; omega
    simp only [go_sem, hA, avE, encE, hk, encL_length, Int.toNat_natCast]
    refine satC_growCell 99 5001 5 6 24 (by simp only [go_sem, hA]) rfl rfl ?_
    simp only [go_sem, hA]
    refine satC_loop [1, 2, 3, 6, 7, 8] [0, 1, 5001] [99] (fun x σ => ∃ (q : Nat) (r : Int), q ≤ s.length ∧ x = s.length - q ∧ RegOk s j q r ∧ σ = sdSt k n m i d s side j q r) s.length ⟨0, j, by omega, by omega, by (have e0 : confL (s.take 0) = 0 := by rw [List.take_zero, confL]); unfold RegOk; rw [e0]; omega, by (have e0 : encL (outL side s j 0) = [] := by unfold outL; split <;> simp [oneL, encL]); simp only [go_sem, sdSt, e0]; rfl⟩ ?_
    rintro x σ ⟨q, r, hq, rfl, hr, rfl⟩
    refine goC 300 ?_
    have hol := outL_length side s j q hq
    by_cases hlt : q < s.length
    · have h1 : decide ((q : Int) < (s.length : Int)) = true := by simpa using hlt
      have hn1 := nodesL_get s q hlt
      have hc1 := confE_nodes s[q]
      simp only [go_sem, hA, sdSt, h1, Int.toNat_natCast, encL_length, encL_at s q hlt]
      refine ⟨⟨by omega, by omega⟩, goCall 300 (rConflicts_c s[q] (by omega)) rfl (by simp only [go_sem, avE_eq]) (by simp only [go_sem, hA]) ?_⟩
      by_cases hlt2 : r < confE s[q]
      · obtain ⟨g1, g2, g3⟩ := out_in side s j q r hj (by omega) hlt hr hlt2
        simp only [go_sem, hA, avE_eq, Int.toNat_natCast, encL_length, encL_at s q hlt, hlt2]
        refine ⟨⟨by omega, by omega⟩, goCall 300 (ih s[q] r (by omega) (by omega) (sumsL_get q hlt hsum.2) g1 (.inl hlt2)) rfl (by simp only [go_sem, avE_eq]) (by simp only [go_sem, hA]) ?_⟩
        simp only [go_sem, hA, avE_eq, encL_length]
        refine ⟨⟨hol, row_fit _, enc_six _, by omega⟩, ?_⟩
        rcases g3 with ⟨g3, g4⟩ | ⟨g3, g4⟩
        · have h2 : ¬ 0 ≤ r := by omega
          simp only [go_sem, hA, h2]
          refine ⟨by unfold inI64; omega, s.length - (q + 1), by omega, q + 1, r, by omega, rfl, g4, ?_⟩
          rw [g2, ← enc_snoc]
          rfl
        · have h2 : r - (confE s[q] : Int) < 0 := by omega
          simp only [go_sem, hA, g3, h2]
          refine ⟨by unfold inI64; omega, by unfold inI64; omega, s.length - (q + 1), by omega, q + 1, 400, by omega, rfl, g4, ?_⟩
          rw [g2, ← enc_snoc]
          rfl
      · obtain ⟨g1, g2, g3, g4, g5⟩ := out_out side s j q r (by omega) hlt hr hlt2 (by omega)
        simp only [go_sem, hA, avE_eq, Int.toNat_natCast, encL_length, encL_at s q hlt, hlt2]
        refine ⟨⟨by omega, by omega⟩, ⟨hol, row_fit _, enc_six _, by omega⟩, ?_⟩
        have h2 : ¬ r - (confE s[q] : Int) < 0 := by omega
        simp only [go_sem, hA, g1, h2]
        refine ⟨by unfold inI64; omega, by unfold inI64; omega, s.length - (q + 1), by omega, q + 1, r - confE s[q], by omega, rfl, g5, ?_⟩
        rw [g2, ← enc_snoc]
        rfl
    · have h1 : decide ((q : Int) < (s.length : Int)) = false := by simp; omega
      obtain rfl : q = s.length := by omega
      simp only [go_sem, hA, sdSt, h1, encL_length, Tryd.results37]
      rw [outE_odd side k n m i d s j j hjj]
      rfl
end Go.Proofs.YtiagjpiclnmpkaaDoor
