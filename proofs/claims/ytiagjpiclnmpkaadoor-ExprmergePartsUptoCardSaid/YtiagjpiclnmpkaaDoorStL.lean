/- merge and Merge of exprmerge, and op, walked. -/
import Derived.Test.YtiagjpiclnmpkaaDoorGSb
namespace Go.Proofs.YtiagjpiclnmpkaaDoor
open Go Go.RowKit
theorem malike_c (a b : Ex) : Con Tryd.prog 43 [avE a, avE b] (.d (.raw (.bool (alikeE a b)))) := con_e2 ⟨_, Tryd.func43, by decide +kernel, rfl⟩ fun x y w hx hy => by
  obtain ⟨ex, _⟩ := xAt_sub hx
  obtain ⟨ey, _⟩ := xAt_sub hy
  rw [ex, ey]
  have h := malike_any a.kind a.name a.more a.int a.den a.sub x.p x.c b.kind b.name b.more b.int b.den b.sub y.p y.c w
  rw [Ex.eta, Ex.eta] at h
  exact h
theorem mequal_c (a b : Ex) (hsz : nodesE a ≤ 1099511627776) : Con Tryd.prog 42 [avE a, avE b] (.d (.raw (.bool (sameE a b)))) := con_e2 ⟨_, Tryd.func42, by decide +kernel, rfl⟩ fun x y w hx hy => by
  obtain ⟨ex, hx⟩ := xAt_sub hx
  obtain ⟨ey, hy⟩ := xAt_sub hy
  rw [ex, ey]
  rw [nodesE_eq] at hsz
  have h := mequal_any (nodesL a.sub + 1) a.kind a.name a.more a.int a.den a.sub _ b.kind b.name b.more b.int b.den b.sub _ w (by omega) (by omega) hx hy
  rw [Ex.eta, Ex.eta] at h
  exact h
set_option maxRecDepth 100000 in
set_option maxHeartbeats 4000000 in
theorem op_c (nm : ByteArray) (a b : Ex) : Con Tryd.prog 19 [.d (.raw (.string nm)), avE a, avE b] (avE (opE nm a b)) := by
  refine con_of Tryd.func19 rfl (by decide +kernel) (by simp only [AV.closed, avE, closedL_d]) (by simp only [AV.closed, closedL, avE, closedL_d, Bool.and_self]) (by simp [Tryd.ntmps19]) fun A hA => ?_
  rw [Tryd.ntmps19] at hA
  refine goC 300 ?_
  simp only [go_sem, hA, avE_eq, Tryd.results19]
  simp only [opE, Ex.kind, Ex.name, Ex.more, Ex.int, Ex.den, Ex.sub, encL, encE_eq]
theorem mergeL_take_succ : ∀ (b l r : List Ex) (q : Nat) (hb : q < b.length) (hl : q < l.length) (hr : q < r.length), mergeL (b.take (q + 1)) (l.take (q + 1)) (r.take (q + 1)) = mergeL (b.take q) (l.take q) (r.take q) ++ [mergeE b[q] l[q] r[q]]
  | b :: bs, l :: ls, r :: rs, 0, _, _, _ => by simp [mergeL]
  | b :: bs, l :: ls, r :: rs, q + 1, hb, hl, hr => by
    have := mergeL_take_succ bs ls rs q (by simpa using hb) (by simpa using hl) (by simpa using hr)
    simp only [List.take_succ_cons, mergeL, this, List.getElem_cons_succ, List.cons_append]
  | [], _, _, q, hb, _, _ => by simp at hb
  | b :: bs, [], _, q, _, hl, _ => by simp at hl
  | b :: bs, l :: ls, [], q, _, _, hr => by simp at hr
abbrev mgR (b l r : List Ex) (q : Nat) : List Ex := mergeL (b.take q) (l.take q) (r.take q) ++ List.replicate (b.length - q) zeroEx
theorem mg_mlen (b l r : List Ex) (q : Nat) (h : q ≤ b.length) (hl : b.length = l.length) (hr : b.length = r.length) : (mergeL (b.take q) (l.take q) (r.take q)).length = q := by
  rw [mergeL_length _ _ _ (by simp; omega) (by simp; omega)]; simp; omega
theorem mg_len (b l r : List Ex) (q : Nat) (h : q ≤ b.length) (hl : b.length = l.length) (hr : b.length = r.length) : (encL (mgR b l r q)).length = b.length := by
  rw [encL_length, List.length_append, mg_mlen b l r q h hl hr]; simp; omega
theorem mg_set (b l r : List Ex) (q : Nat) (h : q < b.length) (hl : b.length = l.length) (hr : b.length = r.length) (t : Ex) (ht : t = mergeE b[q] (l[q]'(by omega)) (r[q]'(by omega))) :
    (encL (mgR b l r q)).set q [.raw (.int .i64 t.kind), .raw (.string t.name), .raw (.string t.more), .raw (.int .i64 t.int), .raw (.int .i64 t.den), .sl (encL t.sub)] = encL (mgR b l r (q + 1)) := by
  rw [← encE_eq, encL_set, ht]
  have hm := mg_mlen b l r q (by omega) hl hr
  unfold mgR
  rw [mergeL_take_succ b l r q h (by omega) (by omega)]
  congr 1
  rw [List.set_append_right _ _ (by omega), hm, Nat.sub_self, show b.length - q = (b.length - (q + 1)) + 1 by omega, List.replicate_succ, List.set_cons_zero, List.append_assoc]
  rfl
theorem mg_row (b l r : List Ex) (q : Nat) (h : q < b.length) (hl : b.length = l.length) (hr : b.length = r.length) : (encL (mgR b l r q)).getD q [] = [D.raw (Value.int IntKind.i64 0), D.raw (Value.string ⟨#[]⟩), D.raw (Value.string ⟨#[]⟩), D.raw (Value.int IntKind.i64 0), D.raw (Value.int IntKind.i64 0), D.sl []] := by
  have hm := mg_mlen b l r q (by omega) hl hr
  have hq : q < (mgR b l r q).length := by unfold mgR; rw [List.length_append, hm]; simp; omega
  rw [encL_getD _ q hq]
  have e : (mgR b l r q)[q] = zeroEx := by
    unfold mgR
    rw [List.getElem_append_right (by omega)]; simp
  rw [e]; rfl
abbrev cellsE (t : Ex) : List AV := [.d (.raw (.int .i64 t.kind)), .d (.raw (.string t.name)), .d (.raw (.string t.more)), .d (.raw (.int .i64 t.int)), .d (.raw (.int .i64 t.den)), .d (.sl (encL t.sub))]
abbrev mgSt (b l r : Ex) (q : Nat) : St :=
  ⟨[(3, .box 0 0), (4, .box 1 0), (5, .box 2 0), (6, .box 3 0), (7, .box 6001 0), (50, .d (.raw (.int .i64 b.sub.length))), (51, .d (.raw (.int .i64 q)))],
   [(0, some (.cell 24 (cellsE b))), (1, some (.cell 24 (cellsE l))), (2, some (.cell 24 (cellsE r))), (3, some (.cell 24 [.d (.raw (.int .i64 0)), .d (.raw (.string ⟨#[]⟩)), .d (.raw (.string ⟨#[]⟩)), .d (.raw (.int .i64 0)), .d (.raw (.int .i64 0)), .d (.raw (.slice none 0 0))])),
    (6001, some (.cell 24 [.d (.raw (.int .i64 b.kind)), .d (.raw (.string b.name)), .d (.raw (.string b.more)), .d (.raw (.int .i64 b.int)), .d (.raw (.int .i64 b.den)), .own 7003 b.sub.length])), (7003, some (.row 6 24 (encL (mgR b.sub l.sub r.sub q))))], []⟩
theorem fields_of {t : Ex} {k : Int} {n m : ByteArray} {i d : Int} {s : List Ex} (h : t = .mk k n m i d s) : t.kind = k ∧ t.name = n ∧ t.more = m ∧ t.int = i ∧ t.den = d ∧ t.sub = s := by subst h; exact ⟨rfl, rfl, rfl, rfl, rfl, rfl⟩
theorem fit3 (l b r : Ex) : rowsFit 6 [[D.raw (Value.int IntKind.i64 l.kind), D.raw (Value.string l.name), D.raw (Value.string l.more), D.raw (Value.int IntKind.i64 l.int), D.raw (Value.int IntKind.i64 l.den), D.sl (encL l.sub)], [D.raw (Value.int IntKind.i64 b.kind), D.raw (Value.string b.name), D.raw (Value.string b.more), D.raw (Value.int IntKind.i64 b.int), D.raw (Value.int IntKind.i64 b.den), D.sl (encL b.sub)], [D.raw (Value.int IntKind.i64 r.kind), D.raw (Value.string r.name), D.raw (Value.string r.more), D.raw (Value.int IntKind.i64 r.int), D.raw (Value.int IntKind.i64 r.den), D.sl (encL r.sub)]] := by
  have h := encL_fit [l, b, r]
  simp only [encL, encE_eq] at h
  exact h
set_option maxRecDepth 100000 in
set_option maxHeartbeats 4000000 in
theorem merge_step (N : Nat)
    (ih : ∀ (b l r : Ex), nodesE b < N → nodesE b ≤ 1048576 → nodesE l ≤ 1048576 → nodesE r ≤ 1048576 → Con Tryd.prog 30 [avE b, avE l, avE r] (avE (mergeE b l r)))
    (b l r : Ex) (hN : nodesE b < N + 1) (hb : nodesE b ≤ 1048576) (hl : nodesE l ≤ 1048576) (hr : nodesE r ≤ 1048576) : Con Tryd.prog 30 [avE b, avE l, avE r] (avE (mergeE b l r)) := by
  have c1 := mequal_c l r (by omega)
  have c2 := mequal_c r b (by omega)
  have c3 := mequal_c l b (by omega)
  have c4 := malike_c b l
  have c5 := malike_c b r
  have hm := mergeE_eq b l r
  refine con_of Tryd.func30 rfl (by decide +kernel) (by simp only [AV.closed, avE, closedL_d]) (by simp only [AV.closed, closedL, avE, closedL_d, Bool.and_self]) (by simp [Tryd.ntmps30]) fun A hA => ?_
  rw [Tryd.ntmps30] at hA
  refine goC 300 ?_
  simp only [go_sem, hA, avE_eq]
  cases h1 : sameE l r
  rotate_left
  · simp only [h1, Bool.true_or, if_true] at c1 hm
    refine goCall 300 c1 rfl (by simp only [go_sem, avE_eq]) (by simp only [go_sem, hA]) ?_
    simp only [go_sem, hA, Tryd.results30, hm]
  rw [h1] at c1
  refine goCall 300 c1 rfl (by simp only [go_sem, avE_eq]) (by simp only [go_sem, hA]) ?_
  simp only [go_sem, hA]
  cases h2 : sameE r b
  rotate_left
  · simp only [h2, Bool.or_true, if_true] at c2 hm
    refine goCall 300 c2 rfl (by simp only [go_sem, avE_eq]) (by simp only [go_sem, hA]) ?_
    simp only [go_sem, hA, Tryd.results30, hm]
  rw [h2] at c2
  refine goCall 300 c2 rfl (by simp only [go_sem, avE_eq]) (by simp only [go_sem, hA]) ?_
  simp only [go_sem, hA]
  simp only [h1, h2, Bool.or_self, Bool.false_eq_true, if_false] at hm
  cases h3 : sameE l b
  rotate_left
  · simp only [h3, if_true] at c3 hm
    refine goCall 300 c3 rfl (by simp only [go_sem, avE_eq]) (by simp only [go_sem, hA]) ?_
    simp only [go_sem, hA, Tryd.results30, hm]
  rw [h3] at c3
  refine goCall 300 c3 rfl (by simp only [go_sem, avE_eq]) (by simp only [go_sem, hA]) ?_
  simp only [go_sem, hA]
  simp only [h3, Bool.false_eq_true, if_false] at hm
  cases h4 : alikeE b l
  · rw [h4] at c4
    have hp : ¬ partsB b l r = true := by simp [partsB, h4]
    rw [if_neg hp] at hm
    obtain ⟨f1, f2, f3, f4, f5, f6⟩ := fields_of hm
    refine goCall 300 c4 rfl (by simp only [go_sem, avE_eq]) (by simp only [go_sem, hA]) ?_
    simp only [go_sem, hA, Tryd.results30, f1, f2, f3, f4, f5, f6, encL, encE_eq]
    exact ⟨rfl, fit3 l b r⟩
  rw [h4] at c4
  refine goCall 300 c4 rfl (by simp only [go_sem, avE_eq]) (by simp only [go_sem, hA]) ?_
  simp only [go_sem, hA]
  cases h5 : alikeE b r
  · rw [h5] at c5
    have hp : ¬ partsB b l r = true := by simp [partsB, h5]
    rw [if_neg hp] at hm
    obtain ⟨f1, f2, f3, f4, f5, f6⟩ := fields_of hm
    refine goCall 300 c5 rfl (by simp only [go_sem, avE_eq]) (by simp only [go_sem, hA]) ?_
    simp only [go_sem, hA, Tryd.results30, f1, f2, f3, f4, f5, f6, encL, encE_eq]
    exact ⟨rfl, fit3 l b r⟩
  rw [h5] at c5
  refine goCall 300 c5 rfl (by simp only [go_sem, avE_eq]) (by simp only [go_sem, hA]) ?_
  by_cases hk : b.kind = 15
  · have hp : ¬ partsB b l r = true := by simp [partsB, hk]
    have e1 : (decide ¬ b.kind = 15) = false := by simpa using hk
    rw [if_neg hp] at hm
    obtain ⟨f1, f2, f3, f4, f5, f6⟩ := fields_of hm
    simp only [go_sem, hA, e1, Tryd.results30, f1, f2, f3, f4, f5, f6, encL, encE_eq]
    exact ⟨rfl, fit3 l b r⟩
  have e1 : (decide ¬ b.kind = 15) = true := by simpa using hk
  by_cases hz : b.sub.length = 0
  · have hp : ¬ partsB b l r = true := by simp [partsB, hz]
    have e2 : decide (0 < (b.sub.length : Int)) = false := decide_eq_false (by omega)
    rw [if_neg hp] at hm
    obtain ⟨f1, f2, f3, f4, f5, f6⟩ := fields_of hm
    simp only [go_sem, hA, e1, e2, encL_length, Tryd.results30, f1, f2, f3, f4, f5, f6, encL, encE_eq]
    exact ⟨rfl, fit3 l b r⟩
  have e2 : decide (0 < (b.sub.length : Int)) = true := decide_eq_true (by omega)
  have hp : partsB b l r = true := by simp [partsB, h4, h5, hk]; omega
  rw [if_pos hp] at hm
  have hll : b.sub.length = l.sub.length := ((alikeE_iff _ _).1 h4).2.2.2.2.2
  have hlr : b.sub.length = r.sub.length := ((alikeE_iff _ _).1 h5).2.2.2.2.2
  have hlen := length_le_nodesL b.sub
  have hnb := nodesE_eq b
  have hnl := nodesE_eq l
  have hnr := nodesE_eq r
  simp only [go_sem, hA, e1, e2, encL_length, Int.toNat_natCast]
  refine ⟨⟨by omega, by omega, by omega⟩, ?_⟩
  refine satC_loop [3, 4, 5, 6, 7, 50, 51] [0, 1, 2, 3, 6001, 7003] [] (fun x σ => ∃ q : Nat, q ≤ b.sub.length ∧ x = b.sub.length - q ∧ σ = mgSt b l r q) b.sub.length ⟨0, by omega, by omega, by simp only [go_sem, mgSt, mgR, List.take_zero, mergeL, Nat.sub_zero, sa_zero]⟩ ?_
  rintro x σ ⟨q, hq, rfl, rfl⟩
  refine goC 300 ?_
  have hlen2 := mg_len b.sub l.sub r.sub q hq hll hlr
  by_cases hlt : q < b.sub.length
  · have g1 : decide ((q : Int) < (b.sub.length : Int)) = true := by simpa using hlt
    have hn1 := nodesL_get b.sub q hlt
    have hn2 := nodesL_get l.sub q (by omega)
    have hn3 := nodesL_get r.sub q (by omega)
    simp only [go_sem, hA, mgSt, g1, Int.toNat_natCast, encL_length, encL_at b.sub q hlt, encL_at l.sub q (by omega), encL_at r.sub q (by omega)]
    refine ⟨⟨by omega, by omega⟩, ⟨by omega, by omega⟩, ⟨by omega, by omega⟩, goCallD 200 (ih b.sub[q] l.sub[q] r.sub[q] (by omega) (by omega) (by omega) (by omega)) rfl (by simp only [go_sem, avE_eq]) (by simp only [go_sem, hA]) ?_⟩
    have hst := mg_set b.sub l.sub r.sub q hlt hll hlr _ rfl
    simp only [go_sem, hA, avE_eq, Int.toNat_natCast, hlen2, hst, mg_row b.sub l.sub r.sub q hlt hll hlr]
    refine ⟨⟨by omega, by omega⟩, by omega, by kernel_rfl, by unfold inI64; omega, b.sub.length - (q + 1), by omega, q + 1, by omega, rfl, ?_⟩
    rfl
  · have g1 : decide ((q : Int) < (b.sub.length : Int)) = false := decide_eq_false (by omega)
    obtain rfl : q = b.sub.length := by omega
    obtain ⟨f1, f2, f3, f4, f5, f6⟩ := fields_of hm
    have e : mgR b.sub l.sub r.sub b.sub.length = mergeL b.sub l.sub r.sub := by
      unfold mgR
      rw [List.take_length, Nat.sub_self, List.replicate_zero, List.append_nil, List.take_of_length_le (by omega), List.take_of_length_le (by omega)]
    rw [e] at hlen2
    simp only [go_sem, hA, mgSt, g1, Tryd.results30, hlen2, f1, f2, f3, f4, f5, f6, e]
theorem merge_con (N : Nat) : ∀ (b l r : Ex), nodesE b < N → nodesE b ≤ 1048576 → nodesE l ≤ 1048576 → nodesE r ≤ 1048576 → Con Tryd.prog 30 [avE b, avE l, avE r] (avE (mergeE b l r)) := by
  induction N with
  | zero => intro b l r h; omega
  | succ N ih => intro b l r h hb hl hr; exact merge_step N ih b l r h hb hl hr
abbrev rowM3 (b l r : Ex) : List (List D) := [[D.raw (Value.int IntKind.i64 b.kind), D.raw (Value.string b.name), D.raw (Value.string b.more), D.raw (Value.int IntKind.i64 b.int), D.raw (Value.int IntKind.i64 b.den), D.sl (encL b.sub)], [D.raw (Value.int IntKind.i64 l.kind), D.raw (Value.string l.name), D.raw (Value.string l.more), D.raw (Value.int IntKind.i64 l.int), D.raw (Value.int IntKind.i64 l.den), D.sl (encL l.sub)], [D.raw (Value.int IntKind.i64 r.kind), D.raw (Value.string r.name), D.raw (Value.string r.more), D.raw (Value.int IntKind.i64 r.int), D.raw (Value.int IntKind.i64 r.den), D.sl (encL r.sub)]]
abbrev mMSt (b l r : Ex) (q : Nat) : St :=
  ⟨[(3, .box 0 0), (4, .box 1 0), (5, .box 2 0), (6, .box 3 0), (15, .grow 1003 (rowM3 b l r)), (16, .d (.raw (.int .i64 3))), (17, .d (.raw (.int .i64 q)))],
   [(0, some (.cell 24 (cellsE b))), (1, some (.cell 24 (cellsE l))), (2, some (.cell 24 (cellsE r))), (3, some (.cell 24 [.d (.raw (.int .i64 0)), .d (.raw (.string ⟨#[]⟩)), .d (.raw (.string ⟨#[]⟩)), .d (.raw (.int .i64 0)), .d (.raw (.int .i64 0)), .d (.raw (.slice none 0 0))]))], [(1003, some ⟨6, 24, 3⟩)]⟩
theorem mergeX_bad {b l r : Ex} {c : Int} (h : mergeX b l r = (zeroEx, c)) : avE (mergeX b l r).1 = .agg [.d (.raw (.int .i64 0)), .d (.raw (.string ⟨#[]⟩)), .d (.raw (.string ⟨#[]⟩)), .d (.raw (.int .i64 0)), .d (.raw (.int .i64 0)), .d (.sl [])] ∧ (mergeX b l r).2 = c := by
  rw [h]; exact ⟨rfl, rfl⟩
set_option maxRecDepth 100000 in
set_option maxHeartbeats 4000000 in
theorem mMerge_c (b l r : Ex) (hb : nodesE b ≤ 200000) (hl : nodesE l ≤ 200000) (hr : nodesE r ≤ 200000) : Con Tryd.prog 12 [avE b, avE l, avE r] (.tup [avE (mergeX b l r).1, .d (.raw (.int .i64 (mergeX b l r).2))]) := by
  have hnn := mergeE_nodes b l r
  have hc1 := sCheckExpr_c b (by omega)
  have hc2 := sCheckExpr_c l (by omega)
  have hc3 := sCheckExpr_c r (by omega)
  have hc4 := sCheckExpr_c (mergeE b l r) (by omega)
  have hm := merge_con (nodesE b + 1) b l r (by omega) (by omega) (by omega) (by omega)
  refine con_of Tryd.func12 rfl (by decide +kernel) (by simp only [AV.closed, closedL, avE, closedL_d, Bool.and_self]) (by simp only [AV.closed, closedL, avE, closedL_d, Bool.and_self]) (by simp [Tryd.ntmps12]) fun A hA => ?_
  rw [Tryd.ntmps12] at hA
  refine goC 300 ?_
  simp only [go_sem, hA, avE_eq]
  refine satC_loop [3, 4, 5, 6, 15, 16, 17] [0, 1, 2, 3] [1003] (fun x σ => ∃ q : Nat, q ≤ 3 ∧ x = 3 - q ∧ (0 < q → checkX b = 0) ∧ (1 < q → checkX l = 0) ∧ (2 < q → checkX r = 0) ∧ σ = mMSt b l r q) 3 ⟨0, by omega, by omega, by omega, by omega, by omega, by simp only [go_sem, mMSt]⟩ ?_
  rintro x σ ⟨q, hq, rfl, h1, h2, h3, rfl⟩
  refine goC 300 ?_
  rcases (show q = 0 ∨ q = 1 ∨ q = 2 ∨ q = 3 by omega) with rfl | rfl | rfl | rfl
  · simp only [go_sem, hA, mMSt, List.getD_cons_zero]
    refine goCall 300 hc1 rfl (by simp only [go_sem, avE_eq]) (by simp only [go_sem, hA]) ?_
    by_cases h0 : checkX b = 0
    · have d0 : (decide ¬ checkX b = 0) = false := by simpa using h0
      simp only [go_sem, hA, d0]
      refine ⟨by unfold inI64; omega, 2, by omega, 1, by omega, by omega, fun _ => h0, by omega, by omega, ?_⟩
      simp only [go_sem, Int.reduceAdd]
    · have d0 : (decide ¬ checkX b = 0) = true := by simpa using h0
      obtain ⟨e1, e2⟩ := mergeX_bad (show mergeX b l r = (zeroEx, checkX b) from by unfold mergeX; rw [if_pos h0])
      simp only [go_sem, hA, d0, Tryd.results12]
      rw [← avE_eq, e1, e2]
  · have hb0 := h1 (by omega)
    simp only [go_sem, hA, mMSt, List.getD_cons_zero, List.getD_cons_succ]
    refine goCall 300 hc2 rfl (by simp only [go_sem, avE_eq]) (by simp only [go_sem, hA]) ?_
    by_cases h0 : checkX l = 0
    · have d0 : (decide ¬ checkX l = 0) = false := by simpa using h0
      simp only [go_sem, hA, d0]
      refine ⟨by unfold inI64; omega, 1, by omega, 2, by omega, by omega, fun _ => hb0, fun _ => h0, by omega, ?_⟩
      simp only [go_sem, Int.reduceAdd]
    · have d0 : (decide ¬ checkX l = 0) = true := by simpa using h0
      obtain ⟨e1, e2⟩ := mergeX_bad (show mergeX b l r = (zeroEx, checkX l) from by unfold mergeX; rw [if_neg (by simpa using hb0), if_pos h0])
      simp only [go_sem, hA, d0, Tryd.results12]
      rw [← avE_eq, e1, e2]
  · have hb0 := h1 (by omega)
    have hl0 := h2 (by omega)
    simp only [go_sem, hA, mMSt, List.getD_cons_zero, List.getD_cons_succ]
    refine goCall 300 hc3 rfl (by simp only [go_sem, avE_eq]) (by simp only [go_sem, hA]) ?_
    by_cases h0 : checkX r = 0
    · have d0 : (decide ¬ checkX r = 0) = false := by simpa using h0
      simp only [go_sem, hA, d0]
      refine ⟨by unfold inI64; omega, 0, by omega, 3, by omega, by omega, fun _ => hb0, fun _ => hl0, fun _ => h0, ?_⟩
      simp only [go_sem, Int.reduceAdd]
    · have d0 : (decide ¬ checkX r = 0) = true := by simpa using h0
      obtain ⟨e1, e2⟩ := mergeX_bad (show mergeX b l r = (zeroEx, checkX r) from by unfold mergeX; rw [if_neg (by simpa using hb0), if_neg (by simpa using hl0), if_pos h0])
      simp only [go_sem, hA, d0, Tryd.results12]
      rw [← avE_eq, e1, e2]
  · have hb0 := h1 (by omega)
    have hl0 := h2 (by omega)
    have hr0 := h3 (by omega)
    simp only [go_sem, hA, mMSt]
    refine goCall 300 hm rfl (by simp only [go_sem, avE_eq]) (by simp only [go_sem, hA]) ?_
    simp only [go_sem, hA, avE_eq]
    refine goCall 300 hc4 rfl (by simp only [go_sem, avE_eq]) (by simp only [go_sem, hA]) ?_
    by_cases h0 : checkX (mergeE b l r) = 0
    · have d0 : (decide ¬ checkX (mergeE b l r) = 0) = false := by simpa using h0
      have e1 : mergeX b l r = (mergeE b l r, 0) := by unfold mergeX; rw [if_neg (by simpa using hb0), if_neg (by simpa using hl0), if_neg (by simpa using hr0), if_neg (by simpa using h0)]
      simp only [go_sem, hA, d0, Tryd.results12, e1]
    · have d0 : (decide ¬ checkX (mergeE b l r) = 0) = true := by simpa using h0
      obtain ⟨e1, e2⟩ := mergeX_bad (show mergeX b l r = (zeroEx, 4) from by unfold mergeX; rw [if_neg (by simpa using hb0), if_neg (by simpa using hl0), if_neg (by simpa using hr0), if_pos h0])
      simp only [go_sem, hA, d0, Tryd.results12]
      rw [← avE_eq, e1, e2]
end Go.Proofs.YtiagjpiclnmpkaaDoor
