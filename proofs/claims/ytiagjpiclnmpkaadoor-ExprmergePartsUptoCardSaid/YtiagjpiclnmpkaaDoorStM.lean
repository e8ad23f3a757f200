/- ExprmergeParts, walked. -/
import Derived.Test.YtiagjpiclnmpkaaDoorStL
import Derived.Test.YtiagjpiclnmpkaaDoorStK
namespace Go.Proofs.YtiagjpiclnmpkaaDoor
open Go Go.RowKit
set_option maxRecDepth 100000 in
set_option maxHeartbeats 4000000 in
theorem both_c (a b : Ex) (kind : Int) (h0 : 0 ≤ kind) (_h1 : kind < 256) : Con Tryd.prog 18 [avE a, avE b, .at_ [.raw (.int .u8 kind)]] (avE (bothE (kind % 5).toNat a b)) := by
  refine con_of Tryd.func18 rfl (by decide +kernel) (by simp only [AV.closed, avE, closedL_d]) (by simp only [AV.closed, closedL, avE, closedL_d, Bool.and_self]) (by simp [Tryd.ntmps18]) fun A hA => ?_
  rw [Tryd.ntmps18] at hA
  refine goC 300 ?_
  simp only [go_sem, hA, avE_eq]
  refine goCallD 300 (op_c ⟨#[43]⟩ a b) rfl (by simp only [go_sem, avE_eq]) (by simp only [go_sem, hA]) ?_
  obtain ⟨k, hk5, hk, hk2⟩ : ∃ k : Nat, k < 5 ∧ kind.tmod 5 = k ∧ (kind % 5).toNat = k := ⟨(kind % 5).toNat, by omega, by rw [Int.tmod_eq_emod_of_nonneg h0]; omega, rfl⟩
  simp only [go_sem, hA, avE_eq, hk, hk2, Int.toNat_natCast]
  rcases (show k = 0 ∨ k = 1 ∨ k = 2 ∨ k = 3 ∨ k = 4 by omega) with rfl | rfl | rfl | rfl | rfl
  all_goals simp only [go_sem, hA, List.getD_cons_zero, List.getD_cons_succ, Tryd.results18]
  all_goals
    refine ⟨by omega, by kernel_rfl, ?_⟩
    simp only [bothE, opE, nilE, Ex.kind, Ex.name, Ex.more, Ex.int, Ex.den, Ex.sub, encL, encE_eq]
def checkEs' (l : List Ex) : Bool := l.all fun t => decide (checkX t = 0)
theorem chk_succ {l : List Ex} {q : Nat} (h : q < l.length) (hc : checkEs' (l.take q) = true) (hz : checkX l[q] = 0) : checkEs' (l.take (q + 1)) = true := by
  rw [List.take_succ_eq_append_getElem h]
  unfold checkEs' at hc ⊢
  rw [List.all_append, hc]
  simp [hz]
abbrev avP (b l r : Ex) : AV := .agg (cellsE b ++ cellsE l ++ cellsE r)
abbrev ptSt (xb xl xr yb yl yr : Ex) (kind : Int) (q : Nat) : St :=
  ⟨[(3, .box 0 0), (4, .box 1 0), (5, .at_ [.raw (.int .u8 kind)]), (33, .grow 1012 (encL [xb, xl, xr, yb, yl, yr])), (34, .d (.raw (.int .i64 6))), (35, .d (.raw (.int .i64 q)))],
   [(0, some (.cell 35 (cellsE xb ++ cellsE xl ++ cellsE xr))), (1, some (.cell 35 (cellsE yb ++ cellsE yl ++ cellsE yr)))], []⟩
set_option maxRecDepth 100000 in
set_option maxHeartbeats 4000000 in
theorem lawParts_c (xb xl xr yb yl yr : Ex) (kind : Int) (h0 : 0 ≤ kind) (h1 : kind < 256) (hsz : nodesL [xb, xl, xr, yb, yl, yr] ≤ 1048576) : Con Tryd.prog 6 [avP xb xl xr, avP yb yl yr, .d (.raw (.int .u8 kind))] (.d (.raw (.bool true))) := by
  have hgr := great_c [xb, xl, xr, yb, yl, yr] hsz
  refine con_of Tryd.func6 rfl (by decide +kernel) rfl (by simp only [AV.closed, closedL, cellsE, List.cons_append, List.nil_append, Bool.and_self]) (by simp [Tryd.ntmps6]) fun A hA => ?_
  rw [Tryd.ntmps6] at hA
  refine goC 300 ?_
  simp only [go_sem, hA]
  refine goFrz 2 ?_
  simp only [go_sem]
  refine goCall 300 hgr rfl (by simp only [go_sem, encL, encE_eq]) (by simp only [go_sem, hA]) ?_
  simp only [go_sem]
  refine goIf (fun hg => ?_) (fun hg => ?_)
  · simp only [go_sem]
    refine goCall 300 awake_c rfl rfl (by simp only [go_sem, hA]) ?_
    simp only [go_sem, hA, Tryd.results6]
  have hgE : ∀ t ∈ [xb, xl, xr, yb, yl, yr], nodesE t ≤ 40 := fun t ht => by
    have h2 := List.any_eq_false.1 hg t ht
    simp only [greatE, Bool.or_eq_true, decide_eq_true_eq, not_or] at h2
    omega
  obtain ⟨n1, n2, n3, n4, n5, n6⟩ : nodesE xb ≤ 40 ∧ nodesE xl ≤ 40 ∧ nodesE xr ≤ 40 ∧ nodesE yb ≤ 40 ∧ nodesE yl ≤ 40 ∧ nodesE yr ≤ 40 := ⟨hgE _ (by simp), hgE _ (by simp), hgE _ (by simp), hgE _ (by simp), hgE _ (by simp), hgE _ (by simp)⟩
  simp only [go_sem, hA]
  obtain ⟨L, hL⟩ : ∃ L, [xb, xl, xr, yb, yl, yr] = L := ⟨_, rfl⟩
  have hLl : L.length = 6 := by rw [← hL]; rfl
  refine satC_loop [3, 4, 5, 33, 34, 35] [0, 1] [] (fun x σ => ∃ q : Nat, q ≤ 6 ∧ x = 6 - q ∧ checkEs' (L.take q) = true ∧ σ = ptSt xb xl xr yb yl yr kind q) 6 ⟨0, by omega, by omega, rfl, by simp only [go_sem, ptSt, encL, encE_eq]⟩ ?_
  rintro x σ ⟨q, hq, rfl, hch, rfl⟩
  refine goC 300 ?_
  by_cases hlt : q < L.length
  · have g1 : decide ((q : Int) < 6) = true := decide_eq_true (by omega)
    have hc := rCheckExpr_c L[q] (by have := hgE L[q] (by rw [hL]; exact List.getElem_mem _); omega)
    simp only [go_sem, hA, ptSt, hL, g1, Int.toNat_natCast, encL_length, encL_at L q hlt]
    refine ⟨⟨by omega, by omega⟩, goCall 300 hc rfl (by simp only [go_sem, avE_eq]) (by simp only [go_sem, hA]) ?_⟩
    by_cases hz : checkX L[q] = 0
    · have d0 : (decide ¬ checkX L[q] = 0) = false := by simpa using hz
      simp only [go_sem, hA, d0]
      exact ⟨by unfold inI64; omega, 6 - (q + 1), by omega, q + 1, by omega, rfl, chk_succ hlt hch hz, rfl⟩
    · have d0 : (decide ¬ checkX L[q] = 0) = true := by simpa using hz
      simp only [go_sem, hA, d0]
      refine goCall 300 awake_c rfl rfl (by simp only [go_sem, hA]) ?_
      simp only [go_sem, hA, Tryd.results6]
  · have g1 : decide ((q : Int) < 6) = false := decide_eq_false (by omega)
    obtain rfl : q = 6 := by omega
    have hz : ∀ t ∈ [xb, xl, xr, yb, yl, yr], checkX t = 0 := fun t ht => by
      rw [List.take_of_length_le (by omega), ← hL] at hch
      exact of_decide_eq_true (List.all_eq_true.1 hch t ht)
    obtain ⟨z1, z2, z3, z4, z5, z6⟩ : checkX xb = 0 ∧ checkX xl = 0 ∧ checkX xr = 0 ∧ checkX yb = 0 ∧ checkX yl = 0 ∧ checkX yr = 0 := ⟨hz _ (by simp), hz _ (by simp), hz _ (by simp), hz _ (by simp), hz _ (by simp), hz _ (by simp)⟩
    have hlaw := parts_law (kind % 5).toNat xb xl xr yb yl yr z1 z2 z3 z4 z5 z6
    have b1 := bothE_nodes (kind % 5).toNat xb yb
    have b2 := bothE_nodes (kind % 5).toNat xl yl
    have b3 := bothE_nodes (kind % 5).toNat xr yr
    have cm1 := mMerge_c xb xl xr (by omega) (by omega) (by omega)
    have cm2 := mMerge_c yb yl yr (by omega) (by omega) (by omega)
    have cm3 := mMerge_c _ _ _ (show nodesE (bothE (kind % 5).toNat xb yb) ≤ 200000 by omega) (show nodesE (bothE (kind % 5).toNat xl yl) ≤ 200000 by omega) (show nodesE (bothE (kind % 5).toNat xr yr) ≤ 200000 by omega)
    have k3 := mergeX_nodes (b := bothE (kind % 5).toNat xb yb) (l := bothE (kind % 5).toNat xl yl) (r := bothE (kind % 5).toNat xr yr)
    have cb1 := both_c xb yb kind h0 h1
    have cb2 := both_c xl yl kind h0 h1
    have cb3 := both_c xr yr kind h0 h1
    obtain ⟨m1, e1, hm1⟩ : ∃ m e, mergeX xb xl xr = (m, e) := ⟨_, _, rfl⟩
    obtain ⟨m2, e2, hm2⟩ : ∃ m e, mergeX yb yl yr = (m, e) := ⟨_, _, rfl⟩
    obtain ⟨m3, e3, hm3⟩ : ∃ m e, mergeX (bothE (kind % 5).toNat xb yb) (bothE (kind % 5).toNat xl yl) (bothE (kind % 5).toNat xr yr) = (m, e) := ⟨_, _, rfl⟩
    simp only [hm1, hm2, hm3] at hlaw cm1 cm2 cm3 k3
    have cb4 := both_c m1 m2 kind h0 h1
    simp only [go_sem, hA, ptSt]
    refine goCall 300 cm1 rfl (by simp only [go_sem, avE_eq]) (by simp only [go_sem, hA]) ?_
    simp only [go_sem, hA, avE_eq]
    refine goCall 300 cm2 rfl (by simp only [go_sem, avE_eq]) (by simp only [go_sem, hA]) ?_
    simp only [go_sem, hA, avE_eq]
    refine goCallDF 300 cb1 rfl rfl rfl (by simp only [go_sem, avE_eq]) (by simp only [go_sem, hA]) ?_
    simp only [go_sem, hA, avE_eq]
    refine goCallDF 300 cb2 rfl rfl rfl (by simp only [go_sem, avE_eq]) (by simp only [go_sem, hA]) ?_
    simp only [go_sem, hA, avE_eq]
    refine goCallDF 300 cb3 rfl rfl rfl (by simp only [go_sem, avE_eq]) (by simp only [go_sem, hA]) ?_
    simp only [go_sem, avE_eq]
    refine goCallD 300 cm3 rfl (by simp only [go_sem, avE_eq]) (by simp only [go_sem, hA]) ?_
    obtain ⟨o1, o2, o3, hlaw⟩ := hlaw
    rcases o1 with rfl | rfl
    · rcases o2 with rfl | rfl
      · rcases o3 with rfl | rfl
        · simp only [go_sem, hA, avE_eq]
          refine ⟨by kernel_rfl, ?_⟩
          have cs := rSame_c m3 (bothE (kind % 5).toNat m1 m2) (by omega)
          rw [hlaw rfl rfl rfl] at cs
          refine goCallDF 300 cb4 rfl rfl rfl (by simp only [go_sem, avE_eq]) (by simp only [go_sem, hA]) ?_
          simp only [go_sem, avE_eq]
          refine goCallD 300 cs rfl (by simp only [go_sem, avE_eq]) (by simp only [go_sem, hA]) ?_
          simp only [go_sem, hA]
          refine goCallD 300 awake_c rfl rfl (by simp only [go_sem, hA]) ?_
          simp only [go_sem, hA, Tryd.results6]
          kernel_rfl
        · simp only [go_sem, hA, avE_eq, Int.reduceEq]
          refine ⟨by kernel_rfl, ?_⟩
          refine goCall 300 awake_c rfl rfl (by simp only [go_sem, hA]) ?_
          simp only [go_sem, hA, Tryd.results6]
      · simp only [go_sem, hA, avE_eq, Int.reduceEq]
        refine ⟨by kernel_rfl, ?_⟩
        refine goCall 300 awake_c rfl rfl (by simp only [go_sem, hA]) ?_
        simp only [go_sem, hA, Tryd.results6]
    · simp only [go_sem, hA, avE_eq, Int.reduceEq]
      refine ⟨by kernel_rfl, ?_⟩
      refine goCall 300 awake_c rfl rfl (by simp only [go_sem, hA]) ?_
      simp only [go_sem, hA, Tryd.results6]
end Go.Proofs.YtiagjpiclnmpkaaDoor
