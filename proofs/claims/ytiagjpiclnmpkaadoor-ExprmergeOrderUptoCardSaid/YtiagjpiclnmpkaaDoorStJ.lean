/- ExprmergeOrder, walked. -/
import Derived.Test.YtiagjpiclnmpkaaDoorStI
import Derived.Test.YtiagjpiclnmpkaaDoorFrameB
namespace Go.Proofs.YtiagjpiclnmpkaaDoor
open Go Go.RowKit
abbrev exBlk (x : Ex) : Option Blk := some (.cell 24 [.d (.raw (.int .i64 x.kind)), .d (.raw (.string x.name)), .d (.raw (.string x.more)), .d (.raw (.int .i64 x.int)), .d (.raw (.int .i64 x.den)), .d (.sl (encL x.sub))])
abbrev odSt (t : Ex) (l : List Nat) (s q : Nat) (x : Ex) : St :=
  ⟨[(2, .d (.sl (encB l))), (7, .d (.raw (.int .i64 s))), (8, .box 4006 0), (10, .box 7001 0), (46, .d (.raw (.int .i64 q)))], [(4006, exBlk (allE s t)), (7001, exBlk x)], []⟩
set_option maxRecDepth 100000 in
set_option maxHeartbeats 4000000 in
theorem lawOrder_con (t : Ex) (side : Nat) (l : List Nat) (hside : side < 256) (hl : ∀ b ∈ l, b < 256) (hlen : l.length ≤ 1048576) (hb : nodesE t ≤ 1048576) : Con Tryd.prog 9 [avE t, .d (.raw (.int .u8 side)), .d (.sl (encB l))] (.d (.raw (.bool true))) := by
  refine con_of Tryd.func9 rfl (by decide +kernel) (by simp only [AV.closed, closedL, avE, closedL_d, Bool.and_self]) (by simp only [AV.closed, closedL, avE, closedL_d, Bool.and_self]) (by simp [Tryd.ntmps9]) fun A hA => ?_
  rw [Tryd.ntmps9] at hA
  refine goC 300 ?_
  simp only [go_sem, hA, avE_eq]
  refine goCall 200 (great_c [t] (by simp only [nodesL]; omega)) rfl (by simp only [go_sem, avE_eq, encL, encE_eq]) (by simp only [go_sem, hA]) ?_
  simp only [go_sem, hA, avE_eq]
  cases hk : anyE greatE [t] with
  | true =>
    simp only [go_sem, hA, avE_eq, hk]
    refine goCall 200 awake_c rfl (by simp only [go_sem, avE_eq]) (by simp only [go_sem, hA]) ?_
    simp only [go_sem, hA, Tryd.results9]
  | false =>
    simp only [go_sem, hA, avE_eq, hk]
    refine goCall 200 (rCheckExpr_c t hb) rfl (by simp only [go_sem, avE_eq]) (by simp only [go_sem, hA]) ?_
    by_cases hc : checkX t = 0
    · by_cases hl0 : l.length = 0
      · simp only [go_sem, hA, hc, hl0, encB_length, Int.ofNat_zero, Int.natCast_zero]
        refine goCall 200 awake_c rfl (by simp only [go_sem, avE_eq]) (by simp only [go_sem, hA]) ?_
        simp only [go_sem, hA, Tryd.results9]
      · have hl1 : ¬ (l.length : Int) = 0 := by omega
        have hw : IntKind.i64.wrap (side : Int) = side := wrapI64 (by unfold inI64; omega)
        obtain ⟨s, hs, hs2⟩ : ∃ s : Nat, s ≤ 2 ∧ (side : Int).tmod 3 = s := ⟨side % 3, by omega, by rw [Int.tmod_eq_emod_of_nonneg (by omega)]; omega⟩
        have h3 : ¬ (3 : Int) = 0 := by omega
        simp only [go_sem, hA, avE_eq, hc, hl1, encB_length, hw, hs2, h3]
        refine goCall 200 (mSide_con t s hb) rfl (by simp only [go_sem, avE_eq]) (by simp only [go_sem, hA]) ?_
        have hsx : sideX t s = (allE s t, 0) := by rw [sideX, if_pos hc, if_neg (by omega), Int.toNat_natCast]
        have hca := conf_all s t
        have hna := allE_nodes s t
        simp only [go_sem, hA, avE_eq, hsx]
        refine goCall 200 (mClean_c (allE s t) (by omega)) rfl (by simp only [go_sem, avE_eq]) (by simp only [go_sem, hA]) ?_
        have hcb : (confE (allE s t) == 0) = true := by rw [hca]; rfl
        simp only [go_sem, hA, avE_eq, hcb]
        have hgr : nodesE t ≤ 40 := by
          have h9 : greatE t = false := by
            cases hg : greatE t with
            | false => rfl
            | true => rw [← hk]; simp [anyE, hg]
          unfold greatE at h9
          simp only [Bool.or_eq_false_iff, decide_eq_false_iff_not] at h9
          omega
        have hcn := confE_nodes t
        refine satC_loop [2, 7, 8, 10, 46] [4006, 7001] [] (fun n σ => ∃ (q : Nat) (x : Ex), n = 41 - q ∧ OrdOk t s q x ∧ σ = odSt t l s q x) 41 ⟨0, t, by omega, ⟨hc, rfl, by omega, hgr⟩, by simp only [go_sem, odSt, exBlk]; rfl⟩ ?_
        rintro n σ ⟨q, x, rfl, hok, rfl⟩
        refine goC 300 ?_
        have hq := hok.conf
        have hqn := hok.nodes
        have hq1 : (q : Int) < 41 := by omega
        simp only [go_sem, hA, odSt, exBlk, hq1]
        refine goCall 300 (mConflicts_c x (by omega)) rfl (by simp only [go_sem, avE_eq]) (by simp only [go_sem, hA]) ?_
        by_cases h0 : (confE x : Int) ≤ 0
        · have hx : allE s t = x := by rw [← hok.all]; exact all_clean s x (by omega)
          simp only [go_sem, hA, h0, hx]
          refine goCall 200 (rSame_c x x (by omega)) rfl (by simp only [go_sem, avE_eq]) (by simp only [go_sem, hA]) ?_
          simp only [go_sem, hA, sameE_refl]
          refine goCall 200 awake_c rfl (by simp only [go_sem, avE_eq]) (by simp only [go_sem, hA]) ?_
          simp only [go_sem, hA, Tryd.results9]
        · have h1 : ¬ (confE x : Int) = 0 := by omega
          obtain ⟨m, hm, hmt⟩ : ∃ m : Nat, m < l.length ∧ (q : Int).tmod l.length = m := ⟨q % l.length, Nat.mod_lt _ (by omega), by rw [Int.tmod_eq_emod_of_nonneg (by omega)]; omega⟩
          have hbm := hl l[m] (List.getElem_mem hm)
          have hwb : IntKind.i64.wrap (l[m] : Int) = l[m] := wrapI64 (by unfold inI64; omega)
          obtain ⟨j, hj, hjt⟩ : ∃ j : Nat, j < confE x ∧ (l[m] : Int).tmod (confE x) = j := ⟨l[m] % confE x, Nat.mod_lt _ (by omega), by rw [Int.tmod_eq_emod_of_nonneg (by omega)]; omega⟩
          obtain ⟨hse, hok2⟩ := hok.step hs (j := j) (by omega) (by omega)
          simp only [go_sem, hA, h0, h1, avE_eq, encB_length, mixed, hl1, hmt, Int.toNat_natCast, encB_at l m hm, hwb, hjt]
          refine ⟨⟨by omega, by omega⟩, ?_⟩
          refine goCallD 300 (mSettle_con x j s (by omega)) rfl (by simp only [go_sem, avE_eq]) (by simp only [go_sem, hA]) ?_
          simp only [go_sem, hA, hse, avE_eq, mixed]
          refine ⟨by kernel_rfl, by unfold inI64; omega, 41 - (q + 1), by omega, q + 1, _, rfl, hok2, rfl⟩
    · simp only [go_sem, hA, hc]
      refine goCall 200 awake_c rfl (by simp only [go_sem, avE_eq]) (by simp only [go_sem, hA]) ?_
      simp only [go_sem, hA, Tryd.results9]
theorem lawOrder_x {t : Ex} {x : XV} {w : World} {v : Value} {l : List Nat} (h : XAt w t x) (side : Nat) (hv : HasC w (fun b _ => b < w.heap.size) (.d (.sl (encB l))) v) (hside : side < 256) (hl : ∀ b ∈ l, b < 256) (hlen : l.length ≤ 1048576) (hb : nodesE t ≤ 1048576) : Calls Tryd.prog 9 #[.agg x.arr, .int .u8 side, v] w fun e w' => e = .returned (.bool true) ∧ Below w.heap.size w w' := by
  obtain ⟨_, _, hc⟩ := lawOrder_con t side l hside hl hlen hb
  refine (hc (fun b _ => b < w.heap.size) w [.agg x.arr, .int .u8 side, v] (fun _ _ h => h) rfl (fun k hk _ => ?_)).mono ?_
  · match k, hk with
    | 0, _ => exact xAt_avE h
    | 1, _ => exact .d (.raw _)
    | 2, _ => exact hv
  · rintro e w' ⟨v, rfl, hv, hbl⟩
    rw [hasC_raw hv]
    exact ⟨rfl, hbl⟩
end Go.Proofs.YtiagjpiclnmpkaaDoor
