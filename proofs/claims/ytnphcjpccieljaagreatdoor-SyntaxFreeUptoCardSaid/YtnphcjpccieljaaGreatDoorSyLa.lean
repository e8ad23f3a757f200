/- SyntaxExprs: the law walked. -/
import Derived.Test.YtnphcjpccieljaaGreatDoorSyZ
namespace Go.Proofs.YtnphcjpccieljaaGreatDoor
open Go Go.RowKit
theorem freeX_length (t : Ex) : (freeX t).length ≤ nodesE t := by
  unfold freeX
  split
  · have := freeE_length t [] []
    simpa using this
  · simp
set_option maxRecDepth 100000 in
set_option maxHeartbeats 16000000 in
theorem lawExprs_c (a : Ex) (ha : nodesE a ≤ 1048576) : Con Tryz.prog 8 [avE a] (.d (.raw (.bool true))) := by
  have cga := rGreat_c a (by omega)
  refine con_of Tryz.func8 rfl (by decide +kernel) rfl (by simp only [AV.closed, closedL, avE, closedL_d, Bool.and_self]) (by simp [Tryz.ntmps8]) fun A hA => ?_
  rw [Tryz.ntmps8] at hA
  refine goC 400 ?_
  simp only [go_sem, hA, avE_eq]
  refine goCall 300 cga rfl (by simp only [go_sem, avE_eq]) (by simp only [go_sem, hA]) ?_
  cases h1 : greatE a with
  | true =>
    simp only [go_sem]
    refine goCall 300 awake_c rfl rfl (by simp only [go_sem, hA]) ?_
    simp only [go_sem, hA, Tryz.results8]
  | false =>
  have na := greatE_le h1
  have hfl := freeX_length a
  have ce := sExpr_c a (by omega) (fun h h5 => checkX_full h h5)
  have cr := rExpr_c a (by omega) (fun h h5 => fullE_ok _ (checkX_full h h5))
  have cn := sNodes_c a (by omega)
  have crn := rNodes_c a (by omega)
  have cf := sFree_c a (by omega) (fun h => checkX_shp h)
  have crf := rFree_c a (by omega)
  have css := rSameStrings_c (freeX a) (freeX a) (by omega)
  have cck := sCheckExpr_c a (by omega)
  have crk := rCheckExpr_c a (by omega)
  rw [sfreeX_eq] at cf
  rw [sameS_refl] at css
  have k1 : decide ((nodesE a : Int) = (nodesE a : Int)) = true := decide_eq_true rfl
  have k2 : decide (checkX a = checkX a) = true := decide_eq_true rfl
  have k3 : decide ((exprX a).1 = (exprX a).1) = true := decide_eq_true rfl
  have k4 : decide ((exprX a).2 = (exprX a).2) = true := decide_eq_true rfl
  simp only [go_sem, hA]
  refine goCall 300 ce rfl (by simp only [go_sem, avE_eq]) (by simp only [go_sem, hA]) ?_
  simp only [go_sem, hA]
  refine goCall 300 cr rfl (by simp only [go_sem, avE_eq]) (by simp only [go_sem, hA]) ?_
  simp only [go_sem, hA, mixed]
  refine goCallD 300 cn rfl (by simp only [go_sem, avE_eq]) (by simp only [go_sem, hA]) ?_
  simp only [go_sem, hA]
  refine goCallD 300 crn rfl (by simp only [go_sem, avE_eq]) (by simp only [go_sem, hA]) ?_
  simp only [go_sem, hA]
  refine goCallD 300 cf rfl (by simp only [go_sem, avE_eq]) (by simp only [go_sem, hA]) ?_
  simp only [go_sem, hA]
  refine goCallD 300 crf rfl (by simp only [go_sem, avE_eq]) (by simp only [go_sem, hA]) ?_
  simp only [go_sem, hA]
  refine goCallD 300 css rfl (by simp only [go_sem]) (by simp only [go_sem, hA]) ?_
  simp only [go_sem, hA]
  refine goCallD 300 cck rfl (by simp only [go_sem, avE_eq]) (by simp only [go_sem, hA]) ?_
  simp only [go_sem, hA]
  refine goCallD 300 crk rfl (by simp only [go_sem, avE_eq]) (by simp only [go_sem, hA]) ?_
  simp only [go_sem, hA]
  refine goCallD 300 awake_c rfl rfl (by simp only [go_sem, hA]) ?_
  simp only [go_sem, hA, Tryz.results8]
  exact by show chk _ _ _ = true; kernel_rfl
end Go.Proofs.YtnphcjpccieljaaGreatDoor
