/- SyntaxSources: the law walked. -/
import Derived.Test.YtnphcjpccieljaaGreatDoorSyXb
import Derived.Test.YtnphcjpccieljaaGreatDoorGYg
import Derived.Test.YtnphcjpccieljaaGreatDoorGYh
namespace Go.Proofs.YtnphcjpccieljaaGreatDoor
open Go Go.RowKit
theorem greatDs_nodes {l : List Dc} (h : greatDs l = false) : ∀ d ∈ l, nodesE d.body ≤ 40 := fun d hd => by
  simp only [greatDs, Bool.or_eq_false_iff] at h
  have h1 : greatDc d = false := by
    cases hg : greatDc d with
    | false => rfl
    | true => rw [List.any_eq_true.2 ⟨d, hd, hg⟩] at h; exact absurd h.2 (by simp)
  simp only [greatDc, Bool.or_eq_false_iff] at h1
  have h2 := h1.1.2
  simp only [greatE, Bool.or_eq_false_iff, decide_eq_false_iff_not] at h2
  omega
theorem greatS_nodes {x : Sr} (h : greatS x = false) : ∀ d ∈ x.decls, nodesE d.body ≤ 40 := by
  simp only [greatS, Bool.or_eq_false_iff] at h
  exact greatDs_nodes h.2
set_option maxRecDepth 100000 in
set_option maxHeartbeats 16000000 in
theorem lawSources_c (x : Sr) (hb : ∀ d ∈ x.decls, nodesE d.body ≤ 1048576) : Con Tryz.prog 3 [avS x] (.d (.raw (.bool true))) := by
  have cg := rGreatSource_c x hb
  refine con_of Tryz.func3 rfl (by decide +kernel) rfl rfl (by simp [Tryz.ntmps3]) fun A hA => ?_
  rw [Tryz.ntmps3] at hA
  refine goC 400 ?_
  simp only [go_sem, hA, avS]
  refine goCall 300 cg rfl (by simp only [go_sem, avS]) (by simp only [go_sem, hA]) ?_
  cases h1 : greatS x with
  | true =>
    simp only [go_sem]
    refine goCall 300 awake_c rfl rfl (by simp only [go_sem, hA]) ?_
    simp only [go_sem, hA, Tryz.results3]
  | false =>
  have hn := greatS_nodes h1
  have hb2 : ∀ d ∈ x.decls, nodesE d.body ≤ 524288 := fun d hd => by have := hn d hd; omega
  have ct := stext_c x hb2
  have cr := rtextS_c x hb2
  have cs := ssource_c x hb2
  have crs := rsource_c x hb2
  rw [srcX_eq] at crs
  have k2 : decide (srcX sdeclX x = srcX sdeclX x) = true := decide_eq_true rfl
  have k3 : decide ((textX x).1 = (textX x).1) = true := decide_eq_true rfl
  have k4 : decide ((textX x).2 = (textX x).2) = true := decide_eq_true rfl
  simp only [go_sem, hA]
  refine goCall 300 ct rfl (by simp only [go_sem, avS]) (by simp only [go_sem, hA]) ?_
  simp only [go_sem, hA]
  refine goCall 300 cr rfl (by simp only [go_sem, avS]) (by simp only [go_sem, hA]) ?_
  simp only [go_sem, hA, mixed]
  refine goCallD 300 cs rfl (by simp only [go_sem, avS]) (by simp only [go_sem, hA]) ?_
  simp only [go_sem, hA]
  refine goCallD 300 crs rfl (by simp only [go_sem, avS]) (by simp only [go_sem, hA]) ?_
  simp only [go_sem, hA]
  refine goCallD 300 awake_c rfl rfl (by simp only [go_sem, hA]) ?_
  simp only [go_sem, hA, Tryz.results3]
  exact by show chk _ _ _ = true; kernel_rfl
end Go.Proofs.YtnphcjpccieljaaGreatDoor
