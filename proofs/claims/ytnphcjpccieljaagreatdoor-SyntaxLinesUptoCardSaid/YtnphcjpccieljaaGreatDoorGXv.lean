/- Contracts on expressions as values: Same, CheckExpr, Great. Contracts on expressions as trees: Same, CheckExpr, Great. -/
import Derived.Test.YtnphcjpccieljaaGreatDoorGEnc
import Derived.Test.YtnphcjpccieljaaGreatDoorGExB
import Derived.Test.YtnphcjpccieljaaGreatDoorExO
namespace Go.Proofs.YtnphcjpccieljaaGreatDoor
open Go.RowKit
theorem rSame_x {a b : Ex} {xa xb : XV} {w : World} (ha : XAt w a xa) (hb : XAt w b xb) (hsz : nodesE a ≤ 1099511627776) :
    Calls Tryz.prog 27 #[.agg xa.arr, .agg xb.arr] w fun e w' => e = .returned (.bool (sameE a b)) ∧ Below w.heap.size w w' := by
  obtain ⟨ea, ha⟩ := xAt_sub ha
  obtain ⟨eb, hb⟩ := xAt_sub hb
  rw [ea, eb]
  rw [nodesE_eq] at hsz
  have h := rSame_any (nodesL a.sub + 1) a.kind a.name a.more a.int a.den a.sub _ b.kind b.name b.more b.int b.den b.sub _ w (by omega) (by omega) ha hb
  rw [Ex.eta, Ex.eta] at h
  exact h
theorem rCheckExpr_x {a : Ex} {xa : XV} {w : World} (ha : XAt w a xa) (hsz : nodesE a ≤ 1048576) :
    Calls Tryz.prog 31 #[.agg xa.arr] w fun e w' => e = .returned (.int .i64 (checkX a)) ∧ Below w.heap.size w w' := by
  obtain ⟨ea, ha⟩ := xAt_sub ha
  rw [ea]
  rw [nodesE_eq] at hsz
  have h := rCheckExpr_any a.kind a.name a.more a.int a.den a.sub _ w (by omega) ha
  rw [Ex.eta] at h
  exact h
theorem sCheckExpr_x {a : Ex} {xa : XV} {w : World} (ha : XAt w a xa) (hsz : nodesE a ≤ 1048576) :
    Calls Tryz.prog 19 #[.agg xa.arr] w fun e w' => e = .returned (.int .i64 (checkX a)) ∧ Below w.heap.size w w' := by
  obtain ⟨ea, ha⟩ := xAt_sub ha
  rw [ea]
  rw [nodesE_eq] at hsz
  have h := sCheckExpr_any a.kind a.name a.more a.int a.den a.sub _ w (by omega) ha
  rw [Ex.eta] at h
  exact h
theorem rGreat_x {a : Ex} {xa : XV} {w : World} (ha : XAt w a xa) (hsz : nodesE a ≤ 1048576) :
    Calls Tryz.prog 18 #[.agg xa.arr] w fun e w' => e = .returned (.bool (greatE a)) ∧ Below w.heap.size w w' := by
  obtain ⟨ea, ha⟩ := xAt_sub ha
  rw [ea]
  rw [nodesE_eq] at hsz
  have h := rGreat_any a.kind a.name a.more a.int a.den a.sub _ w (by omega) ha
  rw [Ex.eta] at h
  exact h
end Go.Proofs.YtnphcjpccieljaaGreatDoor

namespace Go.Proofs.YtnphcjpccieljaaGreatDoor
open Go Go.RowKit
theorem rSame_c (a b : Ex) (hsz : nodesE a ≤ 1099511627776) : Con Tryz.prog 27 [avE a, avE b] (.d (.raw (.bool (sameE a b)))) := con_e2 ⟨_, Tryz.func27, by decide +kernel, rfl⟩ fun _ _ _ hx hy => rSame_x hx hy hsz
theorem rCheckExpr_c (a : Ex) (hsz : nodesE a ≤ 1048576) : Con Tryz.prog 31 [avE a] (.d (.raw (.int .i64 (checkX a)))) := con_e1 ⟨_, Tryz.func31, by decide +kernel, rfl⟩ fun _ _ hx => rCheckExpr_x hx hsz
theorem sCheckExpr_c (a : Ex) (hsz : nodesE a ≤ 1048576) : Con Tryz.prog 19 [avE a] (.d (.raw (.int .i64 (checkX a)))) := con_e1 ⟨_, Tryz.func19, by decide +kernel, rfl⟩ fun _ _ hx => sCheckExpr_x hx hsz
theorem rGreat_c (a : Ex) (hsz : nodesE a ≤ 1048576) : Con Tryz.prog 18 [avE a] (.d (.raw (.bool (greatE a)))) := con_e1 ⟨_, Tryz.func18, by decide +kernel, rfl⟩ fun _ _ hx => rGreat_x hx hsz
end Go.Proofs.YtnphcjpccieljaaGreatDoor
