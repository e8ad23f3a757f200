/- Plain facts on cells and blocks of a world. -/
import Derived.WalkKit
namespace Go.Proofs.YtckkfenchjgfhaaDoor
open Go.RowKit

theorem cell_off (W : World) (v : Value) {b i j : Nat} (h : i ≠ j) : (W.setCell ⟨b, i, none⟩ v).cell? ⟨b, j, none⟩ = W.cell? ⟨b, j, none⟩ := World.cell?_setCell_other _ _ _ _ (fun e => h (Addr.mk.inj e).2.1)
theorem below_drew1 {B : Nat} {a w : World} (h : Below B a w) : Below B a w.drew := ⟨h.os, h.tape, h.output, h.size, h.block⟩
/-- three cells that have been stored one after the other -/
theorem store3 {W : World} {b : Nat} {u0 u1 u2 : Value} (a0 a1 a2 : Value) (h0 : W.cell? ⟨b, 0, none⟩ = some u0) (h1 : W.cell? ⟨b, 1, none⟩ = some u1) (h2 : W.cell? ⟨b, 2, none⟩ = some u2) :
    (((W.setCell ⟨b, 0, none⟩ a0).setCell ⟨b, 1, none⟩ a1).setCell ⟨b, 2, none⟩ a2).cell? ⟨b, 0, none⟩ = some a0 ∧
    (((W.setCell ⟨b, 0, none⟩ a0).setCell ⟨b, 1, none⟩ a1).setCell ⟨b, 2, none⟩ a2).cell? ⟨b, 1, none⟩ = some a1 ∧
    (((W.setCell ⟨b, 0, none⟩ a0).setCell ⟨b, 1, none⟩ a1).setCell ⟨b, 2, none⟩ a2).cell? ⟨b, 2, none⟩ = some a2 := by
  refine ⟨?_, ?_, ?_⟩
  · exact (cell_off _ _ (by omega)).trans ((cell_off _ _ (by omega)).trans (World.cell?_setCell_same _ _ _ h0))
  · exact (cell_off _ _ (by omega)).trans (World.cell?_setCell_same _ _ _ (u := u1) ((cell_off _ _ (by omega)).trans h1))
  · exact World.cell?_setCell_same _ _ _ (u := u2) ((cell_off _ _ (by omega)).trans ((cell_off _ _ (by omega)).trans h2))
theorem cell3_new (w : World) (t : TypeId) (x0 x1 x2 : Value) : (w.alloc (.cells #[x0, x1, x2] t)).cell? ⟨w.heap.size, 0, none⟩ = some x0 ∧ (w.alloc (.cells #[x0, x1, x2] t)).cell? ⟨w.heap.size, 1, none⟩ = some x1 ∧ (w.alloc (.cells #[x0, x1, x2] t)).cell? ⟨w.heap.size, 2, none⟩ = some x2 := by
  simp [go_sem]
/-- the end of next: the token's cells stored behind the call of Check -/
theorem next_end {w w' : World} {t t' : TypeId} {x0 x1 x2 y0 y1 y2 : Value} (a0 a1 a2 : Value)
    (hb : Below ((w.alloc (.cells #[x0, x1, x2] t)).alloc (.cells #[y0, y1, y2] t')).drew.heap.size ((w.alloc (.cells #[x0, x1, x2] t)).alloc (.cells #[y0, y1, y2] t')).drew w') :
    ((((w'.setCell ⟨w.heap.size, 0, none⟩ a0).setCell ⟨w.heap.size, 1, none⟩ a1).setCell ⟨w.heap.size, 2, none⟩ a2).cell? ⟨w.heap.size, 0, none⟩ = some a0 ∧
    (((w'.setCell ⟨w.heap.size, 0, none⟩ a0).setCell ⟨w.heap.size, 1, none⟩ a1).setCell ⟨w.heap.size, 2, none⟩ a2).cell? ⟨w.heap.size, 1, none⟩ = some a1 ∧
    (((w'.setCell ⟨w.heap.size, 0, none⟩ a0).setCell ⟨w.heap.size, 1, none⟩ a1).setCell ⟨w.heap.size, 2, none⟩ a2).cell? ⟨w.heap.size, 2, none⟩ = some a2) ∧
    Below w.heap.size w (((w'.setCell ⟨w.heap.size, 0, none⟩ a0).setCell ⟨w.heap.size, 1, none⟩ a1).setCell ⟨w.heap.size, 2, none⟩ a2) := by
  have hc : ∀ j, w'.cell? ⟨w.heap.size, j, none⟩ = (w.alloc (.cells #[x0, x1, x2] t)).cell? ⟨w.heap.size, j, none⟩ := fun j =>
    (hb.cell (p := ⟨w.heap.size, j, none⟩) (by simp; omega)).trans (by
      have h1 := ((Below.refl _ (w.alloc (.cells #[x0, x1, x2] t))).alloc (Nat.le_refl _) (.cells #[y0, y1, y2] t')).cell (p := ⟨w.heap.size, j, none⟩) (by simp)
      exact h1)
  have h3 := cell3_new w t x0 x1 x2
  refine ⟨store3 a0 a1 a2 ((hc 0).trans h3.1) ((hc 1).trans h3.2.1) ((hc 2).trans h3.2.2), ?_⟩
  have h0 : Below w.heap.size w w' := (below_drew1 (((Below.refl _ w).alloc (Nat.le_refl _) (.cells #[x0, x1, x2] t)).alloc (by simp) (.cells #[y0, y1, y2] t'))).trans (hb.mono (by simp; omega))
  exact ((h0.setCell (p := ⟨w.heap.size, 0, none⟩) (Nat.le_refl _) _).setCell (p := ⟨w.heap.size, 1, none⟩) (Nat.le_refl _) _).setCell (p := ⟨w.heap.size, 2, none⟩) (Nat.le_refl _) _
theorem byte32 (c : UInt8) : wrap32 (c.toNat : Int) = (c.toNat : Int) := IntWalk.wrap32_in _ ⟨by omega, by have := c.toNat_lt; omega⟩
end Go.Proofs.YtckkfenchjgfhaaDoor
