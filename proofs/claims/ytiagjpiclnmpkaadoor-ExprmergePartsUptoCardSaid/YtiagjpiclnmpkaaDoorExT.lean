/- merge of exprmerge: the frame; the ways that hand a side back. -/
import Derived.Test.YtiagjpiclnmpkaaDoorExQ
import Derived.Test.YtiagjpiclnmpkaaDoorGEx
import Derived.Test.YtiagjpiclnmpkaaDoorExG
namespace Go.Proofs.YtiagjpiclnmpkaaDoor
open Go.RowKit

/-- six cells of a block -/
theorem cells6 {W : World} {b : Nat} {c0 c1 c2 c3 c4 c5 : Value} {T : TypeId} {f : Nat × Nat} (h : W.heap[b]? = some (.cells #[c0, c1, c2, c3, c4, c5] T f)) :
    W.cell? ⟨b, 0, none⟩ = some c0 ∧ W.cell? ⟨b, 1, none⟩ = some c1 ∧ W.cell? ⟨b, 2, none⟩ = some c2 ∧ W.cell? ⟨b, 3, none⟩ = some c3 ∧ W.cell? ⟨b, 4, none⟩ = some c4 ∧ W.cell? ⟨b, 5, none⟩ = some c5 := by
  simp [World.cell?, h]
theorem free6 {W : World} {b : Nat} {cs : Array Value} {T : TypeId} (h : W.heap[b]? = some (.cells cs T (0, 0))) :
    W.frozen? ⟨b, 0, none⟩ = false ∧ W.frozen? ⟨b, 1, none⟩ = false ∧ W.frozen? ⟨b, 2, none⟩ = false ∧ W.frozen? ⟨b, 3, none⟩ = false ∧ W.frozen? ⟨b, 4, none⟩ = false ∧ W.frozen? ⟨b, 5, none⟩ = false := by
  simp [World.frozen?, h]
/-- the zero expression's cells -/
abbrev zeroE : Array Value := #[.int .i64 0, .string ⟨#[]⟩, .string ⟨#[]⟩, .int .i64 0, .int .i64 0, .slice none 0 0]
/-- three expressions and a result in their boxes -/
structure MFrame (w : World) (vb vl vr : Array Value) (W : World) : Prop where
  b : W.heap[w.heap.size]? = some (.cells vb 24 (0, 0))
  l : W.heap[w.heap.size + 1]? = some (.cells vl 24 (0, 0))
  r : W.heap[w.heap.size + 1 + 1]? = some (.cells vr 24 (0, 0))
  res : W.heap[w.heap.size + 1 + 1 + 1]? = some (.cells zeroE 24 (0, 0))
  size : w.heap.size + 1 + 1 + 1 + 1 ≤ W.heap.size
  below : Below w.heap.size w W
theorem MFrame.kept {w : World} {vb vl vr : Array Value} {A B : World} (h : MFrame w vb vl vr A) (hb : Below A.heap.size A B) : MFrame w vb vl vr B :=
  ⟨(hb.block _ (by have := h.size; omega)).trans h.b, (hb.block _ (by have := h.size; omega)).trans h.l, (hb.block _ (by have := h.size; omega)).trans h.r, (hb.block _ (by have := h.size; omega)).trans h.res, Nat.le_trans h.size hb.size, h.below.trans (hb.mono (by have := h.size; omega))⟩
theorem mframe_start (w : World) (vb vl vr : Array Value) : ∃ W, (((w.alloc (.cells vb 24)).alloc (.cells vl 24)).alloc (.cells vr 24)).alloc (.cells zeroE 24) = W ∧ MFrame w vb vl vr W ∧ W.heap.size = w.heap.size + 1 + 1 + 1 + 1 := by
  refine ⟨_, rfl, ⟨?_, ?_, ?_, ?_, by simp, ((((Below.refl _ w).alloc (Nat.le_refl _) _).alloc (by simp) _).alloc (by simp; omega) _).alloc (by simp; omega) _⟩, by simp⟩
  · exact (Below.heap_alloc _ _ _ (by simp <;> omega)).trans ((Below.heap_alloc _ _ _ (by simp <;> omega)).trans ((Below.heap_alloc _ _ _ (by simp)).trans (World.alloc_heap_new w _)))
  · have := World.alloc_heap_new (w.alloc (.cells vb 24)) (.cells vl 24)
    simp only [World.size_alloc] at this
    exact (Below.heap_alloc _ _ _ (by simp <;> omega)).trans ((Below.heap_alloc _ _ _ (by simp)).trans this)
  · have := World.alloc_heap_new ((w.alloc (.cells vb 24)).alloc (.cells vl 24)) (.cells vr 24)
    simp only [World.size_alloc] at this
    exact (Below.heap_alloc _ _ _ (by simp)).trans this
  · have := World.alloc_heap_new (((w.alloc (.cells vb 24)).alloc (.cells vl 24)).alloc (.cells vr 24)) (.cells zeroE 24)
    simp only [World.size_alloc] at this
    exact this
theorem below6 {w A : World} {B : Nat} (h : Below B w A) {g : Nat} (hg : B ≤ g) (c0 c1 c2 c3 c4 c5 : Value) :
    Below B w ((((((A.setCell ⟨g, 0, none⟩ c0).setCell ⟨g, 1, none⟩ c1).setCell ⟨g, 2, none⟩ c2).setCell ⟨g, 3, none⟩ c3).setCell ⟨g, 4, none⟩ c4).setCell ⟨g, 5, none⟩ c5) :=
  (((((h.setCell (p := ⟨g, 0, none⟩) hg _).setCell (p := ⟨g, 1, none⟩) hg _).setCell (p := ⟨g, 2, none⟩) hg _).setCell (p := ⟨g, 3, none⟩) hg _).setCell (p := ⟨g, 4, none⟩) hg _).setCell (p := ⟨g, 5, none⟩) hg _
abbrev ev (k : Int) (nm mr : ByteArray) (it d : Int) (p : Option Addr) (n cap : Nat) : Array Value := #[.int .i64 k, .string nm, .string mr, .int .i64 it, .int .i64 d, .slice p n cap]
set_option maxRecDepth 100000 in
set_option maxHeartbeats 2000000 in
theorem mmerge_left1 (kb : Int) (nb mb : ByteArray) (ib db : Int) (sb : List Ex) (pb : Option Addr) (cb : Nat) (kl : Int) (nl ml : ByteArray) (il dl : Int) (sl : List Ex) (pl : Option Addr) (cl : Nat) (kr : Int) (nr mr : ByteArray) (ir dr : Int) (sr : List Ex) (pr : Option Addr) (cr : Nat) (P : Nat → Prop) (w : World)
    (hP : ∀ b, P b → b < w.heap.size) (hml : nodesL sl ≤ 1048576) (_hB : SubP w P sb (.slice pb sb.length cb)) (hL : SubP w P sl (.slice pl sl.length cl)) (hR : SubP w P sr (.slice pr sr.length cr))
    (hs : sameE (.mk kl nl ml il dl sl) (.mk kr nr mr ir dr sr) = true) :
    Calls Tryd.prog 30 #[.agg (ev kb nb mb ib db pb sb.length cb), .agg (ev kl nl ml il dl pl sl.length cl), .agg (ev kr nr mr ir dr pr sr.length cr)] w (RetEx P w (.mk kl nl ml il dl sl)) := by
  obtain ⟨W, hW, hF, hz⟩ := mframe_start w (ev kb nb mb ib db pb sb.length cb) (ev kl nl ml il dl pl sl.length cl) (ev kr nr mr ir dr pr sr.length cr)
  have HW := Lib.hid hW
  have HP := Lib.hid hP
  have HL := Lib.hid hL
  have HQ := Lib.hid (mequal_any (nodesL sl + 1) kl nl ml il dl sl (.slice pl sl.length cl) kr nr mr ir dr sr (.slice pr sr.length cr) W (by omega) (by omega) (subAt_below (subAt_of hP hL) hF.below hF.below.size) (subAt_below (subAt_of hP hR) hF.below hF.below.size))
  rw [hs] at HQ
  have HF := Lib.hid hF
  clear hW hP hL hR hs hF
  go_enter Tryd.func30, Tryd.ntmps30
  go_wp2_with fail
  rw [HW.out]
  refine (HQ.out).mono ?_
  rintro e W1 ⟨rfl, hb1⟩
  have hF1 := HF.out.kept hb1
  obtain ⟨l0, l1, l2, l3, l4, l5⟩ := cells6 hF1.l
  obtain ⟨z0, z1, z2, z3, z4, z5⟩ := cells6 hF1.res
  obtain ⟨f0, f1, f2, f3, f4, f5⟩ := free6 hF1.res
  have HF1 := Lib.hid hF1
  clear hF1
  go_wp2_with fail
  have hbz := below6 HF1.out.below (g := w.heap.size + 1 + 1 + 1) (by omega) (.int .i64 kl) (.string nl) (.string ml) (.int .i64 il) (.int .i64 dl) (.slice pl sl.length cl)
  refine bodyPost_ret (v := .agg (ev kl nl ml il dl pl sl.length cl)) (by simp [results, Tryd.results30, go_sem, z0, z1, z2, z3, z4, z5]) rfl ⟨_, rfl, exP_iff.2 ⟨_, rfl, subP_stay (fun _ h => .inl h) (stay_below hbz HP.out) HL.out⟩, hbz⟩
end Go.Proofs.YtiagjpiclnmpkaaDoor
