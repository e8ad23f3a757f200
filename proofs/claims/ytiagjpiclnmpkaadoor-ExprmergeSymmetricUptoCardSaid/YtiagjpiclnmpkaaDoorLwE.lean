/- ExprmergeUnchanged: the plain law and the walk. -/
import Derived.Test.YtiagjpiclnmpkaaDoorLaw32
namespace Go.Proofs.YtiagjpiclnmpkaaDoor
open Go.RowKit

theorem mergeE_left (b x : Ex) : mergeE b b x = x := by
  rw [mergeE_eq]
  by_cases h : b = x
  · subst h; simp [sameE_refl]
  · have h1 : sameE b x = false := sameE_false h
    have h2 : sameE x b = false := sameE_false (fun e => h e.symm)
    simp [h1, h2, sameE_refl]
theorem mergeE_right (b x : Ex) : mergeE b x b = x := by rw [mergeE_eq]; simp [sameE_refl]
theorem mergeE_both (b x : Ex) : mergeE b x x = x := by rw [mergeE_eq]; simp [sameE_refl]
theorem mergeX_ok {b l r m : Ex} (hb : checkX b = 0) (hl : checkX l = 0) (hr : checkX r = 0) (hm : checkX m = 0) (h : mergeE b l r = m) : mergeX b l r = (m, 0) := by
  unfold mergeX
  rw [h]
  simp [hb, hl, hr, hm]
theorem f2_start {w : World} {b l : Ex} {xb xl : XV} (hb : XAt w b xb) (hl : XAt w l xl) :
    ∃ W, ((w.alloc (.cells xb.arr 24)).alloc (.cells xl.arr 24)).alloc (.cells #[.int .i64 xb.k, .string xb.n, .string xb.m, .int .i64 xb.i, .int .i64 xb.d, .slice xb.p xb.q xb.c, .int .i64 xl.k, .string xl.n, .string xl.m, .int .i64 xl.i, .int .i64 xl.d, .slice xl.p xl.q xl.c] 24) = W ∧ Below w.heap.size w W ∧ Bx W w.heap.size xb ∧ Bx W (w.heap.size + 1) xl ∧ XAt W b xb ∧ XAt W l xl ∧ SubAt W W.heap.size [b, l] (.slice (some ⟨w.heap.size + 1 + 1, 0, none⟩) 2 2) := by
  refine ⟨_, rfl, ?_⟩
  obtain ⟨o, ho⟩ : ∃ o, Obj.cells #[.int .i64 xb.k, .string xb.n, .string xb.m, .int .i64 xb.i, .int .i64 xb.d, .slice xb.p xb.q xb.c, .int .i64 xl.k, .string xl.n, .string xl.m, .int .i64 xl.i, .int .i64 xl.d, .slice xl.p xl.q xl.c] 24 = o := ⟨_, rfl⟩
  rw [ho]
  obtain ⟨W, hW⟩ : ∃ W, ((w.alloc (.cells xb.arr 24)).alloc (.cells xl.arr 24)).alloc o = W := ⟨_, rfl⟩
  have q1 := ((Bx.new w xb).alloc (.cells xl.arr 24)).alloc o
  have q2 := (Bx.new (w.alloc (.cells xb.arr 24)) xl).alloc o
  have q4 := World.alloc_heap_new ((w.alloc (.cells xb.arr 24)).alloc (.cells xl.arr 24)) o
  have hbW : Below w.heap.size w W := by rw [← hW]; exact (((Below.refl _ _).alloc (Nat.le_refl _) _).alloc (by simp) _).alloc (by simp; omega) _
  simp only [World.size_alloc] at q2 q4
  rw [hW] at q1 q2 q4 ⊢
  rw [← ho] at q4
  exact ⟨hbW, q1, q2, hb.kept hbW, hl.kept hbW, two_sub (hb.kept hbW) (hl.kept hbW) q4⟩
set_option maxRecDepth 100000 in
set_option maxHeartbeats 4000000 in
theorem lawUnchanged_x {b x : Ex} {xb xl : XV} {w : World} (hb : XAt w b xb) (hl : XAt w x xl) (hsz : nodesE b + nodesE x ≤ 1048576) :
    Calls Tryd.prog 4 #[.agg xb.arr, .agg xl.arr] w fun e w' => e = .returned (.bool true) ∧ Below w.heap.size w w' := by
  obtain ⟨W, hW, hE, hB0, hB1, hX0, hX1, hS⟩ := f2_start hb hl
  have HG := Lib.hid (great_x hS (by simp only [nodesL]; omega))
  have HW := Lib.hid hW
  have HE := Lib.hid hE
  have HB0 := Lib.hid hB0
  have HB1 := Lib.hid hB1
  have HX0 := Lib.hid hX0
  have HX1 := Lib.hid hX1
  clear hW hE hB0 hB1 hX0 hX1 hS hb hl
  obtain ⟨g, hg⟩ : ∃ g, anyE greatE [b, x] = g := ⟨_, rfl⟩
  rw [hg] at HG
  have HGG := Lib.hid hg
  clear hg
  obtain ⟨c0, hc0⟩ : ∃ c, checkX b = c := ⟨_, rfl⟩
  obtain ⟨c1, hc1⟩ : ∃ c, checkX x = c := ⟨_, rfl⟩
  have HC0 := Lib.hid hc0
  have HC1 := Lib.hid hc1
  clear hc0 hc1
  go_enter Tryd.func4, Tryd.ntmps4
  go_wp2_with fail
  rw [HW.out]
  refine (HG.out).mono ?_
  rintro e V0 ⟨rfl, h0⟩
  have C0_0 := Lib.hid (HB0.out.kept h0)
  have z0_0 : w.heap.size < V0.heap.size := C0_0.out.lt
  have X0_0 := Lib.hid (HX0.out.kept h0)
  have C0_1 := Lib.hid (HB1.out.kept h0)
  have z0_1 : w.heap.size + 1 < V0.heap.size := C0_1.out.lt
  have X0_1 := Lib.hid (HX1.out.kept h0)
  have E0 : Hid (Below w.heap.size w V0) := Lib.hid (HE.out.trans (h0.mono HE.out.size))
  clear h0
  cases g with
  | true =>
    go_wp2_with fail
    refine (awake_x _).mono ?_
    rintro e Z ⟨rfl, hz⟩
    go_wp2_with fail
    go_ret
    exact ⟨rfl, E0.out.trans (hz.mono E0.out.size)⟩
  | false =>
    have hn0 := greatE_nodes (anyE_mem HGG.out b (by simp))
    have hn1 := greatE_nodes (anyE_mem HGG.out x (by simp))
    obtain ⟨y1_0_0, y1_0_1, y1_0_2, y1_0_3, y1_0_4, y1_0_5⟩ := C0_0.out.cells
    have K1 := Lib.hid (rCheckExpr_x X0_0.out (by omega))
    rw [HC0.out] at K1
    go_wp2_with fail
    refine (K1.out).mono ?_
    rintro e V1 ⟨rfl, h1⟩
    clear y1_0_0 y1_0_1 y1_0_2 y1_0_3 y1_0_4 y1_0_5
    have C1_0 := Lib.hid (C0_0.out.kept h1)
    have z1_0 : w.heap.size < V1.heap.size := C1_0.out.lt
    have X1_0 := Lib.hid (X0_0.out.kept h1)
    have C1_1 := Lib.hid (C0_1.out.kept h1)
    have z1_1 : w.heap.size + 1 < V1.heap.size := C1_1.out.lt
    have X1_1 := Lib.hid (X0_1.out.kept h1)
    have E1 : Hid (Below w.heap.size w V1) := Lib.hid (E0.out.trans (h1.mono E0.out.size))
    clear h1
    by_cases k0 : c0 = 0
    rotate_left
    · go_wp2_with fail
      refine (awake_x _).mono ?_
      rintro e Z ⟨rfl, hz⟩
      go_wp2_with fail
      go_ret
      exact ⟨rfl, E1.out.trans (hz.mono E1.out.size)⟩
    subst k0
    obtain ⟨y2_1_0, y2_1_1, y2_1_2, y2_1_3, y2_1_4, y2_1_5⟩ := C1_1.out.cells
    have K2 := Lib.hid (rCheckExpr_x X1_1.out (by omega))
    rw [HC1.out] at K2
    go_wp2_with fail
    refine (K2.out).mono ?_
    rintro e V2 ⟨rfl, h2⟩
    clear y2_1_0 y2_1_1 y2_1_2 y2_1_3 y2_1_4 y2_1_5
    have C2_0 := Lib.hid (C1_0.out.kept h2)
    have z2_0 : w.heap.size < V2.heap.size := C2_0.out.lt
    have X2_0 := Lib.hid (X1_0.out.kept h2)
    have C2_1 := Lib.hid (C1_1.out.kept h2)
    have z2_1 : w.heap.size + 1 < V2.heap.size := C2_1.out.lt
    have X2_1 := Lib.hid (X1_1.out.kept h2)
    have E2 : Hid (Below w.heap.size w V2) := Lib.hid (E1.out.trans (h2.mono E1.out.size))
    clear h2
    by_cases k1 : c1 = 0
    rotate_left
    · go_wp2_with fail
      refine (awake_x _).mono ?_
      rintro e Z ⟨rfl, hz⟩
      go_wp2_with fail
      go_ret
      exact ⟨rfl, E2.out.trans (hz.mono E2.out.size)⟩
    subst k1
    obtain ⟨y3_0_0, y3_0_1, y3_0_2, y3_0_3, y3_0_4, y3_0_5⟩ := C2_0.out.cells
    obtain ⟨y3_1_0, y3_1_1, y3_1_2, y3_1_3, y3_1_4, y3_1_5⟩ := C2_1.out.cells
    have K3 := Lib.hid (mMerge_x X2_0.out X2_0.out X2_1.out (by omega))
    rw [mergeX_ok HC0.out HC0.out HC1.out HC1.out (mergeE_left _ _)] at K3
    go_wp2_with fail
    refine (K3.out).mono ?_
    rintro e V3 ⟨x3, rfl, g3, h3⟩
    clear y3_0_0 y3_0_1 y3_0_2 y3_0_3 y3_0_4 y3_0_5 y3_1_0 y3_1_1 y3_1_2 y3_1_3 y3_1_4 y3_1_5
    have C3_0 := Lib.hid (C2_0.out.kept h3)
    have z3_0 : w.heap.size < V3.heap.size := C3_0.out.lt
    have B3_0 := Lib.hid (C3_0.out.alloc (.cells x3.arr 24))
    have X3_0 := Lib.hid ((X2_0.out.kept h3).alloc (.cells x3.arr 24))
    have C3_1 := Lib.hid (C2_1.out.kept h3)
    have z3_1 : w.heap.size + 1 < V3.heap.size := C3_1.out.lt
    have B3_1 := Lib.hid (C3_1.out.alloc (.cells x3.arr 24))
    have X3_1 := Lib.hid ((X2_1.out.kept h3).alloc (.cells x3.arr 24))
    have E3 : Hid (Below w.heap.size w (V3.alloc (.cells x3.arr 24))) := Lib.hid ((E2.out.trans (h3.mono E2.out.size)).alloc (E2.out.trans (h3.mono E2.out.size)).size _)
    have B3_n := Lib.hid (Bx.new V3 x3)
    have X3_n : Hid (XAt (V3.alloc (.cells x3.arr 24)) x x3) := Lib.hid (g3.alloc (.cells x3.arr 24))
    clear g3
    clear h3
    obtain ⟨y4_0_0, y4_0_1, y4_0_2, y4_0_3, y4_0_4, y4_0_5⟩ := C3_0.out.cells
    obtain ⟨y4_1_0, y4_1_1, y4_1_2, y4_1_3, y4_1_4, y4_1_5⟩ := C3_1.out.cells
    have K4 := Lib.hid (mMerge_x X3_0.out X3_1.out X3_0.out (by omega))
    rw [mergeX_ok HC0.out HC1.out HC0.out HC1.out (mergeE_right _ _)] at K4
    go_wp2_with fail
    refine (K4.out).mono ?_
    rintro e V4 ⟨x4, rfl, g4, h4⟩
    clear y4_0_0 y4_0_1 y4_0_2 y4_0_3 y4_0_4 y4_0_5 y4_1_0 y4_1_1 y4_1_2 y4_1_3 y4_1_4 y4_1_5
    have C4_0 := Lib.hid (B3_0.out.kept h4)
    have z4_0 : w.heap.size < V4.heap.size := C4_0.out.lt
    have B4_0 := Lib.hid (C4_0.out.alloc (.cells x4.arr 24))
    have X4_0 := Lib.hid ((X3_0.out.kept h4).alloc (.cells x4.arr 24))
    have C4_1 := Lib.hid (B3_1.out.kept h4)
    have z4_1 : w.heap.size + 1 < V4.heap.size := C4_1.out.lt
    have B4_1 := Lib.hid (C4_1.out.alloc (.cells x4.arr 24))
    have X4_1 := Lib.hid ((X3_1.out.kept h4).alloc (.cells x4.arr 24))
    have C4_2 := Lib.hid (B3_n.out.kept h4)
    have z4_2 : V3.heap.size < V4.heap.size := C4_2.out.lt
    have B4_2 := Lib.hid (C4_2.out.alloc (.cells x4.arr 24))
    have X4_2 := Lib.hid ((X3_n.out.kept h4).alloc (.cells x4.arr 24))
    have E4 : Hid (Below w.heap.size w (V4.alloc (.cells x4.arr 24))) := Lib.hid ((E3.out.trans (h4.mono E3.out.size)).alloc (E3.out.trans (h4.mono E3.out.size)).size _)
    have B4_n := Lib.hid (Bx.new V4 x4)
    have X4_n : Hid (XAt (V4.alloc (.cells x4.arr 24)) x x4) := Lib.hid (g4.alloc (.cells x4.arr 24))
    clear g4
    clear h4
    obtain ⟨y5_0_0, y5_0_1, y5_0_2, y5_0_3, y5_0_4, y5_0_5⟩ := C4_0.out.cells
    obtain ⟨y5_1_0, y5_1_1, y5_1_2, y5_1_3, y5_1_4, y5_1_5⟩ := C4_1.out.cells
    have K5 := Lib.hid (mMerge_x X4_0.out X4_1.out X4_1.out (by omega))
    rw [mergeX_ok HC0.out HC1.out HC1.out HC1.out (mergeE_both _ _)] at K5
    go_wp2_with fail
    refine (K5.out).mono ?_
    rintro e V5 ⟨x5, rfl, g5, h5⟩
    clear y5_0_0 y5_0_1 y5_0_2 y5_0_3 y5_0_4 y5_0_5 y5_1_0 y5_1_1 y5_1_2 y5_1_3 y5_1_4 y5_1_5
    have C5_0 := Lib.hid (B4_0.out.kept h5)
    have z5_0 : w.heap.size < V5.heap.size := C5_0.out.lt
    have B5_0 := Lib.hid (C5_0.out.alloc (.cells x5.arr 24))
    have X5_0 := Lib.hid ((X4_0.out.kept h5).alloc (.cells x5.arr 24))
    have C5_1 := Lib.hid (B4_1.out.kept h5)
    have z5_1 : w.heap.size + 1 < V5.heap.size := C5_1.out.lt
    have B5_1 := Lib.hid (C5_1.out.alloc (.cells x5.arr 24))
    have X5_1 := Lib.hid ((X4_1.out.kept h5).alloc (.cells x5.arr 24))
    have C5_2 := Lib.hid (B4_2.out.kept h5)
    have z5_2 : V3.heap.size < V5.heap.size := C5_2.out.lt
    have B5_2 := Lib.hid (C5_2.out.alloc (.cells x5.arr 24))
    have X5_2 := Lib.hid ((X4_2.out.kept h5).alloc (.cells x5.arr 24))
    have C5_3 := Lib.hid (B4_n.out.kept h5)
    have z5_3 : V4.heap.size < V5.heap.size := C5_3.out.lt
    have B5_3 := Lib.hid (C5_3.out.alloc (.cells x5.arr 24))
    have X5_3 := Lib.hid ((X4_n.out.kept h5).alloc (.cells x5.arr 24))
    have E5 : Hid (Below w.heap.size w (V5.alloc (.cells x5.arr 24))) := Lib.hid ((E4.out.trans (h5.mono E4.out.size)).alloc (E4.out.trans (h5.mono E4.out.size)).size _)
    have B5_n := Lib.hid (Bx.new V5 x5)
    have X5_n : Hid (XAt (V5.alloc (.cells x5.arr 24)) x x5) := Lib.hid (g5.alloc (.cells x5.arr 24))
    clear g5
    clear h5
    obtain ⟨y6_1_0, y6_1_1, y6_1_2, y6_1_3, y6_1_4, y6_1_5⟩ := C5_1.out.cells
    obtain ⟨y6_2_0, y6_2_1, y6_2_2, y6_2_3, y6_2_4, y6_2_5⟩ := C5_2.out.cells
    have K6 := Lib.hid (rSame_x X5_2.out X5_1.out (by omega))
    rw [sameE_refl] at K6
    go_wp2_with fail
    refine (K6.out).mono ?_
    rintro e V6 ⟨rfl, h6⟩
    clear y6_1_0 y6_1_1 y6_1_2 y6_1_3 y6_1_4 y6_1_5 y6_2_0 y6_2_1 y6_2_2 y6_2_3 y6_2_4 y6_2_5
    have C6_0 := Lib.hid (B5_0.out.kept h6)
    have z6_0 : w.heap.size < V6.heap.size := C6_0.out.lt
    have X6_0 := Lib.hid (X5_0.out.kept h6)
    have C6_1 := Lib.hid (B5_1.out.kept h6)
    have z6_1 : w.heap.size + 1 < V6.heap.size := C6_1.out.lt
    have X6_1 := Lib.hid (X5_1.out.kept h6)
    have C6_2 := Lib.hid (B5_2.out.kept h6)
    have z6_2 : V3.heap.size < V6.heap.size := C6_2.out.lt
    have X6_2 := Lib.hid (X5_2.out.kept h6)
    have C6_3 := Lib.hid (B5_3.out.kept h6)
    have z6_3 : V4.heap.size < V6.heap.size := C6_3.out.lt
    have X6_3 := Lib.hid (X5_3.out.kept h6)
    have C6_4 := Lib.hid (B5_n.out.kept h6)
    have z6_4 : V5.heap.size < V6.heap.size := C6_4.out.lt
    have X6_4 := Lib.hid (X5_n.out.kept h6)
    have E6 : Hid (Below w.heap.size w V6) := Lib.hid (E5.out.trans (h6.mono E5.out.size))
    clear h6
    obtain ⟨y7_1_0, y7_1_1, y7_1_2, y7_1_3, y7_1_4, y7_1_5⟩ := C6_1.out.cells
    obtain ⟨y7_3_0, y7_3_1, y7_3_2, y7_3_3, y7_3_4, y7_3_5⟩ := C6_3.out.cells
    have K7 := Lib.hid (rSame_x X6_3.out X6_1.out (by omega))
    rw [sameE_refl] at K7
    go_wp2_with fail
    refine (K7.out).mono ?_
    rintro e V7 ⟨rfl, h7⟩
    clear y7_1_0 y7_1_1 y7_1_2 y7_1_3 y7_1_4 y7_1_5 y7_3_0 y7_3_1 y7_3_2 y7_3_3 y7_3_4 y7_3_5
    have C7_0 := Lib.hid (C6_0.out.kept h7)
    have z7_0 : w.heap.size < V7.heap.size := C7_0.out.lt
    have X7_0 := Lib.hid (X6_0.out.kept h7)
    have C7_1 := Lib.hid (C6_1.out.kept h7)
    have z7_1 : w.heap.size + 1 < V7.heap.size := C7_1.out.lt
    have X7_1 := Lib.hid (X6_1.out.kept h7)
    have C7_2 := Lib.hid (C6_2.out.kept h7)
    have z7_2 : V3.heap.size < V7.heap.size := C7_2.out.lt
    have X7_2 := Lib.hid (X6_2.out.kept h7)
    have C7_3 := Lib.hid (C6_3.out.kept h7)
    have z7_3 : V4.heap.size < V7.heap.size := C7_3.out.lt
    have X7_3 := Lib.hid (X6_3.out.kept h7)
    have C7_4 := Lib.hid (C6_4.out.kept h7)
    have z7_4 : V5.heap.size < V7.heap.size := C7_4.out.lt
    have X7_4 := Lib.hid (X6_4.out.kept h7)
    have E7 : Hid (Below w.heap.size w V7) := Lib.hid (E6.out.trans (h7.mono E6.out.size))
    clear h7
    obtain ⟨y8_1_0, y8_1_1, y8_1_2, y8_1_3, y8_1_4, y8_1_5⟩ := C7_1.out.cells
    obtain ⟨y8_4_0, y8_4_1, y8_4_2, y8_4_3, y8_4_4, y8_4_5⟩ := C7_4.out.cells
    have K8 := Lib.hid (rSame_x X7_4.out X7_1.out (by omega))
    rw [sameE_refl] at K8
    go_wp2_with fail
    refine (K8.out).mono ?_
    rintro e V8 ⟨rfl, h8⟩
    clear y8_1_0 y8_1_1 y8_1_2 y8_1_3 y8_1_4 y8_1_5 y8_4_0 y8_4_1 y8_4_2 y8_4_3 y8_4_4 y8_4_5
    have C8_0 := Lib.hid (C7_0.out.kept h8)
    have z8_0 : w.heap.size < V8.heap.size := C8_0.out.lt
    have X8_0 := Lib.hid (X7_0.out.kept h8)
    have C8_1 := Lib.hid (C7_1.out.kept h8)
    have z8_1 : w.heap.size + 1 < V8.heap.size := C8_1.out.lt
    have X8_1 := Lib.hid (X7_1.out.kept h8)
    have C8_2 := Lib.hid (C7_2.out.kept h8)
    have z8_2 : V3.heap.size < V8.heap.size := C8_2.out.lt
    have X8_2 := Lib.hid (X7_2.out.kept h8)
    have C8_3 := Lib.hid (C7_3.out.kept h8)
    have z8_3 : V4.heap.size < V8.heap.size := C8_3.out.lt
    have X8_3 := Lib.hid (X7_3.out.kept h8)
    have C8_4 := Lib.hid (C7_4.out.kept h8)
    have z8_4 : V5.heap.size < V8.heap.size := C8_4.out.lt
    have X8_4 := Lib.hid (X7_4.out.kept h8)
    have E8 : Hid (Below w.heap.size w V8) := Lib.hid (E7.out.trans (h8.mono E7.out.size))
    clear h8
    go_wp2_with fail
    refine (awake_x _).mono ?_
    rintro e Z ⟨rfl, hz⟩
    go_wp2_with fail
    go_ret
    exact ⟨rfl, E8.out.trans (hz.mono E8.out.size)⟩
end Go.Proofs.YtiagjpiclnmpkaaDoor
