/- merge of exprmerge: its ways. -/
import Derived.Test.YtiagjpiclnmpkaaDoorExT
import Derived.Test.YtiagjpiclnmpkaaDoorCopyN
import Derived.StillTailTactics
namespace Go.Proofs.YtiagjpiclnmpkaaDoor
open Go.RowKit Go.ChangeShapes Go.WideShapes

abbrev zero18 : Array Value := #[.int .i64 0, .string ⟨#[]⟩, .string ⟨#[]⟩, .int .i64 0, .int .i64 0, .slice none 0 0, .int .i64 0, .string ⟨#[]⟩, .string ⟨#[]⟩, .int .i64 0, .int .i64 0, .slice none 0 0, .int .i64 0, .string ⟨#[]⟩, .string ⟨#[]⟩, .int .i64 0, .int .i64 0, .slice none 0 0]
theorem mk3 (W : World) : (Instr.makeSlice 22 (.int .i64 3) (.int .i64 3)).run Tryd.prog W = .ok (.slice (some ⟨W.heap.size, 0, none⟩) 3 3) (W.alloc (.cells zero18 24)) := by kernel_rfl
theorem infoExprSz : (Tryd.prog.info? 24).map (·.size) = some 6 := by kernel_rfl
theorem new_first (W : World) (A B : Array Value) (T : TypeId) : ((W.alloc (.cells A T)).alloc (.cells B T)).heap[W.heap.size]? = some (.cells A T (0, 0)) := (Below.heap_alloc _ _ _ (by simp)).trans (World.alloc_heap_new W _)
theorem new_second (W : World) (A : Array Value) (T : TypeId) {B : List Value} : ∀ j v, B[j]? = some v → ((W.alloc (.cells A T)).alloc (.cells B.toArray T)).cell? ((⟨W.heap.size + 1, 0, none⟩ : Addr).add j) = some v := by
  intro j v h
  have h1 := World.alloc_heap_new (W.alloc (.cells A T)) (.cells B.toArray T)
  simp only [World.size_alloc] at h1
  rw [Go.WideShapes.add_plain]
  simp only [World.cell?, h1]
  simpa using h
theorem one18 {kl : Int} {nl ml : ByteArray} {il dl : Int} {pl : Option Addr} {ql cl : Nat} {kb : Int} {nb mb : ByteArray} {ib db : Int} {pb : Option Addr} {qb cb : Nat} {kr : Int} {nr mr : ByteArray} {ir dr : Int} {pr : Option Addr} {qr cr : Nat} :
    ∀ v ∈ [Value.int .i64 kl, .string nl, .string ml, .int .i64 il, .int .i64 dl, .slice pl ql cl, .int .i64 kb, .string nb, .string mb, .int .i64 ib, .int .i64 db, .slice pb qb cb, .int .i64 kr, .string nr, .string mr, .int .i64 ir, .int .i64 dr, .slice pr qr cr], v.oneCell' = true := by
  simp [Value.oneCell']
theorem stay6 {A : World} {g : Nat} (c0 c1 c2 c3 c4 c5 : Value) (b off : Nat) (h : b ≠ g) :
    ((((((A.setCell ⟨g, 0, none⟩ c0).setCell ⟨g, 1, none⟩ c1).setCell ⟨g, 2, none⟩ c2).setCell ⟨g, 3, none⟩ c3).setCell ⟨g, 4, none⟩ c4).setCell ⟨g, 5, none⟩ c5).cell? ⟨b, off, none⟩ = A.cell? ⟨b, off, none⟩ := by
  refine World.cell?_of_block ?_
  exact (Below.heap_setCell _ _ _ _ h).trans ((Below.heap_setCell _ _ _ _ h).trans ((Below.heap_setCell _ _ _ _ h).trans ((Below.heap_setCell _ _ _ _ h).trans ((Below.heap_setCell _ _ _ _ h).trans (Below.heap_setCell _ _ _ _ h)))))
theorem size6 {A : World} {g : Nat} (P : Nat → Prop) (w : World) (c0 c1 c2 c3 c4 c5 : Value) (b : Nat) :
    NewP P w ((((((A.setCell ⟨g, 0, none⟩ c0).setCell ⟨g, 1, none⟩ c1).setCell ⟨g, 2, none⟩ c2).setCell ⟨g, 3, none⟩ c3).setCell ⟨g, 4, none⟩ c4).setCell ⟨g, 5, none⟩ c5) b = (P b ∨ (w.heap.size ≤ b ∧ b < A.heap.size)) := by
  simp [NewP, World.setCell]
abbrev src18 (kl : Int) (nl ml : ByteArray) (il dl : Int) (pl : Option Addr) (ql cl : Nat) (kb : Int) (nb mb : ByteArray) (ib db : Int) (pb : Option Addr) (qb cb : Nat) (kr : Int) (nr mr : ByteArray) (ir dr : Int) (pr : Option Addr) (qr cr : Nat) : List Value :=
  [.int .i64 kl, .string nl, .string ml, .int .i64 il, .int .i64 dl, .slice pl ql cl, .int .i64 kb, .string nb, .string mb, .int .i64 ib, .int .i64 db, .slice pb qb cb, .int .i64 kr, .string nr, .string mr, .int .i64 ir, .int .i64 dr, .slice pr qr cr]
/-- a conflict's three parts in a row of their own -/
theorem sum_sub {W : World} {Q : Nat → Prop} {g : Nat} {kl : Int} {nl ml : ByteArray} {il dl : Int} {sl : List Ex} {pl : Option Addr} {cl : Nat} {kb : Int} {nb mb : ByteArray} {ib db : Int} {sb : List Ex} {pb : Option Addr} {cb : Nat} {kr : Int} {nr mr : ByteArray} {ir dr : Int} {sr : List Ex} {pr : Option Addr} {cr : Nat}
    (hQ : Q g) (hc : ∀ j v, (src18 kl nl ml il dl pl sl.length cl kb nb mb ib db pb sb.length cb kr nr mr ir dr pr sr.length cr)[j]? = some v → W.cell? ⟨g, j, none⟩ = some v)
    (hL : SubP W Q sl (.slice pl sl.length cl)) (hB : SubP W Q sb (.slice pb sb.length cb)) (hR : SubP W Q sr (.slice pr sr.length cr)) :
    SubP W Q [.mk kl nl ml il dl sl, .mk kb nb mb ib db sb, .mk kr nr mr ir dr sr] (.slice (some ⟨g, 0, none⟩) 3 3) :=
  ⟨_, 3, rfl, Nat.le_refl _, fun _ => ⟨g, 0, rfl, hQ, rowP_cons.2 ⟨⟨_, hc 0 _ rfl, hc 1 _ rfl, hc 2 _ rfl, hc 3 _ rfl, hc 4 _ rfl, hc 5 _ rfl, hL⟩, rowP_cons.2 ⟨⟨_, hc 6 _ rfl, hc 7 _ rfl, hc 8 _ rfl, hc 9 _ rfl, hc 10 _ rfl, hc 11 _ rfl, hB⟩, rowP_cons.2 ⟨⟨_, hc 12 _ rfl, hc 13 _ rfl, hc 14 _ rfl, hc 15 _ rfl, hc 16 _ rfl, hc 17 _ rfl, hR⟩, rowP_nil⟩⟩⟩⟩⟩
theorem copy3 (W : World) {kl : Int} {nl ml : ByteArray} {il dl : Int} {pl : Option Addr} {ql cl : Nat} {kb : Int} {nb mb : ByteArray} {ib db : Int} {pb : Option Addr} {qb cb : Nat} {kr : Int} {nr mr : ByteArray} {ir dr : Int} {pr : Option Addr} {qr cr : Nat} :
    ∃ W9, (Builtin.copy_ #[22, 22] 3 #[.slice (some ⟨W.heap.size, 0, none⟩) 3 3, .slice (some ⟨W.heap.size + 1, 0, none⟩) 3 3]).run Tryd.prog ((W.alloc (.cells zero18 24)).alloc (.cells #[.int .i64 kl, .string nl, .string ml, .int .i64 il, .int .i64 dl, .slice pl ql cl, .int .i64 kb, .string nb, .string mb, .int .i64 ib, .int .i64 db, .slice pb qb cb, .int .i64 kr, .string nr, .string mr, .int .i64 ir, .int .i64 dr, .slice pr qr cr] 24)) = .ok (.int .i64 3) W9 ∧
      W9.heap[W.heap.size]? = some (.cells #[.int .i64 kl, .string nl, .string ml, .int .i64 il, .int .i64 dl, .slice pl ql cl, .int .i64 kb, .string nb, .string mb, .int .i64 ib, .int .i64 db, .slice pb qb cb, .int .i64 kr, .string nr, .string mr, .int .i64 ir, .int .i64 dr, .slice pr qr cr] 24 (0, 0)) ∧ Below W.heap.size W W9 := by
  have hg := new_first W zero18 (src18 kl nl ml il dl pl ql cl kb nb mb ib db pb qb cb kr nr mr ir dr pr qr cr).toArray 24
  have h := run_copy_rowN (P := Tryd.prog) ((W.alloc (.cells zero18 24)).alloc (.cells (src18 kl nl ml il dl pl ql cl kb nb mb ib db pb qb cb kr nr mr ir dr pr qr cr).toArray 24)) 22 22 3 24 W.heap.size 0 3 3 ⟨W.heap.size + 1, 0, none⟩ 3 3 zero18 24 (src18 kl nl ml il dl pl ql cl kb nb mb ib db pb qb cb kr nr mr ir dr pr qr cr) 6 3 Tryd.underlying22 infoExprSz hg rfl rfl (new_second _ _ _) (by show 18 ≤ 18; omega) one18
  refine ⟨_, h, ?_, below_setRow (((Below.refl _ _).alloc (Nat.le_refl _) _).alloc (by simp) _) (Nat.le_refl _) _⟩
  have hlt := (Array.getElem?_eq_some_iff.1 hg).1
  have hbk := (Array.getElem?_eq_some_iff.1 hg).2
  simp only [World.setRow]
  rw [Array.getElem?_modify]
  simp only [hg]
  rfl
set_option maxRecDepth 100000 in
set_option maxHeartbeats 4000000 in
theorem mmerge_1 (kb : Int) (nb mb : ByteArray) (ib db : Int) (sb : List Ex) (pb : Option Addr) (cb : Nat) (kl : Int) (nl ml : ByteArray) (il dl : Int) (sl : List Ex) (pl : Option Addr) (cl : Nat) (kr : Int) (nr mr : ByteArray) (ir dr : Int) (sr : List Ex) (pr : Option Addr) (cr : Nat) (P : Nat → Prop) (w : World)
    (hP : ∀ b, P b → b < w.heap.size) (_hmb : nodesL sb ≤ 1048576) (hml : nodesL sl ≤ 1048576) (_hmr : nodesL sr ≤ 1048576) (hB : SubP w P sb (.slice pb sb.length cb)) (hL : SubP w P sl (.slice pl sl.length cl)) (hR : SubP w P sr (.slice pr sr.length cr))
    (h1 : sameE (.mk kl nl ml il dl sl) (.mk kr nr mr ir dr sr) = true) :
    Calls Tryd.prog 30 #[.agg (ev kb nb mb ib db pb sb.length cb), .agg (ev kl nl ml il dl pl sl.length cl), .agg (ev kr nr mr ir dr pr sr.length cr)] w (RetEx P w (.mk kl nl ml il dl sl)) := by
  have HQ1 : Hid (∀ W, MFrame w (ev kb nb mb ib db pb sb.length cb) (ev kl nl ml il dl pl sl.length cl) (ev kr nr mr ir dr pr sr.length cr) W → Calls Tryd.prog 42 #[.agg (ev kl nl ml il dl pl sl.length cl), .agg (ev kr nr mr ir dr pr sr.length cr)] W fun e w' => e = .returned (.bool true) ∧ Below W.heap.size W w') := Lib.hid (fun W hF => by
    have h := mequal_any (nodesL sl + 1) kl nl ml il dl sl (.slice pl sl.length cl) kr nr mr ir dr sr (.slice pr sr.length cr) W (by omega) (by omega) (subAt_below (subAt_of hP hL) hF.below hF.below.size) (subAt_below (subAt_of hP hR) hF.below hF.below.size)
    rw [h1] at h; exact h)
  obtain ⟨W, hW, hF, hz⟩ := mframe_start w (ev kb nb mb ib db pb sb.length cb) (ev kl nl ml il dl pl sl.length cl) (ev kr nr mr ir dr pr sr.length cr)
  have HW := Lib.hid hW
  have HP := Lib.hid hP
  have HB := Lib.hid hB
  have HL := Lib.hid hL
  have HR := Lib.hid hR
  have HF := Lib.hid hF
  clear hW hP hL hB hR hF
  have hmk := mk3
  go_enter Tryd.func30, Tryd.ntmps30
  go_wp2_with fail
  rw [HW.out]
  refine (HQ1.out _ HF.out).mono ?_
  rintro e W1 ⟨rfl, hb1⟩
  have HF1 := Lib.hid (HF.out.kept hb1)
  obtain ⟨b0, b1, b2, b3, b4, b5⟩ := cells6 HF1.out.b
  obtain ⟨l0, l1, l2, l3, l4, l5⟩ := cells6 HF1.out.l
  obtain ⟨r0, r1, r2, r3, r4, r5⟩ := cells6 HF1.out.r
  obtain ⟨z0, z1, z2, z3, z4, z5⟩ := cells6 HF1.out.res
  obtain ⟨f0, f1, f2, f3, f4, f5⟩ := free6 HF1.out.res
  go_wp2_with fail
  have hbz := below6 HF1.out.below (g := w.heap.size + 1 + 1 + 1) (by omega) (.int .i64 kl) (.string nl) (.string ml) (.int .i64 il) (.int .i64 dl) (.slice pl sl.length cl)
  refine bodyPost_ret (v := .agg (ev kl nl ml il dl pl sl.length cl)) (by simp [results, Tryd.results30, go_sem, z0, z1, z2, z3, z4, z5]) rfl ⟨_, rfl, exP_iff.2 ⟨_, rfl, subP_stay (fun _ h => .inl h) (stay_below hbz HP.out) HL.out⟩, hbz⟩
set_option maxRecDepth 100000 in
set_option maxHeartbeats 4000000 in
theorem mmerge_2 (kb : Int) (nb mb : ByteArray) (ib db : Int) (sb : List Ex) (pb : Option Addr) (cb : Nat) (kl : Int) (nl ml : ByteArray) (il dl : Int) (sl : List Ex) (pl : Option Addr) (cl : Nat) (kr : Int) (nr mr : ByteArray) (ir dr : Int) (sr : List Ex) (pr : Option Addr) (cr : Nat) (P : Nat → Prop) (w : World)
    (hP : ∀ b, P b → b < w.heap.size) (_hmb : nodesL sb ≤ 1048576) (hml : nodesL sl ≤ 1048576) (hmr : nodesL sr ≤ 1048576) (hB : SubP w P sb (.slice pb sb.length cb)) (hL : SubP w P sl (.slice pl sl.length cl)) (hR : SubP w P sr (.slice pr sr.length cr))
    (h1 : sameE (.mk kl nl ml il dl sl) (.mk kr nr mr ir dr sr) = false) (h2 : sameE (.mk kr nr mr ir dr sr) (.mk kb nb mb ib db sb) = true) :
    Calls Tryd.prog 30 #[.agg (ev kb nb mb ib db pb sb.length cb), .agg (ev kl nl ml il dl pl sl.length cl), .agg (ev kr nr mr ir dr pr sr.length cr)] w (RetEx P w (.mk kl nl ml il dl sl)) := by
  have HQ1 : Hid (∀ W, MFrame w (ev kb nb mb ib db pb sb.length cb) (ev kl nl ml il dl pl sl.length cl) (ev kr nr mr ir dr pr sr.length cr) W → Calls Tryd.prog 42 #[.agg (ev kl nl ml il dl pl sl.length cl), .agg (ev kr nr mr ir dr pr sr.length cr)] W fun e w' => e = .returned (.bool false) ∧ Below W.heap.size W w') := Lib.hid (fun W hF => by
    have h := mequal_any (nodesL sl + 1) kl nl ml il dl sl (.slice pl sl.length cl) kr nr mr ir dr sr (.slice pr sr.length cr) W (by omega) (by omega) (subAt_below (subAt_of hP hL) hF.below hF.below.size) (subAt_below (subAt_of hP hR) hF.below hF.below.size)
    rw [h1] at h; exact h)
  have HQ2 : Hid (∀ W, MFrame w (ev kb nb mb ib db pb sb.length cb) (ev kl nl ml il dl pl sl.length cl) (ev kr nr mr ir dr pr sr.length cr) W → Calls Tryd.prog 42 #[.agg (ev kr nr mr ir dr pr sr.length cr), .agg (ev kb nb mb ib db pb sb.length cb)] W fun e w' => e = .returned (.bool true) ∧ Below W.heap.size W w') := Lib.hid (fun W hF => by
    have h := mequal_any (nodesL sr + 1) kr nr mr ir dr sr (.slice pr sr.length cr) kb nb mb ib db sb (.slice pb sb.length cb) W (by omega) (by omega) (subAt_below (subAt_of hP hR) hF.below hF.below.size) (subAt_below (subAt_of hP hB) hF.below hF.below.size)
    rw [h2] at h; exact h)
  obtain ⟨W, hW, hF, hz⟩ := mframe_start w (ev kb nb mb ib db pb sb.length cb) (ev kl nl ml il dl pl sl.length cl) (ev kr nr mr ir dr pr sr.length cr)
  have HW := Lib.hid hW
  have HP := Lib.hid hP
  have HB := Lib.hid hB
  have HL := Lib.hid hL
  have HR := Lib.hid hR
  have HF := Lib.hid hF
  clear hW hP hL hB hR hF
  have hmk := mk3
  go_enter Tryd.func30, Tryd.ntmps30
  go_wp2_with fail
  rw [HW.out]
  refine (HQ1.out _ HF.out).mono ?_
  rintro e W1 ⟨rfl, hb1⟩
  have HF1 := Lib.hid (HF.out.kept hb1)
  obtain ⟨b0, b1, b2, b3, b4, b5⟩ := cells6 HF1.out.b
  obtain ⟨l0, l1, l2, l3, l4, l5⟩ := cells6 HF1.out.l
  obtain ⟨r0, r1, r2, r3, r4, r5⟩ := cells6 HF1.out.r
  go_wp2_with fail
  refine (HQ2.out _ HF1.out).mono ?_
  rintro e W2 ⟨rfl, hb2⟩
  have HF2 := Lib.hid (HF1.out.kept hb2)
  clear b0 b1 b2 b3 b4 b5 l0 l1 l2 l3 l4 l5 r0 r1 r2 r3 r4 r5
  obtain ⟨b0, b1, b2, b3, b4, b5⟩ := cells6 HF2.out.b
  obtain ⟨l0, l1, l2, l3, l4, l5⟩ := cells6 HF2.out.l
  obtain ⟨r0, r1, r2, r3, r4, r5⟩ := cells6 HF2.out.r
  obtain ⟨z0, z1, z2, z3, z4, z5⟩ := cells6 HF2.out.res
  obtain ⟨f0, f1, f2, f3, f4, f5⟩ := free6 HF2.out.res
  go_wp2_with fail
  have hbz := below6 HF2.out.below (g := w.heap.size + 1 + 1 + 1) (by omega) (.int .i64 kl) (.string nl) (.string ml) (.int .i64 il) (.int .i64 dl) (.slice pl sl.length cl)
  refine bodyPost_ret (v := .agg (ev kl nl ml il dl pl sl.length cl)) (by simp [results, Tryd.results30, go_sem, z0, z1, z2, z3, z4, z5]) rfl ⟨_, rfl, exP_iff.2 ⟨_, rfl, subP_stay (fun _ h => .inl h) (stay_below hbz HP.out) HL.out⟩, hbz⟩
set_option maxRecDepth 100000 in
set_option maxHeartbeats 4000000 in
theorem mmerge_3 (kb : Int) (nb mb : ByteArray) (ib db : Int) (sb : List Ex) (pb : Option Addr) (cb : Nat) (kl : Int) (nl ml : ByteArray) (il dl : Int) (sl : List Ex) (pl : Option Addr) (cl : Nat) (kr : Int) (nr mr : ByteArray) (ir dr : Int) (sr : List Ex) (pr : Option Addr) (cr : Nat) (P : Nat → Prop) (w : World)
    (hP : ∀ b, P b → b < w.heap.size) (_hmb : nodesL sb ≤ 1048576) (hml : nodesL sl ≤ 1048576) (hmr : nodesL sr ≤ 1048576) (hB : SubP w P sb (.slice pb sb.length cb)) (hL : SubP w P sl (.slice pl sl.length cl)) (hR : SubP w P sr (.slice pr sr.length cr))
    (h1 : sameE (.mk kl nl ml il dl sl) (.mk kr nr mr ir dr sr) = false) (h2 : sameE (.mk kr nr mr ir dr sr) (.mk kb nb mb ib db sb) = false) (h3 : sameE (.mk kl nl ml il dl sl) (.mk kb nb mb ib db sb) = true) :
    Calls Tryd.prog 30 #[.agg (ev kb nb mb ib db pb sb.length cb), .agg (ev kl nl ml il dl pl sl.length cl), .agg (ev kr nr mr ir dr pr sr.length cr)] w (RetEx P w (.mk kr nr mr ir dr sr)) := by
  have HQ1 : Hid (∀ W, MFrame w (ev kb nb mb ib db pb sb.length cb) (ev kl nl ml il dl pl sl.length cl) (ev kr nr mr ir dr pr sr.length cr) W → Calls Tryd.prog 42 #[.agg (ev kl nl ml il dl pl sl.length cl), .agg (ev kr nr mr ir dr pr sr.length cr)] W fun e w' => e = .returned (.bool false) ∧ Below W.heap.size W w') := Lib.hid (fun W hF => by
    have h := mequal_any (nodesL sl + 1) kl nl ml il dl sl (.slice pl sl.length cl) kr nr mr ir dr sr (.slice pr sr.length cr) W (by omega) (by omega) (subAt_below (subAt_of hP hL) hF.below hF.below.size) (subAt_below (subAt_of hP hR) hF.below hF.below.size)
    rw [h1] at h; exact h)
  have HQ2 : Hid (∀ W, MFrame w (ev kb nb mb ib db pb sb.length cb) (ev kl nl ml il dl pl sl.length cl) (ev kr nr mr ir dr pr sr.length cr) W → Calls Tryd.prog 42 #[.agg (ev kr nr mr ir dr pr sr.length cr), .agg (ev kb nb mb ib db pb sb.length cb)] W fun e w' => e = .returned (.bool false) ∧ Below W.heap.size W w') := Lib.hid (fun W hF => by
    have h := mequal_any (nodesL sr + 1) kr nr mr ir dr sr (.slice pr sr.length cr) kb nb mb ib db sb (.slice pb sb.length cb) W (by omega) (by omega) (subAt_below (subAt_of hP hR) hF.below hF.below.size) (subAt_below (subAt_of hP hB) hF.below hF.below.size)
    rw [h2] at h; exact h)
  have HQ3 : Hid (∀ W, MFrame w (ev kb nb mb ib db pb sb.length cb) (ev kl nl ml il dl pl sl.length cl) (ev kr nr mr ir dr pr sr.length cr) W → Calls Tryd.prog 42 #[.agg (ev kl nl ml il dl pl sl.length cl), .agg (ev kb nb mb ib db pb sb.length cb)] W fun e w' => e = .returned (.bool true) ∧ Below W.heap.size W w') := Lib.hid (fun W hF => by
    have h := mequal_any (nodesL sl + 1) kl nl ml il dl sl (.slice pl sl.length cl) kb nb mb ib db sb (.slice pb sb.length cb) W (by omega) (by omega) (subAt_below (subAt_of hP hL) hF.below hF.below.size) (subAt_below (subAt_of hP hB) hF.below hF.below.size)
    rw [h3] at h; exact h)
  obtain ⟨W, hW, hF, hz⟩ := mframe_start w (ev kb nb mb ib db pb sb.length cb) (ev kl nl ml il dl pl sl.length cl) (ev kr nr mr ir dr pr sr.length cr)
  have HW := Lib.hid hW
  have HP := Lib.hid hP
  have HB := Lib.hid hB
  have HL := Lib.hid hL
  have HR := Lib.hid hR
  have HF := Lib.hid hF
  clear hW hP hL hB hR hF
  have hmk := mk3
  go_enter Tryd.func30, Tryd.ntmps30
  go_wp2_with fail
  rw [HW.out]
  refine (HQ1.out _ HF.out).mono ?_
  rintro e W1 ⟨rfl, hb1⟩
  have HF1 := Lib.hid (HF.out.kept hb1)
  obtain ⟨b0, b1, b2, b3, b4, b5⟩ := cells6 HF1.out.b
  obtain ⟨l0, l1, l2, l3, l4, l5⟩ := cells6 HF1.out.l
  obtain ⟨r0, r1, r2, r3, r4, r5⟩ := cells6 HF1.out.r
  go_wp2_with fail
  refine (HQ2.out _ HF1.out).mono ?_
  rintro e W2 ⟨rfl, hb2⟩
  have HF2 := Lib.hid (HF1.out.kept hb2)
  clear b0 b1 b2 b3 b4 b5 l0 l1 l2 l3 l4 l5 r0 r1 r2 r3 r4 r5
  obtain ⟨b0, b1, b2, b3, b4, b5⟩ := cells6 HF2.out.b
  obtain ⟨l0, l1, l2, l3, l4, l5⟩ := cells6 HF2.out.l
  obtain ⟨r0, r1, r2, r3, r4, r5⟩ := cells6 HF2.out.r
  go_wp2_with fail
  refine (HQ3.out _ HF2.out).mono ?_
  rintro e W3 ⟨rfl, hb3⟩
  have HF3 := Lib.hid (HF2.out.kept hb3)
  clear b0 b1 b2 b3 b4 b5 l0 l1 l2 l3 l4 l5 r0 r1 r2 r3 r4 r5
  obtain ⟨b0, b1, b2, b3, b4, b5⟩ := cells6 HF3.out.b
  obtain ⟨l0, l1, l2, l3, l4, l5⟩ := cells6 HF3.out.l
  obtain ⟨r0, r1, r2, r3, r4, r5⟩ := cells6 HF3.out.r
  obtain ⟨z0, z1, z2, z3, z4, z5⟩ := cells6 HF3.out.res
  obtain ⟨f0, f1, f2, f3, f4, f5⟩ := free6 HF3.out.res
  go_wp2_with fail
  have hbz := below6 HF3.out.below (g := w.heap.size + 1 + 1 + 1) (by omega) (.int .i64 kr) (.string nr) (.string mr) (.int .i64 ir) (.int .i64 dr) (.slice pr sr.length cr)
  refine bodyPost_ret (v := .agg (ev kr nr mr ir dr pr sr.length cr)) (by simp [results, Tryd.results30, go_sem, z0, z1, z2, z3, z4, z5]) rfl ⟨_, rfl, exP_iff.2 ⟨_, rfl, subP_stay (fun _ h => .inl h) (stay_below hbz HP.out) HR.out⟩, hbz⟩
set_option maxRecDepth 100000 in
set_option maxHeartbeats 4000000 in
theorem mmerge_4a (kb : Int) (nb mb : ByteArray) (ib db : Int) (sb : List Ex) (pb : Option Addr) (cb : Nat) (kl : Int) (nl ml : ByteArray) (il dl : Int) (sl : List Ex) (pl : Option Addr) (cl : Nat) (kr : Int) (nr mr : ByteArray) (ir dr : Int) (sr : List Ex) (pr : Option Addr) (cr : Nat) (P : Nat → Prop) (w : World)
    (hP : ∀ b, P b → b < w.heap.size) (_hmb : nodesL sb ≤ 1048576) (hml : nodesL sl ≤ 1048576) (hmr : nodesL sr ≤ 1048576) (hB : SubP w P sb (.slice pb sb.length cb)) (hL : SubP w P sl (.slice pl sl.length cl)) (hR : SubP w P sr (.slice pr sr.length cr))
    (h1 : sameE (.mk kl nl ml il dl sl) (.mk kr nr mr ir dr sr) = false) (h2 : sameE (.mk kr nr mr ir dr sr) (.mk kb nb mb ib db sb) = false) (h3 : sameE (.mk kl nl ml il dl sl) (.mk kb nb mb ib db sb) = false) (h4 : alikeE (.mk kb nb mb ib db sb) (.mk kl nl ml il dl sl) = false) :
    Calls Tryd.prog 30 #[.agg (ev kb nb mb ib db pb sb.length cb), .agg (ev kl nl ml il dl pl sl.length cl), .agg (ev kr nr mr ir dr pr sr.length cr)] w (RetEx P w (sumE (.mk kl nl ml il dl sl) (.mk kb nb mb ib db sb) (.mk kr nr mr ir dr sr))) := by
  have HQ1 : Hid (∀ W, MFrame w (ev kb nb mb ib db pb sb.length cb) (ev kl nl ml il dl pl sl.length cl) (ev kr nr mr ir dr pr sr.length cr) W → Calls Tryd.prog 42 #[.agg (ev kl nl ml il dl pl sl.length cl), .agg (ev kr nr mr ir dr pr sr.length cr)] W fun e w' => e = .returned (.bool false) ∧ Below W.heap.size W w') := Lib.hid (fun W hF => by
    have h := mequal_any (nodesL sl + 1) kl nl ml il dl sl (.slice pl sl.length cl) kr nr mr ir dr sr (.slice pr sr.length cr) W (by omega) (by omega) (subAt_below (subAt_of hP hL) hF.below hF.below.size) (subAt_below (subAt_of hP hR) hF.below hF.below.size)
    rw [h1] at h; exact h)
  have HQ2 : Hid (∀ W, MFrame w (ev kb nb mb ib db pb sb.length cb) (ev kl nl ml il dl pl sl.length cl) (ev kr nr mr ir dr pr sr.length cr) W → Calls Tryd.prog 42 #[.agg (ev kr nr mr ir dr pr sr.length cr), .agg (ev kb nb mb ib db pb sb.length cb)] W fun e w' => e = .returned (.bool false) ∧ Below W.heap.size W w') := Lib.hid (fun W hF => by
    have h := mequal_any (nodesL sr + 1) kr nr mr ir dr sr (.slice pr sr.length cr) kb nb mb ib db sb (.slice pb sb.length cb) W (by omega) (by omega) (subAt_below (subAt_of hP hR) hF.below hF.below.size) (subAt_below (subAt_of hP hB) hF.below hF.below.size)
    rw [h2] at h; exact h)
  have HQ3 : Hid (∀ W, MFrame w (ev kb nb mb ib db pb sb.length cb) (ev kl nl ml il dl pl sl.length cl) (ev kr nr mr ir dr pr sr.length cr) W → Calls Tryd.prog 42 #[.agg (ev kl nl ml il dl pl sl.length cl), .agg (ev kb nb mb ib db pb sb.length cb)] W fun e w' => e = .returned (.bool false) ∧ Below W.heap.size W w') := Lib.hid (fun W hF => by
    have h := mequal_any (nodesL sl + 1) kl nl ml il dl sl (.slice pl sl.length cl) kb nb mb ib db sb (.slice pb sb.length cb) W (by omega) (by omega) (subAt_below (subAt_of hP hL) hF.below hF.below.size) (subAt_below (subAt_of hP hB) hF.below hF.below.size)
    rw [h3] at h; exact h)
  have HA1 : Hid (∀ W : World, Calls Tryd.prog 43 #[.agg (ev kb nb mb ib db pb sb.length cb), .agg (ev kl nl ml il dl pl sl.length cl)] W fun e w' => e = .returned (.bool false) ∧ Below W.heap.size W w') := Lib.hid (fun W => by
    have h := malike_any kb nb mb ib db sb pb cb kl nl ml il dl sl pl cl W
    rw [h4] at h; exact h)
  obtain ⟨W, hW, hF, hz⟩ := mframe_start w (ev kb nb mb ib db pb sb.length cb) (ev kl nl ml il dl pl sl.length cl) (ev kr nr mr ir dr pr sr.length cr)
  have HW := Lib.hid hW
  have HP := Lib.hid hP
  have HB := Lib.hid hB
  have HL := Lib.hid hL
  have HR := Lib.hid hR
  have HF := Lib.hid hF
  clear hW hP hL hB hR hF
  have hmk := mk3
  go_enter Tryd.func30, Tryd.ntmps30
  go_wp2_with fail
  rw [HW.out]
  refine (HQ1.out _ HF.out).mono ?_
  rintro e W1 ⟨rfl, hb1⟩
  have HF1 := Lib.hid (HF.out.kept hb1)
  obtain ⟨b0, b1, b2, b3, b4, b5⟩ := cells6 HF1.out.b
  obtain ⟨l0, l1, l2, l3, l4, l5⟩ := cells6 HF1.out.l
  obtain ⟨r0, r1, r2, r3, r4, r5⟩ := cells6 HF1.out.r
  go_wp2_with fail
  refine (HQ2.out _ HF1.out).mono ?_
  rintro e W2 ⟨rfl, hb2⟩
  have HF2 := Lib.hid (HF1.out.kept hb2)
  clear b0 b1 b2 b3 b4 b5 l0 l1 l2 l3 l4 l5 r0 r1 r2 r3 r4 r5
  obtain ⟨b0, b1, b2, b3, b4, b5⟩ := cells6 HF2.out.b
  obtain ⟨l0, l1, l2, l3, l4, l5⟩ := cells6 HF2.out.l
  obtain ⟨r0, r1, r2, r3, r4, r5⟩ := cells6 HF2.out.r
  go_wp2_with fail
  refine (HQ3.out _ HF2.out).mono ?_
  rintro e W3 ⟨rfl, hb3⟩
  have HF3 := Lib.hid (HF2.out.kept hb3)
  clear b0 b1 b2 b3 b4 b5 l0 l1 l2 l3 l4 l5 r0 r1 r2 r3 r4 r5
  obtain ⟨b0, b1, b2, b3, b4, b5⟩ := cells6 HF3.out.b
  obtain ⟨l0, l1, l2, l3, l4, l5⟩ := cells6 HF3.out.l
  obtain ⟨r0, r1, r2, r3, r4, r5⟩ := cells6 HF3.out.r
  go_wp2_with fail
  refine (HA1.out _).mono ?_
  rintro e W4 ⟨rfl, hb4⟩
  have HF4 := Lib.hid (HF3.out.kept hb4)
  clear b0 b1 b2 b3 b4 b5 l0 l1 l2 l3 l4 l5 r0 r1 r2 r3 r4 r5
  obtain ⟨b0, b1, b2, b3, b4, b5⟩ := cells6 HF4.out.b
  obtain ⟨l0, l1, l2, l3, l4, l5⟩ := cells6 HF4.out.l
  obtain ⟨r0, r1, r2, r3, r4, r5⟩ := cells6 HF4.out.r
  obtain ⟨z0, z1, z2, z3, z4, z5⟩ := cells6 HF4.out.res
  obtain ⟨f0, f1, f2, f3, f4, f5⟩ := free6 HF4.out.res
  have q0 : w.heap.size < W4.heap.size := by have := HF4.out.size; omega
  have q1 : w.heap.size + 1 < W4.heap.size := by have := HF4.out.size; omega
  have q2 : w.heap.size + 1 + 1 < W4.heap.size := by have := HF4.out.size; omega
  obtain ⟨W9, hcp, hrow, hbel⟩ := copy3 W4 (kl := kl) (nl := nl) (ml := ml) (il := il) (dl := dl) (pl := pl) (ql := sl.length) (cl := cl) (kb := kb) (nb := nb) (mb := mb) (ib := ib) (db := db) (pb := pb) (qb := sb.length) (cb := cb) (kr := kr) (nr := nr) (mr := mr) (ir := ir) (dr := dr) (pr := pr) (qr := sr.length) (cr := cr)
  have HROW := Lib.hid hrow
  have HF9 := Lib.hid (HF4.out.kept hbel)
  have HBEL := Lib.hid hbel
  obtain ⟨y0, y1, y2, y3, y4, y5⟩ := cells6 HF9.out.res
  obtain ⟨g0, g1, g2, g3, g4, g5⟩ := free6 HF9.out.res
  clear hrow hbel
  go_wp2_with fail
  have hbz := below6 HF9.out.below (g := w.heap.size + 1 + 1 + 1) (by omega) (.int .i64 15) (.string ⟨#[]⟩) (.string ⟨#[]⟩) (.int .i64 0) (.int .i64 0) (.slice (some ⟨W4.heap.size, 0, none⟩) 3 3)
  have q3 : W4.heap.size ≠ w.heap.size + 1 + 1 + 1 := by have := HF4.out.size; omega
  have q4 : w.heap.size ≤ W4.heap.size := by omega
  have hst := stay6 (A := W9) (g := w.heap.size + 1 + 1 + 1) (.int .i64 15) (.string ⟨#[]⟩) (.string ⟨#[]⟩) (.int .i64 0) (.int .i64 0) (.slice (some ⟨W4.heap.size, 0, none⟩) 3 3)
  have hsz10 := (Array.getElem?_eq_some_iff.1 HROW.out).1
  refine bodyPost_ret (v := .agg #[.int .i64 15, .string ⟨#[]⟩, .string ⟨#[]⟩, .int .i64 0, .int .i64 0, .slice (some ⟨W4.heap.size, 0, none⟩) 3 3]) (by simp [results, Tryd.results30, go_sem, y0, y1, y2, y3, y4, y5]) rfl ⟨_, rfl, exP_iff.2 ⟨_, rfl, ?_⟩, hbz⟩
  refine sum_sub (by rw [size6]; exact .inr ⟨q4, hsz10⟩) (fun j v h => (hst _ _ q3).trans ?_) (subP_stay (fun _ h => .inl h) (stay_below hbz HP.out) HL.out) (subP_stay (fun _ h => .inl h) (stay_below hbz HP.out) HB.out) (subP_stay (fun _ h => .inl h) (stay_below hbz HP.out) HR.out)
  simp only [World.cell?, HROW.out]
  simpa using h
set_option maxRecDepth 100000 in
set_option maxHeartbeats 4000000 in
theorem mmerge_4b (kb : Int) (nb mb : ByteArray) (ib db : Int) (sb : List Ex) (pb : Option Addr) (cb : Nat) (kl : Int) (nl ml : ByteArray) (il dl : Int) (sl : List Ex) (pl : Option Addr) (cl : Nat) (kr : Int) (nr mr : ByteArray) (ir dr : Int) (sr : List Ex) (pr : Option Addr) (cr : Nat) (P : Nat → Prop) (w : World)
    (hP : ∀ b, P b → b < w.heap.size) (_hmb : nodesL sb ≤ 1048576) (hml : nodesL sl ≤ 1048576) (hmr : nodesL sr ≤ 1048576) (hB : SubP w P sb (.slice pb sb.length cb)) (hL : SubP w P sl (.slice pl sl.length cl)) (hR : SubP w P sr (.slice pr sr.length cr))
    (h1 : sameE (.mk kl nl ml il dl sl) (.mk kr nr mr ir dr sr) = false) (h2 : sameE (.mk kr nr mr ir dr sr) (.mk kb nb mb ib db sb) = false) (h3 : sameE (.mk kl nl ml il dl sl) (.mk kb nb mb ib db sb) = false) (h4 : alikeE (.mk kb nb mb ib db sb) (.mk kl nl ml il dl sl) = true) (h5 : alikeE (.mk kb nb mb ib db sb) (.mk kr nr mr ir dr sr) = false) :
    Calls Tryd.prog 30 #[.agg (ev kb nb mb ib db pb sb.length cb), .agg (ev kl nl ml il dl pl sl.length cl), .agg (ev kr nr mr ir dr pr sr.length cr)] w (RetEx P w (sumE (.mk kl nl ml il dl sl) (.mk kb nb mb ib db sb) (.mk kr nr mr ir dr sr))) := by
  have HQ1 : Hid (∀ W, MFrame w (ev kb nb mb ib db pb sb.length cb) (ev kl nl ml il dl pl sl.length cl) (ev kr nr mr ir dr pr sr.length cr) W → Calls Tryd.prog 42 #[.agg (ev kl nl ml il dl pl sl.length cl), .agg (ev kr nr mr ir dr pr sr.length cr)] W fun e w' => e = .returned (.bool false) ∧ Below W.heap.size W w') := Lib.hid (fun W hF => by
    have h := mequal_any (nodesL sl + 1) kl nl ml il dl sl (.slice pl sl.length cl) kr nr mr ir dr sr (.slice pr sr.length cr) W (by omega) (by omega) (subAt_below (subAt_of hP hL) hF.below hF.below.size) (subAt_below (subAt_of hP hR) hF.below hF.below.size)
    rw [h1] at h; exact h)
  have HQ2 : Hid (∀ W, MFrame w (ev kb nb mb ib db pb sb.length cb) (ev kl nl ml il dl pl sl.length cl) (ev kr nr mr ir dr pr sr.length cr) W → Calls Tryd.prog 42 #[.agg (ev kr nr mr ir dr pr sr.length cr), .agg (ev kb nb mb ib db pb sb.length cb)] W fun e w' => e = .returned (.bool false) ∧ Below W.heap.size W w') := Lib.hid (fun W hF => by
    have h := mequal_any (nodesL sr + 1) kr nr mr ir dr sr (.slice pr sr.length cr) kb nb mb ib db sb (.slice pb sb.length cb) W (by omega) (by omega) (subAt_below (subAt_of hP hR) hF.below hF.below.size) (subAt_below (subAt_of hP hB) hF.below hF.below.size)
    rw [h2] at h; exact h)
  have HQ3 : Hid (∀ W, MFrame w (ev kb nb mb ib db pb sb.length cb) (ev kl nl ml il dl pl sl.length cl) (ev kr nr mr ir dr pr sr.length cr) W → Calls Tryd.prog 42 #[.agg (ev kl nl ml il dl pl sl.length cl), .agg (ev kb nb mb ib db pb sb.length cb)] W fun e w' => e = .returned (.bool false) ∧ Below W.heap.size W w') := Lib.hid (fun W hF => by
    have h := mequal_any (nodesL sl + 1) kl nl ml il dl sl (.slice pl sl.length cl) kb nb mb ib db sb (.slice pb sb.length cb) W (by omega) (by omega) (subAt_below (subAt_of hP hL) hF.below hF.below.size) (subAt_below (subAt_of hP hB) hF.below hF.below.size)
    rw [h3] at h; exact h)
  have HA1 : Hid (∀ W : World, Calls Tryd.prog 43 #[.agg (ev kb nb mb ib db pb sb.length cb), .agg (ev kl nl ml il dl pl sl.length cl)] W fun e w' => e = .returned (.bool true) ∧ Below W.heap.size W w') := Lib.hid (fun W => by
    have h := malike_any kb nb mb ib db sb pb cb kl nl ml il dl sl pl cl W
    rw [h4] at h; exact h)
  have HA2 : Hid (∀ W : World, Calls Tryd.prog 43 #[.agg (ev kb nb mb ib db pb sb.length cb), .agg (ev kr nr mr ir dr pr sr.length cr)] W fun e w' => e = .returned (.bool false) ∧ Below W.heap.size W w') := Lib.hid (fun W => by
    have h := malike_any kb nb mb ib db sb pb cb kr nr mr ir dr sr pr cr W
    rw [h5] at h; exact h)
  obtain ⟨W, hW, hF, hz⟩ := mframe_start w (ev kb nb mb ib db pb sb.length cb) (ev kl nl ml il dl pl sl.length cl) (ev kr nr mr ir dr pr sr.length cr)
  have HW := Lib.hid hW
  have HP := Lib.hid hP
  have HB := Lib.hid hB
  have HL := Lib.hid hL
  have HR := Lib.hid hR
  have HF := Lib.hid hF
  clear hW hP hL hB hR hF
  have hmk := mk3
  go_enter Tryd.func30, Tryd.ntmps30
  go_wp2_with fail
  rw [HW.out]
  refine (HQ1.out _ HF.out).mono ?_
  rintro e W1 ⟨rfl, hb1⟩
  have HF1 := Lib.hid (HF.out.kept hb1)
  obtain ⟨b0, b1, b2, b3, b4, b5⟩ := cells6 HF1.out.b
  obtain ⟨l0, l1, l2, l3, l4, l5⟩ := cells6 HF1.out.l
  obtain ⟨r0, r1, r2, r3, r4, r5⟩ := cells6 HF1.out.r
  go_wp2_with fail
  refine (HQ2.out _ HF1.out).mono ?_
  rintro e W2 ⟨rfl, hb2⟩
  have HF2 := Lib.hid (HF1.out.kept hb2)
  clear b0 b1 b2 b3 b4 b5 l0 l1 l2 l3 l4 l5 r0 r1 r2 r3 r4 r5
  obtain ⟨b0, b1, b2, b3, b4, b5⟩ := cells6 HF2.out.b
  obtain ⟨l0, l1, l2, l3, l4, l5⟩ := cells6 HF2.out.l
  obtain ⟨r0, r1, r2, r3, r4, r5⟩ := cells6 HF2.out.r
  go_wp2_with fail
  refine (HQ3.out _ HF2.out).mono ?_
  rintro e W3 ⟨rfl, hb3⟩
  have HF3 := Lib.hid (HF2.out.kept hb3)
  clear b0 b1 b2 b3 b4 b5 l0 l1 l2 l3 l4 l5 r0 r1 r2 r3 r4 r5
  obtain ⟨b0, b1, b2, b3, b4, b5⟩ := cells6 HF3.out.b
  obtain ⟨l0, l1, l2, l3, l4, l5⟩ := cells6 HF3.out.l
  obtain ⟨r0, r1, r2, r3, r4, r5⟩ := cells6 HF3.out.r
  go_wp2_with fail
  refine (HA1.out _).mono ?_
  rintro e W4 ⟨rfl, hb4⟩
  have HF4 := Lib.hid (HF3.out.kept hb4)
  clear b0 b1 b2 b3 b4 b5 l0 l1 l2 l3 l4 l5 r0 r1 r2 r3 r4 r5
  obtain ⟨b0, b1, b2, b3, b4, b5⟩ := cells6 HF4.out.b
  obtain ⟨l0, l1, l2, l3, l4, l5⟩ := cells6 HF4.out.l
  obtain ⟨r0, r1, r2, r3, r4, r5⟩ := cells6 HF4.out.r
  go_wp2_with fail
  refine (HA2.out _).mono ?_
  rintro e W5 ⟨rfl, hb5⟩
  have HF5 := Lib.hid (HF4.out.kept hb5)
  clear b0 b1 b2 b3 b4 b5 l0 l1 l2 l3 l4 l5 r0 r1 r2 r3 r4 r5
  obtain ⟨b0, b1, b2, b3, b4, b5⟩ := cells6 HF5.out.b
  obtain ⟨l0, l1, l2, l3, l4, l5⟩ := cells6 HF5.out.l
  obtain ⟨r0, r1, r2, r3, r4, r5⟩ := cells6 HF5.out.r
  obtain ⟨z0, z1, z2, z3, z4, z5⟩ := cells6 HF5.out.res
  obtain ⟨f0, f1, f2, f3, f4, f5⟩ := free6 HF5.out.res
  have q0 : w.heap.size < W5.heap.size := by have := HF5.out.size; omega
  have q1 : w.heap.size + 1 < W5.heap.size := by have := HF5.out.size; omega
  have q2 : w.heap.size + 1 + 1 < W5.heap.size := by have := HF5.out.size; omega
  obtain ⟨W9, hcp, hrow, hbel⟩ := copy3 W5 (kl := kl) (nl := nl) (ml := ml) (il := il) (dl := dl) (pl := pl) (ql := sl.length) (cl := cl) (kb := kb) (nb := nb) (mb := mb) (ib := ib) (db := db) (pb := pb) (qb := sb.length) (cb := cb) (kr := kr) (nr := nr) (mr := mr) (ir := ir) (dr := dr) (pr := pr) (qr := sr.length) (cr := cr)
  have HROW := Lib.hid hrow
  have HF9 := Lib.hid (HF5.out.kept hbel)
  have HBEL := Lib.hid hbel
  obtain ⟨y0, y1, y2, y3, y4, y5⟩ := cells6 HF9.out.res
  obtain ⟨g0, g1, g2, g3, g4, g5⟩ := free6 HF9.out.res
  clear hrow hbel
  go_wp2_with fail
  have hbz := below6 HF9.out.below (g := w.heap.size + 1 + 1 + 1) (by omega) (.int .i64 15) (.string ⟨#[]⟩) (.string ⟨#[]⟩) (.int .i64 0) (.int .i64 0) (.slice (some ⟨W5.heap.size, 0, none⟩) 3 3)
  have q3 : W5.heap.size ≠ w.heap.size + 1 + 1 + 1 := by have := HF5.out.size; omega
  have q4 : w.heap.size ≤ W5.heap.size := by omega
  have hst := stay6 (A := W9) (g := w.heap.size + 1 + 1 + 1) (.int .i64 15) (.string ⟨#[]⟩) (.string ⟨#[]⟩) (.int .i64 0) (.int .i64 0) (.slice (some ⟨W5.heap.size, 0, none⟩) 3 3)
  have hsz10 := (Array.getElem?_eq_some_iff.1 HROW.out).1
  refine bodyPost_ret (v := .agg #[.int .i64 15, .string ⟨#[]⟩, .string ⟨#[]⟩, .int .i64 0, .int .i64 0, .slice (some ⟨W5.heap.size, 0, none⟩) 3 3]) (by simp [results, Tryd.results30, go_sem, y0, y1, y2, y3, y4, y5]) rfl ⟨_, rfl, exP_iff.2 ⟨_, rfl, ?_⟩, hbz⟩
  refine sum_sub (by rw [size6]; exact .inr ⟨q4, hsz10⟩) (fun j v h => (hst _ _ q3).trans ?_) (subP_stay (fun _ h => .inl h) (stay_below hbz HP.out) HL.out) (subP_stay (fun _ h => .inl h) (stay_below hbz HP.out) HB.out) (subP_stay (fun _ h => .inl h) (stay_below hbz HP.out) HR.out)
  simp only [World.cell?, HROW.out]
  simpa using h
set_option maxRecDepth 100000 in
set_option maxHeartbeats 4000000 in
theorem mmerge_4c (kb : Int) (nb mb : ByteArray) (ib db : Int) (sb : List Ex) (pb : Option Addr) (cb : Nat) (kl : Int) (nl ml : ByteArray) (il dl : Int) (sl : List Ex) (pl : Option Addr) (cl : Nat) (kr : Int) (nr mr : ByteArray) (ir dr : Int) (sr : List Ex) (pr : Option Addr) (cr : Nat) (P : Nat → Prop) (w : World)
    (hP : ∀ b, P b → b < w.heap.size) (_hmb : nodesL sb ≤ 1048576) (hml : nodesL sl ≤ 1048576) (hmr : nodesL sr ≤ 1048576) (hB : SubP w P sb (.slice pb sb.length cb)) (hL : SubP w P sl (.slice pl sl.length cl)) (hR : SubP w P sr (.slice pr sr.length cr))
    (h1 : sameE (.mk kl nl ml il dl sl) (.mk kr nr mr ir dr sr) = false) (h2 : sameE (.mk kr nr mr ir dr sr) (.mk kb nb mb ib db sb) = false) (h3 : sameE (.mk kl nl ml il dl sl) (.mk kb nb mb ib db sb) = false) (h4 : alikeE (.mk kb nb mb ib db sb) (.mk kl nl ml il dl sl) = true) (h5 : alikeE (.mk kb nb mb ib db sb) (.mk kr nr mr ir dr sr) = true) (h6 : (kb != 15) = false) :
    Calls Tryd.prog 30 #[.agg (ev kb nb mb ib db pb sb.length cb), .agg (ev kl nl ml il dl pl sl.length cl), .agg (ev kr nr mr ir dr pr sr.length cr)] w (RetEx P w (sumE (.mk kl nl ml il dl sl) (.mk kb nb mb ib db sb) (.mk kr nr mr ir dr sr))) := by
  have HQ1 : Hid (∀ W, MFrame w (ev kb nb mb ib db pb sb.length cb) (ev kl nl ml il dl pl sl.length cl) (ev kr nr mr ir dr pr sr.length cr) W → Calls Tryd.prog 42 #[.agg (ev kl nl ml il dl pl sl.length cl), .agg (ev kr nr mr ir dr pr sr.length cr)] W fun e w' => e = .returned (.bool false) ∧ Below W.heap.size W w') := Lib.hid (fun W hF => by
    have h := mequal_any (nodesL sl + 1) kl nl ml il dl sl (.slice pl sl.length cl) kr nr mr ir dr sr (.slice pr sr.length cr) W (by omega) (by omega) (subAt_below (subAt_of hP hL) hF.below hF.below.size) (subAt_below (subAt_of hP hR) hF.below hF.below.size)
    rw [h1] at h; exact h)
  have HQ2 : Hid (∀ W, MFrame w (ev kb nb mb ib db pb sb.length cb) (ev kl nl ml il dl pl sl.length cl) (ev kr nr mr ir dr pr sr.length cr) W → Calls Tryd.prog 42 #[.agg (ev kr nr mr ir dr pr sr.length cr), .agg (ev kb nb mb ib db pb sb.length cb)] W fun e w' => e = .returned (.bool false) ∧ Below W.heap.size W w') := Lib.hid (fun W hF => by
    have h := mequal_any (nodesL sr + 1) kr nr mr ir dr sr (.slice pr sr.length cr) kb nb mb ib db sb (.slice pb sb.length cb) W (by omega) (by omega) (subAt_below (subAt_of hP hR) hF.below hF.below.size) (subAt_below (subAt_of hP hB) hF.below hF.below.size)
    rw [h2] at h; exact h)
  have HQ3 : Hid (∀ W, MFrame w (ev kb nb mb ib db pb sb.length cb) (ev kl nl ml il dl pl sl.length cl) (ev kr nr mr ir dr pr sr.length cr) W → Calls Tryd.prog 42 #[.agg (ev kl nl ml il dl pl sl.length cl), .agg (ev kb nb mb ib db pb sb.length cb)] W fun e w' => e = .returned (.bool false) ∧ Below W.heap.size W w') := Lib.hid (fun W hF => by
    have h := mequal_any (nodesL sl + 1) kl nl ml il dl sl (.slice pl sl.length cl) kb nb mb ib db sb (.slice pb sb.length cb) W (by omega) (by omega) (subAt_below (subAt_of hP hL) hF.below hF.below.size) (subAt_below (subAt_of hP hB) hF.below hF.below.size)
    rw [h3] at h; exact h)
  have HA1 : Hid (∀ W : World, Calls Tryd.prog 43 #[.agg (ev kb nb mb ib db pb sb.length cb), .agg (ev kl nl ml il dl pl sl.length cl)] W fun e w' => e = .returned (.bool true) ∧ Below W.heap.size W w') := Lib.hid (fun W => by
    have h := malike_any kb nb mb ib db sb pb cb kl nl ml il dl sl pl cl W
    rw [h4] at h; exact h)
  have HA2 : Hid (∀ W : World, Calls Tryd.prog 43 #[.agg (ev kb nb mb ib db pb sb.length cb), .agg (ev kr nr mr ir dr pr sr.length cr)] W fun e w' => e = .returned (.bool true) ∧ Below W.heap.size W w') := Lib.hid (fun W => by
    have h := malike_any kb nb mb ib db sb pb cb kr nr mr ir dr sr pr cr W
    rw [h5] at h; exact h)
  obtain ⟨W, hW, hF, hz⟩ := mframe_start w (ev kb nb mb ib db pb sb.length cb) (ev kl nl ml il dl pl sl.length cl) (ev kr nr mr ir dr pr sr.length cr)
  have HW := Lib.hid hW
  have HP := Lib.hid hP
  have HB := Lib.hid hB
  have HL := Lib.hid hL
  have HR := Lib.hid hR
  have HF := Lib.hid hF
  clear hW hP hL hB hR hF
  have hmk := mk3
  go_enter Tryd.func30, Tryd.ntmps30
  go_wp2_with fail
  rw [HW.out]
  refine (HQ1.out _ HF.out).mono ?_
  rintro e W1 ⟨rfl, hb1⟩
  have HF1 := Lib.hid (HF.out.kept hb1)
  obtain ⟨b0, b1, b2, b3, b4, b5⟩ := cells6 HF1.out.b
  obtain ⟨l0, l1, l2, l3, l4, l5⟩ := cells6 HF1.out.l
  obtain ⟨r0, r1, r2, r3, r4, r5⟩ := cells6 HF1.out.r
  go_wp2_with fail
  refine (HQ2.out _ HF1.out).mono ?_
  rintro e W2 ⟨rfl, hb2⟩
  have HF2 := Lib.hid (HF1.out.kept hb2)
  clear b0 b1 b2 b3 b4 b5 l0 l1 l2 l3 l4 l5 r0 r1 r2 r3 r4 r5
  obtain ⟨b0, b1, b2, b3, b4, b5⟩ := cells6 HF2.out.b
  obtain ⟨l0, l1, l2, l3, l4, l5⟩ := cells6 HF2.out.l
  obtain ⟨r0, r1, r2, r3, r4, r5⟩ := cells6 HF2.out.r
  go_wp2_with fail
  refine (HQ3.out _ HF2.out).mono ?_
  rintro e W3 ⟨rfl, hb3⟩
  have HF3 := Lib.hid (HF2.out.kept hb3)
  clear b0 b1 b2 b3 b4 b5 l0 l1 l2 l3 l4 l5 r0 r1 r2 r3 r4 r5
  obtain ⟨b0, b1, b2, b3, b4, b5⟩ := cells6 HF3.out.b
  obtain ⟨l0, l1, l2, l3, l4, l5⟩ := cells6 HF3.out.l
  obtain ⟨r0, r1, r2, r3, r4, r5⟩ := cells6 HF3.out.r
  go_wp2_with fail
  refine (HA1.out _).mono ?_
  rintro e W4 ⟨rfl, hb4⟩
  have HF4 := Lib.hid (HF3.out.kept hb4)
  clear b0 b1 b2 b3 b4 b5 l0 l1 l2 l3 l4 l5 r0 r1 r2 r3 r4 r5
  obtain ⟨b0, b1, b2, b3, b4, b5⟩ := cells6 HF4.out.b
  obtain ⟨l0, l1, l2, l3, l4, l5⟩ := cells6 HF4.out.l
  obtain ⟨r0, r1, r2, r3, r4, r5⟩ := cells6 HF4.out.r
  go_wp2_with fail
  refine (HA2.out _).mono ?_
  rintro e W5 ⟨rfl, hb5⟩
  have HF5 := Lib.hid (HF4.out.kept hb5)
  clear b0 b1 b2 b3 b4 b5 l0 l1 l2 l3 l4 l5 r0 r1 r2 r3 r4 r5
  obtain ⟨b0, b1, b2, b3, b4, b5⟩ := cells6 HF5.out.b
  obtain ⟨l0, l1, l2, l3, l4, l5⟩ := cells6 HF5.out.l
  obtain ⟨r0, r1, r2, r3, r4, r5⟩ := cells6 HF5.out.r
  obtain ⟨z0, z1, z2, z3, z4, z5⟩ := cells6 HF5.out.res
  obtain ⟨f0, f1, f2, f3, f4, f5⟩ := free6 HF5.out.res
  have q0 : w.heap.size < W5.heap.size := by have := HF5.out.size; omega
  have q1 : w.heap.size + 1 < W5.heap.size := by have := HF5.out.size; omega
  have q2 : w.heap.size + 1 + 1 < W5.heap.size := by have := HF5.out.size; omega
  obtain ⟨W9, hcp, hrow, hbel⟩ := copy3 W5 (kl := kl) (nl := nl) (ml := ml) (il := il) (dl := dl) (pl := pl) (ql := sl.length) (cl := cl) (kb := kb) (nb := nb) (mb := mb) (ib := ib) (db := db) (pb := pb) (qb := sb.length) (cb := cb) (kr := kr) (nr := nr) (mr := mr) (ir := ir) (dr := dr) (pr := pr) (qr := sr.length) (cr := cr)
  have HROW := Lib.hid hrow
  have HF9 := Lib.hid (HF5.out.kept hbel)
  have HBEL := Lib.hid hbel
  obtain ⟨y0, y1, y2, y3, y4, y5⟩ := cells6 HF9.out.res
  obtain ⟨g0, g1, g2, g3, g4, g5⟩ := free6 HF9.out.res
  clear hrow hbel
  go_wp2_with fail
  have hbz := below6 HF9.out.below (g := w.heap.size + 1 + 1 + 1) (by omega) (.int .i64 15) (.string ⟨#[]⟩) (.string ⟨#[]⟩) (.int .i64 0) (.int .i64 0) (.slice (some ⟨W5.heap.size, 0, none⟩) 3 3)
  have q3 : W5.heap.size ≠ w.heap.size + 1 + 1 + 1 := by have := HF5.out.size; omega
  have q4 : w.heap.size ≤ W5.heap.size := by omega
  have hst := stay6 (A := W9) (g := w.heap.size + 1 + 1 + 1) (.int .i64 15) (.string ⟨#[]⟩) (.string ⟨#[]⟩) (.int .i64 0) (.int .i64 0) (.slice (some ⟨W5.heap.size, 0, none⟩) 3 3)
  have hsz10 := (Array.getElem?_eq_some_iff.1 HROW.out).1
  refine bodyPost_ret (v := .agg #[.int .i64 15, .string ⟨#[]⟩, .string ⟨#[]⟩, .int .i64 0, .int .i64 0, .slice (some ⟨W5.heap.size, 0, none⟩) 3 3]) (by simp [results, Tryd.results30, go_sem, y0, y1, y2, y3, y4, y5]) rfl ⟨_, rfl, exP_iff.2 ⟨_, rfl, ?_⟩, hbz⟩
  refine sum_sub (by rw [size6]; exact .inr ⟨q4, hsz10⟩) (fun j v h => (hst _ _ q3).trans ?_) (subP_stay (fun _ h => .inl h) (stay_below hbz HP.out) HL.out) (subP_stay (fun _ h => .inl h) (stay_below hbz HP.out) HB.out) (subP_stay (fun _ h => .inl h) (stay_below hbz HP.out) HR.out)
  simp only [World.cell?, HROW.out]
  simpa using h
set_option maxRecDepth 100000 in
set_option maxHeartbeats 4000000 in
theorem mmerge_4d (kb : Int) (nb mb : ByteArray) (ib db : Int) (sb : List Ex) (pb : Option Addr) (cb : Nat) (kl : Int) (nl ml : ByteArray) (il dl : Int) (sl : List Ex) (pl : Option Addr) (cl : Nat) (kr : Int) (nr mr : ByteArray) (ir dr : Int) (sr : List Ex) (pr : Option Addr) (cr : Nat) (P : Nat → Prop) (w : World)
    (hP : ∀ b, P b → b < w.heap.size) (_hmb : nodesL sb ≤ 1048576) (hml : nodesL sl ≤ 1048576) (hmr : nodesL sr ≤ 1048576) (hB : SubP w P sb (.slice pb sb.length cb)) (hL : SubP w P sl (.slice pl sl.length cl)) (hR : SubP w P sr (.slice pr sr.length cr))
    (h1 : sameE (.mk kl nl ml il dl sl) (.mk kr nr mr ir dr sr) = false) (h2 : sameE (.mk kr nr mr ir dr sr) (.mk kb nb mb ib db sb) = false) (h3 : sameE (.mk kl nl ml il dl sl) (.mk kb nb mb ib db sb) = false) (h4 : alikeE (.mk kb nb mb ib db sb) (.mk kl nl ml il dl sl) = true) (h5 : alikeE (.mk kb nb mb ib db sb) (.mk kr nr mr ir dr sr) = true) (h6 : (kb != 15) = true) (h7 : decide (0 < sb.length) = false) :
    Calls Tryd.prog 30 #[.agg (ev kb nb mb ib db pb sb.length cb), .agg (ev kl nl ml il dl pl sl.length cl), .agg (ev kr nr mr ir dr pr sr.length cr)] w (RetEx P w (sumE (.mk kl nl ml il dl sl) (.mk kb nb mb ib db sb) (.mk kr nr mr ir dr sr))) := by
  have HQ1 : Hid (∀ W, MFrame w (ev kb nb mb ib db pb sb.length cb) (ev kl nl ml il dl pl sl.length cl) (ev kr nr mr ir dr pr sr.length cr) W → Calls Tryd.prog 42 #[.agg (ev kl nl ml il dl pl sl.length cl), .agg (ev kr nr mr ir dr pr sr.length cr)] W fun e w' => e = .returned (.bool false) ∧ Below W.heap.size W w') := Lib.hid (fun W hF => by
    have h := mequal_any (nodesL sl + 1) kl nl ml il dl sl (.slice pl sl.length cl) kr nr mr ir dr sr (.slice pr sr.length cr) W (by omega) (by omega) (subAt_below (subAt_of hP hL) hF.below hF.below.size) (subAt_below (subAt_of hP hR) hF.below hF.below.size)
    rw [h1] at h; exact h)
  have HQ2 : Hid (∀ W, MFrame w (ev kb nb mb ib db pb sb.length cb) (ev kl nl ml il dl pl sl.length cl) (ev kr nr mr ir dr pr sr.length cr) W → Calls Tryd.prog 42 #[.agg (ev kr nr mr ir dr pr sr.length cr), .agg (ev kb nb mb ib db pb sb.length cb)] W fun e w' => e = .returned (.bool false) ∧ Below W.heap.size W w') := Lib.hid (fun W hF => by
    have h := mequal_any (nodesL sr + 1) kr nr mr ir dr sr (.slice pr sr.length cr) kb nb mb ib db sb (.slice pb sb.length cb) W (by omega) (by omega) (subAt_below (subAt_of hP hR) hF.below hF.below.size) (subAt_below (subAt_of hP hB) hF.below hF.below.size)
    rw [h2] at h; exact h)
  have HQ3 : Hid (∀ W, MFrame w (ev kb nb mb ib db pb sb.length cb) (ev kl nl ml il dl pl sl.length cl) (ev kr nr mr ir dr pr sr.length cr) W → Calls Tryd.prog 42 #[.agg (ev kl nl ml il dl pl sl.length cl), .agg (ev kb nb mb ib db pb sb.length cb)] W fun e w' => e = .returned (.bool false) ∧ Below W.heap.size W w') := Lib.hid (fun W hF => by
    have h := mequal_any (nodesL sl + 1) kl nl ml il dl sl (.slice pl sl.length cl) kb nb mb ib db sb (.slice pb sb.length cb) W (by omega) (by omega) (subAt_below (subAt_of hP hL) hF.below hF.below.size) (subAt_below (subAt_of hP hB) hF.below hF.below.size)
    rw [h3] at h; exact h)
  have HA1 : Hid (∀ W : World, Calls Tryd.prog 43 #[.agg (ev kb nb mb ib db pb sb.length cb), .agg (ev kl nl ml il dl pl sl.length cl)] W fun e w' => e = .returned (.bool true) ∧ Below W.heap.size W w') := Lib.hid (fun W => by
    have h := malike_any kb nb mb ib db sb pb cb kl nl ml il dl sl pl cl W
    rw [h4] at h; exact h)
  have HA2 : Hid (∀ W : World, Calls Tryd.prog 43 #[.agg (ev kb nb mb ib db pb sb.length cb), .agg (ev kr nr mr ir dr pr sr.length cr)] W fun e w' => e = .returned (.bool true) ∧ Below W.heap.size W w') := Lib.hid (fun W => by
    have h := malike_any kb nb mb ib db sb pb cb kr nr mr ir dr sr pr cr W
    rw [h5] at h; exact h)
  obtain ⟨W, hW, hF, hz⟩ := mframe_start w (ev kb nb mb ib db pb sb.length cb) (ev kl nl ml il dl pl sl.length cl) (ev kr nr mr ir dr pr sr.length cr)
  have HW := Lib.hid hW
  have HP := Lib.hid hP
  have HB := Lib.hid hB
  have HL := Lib.hid hL
  have HR := Lib.hid hR
  have HF := Lib.hid hF
  clear hW hP hL hB hR hF
  have hmk := mk3
  go_enter Tryd.func30, Tryd.ntmps30
  go_wp2_with fail
  rw [HW.out]
  refine (HQ1.out _ HF.out).mono ?_
  rintro e W1 ⟨rfl, hb1⟩
  have HF1 := Lib.hid (HF.out.kept hb1)
  obtain ⟨b0, b1, b2, b3, b4, b5⟩ := cells6 HF1.out.b
  obtain ⟨l0, l1, l2, l3, l4, l5⟩ := cells6 HF1.out.l
  obtain ⟨r0, r1, r2, r3, r4, r5⟩ := cells6 HF1.out.r
  go_wp2_with fail
  refine (HQ2.out _ HF1.out).mono ?_
  rintro e W2 ⟨rfl, hb2⟩
  have HF2 := Lib.hid (HF1.out.kept hb2)
  clear b0 b1 b2 b3 b4 b5 l0 l1 l2 l3 l4 l5 r0 r1 r2 r3 r4 r5
  obtain ⟨b0, b1, b2, b3, b4, b5⟩ := cells6 HF2.out.b
  obtain ⟨l0, l1, l2, l3, l4, l5⟩ := cells6 HF2.out.l
  obtain ⟨r0, r1, r2, r3, r4, r5⟩ := cells6 HF2.out.r
  go_wp2_with fail
  refine (HQ3.out _ HF2.out).mono ?_
  rintro e W3 ⟨rfl, hb3⟩
  have HF3 := Lib.hid (HF2.out.kept hb3)
  clear b0 b1 b2 b3 b4 b5 l0 l1 l2 l3 l4 l5 r0 r1 r2 r3 r4 r5
  obtain ⟨b0, b1, b2, b3, b4, b5⟩ := cells6 HF3.out.b
  obtain ⟨l0, l1, l2, l3, l4, l5⟩ := cells6 HF3.out.l
  obtain ⟨r0, r1, r2, r3, r4, r5⟩ := cells6 HF3.out.r
  go_wp2_with fail
  refine (HA1.out _).mono ?_
  rintro e W4 ⟨rfl, hb4⟩
  have HF4 := Lib.hid (HF3.out.kept hb4)
  clear b0 b1 b2 b3 b4 b5 l0 l1 l2 l3 l4 l5 r0 r1 r2 r3 r4 r5
  obtain ⟨b0, b1, b2, b3, b4, b5⟩ := cells6 HF4.out.b
  obtain ⟨l0, l1, l2, l3, l4, l5⟩ := cells6 HF4.out.l
  obtain ⟨r0, r1, r2, r3, r4, r5⟩ := cells6 HF4.out.r
  go_wp2_with fail
  refine (HA2.out _).mono ?_
  rintro e W5 ⟨rfl, hb5⟩
  have HF5 := Lib.hid (HF4.out.kept hb5)
  clear b0 b1 b2 b3 b4 b5 l0 l1 l2 l3 l4 l5 r0 r1 r2 r3 r4 r5
  obtain ⟨b0, b1, b2, b3, b4, b5⟩ := cells6 HF5.out.b
  obtain ⟨l0, l1, l2, l3, l4, l5⟩ := cells6 HF5.out.l
  obtain ⟨r0, r1, r2, r3, r4, r5⟩ := cells6 HF5.out.r
  obtain ⟨z0, z1, z2, z3, z4, z5⟩ := cells6 HF5.out.res
  obtain ⟨f0, f1, f2, f3, f4, f5⟩ := free6 HF5.out.res
  have q0 : w.heap.size < W5.heap.size := by have := HF5.out.size; omega
  have q1 : w.heap.size + 1 < W5.heap.size := by have := HF5.out.size; omega
  have q2 : w.heap.size + 1 + 1 < W5.heap.size := by have := HF5.out.size; omega
  obtain ⟨W9, hcp, hrow, hbel⟩ := copy3 W5 (kl := kl) (nl := nl) (ml := ml) (il := il) (dl := dl) (pl := pl) (ql := sl.length) (cl := cl) (kb := kb) (nb := nb) (mb := mb) (ib := ib) (db := db) (pb := pb) (qb := sb.length) (cb := cb) (kr := kr) (nr := nr) (mr := mr) (ir := ir) (dr := dr) (pr := pr) (qr := sr.length) (cr := cr)
  have HROW := Lib.hid hrow
  have HF9 := Lib.hid (HF5.out.kept hbel)
  have HBEL := Lib.hid hbel
  obtain ⟨y0, y1, y2, y3, y4, y5⟩ := cells6 HF9.out.res
  obtain ⟨g0, g1, g2, g3, g4, g5⟩ := free6 HF9.out.res
  clear hrow hbel
  go_wp2_with fail
  have hbz := below6 HF9.out.below (g := w.heap.size + 1 + 1 + 1) (by omega) (.int .i64 15) (.string ⟨#[]⟩) (.string ⟨#[]⟩) (.int .i64 0) (.int .i64 0) (.slice (some ⟨W5.heap.size, 0, none⟩) 3 3)
  have q3 : W5.heap.size ≠ w.heap.size + 1 + 1 + 1 := by have := HF5.out.size; omega
  have q4 : w.heap.size ≤ W5.heap.size := by omega
  have hst := stay6 (A := W9) (g := w.heap.size + 1 + 1 + 1) (.int .i64 15) (.string ⟨#[]⟩) (.string ⟨#[]⟩) (.int .i64 0) (.int .i64 0) (.slice (some ⟨W5.heap.size, 0, none⟩) 3 3)
  have hsz10 := (Array.getElem?_eq_some_iff.1 HROW.out).1
  refine bodyPost_ret (v := .agg #[.int .i64 15, .string ⟨#[]⟩, .string ⟨#[]⟩, .int .i64 0, .int .i64 0, .slice (some ⟨W5.heap.size, 0, none⟩) 3 3]) (by simp [results, Tryd.results30, go_sem, y0, y1, y2, y3, y4, y5]) rfl ⟨_, rfl, exP_iff.2 ⟨_, rfl, ?_⟩, hbz⟩
  refine sum_sub (by rw [size6]; exact .inr ⟨q4, hsz10⟩) (fun j v h => (hst _ _ q3).trans ?_) (subP_stay (fun _ h => .inl h) (stay_below hbz HP.out) HL.out) (subP_stay (fun _ h => .inl h) (stay_below hbz HP.out) HB.out) (subP_stay (fun _ h => .inl h) (stay_below hbz HP.out) HR.out)
  simp only [World.cell?, HROW.out]
  simpa using h
end Go.Proofs.YtiagjpiclnmpkaaDoor
