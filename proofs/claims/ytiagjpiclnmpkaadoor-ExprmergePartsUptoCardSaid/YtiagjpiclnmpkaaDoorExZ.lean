/- merge of the reference of layer 32: its ways. -/
import Derived.Test.YtiagjpiclnmpkaaDoorExU
import Derived.Test.YtiagjpiclnmpkaaDoorGW
namespace Go.Proofs.YtiagjpiclnmpkaaDoor
open Go.RowKit Go.ChangeShapes Go.WideShapes

set_option maxRecDepth 100000 in
set_option maxHeartbeats 4000000 in
theorem rmerge_1 (kb : Int) (nb mb : ByteArray) (ib db : Int) (sb : List Ex) (pb : Option Addr) (cb : Nat) (kl : Int) (nl ml : ByteArray) (il dl : Int) (sl : List Ex) (pl : Option Addr) (cl : Nat) (kr : Int) (nr mr : ByteArray) (ir dr : Int) (sr : List Ex) (pr : Option Addr) (cr : Nat) (P : Nat → Prop) (w : World)
    (hP : ∀ b, P b → b < w.heap.size) (_hmb : nodesL sb ≤ 1048576) (hml : nodesL sl ≤ 1048576) (_hmr : nodesL sr ≤ 1048576) (hB : SubP w P sb (.slice pb sb.length cb)) (hL : SubP w P sl (.slice pl sl.length cl)) (hR : SubP w P sr (.slice pr sr.length cr))
    (h1 : sameE (.mk kl nl ml il dl sl) (.mk kr nr mr ir dr sr) = true) :
    Calls Tryd.prog 31 #[.agg (ev kb nb mb ib db pb sb.length cb), .agg (ev kl nl ml il dl pl sl.length cl), .agg (ev kr nr mr ir dr pr sr.length cr)] w (RetEx P w (.mk kl nl ml il dl sl)) := by
  have HQ1 : Hid (∀ W, MFrame w (ev kb nb mb ib db pb sb.length cb) (ev kl nl ml il dl pl sl.length cl) (ev kr nr mr ir dr pr sr.length cr) W → Calls Tryd.prog 14 #[.agg (ev kl nl ml il dl pl sl.length cl), .agg (ev kr nr mr ir dr pr sr.length cr)] W fun e w' => e = .returned (.bool true) ∧ Below W.heap.size W w') := Lib.hid (fun W hF => by
    have h := rSame_any (nodesL sl + 1) kl nl ml il dl sl (.slice pl sl.length cl) kr nr mr ir dr sr (.slice pr sr.length cr) W (by omega) (by omega) (subAt_below (subAt_of hP hL) hF.below hF.below.size) (subAt_below (subAt_of hP hR) hF.below hF.below.size)
    rw [h1] at h; exact h)
  obtain ⟨W, hW, hF, hz⟩ := mframe_start w (ev kb nb mb ib db pb sb.length cb) (ev kl nl ml il dl pl sl.length cl) (ev kr nr mr ir dr pr sr.length cr)
  have HW := Lib.hid hW
  have HP := Lib.hid hP
  have HB := Lib.hid hB
  have HL := Lib.hid hL
  have HR := Lib.hid hR
  have HF := Lib.hid hF
  clear hW hP hL hB hR hF
  go_enter Tryd.func31, Tryd.ntmps31
  go_wp2_with fail
  rw [HW.out]
  refine (HQ1.out _ HF.out).mono ?_
  rintro e W1 ⟨rfl, hb1⟩
  have HF1 := Lib.hid (HF.out.kept hb1)
  obtain ⟨b0, b1, b2, b3, b4, b5⟩ := cells6 HF1.out.b
  obtain ⟨l0, l1, l2, l3, l4, l5⟩ := cells6 HF1.out.l
  obtain ⟨r0, r1, r2, r3, r4, r5⟩ := cells6 HF1.out.r
  obtain ⟨z0, z1, z2, z3, z4, z5⟩ := cells6 HF1.out.res
  obtain ⟨f0, f1, f2, f3, f4, f5⟩ := free6 HF1.out.res
  go_wp2_with fail
  have hbz := below6 HF1.out.below (g := w.heap.size + 1 + 1 + 1) (by omega) (.int .i64 kl) (.string nl) (.string ml) (.int .i64 il) (.int .i64 dl) (.slice pl sl.length cl)
  refine bodyPost_ret (v := .agg (ev kl nl ml il dl pl sl.length cl)) (by simp [results, Tryd.results31, go_sem, z0, z1, z2, z3, z4, z5]) rfl ⟨_, rfl, exP_iff.2 ⟨_, rfl, subP_stay (fun _ h => .inl h) (stay_below hbz HP.out) HL.out⟩, hbz⟩
set_option maxRecDepth 100000 in
set_option maxHeartbeats 4000000 in
theorem rmerge_2 (kb : Int) (nb mb : ByteArray) (ib db : Int) (sb : List Ex) (pb : Option Addr) (cb : Nat) (kl : Int) (nl ml : ByteArray) (il dl : Int) (sl : List Ex) (pl : Option Addr) (cl : Nat) (kr : Int) (nr mr : ByteArray) (ir dr : Int) (sr : List Ex) (pr : Option Addr) (cr : Nat) (P : Nat → Prop) (w : World)
    (hP : ∀ b, P b → b < w.heap.size) (_hmb : nodesL sb ≤ 1048576) (hml : nodesL sl ≤ 1048576) (hmr : nodesL sr ≤ 1048576) (hB : SubP w P sb (.slice pb sb.length cb)) (hL : SubP w P sl (.slice pl sl.length cl)) (hR : SubP w P sr (.slice pr sr.length cr))
    (h1 : sameE (.mk kl nl ml il dl sl) (.mk kr nr mr ir dr sr) = false) (h2 : sameE (.mk kr nr mr ir dr sr) (.mk kb nb mb ib db sb) = true) :
    Calls Tryd.prog 31 #[.agg (ev kb nb mb ib db pb sb.length cb), .agg (ev kl nl ml il dl pl sl.length cl), .agg (ev kr nr mr ir dr pr sr.length cr)] w (RetEx P w (.mk kl nl ml il dl sl)) := by
  have HQ1 : Hid (∀ W, MFrame w (ev kb nb mb ib db pb sb.length cb) (ev kl nl ml il dl pl sl.length cl) (ev kr nr mr ir dr pr sr.length cr) W → Calls Tryd.prog 14 #[.agg (ev kl nl ml il dl pl sl.length cl), .agg (ev kr nr mr ir dr pr sr.length cr)] W fun e w' => e = .returned (.bool false) ∧ Below W.heap.size W w') := Lib.hid (fun W hF => by
    have h := rSame_any (nodesL sl + 1) kl nl ml il dl sl (.slice pl sl.length cl) kr nr mr ir dr sr (.slice pr sr.length cr) W (by omega) (by omega) (subAt_below (subAt_of hP hL) hF.below hF.below.size) (subAt_below (subAt_of hP hR) hF.below hF.below.size)
    rw [h1] at h; exact h)
  have HQ2 : Hid (∀ W, MFrame w (ev kb nb mb ib db pb sb.length cb) (ev kl nl ml il dl pl sl.length cl) (ev kr nr mr ir dr pr sr.length cr) W → Calls Tryd.prog 14 #[.agg (ev kr nr mr ir dr pr sr.length cr), .agg (ev kb nb mb ib db pb sb.length cb)] W fun e w' => e = .returned (.bool true) ∧ Below W.heap.size W w') := Lib.hid (fun W hF => by
    have h := rSame_any (nodesL sr + 1) kr nr mr ir dr sr (.slice pr sr.length cr) kb nb mb ib db sb (.slice pb sb.length cb) W (by omega) (by omega) (subAt_below (subAt_of hP hR) hF.below hF.below.size) (subAt_below (subAt_of hP hB) hF.below hF.below.size)
    rw [h2] at h; exact h)
  obtain ⟨W, hW, hF, hz⟩ := mframe_start w (ev kb nb mb ib db pb sb.length cb) (ev kl nl ml il dl pl sl.length cl) (ev kr nr mr ir dr pr sr.length cr)
  have HW := Lib.hid hW
  have HP := Lib.hid hP
  have HB := Lib.hid hB
  have HL := Lib.hid hL
  have HR := Lib.hid hR
  have HF := Lib.hid hF
  clear hW hP hL hB hR hF
  go_enter Tryd.func31, Tryd.ntmps31
  go_wp2_with fail
  rw [HW.out]
  refine (HQ1.out _ HF.out).mono ?_
  rintro e W1 ⟨rfl, hb1⟩
  have HF1 := Lib.hid (HF.out.kept hb1)
  obtain ⟨b0, b1, b2, b3, b4, b5⟩ := cells6 HF1.out.b
  obtain ⟨l0, l1, l2, l3, l4, l5⟩ := cells6 HF1.out.l
  obtain ⟨r0, r1, r2, r3, r4, r5⟩ := cells6 HF1.out.r
  go_wp2_with fail
  refine (HQ2.out _ HF1.out).mono ?_
  rintro e W2 ⟨rfl, hb2⟩
  have HF2 := Lib.hid (HF1.out.kept hb2)
  clear b0 b1 b2 b3 b4 b5 l0 l1 l2 l3 l4 l5 r0 r1 r2 r3 r4 r5
  obtain ⟨b0, b1, b2, b3, b4, b5⟩ := cells6 HF2.out.b
  obtain ⟨l0, l1, l2, l3, l4, l5⟩ := cells6 HF2.out.l
  obtain ⟨r0, r1, r2, r3, r4, r5⟩ := cells6 HF2.out.r
  obtain ⟨z0, z1, z2, z3, z4, z5⟩ := cells6 HF2.out.res
  obtain ⟨f0, f1, f2, f3, f4, f5⟩ := free6 HF2.out.res
  go_wp2_with fail
  have hbz := below6 HF2.out.below (g := w.heap.size + 1 + 1 + 1) (by omega) (.int .i64 kl) (.string nl) (.string ml) (.int .i64 il) (.int .i64 dl) (.slice pl sl.length cl)
  refine bodyPost_ret (v := .agg (ev kl nl ml il dl pl sl.length cl)) (by simp [results, Tryd.results31, go_sem, z0, z1, z2, z3, z4, z5]) rfl ⟨_, rfl, exP_iff.2 ⟨_, rfl, subP_stay (fun _ h => .inl h) (stay_below hbz HP.out) HL.out⟩, hbz⟩
set_option maxRecDepth 100000 in
set_option maxHeartbeats 4000000 in
theorem rmerge_3 (kb : Int) (nb mb : ByteArray) (ib db : Int) (sb : List Ex) (pb : Option Addr) (cb : Nat) (kl : Int) (nl ml : ByteArray) (il dl : Int) (sl : List Ex) (pl : Option Addr) (cl : Nat) (kr : Int) (nr mr : ByteArray) (ir dr : Int) (sr : List Ex) (pr : Option Addr) (cr : Nat) (P : Nat → Prop) (w : World)
    (hP : ∀ b, P b → b < w.heap.size) (_hmb : nodesL sb ≤ 1048576) (hml : nodesL sl ≤ 1048576) (hmr : nodesL sr ≤ 1048576) (hB : SubP w P sb (.slice pb sb.length cb)) (hL : SubP w P sl (.slice pl sl.length cl)) (hR : SubP w P sr (.slice pr sr.length cr))
    (h1 : sameE (.mk kl nl ml il dl sl) (.mk kr nr mr ir dr sr) = false) (h2 : sameE (.mk kr nr mr ir dr sr) (.mk kb nb mb ib db sb) = false) (h3 : sameE (.mk kl nl ml il dl sl) (.mk kb nb mb ib db sb) = true) :
    Calls Tryd.prog 31 #[.agg (ev kb nb mb ib db pb sb.length cb), .agg (ev kl nl ml il dl pl sl.length cl), .agg (ev kr nr mr ir dr pr sr.length cr)] w (RetEx P w (.mk kr nr mr ir dr sr)) := by
  have HQ1 : Hid (∀ W, MFrame w (ev kb nb mb ib db pb sb.length cb) (ev kl nl ml il dl pl sl.length cl) (ev kr nr mr ir dr pr sr.length cr) W → Calls Tryd.prog 14 #[.agg (ev kl nl ml il dl pl sl.length cl), .agg (ev kr nr mr ir dr pr sr.length cr)] W fun e w' => e = .returned (.bool false) ∧ Below W.heap.size W w') := Lib.hid (fun W hF => by
    have h := rSame_any (nodesL sl + 1) kl nl ml il dl sl (.slice pl sl.length cl) kr nr mr ir dr sr (.slice pr sr.length cr) W (by omega) (by omega) (subAt_below (subAt_of hP hL) hF.below hF.below.size) (subAt_below (subAt_of hP hR) hF.below hF.below.size)
    rw [h1] at h; exact h)
  have HQ2 : Hid (∀ W, MFrame w (ev kb nb mb ib db pb sb.length cb) (ev kl nl ml il dl pl sl.length cl) (ev kr nr mr ir dr pr sr.length cr) W → Calls Tryd.prog 14 #[.agg (ev kr nr mr ir dr pr sr.length cr), .agg (ev kb nb mb ib db pb sb.length cb)] W fun e w' => e = .returned (.bool false) ∧ Below W.heap.size W w') := Lib.hid (fun W hF => by
    have h := rSame_any (nodesL sr + 1) kr nr mr ir dr sr (.slice pr sr.length cr) kb nb mb ib db sb (.slice pb sb.length cb) W (by omega) (by omega) (subAt_below (subAt_of hP hR) hF.below hF.below.size) (subAt_below (subAt_of hP hB) hF.below hF.below.size)
    rw [h2] at h; exact h)
  have HQ3 : Hid (∀ W, MFrame w (ev kb nb mb ib db pb sb.length cb) (ev kl nl ml il dl pl sl.length cl) (ev kr nr mr ir dr pr sr.length cr) W → Calls Tryd.prog 14 #[.agg (ev kl nl ml il dl pl sl.length cl), .agg (ev kb nb mb ib db pb sb.length cb)] W fun e w' => e = .returned (.bool true) ∧ Below W.heap.size W w') := Lib.hid (fun W hF => by
    have h := rSame_any (nodesL sl + 1) kl nl ml il dl sl (.slice pl sl.length cl) kb nb mb ib db sb (.slice pb sb.length cb) W (by omega) (by omega) (subAt_below (subAt_of hP hL) hF.below hF.below.size) (subAt_below (subAt_of hP hB) hF.below hF.below.size)
    rw [h3] at h; exact h)
  obtain ⟨W, hW, hF, hz⟩ := mframe_start w (ev kb nb mb ib db pb sb.length cb) (ev kl nl ml il dl pl sl.length cl) (ev kr nr mr ir dr pr sr.length cr)
  have HW := Lib.hid hW
  have HP := Lib.hid hP
  have HB := Lib.hid hB
  have HL := Lib.hid hL
  have HR := Lib.hid hR
  have HF := Lib.hid hF
  clear hW hP hL hB hR hF
  go_enter Tryd.func31, Tryd.ntmps31
  go_wp2_with fail
  rw [HW.out]
  refine (HQ1.out _ HF.out).mono ?_
  rintro e W1 ⟨rfl, hb1⟩
  have HF1 := Lib.hid (HF.out.kept hb1)
  obtain ⟨b0, b1, b2, b3, b4, b5⟩ := cells6 HF1.out.b
  obtain ⟨l0, l1, l2, l3, l4, l5⟩ := cells6 HF1.out.l
  obtain ⟨r0, r1, r2, r3, r4, r5⟩ := cells6 HF1.out.r
  go_wp2_with fail
  refine (HQ2.out _ HF1.out).mono ?_
  rintro e W2 ⟨rfl, hb2⟩
  have HF2 := Lib.hid (HF1.out.kept hb2)
  clear b0 b1 b2 b3 b4 b5 l0 l1 l2 l3 l4 l5 r0 r1 r2 r3 r4 r5
  obtain ⟨b0, b1, b2, b3, b4, b5⟩ := cells6 HF2.out.b
  obtain ⟨l0, l1, l2, l3, l4, l5⟩ := cells6 HF2.out.l
  obtain ⟨r0, r1, r2, r3, r4, r5⟩ := cells6 HF2.out.r
  go_wp2_with fail
  refine (HQ3.out _ HF2.out).mono ?_
  rintro e W3 ⟨rfl, hb3⟩
  have HF3 := Lib.hid (HF2.out.kept hb3)
  clear b0 b1 b2 b3 b4 b5 l0 l1 l2 l3 l4 l5 r0 r1 r2 r3 r4 r5
  obtain ⟨b0, b1, b2, b3, b4, b5⟩ := cells6 HF3.out.b
  obtain ⟨l0, l1, l2, l3, l4, l5⟩ := cells6 HF3.out.l
  obtain ⟨r0, r1, r2, r3, r4, r5⟩ := cells6 HF3.out.r
  obtain ⟨z0, z1, z2, z3, z4, z5⟩ := cells6 HF3.out.res
  obtain ⟨f0, f1, f2, f3, f4, f5⟩ := free6 HF3.out.res
  go_wp2_with fail
  have hbz := below6 HF3.out.below (g := w.heap.size + 1 + 1 + 1) (by omega) (.int .i64 kr) (.string nr) (.string mr) (.int .i64 ir) (.int .i64 dr) (.slice pr sr.length cr)
  refine bodyPost_ret (v := .agg (ev kr nr mr ir dr pr sr.length cr)) (by simp [results, Tryd.results31, go_sem, z0, z1, z2, z3, z4, z5]) rfl ⟨_, rfl, exP_iff.2 ⟨_, rfl, subP_stay (fun _ h => .inl h) (stay_below hbz HP.out) HR.out⟩, hbz⟩
set_option maxRecDepth 100000 in
set_option maxHeartbeats 4000000 in
theorem rmerge_4a (kb : Int) (nb mb : ByteArray) (ib db : Int) (sb : List Ex) (pb : Option Addr) (cb : Nat) (kl : Int) (nl ml : ByteArray) (il dl : Int) (sl : List Ex) (pl : Option Addr) (cl : Nat) (kr : Int) (nr mr : ByteArray) (ir dr : Int) (sr : List Ex) (pr : Option Addr) (cr : Nat) (P : Nat → Prop) (w : World)
    (hP : ∀ b, P b → b < w.heap.size) (_hmb : nodesL sb ≤ 1048576) (hml : nodesL sl ≤ 1048576) (hmr : nodesL sr ≤ 1048576) (hB : SubP w P sb (.slice pb sb.length cb)) (hL : SubP w P sl (.slice pl sl.length cl)) (hR : SubP w P sr (.slice pr sr.length cr))
    (h1 : sameE (.mk kl nl ml il dl sl) (.mk kr nr mr ir dr sr) = false) (h2 : sameE (.mk kr nr mr ir dr sr) (.mk kb nb mb ib db sb) = false) (h3 : sameE (.mk kl nl ml il dl sl) (.mk kb nb mb ib db sb) = false) (h4 : alikeE (.mk kb nb mb ib db sb) (.mk kl nl ml il dl sl) = false) :
    Calls Tryd.prog 31 #[.agg (ev kb nb mb ib db pb sb.length cb), .agg (ev kl nl ml il dl pl sl.length cl), .agg (ev kr nr mr ir dr pr sr.length cr)] w (RetEx P w (sumE (.mk kl nl ml il dl sl) (.mk kb nb mb ib db sb) (.mk kr nr mr ir dr sr))) := by
  have HQ1 : Hid (∀ W, MFrame w (ev kb nb mb ib db pb sb.length cb) (ev kl nl ml il dl pl sl.length cl) (ev kr nr mr ir dr pr sr.length cr) W → Calls Tryd.prog 14 #[.agg (ev kl nl ml il dl pl sl.length cl), .agg (ev kr nr mr ir dr pr sr.length cr)] W fun e w' => e = .returned (.bool false) ∧ Below W.heap.size W w') := Lib.hid (fun W hF => by
    have h := rSame_any (nodesL sl + 1) kl nl ml il dl sl (.slice pl sl.length cl) kr nr mr ir dr sr (.slice pr sr.length cr) W (by omega) (by omega) (subAt_below (subAt_of hP hL) hF.below hF.below.size) (subAt_below (subAt_of hP hR) hF.below hF.below.size)
    rw [h1] at h; exact h)
  have HQ2 : Hid (∀ W, MFrame w (ev kb nb mb ib db pb sb.length cb) (ev kl nl ml il dl pl sl.length cl) (ev kr nr mr ir dr pr sr.length cr) W → Calls Tryd.prog 14 #[.agg (ev kr nr mr ir dr pr sr.length cr), .agg (ev kb nb mb ib db pb sb.length cb)] W fun e w' => e = .returned (.bool false) ∧ Below W.heap.size W w') := Lib.hid (fun W hF => by
    have h := rSame_any (nodesL sr + 1) kr nr mr ir dr sr (.slice pr sr.length cr) kb nb mb ib db sb (.slice pb sb.length cb) W (by omega) (by omega) (subAt_below (subAt_of hP hR) hF.below hF.below.size) (subAt_below (subAt_of hP hB) hF.below hF.below.size)
    rw [h2] at h; exact h)
  have HQ3 : Hid (∀ W, MFrame w (ev kb nb mb ib db pb sb.length cb) (ev kl nl ml il dl pl sl.length cl) (ev kr nr mr ir dr pr sr.length cr) W → Calls Tryd.prog 14 #[.agg (ev kl nl ml il dl pl sl.length cl), .agg (ev kb nb mb ib db pb sb.length cb)] W fun e w' => e = .returned (.bool false) ∧ Below W.heap.size W w') := Lib.hid (fun W hF => by
    have h := rSame_any (nodesL sl + 1) kl nl ml il dl sl (.slice pl sl.length cl) kb nb mb ib db sb (.slice pb sb.length cb) W (by omega) (by omega) (subAt_below (subAt_of hP hL) hF.below hF.below.size) (subAt_below (subAt_of hP hB) hF.below hF.below.size)
    rw [h3] at h; exact h)
  have HA1 : Hid (∀ W : World, Calls Tryd.prog 44 #[.agg (ev kb nb mb ib db pb sb.length cb), .agg (ev kl nl ml il dl pl sl.length cl)] W fun e w' => e = .returned (.bool false) ∧ Below W.heap.size W w') := Lib.hid (fun W => by
    have h := ralike_any kb nb mb ib db sb pb cb kl nl ml il dl sl pl cl W
    rw [h4] at h; exact h)
  obtain ⟨W, hW, hF, hz⟩ := mframe_start w (ev kb nb mb ib db pb sb.length cb) (ev kl nl ml il dl pl sl.length cl) (ev kr nr mr ir dr pr sr.length cr)
  have HW := Lib.hid hW
  have HP := Lib.hid hP
  have HB := Lib.hid hB
  have HL := Lib.hid hL
  have HR := Lib.hid hR
  have HF := Lib.hid hF
  clear hW hP hL hB hR hF
  go_enter Tryd.func31, Tryd.ntmps31
  go_wp2_with fail
  rw [HW.out]
  refine (HQ1.out _ HF.out).mono ?_
  rintro e W1 ⟨rfl, hb1⟩
  have HF1 := Lib.hid (HF.out.kept hb1)
  obtain ⟨b0, b1, b2, b3, b4, b5⟩ := cells6 HF1.out.b
  obtain ⟨l0, l1, l2, l3, l4, l5⟩ := cells6 HF1.out.l
  obtain ⟨r0, r1, r2, r3, r4, r5⟩ := cells6 HF1.out.r
  go_wp2_with fail
  refine (HQ2.out _ HF1.out).mono ?_
  rintro e W2 ⟨rfl, hb2⟩
  have HF2 := Lib.hid (HF1.out.kept hb2)
  clear b0 b1 b2 b3 b4 b5 l0 l1 l2 l3 l4 l5 r0 r1 r2 r3 r4 r5
  obtain ⟨b0, b1, b2, b3, b4, b5⟩ := cells6 HF2.out.b
  obtain ⟨l0, l1, l2, l3, l4, l5⟩ := cells6 HF2.out.l
  obtain ⟨r0, r1, r2, r3, r4, r5⟩ := cells6 HF2.out.r
  go_wp2_with fail
  refine (HQ3.out _ HF2.out).mono ?_
  rintro e W3 ⟨rfl, hb3⟩
  have HF3 := Lib.hid (HF2.out.kept hb3)
  clear b0 b1 b2 b3 b4 b5 l0 l1 l2 l3 l4 l5 r0 r1 r2 r3 r4 r5
  obtain ⟨b0, b1, b2, b3, b4, b5⟩ := cells6 HF3.out.b
  obtain ⟨l0, l1, l2, l3, l4, l5⟩ := cells6 HF3.out.l
  obtain ⟨r0, r1, r2, r3, r4, r5⟩ := cells6 HF3.out.r
  go_wp2_with fail
  refine (HA1.out _).mono ?_
  rintro e W4 ⟨rfl, hb4⟩
  have HF4 := Lib.hid (HF3.out.kept hb4)
  clear b0 b1 b2 b3 b4 b5 l0 l1 l2 l3 l4 l5 r0 r1 r2 r3 r4 r5
  obtain ⟨b0, b1, b2, b3, b4, b5⟩ := cells6 HF4.out.b
  obtain ⟨l0, l1, l2, l3, l4, l5⟩ := cells6 HF4.out.l
  obtain ⟨r0, r1, r2, r3, r4, r5⟩ := cells6 HF4.out.r
  obtain ⟨z0, z1, z2, z3, z4, z5⟩ := cells6 HF4.out.res
  obtain ⟨f0, f1, f2, f3, f4, f5⟩ := free6 HF4.out.res
  have q0 : w.heap.size < W4.heap.size := by have := HF4.out.size; omega
  have q1 : w.heap.size + 1 < W4.heap.size := by have := HF4.out.size; omega
  have q2 : w.heap.size + 1 + 1 < W4.heap.size := by have := HF4.out.size; omega
  have q3 : w.heap.size + 1 + 1 + 1 < W4.heap.size := by have := HF4.out.size; omega
  go_wp2_with fail
  obtain ⟨W9, hW9⟩ : ∃ W9, ((((((W4.setCell ⟨w.heap.size + 1 + 1 + 1, 0, none⟩ (.int .i64 15)).setCell ⟨w.heap.size + 1 + 1 + 1, 1, none⟩ (.string ⟨#[]⟩)).setCell ⟨w.heap.size + 1 + 1 + 1, 2, none⟩ (.string ⟨#[]⟩)).setCell ⟨w.heap.size + 1 + 1 + 1, 3, none⟩ (.int .i64 0)).setCell ⟨w.heap.size + 1 + 1 + 1, 4, none⟩ (.int .i64 0)).setCell ⟨w.heap.size + 1 + 1 + 1, 5, none⟩ (.slice (some ⟨W4.heap.size, 0, none⟩) 3 3)) = W9 := ⟨_, rfl⟩
  have hbz := below6 HF4.out.below (g := w.heap.size + 1 + 1 + 1) (by omega) (.int .i64 15) (.string ⟨#[]⟩) (.string ⟨#[]⟩) (.int .i64 0) (.int .i64 0) (.slice (some ⟨W4.heap.size, 0, none⟩) 3 3)
  have hz9 : W9.heap.size = W4.heap.size := by rw [← hW9]; simp [World.setCell]
  have y0 : W9.cell? ⟨w.heap.size + 1 + 1 + 1, 0, none⟩ = some (.int .i64 15) := by rw [← hW9]; simp [go_sem, z0]
  have y1 : W9.cell? ⟨w.heap.size + 1 + 1 + 1, 1, none⟩ = some (.string ⟨#[]⟩) := by rw [← hW9]; simp [go_sem, z1]
  have y2 : W9.cell? ⟨w.heap.size + 1 + 1 + 1, 2, none⟩ = some (.string ⟨#[]⟩) := by rw [← hW9]; simp [go_sem, z2]
  have y3 : W9.cell? ⟨w.heap.size + 1 + 1 + 1, 3, none⟩ = some (.int .i64 0) := by rw [← hW9]; simp [go_sem, z3]
  have y4 : W9.cell? ⟨w.heap.size + 1 + 1 + 1, 4, none⟩ = some (.int .i64 0) := by rw [← hW9]; simp [go_sem, z4]
  have y5 : W9.cell? ⟨w.heap.size + 1 + 1 + 1, 5, none⟩ = some (.slice (some ⟨W4.heap.size, 0, none⟩) 3 3) := by rw [← hW9]; simp [go_sem, z5]
  rw [hW9] at hbz ⊢
  have hq9 : w.heap.size + 1 + 1 + 1 < W9.heap.size := by omega
  have hbA := hbz.alloc (o := .cells (src18 kl nl ml il dl pl sl.length cl kb nb mb ib db pb sb.length cb kr nr mr ir dr pr sr.length cr).toArray 24) (by omega)
  have hrow := World.alloc_heap_new W9 (.cells (src18 kl nl ml il dl pl sl.length cl kb nb mb ib db pb sb.length cb kr nr mr ir dr pr sr.length cr).toArray 24)
  refine bodyPost_ret (v := .agg #[.int .i64 15, .string ⟨#[]⟩, .string ⟨#[]⟩, .int .i64 0, .int .i64 0, .slice (some ⟨W4.heap.size, 0, none⟩) 3 3]) (by simp [results, Tryd.results31, go_sem, y0, y1, y2, y3, y4, y5, hq9]) rfl ⟨_, rfl, exP_iff.2 ⟨_, rfl, ?_⟩, hbA⟩
  refine sum_sub (.inr ⟨by omega, by simp [hz9]⟩) (fun j v h => ?_) (subP_stay (fun _ h => .inl h) (stay_below hbA HP.out) HL.out) (subP_stay (fun _ h => .inl h) (stay_below hbA HP.out) HB.out) (subP_stay (fun _ h => .inl h) (stay_below hbA HP.out) HR.out)
  rw [← hz9]
  refine (row_cell hrow).trans ?_
  simpa using h
set_option maxRecDepth 100000 in
set_option maxHeartbeats 4000000 in
theorem rmerge_4b (kb : Int) (nb mb : ByteArray) (ib db : Int) (sb : List Ex) (pb : Option Addr) (cb : Nat) (kl : Int) (nl ml : ByteArray) (il dl : Int) (sl : List Ex) (pl : Option Addr) (cl : Nat) (kr : Int) (nr mr : ByteArray) (ir dr : Int) (sr : List Ex) (pr : Option Addr) (cr : Nat) (P : Nat → Prop) (w : World)
    (hP : ∀ b, P b → b < w.heap.size) (_hmb : nodesL sb ≤ 1048576) (hml : nodesL sl ≤ 1048576) (hmr : nodesL sr ≤ 1048576) (hB : SubP w P sb (.slice pb sb.length cb)) (hL : SubP w P sl (.slice pl sl.length cl)) (hR : SubP w P sr (.slice pr sr.length cr))
    (h1 : sameE (.mk kl nl ml il dl sl) (.mk kr nr mr ir dr sr) = false) (h2 : sameE (.mk kr nr mr ir dr sr) (.mk kb nb mb ib db sb) = false) (h3 : sameE (.mk kl nl ml il dl sl) (.mk kb nb mb ib db sb) = false) (h4 : alikeE (.mk kb nb mb ib db sb) (.mk kl nl ml il dl sl) = true) (h5 : alikeE (.mk kb nb mb ib db sb) (.mk kr nr mr ir dr sr) = false) :
    Calls Tryd.prog 31 #[.agg (ev kb nb mb ib db pb sb.length cb), .agg (ev kl nl ml il dl pl sl.length cl), .agg (ev kr nr mr ir dr pr sr.length cr)] w (RetEx P w (sumE (.mk kl nl ml il dl sl) (.mk kb nb mb ib db sb) (.mk kr nr mr ir dr sr))) := by
  have HQ1 : Hid (∀ W, MFrame w (ev kb nb mb ib db pb sb.length cb) (ev kl nl ml il dl pl sl.length cl) (ev kr nr mr ir dr pr sr.length cr) W → Calls Tryd.prog 14 #[.agg (ev kl nl ml il dl pl sl.length cl), .agg (ev kr nr mr ir dr pr sr.length cr)] W fun e w' => e = .returned (.bool false) ∧ Below W.heap.size W w') := Lib.hid (fun W hF => by
    have h := rSame_any (nodesL sl + 1) kl nl ml il dl sl (.slice pl sl.length cl) kr nr mr ir dr sr (.slice pr sr.length cr) W (by omega) (by omega) (subAt_below (subAt_of hP hL) hF.below hF.below.size) (subAt_below (subAt_of hP hR) hF.below hF.below.size)
    rw [h1] at h; exact h)
  have HQ2 : Hid (∀ W, MFrame w (ev kb nb mb ib db pb sb.length cb) (ev kl nl ml il dl pl sl.length cl) (ev kr nr mr ir dr pr sr.length cr) W → Calls Tryd.prog 14 #[.agg (ev kr nr mr ir dr pr sr.length cr), .agg (ev kb nb mb ib db pb sb.length cb)] W fun e w' => e = .returned (.bool false) ∧ Below W.heap.size W w') := Lib.hid (fun W hF => by
    have h := rSame_any (nodesL sr + 1) kr nr mr ir dr sr (.slice pr sr.length cr) kb nb mb ib db sb (.slice pb sb.length cb) W (by omega) (by omega) (subAt_below (subAt_of hP hR) hF.below hF.below.size) (subAt_below (subAt_of hP hB) hF.below hF.below.size)
    rw [h2] at h; exact h)
  have HQ3 : Hid (∀ W, MFrame w (ev kb nb mb ib db pb sb.length cb) (ev kl nl ml il dl pl sl.length cl) (ev kr nr mr ir dr pr sr.length cr) W → Calls Tryd.prog 14 #[.agg (ev kl nl ml il dl pl sl.length cl), .agg (ev kb nb mb ib db pb sb.length cb)] W fun e w' => e = .returned (.bool false) ∧ Below W.heap.size W w') := Lib.hid (fun W hF => by
    have h := rSame_any (nodesL sl + 1) kl nl ml il dl sl (.slice pl sl.length cl) kb nb mb ib db sb (.slice pb sb.length cb) W (by omega) (by omega) (subAt_below (subAt_of hP hL) hF.below hF.below.size) (subAt_below (subAt_of hP hB) hF.below hF.below.size)
    rw [h3] at h; exact h)
  have HA1 : Hid (∀ W : World, Calls Tryd.prog 44 #[.agg (ev kb nb mb ib db pb sb.length cb), .agg (ev kl nl ml il dl pl sl.length cl)] W fun e w' => e = .returned (.bool true) ∧ Below W.heap.size W w') := Lib.hid (fun W => by
    have h := ralike_any kb nb mb ib db sb pb cb kl nl ml il dl sl pl cl W
    rw [h4] at h; exact h)
  have HA2 : Hid (∀ W : World, Calls Tryd.prog 44 #[.agg (ev kb nb mb ib db pb sb.length cb), .agg (ev kr nr mr ir dr pr sr.length cr)] W fun e w' => e = .returned (.bool false) ∧ Below W.heap.size W w') := Lib.hid (fun W => by
    have h := ralike_any kb nb mb ib db sb pb cb kr nr mr ir dr sr pr cr W
    rw [h5] at h; exact h)
  obtain ⟨W, hW, hF, hz⟩ := mframe_start w (ev kb nb mb ib db pb sb.length cb) (ev kl nl ml il dl pl sl.length cl) (ev kr nr mr ir dr pr sr.length cr)
  have HW := Lib.hid hW
  have HP := Lib.hid hP
  have HB := Lib.hid hB
  have HL := Lib.hid hL
  have HR := Lib.hid hR
  have HF := Lib.hid hF
  clear hW hP hL hB hR hF
  go_enter Tryd.func31, Tryd.ntmps31
  go_wp2_with fail
  rw [HW.out]
  refine (HQ1.out _ HF.out).mono ?_
  rintro e W1 ⟨rfl, hb1⟩
  have HF1 := Lib.hid (HF.out.kept hb1)
  obtain ⟨b0, b1, b2, b3, b4, b5⟩ := cells6 HF1.out.b
  obtain ⟨l0, l1, l2, l3, l4, l5⟩ := cells6 HF1.out.l
  obtain ⟨r0, r1, r2, r3, r4, r5⟩ := cells6 HF1.out.r
  go_wp2_with fail
  refine (HQ2.out _ HF1.out).mono ?_
  rintro e W2 ⟨rfl, hb2⟩
  have HF2 := Lib.hid (HF1.out.kept hb2)
  clear b0 b1 b2 b3 b4 b5 l0 l1 l2 l3 l4 l5 r0 r1 r2 r3 r4 r5
  obtain ⟨b0, b1, b2, b3, b4, b5⟩ := cells6 HF2.out.b
  obtain ⟨l0, l1, l2, l3, l4, l5⟩ := cells6 HF2.out.l
  obtain ⟨r0, r1, r2, r3, r4, r5⟩ := cells6 HF2.out.r
  go_wp2_with fail
  refine (HQ3.out _ HF2.out).mono ?_
  rintro e W3 ⟨rfl, hb3⟩
  have HF3 := Lib.hid (HF2.out.kept hb3)
  clear b0 b1 b2 b3 b4 b5 l0 l1 l2 l3 l4 l5 r0 r1 r2 r3 r4 r5
  obtain ⟨b0, b1, b2, b3, b4, b5⟩ := cells6 HF3.out.b
  obtain ⟨l0, l1, l2, l3, l4, l5⟩ := cells6 HF3.out.l
  obtain ⟨r0, r1, r2, r3, r4, r5⟩ := cells6 HF3.out.r
  go_wp2_with fail
  refine (HA1.out _).mono ?_
  rintro e W4 ⟨rfl, hb4⟩
  have HF4 := Lib.hid (HF3.out.kept hb4)
  clear b0 b1 b2 b3 b4 b5 l0 l1 l2 l3 l4 l5 r0 r1 r2 r3 r4 r5
  obtain ⟨b0, b1, b2, b3, b4, b5⟩ := cells6 HF4.out.b
  obtain ⟨l0, l1, l2, l3, l4, l5⟩ := cells6 HF4.out.l
  obtain ⟨r0, r1, r2, r3, r4, r5⟩ := cells6 HF4.out.r
  go_wp2_with fail
  refine (HA2.out _).mono ?_
  rintro e W5 ⟨rfl, hb5⟩
  have HF5 := Lib.hid (HF4.out.kept hb5)
  clear b0 b1 b2 b3 b4 b5 l0 l1 l2 l3 l4 l5 r0 r1 r2 r3 r4 r5
  obtain ⟨b0, b1, b2, b3, b4, b5⟩ := cells6 HF5.out.b
  obtain ⟨l0, l1, l2, l3, l4, l5⟩ := cells6 HF5.out.l
  obtain ⟨r0, r1, r2, r3, r4, r5⟩ := cells6 HF5.out.r
  obtain ⟨z0, z1, z2, z3, z4, z5⟩ := cells6 HF5.out.res
  obtain ⟨f0, f1, f2, f3, f4, f5⟩ := free6 HF5.out.res
  have q0 : w.heap.size < W5.heap.size := by have := HF5.out.size; omega
  have q1 : w.heap.size + 1 < W5.heap.size := by have := HF5.out.size; omega
  have q2 : w.heap.size + 1 + 1 < W5.heap.size := by have := HF5.out.size; omega
  have q3 : w.heap.size + 1 + 1 + 1 < W5.heap.size := by have := HF5.out.size; omega
  go_wp2_with fail
  obtain ⟨W9, hW9⟩ : ∃ W9, ((((((W5.setCell ⟨w.heap.size + 1 + 1 + 1, 0, none⟩ (.int .i64 15)).setCell ⟨w.heap.size + 1 + 1 + 1, 1, none⟩ (.string ⟨#[]⟩)).setCell ⟨w.heap.size + 1 + 1 + 1, 2, none⟩ (.string ⟨#[]⟩)).setCell ⟨w.heap.size + 1 + 1 + 1, 3, none⟩ (.int .i64 0)).setCell ⟨w.heap.size + 1 + 1 + 1, 4, none⟩ (.int .i64 0)).setCell ⟨w.heap.size + 1 + 1 + 1, 5, none⟩ (.slice (some ⟨W5.heap.size, 0, none⟩) 3 3)) = W9 := ⟨_, rfl⟩
  have hbz := below6 HF5.out.below (g := w.heap.size + 1 + 1 + 1) (by omega) (.int .i64 15) (.string ⟨#[]⟩) (.string ⟨#[]⟩) (.int .i64 0) (.int .i64 0) (.slice (some ⟨W5.heap.size, 0, none⟩) 3 3)
  have hz9 : W9.heap.size = W5.heap.size := by rw [← hW9]; simp [World.setCell]
  have y0 : W9.cell? ⟨w.heap.size + 1 + 1 + 1, 0, none⟩ = some (.int .i64 15) := by rw [← hW9]; simp [go_sem, z0]
  have y1 : W9.cell? ⟨w.heap.size + 1 + 1 + 1, 1, none⟩ = some (.string ⟨#[]⟩) := by rw [← hW9]; simp [go_sem, z1]
  have y2 : W9.cell? ⟨w.heap.size + 1 + 1 + 1, 2, none⟩ = some (.string ⟨#[]⟩) := by rw [← hW9]; simp [go_sem, z2]
  have y3 : W9.cell? ⟨w.heap.size + 1 + 1 + 1, 3, none⟩ = some (.int .i64 0) := by rw [← hW9]; simp [go_sem, z3]
  have y4 : W9.cell? ⟨w.heap.size + 1 + 1 + 1, 4, none⟩ = some (.int .i64 0) := by rw [← hW9]; simp [go_sem, z4]
  have y5 : W9.cell? ⟨w.heap.size + 1 + 1 + 1, 5, none⟩ = some (.slice (some ⟨W5.heap.size, 0, none⟩) 3 3) := by rw [← hW9]; simp [go_sem, z5]
  rw [hW9] at hbz ⊢
  have hq9 : w.heap.size + 1 + 1 + 1 < W9.heap.size := by omega
  have hbA := hbz.alloc (o := .cells (src18 kl nl ml il dl pl sl.length cl kb nb mb ib db pb sb.length cb kr nr mr ir dr pr sr.length cr).toArray 24) (by omega)
  have hrow := World.alloc_heap_new W9 (.cells (src18 kl nl ml il dl pl sl.length cl kb nb mb ib db pb sb.length cb kr nr mr ir dr pr sr.length cr).toArray 24)
  refine bodyPost_ret (v := .agg #[.int .i64 15, .string ⟨#[]⟩, .string ⟨#[]⟩, .int .i64 0, .int .i64 0, .slice (some ⟨W5.heap.size, 0, none⟩) 3 3]) (by simp [results, Tryd.results31, go_sem, y0, y1, y2, y3, y4, y5, hq9]) rfl ⟨_, rfl, exP_iff.2 ⟨_, rfl, ?_⟩, hbA⟩
  refine sum_sub (.inr ⟨by omega, by simp [hz9]⟩) (fun j v h => ?_) (subP_stay (fun _ h => .inl h) (stay_below hbA HP.out) HL.out) (subP_stay (fun _ h => .inl h) (stay_below hbA HP.out) HB.out) (subP_stay (fun _ h => .inl h) (stay_below hbA HP.out) HR.out)
  rw [← hz9]
  refine (row_cell hrow).trans ?_
  simpa using h
set_option maxRecDepth 100000 in
set_option maxHeartbeats 4000000 in
theorem rmerge_4c (kb : Int) (nb mb : ByteArray) (ib db : Int) (sb : List Ex) (pb : Option Addr) (cb : Nat) (kl : Int) (nl ml : ByteArray) (il dl : Int) (sl : List Ex) (pl : Option Addr) (cl : Nat) (kr : Int) (nr mr : ByteArray) (ir dr : Int) (sr : List Ex) (pr : Option Addr) (cr : Nat) (P : Nat → Prop) (w : World)
    (hP : ∀ b, P b → b < w.heap.size) (_hmb : nodesL sb ≤ 1048576) (hml : nodesL sl ≤ 1048576) (hmr : nodesL sr ≤ 1048576) (hB : SubP w P sb (.slice pb sb.length cb)) (hL : SubP w P sl (.slice pl sl.length cl)) (hR : SubP w P sr (.slice pr sr.length cr))
    (h1 : sameE (.mk kl nl ml il dl sl) (.mk kr nr mr ir dr sr) = false) (h2 : sameE (.mk kr nr mr ir dr sr) (.mk kb nb mb ib db sb) = false) (h3 : sameE (.mk kl nl ml il dl sl) (.mk kb nb mb ib db sb) = false) (h4 : alikeE (.mk kb nb mb ib db sb) (.mk kl nl ml il dl sl) = true) (h5 : alikeE (.mk kb nb mb ib db sb) (.mk kr nr mr ir dr sr) = true) (h6 : (kb == 15) = true) :
    Calls Tryd.prog 31 #[.agg (ev kb nb mb ib db pb sb.length cb), .agg (ev kl nl ml il dl pl sl.length cl), .agg (ev kr nr mr ir dr pr sr.length cr)] w (RetEx P w (sumE (.mk kl nl ml il dl sl) (.mk kb nb mb ib db sb) (.mk kr nr mr ir dr sr))) := by
  have HQ1 : Hid (∀ W, MFrame w (ev kb nb mb ib db pb sb.length cb) (ev kl nl ml il dl pl sl.length cl) (ev kr nr mr ir dr pr sr.length cr) W → Calls Tryd.prog 14 #[.agg (ev kl nl ml il dl pl sl.length cl), .agg (ev kr nr mr ir dr pr sr.length cr)] W fun e w' => e = .returned (.bool false) ∧ Below W.heap.size W w') := Lib.hid (fun W hF => by
    have h := rSame_any (nodesL sl + 1) kl nl ml il dl sl (.slice pl sl.length cl) kr nr mr ir dr sr (.slice pr sr.length cr) W (by omega) (by omega) (subAt_below (subAt_of hP hL) hF.below hF.below.size) (subAt_below (subAt_of hP hR) hF.below hF.below.size)
    rw [h1] at h; exact h)
  have HQ2 : Hid (∀ W, MFrame w (ev kb nb mb ib db pb sb.length cb) (ev kl nl ml il dl pl sl.length cl) (ev kr nr mr ir dr pr sr.length cr) W → Calls Tryd.prog 14 #[.agg (ev kr nr mr ir dr pr sr.length cr), .agg (ev kb nb mb ib db pb sb.length cb)] W fun e w' => e = .returned (.bool false) ∧ Below W.heap.size W w') := Lib.hid (fun W hF => by
    have h := rSame_any (nodesL sr + 1) kr nr mr ir dr sr (.slice pr sr.length cr) kb nb mb ib db sb (.slice pb sb.length cb) W (by omega) (by omega) (subAt_below (subAt_of hP hR) hF.below hF.below.size) (subAt_below (subAt_of hP hB) hF.below hF.below.size)
    rw [h2] at h; exact h)
  have HQ3 : Hid (∀ W, MFrame w (ev kb nb mb ib db pb sb.length cb) (ev kl nl ml il dl pl sl.length cl) (ev kr nr mr ir dr pr sr.length cr) W → Calls Tryd.prog 14 #[.agg (ev kl nl ml il dl pl sl.length cl), .agg (ev kb nb mb ib db pb sb.length cb)] W fun e w' => e = .returned (.bool false) ∧ Below W.heap.size W w') := Lib.hid (fun W hF => by
    have h := rSame_any (nodesL sl + 1) kl nl ml il dl sl (.slice pl sl.length cl) kb nb mb ib db sb (.slice pb sb.length cb) W (by omega) (by omega) (subAt_below (subAt_of hP hL) hF.below hF.below.size) (subAt_below (subAt_of hP hB) hF.below hF.below.size)
    rw [h3] at h; exact h)
  have HA1 : Hid (∀ W : World, Calls Tryd.prog 44 #[.agg (ev kb nb mb ib db pb sb.length cb), .agg (ev kl nl ml il dl pl sl.length cl)] W fun e w' => e = .returned (.bool true) ∧ Below W.heap.size W w') := Lib.hid (fun W => by
    have h := ralike_any kb nb mb ib db sb pb cb kl nl ml il dl sl pl cl W
    rw [h4] at h; exact h)
  have HA2 : Hid (∀ W : World, Calls Tryd.prog 44 #[.agg (ev kb nb mb ib db pb sb.length cb), .agg (ev kr nr mr ir dr pr sr.length cr)] W fun e w' => e = .returned (.bool true) ∧ Below W.heap.size W w') := Lib.hid (fun W => by
    have h := ralike_any kb nb mb ib db sb pb cb kr nr mr ir dr sr pr cr W
    rw [h5] at h; exact h)
  obtain ⟨W, hW, hF, hz⟩ := mframe_start w (ev kb nb mb ib db pb sb.length cb) (ev kl nl ml il dl pl sl.length cl) (ev kr nr mr ir dr pr sr.length cr)
  have HW := Lib.hid hW
  have HP := Lib.hid hP
  have HB := Lib.hid hB
  have HL := Lib.hid hL
  have HR := Lib.hid hR
  have HF := Lib.hid hF
  clear hW hP hL hB hR hF
  go_enter Tryd.func31, Tryd.ntmps31
  go_wp2_with fail
  rw [HW.out]
  refine (HQ1.out _ HF.out).mono ?_
  rintro e W1 ⟨rfl, hb1⟩
  have HF1 := Lib.hid (HF.out.kept hb1)
  obtain ⟨b0, b1, b2, b3, b4, b5⟩ := cells6 HF1.out.b
  obtain ⟨l0, l1, l2, l3, l4, l5⟩ := cells6 HF1.out.l
  obtain ⟨r0, r1, r2, r3, r4, r5⟩ := cells6 HF1.out.r
  go_wp2_with fail
  refine (HQ2.out _ HF1.out).mono ?_
  rintro e W2 ⟨rfl, hb2⟩
  have HF2 := Lib.hid (HF1.out.kept hb2)
  clear b0 b1 b2 b3 b4 b5 l0 l1 l2 l3 l4 l5 r0 r1 r2 r3 r4 r5
  obtain ⟨b0, b1, b2, b3, b4, b5⟩ := cells6 HF2.out.b
  obtain ⟨l0, l1, l2, l3, l4, l5⟩ := cells6 HF2.out.l
  obtain ⟨r0, r1, r2, r3, r4, r5⟩ := cells6 HF2.out.r
  go_wp2_with fail
  refine (HQ3.out _ HF2.out).mono ?_
  rintro e W3 ⟨rfl, hb3⟩
  have HF3 := Lib.hid (HF2.out.kept hb3)
  clear b0 b1 b2 b3 b4 b5 l0 l1 l2 l3 l4 l5 r0 r1 r2 r3 r4 r5
  obtain ⟨b0, b1, b2, b3, b4, b5⟩ := cells6 HF3.out.b
  obtain ⟨l0, l1, l2, l3, l4, l5⟩ := cells6 HF3.out.l
  obtain ⟨r0, r1, r2, r3, r4, r5⟩ := cells6 HF3.out.r
  go_wp2_with fail
  refine (HA1.out _).mono ?_
  rintro e W4 ⟨rfl, hb4⟩
  have HF4 := Lib.hid (HF3.out.kept hb4)
  clear b0 b1 b2 b3 b4 b5 l0 l1 l2 l3 l4 l5 r0 r1 r2 r3 r4 r5
  obtain ⟨b0, b1, b2, b3, b4, b5⟩ := cells6 HF4.out.b
  obtain ⟨l0, l1, l2, l3, l4, l5⟩ := cells6 HF4.out.l
  obtain ⟨r0, r1, r2, r3, r4, r5⟩ := cells6 HF4.out.r
  go_wp2_with fail
  refine (HA2.out _).mono ?_
  rintro e W5 ⟨rfl, hb5⟩
  have HF5 := Lib.hid (HF4.out.kept hb5)
  clear b0 b1 b2 b3 b4 b5 l0 l1 l2 l3 l4 l5 r0 r1 r2 r3 r4 r5
  obtain ⟨b0, b1, b2, b3, b4, b5⟩ := cells6 HF5.out.b
  obtain ⟨l0, l1, l2, l3, l4, l5⟩ := cells6 HF5.out.l
  obtain ⟨r0, r1, r2, r3, r4, r5⟩ := cells6 HF5.out.r
  obtain ⟨z0, z1, z2, z3, z4, z5⟩ := cells6 HF5.out.res
  obtain ⟨f0, f1, f2, f3, f4, f5⟩ := free6 HF5.out.res
  have q0 : w.heap.size < W5.heap.size := by have := HF5.out.size; omega
  have q1 : w.heap.size + 1 < W5.heap.size := by have := HF5.out.size; omega
  have q2 : w.heap.size + 1 + 1 < W5.heap.size := by have := HF5.out.size; omega
  have q3 : w.heap.size + 1 + 1 + 1 < W5.heap.size := by have := HF5.out.size; omega
  go_wp2_with fail
  obtain ⟨W9, hW9⟩ : ∃ W9, ((((((W5.setCell ⟨w.heap.size + 1 + 1 + 1, 0, none⟩ (.int .i64 15)).setCell ⟨w.heap.size + 1 + 1 + 1, 1, none⟩ (.string ⟨#[]⟩)).setCell ⟨w.heap.size + 1 + 1 + 1, 2, none⟩ (.string ⟨#[]⟩)).setCell ⟨w.heap.size + 1 + 1 + 1, 3, none⟩ (.int .i64 0)).setCell ⟨w.heap.size + 1 + 1 + 1, 4, none⟩ (.int .i64 0)).setCell ⟨w.heap.size + 1 + 1 + 1, 5, none⟩ (.slice (some ⟨W5.heap.size, 0, none⟩) 3 3)) = W9 := ⟨_, rfl⟩
  have hbz := below6 HF5.out.below (g := w.heap.size + 1 + 1 + 1) (by omega) (.int .i64 15) (.string ⟨#[]⟩) (.string ⟨#[]⟩) (.int .i64 0) (.int .i64 0) (.slice (some ⟨W5.heap.size, 0, none⟩) 3 3)
  have hz9 : W9.heap.size = W5.heap.size := by rw [← hW9]; simp [World.setCell]
  have y0 : W9.cell? ⟨w.heap.size + 1 + 1 + 1, 0, none⟩ = some (.int .i64 15) := by rw [← hW9]; simp [go_sem, z0]
  have y1 : W9.cell? ⟨w.heap.size + 1 + 1 + 1, 1, none⟩ = some (.string ⟨#[]⟩) := by rw [← hW9]; simp [go_sem, z1]
  have y2 : W9.cell? ⟨w.heap.size + 1 + 1 + 1, 2, none⟩ = some (.string ⟨#[]⟩) := by rw [← hW9]; simp [go_sem, z2]
  have y3 : W9.cell? ⟨w.heap.size + 1 + 1 + 1, 3, none⟩ = some (.int .i64 0) := by rw [← hW9]; simp [go_sem, z3]
  have y4 : W9.cell? ⟨w.heap.size + 1 + 1 + 1, 4, none⟩ = some (.int .i64 0) := by rw [← hW9]; simp [go_sem, z4]
  have y5 : W9.cell? ⟨w.heap.size + 1 + 1 + 1, 5, none⟩ = some (.slice (some ⟨W5.heap.size, 0, none⟩) 3 3) := by rw [← hW9]; simp [go_sem, z5]
  rw [hW9] at hbz ⊢
  have hq9 : w.heap.size + 1 + 1 + 1 < W9.heap.size := by omega
  have hbA := hbz.alloc (o := .cells (src18 kl nl ml il dl pl sl.length cl kb nb mb ib db pb sb.length cb kr nr mr ir dr pr sr.length cr).toArray 24) (by omega)
  have hrow := World.alloc_heap_new W9 (.cells (src18 kl nl ml il dl pl sl.length cl kb nb mb ib db pb sb.length cb kr nr mr ir dr pr sr.length cr).toArray 24)
  refine bodyPost_ret (v := .agg #[.int .i64 15, .string ⟨#[]⟩, .string ⟨#[]⟩, .int .i64 0, .int .i64 0, .slice (some ⟨W5.heap.size, 0, none⟩) 3 3]) (by simp [results, Tryd.results31, go_sem, y0, y1, y2, y3, y4, y5, hq9]) rfl ⟨_, rfl, exP_iff.2 ⟨_, rfl, ?_⟩, hbA⟩
  refine sum_sub (.inr ⟨by omega, by simp [hz9]⟩) (fun j v h => ?_) (subP_stay (fun _ h => .inl h) (stay_below hbA HP.out) HL.out) (subP_stay (fun _ h => .inl h) (stay_below hbA HP.out) HB.out) (subP_stay (fun _ h => .inl h) (stay_below hbA HP.out) HR.out)
  rw [← hz9]
  refine (row_cell hrow).trans ?_
  simpa using h
set_option maxRecDepth 100000 in
set_option maxHeartbeats 4000000 in
theorem rmerge_4d (kb : Int) (nb mb : ByteArray) (ib db : Int) (sb : List Ex) (pb : Option Addr) (cb : Nat) (kl : Int) (nl ml : ByteArray) (il dl : Int) (sl : List Ex) (pl : Option Addr) (cl : Nat) (kr : Int) (nr mr : ByteArray) (ir dr : Int) (sr : List Ex) (pr : Option Addr) (cr : Nat) (P : Nat → Prop) (w : World)
    (hP : ∀ b, P b → b < w.heap.size) (_hmb : nodesL sb ≤ 1048576) (hml : nodesL sl ≤ 1048576) (hmr : nodesL sr ≤ 1048576) (hB : SubP w P sb (.slice pb sb.length cb)) (hL : SubP w P sl (.slice pl sl.length cl)) (hR : SubP w P sr (.slice pr sr.length cr))
    (h1 : sameE (.mk kl nl ml il dl sl) (.mk kr nr mr ir dr sr) = false) (h2 : sameE (.mk kr nr mr ir dr sr) (.mk kb nb mb ib db sb) = false) (h3 : sameE (.mk kl nl ml il dl sl) (.mk kb nb mb ib db sb) = false) (h4 : alikeE (.mk kb nb mb ib db sb) (.mk kl nl ml il dl sl) = true) (h5 : alikeE (.mk kb nb mb ib db sb) (.mk kr nr mr ir dr sr) = true) (h6 : (kb == 15) = false) (h7 : (sb.length == 0) = true) :
    Calls Tryd.prog 31 #[.agg (ev kb nb mb ib db pb sb.length cb), .agg (ev kl nl ml il dl pl sl.length cl), .agg (ev kr nr mr ir dr pr sr.length cr)] w (RetEx P w (sumE (.mk kl nl ml il dl sl) (.mk kb nb mb ib db sb) (.mk kr nr mr ir dr sr))) := by
  have HQ1 : Hid (∀ W, MFrame w (ev kb nb mb ib db pb sb.length cb) (ev kl nl ml il dl pl sl.length cl) (ev kr nr mr ir dr pr sr.length cr) W → Calls Tryd.prog 14 #[.agg (ev kl nl ml il dl pl sl.length cl), .agg (ev kr nr mr ir dr pr sr.length cr)] W fun e w' => e = .returned (.bool false) ∧ Below W.heap.size W w') := Lib.hid (fun W hF => by
    have h := rSame_any (nodesL sl + 1) kl nl ml il dl sl (.slice pl sl.length cl) kr nr mr ir dr sr (.slice pr sr.length cr) W (by omega) (by omega) (subAt_below (subAt_of hP hL) hF.below hF.below.size) (subAt_below (subAt_of hP hR) hF.below hF.below.size)
    rw [h1] at h; exact h)
  have HQ2 : Hid (∀ W, MFrame w (ev kb nb mb ib db pb sb.length cb) (ev kl nl ml il dl pl sl.length cl) (ev kr nr mr ir dr pr sr.length cr) W → Calls Tryd.prog 14 #[.agg (ev kr nr mr ir dr pr sr.length cr), .agg (ev kb nb mb ib db pb sb.length cb)] W fun e w' => e = .returned (.bool false) ∧ Below W.heap.size W w') := Lib.hid (fun W hF => by
    have h := rSame_any (nodesL sr + 1) kr nr mr ir dr sr (.slice pr sr.length cr) kb nb mb ib db sb (.slice pb sb.length cb) W (by omega) (by omega) (subAt_below (subAt_of hP hR) hF.below hF.below.size) (subAt_below (subAt_of hP hB) hF.below hF.below.size)
    rw [h2] at h; exact h)
  have HQ3 : Hid (∀ W, MFrame w (ev kb nb mb ib db pb sb.length cb) (ev kl nl ml il dl pl sl.length cl) (ev kr nr mr ir dr pr sr.length cr) W → Calls Tryd.prog 14 #[.agg (ev kl nl ml il dl pl sl.length cl), .agg (ev kb nb mb ib db pb sb.length cb)] W fun e w' => e = .returned (.bool false) ∧ Below W.heap.size W w') := Lib.hid (fun W hF => by
    have h := rSame_any (nodesL sl + 1) kl nl ml il dl sl (.slice pl sl.length cl) kb nb mb ib db sb (.slice pb sb.length cb) W (by omega) (by omega) (subAt_below (subAt_of hP hL) hF.below hF.below.size) (subAt_below (subAt_of hP hB) hF.below hF.below.size)
    rw [h3] at h; exact h)
  have HA1 : Hid (∀ W : World, Calls Tryd.prog 44 #[.agg (ev kb nb mb ib db pb sb.length cb), .agg (ev kl nl ml il dl pl sl.length cl)] W fun e w' => e = .returned (.bool true) ∧ Below W.heap.size W w') := Lib.hid (fun W => by
    have h := ralike_any kb nb mb ib db sb pb cb kl nl ml il dl sl pl cl W
    rw [h4] at h; exact h)
  have HA2 : Hid (∀ W : World, Calls Tryd.prog 44 #[.agg (ev kb nb mb ib db pb sb.length cb), .agg (ev kr nr mr ir dr pr sr.length cr)] W fun e w' => e = .returned (.bool true) ∧ Below W.heap.size W w') := Lib.hid (fun W => by
    have h := ralike_any kb nb mb ib db sb pb cb kr nr mr ir dr sr pr cr W
    rw [h5] at h; exact h)
  obtain ⟨W, hW, hF, hz⟩ := mframe_start w (ev kb nb mb ib db pb sb.length cb) (ev kl nl ml il dl pl sl.length cl) (ev kr nr mr ir dr pr sr.length cr)
  have HW := Lib.hid hW
  have HP := Lib.hid hP
  have HB := Lib.hid hB
  have HL := Lib.hid hL
  have HR := Lib.hid hR
  have HF := Lib.hid hF
  clear hW hP hL hB hR hF
  go_enter Tryd.func31, Tryd.ntmps31
  go_wp2_with fail
  rw [HW.out]
  refine (HQ1.out _ HF.out).mono ?_
  rintro e W1 ⟨rfl, hb1⟩
  have HF1 := Lib.hid (HF.out.kept hb1)
  obtain ⟨b0, b1, b2, b3, b4, b5⟩ := cells6 HF1.out.b
  obtain ⟨l0, l1, l2, l3, l4, l5⟩ := cells6 HF1.out.l
  obtain ⟨r0, r1, r2, r3, r4, r5⟩ := cells6 HF1.out.r
  go_wp2_with fail
  refine (HQ2.out _ HF1.out).mono ?_
  rintro e W2 ⟨rfl, hb2⟩
  have HF2 := Lib.hid (HF1.out.kept hb2)
  clear b0 b1 b2 b3 b4 b5 l0 l1 l2 l3 l4 l5 r0 r1 r2 r3 r4 r5
  obtain ⟨b0, b1, b2, b3, b4, b5⟩ := cells6 HF2.out.b
  obtain ⟨l0, l1, l2, l3, l4, l5⟩ := cells6 HF2.out.l
  obtain ⟨r0, r1, r2, r3, r4, r5⟩ := cells6 HF2.out.r
  go_wp2_with fail
  refine (HQ3.out _ HF2.out).mono ?_
  rintro e W3 ⟨rfl, hb3⟩
  have HF3 := Lib.hid (HF2.out.kept hb3)
  clear b0 b1 b2 b3 b4 b5 l0 l1 l2 l3 l4 l5 r0 r1 r2 r3 r4 r5
  obtain ⟨b0, b1, b2, b3, b4, b5⟩ := cells6 HF3.out.b
  obtain ⟨l0, l1, l2, l3, l4, l5⟩ := cells6 HF3.out.l
  obtain ⟨r0, r1, r2, r3, r4, r5⟩ := cells6 HF3.out.r
  go_wp2_with fail
  refine (HA1.out _).mono ?_
  rintro e W4 ⟨rfl, hb4⟩
  have HF4 := Lib.hid (HF3.out.kept hb4)
  clear b0 b1 b2 b3 b4 b5 l0 l1 l2 l3 l4 l5 r0 r1 r2 r3 r4 r5
  obtain ⟨b0, b1, b2, b3, b4, b5⟩ := cells6 HF4.out.b
  obtain ⟨l0, l1, l2, l3, l4, l5⟩ := cells6 HF4.out.l
  obtain ⟨r0, r1, r2, r3, r4, r5⟩ := cells6 HF4.out.r
  go_wp2_with fail
  refine (HA2.out _).mono ?_
  rintro e W5 ⟨rfl, hb5⟩
  have HF5 := Lib.hid (HF4.out.kept hb5)
  clear b0 b1 b2 b3 b4 b5 l0 l1 l2 l3 l4 l5 r0 r1 r2 r3 r4 r5
  obtain ⟨b0, b1, b2, b3, b4, b5⟩ := cells6 HF5.out.b
  obtain ⟨l0, l1, l2, l3, l4, l5⟩ := cells6 HF5.out.l
  obtain ⟨r0, r1, r2, r3, r4, r5⟩ := cells6 HF5.out.r
  obtain ⟨z0, z1, z2, z3, z4, z5⟩ := cells6 HF5.out.res
  obtain ⟨f0, f1, f2, f3, f4, f5⟩ := free6 HF5.out.res
  have q0 : w.heap.size < W5.heap.size := by have := HF5.out.size; omega
  have q1 : w.heap.size + 1 < W5.heap.size := by have := HF5.out.size; omega
  have q2 : w.heap.size + 1 + 1 < W5.heap.size := by have := HF5.out.size; omega
  have q3 : w.heap.size + 1 + 1 + 1 < W5.heap.size := by have := HF5.out.size; omega
  go_wp2_with fail
  obtain ⟨W9, hW9⟩ : ∃ W9, ((((((W5.setCell ⟨w.heap.size + 1 + 1 + 1, 0, none⟩ (.int .i64 15)).setCell ⟨w.heap.size + 1 + 1 + 1, 1, none⟩ (.string ⟨#[]⟩)).setCell ⟨w.heap.size + 1 + 1 + 1, 2, none⟩ (.string ⟨#[]⟩)).setCell ⟨w.heap.size + 1 + 1 + 1, 3, none⟩ (.int .i64 0)).setCell ⟨w.heap.size + 1 + 1 + 1, 4, none⟩ (.int .i64 0)).setCell ⟨w.heap.size + 1 + 1 + 1, 5, none⟩ (.slice (some ⟨W5.heap.size, 0, none⟩) 3 3)) = W9 := ⟨_, rfl⟩
  have hbz := below6 HF5.out.below (g := w.heap.size + 1 + 1 + 1) (by omega) (.int .i64 15) (.string ⟨#[]⟩) (.string ⟨#[]⟩) (.int .i64 0) (.int .i64 0) (.slice (some ⟨W5.heap.size, 0, none⟩) 3 3)
  have hz9 : W9.heap.size = W5.heap.size := by rw [← hW9]; simp [World.setCell]
  have y0 : W9.cell? ⟨w.heap.size + 1 + 1 + 1, 0, none⟩ = some (.int .i64 15) := by rw [← hW9]; simp [go_sem, z0]
  have y1 : W9.cell? ⟨w.heap.size + 1 + 1 + 1, 1, none⟩ = some (.string ⟨#[]⟩) := by rw [← hW9]; simp [go_sem, z1]
  have y2 : W9.cell? ⟨w.heap.size + 1 + 1 + 1, 2, none⟩ = some (.string ⟨#[]⟩) := by rw [← hW9]; simp [go_sem, z2]
  have y3 : W9.cell? ⟨w.heap.size + 1 + 1 + 1, 3, none⟩ = some (.int .i64 0) := by rw [← hW9]; simp [go_sem, z3]
  have y4 : W9.cell? ⟨w.heap.size + 1 + 1 + 1, 4, none⟩ = some (.int .i64 0) := by rw [← hW9]; simp [go_sem, z4]
  have y5 : W9.cell? ⟨w.heap.size + 1 + 1 + 1, 5, none⟩ = some (.slice (some ⟨W5.heap.size, 0, none⟩) 3 3) := by rw [← hW9]; simp [go_sem, z5]
  rw [hW9] at hbz ⊢
  have hq9 : w.heap.size + 1 + 1 + 1 < W9.heap.size := by omega
  have hbA := hbz.alloc (o := .cells (src18 kl nl ml il dl pl sl.length cl kb nb mb ib db pb sb.length cb kr nr mr ir dr pr sr.length cr).toArray 24) (by omega)
  have hrow := World.alloc_heap_new W9 (.cells (src18 kl nl ml il dl pl sl.length cl kb nb mb ib db pb sb.length cb kr nr mr ir dr pr sr.length cr).toArray 24)
  refine bodyPost_ret (v := .agg #[.int .i64 15, .string ⟨#[]⟩, .string ⟨#[]⟩, .int .i64 0, .int .i64 0, .slice (some ⟨W5.heap.size, 0, none⟩) 3 3]) (by simp [results, Tryd.results31, go_sem, y0, y1, y2, y3, y4, y5, hq9]) rfl ⟨_, rfl, exP_iff.2 ⟨_, rfl, ?_⟩, hbA⟩
  refine sum_sub (.inr ⟨by omega, by simp [hz9]⟩) (fun j v h => ?_) (subP_stay (fun _ h => .inl h) (stay_below hbA HP.out) HL.out) (subP_stay (fun _ h => .inl h) (stay_below hbA HP.out) HB.out) (subP_stay (fun _ h => .inl h) (stay_below hbA HP.out) HR.out)
  rw [← hz9]
  refine (row_cell hrow).trans ?_
  simpa using h
end Go.Proofs.YtiagjpiclnmpkaaDoor
