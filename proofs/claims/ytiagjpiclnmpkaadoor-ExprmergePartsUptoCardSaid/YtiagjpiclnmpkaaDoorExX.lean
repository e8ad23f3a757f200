/- Merge of exprmerge. -/
import Derived.Test.YtiagjpiclnmpkaaDoorExV
import Derived.Test.YtiagjpiclnmpkaaDoorExO
namespace Go.Proofs.YtiagjpiclnmpkaaDoor
open Go.RowKit Go.ChangeShapes Go.WideShapes

mutual
theorem mergeE_nodes : ∀ b l r : Ex, nodesE (mergeE b l r) ≤ 2 * nodesE b + nodesE l + nodesE r
  | .mk k n m i d s, l, r => by
    rw [mergeE]
    have hb := nodesE_pos (.mk k n m i d s)
    split
    · omega
    split
    · omega
    split
    · have h := mergeL_nodes s l.sub r.sub
      rw [nodesE_eq l, nodesE_eq r]
      simp only [nodesE]; omega
    · simp only [sumE, nodesE, nodesL]; omega
theorem mergeL_nodes : ∀ b l r : List Ex, nodesL (mergeL b l r) ≤ 2 * nodesL b + nodesL l + nodesL r
  | b :: bs, l :: ls, r :: rs => by
    have h1 := mergeE_nodes b l r
    have h2 := mergeL_nodes bs ls rs
    simp only [mergeL, nodesL]; omega
  | [], _, _ => by simp [mergeL, nodesL]
  | b :: bs, [], _ => by simp [mergeL, nodesL]
  | b :: bs, l :: ls, [] => by simp [mergeL, nodesL]
end
def zeroEx : Ex := .mk 0 ⟨#[]⟩ ⟨#[]⟩ 0 0 []
/-- what Merge hands back -/
def mergeX (b l r : Ex) : Ex × Int :=
  if checkX b ≠ 0 then (zeroEx, checkX b) else if checkX l ≠ 0 then (zeroEx, checkX l) else if checkX r ≠ 0 then (zeroEx, checkX r) else
  if checkX (mergeE b l r) ≠ 0 then (zeroEx, 4) else (mergeE b l r, 0)
def RetEx2 (P : Nat → Prop) (w : World) (t : Ex × Int) (e : Ending) (w' : World) : Prop := ∃ v, e = .returned (.tuple #[v, .int .i64 t.2]) ∧ ExP w' (NewP P w w') t.1 v ∧ Below w.heap.size w w'
def MRel (V : World) (c1 c2 c3 : Int) (i : Value) (wr : World) : Prop :=
  Below V.heap.size V wr ∧ (i = .int .i64 0 ∨ (i = .int .i64 1 ∧ c1 = 0) ∨ (i = .int .i64 2 ∧ c1 = 0 ∧ c2 = 0) ∨ (i = .int .i64 3 ∧ c1 = 0 ∧ c2 = 0 ∧ c3 = 0))
theorem zeroEx_at (W : World) (Q : Nat → Prop) : ExP W Q zeroEx (.agg zeroE) := exP_iff.2 ⟨_, rfl, ⟨none, 0, rfl, Nat.le_refl _, fun h => by simp [zeroEx, Ex.sub] at h⟩⟩
set_option maxRecDepth 100000 in
set_option maxHeartbeats 4000000 in
theorem mMerge_any (kb : Int) (nb mb : ByteArray) (ib db : Int) (sb : List Ex) (pb : Option Addr) (cb : Nat) (kl : Int) (nl ml : ByteArray) (il dl : Int) (sl : List Ex) (pl : Option Addr) (cl : Nat) (kr : Int) (nr mr : ByteArray) (ir dr : Int) (sr : List Ex) (pr : Option Addr) (cr : Nat) (P : Nat → Prop) (w : World)
    (hP : ∀ b, P b → b < w.heap.size) (hmb : nodesL sb ≤ 1048576) (hml : nodesL sl ≤ 1048576) (hmr : nodesL sr ≤ 1048576) (hB : SubP w P sb (.slice pb sb.length cb)) (hL : SubP w P sl (.slice pl sl.length cl)) (hR : SubP w P sr (.slice pr sr.length cr))
    (hsz : 2 * nodesL sb + nodesL sl + nodesL sr ≤ 1048000) :
    Calls Tryd.prog 12 #[.agg (ev kb nb mb ib db pb sb.length cb), .agg (ev kl nl ml il dl pl sl.length cl), .agg (ev kr nr mr ir dr pr sr.length cr)] w (RetEx2 P w (mergeX (.mk kb nb mb ib db sb) (.mk kl nl ml il dl sl) (.mk kr nr mr ir dr sr))) := by
  have HCB : Hid (∀ W', Below w.heap.size w W' → Calls Tryd.prog 29 #[.agg (ev kb nb mb ib db pb sb.length cb)] W' fun e w' => e = .returned (.int .i64 (checkX (.mk kb nb mb ib db sb))) ∧ Below W'.heap.size W' w') := Lib.hid (fun W' hb => sCheckExpr_any kb nb mb ib db sb (.slice pb sb.length cb) W' hmb (subAt_below (subAt_of hP hB) hb hb.size))
  have HCL : Hid (∀ W', Below w.heap.size w W' → Calls Tryd.prog 29 #[.agg (ev kl nl ml il dl pl sl.length cl)] W' fun e w' => e = .returned (.int .i64 (checkX (.mk kl nl ml il dl sl))) ∧ Below W'.heap.size W' w') := Lib.hid (fun W' hb => sCheckExpr_any kl nl ml il dl sl (.slice pl sl.length cl) W' hml (subAt_below (subAt_of hP hL) hb hb.size))
  have HCR : Hid (∀ W', Below w.heap.size w W' → Calls Tryd.prog 29 #[.agg (ev kr nr mr ir dr pr sr.length cr)] W' fun e w' => e = .returned (.int .i64 (checkX (.mk kr nr mr ir dr sr))) ∧ Below W'.heap.size W' w') := Lib.hid (fun W' hb => sCheckExpr_any kr nr mr ir dr sr (.slice pr sr.length cr) W' hmr (subAt_below (subAt_of hP hR) hb hb.size))
  have HM := Lib.hid (fun (W' : World) (hb : Below w.heap.size w W') => mmerge_any (nodesL sb + 1) kb nb mb ib db sb pb cb kl nl ml il dl sl pl cl kr nr mr ir dr sr pr cr P W' (fun b h => by have := hP b h; have := hb.size; omega) (by omega) hmb hml hmr (subP_stay (fun _ h => h) (stay_below hb hP) hB) (subP_stay (fun _ h => h) (stay_below hb hP) hL) (subP_stay (fun _ h => h) (stay_below hb hP) hR))
  have HSZ := Lib.hid hsz
  have HNN := Lib.hid (mergeE_nodes (.mk kb nb mb ib db sb) (.mk kl nl ml il dl sl) (.mk kr nr mr ir dr sr))
  have HX : Hid (mergeX (.mk kb nb mb ib db sb) (.mk kl nl ml il dl sl) (.mk kr nr mr ir dr sr) = _) := Lib.hid (by unfold mergeX; exact rfl)
  obtain ⟨c1, hc1⟩ : ∃ c, checkX (.mk kb nb mb ib db sb) = c := ⟨_, rfl⟩
  obtain ⟨c2, hc2⟩ : ∃ c, checkX (.mk kl nl ml il dl sl) = c := ⟨_, rfl⟩
  obtain ⟨c3, hc3⟩ : ∃ c, checkX (.mk kr nr mr ir dr sr) = c := ⟨_, rfl⟩
  rw [hc1] at HCB HX
  rw [hc2] at HCL HX
  rw [hc3] at HCR HX
  clear hc1 hc2 hc3
  obtain ⟨W, hW, hF, hz⟩ := mframe_start w (ev kb nb mb ib db pb sb.length cb) (ev kl nl ml il dl pl sl.length cl) (ev kr nr mr ir dr pr sr.length cr)
  have HW := Lib.hid hW
  have HP := Lib.hid hP
  have HB := Lib.hid hB
  have HL := Lib.hid hL
  have HR := Lib.hid hR
  have HF := Lib.hid hF
  clear hW hP hL hB hR hF
  have HZ0 := Lib.hid hz
  clear hz
  go_enter Tryd.func12, Tryd.ntmps12
  go_wp2_with fail
  rw [HW.out]
  obtain ⟨b0, b1, b2, b3, b4, b5⟩ := cells6 HF.out.b
  obtain ⟨l0, l1, l2, l3, l4, l5⟩ := cells6 HF.out.l
  obtain ⟨r0, r1, r2, r3, r4, r5⟩ := cells6 HF.out.r
  obtain ⟨V, hV⟩ : ∃ V, W.alloc (.cells #[.int .i64 kb, .string nb, .string mb, .int .i64 ib, .int .i64 db, .slice pb sb.length cb, .int .i64 kl, .string nl, .string ml, .int .i64 il, .int .i64 dl, .slice pl sl.length cl, .int .i64 kr, .string nr, .string mr, .int .i64 ir, .int .i64 dr, .slice pr sr.length cr] 24) = V := ⟨_, rfl⟩
  have hFV : MFrame w (ev kb nb mb ib db pb sb.length cb) (ev kl nl ml il dl pl sl.length cl) (ev kr nr mr ir dr pr sr.length cr) V := by rw [← hV]; exact HF.out.kept ((Below.refl _ _).alloc (Nat.le_refl _) _)
  have hrow : V.heap[w.heap.size + 1 + 1 + 1 + 1]? = some (.cells #[.int .i64 kb, .string nb, .string mb, .int .i64 ib, .int .i64 db, .slice pb sb.length cb, .int .i64 kl, .string nl, .string ml, .int .i64 il, .int .i64 dl, .slice pl sl.length cl, .int .i64 kr, .string nr, .string mr, .int .i64 ir, .int .i64 dr, .slice pr sr.length cr] 24 (0, 0)) := by rw [← hV, ← HZ0.out]; exact World.alloc_heap_new W _
  have HV := Lib.hid hV
  have HFV := Lib.hid hFV
  have HROW := Lib.hid hrow
  clear hV hFV hrow
  go_wp2_with fail
  rw [HV.out]
  clear b0 b1 b2 b3 b4 b5 l0 l1 l2 l3 l4 l5 r0 r1 r2 r3 r4 r5
  go_loopw [17] (fun i wr => MRel V c1 c2 c3 i wr) (fun i _ => 3 - (intOf i).toNat)
  case atStart => exact ⟨Below.refl _ _, .inl rfl⟩
  case round =>
    obtain ⟨hBr, hi⟩ := hrel
    have HFR := Lib.hid (HFV.out.kept hBr)
    have hrw : wr.heap[w.heap.size + 1 + 1 + 1 + 1]? = some (.cells #[.int .i64 kb, .string nb, .string mb, .int .i64 ib, .int .i64 db, .slice pb sb.length cb, .int .i64 kl, .string nl, .string ml, .int .i64 il, .int .i64 dl, .slice pl sl.length cl, .int .i64 kr, .string nr, .string mr, .int .i64 ir, .int .i64 dr, .slice pr sr.length cr] 24 (0, 0)) := (hBr.block _ (Array.getElem?_eq_some_iff.1 HROW.out).1).trans HROW.out
    have hsr := hBr.size
    have hwr : w.heap.size + 1 + 1 + 1 + 1 < wr.heap.size := (Array.getElem?_eq_some_iff.1 hrw).1
    have hbw : Below w.heap.size w wr := HFR.out.below
    have hws := HFR.out.size
    rcases hi with rfl | ⟨rfl, rfl⟩ | ⟨rfl, rfl, rfl⟩ | ⟨rfl, rfl, rfl, rfl⟩
    · have g0 : wr.cell? ⟨w.heap.size + 1 + 1 + 1 + 1, 0, none⟩ = some (.int .i64 kb) := by simp [World.cell?, hrw]
      have g1 : wr.cell? ⟨w.heap.size + 1 + 1 + 1 + 1, 1, none⟩ = some (.string nb) := by simp [World.cell?, hrw]
      have g2 : wr.cell? ⟨w.heap.size + 1 + 1 + 1 + 1, 2, none⟩ = some (.string mb) := by simp [World.cell?, hrw]
      have g3 : wr.cell? ⟨w.heap.size + 1 + 1 + 1 + 1, 3, none⟩ = some (.int .i64 ib) := by simp [World.cell?, hrw]
      have g4 : wr.cell? ⟨w.heap.size + 1 + 1 + 1 + 1, 4, none⟩ = some (.int .i64 db) := by simp [World.cell?, hrw]
      have g5 : wr.cell? ⟨w.heap.size + 1 + 1 + 1 + 1, 5, none⟩ = some (.slice pb sb.length cb) := by simp [World.cell?, hrw]
      clear hrw
      have HCC := Lib.hid (HCB.out (wr.alloc (.cells #[.int .i64 kb, .string nb, .string mb, .int .i64 ib, .int .i64 db, .slice pb sb.length cb] 24)) (hbw.alloc (by omega) _))
      have HBA : Hid (Below wr.heap.size wr (wr.alloc (.cells #[.int .i64 kb, .string nb, .string mb, .int .i64 ib, .int .i64 db, .slice pb sb.length cb] 24))) := Lib.hid ((Below.refl _ _).alloc (Nat.le_refl _) _)
      by_cases hz : c1 = 0
      · subst hz
        go_wp2_with (go_at_call 29; refine (HCC.out).mono ?_; rintro e w9 ⟨rfl, hb9⟩)
        have hb10 : Below wr.heap.size wr w9 := HBA.out.trans (hb9.mono (by simp))
        go_roundw
        case rel => exact ⟨hBr.trans (hb10.mono hsr), .inr (.inl ⟨rfl, rfl⟩)⟩
        case measure => simp [intOf]
      · have hz1 : (c1 != 0) = true := by simpa using hz
        have HZ := Lib.hid hz
        clear hz
        go_wp2_with fail
        refine (HCC.out).mono ?_
        rintro e w9 ⟨rfl, hb9⟩
        have hb10 : Below wr.heap.size wr w9 := HBA.out.trans (hb9.mono (by simp))
        have HF9 := Lib.hid (HFR.out.kept hb10)
        obtain ⟨z0, z1, z2, z3, z4, z5⟩ := cells6 HF9.out.res
        obtain ⟨f0, f1, f2, f3, f4, f5⟩ := free6 HF9.out.res
        go_wp2_with fail
        have hbz := below6 HF9.out.below (g := w.heap.size + 1 + 1 + 1) (by omega) (.int .i64 0) (.string ⟨#[]⟩) (.string ⟨#[]⟩) (.int .i64 0) (.int .i64 0) (.slice none 0 0)
        refine bodyPost_ret (v := .tuple #[.agg zeroE, .int .i64 c1]) (by simp [results, Tryd.results12, go_sem, z0, z1, z2, z3, z4, z5]) rfl ?_
        rw [show mergeX (.mk kb nb mb ib db sb) (.mk kl nl ml il dl sl) (.mk kr nr mr ir dr sr) = (zeroEx, c1) by rw [HX.out]; simp [HZ.out]]
        exact ⟨_, rfl, zeroEx_at _ _, hbz⟩
    · have g0 : wr.cell? ⟨w.heap.size + 1 + 1 + 1 + 1, 6, none⟩ = some (.int .i64 kl) := by simp [World.cell?, hrw]
      have g1 : wr.cell? ⟨w.heap.size + 1 + 1 + 1 + 1, 7, none⟩ = some (.string nl) := by simp [World.cell?, hrw]
      have g2 : wr.cell? ⟨w.heap.size + 1 + 1 + 1 + 1, 8, none⟩ = some (.string ml) := by simp [World.cell?, hrw]
      have g3 : wr.cell? ⟨w.heap.size + 1 + 1 + 1 + 1, 9, none⟩ = some (.int .i64 il) := by simp [World.cell?, hrw]
      have g4 : wr.cell? ⟨w.heap.size + 1 + 1 + 1 + 1, 10, none⟩ = some (.int .i64 dl) := by simp [World.cell?, hrw]
      have g5 : wr.cell? ⟨w.heap.size + 1 + 1 + 1 + 1, 11, none⟩ = some (.slice pl sl.length cl) := by simp [World.cell?, hrw]
      clear hrw
      have HCC := Lib.hid (HCL.out (wr.alloc (.cells #[.int .i64 kl, .string nl, .string ml, .int .i64 il, .int .i64 dl, .slice pl sl.length cl] 24)) (hbw.alloc (by omega) _))
      have HBA : Hid (Below wr.heap.size wr (wr.alloc (.cells #[.int .i64 kl, .string nl, .string ml, .int .i64 il, .int .i64 dl, .slice pl sl.length cl] 24))) := Lib.hid ((Below.refl _ _).alloc (Nat.le_refl _) _)
      by_cases hz : c2 = 0
      · subst hz
        go_wp2_with (go_at_call 29; refine (HCC.out).mono ?_; rintro e w9 ⟨rfl, hb9⟩)
        have hb10 : Below wr.heap.size wr w9 := HBA.out.trans (hb9.mono (by simp))
        go_roundw
        case rel => exact ⟨hBr.trans (hb10.mono hsr), .inr (.inr (.inl ⟨rfl, rfl, rfl⟩))⟩
        case measure => simp [intOf]
      · have hz1 : (c2 != 0) = true := by simpa using hz
        have HZ := Lib.hid hz
        clear hz
        go_wp2_with fail
        refine (HCC.out).mono ?_
        rintro e w9 ⟨rfl, hb9⟩
        have hb10 : Below wr.heap.size wr w9 := HBA.out.trans (hb9.mono (by simp))
        have HF9 := Lib.hid (HFR.out.kept hb10)
        obtain ⟨z0, z1, z2, z3, z4, z5⟩ := cells6 HF9.out.res
        obtain ⟨f0, f1, f2, f3, f4, f5⟩ := free6 HF9.out.res
        go_wp2_with fail
        have hbz := below6 HF9.out.below (g := w.heap.size + 1 + 1 + 1) (by omega) (.int .i64 0) (.string ⟨#[]⟩) (.string ⟨#[]⟩) (.int .i64 0) (.int .i64 0) (.slice none 0 0)
        refine bodyPost_ret (v := .tuple #[.agg zeroE, .int .i64 c2]) (by simp [results, Tryd.results12, go_sem, z0, z1, z2, z3, z4, z5]) rfl ?_
        rw [show mergeX (.mk kb nb mb ib db sb) (.mk kl nl ml il dl sl) (.mk kr nr mr ir dr sr) = (zeroEx, c2) by rw [HX.out]; simp [HZ.out]]
        exact ⟨_, rfl, zeroEx_at _ _, hbz⟩
    · have g0 : wr.cell? ⟨w.heap.size + 1 + 1 + 1 + 1, 12, none⟩ = some (.int .i64 kr) := by simp [World.cell?, hrw]
      have g1 : wr.cell? ⟨w.heap.size + 1 + 1 + 1 + 1, 13, none⟩ = some (.string nr) := by simp [World.cell?, hrw]
      have g2 : wr.cell? ⟨w.heap.size + 1 + 1 + 1 + 1, 14, none⟩ = some (.string mr) := by simp [World.cell?, hrw]
      have g3 : wr.cell? ⟨w.heap.size + 1 + 1 + 1 + 1, 15, none⟩ = some (.int .i64 ir) := by simp [World.cell?, hrw]
      have g4 : wr.cell? ⟨w.heap.size + 1 + 1 + 1 + 1, 16, none⟩ = some (.int .i64 dr) := by simp [World.cell?, hrw]
      have g5 : wr.cell? ⟨w.heap.size + 1 + 1 + 1 + 1, 17, none⟩ = some (.slice pr sr.length cr) := by simp [World.cell?, hrw]
      clear hrw
      have HCC := Lib.hid (HCR.out (wr.alloc (.cells #[.int .i64 kr, .string nr, .string mr, .int .i64 ir, .int .i64 dr, .slice pr sr.length cr] 24)) (hbw.alloc (by omega) _))
      have HBA : Hid (Below wr.heap.size wr (wr.alloc (.cells #[.int .i64 kr, .string nr, .string mr, .int .i64 ir, .int .i64 dr, .slice pr sr.length cr] 24))) := Lib.hid ((Below.refl _ _).alloc (Nat.le_refl _) _)
      by_cases hz : c3 = 0
      · subst hz
        go_wp2_with (go_at_call 29; refine (HCC.out).mono ?_; rintro e w9 ⟨rfl, hb9⟩)
        have hb10 : Below wr.heap.size wr w9 := HBA.out.trans (hb9.mono (by simp))
        go_roundw
        case rel => exact ⟨hBr.trans (hb10.mono hsr), .inr (.inr (.inr ⟨rfl, rfl, rfl, rfl⟩))⟩
        case measure => simp [intOf]
      · have hz1 : (c3 != 0) = true := by simpa using hz
        have HZ := Lib.hid hz
        clear hz
        go_wp2_with fail
        refine (HCC.out).mono ?_
        rintro e w9 ⟨rfl, hb9⟩
        have hb10 : Below wr.heap.size wr w9 := HBA.out.trans (hb9.mono (by simp))
        have HF9 := Lib.hid (HFR.out.kept hb10)
        obtain ⟨z0, z1, z2, z3, z4, z5⟩ := cells6 HF9.out.res
        obtain ⟨f0, f1, f2, f3, f4, f5⟩ := free6 HF9.out.res
        go_wp2_with fail
        have hbz := below6 HF9.out.below (g := w.heap.size + 1 + 1 + 1) (by omega) (.int .i64 0) (.string ⟨#[]⟩) (.string ⟨#[]⟩) (.int .i64 0) (.int .i64 0) (.slice none 0 0)
        refine bodyPost_ret (v := .tuple #[.agg zeroE, .int .i64 c3]) (by simp [results, Tryd.results12, go_sem, z0, z1, z2, z3, z4, z5]) rfl ?_
        rw [show mergeX (.mk kb nb mb ib db sb) (.mk kl nl ml il dl sl) (.mk kr nr mr ir dr sr) = (zeroEx, c3) by rw [HX.out]; simp [HZ.out]]
        exact ⟨_, rfl, zeroEx_at _ _, hbz⟩
    · clear hrw
      obtain ⟨b0, b1, b2, b3, b4, b5⟩ := cells6 HFR.out.b
      obtain ⟨l0, l1, l2, l3, l4, l5⟩ := cells6 HFR.out.l
      obtain ⟨r0, r1, r2, r3, r4, r5⟩ := cells6 HFR.out.r
      go_wp2_with fail
      refine (HM.out wr hbw).mono ?_
      rintro e w5 ⟨v, rfl, hex, hb5⟩
      obtain ⟨sv, rfl, hsub⟩ := exP_iff.1 hex
      obtain ⟨px, cx, rfl, _, _⟩ := id hsub
      have hnm : nodesL (mergeE (.mk kb nb mb ib db sb) (.mk kl nl ml il dl sl) (.mk kr nr mr ir dr sr)).sub ≤ 1048576 := by
        have h1 := HNN.out
        rw [nodesE_eq] at h1
        simp only [nodesE] at h1
        have h2 := HSZ.out
        omega
      generalize mergeE (.mk kb nb mb ib db sb) (.mk kl nl ml il dl sl) (.mk kr nr mr ir dr sr) = tm at *
      obtain ⟨c4, hc4⟩ : ∃ c, checkX tm = c := ⟨_, rfl⟩
      rw [hc4] at HX
      have hF5 := HFR.out.kept hb5
      have HX5 := Lib.hid hex
      have HCK := Lib.hid (sCheckExpr_any tm.kind tm.name tm.more tm.int tm.den tm.sub (.slice px tm.sub.length cx) (w5.alloc (.cells #[.int .i64 tm.kind, .string tm.name, .string tm.more, .int .i64 tm.int, .int .i64 tm.den, .slice px tm.sub.length cx] 24)) hnm (subAt_below (subAt_of (B := w5.heap.size) (fun b hb => by
        rcases hb with h1 | h1
        · have := HP.out b h1; have := hb5.size; omega
        · exact h1.2) hsub) ((Below.refl _ _).alloc (Nat.le_refl _) _) (by simp)))
      rw [Ex.eta, hc4] at HCK
      have HF5 := Lib.hid hF5
      have HB5 := Lib.hid hb5
      have hs5 := hb5.size
      clear hF5 hex hc4 hb5 b0 b1 b2 b3 b4 b5 l0 l1 l2 l3 l4 l5 r0 r1 r2 r3 r4 r5
      go_wp2_with fail
      refine (HCK.out).mono ?_
      rintro e w6 ⟨rfl, hb6⟩
      have hb56 : Below w5.heap.size w5 w6 := ((Below.refl _ _).alloc (Nat.le_refl _) _).trans (hb6.mono (by simp))
      have hF6 := HF5.out.kept hb56
      obtain ⟨z0, z1, z2, z3, z4, z5⟩ := cells6 hF6.res
      obtain ⟨f0, f1, f2, f3, f4, f5⟩ := free6 hF6.res
      have hbox : w6.heap[w5.heap.size]? = some (.cells #[.int .i64 tm.kind, .string tm.name, .string tm.more, .int .i64 tm.int, .int .i64 tm.den, .slice px tm.sub.length cx] 24 (0, 0)) := (hb6.block _ (by simp)).trans (World.alloc_heap_new w5 _)
      obtain ⟨x0, x1, x2, x3, x4, x5⟩ := cells6 hbox
      have HF6 := Lib.hid hF6
      have HB56 := Lib.hid hb56
      clear hF6 hbox hb6 hb56
      by_cases hz : c4 = 0
      · subst hz
        go_wp2_with fail
        have hbz := below6 HF6.out.below (g := w.heap.size + 1 + 1 + 1) (by omega) (.int .i64 tm.kind) (.string tm.name) (.string tm.more) (.int .i64 tm.int) (.int .i64 tm.den) (.slice px tm.sub.length cx)
        have hst := stay6 (A := w6) (g := w.heap.size + 1 + 1 + 1) (.int .i64 tm.kind) (.string tm.name) (.string tm.more) (.int .i64 tm.int) (.int .i64 tm.den) (.slice px tm.sub.length cx)
        refine bodyPost_ret (v := .tuple #[.agg #[.int .i64 tm.kind, .string tm.name, .string tm.more, .int .i64 tm.int, .int .i64 tm.den, .slice px tm.sub.length cx], .int .i64 0]) (by simp [results, Tryd.results12, go_sem, z0, z1, z2, z3, z4, z5]) rfl ?_
        rw [show mergeX (.mk kb nb mb ib db sb) (.mk kl nl ml il dl sl) (.mk kr nr mr ir dr sr) = (tm, 0) by rw [HX.out]; simp]
        have hz6 := HB56.out.size
        refine ⟨_, rfl, exP_stay (fun b hb => ?_) (fun b off hb v hv => (hst b off ?_).trans ((HB56.out.cell (p := ⟨b, off, none⟩) ?_).trans hv)) tm _ HX5.out, hbz⟩
        · rw [size6]
          rcases hb with h1 | h1
          · exact .inl h1
          · exact .inr ⟨by omega, by omega⟩
        · rcases hb with h1 | h1
          · have := HP.out b h1; omega
          · omega
        · show b < w5.heap.size
          rcases hb with h1 | h1
          · have := HP.out b h1; omega
          · exact h1.2
      · have hz1 : (c4 != 0) = true := by simpa using hz
        have HZ := Lib.hid hz
        clear hz
        go_wp2_with fail
        have hbz := below6 HF6.out.below (g := w.heap.size + 1 + 1 + 1) (by omega) (.int .i64 0) (.string ⟨#[]⟩) (.string ⟨#[]⟩) (.int .i64 0) (.int .i64 0) (.slice none 0 0)
        refine bodyPost_ret (v := .tuple #[.agg zeroE, .int .i64 4]) (by simp [results, Tryd.results12, go_sem, z0, z1, z2, z3, z4, z5]) rfl ?_
        rw [show mergeX (.mk kb nb mb ib db sb) (.mk kl nl ml il dl sl) (.mk kr nr mr ir dr sr) = (zeroEx, 4) by rw [HX.out]; simp [HZ.out]]
        exact ⟨_, rfl, zeroEx_at _ _, hbz⟩
end Go.Proofs.YtiagjpiclnmpkaaDoor
