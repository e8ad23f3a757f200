/- merge of the reference of layer 32: the parts merged one by one. -/
import Derived.Test.YtiagjpiclnmpkaaDoorExZ
import Derived.Test.YtiagjpiclnmpkaaDoorExV
import Derived.Test.YtiagjpiclnmpkaaDoorHeldT
namespace Go.Proofs.YtiagjpiclnmpkaaDoor
open Go.RowKit Go.ChangeShapes Go.WideShapes

def RMergeRel (P : Nat → Prop) (W5 : World) (kb : Int) (nb mb : ByteArray) (ib db : Int) (n : Nat) (ts : List Ex) (i : Value) (wr : World) : Prop :=
  ∃ (j : Nat) (v : Value), j ≤ n ∧ i = .int .i64 j ∧ FillA P (W5.heap.size + 1) ts j v wr ∧ wr.heap[W5.heap.size]? = some (.cells #[.int .i64 kb, .string nb, .string mb, .int .i64 ib, .int .i64 db, v] 24 (0, 0)) ∧ Below W5.heap.size W5 wr ∧ W5.heap.size + 1 ≤ wr.heap.size
set_option maxRecDepth 100000 in
set_option maxHeartbeats 4000000 in
theorem rmerge_5 (kb : Int) (nb mb : ByteArray) (ib db : Int) (sb : List Ex) (pb : Option Addr) (cb : Nat) (kl : Int) (nl ml : ByteArray) (il dl : Int) (sl : List Ex) (pl : Option Addr) (cl : Nat) (kr : Int) (nr mr : ByteArray) (ir dr : Int) (sr : List Ex) (pr : Option Addr) (cr : Nat) (P : Nat → Prop) (w : World)
    (hP : ∀ b, P b → b < w.heap.size) (hmb : nodesL sb ≤ 1048576) (hml : nodesL sl ≤ 1048576) (hmr : nodesL sr ≤ 1048576) (hB : SubP w P sb (.slice pb sb.length cb)) (hL : SubP w P sl (.slice pl sl.length cl)) (hR : SubP w P sr (.slice pr sr.length cr))
    (N : Nat) (ih : ∀ (kb : Int) (nb mb : ByteArray) (ib db : Int) (sb : List Ex) (pb : Option Addr) (cb : Nat) (kl : Int) (nl ml : ByteArray) (il dl : Int) (sl : List Ex) (pl : Option Addr) (cl : Nat) (kr : Int) (nr mr : ByteArray) (ir dr : Int) (sr : List Ex) (pr : Option Addr) (cr : Nat) (P : Nat → Prop) (w : World) (_hP : ∀ b, P b → b < w.heap.size) (_hmb0 : nodesL sb < N) (_hmb : nodesL sb ≤ 1048576) (_hml : nodesL sl ≤ 1048576) (_hmr : nodesL sr ≤ 1048576) (_hB : SubP w P sb (.slice pb sb.length cb)) (_hL : SubP w P sl (.slice pl sl.length cl)) (_hR : SubP w P sr (.slice pr sr.length cr)), Calls Tryd.prog 31 #[.agg (ev kb nb mb ib db pb sb.length cb), .agg (ev kl nl ml il dl pl sl.length cl), .agg (ev kr nr mr ir dr pr sr.length cr)] w (RetEx P w (mergeE (.mk kb nb mb ib db sb) (.mk kl nl ml il dl sl) (.mk kr nr mr ir dr sr)))) (hN : nodesL sb < N + 1)
    (h1 : sameE (.mk kl nl ml il dl sl) (.mk kr nr mr ir dr sr) = false) (h2 : sameE (.mk kr nr mr ir dr sr) (.mk kb nb mb ib db sb) = false) (h3 : sameE (.mk kl nl ml il dl sl) (.mk kb nb mb ib db sb) = false) (h4 : alikeE (.mk kb nb mb ib db sb) (.mk kl nl ml il dl sl) = true) (h5 : alikeE (.mk kb nb mb ib db sb) (.mk kr nr mr ir dr sr) = true) (h6 : (kb == 15) = false) (h7 : 0 < sb.length) :
    Calls Tryd.prog 31 #[.agg (ev kb nb mb ib db pb sb.length cb), .agg (ev kl nl ml il dl pl sl.length cl), .agg (ev kr nr mr ir dr pr sr.length cr)] w (RetEx P w (.mk kb nb mb ib db (mergeL sb sl sr))) := by
  have hlenL : sb.length = sl.length := ((alikeE_iff _ _).1 h4).2.2.2.2.2
  have hlenR : sb.length = sr.length := ((alikeE_iff _ _).1 h5).2.2.2.2.2
  have HLL := Lib.hid hlenL
  have HLR := Lib.hid hlenR
  have HML := Lib.hid (mergeL_length sb sl sr hlenL hlenR)
  have HIH := Lib.hid ih
  clear hlenL hlenR ih
  have HQ1 : Hid (∀ W, MFrame w (ev kb nb mb ib db pb sb.length cb) (ev kl nl ml il dl pl sl.length cl) (ev kr nr mr ir dr pr sr.length cr) W → Calls Tryd.prog 14 #[.agg (ev kl nl ml il dl pl sl.length cl), .agg (ev kr nr mr ir dr pr sr.length cr)] W fun e w' => e = .returned (.bool false) ∧ Below W.heap.size W w') := Lib.hid (fun W hF => by
    have h := rSame_any (nodesL sl + 1) kl nl ml il dl sl (.slice pl sl.length cl) kr nr mr ir dr sr (.slice pr sr.length cr) W (by omega) (by omega) (subAt_below (subAt_of hP hL) hF.below hF.below.size) (subAt_below (subAt_of hP hR) hF.below hF.below.size)
    rw [h1] at h; exact h)
  have HQ2 : Hid (∀ W, MFrame w (ev kb nb mb ib db pb sb.length cb) (ev kl nl ml il dl pl sl.length cl) (ev kr nr mr ir dr pr sr.length cr) W → Calls Tryd.prog 14 #[.agg (ev kr nr mr ir dr pr sr.length cr), .agg (ev kb nb mb ib db pb sb.length cb)] W fun e w' => e = .returned (.bool false) ∧ Below W.heap.size W w') := Lib.hid (fun W hF => by
    have h := rSame_any (nodesL sr + 1) kr nr mr ir dr sr (.slice pr sr.length cr) kb nb mb ib db sb (.slice pb sb.length cb) W (by omega) (by omega) (subAt_below (subAt_of hP hR) hF.below hF.below.size) (subAt_below (subAt_of hP hB) hF.below hF.below.size)
    rw [h2] at h; exact h)
  have HQ3 : Hid (∀ W, MFrame w (ev kb nb mb ib db pb sb.length cb) (ev kl nl ml il dl pl sl.length cl) (ev kr nr mr ir dr pr sr.length cr) W → Calls Tryd.prog 14 #[.agg (ev kl nl ml il dl pl sl.length cl), .agg (ev kb nb mb ib db pb sb.length cb)] W fun e w' => e = .returned (.bool false) ∧ Below W.heap.size W w') := Lib.hid (fun W hF => by
    have h := rSame_any (nodesL sl + 1) kl nl ml il dl sl (.slice pl sl.length cl) kb nb mb ib db sb (.slice pb sb.length cb) W (by omega) (by omega) (subAt_below (subAt_of hP hL) hF.below hF.below.size) (subAt_below (subAt_of hP hB) hF.below hF.below.size)
    rw [h3] at h; exact h)
  have HA1 : Hid (∀ W : World, Calls Tryd.prog 44 #[.agg (ev kb nb mb ib db pb sb.length cb), .agg (ev kl nl ml il dl pl sl.length cl)] W fun e w' => e = .returned (.bool true) ∧ Below W.heap.size W w') := Lib.hid (fun W => by
    have h := ralike_any kb nb mb ib db sb pb cb kl nl ml il dl sl pl cl W
    rw [h4] at h; exact h)
  have HA2 : Hid (∀ W : World, Calls Tryd.prog 44 #[.agg (ev kb nb mb ib db pb sb.length cb), .agg (ev kr nr mr ir dr pr sr.length cr)] W fun e w' => e = .returned (.bool true) ∧ Below W.heap.size W w') := Lib.hid (fun W => by
    have h := ralike_any kb nb mb ib db sb pb cb kr nr mr ir dr sr pr cr W
    rw [h5] at h; exact h)
  have hln := length_le_nodesL sb
  have h8 : (sb.length == 0) = false := by rw [beq_eq_false_iff_ne]; omega
  have h9 : ((sb.length : Int) == 0) = false := by rw [beq_eq_false_iff_ne]; omega
  obtain ⟨W, hW, hF, hz⟩ := mframe_start w (ev kb nb mb ib db pb sb.length cb) (ev kl nl ml il dl pl sl.length cl) (ev kr nr mr ir dr pr sr.length cr)
  have HW := Lib.hid hW
  have HP := Lib.hid hP
  have HB := Lib.hid hB
  have HL := Lib.hid hL
  have HR := Lib.hid hR
  have HF := Lib.hid hF
  clear hW hP hL hB hR hF
  go_enter Tryd.func31, Tryd.ntmps31
  go_wp2_with fail
  rw [HW.out]
  refine (HQ1.out _ HF.out).mono ?_
  rintro e W1 ⟨rfl, hb1⟩
  have HF1 := Lib.hid (HF.out.kept hb1)
  obtain ⟨b0, b1, b2, b3, b4, b5⟩ := cells6 HF1.out.b
  obtain ⟨l0, l1, l2, l3, l4, l5⟩ := cells6 HF1.out.l
  obtain ⟨r0, r1, r2, r3, r4, r5⟩ := cells6 HF1.out.r
  go_wp2_with fail
  refine (HQ2.out _ HF1.out).mono ?_
  rintro e W2 ⟨rfl, hb2⟩
  have HF2 := Lib.hid (HF1.out.kept hb2)
  clear b0 b1 b2 b3 b4 b5 l0 l1 l2 l3 l4 l5 r0 r1 r2 r3 r4 r5
  obtain ⟨b0, b1, b2, b3, b4, b5⟩ := cells6 HF2.out.b
  obtain ⟨l0, l1, l2, l3, l4, l5⟩ := cells6 HF2.out.l
  obtain ⟨r0, r1, r2, r3, r4, r5⟩ := cells6 HF2.out.r
  go_wp2_with fail
  refine (HQ3.out _ HF2.out).mono ?_
  rintro e W3 ⟨rfl, hb3⟩
  have HF3 := Lib.hid (HF2.out.kept hb3)
  clear b0 b1 b2 b3 b4 b5 l0 l1 l2 l3 l4 l5 r0 r1 r2 r3 r4 r5
  obtain ⟨b0, b1, b2, b3, b4, b5⟩ := cells6 HF3.out.b
  obtain ⟨l0, l1, l2, l3, l4, l5⟩ := cells6 HF3.out.l
  obtain ⟨r0, r1, r2, r3, r4, r5⟩ := cells6 HF3.out.r
  go_wp2_with fail
  refine (HA1.out _).mono ?_
  rintro e W4 ⟨rfl, hb4⟩
  have HF4 := Lib.hid (HF3.out.kept hb4)
  clear b0 b1 b2 b3 b4 b5 l0 l1 l2 l3 l4 l5 r0 r1 r2 r3 r4 r5
  obtain ⟨b0, b1, b2, b3, b4, b5⟩ := cells6 HF4.out.b
  obtain ⟨l0, l1, l2, l3, l4, l5⟩ := cells6 HF4.out.l
  obtain ⟨r0, r1, r2, r3, r4, r5⟩ := cells6 HF4.out.r
  go_wp2_with fail
  refine (HA2.out _).mono ?_
  rintro e W5 ⟨rfl, hb5⟩
  have HF5 := Lib.hid (HF4.out.kept hb5)
  clear b0 b1 b2 b3 b4 b5 l0 l1 l2 l3 l4 l5 r0 r1 r2 r3 r4 r5
  obtain ⟨b0, b1, b2, b3, b4, b5⟩ := cells6 HF5.out.b
  obtain ⟨l0, l1, l2, l3, l4, l5⟩ := cells6 HF5.out.l
  obtain ⟨r0, r1, r2, r3, r4, r5⟩ := cells6 HF5.out.r
  have q0 : w.heap.size < W5.heap.size := by have := HF5.out.size; omega
  have q1 : w.heap.size + 1 < W5.heap.size := by have := HF5.out.size; omega
  have q2 : w.heap.size + 1 + 1 < W5.heap.size := by have := HF5.out.size; omega
  obtain ⟨W6, hW6⟩ : ∃ W6, W5.alloc (.cells #[.int .i64 kb, .string nb, .string mb, .int .i64 ib, .int .i64 db, .slice none 0 0] 24) = W6 := ⟨_, rfl⟩
  have HW6 := Lib.hid hW6
  have HR6 : Hid (RMergeRel P W5 kb nb mb ib db sb.length (mergeL sb sl sr) (.int .i64 0) W6) := Lib.hid (by rw [← hW6]; exact ⟨0, _, by omega, rfl, fillA_nil _ _ _ _, World.alloc_heap_new W5 _, (Below.refl _ _).alloc (Nat.le_refl _) _, by simp⟩)
  clear hW6
  go_wp2_with fail
  rw [HW6.out]
  clear b0 b1 b2 b3 b4 b5 l0 l1 l2 l3 l4 l5 r0 r1 r2 r3 r4 r5
  go_loopw [8] (fun i wr => RMergeRel P W5 kb nb mb ib db sb.length (mergeL sb sl sr) i wr) (fun i _ => sb.length - (intOf i).toNat)
  case atStart => exact HR6.out
  case round =>
    obtain ⟨j, v, hj, rfl, hfill, hE, hBr, hgw⟩ := hrel
    have HFR := Lib.hid (HF5.out.kept hBr)
    have HFILL := Lib.hid hfill
    have HE := Lib.hid hE
    obtain ⟨e0, e1, e2, e3, e4, e5⟩ := cells6 hE
    have hszr := hBr.size
    clear hfill hE
    obtain ⟨_, _, _, _, _, b5⟩ := cells6 HFR.out.b
    by_cases hlt : j < sb.length
    · have hltl : j < sl.length := by have := HLL.out; omega
      have hltr : j < sr.length := by have := HLR.out; omega
      obtain ⟨_, _, _, _, _, l5⟩ := cells6 HFR.out.l
      obtain ⟨_, _, _, _, _, r5⟩ := cells6 HFR.out.r
      have hstay := stay_below HFR.out.below HP.out
      obtain ⟨bb, ob, pB, cB, rfl, hPb, gb0, gb1, gb2, gb3, gb4, gb5, gb6⟩ := subP_at HB.out hstay j hlt
      obtain ⟨bl, ol, pL, cL, rfl, hPl, gl0, gl1, gl2, gl3, gl4, gl5, gl6⟩ := subP_at HL.out hstay j hltl
      obtain ⟨br, or', pR, cR, rfl, hPq, gr0, gr1, gr2, gr3, gr4, gr5, gr6⟩ := subP_at HR.out hstay j hltr
      have hD : Below wr.heap.size wr wr.drew := below_drewE (Below.refl _ _)
      have hPr : ∀ b, P b → b < wr.heap.size := fun b hb => by have := HP.out b hb; omega
      have hst2 : StayP P wr wr.drew := stay_below hD hPr
      have nb1 := nodesL_get sb j hlt
      have nb2 := nodesE_eq sb[j]
      have nl1 := nodesL_get sl j hltl
      have nl2 := nodesE_eq sl[j]
      have nr1 := nodesL_get sr j hltr
      have nr2 := nodesE_eq sr[j]
      have hC := Lib.hid (HIH.out sb[j].kind sb[j].name sb[j].more sb[j].int sb[j].den sb[j].sub pB cB sl[j].kind sl[j].name sl[j].more sl[j].int sl[j].den sl[j].sub pL cL sr[j].kind sr[j].name sr[j].more sr[j].int sr[j].den sr[j].sub pR cR P wr.drew hPr (by omega) (by omega) (by omega) (by omega) (subP_stay (fun _ h => h) hst2 gb6) (subP_stay (fun _ h => h) hst2 gl6) (subP_stay (fun _ h => h) hst2 gr6))
      rw [Ex.eta, Ex.eta, Ex.eta] at hC
      have HT := Lib.hid (fun h => mergeL_get sb sl sr j hlt hltl hltr h)
      generalize mergeE sb[j] sl[j] sr[j] = tm at *
      have HPR := Lib.hid hPr
      have k0 : (0 : Int) ≤ (j : Int) := by omega
      have k1 : (j : Int) < (sb.length : Int) := by omega
      have k2 : (j : Int) < (sl.length : Int) := by omega
      have k3 : (j : Int) < (sr.length : Int) := by omega
      have hbbl : bb < w.heap.size := HP.out bb hPb
      have hbll : bl < w.heap.size := HP.out bl hPl
      have hbrl : br < w.heap.size := HP.out br hPq
      clear gb6 gl6 gr6 nb1 nb2 nl1 nl2 nr1 nr2 hD hPr hst2 hstay
      have HSM : Hid (∀ w' : World, (∀ b, b < W5.heap.size + 1 → w'.heap[b]? = wr.heap[b]?) → (w'.cell? ⟨W5.heap.size, 5, none⟩ = some (v) ∧ w'.cell? ⟨w.heap.size, 5, none⟩ = some (.slice (some ⟨bb, ob, none⟩) sb.length cb) ∧ w'.cell? ⟨w.heap.size + 1, 5, none⟩ = some (.slice (some ⟨bl, ol, none⟩) sl.length cl) ∧ w'.cell? ⟨w.heap.size + 1 + 1, 5, none⟩ = some (.slice (some ⟨br, or', none⟩) sr.length cr) ∧ w'.cell? ⟨bb, ob + j * 6, none⟩ = some (.int .i64 sb[j].kind) ∧ w'.cell? ⟨bb, ob + j * 6 + 1, none⟩ = some (.string sb[j].name) ∧ w'.cell? ⟨bb, ob + j * 6 + 2, none⟩ = some (.string sb[j].more) ∧ w'.cell? ⟨bb, ob + j * 6 + 3, none⟩ = some (.int .i64 sb[j].int) ∧ w'.cell? ⟨bb, ob + j * 6 + 4, none⟩ = some (.int .i64 sb[j].den) ∧ w'.cell? ⟨bb, ob + j * 6 + 5, none⟩ = some (.slice pB sb[j].sub.length cB) ∧ w'.cell? ⟨bl, ol + j * 6, none⟩ = some (.int .i64 sl[j].kind) ∧ w'.cell? ⟨bl, ol + j * 6 + 1, none⟩ = some (.string sl[j].name) ∧ w'.cell? ⟨bl, ol + j * 6 + 2, none⟩ = some (.string sl[j].more) ∧ w'.cell? ⟨bl, ol + j * 6 + 3, none⟩ = some (.int .i64 sl[j].int) ∧ w'.cell? ⟨bl, ol + j * 6 + 4, none⟩ = some (.int .i64 sl[j].den) ∧ w'.cell? ⟨bl, ol + j * 6 + 5, none⟩ = some (.slice pL sl[j].sub.length cL) ∧ w'.cell? ⟨br, or' + j * 6, none⟩ = some (.int .i64 sr[j].kind) ∧ w'.cell? ⟨br, or' + j * 6 + 1, none⟩ = some (.string sr[j].name) ∧ w'.cell? ⟨br, or' + j * 6 + 2, none⟩ = some (.string sr[j].more) ∧ w'.cell? ⟨br, or' + j * 6 + 3, none⟩ = some (.int .i64 sr[j].int) ∧ w'.cell? ⟨br, or' + j * 6 + 4, none⟩ = some (.int .i64 sr[j].den) ∧ w'.cell? ⟨br, or' + j * 6 + 5, none⟩ = some (.slice pR sr[j].sub.length cR))) := Lib.hid (fun w' h => ⟨(World.cell?_of_block (h _ (by (show W5.heap.size < W5.heap.size + 1); omega))).trans e5, (World.cell?_of_block (h _ (by (show w.heap.size < W5.heap.size + 1); omega))).trans b5, (World.cell?_of_block (h _ (by (show w.heap.size + 1 < W5.heap.size + 1); omega))).trans l5, (World.cell?_of_block (h _ (by (show w.heap.size + 1 + 1 < W5.heap.size + 1); omega))).trans r5, (World.cell?_of_block (h _ (by (show bb < W5.heap.size + 1); omega))).trans gb0, (World.cell?_of_block (h _ (by (show bb < W5.heap.size + 1); omega))).trans gb1, (World.cell?_of_block (h _ (by (show bb < W5.heap.size + 1); omega))).trans gb2, (World.cell?_of_block (h _ (by (show bb < W5.heap.size + 1); omega))).trans gb3, (World.cell?_of_block (h _ (by (show bb < W5.heap.size + 1); omega))).trans gb4, (World.cell?_of_block (h _ (by (show bb < W5.heap.size + 1); omega))).trans gb5, (World.cell?_of_block (h _ (by (show bl < W5.heap.size + 1); omega))).trans gl0, (World.cell?_of_block (h _ (by (show bl < W5.heap.size + 1); omega))).trans gl1, (World.cell?_of_block (h _ (by (show bl < W5.heap.size + 1); omega))).trans gl2, (World.cell?_of_block (h _ (by (show bl < W5.heap.size + 1); omega))).trans gl3, (World.cell?_of_block (h _ (by (show bl < W5.heap.size + 1); omega))).trans gl4, (World.cell?_of_block (h _ (by (show bl < W5.heap.size + 1); omega))).trans gl5, (World.cell?_of_block (h _ (by (show br < W5.heap.size + 1); omega))).trans gr0, (World.cell?_of_block (h _ (by (show br < W5.heap.size + 1); omega))).trans gr1, (World.cell?_of_block (h _ (by (show br < W5.heap.size + 1); omega))).trans gr2, (World.cell?_of_block (h _ (by (show br < W5.heap.size + 1); omega))).trans gr3, (World.cell?_of_block (h _ (by (show br < W5.heap.size + 1); omega))).trans gr4, (World.cell?_of_block (h _ (by (show br < W5.heap.size + 1); omega))).trans gr5⟩)
      have HRF : Hid (∀ b, b < W5.heap.size + 1 → wr.drew.heap[b]? = wr.heap[b]?) := Lib.hid (fun _ _ => rfl)
      go_wp2_with fail
      clear e0 e1 e2 e3 e4 e5 b5 l5 r5 gb0 gb1 gb2 gb3 gb4 gb5 gl0 gl1 gl2 gl3 gl4 gl5 gr0 gr1 gr2 gr3 gr4 gr5
      refine wp_region_T (fun w' => w'.cell? ⟨W5.heap.size, 5, none⟩ = some (v) ∧ w'.cell? ⟨w.heap.size, 5, none⟩ = some (.slice (some ⟨bb, ob, none⟩) sb.length cb) ∧ w'.cell? ⟨w.heap.size + 1, 5, none⟩ = some (.slice (some ⟨bl, ol, none⟩) sl.length cl) ∧ w'.cell? ⟨w.heap.size + 1 + 1, 5, none⟩ = some (.slice (some ⟨br, or', none⟩) sr.length cr) ∧ w'.cell? ⟨bb, ob + j * 6, none⟩ = some (.int .i64 sb[j].kind) ∧ w'.cell? ⟨bb, ob + j * 6 + 1, none⟩ = some (.string sb[j].name) ∧ w'.cell? ⟨bb, ob + j * 6 + 2, none⟩ = some (.string sb[j].more) ∧ w'.cell? ⟨bb, ob + j * 6 + 3, none⟩ = some (.int .i64 sb[j].int) ∧ w'.cell? ⟨bb, ob + j * 6 + 4, none⟩ = some (.int .i64 sb[j].den) ∧ w'.cell? ⟨bb, ob + j * 6 + 5, none⟩ = some (.slice pB sb[j].sub.length cB) ∧ w'.cell? ⟨bl, ol + j * 6, none⟩ = some (.int .i64 sl[j].kind) ∧ w'.cell? ⟨bl, ol + j * 6 + 1, none⟩ = some (.string sl[j].name) ∧ w'.cell? ⟨bl, ol + j * 6 + 2, none⟩ = some (.string sl[j].more) ∧ w'.cell? ⟨bl, ol + j * 6 + 3, none⟩ = some (.int .i64 sl[j].int) ∧ w'.cell? ⟨bl, ol + j * 6 + 4, none⟩ = some (.int .i64 sl[j].den) ∧ w'.cell? ⟨bl, ol + j * 6 + 5, none⟩ = some (.slice pL sl[j].sub.length cL) ∧ w'.cell? ⟨br, or' + j * 6, none⟩ = some (.int .i64 sr[j].kind) ∧ w'.cell? ⟨br, or' + j * 6 + 1, none⟩ = some (.string sr[j].name) ∧ w'.cell? ⟨br, or' + j * 6 + 2, none⟩ = some (.string sr[j].more) ∧ w'.cell? ⟨br, or' + j * 6 + 3, none⟩ = some (.int .i64 sr[j].int) ∧ w'.cell? ⟨br, or' + j * 6 + 4, none⟩ = some (.int .i64 sr[j].den) ∧ w'.cell? ⟨br, or' + j * 6 + 5, none⟩ = some (.slice pR sr[j].sub.length cR)) 21 (by kernel_rfl) (HSM.out wr.drew HRF.out) (fun hHeld => ?_)
      refine wpAnyT_take (i := 0) (v := ?v0) rfl (by kernel_rfl) (by kernel_rfl) (by kernel_rfl) (by kernel_rfl) (by decide) (fun _ _ _ h => h) (Or.inl ⟨by rfl, ?hy0⟩) hHeld ?rest0
      case hy0 => (intro w hSw; (try dsimp only at hSw); go_simp; (try with_reducible rfl))
      try simp only [Act.put, List.setIfInBounds_toArray]
      refine wpAnyT_take (i := 1) (v := ?v1) rfl (by kernel_rfl) (by kernel_rfl) (by kernel_rfl) (by kernel_rfl) (by decide) (fun _ _ _ h => h) (Or.inl ⟨by rfl, ?hy1⟩) hHeld ?rest1
      case hy1 => (intro w hSw; (try dsimp only at hSw); go_simp; (try with_reducible rfl))
      try simp only [Act.put]
      refine wpAnyT_take (i := 2) (v := ?v2) rfl (by kernel_rfl) (by kernel_rfl) (by kernel_rfl) (by kernel_rfl) (by decide) (fun _ _ _ h => h) (Or.inl ⟨by rfl, ?hy2⟩) hHeld ?rest2
      case hy2 => (intro w hSw; (try dsimp only at hSw); go_simp; (try with_reducible rfl))
      try simp only [Act.put]
      refine wpAnyT_take (i := 3) (v := ?v3) rfl (by kernel_rfl) (by kernel_rfl) (by kernel_rfl) (by kernel_rfl) (by decide) (fun _ _ _ h => h) (Or.inl ⟨by rfl, ?hy3⟩) hHeld ?rest3
      case hy3 => (intro w hSw; (try dsimp only at hSw); go_simp; (try with_reducible rfl))
      try simp only [Act.put]
      refine wpAnyT_take (i := 4) (v := ?v4) rfl (by kernel_rfl) (by kernel_rfl) (by kernel_rfl) (by kernel_rfl) (by decide) (fun _ _ _ h => h) (Or.inl ⟨by rfl, ?hy4⟩) hHeld ?rest4
      case hy4 => (intro w hSw; (try dsimp only at hSw); go_simp; (try with_reducible rfl))
      try simp only [Act.put]
      refine wpAnyT_take (i := 5) (v := ?v5) rfl (by kernel_rfl) (by kernel_rfl) (by kernel_rfl) (by kernel_rfl) (by decide) (fun _ _ _ h => h) (Or.inl ⟨by rfl, ?hy5⟩) hHeld ?rest5
      case hy5 => (intro w hSw; (try dsimp only at hSw); go_simp; (try with_reducible rfl))
      try simp only [Act.put]
      refine wpAnyT_take (i := 6) (v := ?v6) rfl (by kernel_rfl) (by kernel_rfl) (by kernel_rfl) (by kernel_rfl) (by decide) (fun _ _ _ h => h) (Or.inl ⟨by rfl, ?hy6⟩) hHeld ?rest6
      case hy6 => (intro w hSw; (try dsimp only at hSw); go_simp; (try with_reducible rfl))
      try simp only [Act.put]
      refine wpAnyT_take (i := 7) (v := ?v7) rfl (by kernel_rfl) (by kernel_rfl) (by kernel_rfl) (by kernel_rfl) (by decide) (fun _ _ _ h => h) (Or.inl ⟨by rfl, ?hy7⟩) hHeld ?rest7
      case hy7 => (intro w hSw; (try dsimp only at hSw); go_simp; (try with_reducible rfl))
      try simp only [Act.put]
      refine wpAnyT_take (i := 8) (v := ?v8) rfl (by kernel_rfl) (by kernel_rfl) (by kernel_rfl) (by kernel_rfl) (by decide) (fun _ _ _ h => h) (Or.inl ⟨by rfl, ?hy8⟩) hHeld ?rest8
      case hy8 => (intro w hSw; (try dsimp only at hSw); go_simp; (try with_reducible rfl))
      try simp only [Act.put]
      refine wpAnyT_take (i := 9) (v := ?v9) rfl (by kernel_rfl) (by kernel_rfl) (by kernel_rfl) (by kernel_rfl) (by decide) (fun _ _ _ h => h) (Or.inl ⟨by rfl, ?hy9⟩) hHeld ?rest9
      case hy9 => (intro w hSw; (try dsimp only at hSw); go_simp; (try with_reducible rfl))
      try simp only [Act.put]
      refine wpAnyT_take (i := 10) (v := ?v10) rfl (by kernel_rfl) (by kernel_rfl) (by kernel_rfl) (by kernel_rfl) (by decide) (fun _ _ _ h => h) (Or.inl ⟨by rfl, ?hy10⟩) hHeld ?rest10
      case hy10 => (intro w hSw; (try dsimp only at hSw); go_simp; (try with_reducible rfl))
      try simp only [Act.put]
      refine wpAnyT_take (i := 11) (v := ?v11) rfl (by kernel_rfl) (by kernel_rfl) (by kernel_rfl) (by kernel_rfl) (by decide) (fun _ _ _ h => h) (Or.inl ⟨by rfl, ?hy11⟩) hHeld ?rest11
      case hy11 => (intro w hSw; (try dsimp only at hSw); go_simp; (try with_reducible rfl))
      try simp only [Act.put]
      refine wpAnyT_take (i := 12) (v := ?v12) rfl (by kernel_rfl) (by kernel_rfl) (by kernel_rfl) (by kernel_rfl) (by decide) (fun _ _ _ h => h) (Or.inl ⟨by rfl, ?hy12⟩) hHeld ?rest12
      case hy12 => (intro w hSw; (try dsimp only at hSw); go_simp; (try with_reducible rfl))
      try simp only [Act.put]
      refine wpAnyT_take (i := 13) (v := ?v13) rfl (by kernel_rfl) (by kernel_rfl) (by kernel_rfl) (by kernel_rfl) (by decide) (fun _ _ _ h => h) (Or.inl ⟨by rfl, ?hy13⟩) hHeld ?rest13
      case hy13 => (intro w hSw; (try dsimp only at hSw); go_simp; (try with_reducible rfl))
      try simp only [Act.put]
      refine wpAnyT_take (i := 14) (v := ?v14) rfl (by kernel_rfl) (by kernel_rfl) (by kernel_rfl) (by kernel_rfl) (by decide) (fun _ _ _ h => h) (Or.inl ⟨by rfl, ?hy14⟩) hHeld ?rest14
      case hy14 => (intro w hSw; (try dsimp only at hSw); go_simp; (try with_reducible rfl))
      try simp only [Act.put]
      refine wpAnyT_take (i := 15) (v := ?v15) rfl (by kernel_rfl) (by kernel_rfl) (by kernel_rfl) (by kernel_rfl) (by decide) (fun _ _ _ h => h) (Or.inl ⟨by rfl, ?hy15⟩) hHeld ?rest15
      case hy15 => (intro w hSw; (try dsimp only at hSw); go_simp; (try with_reducible rfl))
      try simp only [Act.put]
      refine wpAnyT_take (i := 16) (v := ?v16) rfl (by kernel_rfl) (by kernel_rfl) (by kernel_rfl) (by kernel_rfl) (by decide) (fun _ _ _ h => h) (Or.inl ⟨by rfl, ?hy16⟩) hHeld ?rest16
      case hy16 => (intro w hSw; (try dsimp only at hSw); go_simp; (try with_reducible rfl))
      try simp only [Act.put]
      refine wpAnyT_one (i := 17) (by kernel_rfl) rfl (fun K hK => ?_)
      go_simp
      refine (hC.out).mono ?_
      rintro e W7 ⟨v7, rfl, hex, hb7⟩
      obtain ⟨sv, rfl, hsub⟩ := exP_iff.1 hex
      obtain ⟨px, cx, rfl, _, _⟩ := id hsub
      have HK7 : Hid (∀ b, b < W5.heap.size + 1 → W7.heap[b]? = wr.heap[b]?) := Lib.hid (fun b hb => hb7.block b (by (show b < wr.heap.size); omega))
      go_wp2_with fail
      refine hK.out _ _ (fun _ => HSM.out _ HK7.out) ?_
      clear hK K hHeld
      have hHeld := HSM.out _ HK7.out
      try simp only [Act.put, List.setIfInBounds_toArray, List.set_cons_zero, List.set_cons_succ]
      refine wpAnyT_one (i := 18) (by kernel_rfl) rfl (fun K hK => ?_)
      go_simp
      have HK8 : Hid (∀ b, b < W5.heap.size + 1 → (W7.alloc (.cells #[.int .i64 tm.kind, .string tm.name, .string tm.more, .int .i64 tm.int, .int .i64 tm.den, .slice px tm.sub.length cx] 24)).heap[b]? = wr.heap[b]?) := Lib.hid (fun b hb => (Below.heap_alloc _ _ _ (by have := hb7.size; have h9 : wr.heap.size ≤ W7.heap.size := hb7.size; omega)).trans (HK7.out b hb))
      refine hK.out _ _ (fun _ => HSM.out _ HK8.out) ?_
      clear hK K hHeld
      try simp only [Act.put, List.setIfInBounds_toArray, List.set_cons_zero, List.set_cons_succ]
      obtain ⟨i0, hi0, hz0, hz1, hz2⟩ := info_parts infoExpr
      have hF7 := (HFILL.out.kept (below_drewE (Below.refl _ _)) HPR.out).kept hb7 HPR.out
      have h97 : wr.heap.size ≤ W7.heap.size := hb7.size
      have hF8 := hF7.kept (B := W7.alloc (.cells #[.int .i64 tm.kind, .string tm.name, .string tm.more, .int .i64 tm.int, .int .i64 tm.den, .slice px tm.sub.length cx] 24)) ((Below.refl _ _).alloc (Nat.le_refl _) _) (fun b hb => by have := HPR.out b hb; omega)
      obtain ⟨xs, hown⟩ := hF8.own
      refine wpAnyT_one (i := 19) (by kernel_rfl) rfl (fun K hK => ?_)
      refine step_append_lies _ (by rfl) _ _ _ (by rfl) (W5.heap.size + 1) 24 i0 _ 6 80 Tryd.underlying22 hi0 hz0 hz1 hz2 rfl (by omega) v j xs (by rfl) hown ⟨W7.heap.size, 0, none⟩ 1 1 [.int .i64 tm.kind, .string tm.name, .string tm.more, .int .i64 tm.int, .int .i64 tm.den, .slice px tm.sub.length cx] (by rfl) (by rfl) (World.news_of_block (World.alloc_heap_new W7 _)) (by simp [Value.oneCell']) (by omega) (by unfold maxLen; omega) (by omega) (by simp; omega) (W7.heap.size + 1) (by simp) ?_
      intro gg cap9 w9 hown9 hgrow hat hlt9
      have hvl : ∀ b, wr.heap.size ≤ b → v.ownBlock ≠ some b := fun b hb e => by
        obtain ⟨ys, hy⟩ := HFILL.out.own
        have := (hy.lt b e).2; omega
      have hF9 := hF8.push hown hown9 hgrow (by rcases hat with h | h; exact .inl h; exact .inr (by simp [h])) (subP_stay (fun b hb => (by
        rcases hb with h1 | ⟨h1, h2⟩
        · exact .inl h1
        · have h1' : wr.heap.size ≤ b := h1
          exact .inr ⟨by omega, by simp; omega, hvl b h1'⟩)) (stay_below ((Below.refl _ _).alloc (Nat.le_refl _) _) (fun b hb => (by
        rcases hb with h1 | h1
        · have := HPR.out b h1; omega
        · exact h1.2))) hsub) (fun b hb => by have := HP.out b hb; omega) (by simp; omega) (fun h => by rw [HT.out h]; exact (Ex.eta tm).symm)
      have HF9 := Lib.hid hF9
      have HG9 := Lib.hid hgrow
      have HO9 := Lib.hid hown
      have hne9 : ∀ b, b < W5.heap.size + 1 → some b ≠ v.ownBlock := fun b hb e => by have := (hown.lt b e.symm).1; omega
      have HK9 : Hid (∀ b, b < W5.heap.size + 1 → w9.heap[b]? = wr.heap[b]?) := Lib.hid (fun b hb => (hgrow.block b (by simp; omega) (hne9 b hb)).trans (HK8.out b hb))
      refine hK.out _ _ (fun _ => HSM.out _ HK9.out) ?_
      clear hK K
      have hHeld := HSM.out _ HK9.out
      have HE9 := Lib.hid ((HK9.out W5.heap.size (by omega)).trans HE.out)
      have hfr := free6 HE9.out
      try simp only [Act.put, List.setIfInBounds_toArray]
      refine wpAnyT_one (i := 20) (by kernel_rfl) rfl (fun K hK => ?_)
      go_simp
      refine hK.out _ _ (fun _ => hHeld) ?_
      clear hK K
      try simp only [Act.put, List.setIfInBounds_toArray, List.set_cons_zero, List.set_cons_succ]
      obtain ⟨_, _, _, _, _, x5⟩ := cells6 HE9.out
      obtain ⟨_, _, _, _, _, y5⟩ := hfr
      refine wpAnyT_one (i := 21) (by kernel_rfl) rfl (fun K hK => ?_)
      go_simp
      refine hK.out _ _ (fun h => absurd rfl h) ?_
      clear hK K
      refine wpAnyT_done (by kernel_rfl) ?_ _
      have HF10 := Lib.hid (HF9.out.other (x := W5.heap.size) (B := w9.setCell ⟨W5.heap.size, 5, none⟩ (.slice (some ⟨gg, 0, none⟩) (j + 1) cap9)) (by omega) (fun b hb => by have := HP.out b hb; omega) (fun b hb => Below.heap_setCell _ _ _ _ hb) (by simp [World.setCell]))
      have HE10 : Hid ((w9.setCell ⟨W5.heap.size, 5, none⟩ (.slice (some ⟨gg, 0, none⟩) (j + 1) cap9)).heap[W5.heap.size]? = some (.cells #[.int .i64 kb, .string nb, .string mb, .int .i64 ib, .int .i64 db, .slice (some ⟨gg, 0, none⟩) (j + 1) cap9] 24 (0, 0))) := Lib.hid (setCell_row (o := 5) _ HE9.out)
      have HB7 : Hid (Below W5.heap.size W5 W7) := Lib.hid ((below_drewE hBr).trans (hb7.mono hszr))
      have HB10 : Hid (Below W5.heap.size W5 (w9.setCell ⟨W5.heap.size, 5, none⟩ (.slice (some ⟨gg, 0, none⟩) (j + 1) cap9))) := Lib.hid ((((HB7.out.alloc (by omega) _).grown HG9.out (by simp; omega) (fun k e => by have := (HO9.out.lt k e).1; omega))).setCell (p := ⟨W5.heap.size, 5, none⟩) (Nat.le_refl _) _)
      have hs10 : W5.heap.size + 1 ≤ w9.heap.size := by have := HG9.out.size; simp at this; omega
      go_wp2_with fail
      go_roundw
      case rel => exact ⟨j + 1, _, by omega, by go_num, HF10.out, HE10.out, HB10.out, by simpa [World.setCell] using hs10⟩
      case measure => simp [intOf]; omega
    · obtain rfl : j = sb.length := by omega
      obtain ⟨g9, cap9, rfl⟩ : ∃ g cap, v = .slice (some ⟨g, 0, none⟩) sb.length cap := by
        obtain ⟨ys, _, h2 | ⟨g, cap, cur, h3, _⟩⟩ := HFILL.out.own
        · omega
        · exact ⟨g, cap, h3⟩
      obtain ⟨z0, z1, z2, z3, z4, z5⟩ := cells6 HFR.out.res
      obtain ⟨f0, f1, f2, f3, f4, f5⟩ := free6 HFR.out.res
      have q5 : w.heap.size + 1 + 1 + 1 < W5.heap.size := by have := HF5.out.size; omega
      go_wp2_with fail
      have hbz := below6 HFR.out.below (g := w.heap.size + 1 + 1 + 1) (by omega) (.int .i64 kb) (.string nb) (.string mb) (.int .i64 ib) (.int .i64 db) (.slice (some ⟨g9, 0, none⟩) sb.length cap9)
      have hst := stay6 (A := wr) (g := w.heap.size + 1 + 1 + 1) (.int .i64 kb) (.string nb) (.string mb) (.int .i64 ib) (.int .i64 db) (.slice (some ⟨g9, 0, none⟩) sb.length cap9)
      refine bodyPost_ret (v := .agg #[.int .i64 kb, .string nb, .string mb, .int .i64 ib, .int .i64 db, .slice (some ⟨g9, 0, none⟩) sb.length cap9]) (by simp [results, Tryd.results31, go_sem, z0, z1, z2, z3, z4, z5]) rfl ⟨_, rfl, exP_iff.2 ⟨_, rfl, ?_⟩, hbz⟩
      refine HFILL.out.done HML.out (fun b hb => ?_) (fun b off hb v hv => (hst b off ?_).trans hv)
      · rw [size6]
        rcases hb with h1 | h1
        · exact .inl h1
        · exact .inr ⟨by omega, h1.2⟩
      · rcases hb with h1 | h1
        · have := HP.out b h1; omega
        · omega
end Go.Proofs.YtiagjpiclnmpkaaDoor
