/- merge of exprmerge: the parts merged one by one. -/
import Derived.Test.YtiagjpiclnmpkaaDoorExU
import Derived.Test.YtiagjpiclnmpkaaDoorGW
import Derived.Laws.MakeOwn
namespace Go.Proofs.YtiagjpiclnmpkaaDoor
open Go.RowKit Go.ChangeShapes Go.WideShapes

theorem run_make_rowN {P : Program} (t e : TypeId) (i : TypeInfo) (z : Value) (ht : P.underlying t = some (.slice e)) (hi : P.info? e = some i) (hz : i.zero = some z)
    (kl kc : IntKind) (n c : Nat) (hnc : n ≤ c) (hbytes : i.bytes * c ≤ 281474976710656) (h63 : c ≤ 9223372036854775807) (w : World) :
    (Instr.makeSlice t (.int kl (n : Int)) (.int kc (c : Int))).run P w = .ok (.slice (some ⟨w.heap.size, 0, none⟩) n c) (w.alloc (.cells (madeCells z.cells (c * i.size)) e)) := by
  have hb : (i.bytes : Int) * (c : Int) ≤ 281474976710656 := by
    have h : ((i.bytes * c : Nat) : Int) ≤ 281474976710656 := by omega
    rwa [Int.natCast_mul] at h
  have hr := run_make (P := P) w t e i z ht hi hz kl kc n c (by omega) (by omega) hb (by omega)
  simp only [Int.toNat_natCast] at hr
  exact hr
theorem infoExpr : (Tryd.prog.info? 24).map (fun i => (i.zero, i.size, i.bytes)) = some (some (.agg zeroE), 6, 80) := by kernel_rfl
theorem mkN (n : Nat) (hn : n ≤ 1048576) : ∀ W : World, (Instr.makeSlice 22 (.int .i64 (n : Int)) (.int .i64 (n : Int))).run Tryd.prog W = .ok (.slice (some ⟨W.heap.size, 0, none⟩) n n) (W.alloc (.cells (madeCells zeroE (n * 6)) 24)) := by
  obtain ⟨i0, hi0, hz0, hz1, hz2⟩ := info_parts infoExpr
  intro W
  have h := run_make_rowN (P := Tryd.prog) 22 24 i0 _ Tryd.underlying22 hi0 hz0 .i64 .i64 n n (Nat.le_refl _) (by rw [hz2]; omega) (by omega) W
  rw [hz1] at h
  exact h
def MergeRel (P : Nat → Prop) (W5 : World) (E : Array Value) (n : Nat) (ts : List Ex) (i : Value) (wr : World) : Prop :=
  ∃ j : Nat, j ≤ n ∧ i = .int .i64 j ∧ Fill P (W5.heap.size + 1) n ts j wr ∧ wr.heap[W5.heap.size]? = some (.cells E 24 (0, 0)) ∧ Below W5.heap.size W5 wr ∧ W5.heap.size + 1 < wr.heap.size
theorem merge_blocks {P : Nat → Prop} {wr W7 : World} {g : Nat} (hg : g < wr.heap.size) : ∀ b, NewP P wr.drew W7 b → (P b ∨ (g < b ∧ b < W7.heap.size)) := fun b hb => by
  rcases hb with h1 | ⟨h1, h2⟩
  · exact .inl h1
  · have h1' : wr.heap.size ≤ b := h1
    exact .inr ⟨by omega, h2⟩
theorem merge_start (P : Nat → Prop) (W5 : World) (E : Array Value) (n : Nat) (ts : List Ex) : ∃ W6, (W5.alloc (.cells E 24)).alloc (.cells (madeCells zeroE (n * 6)) 24) = W6 ∧ MergeRel P W5 E n ts (.int .i64 0) W6 := by
  refine ⟨_, rfl, 0, by omega, rfl, ⟨⟨madeCells zeroE (n * 6), ?_, ?_⟩, fun k hk => by omega⟩, (Below.heap_alloc _ _ _ (by simp)).trans (World.alloc_heap_new W5 _), ((Below.refl _ _).alloc (Nat.le_refl _) _).alloc (by simp) _, by simp⟩
  · have := World.alloc_heap_new (W5.alloc (.cells E 24)) (.cells (madeCells zeroE (n * 6)) 24)
    simp only [World.size_alloc] at this
    exact this
  · simp [madeCells]
set_option maxRecDepth 100000 in
set_option maxHeartbeats 4000000 in
theorem mmerge_5 (kb : Int) (nb mb : ByteArray) (ib db : Int) (sb : List Ex) (pb : Option Addr) (cb : Nat) (kl : Int) (nl ml : ByteArray) (il dl : Int) (sl : List Ex) (pl : Option Addr) (cl : Nat) (kr : Int) (nr mr : ByteArray) (ir dr : Int) (sr : List Ex) (pr : Option Addr) (cr : Nat) (P : Nat → Prop) (w : World)
    (hP : ∀ b, P b → b < w.heap.size) (hmb : nodesL sb ≤ 1048576) (hml : nodesL sl ≤ 1048576) (hmr : nodesL sr ≤ 1048576) (hB : SubP w P sb (.slice pb sb.length cb)) (hL : SubP w P sl (.slice pl sl.length cl)) (hR : SubP w P sr (.slice pr sr.length cr))
    (N : Nat) (ih : ∀ (kb : Int) (nb mb : ByteArray) (ib db : Int) (sb : List Ex) (pb : Option Addr) (cb : Nat) (kl : Int) (nl ml : ByteArray) (il dl : Int) (sl : List Ex) (pl : Option Addr) (cl : Nat) (kr : Int) (nr mr : ByteArray) (ir dr : Int) (sr : List Ex) (pr : Option Addr) (cr : Nat) (P : Nat → Prop) (w : World) (_hP : ∀ b, P b → b < w.heap.size) (_hmb0 : nodesL sb < N) (_hmb : nodesL sb ≤ 1048576) (_hml : nodesL sl ≤ 1048576) (_hmr : nodesL sr ≤ 1048576) (_hB : SubP w P sb (.slice pb sb.length cb)) (_hL : SubP w P sl (.slice pl sl.length cl)) (_hR : SubP w P sr (.slice pr sr.length cr)), Calls Tryd.prog 30 #[.agg (ev kb nb mb ib db pb sb.length cb), .agg (ev kl nl ml il dl pl sl.length cl), .agg (ev kr nr mr ir dr pr sr.length cr)] w (RetEx P w (mergeE (.mk kb nb mb ib db sb) (.mk kl nl ml il dl sl) (.mk kr nr mr ir dr sr)))) (hN : nodesL sb < N + 1)
    (h1 : sameE (.mk kl nl ml il dl sl) (.mk kr nr mr ir dr sr) = false) (h2 : sameE (.mk kr nr mr ir dr sr) (.mk kb nb mb ib db sb) = false) (h3 : sameE (.mk kl nl ml il dl sl) (.mk kb nb mb ib db sb) = false) (h4 : alikeE (.mk kb nb mb ib db sb) (.mk kl nl ml il dl sl) = true) (h5 : alikeE (.mk kb nb mb ib db sb) (.mk kr nr mr ir dr sr) = true) (h6 : (kb != 15) = true) (h7 : 0 < sb.length) :
    Calls Tryd.prog 30 #[.agg (ev kb nb mb ib db pb sb.length cb), .agg (ev kl nl ml il dl pl sl.length cl), .agg (ev kr nr mr ir dr pr sr.length cr)] w (RetEx P w (.mk kb nb mb ib db (mergeL sb sl sr))) := by
  have hlenL : sb.length = sl.length := ((alikeE_iff _ _).1 h4).2.2.2.2.2
  have hlenR : sb.length = sr.length := ((alikeE_iff _ _).1 h5).2.2.2.2.2
  have HLL := Lib.hid hlenL
  have HLR := Lib.hid hlenR
  have HML := Lib.hid (mergeL_length sb sl sr hlenL hlenR)
  have HIH := Lib.hid ih
  clear hlenL hlenR ih
  have HQ1 : Hid (∀ W, MFrame w (ev kb nb mb ib db pb sb.length cb) (ev kl nl ml il dl pl sl.length cl) (ev kr nr mr ir dr pr sr.length cr) W → Calls Tryd.prog 42 #[.agg (ev kl nl ml il dl pl sl.length cl), .agg (ev kr nr mr ir dr pr sr.length cr)] W fun e w' => e = .returned (.bool false) ∧ Below W.heap.size W w') := Lib.hid (fun W hF => by
    have h := mequal_any (nodesL sl + 1) kl nl ml il dl sl (.slice pl sl.length cl) kr nr mr ir dr sr (.slice pr sr.length cr) W (by omega) (by omega) (subAt_below (subAt_of hP hL) hF.below hF.below.size) (subAt_below (subAt_of hP hR) hF.below hF.below.size)
    rw [h1] at h; exact h)
  have HQ2 : Hid (∀ W, MFrame w (ev kb nb mb ib db pb sb.length cb) (ev kl nl ml il dl pl sl.length cl) (ev kr nr mr ir dr pr sr.length cr) W → Calls Tryd.prog 42 #[.agg (ev kr nr mr ir dr pr sr.length cr), .agg (ev kb nb mb ib db pb sb.length cb)] W fun e w' => e = .returned (.bool false) ∧ Below W.heap.size W w') := Lib.hid (fun W hF => by
    have h := mequal_any (nodesL sr + 1) kr nr mr ir dr sr (.slice pr sr.length cr) kb nb mb ib db sb (.slice pb sb.length cb) W (by omega) (by omega) (subAt_below (subAt_of hP hR) hF.below hF.below.size) (subAt_below (subAt_of hP hB) hF.below hF.below.size)
    rw [h2] at h; exact h)
  have HQ3 : Hid (∀ W, MFrame w (ev kb nb mb ib db pb sb.length cb) (ev kl nl ml il dl pl sl.length cl) (ev kr nr mr ir dr pr sr.length cr) W → Calls Tryd.prog 42 #[.agg (ev kl nl ml il dl pl sl.length cl), .agg (ev kb nb mb ib db pb sb.length cb)] W fun e w' => e = .returned (.bool false) ∧ Below W.heap.size W w') := Lib.hid (fun W hF => by
    have h := mequal_any (nodesL sl + 1) kl nl ml il dl sl (.slice pl sl.length cl) kb nb mb ib db sb (.slice pb sb.length cb) W (by omega) (by omega) (subAt_below (subAt_of hP hL) hF.below hF.below.size) (subAt_below (subAt_of hP hB) hF.below hF.below.size)
    rw [h3] at h; exact h)
  have HA1 : Hid (∀ W : World, Calls Tryd.prog 43 #[.agg (ev kb nb mb ib db pb sb.length cb), .agg (ev kl nl ml il dl pl sl.length cl)] W fun e w' => e = .returned (.bool true) ∧ Below W.heap.size W w') := Lib.hid (fun W => by
    have h := malike_any kb nb mb ib db sb pb cb kl nl ml il dl sl pl cl W
    rw [h4] at h; exact h)
  have HA2 : Hid (∀ W : World, Calls Tryd.prog 43 #[.agg (ev kb nb mb ib db pb sb.length cb), .agg (ev kr nr mr ir dr pr sr.length cr)] W fun e w' => e = .returned (.bool true) ∧ Below W.heap.size W w') := Lib.hid (fun W => by
    have h := malike_any kb nb mb ib db sb pb cb kr nr mr ir dr sr pr cr W
    rw [h5] at h; exact h)
  have hln := length_le_nodesL sb
  have h8 : decide (0 < sb.length) = true := by simpa using h7
  obtain ⟨W, hW, hF, hz⟩ := mframe_start w (ev kb nb mb ib db pb sb.length cb) (ev kl nl ml il dl pl sl.length cl) (ev kr nr mr ir dr pr sr.length cr)
  have HW := Lib.hid hW
  have HP := Lib.hid hP
  have HB := Lib.hid hB
  have HL := Lib.hid hL
  have HR := Lib.hid hR
  have HF := Lib.hid hF
  clear hW hP hL hB hR hF
  have hmk := mkN sb.length (by omega)
  go_enter Tryd.func30, Tryd.ntmps30
  go_wp2_with fail
  rw [HW.out]
  refine (HQ1.out _ HF.out).mono ?_
  rintro e W1 ⟨rfl, hb1⟩
  have HF1 := Lib.hid (HF.out.kept hb1)
  obtain ⟨b0, b1, b2, b3, b4, b5⟩ := cells6 HF1.out.b
  obtain ⟨l0, l1, l2, l3, l4, l5⟩ := cells6 HF1.out.l
  obtain ⟨r0, r1, r2, r3, r4, r5⟩ := cells6 HF1.out.r
  go_wp2_with fail
  refine (HQ2.out _ HF1.out).mono ?_
  rintro e W2 ⟨rfl, hb2⟩
  have HF2 := Lib.hid (HF1.out.kept hb2)
  clear b0 b1 b2 b3 b4 b5 l0 l1 l2 l3 l4 l5 r0 r1 r2 r3 r4 r5
  obtain ⟨b0, b1, b2, b3, b4, b5⟩ := cells6 HF2.out.b
  obtain ⟨l0, l1, l2, l3, l4, l5⟩ := cells6 HF2.out.l
  obtain ⟨r0, r1, r2, r3, r4, r5⟩ := cells6 HF2.out.r
  go_wp2_with fail
  refine (HQ3.out _ HF2.out).mono ?_
  rintro e W3 ⟨rfl, hb3⟩
  have HF3 := Lib.hid (HF2.out.kept hb3)
  clear b0 b1 b2 b3 b4 b5 l0 l1 l2 l3 l4 l5 r0 r1 r2 r3 r4 r5
  obtain ⟨b0, b1, b2, b3, b4, b5⟩ := cells6 HF3.out.b
  obtain ⟨l0, l1, l2, l3, l4, l5⟩ := cells6 HF3.out.l
  obtain ⟨r0, r1, r2, r3, r4, r5⟩ := cells6 HF3.out.r
  go_wp2_with fail
  refine (HA1.out _).mono ?_
  rintro e W4 ⟨rfl, hb4⟩
  have HF4 := Lib.hid (HF3.out.kept hb4)
  clear b0 b1 b2 b3 b4 b5 l0 l1 l2 l3 l4 l5 r0 r1 r2 r3 r4 r5
  obtain ⟨b0, b1, b2, b3, b4, b5⟩ := cells6 HF4.out.b
  obtain ⟨l0, l1, l2, l3, l4, l5⟩ := cells6 HF4.out.l
  obtain ⟨r0, r1, r2, r3, r4, r5⟩ := cells6 HF4.out.r
  go_wp2_with fail
  refine (HA2.out _).mono ?_
  rintro e W5 ⟨rfl, hb5⟩
  have HF5 := Lib.hid (HF4.out.kept hb5)
  clear b0 b1 b2 b3 b4 b5 l0 l1 l2 l3 l4 l5 r0 r1 r2 r3 r4 r5
  obtain ⟨b0, b1, b2, b3, b4, b5⟩ := cells6 HF5.out.b
  obtain ⟨l0, l1, l2, l3, l4, l5⟩ := cells6 HF5.out.l
  obtain ⟨r0, r1, r2, r3, r4, r5⟩ := cells6 HF5.out.r
  have q0 : w.heap.size < W5.heap.size := by have := HF5.out.size; omega
  have q1 : w.heap.size + 1 < W5.heap.size := by have := HF5.out.size; omega
  have q2 : w.heap.size + 1 + 1 < W5.heap.size := by have := HF5.out.size; omega
  obtain ⟨W6, hW6, hR6⟩ := merge_start P W5 #[.int .i64 kb, .string nb, .string mb, .int .i64 ib, .int .i64 db, .slice (some ⟨W5.heap.size + 1, 0, none⟩) sb.length sb.length] sb.length (mergeL sb sl sr)
  have HW6 := Lib.hid hW6
  have HR6 := Lib.hid hR6
  clear hW6 hR6
  go_wp2_with fail
  rw [HW6.out]
  clear b0 b1 b2 b3 b4 b5 l0 l1 l2 l3 l4 l5 r0 r1 r2 r3 r4 r5 hmk
  go_loopw [51] (fun i wr => MergeRel P W5 #[.int .i64 kb, .string nb, .string mb, .int .i64 ib, .int .i64 db, .slice (some ⟨W5.heap.size + 1, 0, none⟩) sb.length sb.length] sb.length (mergeL sb sl sr) i wr) (fun i _ => sb.length - (intOf i).toNat)
  case atStart => exact HR6.out
  case round =>
    obtain ⟨j, hj, rfl, hfill, hE, hBr, hgw⟩ := hrel
    have HFR := Lib.hid (HF5.out.kept hBr)
    have HFILL := Lib.hid hfill
    have HE := Lib.hid hE
    obtain ⟨e0, e1, e2, e3, e4, e5⟩ := cells6 hE
    have hszr := hBr.size
    clear hfill hE
    by_cases hlt : j < sb.length
    · have hltl : j < sl.length := by have := HLL.out; omega
      have hltr : j < sr.length := by have := HLR.out; omega
      obtain ⟨_, _, _, _, _, b5⟩ := cells6 HFR.out.b
      obtain ⟨_, _, _, _, _, l5⟩ := cells6 HFR.out.l
      obtain ⟨_, _, _, _, _, r5⟩ := cells6 HFR.out.r
      have hstay := stay_below HFR.out.below HP.out
      obtain ⟨bb, ob, pB, cB, rfl, hPb, gb0, gb1, gb2, gb3, gb4, gb5, gb6⟩ := subP_at HB.out hstay j hlt
      obtain ⟨bl, ol, pL, cL, rfl, hPl, gl0, gl1, gl2, gl3, gl4, gl5, gl6⟩ := subP_at HL.out hstay j hltl
      obtain ⟨br, or', pR, cR, rfl, hPq, gr0, gr1, gr2, gr3, gr4, gr5, gr6⟩ := subP_at HR.out hstay j hltr
      have hD : Below wr.heap.size wr wr.drew := below_drewE (Below.refl _ _)
      have hPr : ∀ b, P b → b < wr.heap.size := fun b hb => by have := HP.out b hb; omega
      have hst2 : StayP P wr wr.drew := stay_below hD hPr
      have nb1 := nodesL_get sb j hlt
      have nb2 := nodesE_eq sb[j]
      have nl1 := nodesL_get sl j hltl
      have nl2 := nodesE_eq sl[j]
      have nr1 := nodesL_get sr j hltr
      have nr2 := nodesE_eq sr[j]
      have hC := Lib.hid (HIH.out sb[j].kind sb[j].name sb[j].more sb[j].int sb[j].den sb[j].sub pB cB sl[j].kind sl[j].name sl[j].more sl[j].int sl[j].den sl[j].sub pL cL sr[j].kind sr[j].name sr[j].more sr[j].int sr[j].den sr[j].sub pR cR P wr.drew hPr (by omega) (by omega) (by omega) (by omega) (subP_stay (fun _ h => h) hst2 gb6) (subP_stay (fun _ h => h) hst2 gl6) (subP_stay (fun _ h => h) hst2 gr6))
      rw [Ex.eta, Ex.eta, Ex.eta] at hC
      have HT := Lib.hid (fun h => mergeL_get sb sl sr j hlt hltl hltr h)
      generalize mergeE sb[j] sl[j] sr[j] = tm at *
      have HPR := Lib.hid hPr
      have k0 : (0 : Int) ≤ (j : Int) := by omega
      have k1 : (j : Int) < (sb.length : Int) := by omega
      have k2 : (j : Int) < (sl.length : Int) := by omega
      have k3 : (j : Int) < (sr.length : Int) := by omega
      clear gb6 gl6 gr6 nb1 nb2 nl1 nl2 nr1 nr2 hD hPr hst2 hstay
      go_wp2_with fail
      have hbbl : bb < w.heap.size := HP.out bb hPb
      have hbll : bl < w.heap.size := HP.out bl hPl
      have hbrl : br < w.heap.size := HP.out br hPq
      have HSM : Hid (∀ w' : World, (∀ b, b < W5.heap.size + 1 → w'.heap[b]? = wr.heap[b]?) → (w'.cell? ⟨W5.heap.size, 5, none⟩ = some (.slice (some ⟨W5.heap.size + 1, 0, none⟩) sb.length sb.length) ∧ w'.cell? ⟨w.heap.size, 5, none⟩ = some (.slice (some ⟨bb, ob, none⟩) sb.length cb) ∧ w'.cell? ⟨w.heap.size + 1, 5, none⟩ = some (.slice (some ⟨bl, ol, none⟩) sl.length cl) ∧ w'.cell? ⟨w.heap.size + 1 + 1, 5, none⟩ = some (.slice (some ⟨br, or', none⟩) sr.length cr) ∧ w'.cell? ⟨bb, ob + j * 6, none⟩ = some (.int .i64 sb[j].kind) ∧ w'.cell? ⟨bb, ob + j * 6 + 1, none⟩ = some (.string sb[j].name) ∧ w'.cell? ⟨bb, ob + j * 6 + 2, none⟩ = some (.string sb[j].more) ∧ w'.cell? ⟨bb, ob + j * 6 + 3, none⟩ = some (.int .i64 sb[j].int) ∧ w'.cell? ⟨bb, ob + j * 6 + 4, none⟩ = some (.int .i64 sb[j].den) ∧ w'.cell? ⟨bb, ob + j * 6 + 5, none⟩ = some (.slice pB sb[j].sub.length cB) ∧ w'.cell? ⟨bl, ol + j * 6, none⟩ = some (.int .i64 sl[j].kind) ∧ w'.cell? ⟨bl, ol + j * 6 + 1, none⟩ = some (.string sl[j].name) ∧ w'.cell? ⟨bl, ol + j * 6 + 2, none⟩ = some (.string sl[j].more) ∧ w'.cell? ⟨bl, ol + j * 6 + 3, none⟩ = some (.int .i64 sl[j].int) ∧ w'.cell? ⟨bl, ol + j * 6 + 4, none⟩ = some (.int .i64 sl[j].den) ∧ w'.cell? ⟨bl, ol + j * 6 + 5, none⟩ = some (.slice pL sl[j].sub.length cL) ∧ w'.cell? ⟨br, or' + j * 6, none⟩ = some (.int .i64 sr[j].kind) ∧ w'.cell? ⟨br, or' + j * 6 + 1, none⟩ = some (.string sr[j].name) ∧ w'.cell? ⟨br, or' + j * 6 + 2, none⟩ = some (.string sr[j].more) ∧ w'.cell? ⟨br, or' + j * 6 + 3, none⟩ = some (.int .i64 sr[j].int) ∧ w'.cell? ⟨br, or' + j * 6 + 4, none⟩ = some (.int .i64 sr[j].den) ∧ w'.cell? ⟨br, or' + j * 6 + 5, none⟩ = some (.slice pR sr[j].sub.length cR))) := Lib.hid (fun w' h => ⟨(World.cell?_of_block (h _ (by (show W5.heap.size < W5.heap.size + 1); omega))).trans e5, (World.cell?_of_block (h _ (by (show w.heap.size < W5.heap.size + 1); omega))).trans b5, (World.cell?_of_block (h _ (by (show w.heap.size + 1 < W5.heap.size + 1); omega))).trans l5, (World.cell?_of_block (h _ (by (show w.heap.size + 1 + 1 < W5.heap.size + 1); omega))).trans r5, (World.cell?_of_block (h _ (by (show bb < W5.heap.size + 1); omega))).trans gb0, (World.cell?_of_block (h _ (by (show bb < W5.heap.size + 1); omega))).trans gb1, (World.cell?_of_block (h _ (by (show bb < W5.heap.size + 1); omega))).trans gb2, (World.cell?_of_block (h _ (by (show bb < W5.heap.size + 1); omega))).trans gb3, (World.cell?_of_block (h _ (by (show bb < W5.heap.size + 1); omega))).trans gb4, (World.cell?_of_block (h _ (by (show bb < W5.heap.size + 1); omega))).trans gb5, (World.cell?_of_block (h _ (by (show bl < W5.heap.size + 1); omega))).trans gl0, (World.cell?_of_block (h _ (by (show bl < W5.heap.size + 1); omega))).trans gl1, (World.cell?_of_block (h _ (by (show bl < W5.heap.size + 1); omega))).trans gl2, (World.cell?_of_block (h _ (by (show bl < W5.heap.size + 1); omega))).trans gl3, (World.cell?_of_block (h _ (by (show bl < W5.heap.size + 1); omega))).trans gl4, (World.cell?_of_block (h _ (by (show bl < W5.heap.size + 1); omega))).trans gl5, (World.cell?_of_block (h _ (by (show br < W5.heap.size + 1); omega))).trans gr0, (World.cell?_of_block (h _ (by (show br < W5.heap.size + 1); omega))).trans gr1, (World.cell?_of_block (h _ (by (show br < W5.heap.size + 1); omega))).trans gr2, (World.cell?_of_block (h _ (by (show br < W5.heap.size + 1); omega))).trans gr3, (World.cell?_of_block (h _ (by (show br < W5.heap.size + 1); omega))).trans gr4, (World.cell?_of_block (h _ (by (show br < W5.heap.size + 1); omega))).trans gr5⟩)
      have HRF : Hid (∀ b, b < W5.heap.size + 1 → wr.drew.heap[b]? = wr.heap[b]?) := Lib.hid (fun _ _ => rfl)
      go_region_held3 (fun w' => w'.cell? ⟨W5.heap.size, 5, none⟩ = some (.slice (some ⟨W5.heap.size + 1, 0, none⟩) sb.length sb.length) ∧ w'.cell? ⟨w.heap.size, 5, none⟩ = some (.slice (some ⟨bb, ob, none⟩) sb.length cb) ∧ w'.cell? ⟨w.heap.size + 1, 5, none⟩ = some (.slice (some ⟨bl, ol, none⟩) sl.length cl) ∧ w'.cell? ⟨w.heap.size + 1 + 1, 5, none⟩ = some (.slice (some ⟨br, or', none⟩) sr.length cr) ∧ w'.cell? ⟨bb, ob + j * 6, none⟩ = some (.int .i64 sb[j].kind) ∧ w'.cell? ⟨bb, ob + j * 6 + 1, none⟩ = some (.string sb[j].name) ∧ w'.cell? ⟨bb, ob + j * 6 + 2, none⟩ = some (.string sb[j].more) ∧ w'.cell? ⟨bb, ob + j * 6 + 3, none⟩ = some (.int .i64 sb[j].int) ∧ w'.cell? ⟨bb, ob + j * 6 + 4, none⟩ = some (.int .i64 sb[j].den) ∧ w'.cell? ⟨bb, ob + j * 6 + 5, none⟩ = some (.slice pB sb[j].sub.length cB) ∧ w'.cell? ⟨bl, ol + j * 6, none⟩ = some (.int .i64 sl[j].kind) ∧ w'.cell? ⟨bl, ol + j * 6 + 1, none⟩ = some (.string sl[j].name) ∧ w'.cell? ⟨bl, ol + j * 6 + 2, none⟩ = some (.string sl[j].more) ∧ w'.cell? ⟨bl, ol + j * 6 + 3, none⟩ = some (.int .i64 sl[j].int) ∧ w'.cell? ⟨bl, ol + j * 6 + 4, none⟩ = some (.int .i64 sl[j].den) ∧ w'.cell? ⟨bl, ol + j * 6 + 5, none⟩ = some (.slice pL sl[j].sub.length cL) ∧ w'.cell? ⟨br, or' + j * 6, none⟩ = some (.int .i64 sr[j].kind) ∧ w'.cell? ⟨br, or' + j * 6 + 1, none⟩ = some (.string sr[j].name) ∧ w'.cell? ⟨br, or' + j * 6 + 2, none⟩ = some (.string sr[j].more) ∧ w'.cell? ⟨br, or' + j * 6 + 3, none⟩ = some (.int .i64 sr[j].int) ∧ w'.cell? ⟨br, or' + j * 6 + 4, none⟩ = some (.int .i64 sr[j].den) ∧ w'.cell? ⟨br, or' + j * 6 + 5, none⟩ = some (.slice pR sr[j].sub.length cR))
        (first
          | (with_reducible exact HSM.out wr.drew HRF.out)
          | (with_reducible exact HSM.out W7 HK7.out)
          | (with_reducible exact HSM.out _ HK8.out))
        (first
          | (go_at_call 30; refine (hC.out).mono ?_; rintro e W7 ⟨v, rfl, hex, hb7⟩; (obtain ⟨sv, rfl, hsub⟩ := exP_iff.1 hex); (obtain ⟨px, cx, rfl, _, _⟩ := id hsub); (have hF7 := (HFILL.out.kept (below_drewE (Below.refl _ _)) HPR.out hgw).kept hb7 HPR.out hgw); (obtain ⟨⟨y0, y1, y2, y3, y4, y5, hy0, hy1, hy2, hy3, hy4, hy5⟩, z0, z1, z2, z3, z4, z5⟩ := fill_cells hF7 hlt); (have hz7 : wr.heap.size ≤ W7.heap.size := hb7.size); (have hsub7 : SubP W7 (fun b => P b ∨ (W5.heap.size + 1 < b ∧ b < W7.heap.size)) tm.sub (.slice px tm.sub.length cx) := subP_stay (merge_blocks hgw) (stay_refl _ _) hsub); (have hput := put6 W7 (W5.heap.size + 1) (j * 6) (sb.length * 6) 24 (.int .i64 tm.kind) (.string tm.name) (.string tm.more) (.int .i64 tm.int) (.int .i64 tm.den) (.slice px tm.sub.length cx) hF7.row (by omega)); (have HF8 := Lib.hid (hF7.push hput hsub7 (fun b hb => by have := HP.out b hb; omega) (fun h => by rw [HT.out h]; exact (Ex.eta tm).symm))); (have HB7 : Hid (Below W5.heap.size W5 W7) := Lib.hid ((below_drewE hBr).trans (hb7.mono hszr))); (have HB8 := Lib.hid (hput.below W5.heap.size W5 (by omega) HB7.out)); (have HE8 := Lib.hid ((hput.other W5.heap.size (by omega)).trans ((hb7.block _ (by show W5.heap.size < wr.heap.size; omega)).trans HE.out))); (have hs8 := hput.size); (have HS8 : Hid (W5.heap.size + 1 < W7.heap.size) := Lib.hid (by omega)); (have HQ8 := Lib.hid hs8); (have HK7 : Hid (∀ b, b < W5.heap.size + 1 → W7.heap[b]? = wr.heap[b]?) := Lib.hid (fun b hb => hb7.block b (by (show b < wr.heap.size); omega))); (have HK8 := Lib.hid (fun b (hb : b < W5.heap.size + 1) => (hput.other b (by omega)).trans (HK7.out b hb))); clear hF7 hput hsub7 hsub hex hs8 hb7))
      go_wp2_with fail
      go_roundw
      case rel => exact ⟨j + 1, by omega, by go_num, HF8.out, HE8.out, HB8.out, by rw [HQ8.out]; exact HS8.out⟩
      case measure => simp [intOf]; omega
    · obtain rfl : j = sb.length := by omega
      obtain ⟨z0, z1, z2, z3, z4, z5⟩ := cells6 HFR.out.res
      obtain ⟨f0, f1, f2, f3, f4, f5⟩ := free6 HFR.out.res
      have q5 : w.heap.size + 1 + 1 + 1 < W5.heap.size := by have := HF5.out.size; omega
      go_wp2_with fail
      have hbz := below6 HFR.out.below (g := w.heap.size + 1 + 1 + 1) (by omega) (.int .i64 kb) (.string nb) (.string mb) (.int .i64 ib) (.int .i64 db) (.slice (some ⟨W5.heap.size + 1, 0, none⟩) sb.length sb.length)
      have hst := stay6 (A := wr) (g := w.heap.size + 1 + 1 + 1) (.int .i64 kb) (.string nb) (.string mb) (.int .i64 ib) (.int .i64 db) (.slice (some ⟨W5.heap.size + 1, 0, none⟩) sb.length sb.length)
      refine bodyPost_ret (v := .agg #[.int .i64 kb, .string nb, .string mb, .int .i64 ib, .int .i64 db, .slice (some ⟨W5.heap.size + 1, 0, none⟩) sb.length sb.length]) (by simp [results, Tryd.results30, go_sem, z0, z1, z2, z3, z4, z5]) rfl ⟨_, rfl, exP_iff.2 ⟨_, rfl, ?_⟩, hbz⟩
      refine HFILL.out.done HML.out (by rw [size6]; exact .inr ⟨by omega, hgw⟩) (fun b hb => ?_) (fun b off hb v hv => (hst b off ?_).trans hv)
      · rw [size6]
        rcases hb with h1 | h1
        · exact .inl h1
        · exact .inr ⟨by omega, h1.2⟩
      · rcases hb with h1 | h1 | h1
        · omega
        · have := HP.out b h1; omega
        · omega
theorem mmerge_any (N : Nat) : ∀ (kb : Int) (nb mb : ByteArray) (ib db : Int) (sb : List Ex) (pb : Option Addr) (cb : Nat) (kl : Int) (nl ml : ByteArray) (il dl : Int) (sl : List Ex) (pl : Option Addr) (cl : Nat) (kr : Int) (nr mr : ByteArray) (ir dr : Int) (sr : List Ex) (pr : Option Addr) (cr : Nat) (P : Nat → Prop) (w : World) (_hP : ∀ b, P b → b < w.heap.size) (_hmb0 : nodesL sb < N) (_hmb : nodesL sb ≤ 1048576) (_hml : nodesL sl ≤ 1048576) (_hmr : nodesL sr ≤ 1048576) (_hB : SubP w P sb (.slice pb sb.length cb)) (_hL : SubP w P sl (.slice pl sl.length cl)) (_hR : SubP w P sr (.slice pr sr.length cr)), Calls Tryd.prog 30 #[.agg (ev kb nb mb ib db pb sb.length cb), .agg (ev kl nl ml il dl pl sl.length cl), .agg (ev kr nr mr ir dr pr sr.length cr)] w (RetEx P w (mergeE (.mk kb nb mb ib db sb) (.mk kl nl ml il dl sl) (.mk kr nr mr ir dr sr))) := by
  induction N with
  | zero => intro kb nb mb ib db sb pb cb kl nl ml il dl sl pl cl kr nr mr ir dr sr pr cr P w hP h0; omega
  | succ N ih =>
    intro kb nb mb ib db sb pb cb kl nl ml il dl sl pl cl kr nr mr ir dr sr pr cr P w hP hmb0 hmb hml hmr hB hL hR
    rw [mergeE_eq]
    cases h1 : sameE (.mk kl nl ml il dl sl) (.mk kr nr mr ir dr sr)
    · cases h2 : sameE (.mk kr nr mr ir dr sr) (.mk kb nb mb ib db sb)
      · cases h3 : sameE (.mk kl nl ml il dl sl) (.mk kb nb mb ib db sb)
        · simp only [Bool.or_self, Bool.false_eq_true, if_false]
          cases h4 : alikeE (.mk kb nb mb ib db sb) (.mk kl nl ml il dl sl)
          · rw [if_neg (by simp [partsB, h4])]
            exact mmerge_4a kb nb mb ib db sb pb cb kl nl ml il dl sl pl cl kr nr mr ir dr sr pr cr P w hP hmb hml hmr hB hL hR h1 h2 h3 h4
          · cases h5 : alikeE (.mk kb nb mb ib db sb) (.mk kr nr mr ir dr sr)
            · rw [if_neg (by simp [partsB, h5])]
              exact mmerge_4b kb nb mb ib db sb pb cb kl nl ml il dl sl pl cl kr nr mr ir dr sr pr cr P w hP hmb hml hmr hB hL hR h1 h2 h3 h4 h5
            · by_cases h6 : kb = 15
              · rw [if_neg (by simp [partsB, Ex.kind, h6])]
                exact mmerge_4c kb nb mb ib db sb pb cb kl nl ml il dl sl pl cl kr nr mr ir dr sr pr cr P w hP hmb hml hmr hB hL hR h1 h2 h3 h4 h5 (by simp [h6])
              · by_cases h7 : 0 < sb.length
                · rw [if_pos (by simp only [partsB, h4, h5]; simp [Ex.kind, Ex.sub, h6, h7])]
                  exact mmerge_5 kb nb mb ib db sb pb cb kl nl ml il dl sl pl cl kr nr mr ir dr sr pr cr P w hP hmb hml hmr hB hL hR N ih hmb0 h1 h2 h3 h4 h5 (by simpa using h6) h7
                · rw [if_neg (by simp only [partsB, h4, h5]; simp only [Ex.kind, Ex.sub]; simp [h6, h7])]
                  exact mmerge_4d kb nb mb ib db sb pb cb kl nl ml il dl sl pl cl kr nr mr ir dr sr pr cr P w hP hmb hml hmr hB hL hR h1 h2 h3 h4 h5 (by simpa using h6) (by simpa using h7)
        · simp only [Bool.or_self, Bool.false_eq_true, if_false, if_true]
          exact mmerge_3 kb nb mb ib db sb pb cb kl nl ml il dl sl pl cl kr nr mr ir dr sr pr cr P w hP hmb hml hmr hB hL hR h1 h2 h3
      · simp only [Bool.or_true, if_true]
        exact mmerge_2 kb nb mb ib db sb pb cb kl nl ml il dl sl pl cl kr nr mr ir dr sr pr cr P w hP hmb hml hmr hB hL hR h1 h2
    · simp only [Bool.true_or, if_true]
      exact mmerge_1 kb nb mb ib db sb pb cb kl nl ml il dl sl pl cl kr nr mr ir dr sr pr cr P w hP hmb hml hmr hB hL hR h1
end Go.Proofs.YtiagjpiclnmpkaaDoor
