/- CheckExpr of syntax: the walk. -/
import Derived.Test.YtnphcjpccieljaaGreatDoorExN
import Derived.Test.YtnphcjpccieljaaGreatDoorGRange
import Derived.Test.YtnphcjpccieljaaGreatDoorGLexH
namespace Go.Proofs.YtnphcjpccieljaaGreatDoor
open Go.RowKit Go.Shelf

attribute [local go_sem] Oper.semAt_some

/-- the two blocks of deferred calls shut -/
theorem two_marks {w : World} {E : Array Value} {res n : Int} {W : World} {D D2 : Nat} (h : CkFrame w E res n W) (h2 : W.heap[D2]? = some (.deferred (some []))) (h1 : W.heap[D]? = some (.deferred (some []))) (hne : D ≠ D2) (hw2 : w.heap.size ≤ D2) (hw1 : w.heap.size ≤ D) :
    (W.putObj D2 (.deferred none)).heap[D]? = some (.deferred (some [])) ∧ ((W.putObj D2 (.deferred none)).putObj D (.deferred none)).cell? ⟨w.heap.size + 1, 0, none⟩ = some (.int .i64 res) ∧ Below w.heap.size w ((W.putObj D2 (.deferred none)).putObj D (.deferred none)) := by
  have q : (W.putObj D2 (.deferred none)).heap[D]? = some (.deferred (some [])) := (World.putObj_heap_other hne).trans h1
  refine ⟨q, ?_, ?_⟩
  · have c1 := cell_kept (cell_of_one h.r) (grownBy_putObj' W D2 (.deferred none)) (fun r e => by cases e; exact ⟨_, h2, rfl⟩)
    exact cell_kept c1 (grownBy_putObj' _ D (.deferred none)) (fun r e => by cases e; exact ⟨_, q, rfl⟩)
  · exact (h.below.trans (belowK_b (w := w) (Nat.le_refl _) W D2 _ _ hw2 h2 rfl rfl)).trans (belowK_b (w := w) (Nat.le_refl _) _ D _ _ hw1 q rfl rfl)
set_option maxRecDepth 100000 in
set_option maxHeartbeats 4000000 in
theorem sCheckExpr_any (k : Int) (nm mr : ByteArray) (it d : Int) (sub : List Ex) (sv : Value) (w : World) (hm : nodesL sub ≤ 1048576) (hs : SubAt w w.heap.size sub sv) :
    Calls Tryz.prog 19 #[.agg #[.int .i64 k, .string nm, .string mr, .int .i64 it, .int .i64 d, sv]] w fun e w' => e = .returned (.int .i64 (checkX (.mk k nm mr it d sub))) ∧ Below w.heap.size w w' := by
  obtain ⟨p, cap, rfl, hcap, _⟩ := subAt_open hs
  refine (callsIn_wide (n := 4)).1 ?_
  refine callsIn_of_wp_marks Tryz.func19 rfl trivial ?_ rfl
  simp only [Tryz.ntmps19, List.size_toArray, List.length_cons, List.length_nil, Nat.reduceAdd, Nat.reduceSub, Array.replicate_succ, Array.replicate_zero, List.push_toArray, List.append_toArray, List.nil_append, List.cons_append]
  gi_wp2_with (first | (refine ⟨trivial, ?_⟩; gi_at_call 51; refine (callsIn_wide.2 (snodes_any _ _ _ _ _ _ _ _ _)).mono ?_; rintro e w' ⟨rfl, rfl⟩))
  have HS := Lib.hid hs
  obtain ⟨V, hV⟩ : ∃ V, ((((w.alloc (Obj.cells #[.int .i64 k, .string nm, .string mr, .int .i64 it, .int .i64 d, .slice p sub.length cap] 35)).alloc (Obj.cells #[Value.int IntKind.i64 0] 28)).alloc (Obj.cells #[Value.int IntKind.i64 0] 3)).alloc (Obj.cells #[.int .i64 k, .string nm, .string mr, .int .i64 it, .int .i64 d, .slice p sub.length cap] 35)) = V := ⟨_, rfl⟩
  obtain ⟨hF, hb4, hz⟩ := ck_start w 35 28 3 #[.int .i64 k, .string nm, .string mr, .int .i64 it, .int .i64 d, .slice p sub.length cap] V hV
  rw [hV]
  clear hV hs
  refine wpIn_rangeFunc_R (P := Tryz.prog) (F := Fence.wide) (n := 4) rfl (by omega) (gf := 80) (lb := #[.pointer (some ⟨w.heap.size + 1 + 1 + 1, 0, none⟩)]) rfl trivial (enters_of Tryz.func80 (by kernel_rfl) rfl)
    (encs := fun x : ItN => #[.int .i64 x.1, valN x]) (Kp := KeepOut w.heap.size (w.heap.size + 1 + 1 + 1)) (R := ItStep (V.heap.size + 1 + 1)) (X := fun _ x => ExAt w w.heap.size x.2.1 (valN x))
    (S := NodesAll (.mk k nm mr it d sub)) (Sp := NodesPre (.mk k nm mr it d sub))
    (fun r l J Jx hJ _ hY hJ0 => nodes1_in 3 l (w.heap.size + 1 + 1 + 1) w.heap.size (w.heap.size + 1 + 1 + 1) (by omega) k nm mr it d sub p cap w _ HS.out (sameLow_below ((hF.below.alloc (by omega) _).alloc (by simp; omega) _)) (by omega) (Nat.le_refl _)
      ((Below.heap_alloc _ _ _ (by simp; omega)).trans ((Below.heap_alloc _ _ _ (by omega)).trans hb4)) hm J Jx (fun pre A B h1 h2 => hJ pre A B h1 (by simpa using h2)) hY hJ0)
    (fun h1 h2 => h1.trans h2) (fun W l o o' _ hl ho => KeepOut.putObj W l o o' hl ho) (fun h => h.others.from _) (fun _ => rfl)
    (Ck1 w #[.int .i64 k, .string nm, .string mr, .int .i64 it, .int .i64 d, .slice p sub.length cap]) (Ck1x w #[.int .i64 k, .string nm, .string mr, .int .i64 it, .int .i64 d, .slice p sub.length cap]) (ck1_own w _ _ (by omega)) (fun c => ck1x_own w _ c _ (by omega))
    (fun pre A B h hs => ⟨h.1.step hs (by omega), h.2⟩) (fun c pre A B h hs => ⟨h.1, ⟨_, h.2.1.choose_spec.step hs (by omega)⟩, h.2.2⟩) ⟨hF, by simp, by simp⟩
    (fun x => { tmps := #[Value.agg #[.int .i64 k, .string nm, .string mr, .int .i64 it, .int .i64 d, .slice p sub.length cap], Value.pointer (some { block := w.heap.size, off := 0 }), Value.pointer (some { block := w.heap.size + 1, off := 0 }), Value.pointer (some { block := w.heap.size + 1 + 1, off := 0 }), Value.int .i64 x.1, undef, undef, undef,
          Value.agg #[.int .i64 k, .string nm, .string mr, .int .i64 it, .int .i64 d, .slice p sub.length cap], Value.func (Fn.func 80) #[] #[Value.pointer (some { block := w.heap.size + 1 + 1 + 1, off := 0 })], Value.int .i64 x.1, valN x, undef, undef, undef, undef, undef, undef, undef, undef, undef, undef, undef, undef, undef, undef, undef, undef, undef], defers := [] }) ?assign ?body ?done ?stop
  case assign =>
    intro l x W K hK
    gi_wp2
    exact hK
  case body =>
    rintro l pre x W hI -
    have c0 := cell_of_one hI.1.c
    have f0 := free_of_one hI.1.c
    have c1 := cell_of_one hI.1.r
    have f1 := free_of_one hI.1.r
    have hle := hI.2.1
    have HI := Lib.hid hI
    clear hI
    have hsz := HI.out.1.size
    by_cases hgt : 400 < pre.length + 1
    · have hd : decide (400 < (pre.length : Int) + 1) = true := by simp; omega
      gi_wp2_with fail
      refine ⟨((KeepsOthers.setCell _ _ _).trans (KeepsOthers.setCell _ _ _)).from _, rfl, ⟨_, (HI.out.1.setCnt _).setRes 4⟩, .inl (by simp; omega)⟩
    · have hd : decide (400 < (pre.length : Int) + 1) = false := by simp; omega
      by_cases hx : 40 < x.1
      · have hd2 : decide (40 < (x.1 : Int)) = true := by simp; omega
        gi_wp2_with fail
        refine ⟨((KeepsOthers.setCell _ _ _).trans (KeepsOthers.setCell _ _ _)).from _, rfl, ⟨_, (HI.out.1.setCnt _).setRes 4⟩, .inr ⟨x, by simp, hx⟩⟩
      · have hd2 : decide (40 < (x.1 : Int)) = false := by simp; omega
        gi_wp2_with fail
        have hF' := HI.out.1.setCnt ((pre.length : Int) + 1)
        refine ⟨(KeepsOthers.setCell _ _ _).from _, (KeepOut.below (Below.refl _ _)).setCell (p := ⟨w.heap.size + 1 + 1, 0, none⟩) (by simp; omega) _, ?_, by simp; omega, ?_⟩
        · have e1 : ((pre ++ [x]).length : Int) = (pre.length : Int) + 1 := by simp
          rw [e1]; exact hF'
        · intro z hz
          rcases List.mem_append.1 hz with h | h
          · exact HI.out.2.2 z h
          · simp at h; subst h; omega
  case done =>
    rintro D xs W hD hS hI hK
    obtain ⟨hg1, hg2⟩ := limit_good hS hI.2.1 hI.2.2
    have HX := Lib.hid (checkX_good hg1 hg2)
    have hF2 := hI.1
    have hW2 : w.heap.size + 1 + 1 + 1 + 1 ≤ W.heap.size := hF2.size
    clear hI hg1 hg2 hS
    have hcell : ∀ i (h : i < 6), W.cell? ⟨w.heap.size, i, none⟩ = some (#[.int .i64 k, .string nm, .string mr, .int .i64 it, .int .i64 d, .slice p sub.length cap][i]'h) := fun i h => by simp [World.cell?, hF2.e]
    have c0 : W.cell? ⟨w.heap.size, 0, none⟩ = some (.int .i64 k) := hcell 0 (by omega)
    have c1 : W.cell? ⟨w.heap.size, 1, none⟩ = some (.string nm) := hcell 1 (by omega)
    have c2 : W.cell? ⟨w.heap.size, 2, none⟩ = some (.string mr) := hcell 2 (by omega)
    have c3 : W.cell? ⟨w.heap.size, 3, none⟩ = some (.int .i64 it) := hcell 3 (by omega)
    have c4 : W.cell? ⟨w.heap.size, 4, none⟩ = some (.int .i64 d) := hcell 4 (by omega)
    have c5 : W.cell? ⟨w.heap.size, 5, none⟩ = some (.slice p sub.length cap) := hcell 5 (by omega)
    clear hcell
    gi_wp2_with (first | (refine ⟨trivial, ?_⟩; gi_at_call 51; refine (callsIn_wide.2 (snodes_any _ _ _ _ _ _ _ _ _)).mono ?_; rintro e w' ⟨rfl, rfl⟩))
    obtain ⟨V2, hV2⟩ : ∃ V2, W.alloc (.cells #[.int .i64 k, .string nm, .string mr, .int .i64 it, .int .i64 d, .slice p sub.length cap] 35) = V2 := ⟨_, rfl⟩
    have hF3 : CkFrame w #[.int .i64 k, .string nm, .string mr, .int .i64 it, .int .i64 d, .slice p sub.length cap] 0 xs.length V2 := by rw [← hV2]; exact hF2.kept ((Below.refl _ _).alloc (Nat.le_refl _) _)
    have hb5 : V2.heap[W.heap.size]? = some (.cells #[.int .i64 k, .string nm, .string mr, .int .i64 it, .int .i64 d, .slice p sub.length cap] 35 (0, 0)) := by rw [← hV2]; exact World.alloc_heap_new W _
    have hz2 : V2.heap.size = W.heap.size + 1 := by rw [← hV2]; simp
    have hDW := (Array.getElem?_eq_some_iff.1 hK).1
    have hK2 : V2.heap[D]? = some (.deferred (some [])) := by rw [← hV2]; exact (Below.heap_alloc _ _ _ hDW).trans hK
    rw [hV2]
    clear hV2 c0 c1 c2 c3 c4 c5
    refine wpIn_rangeFunc_A (P := Tryz.prog) (F := Fence.wide) (n := 4) rfl (by omega) (gf := 80) (lb := #[.pointer (some ⟨W.heap.size, 0, none⟩)]) rfl trivial (enters_of Tryz.func80 (by kernel_rfl) rfl)
      (encs := fun x : ItN => #[.int .i64 x.1, valN x]) (Kp := KeepOut w.heap.size (w.heap.size + 1 + 1 + 1)) (R := ItStep (V2.heap.size + 1 + 1)) (X := fun _ x => ExAt w w.heap.size x.2.1 (valN x))
      (S := NodesAll (.mk k nm mr it d sub)) (Sp := NodesPre (.mk k nm mr it d sub))
      (fun r l J Jx hJ _ hY hJ0 => nodes1_in 3 l W.heap.size w.heap.size (w.heap.size + 1 + 1 + 1) (by omega) k nm mr it d sub p cap w _ HS.out (sameLow_below ((hF3.below.alloc (by omega) _).alloc (by simp; omega) _)) (by omega) (by omega)
        ((Below.heap_alloc _ _ _ (by simp; omega)).trans ((Below.heap_alloc _ _ _ (by omega)).trans hb5)) hm J Jx (fun pre A B h1 h2 => hJ pre A B h1 (by simpa using h2)) hY hJ0)
      (fun h1 h2 => h1.trans h2) (fun W l o o' _ hl ho => KeepOut.putObj W l o o' hl ho) (fun h => h.others.from _) (fun _ => rfl)
      (Ck2 w #[.int .i64 k, .string nm, .string mr, .int .i64 it, .int .i64 d, .slice p sub.length cap] D) (Ck2x w #[.int .i64 k, .string nm, .string mr, .int .i64 it, .int .i64 d, .slice p sub.length cap] D) (ck2_own w _ _ _ (by omega) (by omega)) (fun c => ck2x_own w _ _ c _ (by omega) (by omega))
      (fun pre A B h hs => ⟨⟨_, h.1.choose_spec.step hs (by omega)⟩, h.2.1, hs.others.same _ _ h.2.2 rfl⟩) (fun c pre A B h hs => by
        obtain ⟨h1, err, n, h2, h3, h4, h5⟩ := h
        exact ⟨h1, err, n, h2.step hs (by omega), h3, h4, hs.others.same _ _ h5 rfl⟩) ⟨⟨_, hF3⟩, rfl, hK2⟩
      (fun x b => { tmps := #[Value.agg #[.int .i64 k, .string nm, .string mr, .int .i64 it, .int .i64 d, .slice p sub.length cap], Value.pointer (some { block := w.heap.size, off := 0 }), Value.pointer (some { block := w.heap.size + 1, off := 0 }), Value.pointer (some { block := w.heap.size + 1 + 1, off := 0 }), undef, undef, Value.pointer (some { block := b, off := 0 }), undef,
            Value.agg #[.int .i64 k, .string nm, .string mr, .int .i64 it, .int .i64 d, .slice p sub.length cap], Value.func (Fn.func 80) #[] #[Value.pointer (some { block := w.heap.size + 1 + 1 + 1, off := 0 })], undef, undef, undef, undef, undef, undef, undef, undef, undef, undef, Value.agg #[.int .i64 k, .string nm, .string mr, .int .i64 it, .int .i64 d, .slice p sub.length cap], Value.func (Fn.func 80) #[] #[Value.pointer (some { block := W.heap.size, off := 0 })], Value.int .i64 x.1, valN x, undef, undef, undef, undef, undef], defers := [] })
      (fun x => .cells #[.int .i64 x.2.1.kind, .string x.2.1.name, .string x.2.1.more, .int .i64 x.2.1.int, .int .i64 x.2.1.den, .slice x.2.2.1 x.2.1.sub.length x.2.2.2] 35) (fun W o => KeepOut.below ((Below.refl _ _).alloc (Nat.le_refl _) _)) ?assign2 ?body2 ?done2 ?stop2
    case assign2 =>
      intro l x W K hK
      gi_wp2
      exact hK
    case body2 =>
      rintro l pre x b W5 hI - hbx hbV
      obtain ⟨⟨n5, hF5⟩, hfe, hD5⟩ := hI
      have cr := cell_of_one hF5.r
      have fr := free_of_one hF5.r
      have g0 : W5.cell? ⟨b, 0, none⟩ = some (.int .i64 x.2.1.kind) := by simp [World.cell?, hbx]
      have g1 : W5.cell? ⟨b, 1, none⟩ = some (.string x.2.1.name) := by simp [World.cell?, hbx]
      have g2 : W5.cell? ⟨b, 2, none⟩ = some (.string x.2.1.more) := by simp [World.cell?, hbx]
      have g3 : W5.cell? ⟨b, 3, none⟩ = some (.int .i64 x.2.1.int) := by simp [World.cell?, hbx]
      have g4 : W5.cell? ⟨b, 4, none⟩ = some (.int .i64 x.2.1.den) := by simp [World.cell?, hbx]
      have g5 : W5.cell? ⟨b, 5, none⟩ = some (.slice x.2.2.1 x.2.1.sub.length x.2.2.2) := by simp [World.cell?, hbx]
      have HF5 := Lib.hid hF5
      have HFE := Lib.hid hfe
      have HD5 := Lib.hid hD5
      have hs5 := hF5.size
      have HC := Lib.hid (scheckNode_any x.2.1.kind x.2.1.name x.2.1.more x.2.1.int x.2.1.den x.2.2.1 x.2.1.sub.length x.2.2.2 W5)
      obtain ⟨err, herr⟩ : ∃ err, checkN x.2.1.kind x.2.1.name x.2.1.more x.2.1.int x.2.1.den x.2.1.sub.length = err := ⟨_, rfl⟩
      rw [herr] at HC
      have HER : Hid (nodeErr x.2.1 = err) := Lib.hid herr
      clear hF5 hfe hD5 hbx herr
      by_cases hz5 : err = 0
      · subst hz5
        gi_wp2_with (first | (refine ⟨trivial, ?_⟩; gi_at_call 52; refine (CallsIn.inRound l (callsIn_wide.2 HC.out)).mono ?_; rintro e w' ⟨rfl, hb⟩; have HB := Lib.hid hb; clear hb))
        refine ⟨(keepsOthers_below HB.out).from _, KeepOut.below HB.out, ⟨_, HF5.out.kept HB.out⟩, ?_, (HB.out.block _ (Array.getElem?_eq_some_iff.1 HD5.out).1).trans HD5.out⟩
        rw [List.map_append, firstErr_append, if_pos HFE.out]
        simp only [List.map_cons, List.map_nil, projN, firstErr, HER.out, if_true]
      · have hz6 : (err != 0) = true := by simpa using hz5
        gi_wp2_with (first | (refine ⟨trivial, ?_⟩; gi_at_call 52; refine (CallsIn.inRound l (callsIn_wide.2 HC.out)).mono ?_; rintro e w' ⟨rfl, hb⟩; have cr' := (hb.cell (p := ⟨w.heap.size + 1, 0, none⟩) (by show w.heap.size + 1 < _; omega)).trans cr; have fr' := (hb.frozen (p := ⟨w.heap.size + 1, 0, none⟩) (by show w.heap.size + 1 < _; omega)).trans fr; have HB := Lib.hid hb; clear hb))
        refine ⟨((keepsOthers_below HB.out).trans (KeepsOthers.setCell _ _ _)).from _, rfl, err, _, (HF5.out.kept HB.out).setRes err, hz5, ?_, (KeepsOthers.setCell _ _ _).same _ _ ((HB.out.block _ (Array.getElem?_eq_some_iff.1 HD5.out).1).trans HD5.out) rfl⟩
        rw [List.map_append, firstErr_append, if_pos HFE.out]
        simp only [List.map_cons, List.map_nil, projN, firstErr, HER.out, if_neg hz5]
    case done2 =>
      rintro D2 ys W6 hD2 hS2 ⟨⟨n6, hF6⟩, hfe, hD6⟩ hK6
      have hch : checkE (.mk k nm mr it d sub) = 0 := by rw [checkE_first 1, ← (show _ = _ from hS2)]; exact hfe
      have cr := cell_of_one hF6.r
      have fr := free_of_one hF6.r
      have HF6 := Lib.hid hF6
      have HCH := Lib.hid hch
      clear hF6 hch
      gi_wp2_with fail
      have hF7 := HF6.out.setRes 0
      have hK7 := (KeepsOthers.setCell W6 ⟨w.heap.size + 1, 0, none⟩ (.int .i64 0)).same D2 _ hK6 rfl
      have hD7 := (KeepsOthers.setCell W6 ⟨w.heap.size + 1, 0, none⟩ (.int .i64 0)).same D _ hD6 rfl
      generalize W6.setCell ⟨w.heap.size + 1, 0, none⟩ (.int .i64 0) = W7 at *
      obtain ⟨hx1, hx2, hx3⟩ := two_marks hF7 hK7 hD7 (by omega) (by omega) (by omega)
      refine ⟨by simp, .inl ⟨_, _, rfl, run_takeDeferred hK7, ⟨by simp, .inl ⟨_, _, rfl, run_takeDeferred hx1, ?_⟩⟩⟩⟩
      refine ⟨.int .i64 0, ?_, ret_intE (a := 0) (by rw [HX.out, HCH.out]), hx3⟩
      simp [results, Tryz.f19, go_sem, hx2]
    case stop2 =>
      rintro D2 c pre W6 hD2 hpre ⟨rfl, err, n6, hF6, hne, hfe, hD6⟩ hK6
      have hch : checkE (.mk k nm mr it d sub) = err := by
        obtain ⟨rest, hr⟩ := hpre
        rw [checkE_first 1, ← hr, firstErr_append, hfe, if_neg hne]
      gi_wp2_with fail
      obtain ⟨hx1, hx2, hx3⟩ := two_marks hF6 hK6 hD6 (by omega) (by omega) (by omega)
      refine ⟨by simp, .inl ⟨_, _, rfl, run_takeDeferred hK6, ⟨by simp, .inl ⟨_, _, rfl, run_takeDeferred hx1, ?_⟩⟩⟩⟩
      refine ⟨.int .i64 err, ?_, ret_intE (a := err) (by rw [HX.out, hch]), hx3⟩
      simp [results, Tryz.f19, go_sem, hx2]
  case stop =>
    rintro D c pre W hD hpre ⟨rfl, ⟨n, hF2⟩, hbad⟩ hK
    have HX := Lib.hid (limit_bad hpre hbad)
    gi_wp2_with fail
    refine ⟨by simp, .inl ⟨_, _, rfl, run_takeDeferred hK, ?_⟩⟩
    have hc5 := cell_kept (cell_of_one hF2.r) (grownBy_putObj' _ D (.deferred none)) (fun r e => by cases e; exact ⟨_, hK, rfl⟩)
    refine ⟨.int .i64 4, ?_, ret_intE (a := 4) HX.out.symm, hF2.below.trans (belowK_b (w := w) (Nat.le_refl _) W D _ _ (by omega) hK rfl rfl)⟩
    simp [results, Tryz.f19, go_sem, hc5]
end Go.Proofs.YtnphcjpccieljaaGreatDoor
