/- Texts of this proof, part 13: what the proof uses of them. -/
import Derived.Test.YtnnolijagpakiaaGreatDoorRal
import Derived.Test.YtnnolijagpakiaaGreatDoorRai
import Derived.Test.YtnnolijagpakiaaGreatDoorRag
import Derived.Test.YtnnolijagpakiaaGreatDoorRae
import Derived.Test.YtnnolijagpakiaaGreatDoorRaj
import Derived.Lib.ItoaNum
import Derived.Lib.ItoaLen
import Derived.Shelf.Strings.Builder1
import Derived.Shelf.Strings.Builder2
import Derived.Shelf.Strings.OnBuilder
import Derived.Shelf.Small.Strs
import Derived.Shelf.Strings.BuilderF
import Derived.Shelf.Strings.BuilderK
import Derived.Shelf.Strings.Builder2Cap
import Derived.Shelf.Strconv.Atoi
import Derived.Shelf.Strconv.Itoa0
import Derived.Shelf.Strconv.Itoa1
import Derived.Shelf.LaysM
import Derived.Shelf.Strconv.Itoa2
import Derived.Shelf.Strconv.Itoa3
import Derived.Shelf.Strings.Search1
import Derived.Shelf.Strings.Search2
import Derived.Shelf.Strings.Search3
import Derived.Shelf.Strings.Shaped
import Derived.Shelf.Strings.Prefix
import Derived.Shelf.Unicode.DecodeSlow
import Derived.Shelf.Strings.BuilderCap
import Derived.Ground.Names2Prog
import Derived.Shelf.Slices.Clone
import Derived.Ground.SlgnProg
import Derived.Shelf.SlicesE.Clone
import Derived.Test.YtnnolijagpakiaaGreatDoorProg
namespace Go.Proofs.YtnnolijagpakiaaGreatDoor
section
open Go.RowKit Go.Shelf
attribute [local go_sem] Oper.semAt_some
theorem two_marks {w : World} {E : Array Value} {res n : Int} {W : World} {D D2 : Nat} (h : CkFrame w E res n W) (h2 : W.heap[D2]? = some (.deferred (some []))) (h1 : W.heap[D]? = some (.deferred (some []))) (hne : D ≠ D2) (hw2 : w.heap.size ≤ D2) (hw1 : w.heap.size ≤ D) :
  (W.putObj D2 (.deferred none)).heap[D]? = some (.deferred (some [])) ∧ ((W.putObj D2 (.deferred none)).putObj D (.deferred none)).cell? ⟨w.heap.size + 1, 0, none⟩ = some (.int .i64 res) ∧ Below w.heap.size w ((W.putObj D2 (.deferred none)).putObj D (.deferred none)) := by
 have q : (W.putObj D2 (.deferred none)).heap[D]? = some (.deferred (some [])) := (World.putObj_heap_other hne).trans h1
 refine ⟨q, ?_, ?_⟩
 ·have c1 := cell_kept (cell_of_one h.r) (grownBy_putObj' W D2 (.deferred none)) (fun r e => by cases e; exact ⟨_, h2, rfl⟩)
  exact cell_kept c1 (grownBy_putObj' _ D (.deferred none)) (fun r e => by cases e; exact ⟨_, q, rfl⟩)
 ·exact (h.below.trans (belowK_b (w := w) (Nat.le_refl _) W D2 _ _ hw2 h2 rfl rfl)).trans (belowK_b (w := w) (Nat.le_refl _) _ D _ _ hw1 q rfl rfl)
set_option maxRecDepth 100000 in
set_option maxHeartbeats 4000000 in
theorem sCheckExpr_any (k : Int) (nm mr : ByteArray) (it d : Int) (sub : List Ex) (sv : Value) (w : World) (hm : nodesL sub ≤ 1048576) (hs : SubAt w w.heap.size sub sv) :
  Calls Tryz.prog 40 #[.agg #[.int .i64 k, .string nm, .string mr, .int .i64 it, .int .i64 d, sv]] w fun e w' => e = .returned (.int .i64 (checkX (.mk k nm mr it d sub))) ∧ Below w.heap.size w w' := by
 obtain ⟨p, cap, rfl, hcap, _⟩ := subAt_open hs
 refine (callsIn_wide (n := 4)).1 ?_
 refine callsIn_of_wp_marks Tryz.func40 rfl trivial ?_ rfl
 simp only [Tryz.ntmps40, List.size_toArray, List.length_cons, List.length_nil, Nat.reduceAdd, Nat.reduceSub, Array.replicate_succ, Array.replicate_zero, List.push_toArray, List.append_toArray, List.nil_append, List.cons_append]
 gi_wp2_with (first | (refine ⟨trivial, ?_⟩; gi_at_call 83; refine (callsIn_wide.2 (snodes_any _ _ _ _ _ _ _ _ _)).mono ?_; rintro e w' ⟨rfl, rfl⟩))
 have HS := Lib.hid hs
 obtain ⟨V, hV⟩ : ∃ V, ((((w.alloc (Obj.cells #[.int .i64 k, .string nm, .string mr, .int .i64 it, .int .i64 d, .slice p sub.length cap] 36)).alloc (Obj.cells #[Value.int IntKind.i64 0] 27)).alloc (Obj.cells #[Value.int IntKind.i64 0] 3)).alloc (Obj.cells #[.int .i64 k, .string nm, .string mr, .int .i64 it, .int .i64 d, .slice p sub.length cap] 36)) = V := ⟨_, rfl⟩
 obtain ⟨hF, hb4, hz⟩ := ck_start w 36 27 3 #[.int .i64 k, .string nm, .string mr, .int .i64 it, .int .i64 d, .slice p sub.length cap] V hV
 rw [hV]
 clear hV hs
 refine wpIn_rangeFunc_R (P := Tryz.prog) (F := Fence.wide) (n := 4) rfl (by omega) (gf := 142) (lb := #[.pointer (some ⟨w.heap.size + 1 + 1 + 1, 0, none⟩)]) rfl trivial (enters_of Tryz.func142 (by kernel_rfl) rfl)
  (encs := fun x : ItN => #[.int .i64 x.1, valN x]) (Kp := KeepOut w.heap.size (w.heap.size + 1 + 1 + 1)) (R := ItStep (V.heap.size + 1 + 1)) (X := fun _ x => ExAt w w.heap.size x.2.1 (valN x))
  (S := NodesAll (.mk k nm mr it d sub)) (Sp := NodesPre (.mk k nm mr it d sub))
  (fun r l J Jx hJ _ hY hJ0 => nodes1_in 3 l (w.heap.size + 1 + 1 + 1) w.heap.size (w.heap.size + 1 + 1 + 1) (by omega) k nm mr it d sub p cap w _ HS.out (sameLow_below ((hF.below.alloc (by omega) _).alloc (by simp; omega) _)) (by omega) (Nat.le_refl _)
   ((Below.heap_alloc _ _ _ (by simp; omega)).trans ((Below.heap_alloc _ _ _ (by omega)).trans hb4)) hm J Jx (fun pre A B h1 h2 => hJ pre A B h1 (by simpa using h2)) hY hJ0)
  (fun h1 h2 => h1.trans h2) (fun W l o o' _ hl ho => KeepOut.putObj W l o o' hl ho) (fun h => h.others.from _) (fun _ => rfl)
  (Ck1 w #[.int .i64 k, .string nm, .string mr, .int .i64 it, .int .i64 d, .slice p sub.length cap]) (Ck1x w #[.int .i64 k, .string nm, .string mr, .int .i64 it, .int .i64 d, .slice p sub.length cap]) (ck1_own w _ _ (by omega)) (fun c => ck1x_own w _ c _ (by omega))
  (fun pre A B h hs => ⟨h.1.step hs (by omega), h.2⟩) (fun c pre A B h hs => ⟨h.1, ⟨_, h.2.1.choose_spec.step hs (by omega)⟩, h.2.2⟩) ⟨hF, by simp, by simp⟩
  (fun x => { tmps := #[Value.agg #[.int .i64 k, .string nm, .string mr, .int .i64 it, .int .i64 d, .slice p sub.length cap], Value.pointer (some { block := w.heap.size, off := 0 }), Value.pointer (some { block := w.heap.size + 1, off := 0 }), Value.pointer (some { block := w.heap.size + 1 + 1, off := 0 }), Value.int .i64 x.1, undef, undef, undef,
        Value.agg #[.int .i64 k, .string nm, .string mr, .int .i64 it, .int .i64 d, .slice p sub.length cap], Value.func (Fn.func 142) #[] #[Value.pointer (some { block := w.heap.size + 1 + 1 + 1, off := 0 })], Value.int .i64 x.1, valN x, undef, undef, undef, undef, undef, undef, undef, undef, undef, undef, undef, undef, undef, undef, undef, undef, undef], defers := [] }) ?assign ?body ?done ?stop
 case assign =>
  intro l x W K hK
  gi_wp2
  exact hK
 case body =>
  rintro l pre x W hI -
  have c0 := cell_of_one hI.1.c
  have f0 := free_of_one hI.1.c
  have c1 := cell_of_one hI.1.r
  have f1 := free_of_one hI.1.r
  have hle := hI.2.1
  have HI := Lib.hid hI
  clear hI
  have hsz := HI.out.1.size
  by_cases hgt : 400 < pre.length + 1
  ·have hd : decide (400 < (pre.length : Int) + 1) = true := by simp; omega
   gi_wp2_with fail
   refine ⟨((KeepsOthers.setCell _ _ _).trans (KeepsOthers.setCell _ _ _)).from _, rfl, ⟨_, (HI.out.1.setCnt _).setRes 4⟩, .inl (by simp; omega)⟩
  ·have hd : decide (400 < (pre.length : Int) + 1) = false := by simp; omega
   by_cases hx : 40 < x.1
   ·have hd2 : decide (40 < (x.1 : Int)) = true := by simp; omega
    gi_wp2_with fail
    refine ⟨((KeepsOthers.setCell _ _ _).trans (KeepsOthers.setCell _ _ _)).from _, rfl, ⟨_, (HI.out.1.setCnt _).setRes 4⟩, .inr ⟨x, by simp, hx⟩⟩
   ·have hd2 : decide (40 < (x.1 : Int)) = false := by simp; omega
    gi_wp2_with fail
    have hF' := HI.out.1.setCnt ((pre.length : Int) + 1)
    refine ⟨(KeepsOthers.setCell _ _ _).from _, (KeepOut.below (Below.refl _ _)).setCell (p := ⟨w.heap.size + 1 + 1, 0, none⟩) (by simp; omega) _, ?_, by simp; omega, ?_⟩
    ·have e1 : ((pre ++ [x]).length : Int) = (pre.length : Int) + 1 := by simp
     rw [e1]; exact hF'
    ·intro z hz
     rcases List.mem_append.1 hz with h | h
     ·exact HI.out.2.2 z h
     ·simp at h; subst h; omega
 case done =>
  rintro D xs W hD hS hI hK
  obtain ⟨hg1, hg2⟩ := limit_good hS hI.2.1 hI.2.2
  have HX := Lib.hid (checkX_good hg1 hg2)
  have hF2 := hI.1
  have hW2 : w.heap.size + 1 + 1 + 1 + 1 ≤ W.heap.size := hF2.size
  clear hI hg1 hg2 hS
  have hcell : ∀ i (h : i < 6), W.cell? ⟨w.heap.size, i, none⟩ = some (#[.int .i64 k, .string nm, .string mr, .int .i64 it, .int .i64 d, .slice p sub.length cap][i]'h) := fun i h => by simp [World.cell?, hF2.e]
  have c0 : W.cell? ⟨w.heap.size, 0, none⟩ = some (.int .i64 k) := hcell 0 (by omega)
  have c1 : W.cell? ⟨w.heap.size, 1, none⟩ = some (.string nm) := hcell 1 (by omega)
  have c2 : W.cell? ⟨w.heap.size, 2, none⟩ = some (.string mr) := hcell 2 (by omega)
  have c3 : W.cell? ⟨w.heap.size, 3, none⟩ = some (.int .i64 it) := hcell 3 (by omega)
  have c4 : W.cell? ⟨w.heap.size, 4, none⟩ = some (.int .i64 d) := hcell 4 (by omega)
  have c5 : W.cell? ⟨w.heap.size, 5, none⟩ = some (.slice p sub.length cap) := hcell 5 (by omega)
  clear hcell
  gi_wp2_with (first | (refine ⟨trivial, ?_⟩; gi_at_call 83; refine (callsIn_wide.2 (snodes_any _ _ _ _ _ _ _ _ _)).mono ?_; rintro e w' ⟨rfl, rfl⟩))
  obtain ⟨V2, hV2⟩ : ∃ V2, W.alloc (.cells #[.int .i64 k, .string nm, .string mr, .int .i64 it, .int .i64 d, .slice p sub.length cap] 36) = V2 := ⟨_, rfl⟩
  have hF3 : CkFrame w #[.int .i64 k, .string nm, .string mr, .int .i64 it, .int .i64 d, .slice p sub.length cap] 0 xs.length V2 := by rw [← hV2]; exact hF2.kept ((Below.refl _ _).alloc (Nat.le_refl _) _)
  have hb5 : V2.heap[W.heap.size]? = some (.cells #[.int .i64 k, .string nm, .string mr, .int .i64 it, .int .i64 d, .slice p sub.length cap] 36 (0, 0)) := by rw [← hV2]; exact World.alloc_heap_new W _
  have hz2 : V2.heap.size = W.heap.size + 1 := by rw [← hV2]; simp
  have hDW := (Array.getElem?_eq_some_iff.1 hK).1
  have hK2 : V2.heap[D]? = some (.deferred (some [])) := by rw [← hV2]; exact (Below.heap_alloc _ _ _ hDW).trans hK
  rw [hV2]
  clear hV2 c0 c1 c2 c3 c4 c5
  refine wpIn_rangeFunc_A (P := Tryz.prog) (F := Fence.wide) (n := 4) rfl (by omega) (gf := 142) (lb := #[.pointer (some ⟨W.heap.size, 0, none⟩)]) rfl trivial (enters_of Tryz.func142 (by kernel_rfl) rfl)
   (encs := fun x : ItN => #[.int .i64 x.1, valN x]) (Kp := KeepOut w.heap.size (w.heap.size + 1 + 1 + 1)) (R := ItStep (V2.heap.size + 1 + 1)) (X := fun _ x => ExAt w w.heap.size x.2.1 (valN x))
   (S := NodesAll (.mk k nm mr it d sub)) (Sp := NodesPre (.mk k nm mr it d sub))
   (fun r l J Jx hJ _ hY hJ0 => nodes1_in 3 l W.heap.size w.heap.size (w.heap.size + 1 + 1 + 1) (by omega) k nm mr it d sub p cap w _ HS.out (sameLow_below ((hF3.below.alloc (by omega) _).alloc (by simp; omega) _)) (by omega) (by omega)
    ((Below.heap_alloc _ _ _ (by simp; omega)).trans ((Below.heap_alloc _ _ _ (by omega)).trans hb5)) hm J Jx (fun pre A B h1 h2 => hJ pre A B h1 (by simpa using h2)) hY hJ0)
   (fun h1 h2 => h1.trans h2) (fun W l o o' _ hl ho => KeepOut.putObj W l o o' hl ho) (fun h => h.others.from _) (fun _ => rfl)
   (Ck2 w #[.int .i64 k, .string nm, .string mr, .int .i64 it, .int .i64 d, .slice p sub.length cap] D) (Ck2x w #[.int .i64 k, .string nm, .string mr, .int .i64 it, .int .i64 d, .slice p sub.length cap] D) (ck2_own w _ _ _ (by omega) (by omega)) (fun c => ck2x_own w _ _ c _ (by omega) (by omega))
   (fun pre A B h hs => ⟨⟨_, h.1.choose_spec.step hs (by omega)⟩, h.2.1, hs.others.same _ _ h.2.2 rfl⟩) (fun c pre A B h hs => by
    obtain ⟨h1, err, n, h2, h3, h4, h5⟩ := h
    exact ⟨h1, err, n, h2.step hs (by omega), h3, h4, hs.others.same _ _ h5 rfl⟩) ⟨⟨_, hF3⟩, rfl, hK2⟩
   (fun x b => { tmps := #[Value.agg #[.int .i64 k, .string nm, .string mr, .int .i64 it, .int .i64 d, .slice p sub.length cap], Value.pointer (some { block := w.heap.size, off := 0 }), Value.pointer (some { block := w.heap.size + 1, off := 0 }), Value.pointer (some { block := w.heap.size + 1 + 1, off := 0 }), undef, undef, Value.pointer (some { block := b, off := 0 }), undef,
         Value.agg #[.int .i64 k, .string nm, .string mr, .int .i64 it, .int .i64 d, .slice p sub.length cap], Value.func (Fn.func 142) #[] #[Value.pointer (some { block := w.heap.size + 1 + 1 + 1, off := 0 })], undef, undef, undef, undef, undef, undef, undef, undef, undef, undef, Value.agg #[.int .i64 k, .string nm, .string mr, .int .i64 it, .int .i64 d, .slice p sub.length cap], Value.func (Fn.func 142) #[] #[Value.pointer (some { block := W.heap.size, off := 0 })], Value.int .i64 x.1, valN x, undef, undef, undef, undef, undef], defers := [] })
   (fun x => .cells #[.int .i64 x.2.1.kind, .string x.2.1.name, .string x.2.1.more, .int .i64 x.2.1.int, .int .i64 x.2.1.den, .slice x.2.2.1 x.2.1.sub.length x.2.2.2] 36) (fun W o => KeepOut.below ((Below.refl _ _).alloc (Nat.le_refl _) _)) ?assign2 ?body2 ?done2 ?stop2
  case assign2 =>
   intro l x W K hK
   gi_wp2
   exact hK
  case body2 =>
   rintro l pre x b W5 hI - hbx hbV
   obtain ⟨⟨n5, hF5⟩, hfe, hD5⟩ := hI
   have cr := cell_of_one hF5.r
   have fr := free_of_one hF5.r
   have g0 : W5.cell? ⟨b, 0, none⟩ = some (.int .i64 x.2.1.kind) := by simp [World.cell?, hbx]
   have g1 : W5.cell? ⟨b, 1, none⟩ = some (.string x.2.1.name) := by simp [World.cell?, hbx]
   have g2 : W5.cell? ⟨b, 2, none⟩ = some (.string x.2.1.more) := by simp [World.cell?, hbx]
   have g3 : W5.cell? ⟨b, 3, none⟩ = some (.int .i64 x.2.1.int) := by simp [World.cell?, hbx]
   have g4 : W5.cell? ⟨b, 4, none⟩ = some (.int .i64 x.2.1.den) := by simp [World.cell?, hbx]
   have g5 : W5.cell? ⟨b, 5, none⟩ = some (.slice x.2.2.1 x.2.1.sub.length x.2.2.2) := by simp [World.cell?, hbx]
   have HF5 := Lib.hid hF5
   have HFE := Lib.hid hfe
   have HD5 := Lib.hid hD5
   have hs5 := hF5.size
   have HC := Lib.hid (scheckNode_any x.2.1.kind x.2.1.name x.2.1.more x.2.1.int x.2.1.den x.2.2.1 x.2.1.sub.length x.2.2.2 W5)
   obtain ⟨err, herr⟩ : ∃ err, checkN x.2.1.kind x.2.1.name x.2.1.more x.2.1.int x.2.1.den x.2.1.sub.length = err := ⟨_, rfl⟩
   rw [herr] at HC
   have HER : Hid (nodeErr x.2.1 = err) := Lib.hid herr
   clear hF5 hfe hD5 hbx herr
   by_cases hz5 : err = 0
   ·subst hz5
    gi_wp2_with (first | (refine ⟨trivial, ?_⟩; gi_at_call 84; refine (CallsIn.inRound l (callsIn_wide.2 HC.out)).mono ?_; rintro e w' ⟨rfl, hb⟩; have HB := Lib.hid hb; clear hb))
    refine ⟨(keepsOthers_below HB.out).from _, KeepOut.below HB.out, ⟨_, HF5.out.kept HB.out⟩, ?_, (HB.out.block _ (Array.getElem?_eq_some_iff.1 HD5.out).1).trans HD5.out⟩
    rw [List.map_append, firstErr_append, if_pos HFE.out]
    simp only [List.map_cons, List.map_nil, projN, firstErr, HER.out, if_true]
   ·have hz6 : (err != 0) = true := by simpa using hz5
    gi_wp2_with (first | (refine ⟨trivial, ?_⟩; gi_at_call 84; refine (CallsIn.inRound l (callsIn_wide.2 HC.out)).mono ?_; rintro e w' ⟨rfl, hb⟩; have cr' := (hb.cell (p := ⟨w.heap.size + 1, 0, none⟩) (by show w.heap.size + 1 < _; omega)).trans cr; have fr' := (hb.frozen (p := ⟨w.heap.size + 1, 0, none⟩) (by show w.heap.size + 1 < _; omega)).trans fr; have HB := Lib.hid hb; clear hb))
    refine ⟨((keepsOthers_below HB.out).trans (KeepsOthers.setCell _ _ _)).from _, rfl, err, _, (HF5.out.kept HB.out).setRes err, hz5, ?_, (KeepsOthers.setCell _ _ _).same _ _ ((HB.out.block _ (Array.getElem?_eq_some_iff.1 HD5.out).1).trans HD5.out) rfl⟩
    rw [List.map_append, firstErr_append, if_pos HFE.out]
    simp only [List.map_cons, List.map_nil, projN, firstErr, HER.out, if_neg hz5]
  case done2 =>
   rintro D2 ys W6 hD2 hS2 ⟨⟨n6, hF6⟩, hfe, hD6⟩ hK6
   have hch : checkE (.mk k nm mr it d sub) = 0 := by rw [checkE_first 1, ← (show _ = _ from hS2)]; exact hfe
   have cr := cell_of_one hF6.r
   have fr := free_of_one hF6.r
   have HF6 := Lib.hid hF6
   have HCH := Lib.hid hch
   clear hF6 hch
   gi_wp2_with fail
   have hF7 := HF6.out.setRes 0
   have hK7 := (KeepsOthers.setCell W6 ⟨w.heap.size + 1, 0, none⟩ (.int .i64 0)).same D2 _ hK6 rfl
   have hD7 := (KeepsOthers.setCell W6 ⟨w.heap.size + 1, 0, none⟩ (.int .i64 0)).same D _ hD6 rfl
   generalize W6.setCell ⟨w.heap.size + 1, 0, none⟩ (.int .i64 0) = W7 at *
   obtain ⟨hx1, hx2, hx3⟩ := two_marks hF7 hK7 hD7 (by omega) (by omega) (by omega)
   refine ⟨by simp, .inl ⟨_, _, rfl, run_takeDeferred hK7, ⟨by simp, .inl ⟨_, _, rfl, run_takeDeferred hx1, ?_⟩⟩⟩⟩
   refine ⟨.int .i64 0, ?_, ret_intE (a := 0) (by rw [HX.out, HCH.out]), hx3⟩
   simp [results, Tryz.f40, go_sem, hx2]
  case stop2 =>
   rintro D2 c pre W6 hD2 hpre ⟨rfl, err, n6, hF6, hne, hfe, hD6⟩ hK6
   have hch : checkE (.mk k nm mr it d sub) = err := by
    obtain ⟨rest, hr⟩ := hpre
    rw [checkE_first 1, ← hr, firstErr_append, hfe, if_neg hne]
   gi_wp2_with fail
   obtain ⟨hx1, hx2, hx3⟩ := two_marks hF6 hK6 hD6 (by omega) (by omega) (by omega)
   refine ⟨by simp, .inl ⟨_, _, rfl, run_takeDeferred hK6, ⟨by simp, .inl ⟨_, _, rfl, run_takeDeferred hx1, ?_⟩⟩⟩⟩
   refine ⟨.int .i64 err, ?_, ret_intE (a := err) (by rw [HX.out, hch]), hx3⟩
   simp [results, Tryz.f40, go_sem, hx2]
 case stop =>
  rintro D c pre W hD hpre ⟨rfl, ⟨n, hF2⟩, hbad⟩ hK
  have HX := Lib.hid (limit_bad hpre hbad)
  gi_wp2_with fail
  refine ⟨by simp, .inl ⟨_, _, rfl, run_takeDeferred hK, ?_⟩⟩
  have hc5 := cell_kept (cell_of_one hF2.r) (grownBy_putObj' _ D (.deferred none)) (fun r e => by cases e; exact ⟨_, hK, rfl⟩)
  refine ⟨.int .i64 4, ?_, ret_intE (a := 4) HX.out.symm, hF2.below.trans (belowK_b (w := w) (Nat.le_refl _) W D _ _ (by omega) hK rfl rfl)⟩
  simp [results, Tryz.f40, go_sem, hc5]
end
end Go.Proofs.YtnnolijagpakiaaGreatDoor
namespace Go.Proofs.YtnnolijagpakiaaGreatDoor
open Go Go.RowKit
mutual
def encE : Ex → List D
 | .mk k n m i d s => [.raw (.int .i64 k), .raw (.string n), .raw (.string m), .raw (.int .i64 i), .raw (.int .i64 d), .sl (encL s)]
def encL : List Ex → List (List D)
 | [] => []
 | e :: es => encE e :: encL es
end
theorem encE_eq (t : Ex) : encE t = [.raw (.int .i64 t.kind), .raw (.string t.name), .raw (.string t.more), .raw (.int .i64 t.int), .raw (.int .i64 t.den), .sl (encL t.sub)] := by cases t; rfl
theorem encL_length : ∀ l : List Ex, (encL l).length = l.length
 | [] => rfl
 | e :: es => by rw [encL]; simp [encL_length es]
theorem encE_length (t : Ex) : (encE t).length = 6 := by cases t; rfl
theorem encL_map : ∀ l : List Ex, encL l = l.map encE
 | [] => rfl
 | e :: es => by rw [encL, encL_map es]; rfl
theorem encL_getD (l : List Ex) (i : Nat) (h : i < l.length) : (encL l).getD i [] = encE l[i] := by
 rw [encL_map]; simp [List.getD_eq_getElem?_getD, h]
theorem encL_at (l : List Ex) (i : Nat) (h : i < l.length) : (encL l).getD i [] = [.raw (.int .i64 l[i].kind), .raw (.string l[i].name), .raw (.string l[i].more), .raw (.int .i64 l[i].int), .raw (.int .i64 l[i].den), .sl (encL l[i].sub)] := by
 rw [encL_getD l i h, encE_eq]
theorem encL_fit (l : List Ex) : rowsFit 6 (encL l) := by
 intro r hr
 rw [encL_map] at hr
 obtain ⟨t, _, rfl⟩ := List.mem_map.1 hr
 refine ⟨encE_length t, fun x hx => ?_⟩
 rw [encE_eq] at hx
 simp only [List.mem_cons, List.not_mem_nil, or_false] at hx
 rcases hx with rfl | rfl | rfl | rfl | rfl | rfl <;> rfl
def avE (t : Ex) : AV := .agg ((encE t).map .d)
theorem avE_eq (t : Ex) : avE t = .agg [.d (.raw (.int .i64 t.kind)), .d (.raw (.string t.name)), .d (.raw (.string t.more)), .d (.raw (.int .i64 t.int)), .d (.raw (.int .i64 t.den)), .d (.sl (encL t.sub))] := by
 rw [avE, encE_eq]; rfl
end Go.Proofs.YtnnolijagpakiaaGreatDoor
namespace Go.Proofs.YtnnolijagpakiaaGreatDoor
open Go.RowKit
structure XV where
 k : Int
 n : ByteArray
 m : ByteArray
 i : Int
 d : Int
 p : Option Addr
 q : Nat
 c : Nat
abbrev XV.arr (x : XV) : Array Value := #[.int .i64 x.k, .string x.n, .string x.m, .int .i64 x.i, .int .i64 x.d, .slice x.p x.q x.c]
def XAt (w : World) (t : Ex) (x : XV) : Prop := ExAt w w.heap.size t (.agg x.arr)
theorem xAt_sub {w : World} {t : Ex} {x : XV} (h : XAt w t x) : x = ⟨t.kind, t.name, t.more, t.int, t.den, x.p, t.sub.length, x.c⟩ ∧ SubAt w w.heap.size t.sub (.slice x.p t.sub.length x.c) := by
 obtain ⟨sv, he, hs⟩ := exAt_iff.1 h
 obtain ⟨k, n, m, i, d, p, q, c⟩ := x
 obtain ⟨p', c', rfl, hc, hr⟩ := id hs
 simp only [XV.arr, Value.agg.injEq, Array.mk.injEq, List.cons.injEq, and_true, Value.int.injEq, Value.string.injEq, Value.slice.injEq, true_and] at he
 obtain ⟨rfl, rfl, rfl, rfl, rfl, rfl, rfl, rfl⟩ := he
 exact ⟨rfl, hs⟩
end Go.Proofs.YtnnolijagpakiaaGreatDoor
namespace Go.Proofs.YtnnolijagpakiaaGreatDoor
open Go Go.RowKit
theorem rowAt_mk {w : World} {B b : Nat} : ∀ (l : List Ex) (off : Nat), (∀ k (h : k < l.length), NodeAt w B b (off + k * 6) l[k]) → RowAt w B b off l
 | [], off, _ => by simp [RowAt]
 | e :: es, off, h => by
  rw [rowAt_cons]
  refine ⟨by have h0 := h 0 (by simp); rw [Nat.zero_mul, Nat.add_zero] at h0; exact h0, rowAt_mk es (off + 6) fun k hk => ?_⟩
  have := h (k + 1) (by simpa using hk)
  rw [show off + (k + 1) * 6 = off + 6 + k * 6 by omega] at this
  exact this
theorem reads_sub {w : World} {F : Nat → Nat → Prop} (hF : ∀ b o, F b o → b < w.heap.size) (N : Nat) : ∀ (sub : List Ex) (v : Value), nodesL sub < N → Reads w F (.sl (encL sub)) v → SubAt w w.heap.size sub v := by
 induction N with
 | zero => intro sub v h; omega
 | succ N ih =>
  intro sub v hN h
  obtain ⟨p, cap, rfl, hcap⟩ := h.slice
  rw [encL_length] at hcap h ⊢
  refine ⟨p, cap, rfl, hcap, fun hpos => ?_⟩
  have hlen := encL_length sub
  have hrow : ∀ k (hk : k < sub.length), (encL sub)[k]'(by omega) = encE sub[k] := fun k hk => by
   simp only [encL_map, List.getElem_map]
  obtain ⟨b, off, hp, h0⟩ := h.row 0 (by omega) (st := 6) (by rw [hrow 0 hpos]; exact encE_length _)
  have hb : b < w.heap.size := by
   obtain ⟨h1, _⟩ := h0 0 (by rw [hrow 0 hpos, encE_length]; omega)
   exact hF _ _ h1
  refine ⟨b, off, hp, hb, rowAt_mk sub off fun k hk => ?_⟩
  obtain ⟨b', off', hp', hk0⟩ := h.row k (by omega) (st := 6) (by rw [hrow k hk]; exact encE_length _)
  rw [hp] at hp'
  simp only [Option.some.injEq, Addr.mk.injEq, and_true] at hp'
  obtain ⟨rfl, rfl⟩ := hp'
  have hn := nodesL_get sub k hk
  rw [nodesE_eq] at hn
  have cell : ∀ j (hj : j < 6), ∃ u, w.cell? ⟨b, off + k * 6 + j, none⟩ = some u ∧ Reads w F ((encE sub[k])[j]'(by rw [encE_length]; exact hj)) u := fun j hj => by
   obtain ⟨_, u, h1, h2⟩ := hk0 j (by rw [hrow k hk, encE_length]; exact hj)
   refine ⟨u, h1, ?_⟩
   have e : ((encL sub)[k]'(by omega))[j]'(by rw [hrow k hk, encE_length]; exact hj) = (encE sub[k])[j]'(by rw [encE_length]; exact hj) := by simp only [hrow k hk]
   rw [← e]; exact h2
  have enc : ∀ j (hj : j < 6), (encE sub[k])[j]'(by rw [encE_length]; exact hj) = [D.raw (.int .i64 sub[k].kind), .raw (.string sub[k].name), .raw (.string sub[k].more), .raw (.int .i64 sub[k].int), .raw (.int .i64 sub[k].den), .sl (encL sub[k].sub)][j] := fun j hj => by
   simp only [encE_eq]
  obtain ⟨u0, a0, b0⟩ := cell 0 (by omega); rw [enc 0 (by omega)] at b0
  obtain ⟨u1, a1, b1⟩ := cell 1 (by omega); rw [enc 1 (by omega)] at b1
  obtain ⟨u2, a2, b2⟩ := cell 2 (by omega); rw [enc 2 (by omega)] at b2
  obtain ⟨u3, a3, b3⟩ := cell 3 (by omega); rw [enc 3 (by omega)] at b3
  obtain ⟨u4, a4, b4⟩ := cell 4 (by omega); rw [enc 4 (by omega)] at b4
  obtain ⟨u5, a5, b5⟩ := cell 5 (by omega); rw [enc 5 (by omega)] at b5
  obtain rfl := b0.raw_eq
  obtain rfl := b1.raw_eq
  obtain rfl := b2.raw_eq
  obtain rfl := b3.raw_eq
  obtain rfl := b4.raw_eq
  exact ⟨u5, a0, a1, a2, a3, a4, a5, ih _ _ (by omega) b5⟩
theorem avE_xAt {w : World} {F : Nat → Nat → Prop} {t : Ex} {v : Value} (hF : ∀ b o, F b o → b < w.heap.size) (h : HasC w F (avE t) v) : ∃ x : XV, v = .agg x.arr ∧ XAt w t x := by
 rw [avE_eq] at h
 unfold HasC at h
 generalize hcs : [AV.d (.raw (.int .i64 t.kind)), .d (.raw (.string t.name)), .d (.raw (.string t.more)), .d (.raw (.int .i64 t.int)), .d (.raw (.int .i64 t.den)), .d (.sl (encL t.sub))] = cs at h
 cases h with
 | agg _ vs hl hh =>
  subst hcs
  match vs, hl with
  | [v0, v1, v2, v3, v4, v5], _ =>
   have g0 := hh 0 (by simp) (by simp)
   have g1 := hh 1 (by simp) (by simp)
   have g2 := hh 2 (by simp) (by simp)
   have g3 := hh 3 (by simp) (by simp)
   have g4 := hh 4 (by simp) (by simp)
   have g5 := hh 5 (by simp) (by simp)
   obtain rfl : v0 = _ := g0.raw_eq
   obtain rfl : v1 = _ := g1.raw_eq
   obtain rfl : v2 = _ := g2.raw_eq
   obtain rfl : v3 = _ := g3.raw_eq
   obtain rfl : v4 = _ := g4.raw_eq
   have h5 : Reads w F (.sl (encL t.sub)) v5 := by
    simp only [List.getElem_cons_succ, List.getElem_cons_zero] at g5
    cases g5 with
    | d h => exact h
   have hs := reads_sub hF (nodesL t.sub + 1) t.sub v5 (by omega) h5
   obtain ⟨p, cap, rfl, hcap, hat⟩ := subAt_open hs
   exact ⟨⟨t.kind, t.name, t.more, t.int, t.den, p, t.sub.length, cap⟩, rfl, by
    unfold XAt
    rw [exAt_iff]
    exact ⟨_, rfl, hs⟩⟩
theorem con_e1 {P : Program} {f : FuncId} {t : Ex} {r : Value} (he : Enters P f) (h : ∀ (x : XV) (w : World), XAt w t x → Calls P f #[.agg x.arr] w fun e w' => e = .returned r ∧ Below w.heap.size w w') : Con P f [avE t] (.d (.raw r)) := by
 refine ⟨he, rfl, fun F w vs hF _ hl hv => ?_⟩
 match vs, hl with
 | [v], _ =>
  obtain ⟨x, rfl, hx⟩ := avE_xAt hF (hv 0 (by simp) (by simp))
  exact (h x w hx).mono fun e w' h' => ⟨r, h'.1, .d (.raw _), h'.2⟩
theorem con_e2 {P : Program} {f : FuncId} {t u : Ex} {r : Value} (he : Enters P f) (h : ∀ (x y : XV) (w : World), XAt w t x → XAt w u y → Calls P f #[.agg x.arr, .agg y.arr] w fun e w' => e = .returned r ∧ Below w.heap.size w w') : Con P f [avE t, avE u] (.d (.raw r)) := by
 refine ⟨he, rfl, fun F w vs hF _ hl hv => ?_⟩
 match vs, hl with
 | [v, v'], _ =>
  obtain ⟨x, rfl, hx⟩ := avE_xAt hF (hv 0 (by simp) (by simp))
  obtain ⟨y, rfl, hy⟩ := avE_xAt hF (hv 1 (by simp) (by simp))
  exact (h x y w hx hy).mono fun e w' h' => ⟨r, h'.1, .d (.raw _), h'.2⟩
end Go.Proofs.YtnnolijagpakiaaGreatDoor
namespace Go.Proofs.YtnnolijagpakiaaGreatDoor
open Go.RowKit
theorem rSame_x {a b : Ex} {xa xb : XV} {w : World} (ha : XAt w a xa) (hb : XAt w b xb) (hsz : nodesE a ≤ 1099511627776) :
  Calls Tryz.prog 18 #[.agg xa.arr, .agg xb.arr] w fun e w' => e = .returned (.bool (sameE a b)) ∧ Below w.heap.size w w' := by
 obtain ⟨ea, ha⟩ := xAt_sub ha
 obtain ⟨eb, hb⟩ := xAt_sub hb
 rw [ea, eb]
 rw [nodesE_eq] at hsz
 have h := rSame_any (nodesL a.sub + 1) a.kind a.name a.more a.int a.den a.sub _ b.kind b.name b.more b.int b.den b.sub _ w (by omega) (by omega) ha hb
 rw [Ex.eta, Ex.eta] at h
 exact h
theorem sCheckExpr_x {a : Ex} {xa : XV} {w : World} (ha : XAt w a xa) (hsz : nodesE a ≤ 1048576) :
  Calls Tryz.prog 40 #[.agg xa.arr] w fun e w' => e = .returned (.int .i64 (checkX a)) ∧ Below w.heap.size w w' := by
 obtain ⟨ea, ha⟩ := xAt_sub ha
 rw [ea]
 rw [nodesE_eq] at hsz
 have h := sCheckExpr_any a.kind a.name a.more a.int a.den a.sub _ w (by omega) ha
 rw [Ex.eta] at h
 exact h
theorem rGreat_x {a : Ex} {xa : XV} {w : World} (ha : XAt w a xa) (hsz : nodesE a ≤ 1048576) :
  Calls Tryz.prog 21 #[.agg xa.arr] w fun e w' => e = .returned (.bool (greatE a)) ∧ Below w.heap.size w w' := by
 obtain ⟨ea, ha⟩ := xAt_sub ha
 rw [ea]
 rw [nodesE_eq] at hsz
 have h := rGreat_any a.kind a.name a.more a.int a.den a.sub _ w (by omega) ha
 rw [Ex.eta] at h
 exact h
end Go.Proofs.YtnnolijagpakiaaGreatDoor
namespace Go.Proofs.YtnnolijagpakiaaGreatDoor
open Go Go.RowKit
theorem rSame_c (a b : Ex) (hsz : nodesE a ≤ 1099511627776) : Con Tryz.prog 18 [avE a, avE b] (.d (.raw (.bool (sameE a b)))) := con_e2 ⟨_, Tryz.func18, by decide +kernel, rfl⟩ fun _ _ _ hx hy => rSame_x hx hy hsz
theorem sCheckExpr_c (a : Ex) (hsz : nodesE a ≤ 1048576) : Con Tryz.prog 40 [avE a] (.d (.raw (.int .i64 (checkX a)))) := con_e1 ⟨_, Tryz.func40, by decide +kernel, rfl⟩ fun _ _ hx => sCheckExpr_x hx hsz
theorem rGreat_c (a : Ex) (hsz : nodesE a ≤ 1048576) : Con Tryz.prog 21 [avE a] (.d (.raw (.bool (greatE a)))) := con_e1 ⟨_, Tryz.func21, by decide +kernel, rfl⟩ fun _ _ hx => rGreat_x hx hsz
end Go.Proofs.YtnnolijagpakiaaGreatDoor
namespace Go.Proofs.YtnnolijagpakiaaGreatDoor
open Go Go.RowKit
def encS (l : List ByteArray) : List (List D) := l.map fun s => [.raw (.string s)]
theorem encS_length (l : List ByteArray) : (encS l).length = l.length := by simp [encS]
theorem encS_at (l : List ByteArray) (i : Nat) (h : i < l.length) : (encS l).getD i [] = [.raw (.string l[i])] := by
 simp [encS, List.getD_eq_getElem?_getD, h]
theorem encS_fit (l : List ByteArray) : rowsFit 1 (encS l) := by
 intro r hr
 obtain ⟨s, _, rfl⟩ := List.mem_map.1 hr
 exact ⟨rfl, fun x hx => by simp at hx; subst hx; rfl⟩
theorem encS_append (a b : List ByteArray) : encS a ++ encS b = encS (a ++ b) := by simp [encS]
theorem encS_row (l : List ByteArray) : ∀ r ∈ encS l, r.length = 1 := fun r hr => (encS_fit l r hr).1
def hasS (l : List ByteArray) (s : ByteArray) : Bool := l.any fun x => decide (x = s)
def sameS : List ByteArray → List ByteArray → Bool
 | [], [] => true
 | x :: xs, y :: ys => decide (x = y) && sameS xs ys
 | _, _ => false
theorem sameS_iff : ∀ a b : List ByteArray, sameS a b = true ↔ a = b
 | [], [] => by simp [sameS]
 | x :: xs, y :: ys => by simp only [sameS, Bool.and_eq_true, decide_eq_true_eq, sameS_iff xs ys, List.cons.injEq]
 | [], y :: ys => by simp [sameS]
 | x :: xs, [] => by simp [sameS]
theorem sameS_false {a b : List ByteArray} (h : a ≠ b) : sameS a b = false := by
 cases hc : sameS a b
 ·rfl
 ·exact absurd ((sameS_iff a b).1 hc) h
abbrev ssSt (l m : List ByteArray) (q : Nat) : St := ⟨[(0, .d (.sl (encS l))), (1, .d (.sl (encS m))), (5, .d (.raw (.int .i64 q)))], [], []⟩
set_option maxRecDepth 100000 in
set_option maxHeartbeats 4000000 in
theorem rSameStrings_c (l m : List ByteArray) (hl : l.length ≤ 1048576) : Con Tryz.prog 36 [.d (.sl (encS l)), .d (.sl (encS m))] (.d (.raw (.bool (sameS l m)))) := by
 refine con_of Tryz.func36 rfl (by decide +kernel) rfl rfl (by simp [Tryz.ntmps36]) fun A hA => ?_
 rw [Tryz.ntmps36] at hA
 refine goC 300 ?_
 by_cases hlm : l.length = m.length
 ·have g0 : (decide ¬ (l.length : Int) = (m.length : Int)) = false := decide_eq_false (by omega)
  simp only [go_sem, hA, encS_length, g0]
  refine satC_loop [0, 1, 5] [] [] (fun x σ => ∃ q : Nat, q ≤ l.length ∧ x = l.length - q ∧ l.take q = m.take q ∧ σ = ssSt l m q) l.length ⟨0, by omega, by omega, rfl, by simp only [go_sem, ssSt]⟩ ?_
  rintro x σ ⟨q, hq, rfl, hf, rfl⟩
  refine goC 300 ?_
  by_cases hlt : q < l.length
  ·have g1 : decide ((q : Int) < (l.length : Int)) = true := decide_eq_true (by omega)
   by_cases he : l[q] = m[q]
   ·have g2 : (decide ¬ l[q] = m[q]) = false := decide_eq_false (by simp [he])
    simp only [go_sem, hA, ssSt, encS_length, g1, Int.toNat_natCast, encS_at l q hlt, encS_at m q (by omega), g2, mixed]
    exact ⟨⟨by omega, by omega⟩, ⟨by omega, by omega⟩, by kernel_rfl, by unfold inI64; omega, l.length - (q + 1), by omega, q + 1, by omega, rfl, by rw [List.take_succ_eq_append_getElem hlt, List.take_succ_eq_append_getElem (show q < m.length by omega), hf, he], rfl⟩
   ·have g2 : (decide ¬ l[q] = m[q]) = true := decide_eq_true he
    have hne : sameS l m = false := sameS_false fun e => he (by simp [e])
    simp only [go_sem, hA, ssSt, encS_length, g1, Int.toNat_natCast, encS_at l q hlt, encS_at m q (by omega), g2, mixed, Tryz.results36, hne]
    exact ⟨⟨by omega, by omega⟩, ⟨by omega, by omega⟩, by kernel_rfl⟩
  ·have g1 : decide ((q : Int) < (l.length : Int)) = false := decide_eq_false (by omega)
   obtain rfl : q = l.length := by omega
   have he : l = m := by rw [List.take_length, List.take_of_length_le (by omega)] at hf; exact hf
   have hs : sameS l m = true := (sameS_iff _ _).2 he
   simp only [go_sem, hA, ssSt, encS_length, g1, Tryz.results36, hs]
 ·have g0 : (decide ¬ (l.length : Int) = (m.length : Int)) = true := decide_eq_true (by omega)
  have hne : sameS l m = false := sameS_false fun e => hlm (by rw [e])
  simp only [go_sem, hA, encS_length, g0, Tryz.results36, hne]
def ltS (a b : ByteArray) : Bool := Op.bytesLess a.data.toList b.data.toList
end Go.Proofs.YtnnolijagpakiaaGreatDoor
namespace Go.Proofs.YtnnolijagpakiaaGreatDoor
open Go Go.RowKit
mutual
def kindsE (k : Int) : Ex → Bool
 | .mk k' _ _ _ _ s => decide (k' = k) || kindsL k s
def kindsL (k : Int) : List Ex → Bool
 | [] => false
 | e :: es => kindsE k e || kindsL k es
end
abbrev cellsX (k : Int) (n m : ByteArray) (i d : Int) (s : List Ex) : List AV := [.d (.raw (.int .i64 k)), .d (.raw (.string n)), .d (.raw (.string m)), .d (.raw (.int .i64 i)), .d (.raw (.int .i64 d)), .d (.sl (encL s))]
end Go.Proofs.YtnnolijagpakiaaGreatDoor
namespace Go.Proofs.YtnnolijagpakiaaGreatDoor
open Go Go.RowKit
def itoaB (n : Int) : ByteArray := ⟨(Lib.itoa n).toArray⟩
theorem ba_append (a b : List UInt8) : (ByteArray.mk a.toArray) ++ (ByteArray.mk b.toArray) = ⟨(a ++ b).toArray⟩ := by
 apply ByteArray.ext
 simp
theorem itoaB_size (n : Int) (h : inI64 n) : (itoaB n).size ≤ 21 := by
 unfold inI64 at h
 have := Lib.itoa_length_le n (by omega) (by omega)
 unfold itoaB ByteArray.size
 simpa using this
end Go.Proofs.YtnnolijagpakiaaGreatDoor
namespace Go.Proofs.YtnnolijagpakiaaGreatDoor
open Go Go.RowKit
abbrev bs (l : List UInt8) : ByteArray := ⟨l.toArray⟩
def atB (l : List ByteArray) (i : Nat) : ByteArray := l.getD i ⟨#[]⟩
def nodeText (k : Int) (n m : ByteArray) (i d : Int) (l : List ByteArray) : ByteArray :=
 if k = 1 then itoaB i
 else if k = 2 then (if i = 1 then bs [116, 114, 117, 101] else bs [102, 97, 108, 115, 101])
 else if k = 3 then n
 else if k = 4 then n ++ bs [46] ++ m
 else if k = 6 then bs [40, 102, 117, 110, 32] ++ n ++ bs [32, 45, 62, 32] ++ atB l 0 ++ bs [41]
 else if k = 7 then bs [40] ++ atB l 0 ++ bs [32] ++ atB l 1 ++ bs [41]
 else if k = 8 then bs [40, 108, 101, 116, 32] ++ n ++ bs [32, 61, 32] ++ atB l 0 ++ bs [32, 105, 110, 32] ++ atB l 1 ++ bs [41]
 else if k = 9 then bs [40, 105, 102, 32] ++ atB l 0 ++ bs [32, 116, 104, 101, 110, 32] ++ atB l 1 ++ bs [32, 101, 108, 115, 101, 32] ++ atB l 2 ++ bs [41]
 else if k = 10 then bs [40] ++ atB l 0 ++ bs [32] ++ n ++ bs [32] ++ atB l 1 ++ bs [41]
 else if k = 12 then bs [40] ++ atB l 0 ++ bs [32, 58, 58, 32] ++ atB l 1 ++ bs [41]
 else if k = 13 then bs [40, 99, 97, 115, 101, 32] ++ atB l 0 ++ bs [32, 111, 102, 32, 110, 105, 108, 32, 45, 62, 32] ++ atB l 1 ++ bs [32, 124, 32] ++ n ++ bs [32, 58, 58, 32] ++ m ++ bs [32, 45, 62, 32] ++ atB l 2 ++ bs [41]
 else if k = 14 then bs [40, 99, 104, 97, 110, 99, 101, 32] ++ itoaB i ++ bs [32, 111, 102, 32] ++ itoaB d ++ bs [41]
 else if k = 15 then bs [40, 99, 111, 110, 102, 108, 105, 99, 116, 32] ++ atB l 0 ++ bs [32, 124, 124, 32] ++ atB l 1 ++ bs [32, 124, 124, 32] ++ atB l 2 ++ bs [41]
 else bs [110, 105, 108]
mutual
def txE : Ex → ByteArray
 | .mk k n m i d s => nodeText k n m i d (txL s)
def txL : List Ex → List ByteArray
 | [] => []
 | e :: es => txE e :: txL es
end
theorem txL_map : ∀ l : List Ex, txL l = l.map txE
 | [] => rfl
 | e :: es => by rw [txL, txL_map es]; rfl
theorem txL_length (l : List Ex) : (txL l).length = l.length := by simp [txL_map]
theorem ba_size (a b : ByteArray) : (a ++ b).size = a.size + b.size := ByteArray.size_append
theorem bs_size (l : List UInt8) : (bs l).size = l.length := by simp [ByteArray.size]
def sumB : List ByteArray → Nat
 | [] => 0
 | x :: xs => x.size + sumB xs
theorem sumB_three : ∀ l : List ByteArray, (atB l 0).size + (atB l 1).size + (atB l 2).size ≤ sumB l
 | [] => by
  have h0 : (ByteArray.mk #[]).size = 0 := rfl
  simp only [atB, sumB, List.getD_nil, h0]; omega
 | [a] => by
  have h0 : (ByteArray.mk #[]).size = 0 := rfl
  simp only [atB, sumB, List.getD_cons_zero, List.getD_cons_succ, List.getD_nil, h0]; omega
 | [a, b] => by
  have h0 : (ByteArray.mk #[]).size = 0 := rfl
  simp only [atB, sumB, List.getD_cons_zero, List.getD_cons_succ, List.getD_nil, h0]; omega
 | a :: b :: c :: r => by simp only [atB, sumB, List.getD_cons_zero, List.getD_cons_succ]; omega
def arity (k : Int) : Nat := if k = 6 then 1 else if k = 7 ∨ k = 8 ∨ k = 10 ∨ k = 12 then 2 else if k = 9 ∨ k = 13 ∨ k = 15 then 3 else 0
def okN (k : Int) (n m : ByteArray) (i d : Int) (len : Nat) : Bool := decide (arity k ≤ len) && decide (n.size ≤ 120) && decide (m.size ≤ 120) && decide (-9223372036854775808 ≤ i ∧ i ≤ 9223372036854775807) && decide (-9223372036854775808 ≤ d ∧ d ≤ 9223372036854775807) && decide (k ≠ 5)
mutual
/-- what has a text -/
def okE : Ex → Bool
 | .mk k n m i d s => okN k n m i d s.length && okL s
def okL : List Ex → Bool
 | [] => true
 | e :: es => okE e && okL es
end
theorem okN_iff {k : Int} {n m : ByteArray} {i d : Int} {len : Nat} (h : okN k n m i d len = true) : arity k ≤ len ∧ n.size ≤ 120 ∧ m.size ≤ 120 ∧ (-9223372036854775808 ≤ i ∧ i ≤ 9223372036854775807) ∧ (-9223372036854775808 ≤ d ∧ d ≤ 9223372036854775807) ∧ k ≠ 5 := by
 simp only [okN, Bool.and_eq_true, decide_eq_true_eq] at h
 exact ⟨h.1.1.1.1.1, h.1.1.1.1.2, h.1.1.1.2, h.1.1.2, h.1.2, h.2⟩
theorem ite_size {c : Prop} [Decidable c] {a b : ByteArray} {N : Nat} (ha : a.size ≤ N) (hb : b.size ≤ N) : (if c then a else b).size ≤ N := by
 by_cases h : c
 ·rw [if_pos h]; exact ha
 ·rw [if_neg h]; exact hb
theorem nodeText_size {k : Int} {n m : ByteArray} {i d : Int} {len : Nat} {l : List ByteArray} (h : okN k n m i d len = true) : (nodeText k n m i d l).size ≤ 390 + sumB l := by
 obtain ⟨_, hn, hm, hi, hd, _⟩ := okN_iff h
 have h3 := sumB_three l
 have h1 := itoaB_size i (by unfold inI64; omega)
 have h2 := itoaB_size d (by unfold inI64; omega)
 unfold nodeText
 repeat' apply ite_size
 all_goals (try simp only [ba_size, bs_size, List.length_cons, List.length_nil])
 all_goals omega
mutual
theorem txE_size : ∀ t : Ex, okE t = true → (txE t).size ≤ 390 * nodesE t
 | .mk k n m i d s, h => by
  simp only [okE, Bool.and_eq_true] at h
  have h1 := nodeText_size (l := txL s) h.1
  have h2 := txL_size s h.2
  rw [txE, nodesE]
  omega
theorem txL_size : ∀ l : List Ex, okL l = true → sumB (txL l) ≤ 390 * nodesL l
 | [], _ => by simp [txL, sumB]
 | e :: es, h => by
  simp only [okL, Bool.and_eq_true] at h
  have h1 := txE_size e h.1
  have h2 := txL_size es h.2
  simp only [txL, sumB, nodesL]
  omega
end
theorem encS_atB (l : List ByteArray) (i : Nat) (h : i < l.length) : (encS l).getD i [] = [.raw (.string (atB l i))] := by
 rw [encS_at l i h]
 simp [atB, List.getD_eq_getElem?_getD, h]
theorem txL_take_succ (s : List Ex) (q : Nat) (h : q < s.length) : txL (s.take (q + 1)) = txL (s.take q) ++ [txE s[q]] := by
 rw [txL_map, txL_map, List.take_succ_eq_append_getElem h, List.map_append]; rfl
end Go.Proofs.YtnnolijagpakiaaGreatDoor
namespace Go.Proofs.YtnnolijagpakiaaGreatDoor
open Go Go.RowKit
end Go.Proofs.YtnnolijagpakiaaGreatDoor
namespace Go.Proofs
open Go.Shelf
def Tryz.lays156_ren : Go.Shelf.Ren := ⟨fun | 156 => 111 | 165 => 159 | 166 => 53 | 169 => 56 | 240 => 109 | 241 => 178 | 276 => 158 | 277 => 194 | n => n, fun | 31 => 23 | 9 => 9 | 3 => 3 | 4 => 4 | 0 => 0 | 20 => 20 | 72 => 91 | 76 => 94 | 70 => 89 | 37 => 51 | 75 => 93 | 127 => 137 | 164 => 175 | 5 => 5 | 80 => 98 | n => n, fun | n => n⟩
theorem Tryz.lays156 : Go.Proofs.Lays.n156 Tryz.prog Tryz.lays156_ren := {
 mixed := by kernel_rfl
 f156 := Tryz.func111.trans (congrArg some (by kernel_rfl))
 f165 := Tryz.func159.trans (congrArg some (by kernel_rfl))
 f166 := Tryz.func53.trans (congrArg some (by kernel_rfl))
 f169 := Tryz.func56.trans (congrArg some (by kernel_rfl))
 f240 := Tryz.func109.trans (congrArg some (by kernel_rfl))
 f241 := Tryz.func178.trans (congrArg some (by kernel_rfl))
 f276 := Tryz.func158.trans (congrArg some (by kernel_rfl))
 f277 := Tryz.func194.trans (congrArg some (by kernel_rfl))
 t0 := Tryz.underlying0
 a0 := Tryz.isAgg0
 z0 := Tryz.sizeOf0
 v0 := Tryz.zeroValue0
 t3 := Tryz.underlying3
 a3 := Tryz.isAgg3
 z3 := Tryz.sizeOf3
 v3 := Tryz.zeroValue3
 t4 := Tryz.underlying4
 a4 := Tryz.isAgg4
 z4 := Tryz.sizeOf4
 v4 := Tryz.zeroValue4
 t9 := Tryz.underlying9
 a9 := Tryz.isAgg9
 z9 := Tryz.sizeOf9
 v9 := Tryz.zeroValue9
 t20 := Tryz.underlying20
 a20 := Tryz.isAgg20
 z20 := Tryz.sizeOf20
 v20 := Tryz.zeroValue20
 t31 := Tryz.underlying23
 a31 := Tryz.isAgg23
 z31 := Tryz.sizeOf23
 v31 := Tryz.zeroValue23
 t37 := Tryz.underlying51
 a37 := Tryz.isAgg51
 z37 := Tryz.sizeOf51
 v37 := Tryz.zeroValue51
 t70 := Tryz.underlying89
 a70 := Tryz.isAgg89
 z70 := Tryz.sizeOf89
 v70 := Tryz.zeroValue89
 t72 := Tryz.underlying91
 a72 := Tryz.isAgg91
 z72 := Tryz.sizeOf91
 v72 := Tryz.zeroValue91
 t75 := Tryz.underlying93
 a75 := Tryz.isAgg93
 z75 := Tryz.sizeOf93
 v75 := Tryz.zeroValue93
 t76 := Tryz.underlying94
 a76 := Tryz.isAgg94
 z76 := Tryz.sizeOf94
 v76 := Tryz.zeroValue94
 t127 := Tryz.underlying137
 a127 := Tryz.isAgg137
 z127 := Tryz.sizeOf137
 v127 := Tryz.zeroValue137
 t164 := Tryz.underlying175
 a164 := Tryz.isAgg175
 z164 := Tryz.sizeOf175
 v164 := Tryz.zeroValue175 }
theorem Tryz.Builder_Extra_156 : Builder.Extra Tryz.prog Tryz.lays156_ren := {
 sizeBuilder := by kernel_rfl
 liesBuilder := by kernel_rfl
 t5 := Tryz.underlying5
 a5 := Tryz.isAgg5
 z5 := Tryz.sizeOf5
 v5 := Tryz.zeroValue5
 infoByte := by kernel_rfl
 cellsByte := by kernel_rfl
 sizeByte := by kernel_rfl
 neB5 := by decide }
open Go.RowKit in
theorem Tryz.strings_Join (bk o c : Nat) (xs : List ByteArray) (sep : ByteArray) (w : World) (hcells : ∀ (j : Nat) x, xs[j]? = some x → w.cell? ⟨bk, o + j, none⟩ = some (.string x)) (hbk : bk < w.heap.size) (hN : xs.length ≤ 140737488355328) (hcap : xs.length ≤ c) (hlen : (Lib.join (xs.map (·.data.toList)) sep.data.toList).length ≤ 140737488355328) :
  Calls Tryz.prog 111 #[.slice (some ⟨bk, o, none⟩) xs.length c, .string sep] w fun e w' => e = .returned (.string ⟨(Lib.join (xs.map (·.data.toList)) sep.data.toList).toArray⟩) ∧ Below w.heap.size w w' := Any.strings_Join Tryz.lays156 Tryz.Builder_Extra_156 bk o c xs sep w hcells hbk hN hcap hlen
open Go.RowKit in
theorem Tryz.strings_Join_none (a : Option Addr) (c : Nat) (sep : ByteArray) (w : World) :
  Calls Tryz.prog 111 #[.slice a 0 c, .string sep] w fun e w' => e = .returned (.string ⟨#[]⟩) ∧ w' = w := Any.strings_Join_none Tryz.lays156 Tryz.Builder_Extra_156 a c sep w
def Tryz.laysNm216_ren : Go.Shelf.Ren := ⟨fun | 16 => 110 | n => n, fun | 24 => 23 | 9 => 9 | 4 => 4 | n => n, fun | n => n⟩
theorem Tryz.laysNm216 : Go.Proofs.Lays2.n16 Tryz.prog Tryz.laysNm216_ren := {
 mixed := by kernel_rfl
 f16 := Tryz.func110.trans (congrArg some (by kernel_rfl))
 t4 := Tryz.underlying4
 a4 := Tryz.isAgg4
 z4 := Tryz.sizeOf4
 v4 := Tryz.zeroValue4
 t9 := Tryz.underlying9
 a9 := Tryz.isAgg9
 z9 := Tryz.sizeOf9
 v9 := Tryz.zeroValue9
 t24 := Tryz.underlying23
 a24 := Tryz.isAgg23
 z24 := Tryz.sizeOf23
 v24 := Tryz.zeroValue23
 i9 := by kernel_rfl }
open Go.RowKit Go.Lib in
theorem Tryz.slices_Clone_string (b off n c : Nat) (zs : List ByteArray) (w : World) (hz : n ≤ zs.length) (hbig : n * 16 ≤ 140737488355328) (hc : ∀ j, j < zs.length → w.cell? ⟨b, off + j, none⟩ = some (.string (zs.getD j ByteArray.empty))) :
  Calls Tryz.prog 110 #[.slice (some ⟨b, off, none⟩) n c] w fun e w' => ∃ v', e = .returned v' ∧ w'.ownsRow w.heap.size 9 1 v' n ((zs.take n).map (Value.string)) ∧ v' ≠ .slice none 0 0 ∧ Below w.heap.size w w' := Any.slices_Clone_string Tryz.laysNm216 b off n c zs w hz hbig hc
def Tryz.laysM171_ren : Go.Shelf.Ren := ⟨fun | 171 => 91 | 243 => 152 | 246 => 174 | 283 => 186 | 284 => 187 | 285 => 188 | 286 => 189 | 129 => 200 | 317 => 199 | 318 => 201 | 319 => 202 | 320 => 203 | 337 => 207 | 338 => 208 | n => n, fun | 3 => 3 | 9 => 9 | 2 => 2 | 4 => 4 | 171 => 192 | 0 => 0 | 53 => 193 | 37 => 51 | 5 => 5 | 173 => 196 | 212 => 207 | 51 => 208 | 20 => 20 | 213 => 209 | 46 => 199 | 232 => 223 | 233 => 224 | n => n, fun | 17 => 3 | 18 => 6 | 19 => 7 | n => n⟩
theorem Tryz.laysM171 : Go.Proofs.LaysM.n171 Tryz.prog Tryz.laysM171_ren := {
 mixed := by kernel_rfl
 f129 := Tryz.func200.trans (congrArg some (by kernel_rfl))
 f171 := Tryz.func91.trans (congrArg some (by kernel_rfl))
 f243 := Tryz.func152.trans (congrArg some (by kernel_rfl))
 f246 := Tryz.func174.trans (congrArg some (by kernel_rfl))
 f283 := Tryz.func186.trans (congrArg some (by kernel_rfl))
 f284 := Tryz.func187.trans (congrArg some (by kernel_rfl))
 f285 := Tryz.func188.trans (congrArg some (by kernel_rfl))
 f286 := Tryz.func189.trans (congrArg some (by kernel_rfl))
 f317 := Tryz.func199.trans (congrArg some (by kernel_rfl))
 f318 := Tryz.func201.trans (congrArg some (by kernel_rfl))
 f319 := Tryz.func202.trans (congrArg some (by kernel_rfl))
 f320 := Tryz.func203.trans (congrArg some (by kernel_rfl))
 f337 := Tryz.func207.trans (congrArg some (by kernel_rfl))
 f338 := Tryz.func208.trans (congrArg some (by kernel_rfl))
 t0 := Tryz.underlying0
 a0 := Tryz.isAgg0
 z0 := Tryz.sizeOf0
 v0 := Tryz.zeroValue0
 t2 := Tryz.underlying2
 a2 := Tryz.isAgg2
 z2 := Tryz.sizeOf2
 v2 := Tryz.zeroValue2
 t3 := Tryz.underlying3
 a3 := Tryz.isAgg3
 z3 := Tryz.sizeOf3
 v3 := Tryz.zeroValue3
 t4 := Tryz.underlying4
 a4 := Tryz.isAgg4
 z4 := Tryz.sizeOf4
 v4 := Tryz.zeroValue4
 t5 := Tryz.underlying5
 a5 := Tryz.isAgg5
 z5 := Tryz.sizeOf5
 v5 := Tryz.zeroValue5
 t9 := Tryz.underlying9
 a9 := Tryz.isAgg9
 z9 := Tryz.sizeOf9
 v9 := Tryz.zeroValue9
 t20 := Tryz.underlying20
 a20 := Tryz.isAgg20
 z20 := Tryz.sizeOf20
 v20 := Tryz.zeroValue20
 t37 := Tryz.underlying51
 a37 := Tryz.isAgg51
 z37 := Tryz.sizeOf51
 v37 := Tryz.zeroValue51
 t46 := Tryz.underlying199
 a46 := Tryz.isAgg199
 z46 := Tryz.sizeOf199
 v46 := Tryz.zeroValue199
 t51 := Tryz.underlying208
 a51 := Tryz.isAgg208
 z51 := Tryz.sizeOf208
 v51 := Tryz.zeroValue208
 t53 := Tryz.underlying193
 a53 := Tryz.isAgg193
 z53 := Tryz.sizeOf193
 v53 := Tryz.zeroValue193
 t171 := Tryz.underlying192
 a171 := Tryz.isAgg192
 z171 := Tryz.sizeOf192
 v171 := Tryz.zeroValue192
 t173 := Tryz.underlying196
 a173 := Tryz.isAgg196
 z173 := Tryz.sizeOf196
 v173 := Tryz.zeroValue196
 t212 := Tryz.underlying207
 a212 := Tryz.isAgg207
 z212 := Tryz.sizeOf207
 v212 := Tryz.zeroValue207
 t213 := Tryz.underlying209
 a213 := Tryz.isAgg209
 z213 := Tryz.sizeOf209
 t232 := Tryz.underlying223
 a232 := Tryz.isAgg223
 z232 := Tryz.sizeOf223
 v232 := Tryz.zeroValue223
 t233 := Tryz.underlying224
 a233 := Tryz.isAgg224
 z233 := Tryz.sizeOf224
 v233 := Tryz.zeroValue224
 g17 := by kernel_rfl
 g18 := by kernel_rfl
 g19 := by kernel_rfl
 i0 := by kernel_rfl
 i2 := by kernel_rfl
 i3 := by kernel_rfl
 i4 := by kernel_rfl
 i5 := by kernel_rfl
 i9 := by kernel_rfl
 i20 := by kernel_rfl
 i37 := by kernel_rfl
 i46 := by kernel_rfl
 i51 := by kernel_rfl
 i53 := by kernel_rfl
 i171 := by kernel_rfl
 i173 := by kernel_rfl
 i212 := by kernel_rfl
 i232 := by kernel_rfl
 i233 := by kernel_rfl
 m17 := by kernel_rfl
 m18 := by kernel_rfl
 m19 := by kernel_rfl }
open Go.RowKit Go.Sort Go.Lib in
theorem Tryz.strconv_Itoa (n : Int) (h0 : -9223372036854775808 ≤ n) (h1 : n ≤ 9223372036854775807) (w : World) (htab : Lib.TabIs Tryz.prog w "internal/strconv.uint64pow10" .u64 Lib.pow10Tab) :
  Calls Tryz.prog 91 #[.int .i64 n] w fun e w' => e = .returned (.string ⟨(Lib.itoa n).toArray⟩) ∧ ∃ k os, w' = grow (w.drewN k) os := Any.strconv_Itoa Tryz.laysM171 n h0 h1 w htab
def Tryz.lays170_ren : Go.Shelf.Ren := ⟨fun | 170 => 55 | n => n, fun | 70 => 89 | 3 => 3 | 0 => 0 | 72 => 91 | 37 => 51 | 5 => 5 | n => n, fun | n => n⟩
theorem Tryz.lays170 : Go.Proofs.Lays.n170 Tryz.prog Tryz.lays170_ren := {
 mixed := by kernel_rfl
 f170 := Tryz.func55.trans (congrArg some (by kernel_rfl))
 t0 := Tryz.underlying0
 a0 := Tryz.isAgg0
 z0 := Tryz.sizeOf0
 v0 := Tryz.zeroValue0
 t3 := Tryz.underlying3
 a3 := Tryz.isAgg3
 z3 := Tryz.sizeOf3
 v3 := Tryz.zeroValue3
 t37 := Tryz.underlying51
 a37 := Tryz.isAgg51
 z37 := Tryz.sizeOf51
 v37 := Tryz.zeroValue51
 t70 := Tryz.underlying89
 a70 := Tryz.isAgg89
 z70 := Tryz.sizeOf89
 v70 := Tryz.zeroValue89
 t72 := Tryz.underlying91
 a72 := Tryz.isAgg91
 z72 := Tryz.sizeOf91
 v72 := Tryz.zeroValue91 }
open Go.RowKit in
theorem Tryz.Builder_Len (B b : Nat) (bs : List Value) (w : World) (h : Lib.IsBuilder 91 5 B b bs w) :
  Calls Tryz.prog 55 #[.pointer (some ⟨b, 0, none⟩)] w fun e w' => e = .returned (.int .i64 bs.length) ∧ w' = w := Any.Builder_Len Tryz.lays170 B b bs w h
def Tryz.lays169_ren : Go.Shelf.Ren := ⟨fun | 169 => 56 | n => n, fun | 70 => 89 | 9 => 9 | 0 => 0 | 72 => 91 | 37 => 51 | 127 => 137 | 3 => 3 | 5 => 5 | n => n, fun | n => n⟩
theorem Tryz.lays169 : Go.Proofs.Lays.n169 Tryz.prog Tryz.lays169_ren := {
 mixed := by kernel_rfl
 f169 := Tryz.func56.trans (congrArg some (by kernel_rfl))
 t0 := Tryz.underlying0
 a0 := Tryz.isAgg0
 z0 := Tryz.sizeOf0
 v0 := Tryz.zeroValue0
 t3 := Tryz.underlying3
 a3 := Tryz.isAgg3
 z3 := Tryz.sizeOf3
 v3 := Tryz.zeroValue3
 t9 := Tryz.underlying9
 a9 := Tryz.isAgg9
 z9 := Tryz.sizeOf9
 v9 := Tryz.zeroValue9
 t37 := Tryz.underlying51
 a37 := Tryz.isAgg51
 z37 := Tryz.sizeOf51
 v37 := Tryz.zeroValue51
 t70 := Tryz.underlying89
 a70 := Tryz.isAgg89
 z70 := Tryz.sizeOf89
 v70 := Tryz.zeroValue89
 t72 := Tryz.underlying91
 a72 := Tryz.isAgg91
 z72 := Tryz.sizeOf91
 v72 := Tryz.zeroValue91
 t127 := Tryz.underlying137
 a127 := Tryz.isAgg137
 z127 := Tryz.sizeOf137
 v127 := Tryz.zeroValue137 }
theorem Tryz.Builder_Extra_169 : Builder.Extra Tryz.prog Tryz.lays169_ren := {
 sizeBuilder := by kernel_rfl
 liesBuilder := by kernel_rfl
 t5 := Tryz.underlying5
 a5 := Tryz.isAgg5
 z5 := Tryz.sizeOf5
 v5 := Tryz.zeroValue5
 infoByte := by kernel_rfl
 cellsByte := by kernel_rfl
 sizeByte := by kernel_rfl
 neB5 := by decide }
open Go.RowKit in
theorem Tryz.Builder_String_any (B b : Nat) (l : List UInt8) (w : World) (h : Lib.IsBuilder 91 5 B b (Lib.byteCells l) w) (hBw : B ≤ w.heap.size) :
  Calls Tryz.prog 56 #[.pointer (some ⟨b, 0, none⟩)] w fun e w' => e = .returned (.string ⟨l.toArray⟩) ∧ Below B w w' := Any.Builder_String_any Tryz.lays169 Tryz.Builder_Extra_169 B b l w h hBw
end Go.Proofs
