/- Texts of this proof, part 11: what the proof uses of them. -/
import Derived.Test.YtnjedgpidalioaaGreatDoorQaj
import Derived.Test.YtnjedgpidalioaaGreatDoorQah
import Derived.Test.YtnjedgpidalioaaGreatDoorQag
import Derived.Test.YtnjedgpidalioaaGreatDoorQae
import Derived.Test.YtnjedgpidalioaaGreatDoorQai
import Derived.Test.YtnjedgpidalioaaGreatDoorQaf
import Derived.Lib.ItoaNum
import Derived.Lib.ItoaLen
import Derived.Shelf.Strings.Builder1
import Derived.Shelf.Small.Strs
import Derived.Shelf.Small.Wraps
import Derived.Shelf.Strings.BuilderF
import Derived.Shelf.Strings.BuilderK
import Derived.Shelf.Strconv.Itoa0
import Derived.Shelf.Strconv.Itoa1
import Derived.Shelf.LaysM
import Derived.Shelf.Strconv.Itoa2
import Derived.Shelf.Strconv.Itoa3
import Derived.Shelf.Strings.Search1
import Derived.Shelf.Strings.Search2
import Derived.Shelf.Strings.Search3
import Derived.Shelf.Strings.Shaped
import Derived.Shelf.Sort.Plain
import Derived.Shelf.Strings.LastIndex
import Derived.Shelf.Strings.Prefix
import Derived.Shelf.Unicode.DecodeSlow
import Derived.Shelf.Strings.BuilderCap
import Derived.Shelf.Slices.Turned
import Derived.Ground.Names2Prog
import Derived.Shelf.Slices.Clone
import Derived.Shelf.Slices.In.SortNone
import Derived.Ground.SlgnProg
import Derived.Shelf.SlicesE.Clone
import Derived.Test.YtnjedgpidalioaaGreatDoorProg
import Derived.Lib.Builder
import Derived.Lib.AppendStr
import Derived.Lib.UnsafeStr
import Derived.WalkKit
import Derived.Laws.Externs
import Derived.Lib.Hide
namespace Go.Proofs.YtnjedgpidalioaaGreatDoor
section
section
open Go.RowKit Go.Shelf
attribute [local go_sem] Oper.semAt_some
theorem two_marks {w : World} {E : Array Value} {res n : Int} {W : World} {D D2 : Nat} (h : CkFrame w E res n W) (h2 : W.heap[D2]? = some (.deferred (some []))) (h1 : W.heap[D]? = some (.deferred (some []))) (hne : D ≠ D2) (hw2 : w.heap.size ≤ D2) (hw1 : w.heap.size ≤ D) :
  (W.putObj D2 (.deferred none)).heap[D]? = some (.deferred (some [])) ∧ ((W.putObj D2 (.deferred none)).putObj D (.deferred none)).cell? ⟨w.heap.size + 1, 0, none⟩ = some (.int .i64 res) ∧ Below w.heap.size w ((W.putObj D2 (.deferred none)).putObj D (.deferred none)) := by
 have q : (W.putObj D2 (.deferred none)).heap[D]? = some (.deferred (some [])) := (World.putObj_heap_other hne).trans h1
 refine ⟨q, ?_, ?_⟩
 ·have c1 := cell_kept (cell_of_one h.r) (grownBy_putObj' W D2 (.deferred none)) (fun r e => by cases e; exact ⟨_, h2, rfl⟩)
  exact cell_kept c1 (grownBy_putObj' _ D (.deferred none)) (fun r e => by cases e; exact ⟨_, q, rfl⟩)
 ·exact (h.below.trans (belowK_b (w := w) (Nat.le_refl _) W D2 _ _ hw2 h2 rfl rfl)).trans (belowK_b (w := w) (Nat.le_refl _) _ D _ _ hw1 q rfl rfl)
set_option maxRecDepth 100000 in
set_option maxHeartbeats 4000000 in
theorem sCheckExpr_any (k : Int) (nm mr : ByteArray) (it d : Int) (sub : List Ex) (sv : Value) (w : World) (hm : nodesL sub ≤ 1048576) (hs : SubAt w w.heap.size sub sv) :
  Calls Tryz.prog 83 #[.agg #[.int .i64 k, .string nm, .string mr, .int .i64 it, .int .i64 d, sv]] w fun e w' => e = .returned (.int .i64 (checkX (.mk k nm mr it d sub))) ∧ Below w.heap.size w w' := by
 obtain ⟨p, cap, rfl, hcap, _⟩ := subAt_open hs
 refine (callsIn_wide (n := 4)).1 ?_
 refine callsIn_of_wp_marks Tryz.func83 rfl trivial ?_ rfl
 simp only [Tryz.ntmps83, List.size_toArray, List.length_cons, List.length_nil, Nat.reduceAdd, Nat.reduceSub, Array.replicate_succ, Array.replicate_zero, List.push_toArray, List.append_toArray, List.nil_append, List.cons_append]
 gi_wp2_with (first | (refine ⟨trivial, ?_⟩; gi_at_call 132; refine (callsIn_wide.2 (snodes_any _ _ _ _ _ _ _ _ _)).mono ?_; rintro e w' ⟨rfl, rfl⟩))
 have HS := Lib.hid hs
 obtain ⟨V, hV⟩ : ∃ V, ((((w.alloc (Obj.cells #[.int .i64 k, .string nm, .string mr, .int .i64 it, .int .i64 d, .slice p sub.length cap] 98)).alloc (Obj.cells #[Value.int IntKind.i64 0] 31)).alloc (Obj.cells #[Value.int IntKind.i64 0] 3)).alloc (Obj.cells #[.int .i64 k, .string nm, .string mr, .int .i64 it, .int .i64 d, .slice p sub.length cap] 98)) = V := ⟨_, rfl⟩
 obtain ⟨hF, hb4, hz⟩ := ck_start w 98 31 3 #[.int .i64 k, .string nm, .string mr, .int .i64 it, .int .i64 d, .slice p sub.length cap] V hV
 rw [hV]
 clear hV hs
 refine wpIn_rangeFunc_R (P := Tryz.prog) (F := Fence.wide) (n := 4) rfl (by omega) (gf := 166) (lb := #[.pointer (some ⟨w.heap.size + 1 + 1 + 1, 0, none⟩)]) rfl trivial (enters_of Tryz.func166 (by kernel_rfl) rfl)
  (encs := fun x : ItN => #[.int .i64 x.1, valN x]) (Kp := KeepOut w.heap.size (w.heap.size + 1 + 1 + 1)) (R := ItStep (V.heap.size + 1 + 1)) (X := fun _ x => ExAt w w.heap.size x.2.1 (valN x))
  (S := NodesAll (.mk k nm mr it d sub)) (Sp := NodesPre (.mk k nm mr it d sub))
  (fun r l J Jx hJ _ hY hJ0 => nodes1_in 3 l (w.heap.size + 1 + 1 + 1) w.heap.size (w.heap.size + 1 + 1 + 1) (by omega) k nm mr it d sub p cap w _ HS.out (sameLow_below ((hF.below.alloc (by omega) _).alloc (by simp; omega) _)) (by omega) (Nat.le_refl _)
   ((Below.heap_alloc _ _ _ (by simp; omega)).trans ((Below.heap_alloc _ _ _ (by omega)).trans hb4)) hm J Jx (fun pre A B h1 h2 => hJ pre A B h1 (by simpa using h2)) hY hJ0)
  (fun h1 h2 => h1.trans h2) (fun W l o o' _ hl ho => KeepOut.putObj W l o o' hl ho) (fun h => h.others.from _) (fun _ => rfl)
  (Ck1 w #[.int .i64 k, .string nm, .string mr, .int .i64 it, .int .i64 d, .slice p sub.length cap]) (Ck1x w #[.int .i64 k, .string nm, .string mr, .int .i64 it, .int .i64 d, .slice p sub.length cap]) (ck1_own w _ _ (by omega)) (fun c => ck1x_own w _ c _ (by omega))
  (fun pre A B h hs => ⟨h.1.step hs (by omega), h.2⟩) (fun c pre A B h hs => ⟨h.1, ⟨_, h.2.1.choose_spec.step hs (by omega)⟩, h.2.2⟩) ⟨hF, by simp, by simp⟩
  (fun x => { tmps := #[Value.agg #[.int .i64 k, .string nm, .string mr, .int .i64 it, .int .i64 d, .slice p sub.length cap], Value.pointer (some { block := w.heap.size, off := 0 }), Value.pointer (some { block := w.heap.size + 1, off := 0 }), Value.pointer (some { block := w.heap.size + 1 + 1, off := 0 }), Value.int .i64 x.1, undef, undef, undef,
        Value.agg #[.int .i64 k, .string nm, .string mr, .int .i64 it, .int .i64 d, .slice p sub.length cap], Value.func (Fn.func 166) #[] #[Value.pointer (some { block := w.heap.size + 1 + 1 + 1, off := 0 })], Value.int .i64 x.1, valN x, undef, undef, undef, undef, undef, undef, undef, undef, undef, undef, undef, undef, undef, undef, undef, undef, undef], defers := [] }) ?assign ?body ?done ?stop
 case assign =>
  intro l x W K hK
  gi_wp2
  exact hK
 case body =>
  rintro l pre x W hI -
  have c0 := cell_of_one hI.1.c
  have f0 := free_of_one hI.1.c
  have c1 := cell_of_one hI.1.r
  have f1 := free_of_one hI.1.r
  have hle := hI.2.1
  have HI := Lib.hid hI
  clear hI
  have hsz := HI.out.1.size
  by_cases hgt : 400 < pre.length + 1
  ·have hd : decide (400 < (pre.length : Int) + 1) = true := by simp; omega
   gi_wp2_with fail
   refine ⟨((KeepsOthers.setCell _ _ _).trans (KeepsOthers.setCell _ _ _)).from _, rfl, ⟨_, (HI.out.1.setCnt _).setRes 4⟩, .inl (by simp; omega)⟩
  ·have hd : decide (400 < (pre.length : Int) + 1) = false := by simp; omega
   by_cases hx : 40 < x.1
   ·have hd2 : decide (40 < (x.1 : Int)) = true := by simp; omega
    gi_wp2_with fail
    refine ⟨((KeepsOthers.setCell _ _ _).trans (KeepsOthers.setCell _ _ _)).from _, rfl, ⟨_, (HI.out.1.setCnt _).setRes 4⟩, .inr ⟨x, by simp, hx⟩⟩
   ·have hd2 : decide (40 < (x.1 : Int)) = false := by simp; omega
    gi_wp2_with fail
    have hF' := HI.out.1.setCnt ((pre.length : Int) + 1)
    refine ⟨(KeepsOthers.setCell _ _ _).from _, (KeepOut.below (Below.refl _ _)).setCell (p := ⟨w.heap.size + 1 + 1, 0, none⟩) (by simp; omega) _, ?_, by simp; omega, ?_⟩
    ·have e1 : ((pre ++ [x]).length : Int) = (pre.length : Int) + 1 := by simp
     rw [e1]; exact hF'
    ·intro z hz
     rcases List.mem_append.1 hz with h | h
     ·exact HI.out.2.2 z h
     ·simp at h; subst h; omega
 case done =>
  rintro D xs W hD hS hI hK
  obtain ⟨hg1, hg2⟩ := limit_good hS hI.2.1 hI.2.2
  have HX := Lib.hid (checkX_good hg1 hg2)
  have hF2 := hI.1
  have hW2 : w.heap.size + 1 + 1 + 1 + 1 ≤ W.heap.size := hF2.size
  clear hI hg1 hg2 hS
  have hcell : ∀ i (h : i < 6), W.cell? ⟨w.heap.size, i, none⟩ = some (#[.int .i64 k, .string nm, .string mr, .int .i64 it, .int .i64 d, .slice p sub.length cap][i]'h) := fun i h => by simp [World.cell?, hF2.e]
  have c0 : W.cell? ⟨w.heap.size, 0, none⟩ = some (.int .i64 k) := hcell 0 (by omega)
  have c1 : W.cell? ⟨w.heap.size, 1, none⟩ = some (.string nm) := hcell 1 (by omega)
  have c2 : W.cell? ⟨w.heap.size, 2, none⟩ = some (.string mr) := hcell 2 (by omega)
  have c3 : W.cell? ⟨w.heap.size, 3, none⟩ = some (.int .i64 it) := hcell 3 (by omega)
  have c4 : W.cell? ⟨w.heap.size, 4, none⟩ = some (.int .i64 d) := hcell 4 (by omega)
  have c5 : W.cell? ⟨w.heap.size, 5, none⟩ = some (.slice p sub.length cap) := hcell 5 (by omega)
  clear hcell
  gi_wp2_with (first | (refine ⟨trivial, ?_⟩; gi_at_call 132; refine (callsIn_wide.2 (snodes_any _ _ _ _ _ _ _ _ _)).mono ?_; rintro e w' ⟨rfl, rfl⟩))
  obtain ⟨V2, hV2⟩ : ∃ V2, W.alloc (.cells #[.int .i64 k, .string nm, .string mr, .int .i64 it, .int .i64 d, .slice p sub.length cap] 98) = V2 := ⟨_, rfl⟩
  have hF3 : CkFrame w #[.int .i64 k, .string nm, .string mr, .int .i64 it, .int .i64 d, .slice p sub.length cap] 0 xs.length V2 := by rw [← hV2]; exact hF2.kept ((Below.refl _ _).alloc (Nat.le_refl _) _)
  have hb5 : V2.heap[W.heap.size]? = some (.cells #[.int .i64 k, .string nm, .string mr, .int .i64 it, .int .i64 d, .slice p sub.length cap] 98 (0, 0)) := by rw [← hV2]; exact World.alloc_heap_new W _
  have hz2 : V2.heap.size = W.heap.size + 1 := by rw [← hV2]; simp
  have hDW := (Array.getElem?_eq_some_iff.1 hK).1
  have hK2 : V2.heap[D]? = some (.deferred (some [])) := by rw [← hV2]; exact (Below.heap_alloc _ _ _ hDW).trans hK
  rw [hV2]
  clear hV2 c0 c1 c2 c3 c4 c5
  refine wpIn_rangeFunc_A (P := Tryz.prog) (F := Fence.wide) (n := 4) rfl (by omega) (gf := 166) (lb := #[.pointer (some ⟨W.heap.size, 0, none⟩)]) rfl trivial (enters_of Tryz.func166 (by kernel_rfl) rfl)
   (encs := fun x : ItN => #[.int .i64 x.1, valN x]) (Kp := KeepOut w.heap.size (w.heap.size + 1 + 1 + 1)) (R := ItStep (V2.heap.size + 1 + 1)) (X := fun _ x => ExAt w w.heap.size x.2.1 (valN x))
   (S := NodesAll (.mk k nm mr it d sub)) (Sp := NodesPre (.mk k nm mr it d sub))
   (fun r l J Jx hJ _ hY hJ0 => nodes1_in 3 l W.heap.size w.heap.size (w.heap.size + 1 + 1 + 1) (by omega) k nm mr it d sub p cap w _ HS.out (sameLow_below ((hF3.below.alloc (by omega) _).alloc (by simp; omega) _)) (by omega) (by omega)
    ((Below.heap_alloc _ _ _ (by simp; omega)).trans ((Below.heap_alloc _ _ _ (by omega)).trans hb5)) hm J Jx (fun pre A B h1 h2 => hJ pre A B h1 (by simpa using h2)) hY hJ0)
   (fun h1 h2 => h1.trans h2) (fun W l o o' _ hl ho => KeepOut.putObj W l o o' hl ho) (fun h => h.others.from _) (fun _ => rfl)
   (Ck2 w #[.int .i64 k, .string nm, .string mr, .int .i64 it, .int .i64 d, .slice p sub.length cap] D) (Ck2x w #[.int .i64 k, .string nm, .string mr, .int .i64 it, .int .i64 d, .slice p sub.length cap] D) (ck2_own w _ _ _ (by omega) (by omega)) (fun c => ck2x_own w _ _ c _ (by omega) (by omega))
   (fun pre A B h hs => ⟨⟨_, h.1.choose_spec.step hs (by omega)⟩, h.2.1, hs.others.same _ _ h.2.2 rfl⟩) (fun c pre A B h hs => by
    obtain ⟨h1, err, n, h2, h3, h4, h5⟩ := h
    exact ⟨h1, err, n, h2.step hs (by omega), h3, h4, hs.others.same _ _ h5 rfl⟩) ⟨⟨_, hF3⟩, rfl, hK2⟩
   (fun x b => { tmps := #[Value.agg #[.int .i64 k, .string nm, .string mr, .int .i64 it, .int .i64 d, .slice p sub.length cap], Value.pointer (some { block := w.heap.size, off := 0 }), Value.pointer (some { block := w.heap.size + 1, off := 0 }), Value.pointer (some { block := w.heap.size + 1 + 1, off := 0 }), undef, undef, Value.pointer (some { block := b, off := 0 }), undef,
         Value.agg #[.int .i64 k, .string nm, .string mr, .int .i64 it, .int .i64 d, .slice p sub.length cap], Value.func (Fn.func 166) #[] #[Value.pointer (some { block := w.heap.size + 1 + 1 + 1, off := 0 })], undef, undef, undef, undef, undef, undef, undef, undef, undef, undef, Value.agg #[.int .i64 k, .string nm, .string mr, .int .i64 it, .int .i64 d, .slice p sub.length cap], Value.func (Fn.func 166) #[] #[Value.pointer (some { block := W.heap.size, off := 0 })], Value.int .i64 x.1, valN x, undef, undef, undef, undef, undef], defers := [] })
   (fun x => .cells #[.int .i64 x.2.1.kind, .string x.2.1.name, .string x.2.1.more, .int .i64 x.2.1.int, .int .i64 x.2.1.den, .slice x.2.2.1 x.2.1.sub.length x.2.2.2] 98) (fun W o => KeepOut.below ((Below.refl _ _).alloc (Nat.le_refl _) _)) ?assign2 ?body2 ?done2 ?stop2
  case assign2 =>
   intro l x W K hK
   gi_wp2
   exact hK
  case body2 =>
   rintro l pre x b W5 hI - hbx hbV
   obtain ⟨⟨n5, hF5⟩, hfe, hD5⟩ := hI
   have cr := cell_of_one hF5.r
   have fr := free_of_one hF5.r
   have g0 : W5.cell? ⟨b, 0, none⟩ = some (.int .i64 x.2.1.kind) := by simp [World.cell?, hbx]
   have g1 : W5.cell? ⟨b, 1, none⟩ = some (.string x.2.1.name) := by simp [World.cell?, hbx]
   have g2 : W5.cell? ⟨b, 2, none⟩ = some (.string x.2.1.more) := by simp [World.cell?, hbx]
   have g3 : W5.cell? ⟨b, 3, none⟩ = some (.int .i64 x.2.1.int) := by simp [World.cell?, hbx]
   have g4 : W5.cell? ⟨b, 4, none⟩ = some (.int .i64 x.2.1.den) := by simp [World.cell?, hbx]
   have g5 : W5.cell? ⟨b, 5, none⟩ = some (.slice x.2.2.1 x.2.1.sub.length x.2.2.2) := by simp [World.cell?, hbx]
   have HF5 := Lib.hid hF5
   have HFE := Lib.hid hfe
   have HD5 := Lib.hid hD5
   have hs5 := hF5.size
   have HC := Lib.hid (scheckNode_any x.2.1.kind x.2.1.name x.2.1.more x.2.1.int x.2.1.den x.2.2.1 x.2.1.sub.length x.2.2.2 W5)
   obtain ⟨err, herr⟩ : ∃ err, checkN x.2.1.kind x.2.1.name x.2.1.more x.2.1.int x.2.1.den x.2.1.sub.length = err := ⟨_, rfl⟩
   rw [herr] at HC
   have HER : Hid (nodeErr x.2.1 = err) := Lib.hid herr
   clear hF5 hfe hD5 hbx herr
   by_cases hz5 : err = 0
   ·subst hz5
    gi_wp2_with (first | (refine ⟨trivial, ?_⟩; gi_at_call 133; refine (CallsIn.inRound l (callsIn_wide.2 HC.out)).mono ?_; rintro e w' ⟨rfl, hb⟩; have HB := Lib.hid hb; clear hb))
    refine ⟨(keepsOthers_below HB.out).from _, KeepOut.below HB.out, ⟨_, HF5.out.kept HB.out⟩, ?_, (HB.out.block _ (Array.getElem?_eq_some_iff.1 HD5.out).1).trans HD5.out⟩
    rw [List.map_append, firstErr_append, if_pos HFE.out]
    simp only [List.map_cons, List.map_nil, projN, firstErr, HER.out, if_true]
   ·have hz6 : (err != 0) = true := by simpa using hz5
    gi_wp2_with (first | (refine ⟨trivial, ?_⟩; gi_at_call 133; refine (CallsIn.inRound l (callsIn_wide.2 HC.out)).mono ?_; rintro e w' ⟨rfl, hb⟩; have cr' := (hb.cell (p := ⟨w.heap.size + 1, 0, none⟩) (by show w.heap.size + 1 < _; omega)).trans cr; have fr' := (hb.frozen (p := ⟨w.heap.size + 1, 0, none⟩) (by show w.heap.size + 1 < _; omega)).trans fr; have HB := Lib.hid hb; clear hb))
    refine ⟨((keepsOthers_below HB.out).trans (KeepsOthers.setCell _ _ _)).from _, rfl, err, _, (HF5.out.kept HB.out).setRes err, hz5, ?_, (KeepsOthers.setCell _ _ _).same _ _ ((HB.out.block _ (Array.getElem?_eq_some_iff.1 HD5.out).1).trans HD5.out) rfl⟩
    rw [List.map_append, firstErr_append, if_pos HFE.out]
    simp only [List.map_cons, List.map_nil, projN, firstErr, HER.out, if_neg hz5]
  case done2 =>
   rintro D2 ys W6 hD2 hS2 ⟨⟨n6, hF6⟩, hfe, hD6⟩ hK6
   have hch : checkE (.mk k nm mr it d sub) = 0 := by rw [checkE_first 1, ← (show _ = _ from hS2)]; exact hfe
   have cr := cell_of_one hF6.r
   have fr := free_of_one hF6.r
   have HF6 := Lib.hid hF6
   have HCH := Lib.hid hch
   clear hF6 hch
   gi_wp2_with fail
   have hF7 := HF6.out.setRes 0
   have hK7 := (KeepsOthers.setCell W6 ⟨w.heap.size + 1, 0, none⟩ (.int .i64 0)).same D2 _ hK6 rfl
   have hD7 := (KeepsOthers.setCell W6 ⟨w.heap.size + 1, 0, none⟩ (.int .i64 0)).same D _ hD6 rfl
   generalize W6.setCell ⟨w.heap.size + 1, 0, none⟩ (.int .i64 0) = W7 at *
   obtain ⟨hx1, hx2, hx3⟩ := two_marks hF7 hK7 hD7 (by omega) (by omega) (by omega)
   refine ⟨by simp, .inl ⟨_, _, rfl, run_takeDeferred hK7, ⟨by simp, .inl ⟨_, _, rfl, run_takeDeferred hx1, ?_⟩⟩⟩⟩
   refine ⟨.int .i64 0, ?_, ret_intE (a := 0) (by rw [HX.out, HCH.out]), hx3⟩
   simp [results, Tryz.f83, go_sem, hx2]
  case stop2 =>
   rintro D2 c pre W6 hD2 hpre ⟨rfl, err, n6, hF6, hne, hfe, hD6⟩ hK6
   have hch : checkE (.mk k nm mr it d sub) = err := by
    obtain ⟨rest, hr⟩ := hpre
    rw [checkE_first 1, ← hr, firstErr_append, hfe, if_neg hne]
   gi_wp2_with fail
   obtain ⟨hx1, hx2, hx3⟩ := two_marks hF6 hK6 hD6 (by omega) (by omega) (by omega)
   refine ⟨by simp, .inl ⟨_, _, rfl, run_takeDeferred hK6, ⟨by simp, .inl ⟨_, _, rfl, run_takeDeferred hx1, ?_⟩⟩⟩⟩
   refine ⟨.int .i64 err, ?_, ret_intE (a := err) (by rw [HX.out, hch]), hx3⟩
   simp [results, Tryz.f83, go_sem, hx2]
 case stop =>
  rintro D c pre W hD hpre ⟨rfl, ⟨n, hF2⟩, hbad⟩ hK
  have HX := Lib.hid (limit_bad hpre hbad)
  gi_wp2_with fail
  refine ⟨by simp, .inl ⟨_, _, rfl, run_takeDeferred hK, ?_⟩⟩
  have hc5 := cell_kept (cell_of_one hF2.r) (grownBy_putObj' _ D (.deferred none)) (fun r e => by cases e; exact ⟨_, hK, rfl⟩)
  refine ⟨.int .i64 4, ?_, ret_intE (a := 4) HX.out.symm, hF2.below.trans (belowK_b (w := w) (Nat.le_refl _) W D _ _ (by omega) hK rfl rfl)⟩
  simp [results, Tryz.f83, go_sem, hc5]
end
end
section
open Go Go.RowKit
mutual
def encE : Ex → List D
 | .mk k n m i d s => [.raw (.int .i64 k), .raw (.string n), .raw (.string m), .raw (.int .i64 i), .raw (.int .i64 d), .sl (encL s)]
def encL : List Ex → List (List D)
 | [] => []
 | e :: es => encE e :: encL es
end
theorem encE_eq (t : Ex) : encE t = [.raw (.int .i64 t.kind), .raw (.string t.name), .raw (.string t.more), .raw (.int .i64 t.int), .raw (.int .i64 t.den), .sl (encL t.sub)] := by cases t; rfl
theorem encL_length : ∀ l : List Ex, (encL l).length = l.length
 | [] => rfl
 | e :: es => by rw [encL]; simp [encL_length es]
theorem encE_length (t : Ex) : (encE t).length = 6 := by cases t; rfl
theorem encL_map : ∀ l : List Ex, encL l = l.map encE
 | [] => rfl
 | e :: es => by rw [encL, encL_map es]; rfl
theorem encL_getD (l : List Ex) (i : Nat) (h : i < l.length) : (encL l).getD i [] = encE l[i] := by
 rw [encL_map]; simp [List.getD_eq_getElem?_getD, h]
theorem encL_at (l : List Ex) (i : Nat) (h : i < l.length) : (encL l).getD i [] = [.raw (.int .i64 l[i].kind), .raw (.string l[i].name), .raw (.string l[i].more), .raw (.int .i64 l[i].int), .raw (.int .i64 l[i].den), .sl (encL l[i].sub)] := by
 rw [encL_getD l i h, encE_eq]
theorem encL_fit (l : List Ex) : rowsFit 6 (encL l) := by
 intro r hr
 rw [encL_map] at hr
 obtain ⟨t, _, rfl⟩ := List.mem_map.1 hr
 refine ⟨encE_length t, fun x hx => ?_⟩
 rw [encE_eq] at hx
 simp only [List.mem_cons, List.not_mem_nil, or_false] at hx
 rcases hx with rfl | rfl | rfl | rfl | rfl | rfl <;> rfl
theorem encL_set (l : List Ex) (i : Nat) (t : Ex) : (encL l).set i (encE t) = encL (l.set i t) := by
 rw [encL_map, encL_map, List.map_set]
theorem encL_append (a b : List Ex) : encL a ++ encL b = encL (a ++ b) := by simp [encL_map]
def avE (t : Ex) : AV := .agg ((encE t).map .d)
theorem avE_eq (t : Ex) : avE t = .agg [.d (.raw (.int .i64 t.kind)), .d (.raw (.string t.name)), .d (.raw (.string t.more)), .d (.raw (.int .i64 t.int)), .d (.raw (.int .i64 t.den)), .d (.sl (encL t.sub))] := by
 rw [avE, encE_eq]; rfl
end
section
open Go.RowKit
structure XV where
 k : Int
 n : ByteArray
 m : ByteArray
 i : Int
 d : Int
 p : Option Addr
 q : Nat
 c : Nat
abbrev XV.arr (x : XV) : Array Value := #[.int .i64 x.k, .string x.n, .string x.m, .int .i64 x.i, .int .i64 x.d, .slice x.p x.q x.c]
def XAt (w : World) (t : Ex) (x : XV) : Prop := ExAt w w.heap.size t (.agg x.arr)
theorem xAt_sub {w : World} {t : Ex} {x : XV} (h : XAt w t x) : x = ⟨t.kind, t.name, t.more, t.int, t.den, x.p, t.sub.length, x.c⟩ ∧ SubAt w w.heap.size t.sub (.slice x.p t.sub.length x.c) := by
 obtain ⟨sv, he, hs⟩ := exAt_iff.1 h
 obtain ⟨k, n, m, i, d, p, q, c⟩ := x
 obtain ⟨p', c', rfl, hc, hr⟩ := id hs
 simp only [XV.arr, Value.agg.injEq, Array.mk.injEq, List.cons.injEq, and_true, Value.int.injEq, Value.string.injEq, Value.slice.injEq, true_and] at he
 obtain ⟨rfl, rfl, rfl, rfl, rfl, rfl, rfl, rfl⟩ := he
 exact ⟨rfl, hs⟩
end
section
open Go Go.RowKit
theorem rowAt_mk {w : World} {B b : Nat} : ∀ (l : List Ex) (off : Nat), (∀ k (h : k < l.length), NodeAt w B b (off + k * 6) l[k]) → RowAt w B b off l
 | [], off, _ => by simp [RowAt]
 | e :: es, off, h => by
  rw [rowAt_cons]
  refine ⟨by have h0 := h 0 (by simp); rw [Nat.zero_mul, Nat.add_zero] at h0; exact h0, rowAt_mk es (off + 6) fun k hk => ?_⟩
  have := h (k + 1) (by simpa using hk)
  rw [show off + (k + 1) * 6 = off + 6 + k * 6 by omega] at this
  exact this
theorem reads_sub {w : World} {F : Nat → Nat → Prop} (hF : ∀ b o, F b o → b < w.heap.size) (N : Nat) : ∀ (sub : List Ex) (v : Value), nodesL sub < N → Reads w F (.sl (encL sub)) v → SubAt w w.heap.size sub v := by
 induction N with
 | zero => intro sub v h; omega
 | succ N ih =>
  intro sub v hN h
  obtain ⟨p, cap, rfl, hcap⟩ := h.slice
  rw [encL_length] at hcap h ⊢
  refine ⟨p, cap, rfl, hcap, fun hpos => ?_⟩
  have hlen := encL_length sub
  have hrow : ∀ k (hk : k < sub.length), (encL sub)[k]'(by omega) = encE sub[k] := fun k hk => by
   simp only [encL_map, List.getElem_map]
  obtain ⟨b, off, hp, h0⟩ := h.row 0 (by omega) (st := 6) (by rw [hrow 0 hpos]; exact encE_length _)
  have hb : b < w.heap.size := by
   obtain ⟨h1, _⟩ := h0 0 (by rw [hrow 0 hpos, encE_length]; omega)
   exact hF _ _ h1
  refine ⟨b, off, hp, hb, rowAt_mk sub off fun k hk => ?_⟩
  obtain ⟨b', off', hp', hk0⟩ := h.row k (by omega) (st := 6) (by rw [hrow k hk]; exact encE_length _)
  rw [hp] at hp'
  simp only [Option.some.injEq, Addr.mk.injEq, and_true] at hp'
  obtain ⟨rfl, rfl⟩ := hp'
  have hn := nodesL_get sub k hk
  rw [nodesE_eq] at hn
  have cell : ∀ j (hj : j < 6), ∃ u, w.cell? ⟨b, off + k * 6 + j, none⟩ = some u ∧ Reads w F ((encE sub[k])[j]'(by rw [encE_length]; exact hj)) u := fun j hj => by
   obtain ⟨_, u, h1, h2⟩ := hk0 j (by rw [hrow k hk, encE_length]; exact hj)
   refine ⟨u, h1, ?_⟩
   have e : ((encL sub)[k]'(by omega))[j]'(by rw [hrow k hk, encE_length]; exact hj) = (encE sub[k])[j]'(by rw [encE_length]; exact hj) := by simp only [hrow k hk]
   rw [← e]; exact h2
  have enc : ∀ j (hj : j < 6), (encE sub[k])[j]'(by rw [encE_length]; exact hj) = [D.raw (.int .i64 sub[k].kind), .raw (.string sub[k].name), .raw (.string sub[k].more), .raw (.int .i64 sub[k].int), .raw (.int .i64 sub[k].den), .sl (encL sub[k].sub)][j] := fun j hj => by
   simp only [encE_eq]
  obtain ⟨u0, a0, b0⟩ := cell 0 (by omega); rw [enc 0 (by omega)] at b0
  obtain ⟨u1, a1, b1⟩ := cell 1 (by omega); rw [enc 1 (by omega)] at b1
  obtain ⟨u2, a2, b2⟩ := cell 2 (by omega); rw [enc 2 (by omega)] at b2
  obtain ⟨u3, a3, b3⟩ := cell 3 (by omega); rw [enc 3 (by omega)] at b3
  obtain ⟨u4, a4, b4⟩ := cell 4 (by omega); rw [enc 4 (by omega)] at b4
  obtain ⟨u5, a5, b5⟩ := cell 5 (by omega); rw [enc 5 (by omega)] at b5
  obtain rfl := b0.raw_eq
  obtain rfl := b1.raw_eq
  obtain rfl := b2.raw_eq
  obtain rfl := b3.raw_eq
  obtain rfl := b4.raw_eq
  exact ⟨u5, a0, a1, a2, a3, a4, a5, ih _ _ (by omega) b5⟩
theorem avE_xAt {w : World} {F : Nat → Nat → Prop} {t : Ex} {v : Value} (hF : ∀ b o, F b o → b < w.heap.size) (h : HasC w F (avE t) v) : ∃ x : XV, v = .agg x.arr ∧ XAt w t x := by
 rw [avE_eq] at h
 unfold HasC at h
 generalize hcs : [AV.d (.raw (.int .i64 t.kind)), .d (.raw (.string t.name)), .d (.raw (.string t.more)), .d (.raw (.int .i64 t.int)), .d (.raw (.int .i64 t.den)), .d (.sl (encL t.sub))] = cs at h
 cases h with
 | agg _ vs hl hh =>
  subst hcs
  match vs, hl with
  | [v0, v1, v2, v3, v4, v5], _ =>
   have g0 := hh 0 (by simp) (by simp)
   have g1 := hh 1 (by simp) (by simp)
   have g2 := hh 2 (by simp) (by simp)
   have g3 := hh 3 (by simp) (by simp)
   have g4 := hh 4 (by simp) (by simp)
   have g5 := hh 5 (by simp) (by simp)
   obtain rfl : v0 = _ := g0.raw_eq
   obtain rfl : v1 = _ := g1.raw_eq
   obtain rfl : v2 = _ := g2.raw_eq
   obtain rfl : v3 = _ := g3.raw_eq
   obtain rfl : v4 = _ := g4.raw_eq
   have h5 : Reads w F (.sl (encL t.sub)) v5 := by
    simp only [List.getElem_cons_succ, List.getElem_cons_zero] at g5
    cases g5 with
    | d h => exact h
   have hs := reads_sub hF (nodesL t.sub + 1) t.sub v5 (by omega) h5
   obtain ⟨p, cap, rfl, hcap, hat⟩ := subAt_open hs
   exact ⟨⟨t.kind, t.name, t.more, t.int, t.den, p, t.sub.length, cap⟩, rfl, by
    unfold XAt
    rw [exAt_iff]
    exact ⟨_, rfl, hs⟩⟩
theorem con_e1 {P : Program} {f : FuncId} {t : Ex} {r : Value} (he : Enters P f) (h : ∀ (x : XV) (w : World), XAt w t x → Calls P f #[.agg x.arr] w fun e w' => e = .returned r ∧ Below w.heap.size w w') : Con P f [avE t] (.d (.raw r)) := by
 refine ⟨he, rfl, fun F w vs hF _ hl hv => ?_⟩
 match vs, hl with
 | [v], _ =>
  obtain ⟨x, rfl, hx⟩ := avE_xAt hF (hv 0 (by simp) (by simp))
  exact (h x w hx).mono fun e w' h' => ⟨r, h'.1, .d (.raw _), h'.2⟩
theorem con_e2 {P : Program} {f : FuncId} {t u : Ex} {r : Value} (he : Enters P f) (h : ∀ (x y : XV) (w : World), XAt w t x → XAt w u y → Calls P f #[.agg x.arr, .agg y.arr] w fun e w' => e = .returned r ∧ Below w.heap.size w w') : Con P f [avE t, avE u] (.d (.raw r)) := by
 refine ⟨he, rfl, fun F w vs hF _ hl hv => ?_⟩
 match vs, hl with
 | [v, v'], _ =>
  obtain ⟨x, rfl, hx⟩ := avE_xAt hF (hv 0 (by simp) (by simp))
  obtain ⟨y, rfl, hy⟩ := avE_xAt hF (hv 1 (by simp) (by simp))
  exact (h x y w hx hy).mono fun e w' h' => ⟨r, h'.1, .d (.raw _), h'.2⟩
end
section
open Go.RowKit
theorem rSame_x {a b : Ex} {xa xb : XV} {w : World} (ha : XAt w a xa) (hb : XAt w b xb) (hsz : nodesE a ≤ 1099511627776) :
  Calls Tryz.prog 177 #[.agg xa.arr, .agg xb.arr] w fun e w' => e = .returned (.bool (sameE a b)) ∧ Below w.heap.size w w' := by
 obtain ⟨ea, ha⟩ := xAt_sub ha
 obtain ⟨eb, hb⟩ := xAt_sub hb
 rw [ea, eb]
 rw [nodesE_eq] at hsz
 have h := rSame_any (nodesL a.sub + 1) a.kind a.name a.more a.int a.den a.sub _ b.kind b.name b.more b.int b.den b.sub _ w (by omega) (by omega) ha hb
 rw [Ex.eta, Ex.eta] at h
 exact h
theorem sCheckExpr_x {a : Ex} {xa : XV} {w : World} (ha : XAt w a xa) (hsz : nodesE a ≤ 1048576) :
  Calls Tryz.prog 83 #[.agg xa.arr] w fun e w' => e = .returned (.int .i64 (checkX a)) ∧ Below w.heap.size w w' := by
 obtain ⟨ea, ha⟩ := xAt_sub ha
 rw [ea]
 rw [nodesE_eq] at hsz
 have h := sCheckExpr_any a.kind a.name a.more a.int a.den a.sub _ w (by omega) ha
 rw [Ex.eta] at h
 exact h
theorem rGreat_x {a : Ex} {xa : XV} {w : World} (ha : XAt w a xa) (hsz : nodesE a ≤ 1048576) :
  Calls Tryz.prog 70 #[.agg xa.arr] w fun e w' => e = .returned (.bool (greatE a)) ∧ Below w.heap.size w w' := by
 obtain ⟨ea, ha⟩ := xAt_sub ha
 rw [ea]
 rw [nodesE_eq] at hsz
 have h := rGreat_any a.kind a.name a.more a.int a.den a.sub _ w (by omega) ha
 rw [Ex.eta] at h
 exact h
end
section
open Go Go.RowKit
theorem rSame_c (a b : Ex) (hsz : nodesE a ≤ 1099511627776) : Con Tryz.prog 177 [avE a, avE b] (.d (.raw (.bool (sameE a b)))) := con_e2 ⟨_, Tryz.func177, by decide +kernel, rfl⟩ fun _ _ _ hx hy => rSame_x hx hy hsz
theorem sCheckExpr_c (a : Ex) (hsz : nodesE a ≤ 1048576) : Con Tryz.prog 83 [avE a] (.d (.raw (.int .i64 (checkX a)))) := con_e1 ⟨_, Tryz.func83, by decide +kernel, rfl⟩ fun _ _ hx => sCheckExpr_x hx hsz
theorem rGreat_c (a : Ex) (hsz : nodesE a ≤ 1048576) : Con Tryz.prog 70 [avE a] (.d (.raw (.bool (greatE a)))) := con_e1 ⟨_, Tryz.func70, by decide +kernel, rfl⟩ fun _ _ hx => rGreat_x hx hsz
end
section
open Go Go.RowKit
def encS (l : List ByteArray) : List (List D) := l.map fun s => [.raw (.string s)]
theorem encS_length (l : List ByteArray) : (encS l).length = l.length := by simp [encS]
theorem encS_at (l : List ByteArray) (i : Nat) (h : i < l.length) : (encS l).getD i [] = [.raw (.string l[i])] := by
 simp [encS, List.getD_eq_getElem?_getD, h]
theorem encS_fit (l : List ByteArray) : rowsFit 1 (encS l) := by
 intro r hr
 obtain ⟨s, _, rfl⟩ := List.mem_map.1 hr
 exact ⟨rfl, fun x hx => by simp at hx; subst hx; rfl⟩
theorem encS_append (a b : List ByteArray) : encS a ++ encS b = encS (a ++ b) := by simp [encS]
theorem encS_take (l : List ByteArray) (n : Nat) : (encS l).take n = encS (l.take n) := by simp [encS]
theorem encS_row (l : List ByteArray) : ∀ r ∈ encS l, r.length = 1 := fun r hr => (encS_fit l r hr).1
def hasS (l : List ByteArray) (s : ByteArray) : Bool := l.any fun x => decide (x = s)
def sameS : List ByteArray → List ByteArray → Bool
 | [], [] => true
 | x :: xs, y :: ys => decide (x = y) && sameS xs ys
 | _, _ => false
theorem sameS_iff : ∀ a b : List ByteArray, sameS a b = true ↔ a = b
 | [], [] => by simp [sameS]
 | x :: xs, y :: ys => by simp only [sameS, Bool.and_eq_true, decide_eq_true_eq, sameS_iff xs ys, List.cons.injEq]
 | [], y :: ys => by simp [sameS]
 | x :: xs, [] => by simp [sameS]
theorem sameS_false {a b : List ByteArray} (h : a ≠ b) : sameS a b = false := by
 cases hc : sameS a b
 ·rfl
 ·exact absurd ((sameS_iff a b).1 hc) h
abbrev ssSt (l m : List ByteArray) (q : Nat) : St := ⟨[(0, .d (.sl (encS l))), (1, .d (.sl (encS m))), (5, .d (.raw (.int .i64 q)))], [], []⟩
set_option maxRecDepth 100000 in
set_option maxHeartbeats 4000000 in
theorem rSameStrings_c (l m : List ByteArray) (hl : l.length ≤ 1048576) : Con Tryz.prog 100 [.d (.sl (encS l)), .d (.sl (encS m))] (.d (.raw (.bool (sameS l m)))) := by
 refine con_of Tryz.func100 rfl (by decide +kernel) rfl rfl (by simp [Tryz.ntmps100]) fun A hA => ?_
 rw [Tryz.ntmps100] at hA
 refine goC 300 ?_
 by_cases hlm : l.length = m.length
 ·have g0 : (decide ¬ (l.length : Int) = (m.length : Int)) = false := decide_eq_false (by omega)
  simp only [go_sem, hA, encS_length, g0]
  refine satC_loop [0, 1, 5] [] [] (fun x σ => ∃ q : Nat, q ≤ l.length ∧ x = l.length - q ∧ l.take q = m.take q ∧ σ = ssSt l m q) l.length ⟨0, by omega, by omega, rfl, by simp only [go_sem, ssSt]⟩ ?_
  rintro x σ ⟨q, hq, rfl, hf, rfl⟩
  refine goC 300 ?_
  by_cases hlt : q < l.length
  ·have g1 : decide ((q : Int) < (l.length : Int)) = true := decide_eq_true (by omega)
   by_cases he : l[q] = m[q]
   ·have g2 : (decide ¬ l[q] = m[q]) = false := decide_eq_false (by simp [he])
    simp only [go_sem, hA, ssSt, encS_length, g1, Int.toNat_natCast, encS_at l q hlt, encS_at m q (by omega), g2, mixed]
    exact ⟨⟨by omega, by omega⟩, ⟨by omega, by omega⟩, by kernel_rfl, by unfold inI64; omega, l.length - (q + 1), by omega, q + 1, by omega, rfl, by rw [List.take_succ_eq_append_getElem hlt, List.take_succ_eq_append_getElem (show q < m.length by omega), hf, he], rfl⟩
   ·have g2 : (decide ¬ l[q] = m[q]) = true := decide_eq_true he
    have hne : sameS l m = false := sameS_false fun e => he (by simp [e])
    simp only [go_sem, hA, ssSt, encS_length, g1, Int.toNat_natCast, encS_at l q hlt, encS_at m q (by omega), g2, mixed, Tryz.results100, hne]
    exact ⟨⟨by omega, by omega⟩, ⟨by omega, by omega⟩, by kernel_rfl⟩
  ·have g1 : decide ((q : Int) < (l.length : Int)) = false := decide_eq_false (by omega)
   obtain rfl : q = l.length := by omega
   have he : l = m := by rw [List.take_length, List.take_of_length_le (by omega)] at hf; exact hf
   have hs : sameS l m = true := (sameS_iff _ _).2 he
   simp only [go_sem, hA, ssSt, encS_length, g1, Tryz.results100, hs]
 ·have g0 : (decide ¬ (l.length : Int) = (m.length : Int)) = true := decide_eq_true (by omega)
  have hne : sameS l m = false := sameS_false fun e => hlm (by rw [e])
  simp only [go_sem, hA, encS_length, g0, Tryz.results100, hne]
def ltS (a b : ByteArray) : Bool := Op.bytesLess a.data.toList b.data.toList
end
section
open Go Go.RowKit
mutual
def kindsE (k : Int) : Ex → Bool
 | .mk k' _ _ _ _ s => decide (k' = k) || kindsL k s
def kindsL (k : Int) : List Ex → Bool
 | [] => false
 | e :: es => kindsE k e || kindsL k es
end
abbrev cellsX (k : Int) (n m : ByteArray) (i d : Int) (s : List Ex) : List AV := [.d (.raw (.int .i64 k)), .d (.raw (.string n)), .d (.raw (.string m)), .d (.raw (.int .i64 i)), .d (.raw (.int .i64 d)), .d (.sl (encL s))]
end
section
open Go Go.RowKit
def itoaB (n : Int) : ByteArray := ⟨(Lib.itoa n).toArray⟩
end
section
open Go Go.RowKit
abbrev bs (l : List UInt8) : ByteArray := ⟨l.toArray⟩
def atB (l : List ByteArray) (i : Nat) : ByteArray := l.getD i ⟨#[]⟩
theorem encS_atB (l : List ByteArray) (i : Nat) (h : i < l.length) : (encS l).getD i [] = [.raw (.string (atB l i))] := by
 rw [encS_at l i h]
 simp [atB, List.getD_eq_getElem?_getD, h]
end
section
open Go Go.RowKit
end
end Go.Proofs.YtnjedgpidalioaaGreatDoor
namespace Go.Proofs
open Go.Shelf
def Tryz.lays110_ren : Go.Shelf.Ren := ⟨fun | 110 => 170 | 109 => 196 | n => n, fun | 31 => 43 | 9 => 9 | 4 => 4 | 3 => 3 | 0 => 0 | n => n, fun | n => n⟩
theorem Tryz.lays110 : Go.Proofs.Lays.n110 Tryz.prog Tryz.lays110_ren := {
 mixed := by kernel_rfl
 f109 := Tryz.func196.trans (congrArg some (by kernel_rfl))
 f110 := Tryz.func170.trans (congrArg some (by kernel_rfl))
 t0 := Tryz.underlying0
 a0 := Tryz.isAgg0
 z0 := Tryz.sizeOf0
 v0 := Tryz.zeroValue0
 t3 := Tryz.underlying3
 a3 := Tryz.isAgg3
 z3 := Tryz.sizeOf3
 v3 := Tryz.zeroValue3
 t4 := Tryz.underlying4
 a4 := Tryz.isAgg4
 z4 := Tryz.sizeOf4
 v4 := Tryz.zeroValue4
 t9 := Tryz.underlying9
 a9 := Tryz.isAgg9
 z9 := Tryz.sizeOf9
 v9 := Tryz.zeroValue9
 t31 := Tryz.underlying43
 a31 := Tryz.isAgg43
 z31 := Tryz.sizeOf43
 v31 := Tryz.zeroValue43 }
open Go.Lib in
theorem Tryz.slices_Contains_string (b off n c : Nat) (zs : List ByteArray) (x : ByteArray) (w : World) (hz : n ≤ zs.length) (hbig : n ≤ 9223372036854775807) (hc : ∀ j, j < zs.length → w.cell? ⟨b, off + j, none⟩ = some (.string (zs.getD j ByteArray.empty))) :
  Calls Tryz.prog 170 #[.slice (some ⟨b, off, none⟩) n c, .string x] w fun e w' => e = .returned (.bool (Lib.containsS (zs.take n) x)) ∧ w' = w := Any.slices_Contains_string Tryz.lays110 b off n c zs x w hz hbig hc
open Go.Lib in
theorem Tryz.slices_Contains_string_empty (a : Option Addr) (c : Nat) (x : ByteArray) (w : World) :
  Calls Tryz.prog 170 #[.slice a 0 c, .string x] w fun e w' => e = .returned (.bool false) ∧ w' = w := Any.slices_Contains_string_empty Tryz.lays110 a c x w
def Tryz.laysNm216_ren : Go.Shelf.Ren := ⟨fun | 16 => 171 | n => n, fun | 24 => 43 | 9 => 9 | 4 => 4 | n => n, fun | n => n⟩
theorem Tryz.laysNm216 : Go.Proofs.Lays2.n16 Tryz.prog Tryz.laysNm216_ren := {
 mixed := by kernel_rfl
 f16 := Tryz.func171.trans (congrArg some (by kernel_rfl))
 t4 := Tryz.underlying4
 a4 := Tryz.isAgg4
 z4 := Tryz.sizeOf4
 v4 := Tryz.zeroValue4
 t9 := Tryz.underlying9
 a9 := Tryz.isAgg9
 z9 := Tryz.sizeOf9
 v9 := Tryz.zeroValue9
 t24 := Tryz.underlying43
 a24 := Tryz.isAgg43
 z24 := Tryz.sizeOf43
 v24 := Tryz.zeroValue43
 i9 := by kernel_rfl }
open Go.RowKit Go.Lib in
theorem Tryz.slices_Clone_string (b off n c : Nat) (zs : List ByteArray) (w : World) (hz : n ≤ zs.length) (hbig : n * 16 ≤ 140737488355328) (hc : ∀ j, j < zs.length → w.cell? ⟨b, off + j, none⟩ = some (.string (zs.getD j ByteArray.empty))) :
  Calls Tryz.prog 171 #[.slice (some ⟨b, off, none⟩) n c] w fun e w' => ∃ v', e = .returned v' ∧ w'.ownsRow w.heap.size 9 1 v' n ((zs.take n).map (Value.string)) ∧ v' ≠ .slice none 0 0 ∧ Below w.heap.size w w' := Any.slices_Clone_string Tryz.laysNm216 b off n c zs w hz hbig hc
open Go.RowKit Go.Lib in
theorem Tryz.slices_Clone_string_nil (n c : Nat) (w : World) :
  Calls Tryz.prog 171 #[.slice none n c] w fun e w' => e = .returned (.slice none 0 0) ∧ w' = w := Any.slices_Clone_string_nil Tryz.laysNm216 n c w
open Go.RowKit Go.Lib in
theorem Tryz.slices_Clone_string_zero (a : Addr) (c : Nat) (w : World) :
  Calls Tryz.prog 171 #[.slice (some a) 0 c] w fun e w' => ∃ v', e = .returned v' ∧ w'.ownsRow w.heap.size 9 1 v' 0 [] ∧ v' ≠ .slice none 0 0 ∧ Below w.heap.size w w' := Any.slices_Clone_string_zero Tryz.laysNm216 a c w
def Tryz.laysM171_ren : Go.Shelf.Ren := ⟨fun | 171 => 98 | 243 => 145 | 246 => 176 | 283 => 208 | 284 => 209 | 285 => 210 | 286 => 211 | 129 => 207 | 317 => 237 | 318 => 238 | 319 => 239 | 320 => 240 | 337 => 246 | 338 => 247 | n => n, fun | 3 => 3 | 9 => 9 | 2 => 2 | 4 => 4 | 171 => 278 | 0 => 0 | 53 => 56 | 37 => 130 | 5 => 5 | 173 => 280 | 212 => 303 | 51 => 276 | 20 => 20 | 213 => 304 | 46 => 149 | 232 => 312 | 233 => 313 | n => n, fun | 17 => 3 | 18 => 4 | 19 => 5 | n => n⟩
theorem Tryz.laysM171 : Go.Proofs.LaysM.n171 Tryz.prog Tryz.laysM171_ren := {
 mixed := by kernel_rfl
 f129 := Tryz.func207.trans (congrArg some (by kernel_rfl))
 f171 := Tryz.func98.trans (congrArg some (by kernel_rfl))
 f243 := Tryz.func145.trans (congrArg some (by kernel_rfl))
 f246 := Tryz.func176.trans (congrArg some (by kernel_rfl))
 f283 := Tryz.func208.trans (congrArg some (by kernel_rfl))
 f284 := Tryz.func209.trans (congrArg some (by kernel_rfl))
 f285 := Tryz.func210.trans (congrArg some (by kernel_rfl))
 f286 := Tryz.func211.trans (congrArg some (by kernel_rfl))
 f317 := Tryz.func237.trans (congrArg some (by kernel_rfl))
 f318 := Tryz.func238.trans (congrArg some (by kernel_rfl))
 f319 := Tryz.func239.trans (congrArg some (by kernel_rfl))
 f320 := Tryz.func240.trans (congrArg some (by kernel_rfl))
 f337 := Tryz.func246.trans (congrArg some (by kernel_rfl))
 f338 := Tryz.func247.trans (congrArg some (by kernel_rfl))
 t0 := Tryz.underlying0
 a0 := Tryz.isAgg0
 z0 := Tryz.sizeOf0
 v0 := Tryz.zeroValue0
 t2 := Tryz.underlying2
 a2 := Tryz.isAgg2
 z2 := Tryz.sizeOf2
 v2 := Tryz.zeroValue2
 t3 := Tryz.underlying3
 a3 := Tryz.isAgg3
 z3 := Tryz.sizeOf3
 v3 := Tryz.zeroValue3
 t4 := Tryz.underlying4
 a4 := Tryz.isAgg4
 z4 := Tryz.sizeOf4
 v4 := Tryz.zeroValue4
 t5 := Tryz.underlying5
 a5 := Tryz.isAgg5
 z5 := Tryz.sizeOf5
 v5 := Tryz.zeroValue5
 t9 := Tryz.underlying9
 a9 := Tryz.isAgg9
 z9 := Tryz.sizeOf9
 v9 := Tryz.zeroValue9
 t20 := Tryz.underlying20
 a20 := Tryz.isAgg20
 z20 := Tryz.sizeOf20
 v20 := Tryz.zeroValue20
 t37 := Tryz.underlying130
 a37 := Tryz.isAgg130
 z37 := Tryz.sizeOf130
 v37 := Tryz.zeroValue130
 t46 := Tryz.underlying149
 a46 := Tryz.isAgg149
 z46 := Tryz.sizeOf149
 v46 := Tryz.zeroValue149
 t51 := Tryz.underlying276
 a51 := Tryz.isAgg276
 z51 := Tryz.sizeOf276
 v51 := Tryz.zeroValue276
 t53 := Tryz.underlying56
 a53 := Tryz.isAgg56
 z53 := Tryz.sizeOf56
 v53 := Tryz.zeroValue56
 t171 := Tryz.underlying278
 a171 := Tryz.isAgg278
 z171 := Tryz.sizeOf278
 v171 := Tryz.zeroValue278
 t173 := Tryz.underlying280
 a173 := Tryz.isAgg280
 z173 := Tryz.sizeOf280
 v173 := Tryz.zeroValue280
 t212 := Tryz.underlying303
 a212 := Tryz.isAgg303
 z212 := Tryz.sizeOf303
 v212 := Tryz.zeroValue303
 t213 := Tryz.underlying304
 a213 := Tryz.isAgg304
 z213 := Tryz.sizeOf304
 t232 := Tryz.underlying312
 a232 := Tryz.isAgg312
 z232 := Tryz.sizeOf312
 v232 := Tryz.zeroValue312
 t233 := Tryz.underlying313
 a233 := Tryz.isAgg313
 z233 := Tryz.sizeOf313
 v233 := Tryz.zeroValue313
 g17 := by kernel_rfl
 g18 := by kernel_rfl
 g19 := by kernel_rfl
 i0 := by kernel_rfl
 i2 := by kernel_rfl
 i3 := by kernel_rfl
 i4 := by kernel_rfl
 i5 := by kernel_rfl
 i9 := by kernel_rfl
 i20 := by kernel_rfl
 i37 := by kernel_rfl
 i46 := by kernel_rfl
 i51 := by kernel_rfl
 i53 := by kernel_rfl
 i171 := by kernel_rfl
 i173 := by kernel_rfl
 i212 := by kernel_rfl
 i232 := by kernel_rfl
 i233 := by kernel_rfl
 m17 := by kernel_rfl
 m18 := by kernel_rfl
 m19 := by kernel_rfl }
open Go.RowKit Go.Sort Go.Lib in
theorem Tryz.strconv_Itoa (n : Int) (h0 : -9223372036854775808 ≤ n) (h1 : n ≤ 9223372036854775807) (w : World) (htab : Lib.TabIs Tryz.prog w "internal/strconv.uint64pow10" .u64 Lib.pow10Tab) :
  Calls Tryz.prog 98 #[.int .i64 n] w fun e w' => e = .returned (.string ⟨(Lib.itoa n).toArray⟩) ∧ ∃ k os, w' = grow (w.drewN k) os := Any.strconv_Itoa Tryz.laysM171 n h0 h1 w htab
def Tryz.lays169_ren : Go.Shelf.Ren := ⟨fun | 169 => 75 | n => n, fun | 70 => 129 | 9 => 9 | 0 => 0 | 72 => 132 | 37 => 130 | 127 => 178 | 3 => 3 | 5 => 5 | n => n, fun | n => n⟩
theorem Tryz.lays169 : Go.Proofs.Lays.n169 Tryz.prog Tryz.lays169_ren := {
 mixed := by kernel_rfl
 f169 := Tryz.func75.trans (congrArg some (by kernel_rfl))
 t0 := Tryz.underlying0
 a0 := Tryz.isAgg0
 z0 := Tryz.sizeOf0
 v0 := Tryz.zeroValue0
 t3 := Tryz.underlying3
 a3 := Tryz.isAgg3
 z3 := Tryz.sizeOf3
 v3 := Tryz.zeroValue3
 t9 := Tryz.underlying9
 a9 := Tryz.isAgg9
 z9 := Tryz.sizeOf9
 v9 := Tryz.zeroValue9
 t37 := Tryz.underlying130
 a37 := Tryz.isAgg130
 z37 := Tryz.sizeOf130
 v37 := Tryz.zeroValue130
 t70 := Tryz.underlying129
 a70 := Tryz.isAgg129
 z70 := Tryz.sizeOf129
 v70 := Tryz.zeroValue129
 t72 := Tryz.underlying132
 a72 := Tryz.isAgg132
 z72 := Tryz.sizeOf132
 v72 := Tryz.zeroValue132
 t127 := Tryz.underlying178
 a127 := Tryz.isAgg178
 z127 := Tryz.sizeOf178
 v127 := Tryz.zeroValue178 }
theorem Tryz.Builder_Extra_169 : Builder.Extra Tryz.prog Tryz.lays169_ren := {
 sizeBuilder := by kernel_rfl
 liesBuilder := by kernel_rfl
 t5 := Tryz.underlying5
 a5 := Tryz.isAgg5
 z5 := Tryz.sizeOf5
 v5 := Tryz.zeroValue5
 infoByte := by kernel_rfl
 cellsByte := by kernel_rfl
 sizeByte := by kernel_rfl
 neB5 := by decide }
open Go.RowKit in
theorem Tryz.Builder_String_any (B b : Nat) (l : List UInt8) (w : World) (h : Lib.IsBuilder 132 5 B b (Lib.byteCells l) w) (hBw : B ≤ w.heap.size) :
  Calls Tryz.prog 75 #[.pointer (some ⟨b, 0, none⟩)] w fun e w' => e = .returned (.string ⟨l.toArray⟩) ∧ Below B w w' := Any.Builder_String_any Tryz.lays169 Tryz.Builder_Extra_169 B b l w h hBw
end Go.Proofs
namespace Go.Proofs.YtnjedgpidalioaaGreatDoor
section
open Go Go.RowKit
theorem reads_strs {w : World} {F : Nat → Nat → Prop} {l : List ByteArray} {v : Value} (h : Reads w F (.sl (encS l)) v) :
  (l = [] ∧ ∃ p cap, v = .slice p 0 cap) ∨ (0 < l.length ∧ ∃ b off cap, v = .slice (some ⟨b, off, none⟩) l.length cap ∧ l.length ≤ cap ∧ F b (off + 0 * 1 + 0) ∧ ∀ j, j < l.length → w.cell? ⟨b, off + j, none⟩ = some (.string (l.getD j ByteArray.empty))) := by
 obtain ⟨p, cap, rfl, hcap⟩ := h.slice
 rw [encS_length] at hcap h ⊢
 by_cases hz : l.length = 0
 ·left
  have : l = [] := List.eq_nil_of_length_eq_zero hz
  subst this
  exact ⟨rfl, p, cap, rfl⟩
 ·right
  have hrow : ∀ i (hi : i < l.length), (encS l)[i]'(by rw [encS_length]; exact hi) = [.raw (.string l[i])] := fun i hi => by simp [encS]
  have h0 := h.row 0 (by rw [encS_length]; omega) (st := 1) (by rw [hrow 0 (by omega)]; rfl)
  obtain ⟨b, off, rfl, hc0⟩ := h0
  refine ⟨by omega, b, off, cap, rfl, hcap, (hc0 0 (by rw [hrow 0 (by omega)]; exact Nat.one_pos)).1, fun j hj => ?_⟩
  obtain ⟨b', off', he, hcj⟩ := h.row j (by rw [encS_length]; omega) (st := 1) (by rw [hrow j hj]; rfl)
  obtain ⟨_, u, hu, hr⟩ := hcj 0 (by rw [hrow j hj]; exact Nat.one_pos)
  have hbb : b' = b ∧ off' = off := by
   injection he with he
   injection he with he1 he2
   exact ⟨he1.symm, he2.symm⟩
  obtain ⟨rfl, rfl⟩ := hbb
  have e : ((encS l)[j]'(by rw [encS_length]; exact hj))[0]'(by rw [hrow j hj]; exact Nat.one_pos) = .raw (.string l[j]) := by simp only [hrow j hj, List.getElem_cons_zero]
  rw [e] at hr
  rw [hr.raw_eq, Nat.mul_one, Nat.add_zero] at hu
  rw [hu]
  simp [List.getD_eq_getElem?_getD, hj]
abbrev keysS (fs : List ByteArray) : List Value := fs.map Value.string
abbrev truesS (fs : List ByteArray) : List AV := List.replicate fs.length (.d (.raw (.bool true)))
def addS (fs : List ByteArray) (s : ByteArray) : List ByteArray := if hasS fs s then fs else fs ++ [s]
theorem findIx_keys (s : ByteArray) : ∀ fs : List ByteArray, (findIx (.string s) (keysS fs)).isSome = hasS fs s
 | [] => rfl
 | f :: fs => by
  have ih := findIx_keys s fs
  simp only [keysS, List.map_cons, findIx, keyEq, hasS, List.any_cons]
  by_cases h : s = f
  ·subst h; simp
  ·have h' : ¬ f = s := fun e => h e.symm
   simp only [h, h', decide_false, Bool.false_eq_true, if_false, Option.isSome_map, Bool.false_or]
   exact ih
theorem findIx_lt (s : ByteArray) : ∀ (fs : List ByteArray) (i : Nat), findIx (.string s) (keysS fs) = some i → i < fs.length
 | [], i, h => by simp [keysS, findIx] at h
 | f :: fs, i, h => by
  simp only [keysS, List.map_cons, findIx] at h
  split at h
  ·cases h; simp
  ·cases hf : findIx (.string s) (keysS fs) with
   | none => rw [show List.map Value.string fs = keysS fs from rfl, hf] at h; cases h
   | some j =>
    rw [show List.map Value.string fs = keysS fs from rfl, hf] at h
    cases h
    have := findIx_lt s fs j hf
    simp; omega
theorem putK_str (fs : List ByteArray) (s : ByteArray) : putK (keysS fs) (.string s) = keysS (addS fs s) := by
 have h := findIx_keys s fs
 unfold putK addS
 cases hf : findIx (.string s) (keysS fs) with
 | none => rw [hf] at h; rw [← h]; simp [keysS]
 | some i => rw [hf] at h; rw [← h]; rfl
theorem putC_str (fs : List ByteArray) (s : ByteArray) : putC (keysS fs) (truesS fs) (.string s) (.d (.raw (.bool true))) = truesS (addS fs s) := by
 have h := findIx_keys s fs
 unfold putC addS
 cases hf : findIx (.string s) (keysS fs) with
 | none =>
  rw [hf] at h
  rw [← h]
  simp only [Option.isSome_none, Bool.false_eq_true, if_false, truesS, List.length_append, List.length_cons, List.length_nil, List.replicate_succ', Nat.zero_add]
 | some i =>
  rw [hf] at h
  rw [← h]
  simp only [Option.isSome_some, if_true]
  have := findIx_lt s fs i hf
  apply List.ext_getElem
  ·simp
  ·intro j h1 h2
   simp []
theorem keysS_fit (fs : List ByteArray) : (keysS fs).all (keyFit .string) = true := by
 rw [List.all_eq_true]
 intro x hx
 obtain ⟨s, _, rfl⟩ := List.mem_map.1 hx
 rfl
theorem truesS_closed (fs : List ByteArray) : closedL (truesS fs) = true := by
 unfold truesS
 induction fs.length with
 | zero => rfl
 | succ n ih => rw [List.replicate_succ, closedL, ih]; rfl
theorem mentL_rep (r n : Nat) : mentL r (List.replicate n (AV.d (D.raw (Value.bool true)))) = false := by
 induction n with
 | zero => rfl
 | succ n ih => rw [List.replicate_succ, mentL, ih]; rfl
end
section
open Go Go.RowKit
theorem below_grow (w : World) (k : Nat) (os : Array Obj) : Below w.heap.size w (Go.Sort.grow (w.drewN k) os) := by
 refine ⟨rfl, rfl, rfl, by simp [Go.Sort.grow, World.drewN], fun i hi => ?_⟩
 show (w.heap ++ os)[i]? = _
 rw [Array.getElem?_append_left hi]
theorem itoa_c (n : Int) (hn : inI64 n) : Con Tryz.prog 98 [.d (.raw (.int .i64 n))] (.d (.raw (.string (itoaB n)))) := by
 refine ⟨⟨_, Tryz.func98, by decide +kernel, rfl⟩, rfl, fun F w vs hF hG hl hv => ?_⟩
 match vs, hl with
 | [v], _ =>
  have h0 := hv 0 (by simp) (by simp)
  simp only [List.getElem_cons_zero] at h0
  unfold HasC at h0
  rw [h0.raw_eq]
  unfold inI64 at hn
  refine (Tryz.strconv_Itoa n (by omega) (by omega) w (hG.tab 3 (by kernel_rfl))).mono ?_
  rintro e w' ⟨rfl, k, os, rfl⟩
  exact ⟨_, rfl, .d (.raw _), below_grow w k os⟩
end
section
open Go Go.RowKit
end
section
open Go Go.RowKit
structure Dc where
 id : Int
 kind : Int
 pub : Bool
 names : List ByteArray
 doubt : Bool
 body : Ex
def encD (x : Dc) : List D := [.raw (.int .i64 x.id), .raw (.int .i64 x.kind), .raw (.bool x.pub), .sl (encS x.names), .raw (.bool x.doubt), .raw (.int .i64 x.body.kind), .raw (.string x.body.name), .raw (.string x.body.more), .raw (.int .i64 x.body.int), .raw (.int .i64 x.body.den), .sl (encL x.body.sub)]
def avD (x : Dc) : AV := .agg [.d (.raw (.int .i64 x.id)), .d (.raw (.int .i64 x.kind)), .d (.raw (.bool x.pub)), .d (.sl (encS x.names)), .d (.raw (.bool x.doubt)), .d (.raw (.int .i64 x.body.kind)), .d (.raw (.string x.body.name)), .d (.raw (.string x.body.more)), .d (.raw (.int .i64 x.body.int)), .d (.raw (.int .i64 x.body.den)), .d (.sl (encL x.body.sub))]
theorem con_s1 {P : Program} {f : FuncId} {s : ByteArray} {r : Value} (he : Enters P f) (h : ∀ (w : World), Calls P f #[.string s] w fun e w' => e = .returned r ∧ Below w.heap.size w w') : Con P f [.d (.raw (.string s))] (.d (.raw r)) := by
 refine ⟨he, rfl, fun F w vs hF _ hl hv => ?_⟩
 match vs, hl with
 | [v], _ =>
  have h0 := hv 0 (by simp) (by simp)
  simp only [List.getElem_cons_zero] at h0
  unfold HasC at h0
  rw [h0.raw_eq]
  exact (h w).mono fun e w' h' => ⟨r, h'.1, .d (.raw _), h'.2⟩
def badName (l : List ByteArray) (s : ByteArray) : Bool := !nameB s && (decide (l.length = 1) || decide (¬ s = ⟨#[]⟩))
end
section
open Go Go.RowKit
theorem sizeBuilder : (Tryz.prog.info? 132).map (·.size) = some 2 := by kernel_rfl
theorem liesBuilder : liesAt Tryz.prog Tryz.prog.depth 132 (2 / Tryz.prog.cellsOf 132) 0 132 1 = true := by kernel_rfl
theorem infoByte : (Tryz.prog.info? 5).map (fun i => (i.zero, i.size, i.bytes)) = some (some (.int .u8 0), 1, 1) := by kernel_rfl
set_option maxHeartbeats 1000000 in
set_option maxRecDepth 100000 in
theorem copyCheck_used (b : Nat) (w : World) (h0 : w.cell? ⟨b, 0, none⟩ = some (.pointer (some ⟨b, 0, none⟩))) :
  Calls Tryz.prog 215 #[.pointer (some ⟨b, 0, none⟩)] w fun e w' => e = .returned (.tuple #[]) ∧ w' = w := by
 obtain ⟨j, hj, _⟩ := Option.map_eq_some_iff.1 sizeBuilder
 go_enter Tryz.func215, Tryz.ntmps215
 go_wp2
 rw [Lib.run_neq_ptr_same w _ Tryz.underlying129 hj]
 go_wp2
 go_end0
 exact ⟨rfl, rfl⟩
set_option maxHeartbeats 1000000 in
set_option maxRecDepth 100000 in
theorem copyCheck_fresh (b : Nat) (w : World) (h0 : w.cell? ⟨b, 0, none⟩ = some (.pointer none)) (hsh : w.shape? b = some (132, 2)) (hfz : w.frozen? ⟨b, 0, none⟩ = false) :
  Calls Tryz.prog 215 #[.pointer (some ⟨b, 0, none⟩)] w fun e w' => e = .returned (.tuple #[]) ∧ w' = w.setCell ⟨b, 0, none⟩ (.pointer (some ⟨b, 0, none⟩)) := by
 obtain ⟨j, hj, hjs⟩ := Option.map_eq_some_iff.1 sizeBuilder
 go_enter Tryz.func215, Tryz.ntmps215
 go_wp2
 rw [Lib.run_to_unsafe w ⟨b, 0, none⟩ Tryz.underlying129 Tryz.underlying305 hj (by rw [hjs]; decide) hsh (Nat.zero_lt_succ 1)]
 simp only [Result.andThen]
 rw [Oper.upon_value]
 go_wp2
 rw [run_callFunc_extern Tryz.func242 (by kernel_rfl) (by kernel_rfl) (by kernel_rfl) (e := Extern.AbiNoEscape.same) (by kernel_rfl)]
 rw [Lib.run_noEscape]
 simp only [Result.andThen]
 rw [Oper.upon_value]
 go_wp2
 rw [Lib.run_from_unsafe w ⟨b, 0, none⟩ Tryz.underlying305 Tryz.underlying129 hj hsh liesBuilder]
 simp only [Result.andThen]
 rw [Oper.upon_value]
 go_wp2
 go_end0
 exact ⟨rfl, rfl⟩
end
section
open Go Go.RowKit
variable {A : Base Tryz.prog} {σ : St} {g : Gh} {a : Act} {w : World}
theorem run_call2 {o : Oper} {c : Call} {p : Operand} {f : FuncId} (hk : Ok A σ g a w) (ho : o.op = .call c) (hp : c.callee = .value p) (hf : σ.eval p = .fn f []) (hen : Enters Tryz.prog f) : (execOp a.eval o).run Tryz.prog w = .ok (.enter f (c.args.toList.map a.eval).toArray) w := by
 have hpe := hk.eval p
 rw [hf] at hpe
 obtain ⟨vs, hv, hvl, hvs⟩ := hpe.fn_eq
 obtain rfl : vs = [] := List.eq_nil_of_length_eq_zero hvl.symm
 simp only [execOp, ho, resolve, hp, hv, Deferred.ofValue, Sem.run_bind, Sem.run_pure, Result.andThen_ok, invoke]
 rw [run_callFunc hen]
 have he : #[] ++ c.args.map a.eval ++ [].toArray = (c.args.toList.map a.eval).toArray := by
  apply Array.ext'; simp
 rw [he]
end
section
open Go Go.RowKit
end
section
open Go Go.RowKit
end
section
open Go Go.RowKit
end
end Go.Proofs.YtnjedgpidalioaaGreatDoor
