/- Nodes and hasRef of syntax: the walks. Contracts as trees: Nodes, hasRef, names, labels; Expr of the program, walked. Steps of a walk by trees that are not reckoned: the size of a map, a slice made with room, the entry of a walk through a map, a sort at the end. -/
import Derived.Test.YtnphcjpccieljaaGreatDoorExO
import Derived.Test.YtnphcjpccieljaaGreatDoorGYd
import Derived.Test.YtnphcjpccieljaaGreatDoorGYc
import Derived.Test.YtnphcjpccieljaaGreatDoorGBld
namespace Go.Proofs.YtnphcjpccieljaaGreatDoor
open Go Go.RowKit Go.Shelf

attribute [local go_sem] Oper.semAt_some

/-- the parameter and one more variable in their boxes -/
structure CnFrame (w : World) (E : Array Value) (T : TypeId) (x : Value) (W : World) : Prop where
  e : W.heap[w.heap.size]? = some (.cells E 35 (0, 0))
  c : W.heap[w.heap.size + 1]? = some (.cells #[x] T (0, 0))
  size : w.heap.size + 1 + 1 + 1 ≤ W.heap.size
  below : Below w.heap.size w W
theorem CnFrame.grown {w : World} {E : Array Value} {T : TypeId} {x : Value} {A B : World} {row : Option Nat} (h : CnFrame w E T x A) (hg : A.grownBy B row) (hr : ∀ r, row = some r → w.heap.size ≤ r ∧ ∃ o : Obj, A.heap[r]? = some o ∧ o.isCells = false) : CnFrame w E T x B :=
  have hr' := fun r e => (hr r e).2
  ⟨(grownBy_keeps_cells hg hr' h.e rfl).trans h.e, (grownBy_keeps_cells hg hr' h.c rfl).trans h.c, Nat.le_trans h.size hg.size, h.below.trans ((Below.refl _ _).grown hg (by have := h.size; omega) (fun k e => (hr k e).1))⟩
theorem CnFrame.step {w : World} {E : Array Value} {T : TypeId} {x : Value} {A B : World} {base : Nat} (h : CnFrame w E T x A) (hs : ItStep base A B) (hb : w.heap.size + 1 + 1 + 1 ≤ base) : CnFrame w E T x B :=
  ⟨(hs.below.block _ (by omega)).trans h.e, (hs.below.block _ (by omega)).trans h.c, Nat.le_trans h.size hs.others.size, h.below.trans (hs.below.mono (by omega))⟩
theorem CnFrame.set {w : World} {E : Array Value} {T : TypeId} {x : Value} {A : World} (h : CnFrame w E T x A) (y : Value) : CnFrame w E T y (A.setCell ⟨w.heap.size + 1, 0, none⟩ y) :=
  ⟨(Below.heap_setCell _ _ _ _ (by simp)).trans h.e, one_setCell h.c, by simpa [World.setCell] using h.size, h.below.setCell (p := ⟨w.heap.size + 1, 0, none⟩) (by simp) _⟩
theorem cn_start (w : World) (t1 T : TypeId) (E : Array Value) (x : Value) (V : World) (hV : ((w.alloc (.cells E t1)).alloc (.cells #[x] T)).alloc (.cells E t1) = V) (h1 : t1 = 35 := by rfl) :
    CnFrame w E T x V ∧ V.heap[w.heap.size + 1 + 1]? = some (.cells E t1 (0, 0)) ∧ V.heap.size = w.heap.size + 1 + 1 + 1 := by
  subst h1
  have q1 := World.alloc_heap_new w (.cells E 35)
  have q2 := World.alloc_heap_new (w.alloc (.cells E 35)) (.cells #[x] T)
  have q3 := World.alloc_heap_new ((w.alloc (.cells E 35)).alloc (.cells #[x] T)) (.cells E 35)
  simp only [World.size_alloc] at q2 q3
  rw [hV] at q3
  refine ⟨⟨?_, ?_, ?_, ?_⟩, q3, ?_⟩ <;> rw [← hV]
  · exact (Below.heap_alloc _ _ _ (by simp <;> omega)).trans ((Below.heap_alloc _ _ _ (by simp)).trans q1)
  · exact (Below.heap_alloc _ _ _ (by simp)).trans q2
  · simp
  · exact (((Below.refl _ w).alloc (Nat.le_refl _) _).alloc (by simp) _).alloc (by simp; omega) _
  · simp

mutual
theorem kindsE_pre (k : Int) : ∀ (d : Nat) (t : Ex), kindsE k t = (preE d t).any fun x => decide (x.2.kind = k)
  | d, .mk k' n m i dn s => by
    rw [preE, kindsE, List.any_cons, kindsL_pre k (d + 1) s]; rfl
theorem kindsL_pre (k : Int) : ∀ (d : Nat) (l : List Ex), kindsL k l = (preL d l).any fun x => decide (x.2.kind = k)
  | d, [] => by simp [kindsL, preL]
  | d, e :: es => by rw [kindsL, preL, List.any_append, kindsE_pre k d e, kindsL_pre k d es]
end
def NoRef (pre : List ItN) : Prop := ∀ x ∈ pre, x.2.1.kind ≠ 5
theorem noRef_all {t : Ex} {xs : List ItN} (h : NodesAll t xs) (hn : NoRef xs) : kindsE 5 t = false := by
  rw [kindsE_pre 5 1, ← (show _ = _ from h), List.any_eq_false]
  intro x hx
  obtain ⟨y, hy, rfl⟩ := List.mem_map.1 hx
  exact fun h => hn y hy (of_decide_eq_true h)
theorem ref_pre {t : Ex} {xs : List ItN} (h : NodesPre t xs) (hn : ∃ x ∈ xs, x.2.1.kind = 5) : kindsE 5 t = true := by
  obtain ⟨x, hx, hk⟩ := hn
  rw [kindsE_pre 5 1, List.any_eq_true]
  exact ⟨projN x, h.subset (List.mem_map_of_mem hx), decide_eq_true hk⟩
theorem nodesAll_length {t : Ex} {xs : List ItN} (h : NodesAll t xs) : xs.length = nodesE t := by
  have := congrArg List.length (show _ = _ from h)
  rw [List.length_map, preE_length] at this; exact this
def Nd1 (w : World) (E : Array Value) (pre : List (ItN)) (W : World) : Prop := CnFrame w E 3 (.int .i64 (IntKind.i64.wrap pre.length)) W
def Nd1x (_ : Code) (_ : List (ItN)) (_ : World) : Prop := False
theorem nd1_own (w : World) (E : Array Value) (B : Nat) (hB : w.heap.size ≤ B) : OwnFrom B (Nd1 w E) := fun _ _ _ _ hs hg hr => CnFrame.grown hs hg (fun r e => ⟨by have := (hr r e).1; omega, (hr r e).2⟩)
theorem nd1x_own (c : Code) (B : Nat) : OwnFrom B (Nd1x c) := fun _ _ _ _ hs _ _ => hs
def Hr1 (w : World) (E : Array Value) (pre : List (ItN)) (W : World) : Prop := CnFrame w E 4 (.bool false) W ∧ NoRef pre
def Hr1x (w : World) (E : Array Value) (c : Code) (pre : List (ItN)) (W : World) : Prop := c = .ret ∧ CnFrame w E 4 (.bool true) W ∧ ∃ x ∈ pre, x.2.1.kind = 5
theorem hr1_own (w : World) (E : Array Value) (B : Nat) (hB : w.heap.size ≤ B) : OwnFrom B (Hr1 w E) := fun _ _ _ _ hs hg hr => ⟨hs.1.grown hg (fun r e => ⟨by have := (hr r e).1; omega, (hr r e).2⟩), hs.2⟩
theorem hr1x_own (w : World) (E : Array Value) (c : Code) (B : Nat) (hB : w.heap.size ≤ B) : OwnFrom B (Hr1x w E c) := fun _ _ _ _ hs hg hr => ⟨hs.1, hs.2.1.grown hg (fun r e => ⟨by have := (hr r e).1; omega, (hr r e).2⟩), hs.2.2⟩
set_option maxRecDepth 100000 in
set_option maxHeartbeats 4000000 in
theorem sNodes_any (k : Int) (nm mr : ByteArray) (it d : Int) (sub : List Ex) (sv : Value) (w : World) (hm : nodesL sub ≤ 1048576) (hs : SubAt w w.heap.size sub sv) :
    Calls Tryz.prog 25 #[.agg #[.int .i64 k, .string nm, .string mr, .int .i64 it, .int .i64 d, sv]] w fun e w' => e = .returned (.int .i64 (nodesE (.mk k nm mr it d sub))) ∧ Below w.heap.size w w' := by
  obtain ⟨p, cap, rfl, hcap, _⟩ := subAt_open hs
  refine (callsIn_wide (n := 4)).1 ?_
  refine callsIn_of_wp_marks Tryz.func25 rfl trivial ?_ rfl
  simp only [Tryz.ntmps25, List.size_toArray, List.length_cons, List.length_nil, Nat.reduceAdd, Nat.reduceSub, Array.replicate_succ, Array.replicate_zero, List.push_toArray, List.append_toArray, List.nil_append, List.cons_append]
  gi_wp2_with (first | (refine ⟨trivial, ?_⟩; gi_at_call 51; refine (callsIn_wide.2 (snodes_any _ _ _ _ _ _ _ _ _)).mono ?_; rintro e w' ⟨rfl, rfl⟩))
  have HS := Lib.hid hs
  obtain ⟨V, hV⟩ : ∃ V, (((w.alloc (Obj.cells #[.int .i64 k, .string nm, .string mr, .int .i64 it, .int .i64 d, .slice p sub.length cap] 35)).alloc (Obj.cells #[Value.int IntKind.i64 0] 3)).alloc (Obj.cells #[.int .i64 k, .string nm, .string mr, .int .i64 it, .int .i64 d, .slice p sub.length cap] 35)) = V := ⟨_, rfl⟩
  obtain ⟨hF, hb4, hz⟩ := cn_start w 35 3 #[.int .i64 k, .string nm, .string mr, .int .i64 it, .int .i64 d, .slice p sub.length cap] (.int .i64 0) V hV
  rw [hV]
  clear hV hs
  refine wpIn_rangeFunc_R (P := Tryz.prog) (F := Fence.wide) (n := 4) rfl (by omega) (gf := 80) (lb := #[.pointer (some ⟨w.heap.size + 1 + 1, 0, none⟩)]) rfl trivial (enters_of Tryz.func80 (by kernel_rfl) rfl)
    (encs := fun x : ItN => #[.int .i64 x.1, valN x]) (Kp := KeepOut w.heap.size (w.heap.size + 1 + 1)) (R := ItStep (V.heap.size + 1 + 1)) (X := fun _ x => ExAt w w.heap.size x.2.1 (valN x))
    (S := NodesAll (.mk k nm mr it d sub)) (Sp := NodesPre (.mk k nm mr it d sub))
    (fun r l J Jx hJ _ hY hJ0 => nodes1_in 3 l (w.heap.size + 1 + 1) w.heap.size (w.heap.size + 1 + 1) (by omega) k nm mr it d sub p cap w _ HS.out (sameLow_below ((hF.below.alloc (by omega) _).alloc (by simp; omega) _)) (by omega) (Nat.le_refl _)
      ((Below.heap_alloc _ _ _ (by simp; omega)).trans ((Below.heap_alloc _ _ _ (by omega)).trans hb4)) hm J Jx (fun pre A B h1 h2 => hJ pre A B h1 (by simpa using h2)) hY hJ0)
    (fun h1 h2 => h1.trans h2) (fun W l o o' _ hl ho => KeepOut.putObj W l o o' hl ho) (fun h => h.others.from _) (fun _ => rfl)
    (Nd1 w #[.int .i64 k, .string nm, .string mr, .int .i64 it, .int .i64 d, .slice p sub.length cap]) Nd1x (nd1_own w _ _ (by omega)) (fun c => nd1x_own c _)
    (fun pre A B h hs => CnFrame.step h hs (by omega)) (fun c pre A B h hs => h) hF
    (fun x => { tmps := #[Value.agg #[.int .i64 k, .string nm, .string mr, .int .i64 it, .int .i64 d, .slice p sub.length cap], Value.pointer (some { block := w.heap.size, off := 0 }), Value.int .i64 0, Value.pointer (some { block := w.heap.size + 1, off := 0 }),
          Value.agg #[.int .i64 k, .string nm, .string mr, .int .i64 it, .int .i64 d, .slice p sub.length cap], Value.func (Fn.func 80) #[] #[Value.pointer (some { block := w.heap.size + 1 + 1, off := 0 })], Value.int .i64 x.1, valN x, undef, undef, undef], defers := [] }) ?assign ?body ?done ?stop
  case assign =>
    intro l x W K hK
    gi_wp2
    simpa using hK
  case body =>
    rintro l pre x W hI hX
    have c0 := cell_of_one hI.c
    have f0 := free_of_one hI.c
    have HI := Lib.hid hI
    clear hI
    have hsz := HI.out.size
    have e1 : IntKind.i64.wrap (IntKind.i64.wrap (pre.length : Int) + 1) = IntKind.i64.wrap ((pre ++ [x]).length : Int) := by
      rw [IntKind.wrap_i64, IntKind.wrap_i64, IntKind.wrap_i64, List.length_append]
      simp only [List.length_cons, List.length_nil]
      omega
    have HE := Lib.hid e1
    clear e1
    gi_wp2_with fail
    have hF' := HI.out.set (.int .i64 (IntKind.i64.wrap ((pre ++ [x]).length : Int)))
    refine ⟨(KeepsOthers.setCell _ _ _).from _, (KeepOut.below (Below.refl _ _)).setCell (p := ⟨w.heap.size + 1, 0, none⟩) (by simp) _, ?_⟩
    rw [← HE.out] at hF'
    unfold Nd1
    rw [← HE.out]
    have hw64 : ∀ n : Int, wrap64 n = IntKind.i64.wrap n := fun n => by rw [IntKind.wrap_i64]; unfold wrap64; rfl
    simp only [hw64]
    exact hF'
  case done =>
    rintro D xs W hD hS hI hK
    have hl := nodesAll_length hS
    have hwr : IntKind.i64.wrap (xs.length : Int) = xs.length := wrapI64 (by rw [hl, nodesE]; unfold inI64; omega)
    unfold Nd1 at hI
    rw [hwr] at hI
    have c0 := cell_of_one hI.c
    have HL := Lib.hid hl
    have HI := Lib.hid hI
    clear hl hI hS
    gi_wp2_with fail
    refine ⟨by simp, .inl ⟨_, _, rfl, run_takeDeferred hK, ?_⟩⟩
    refine ⟨.int .i64 xs.length, ?_, ret_intE (a := xs.length) (by rw [HL.out]), HI.out.below.trans (belowK_b (w := w) (Nat.le_refl _) W D _ _ (by omega) hK rfl rfl)⟩
    simp [results, Tryz.f25, go_sem]
  case stop =>
    rintro D c pre W hD hpre hf hK
    exact hf.elim
set_option maxRecDepth 100000 in
set_option maxHeartbeats 4000000 in
theorem sHasRef_any (k : Int) (nm mr : ByteArray) (it d : Int) (sub : List Ex) (sv : Value) (w : World) (hm : nodesL sub ≤ 1048576) (hs : SubAt w w.heap.size sub sv) :
    Calls Tryz.prog 58 #[.agg #[.int .i64 k, .string nm, .string mr, .int .i64 it, .int .i64 d, sv]] w fun e w' => e = .returned (.bool (kindsE 5 (.mk k nm mr it d sub))) ∧ Below w.heap.size w w' := by
  obtain ⟨p, cap, rfl, hcap, _⟩ := subAt_open hs
  refine (callsIn_wide (n := 4)).1 ?_
  refine callsIn_of_wp_marks Tryz.func58 rfl trivial ?_ rfl
  simp only [Tryz.ntmps58, List.size_toArray, List.length_cons, List.length_nil, Nat.reduceAdd, Nat.reduceSub, Array.replicate_succ, Array.replicate_zero, List.push_toArray, List.append_toArray, List.nil_append, List.cons_append]
  gi_wp2_with (first | (refine ⟨trivial, ?_⟩; gi_at_call 51; refine (callsIn_wide.2 (snodes_any _ _ _ _ _ _ _ _ _)).mono ?_; rintro e w' ⟨rfl, rfl⟩))
  have HS := Lib.hid hs
  obtain ⟨V, hV⟩ : ∃ V, (((w.alloc (Obj.cells #[.int .i64 k, .string nm, .string mr, .int .i64 it, .int .i64 d, .slice p sub.length cap] 35)).alloc (Obj.cells #[Value.bool false] 4)).alloc (Obj.cells #[.int .i64 k, .string nm, .string mr, .int .i64 it, .int .i64 d, .slice p sub.length cap] 35)) = V := ⟨_, rfl⟩
  obtain ⟨hF, hb4, hz⟩ := cn_start w 35 4 #[.int .i64 k, .string nm, .string mr, .int .i64 it, .int .i64 d, .slice p sub.length cap] (.bool false) V hV
  rw [hV]
  clear hV hs
  refine wpIn_rangeFunc_A (P := Tryz.prog) (F := Fence.wide) (n := 4) rfl (by omega) (gf := 80) (lb := #[.pointer (some ⟨w.heap.size + 1 + 1, 0, none⟩)]) rfl trivial (enters_of Tryz.func80 (by kernel_rfl) rfl)
    (encs := fun x : ItN => #[.int .i64 x.1, valN x]) (Kp := KeepOut w.heap.size (w.heap.size + 1 + 1)) (R := ItStep (V.heap.size + 1 + 1)) (X := fun _ x => ExAt w w.heap.size x.2.1 (valN x))
    (S := NodesAll (.mk k nm mr it d sub)) (Sp := NodesPre (.mk k nm mr it d sub))
    (fun r l J Jx hJ _ hY hJ0 => nodes1_in 3 l (w.heap.size + 1 + 1) w.heap.size (w.heap.size + 1 + 1) (by omega) k nm mr it d sub p cap w _ HS.out (sameLow_below ((hF.below.alloc (by omega) _).alloc (by simp; omega) _)) (by omega) (Nat.le_refl _)
      ((Below.heap_alloc _ _ _ (by simp; omega)).trans ((Below.heap_alloc _ _ _ (by omega)).trans hb4)) hm J Jx (fun pre A B h1 h2 => hJ pre A B h1 (by simpa using h2)) hY hJ0)
    (fun h1 h2 => h1.trans h2) (fun W l o o' _ hl ho => KeepOut.putObj W l o o' hl ho) (fun h => h.others.from _) (fun _ => rfl)
    (Hr1 w #[.int .i64 k, .string nm, .string mr, .int .i64 it, .int .i64 d, .slice p sub.length cap]) (Hr1x w #[.int .i64 k, .string nm, .string mr, .int .i64 it, .int .i64 d, .slice p sub.length cap]) (hr1_own w _ _ (by omega)) (fun c => hr1x_own w _ c _ (by omega))
    (fun pre A B h hs => ⟨CnFrame.step h.1 hs (by omega), h.2⟩) (fun c pre A B h hs => ⟨h.1, CnFrame.step h.2.1 hs (by omega), h.2.2⟩) ⟨hF, by intro x hx; cases hx⟩
    (fun x b => { tmps := #[Value.agg #[.int .i64 k, .string nm, .string mr, .int .i64 it, .int .i64 d, .slice p sub.length cap], Value.pointer (some { block := w.heap.size, off := 0 }), Value.pointer (some { block := w.heap.size + 1, off := 0 }), undef, Value.pointer (some { block := b, off := 0 }),
          Value.agg #[.int .i64 k, .string nm, .string mr, .int .i64 it, .int .i64 d, .slice p sub.length cap], Value.func (Fn.func 80) #[] #[Value.pointer (some { block := w.heap.size + 1 + 1, off := 0 })], Value.int .i64 x.1, valN x, undef, undef, undef], defers := [] })
    (fun x => .cells #[.int .i64 x.2.1.kind, .string x.2.1.name, .string x.2.1.more, .int .i64 x.2.1.int, .int .i64 x.2.1.den, .slice x.2.2.1 x.2.1.sub.length x.2.2.2] 35) (fun W o => KeepOut.below ((Below.refl _ _).alloc (Nat.le_refl _) _)) ?assign2 ?body2 ?done2 ?stop2
  case assign2 =>
    intro l x W K hK
    gi_wp2
    exact hK
  case body2 =>
    rintro l pre x b W5 hI - hbx hbV
    obtain ⟨hF5, hno⟩ := hI
    have cr := cell_of_one hF5.c
    have fr := free_of_one hF5.c
    have g0 : W5.cell? ⟨b, 0, none⟩ = some (.int .i64 x.2.1.kind) := by simp [World.cell?, hbx]
    have HF5 := Lib.hid hF5
    have HNO := Lib.hid hno
    have hs5 := hF5.size
    clear hF5 hno hbx
    by_cases hk : x.2.1.kind = 5
    · have hd : decide (x.2.1.kind = 5) = true := decide_eq_true hk
      have hd2 : (x.2.1.kind == 5) = true := by simpa using hk
      have HK := Lib.hid hk
      clear hk
      gi_wp2_with fail
      exact ⟨(KeepsOthers.setCell _ _ _).from _, rfl, HF5.out.set (.bool true), x, by simp, HK.out⟩
    · have hd : decide (x.2.1.kind = 5) = false := decide_eq_false hk
      have hd2 : (x.2.1.kind == 5) = false := by simpa using hk
      have HK := Lib.hid hk
      clear hk
      gi_wp2_with fail
      refine ⟨KeepsOthers.from (KeepsOthers.refl _) _, KeepOut.below (Below.refl _ _), HF5.out, ?_⟩
      intro y hy
      rcases List.mem_append.1 hy with h | h
      · exact HNO.out y h
      · simp at h; subst h; exact HK.out
  case done2 =>
    rintro D xs W hD hS ⟨hI, hno⟩ hK
    have hl : kindsE 5 (.mk k nm mr it d sub) = false := noRef_all hS hno
    have c0 := cell_of_one hI.c
    have f0 := free_of_one hI.c
    have HL := Lib.hid hl
    have HI := Lib.hid (hI.set (.bool false))
    have HK := Lib.hid ((KeepsOthers.setCell W ⟨w.heap.size + 1, 0, none⟩ (.bool false)).same D _ hK rfl)
    clear hl hI hS
    gi_wp2_with fail
    refine ⟨by simp, .inl ⟨_, _, rfl, run_takeDeferred HK.out, ?_⟩⟩
    have hc5 := cell_kept (cell_of_one HI.out.c) (grownBy_putObj' _ D (.deferred none)) (fun r e => by cases e; exact ⟨_, HK.out, rfl⟩)
    refine ⟨.bool false, ?_, by rw [HL.out], HI.out.below.trans (belowK_b (w := w) (Nat.le_refl _) _ D _ _ (by omega) HK.out rfl rfl)⟩
    simp [results, Tryz.f58, go_sem, hc5]
  case stop2 =>
    rintro D c pre W hD hpre ⟨rfl, hI, hne⟩ hK
    have hl := ref_pre hpre hne
    gi_wp2_with fail
    refine ⟨by simp, .inl ⟨_, _, rfl, run_takeDeferred hK, ?_⟩⟩
    have hc5 := cell_kept (cell_of_one hI.c) (grownBy_putObj' _ D (.deferred none)) (fun r e => by cases e; exact ⟨_, hK, rfl⟩)
    refine ⟨.bool true, ?_, by rw [hl], hI.below.trans (belowK_b (w := w) (Nat.le_refl _) _ D _ _ (by omega) hK rfl rfl)⟩
    simp [results, Tryz.f58, go_sem, hc5]
end Go.Proofs.YtnphcjpccieljaaGreatDoor

namespace Go.Proofs.YtnphcjpccieljaaGreatDoor
open Go Go.RowKit
theorem sNodes_c (a : Ex) (hsz : nodesE a ≤ 1048576) : Con Tryz.prog 25 [avE a] (.d (.raw (.int .i64 (nodesE a)))) := con_e1 ⟨_, Tryz.func25, by decide +kernel, rfl⟩ fun x w ha => by
  obtain ⟨ea, ha⟩ := xAt_sub ha
  rw [ea]
  rw [nodesE_eq] at hsz
  have h := sNodes_any a.kind a.name a.more a.int a.den a.sub _ w (by omega) ha
  rw [Ex.eta] at h
  exact h
theorem sHasRef_c (a : Ex) (hsz : nodesE a ≤ 1048576) : Con Tryz.prog 58 [avE a] (.d (.raw (.bool (kindsE 5 a)))) := con_e1 ⟨_, Tryz.func58, by decide +kernel, rfl⟩ fun x w ha => by
  obtain ⟨ea, ha⟩ := xAt_sub ha
  rw [ea]
  rw [nodesE_eq] at hsz
  have h := sHasRef_any a.kind a.name a.more a.int a.den a.sub _ w (by omega) ha
  rw [Ex.eta] at h
  exact h
theorem rNodes_c (a : Ex) (hsz : nodesE a ≤ 1048576) : Con Tryz.prog 29 [avE a] (.d (.raw (.int .i64 (nodesE a)))) := con_e1 ⟨_, Tryz.func29, by decide +kernel, rfl⟩ fun x w ha => by
  obtain ⟨ea, ha⟩ := xAt_sub ha
  rw [ea]
  rw [nodesE_eq] at hsz ⊢
  exact rNodes_any (nodesL a.sub + 1) a.kind a.name a.more a.int a.den a.sub _ w (by omega) (by omega) ha
theorem rDepth_c (a : Ex) (hsz : nodesE a ≤ 1048576) : Con Tryz.prog 20 [avE a] (.d (.raw (.int .i64 (depthE a)))) := con_e1 ⟨_, Tryz.func20, by decide +kernel, rfl⟩ fun x w ha => by
  obtain ⟨ea, ha⟩ := xAt_sub ha
  rw [ea]
  rw [nodesE_eq] at hsz
  rw [depthE_eq]
  exact rDepth_any (nodesL a.sub + 1) a.kind a.name a.more a.int a.den a.sub _ w (by omega) (by omega) ha
theorem sName_c (s : ByteArray) : Con Tryz.prog 116 [.d (.raw (.string s))] (.d (.raw (.bool (nameB s)))) := con_s1 ⟨_, Tryz.func116, by decide +kernel, rfl⟩ fun w => sname_any s w
theorem sLabel_c (s : ByteArray) : Con Tryz.prog 44 [.d (.raw (.string s))] (.d (.raw (.bool (labelL s.data.toList)))) := con_s1 ⟨_, Tryz.func44, by decide +kernel, rfl⟩ fun w => label_any s w
theorem rLabel_c (s : ByteArray) : Con Tryz.prog 78 [.d (.raw (.string s))] (.d (.raw (.bool (labelL s.data.toList)))) := con_s1 ⟨_, Tryz.func78, by decide +kernel, rfl⟩ fun w => (rLabel_any s w).mono fun e w' h => ⟨h.1, h.2 ▸ Below.refl _ _⟩
set_option maxRecDepth 100000 in
set_option maxHeartbeats 4000000 in
theorem sExpr_c (t : Ex) (hb : nodesE t ≤ 524288) (hok : checkX t = 0 → kindsE 5 t = false → fullE t = true) : Con Tryz.prog 26 [avE t] (.tup [.d (.raw (.string (exprX t).1)), .d (.raw (.int .i64 (exprX t).2))]) := by
  have cc := sCheckExpr_c t (by omega)
  have ck := sHasRef_c t (by omega)
  have ctx := texts_c
  refine con_of Tryz.func26 rfl (by decide +kernel) rfl (by simp only [AV.closed, closedL, avE, closedL_d, Bool.and_self]) (by simp [Tryz.ntmps26]) fun A hA => ?_
  rw [Tryz.ntmps26] at hA
  refine goC 300 ?_
  simp only [go_sem, hA, avE_eq]
  refine goCall 300 cc rfl (by simp only [go_sem, avE_eq]) (by simp only [go_sem, hA]) ?_
  by_cases h : checkX t = 0
  · have g0 : (decide ¬ checkX t = 0) = false := by simpa using h
    simp only [go_sem, hA, g0]
    cases hk : kindsE 5 t with
    | true =>
      rw [hk] at ck
      have hx : exprX t = (⟨#[]⟩, 9) := by unfold exprX; rw [if_pos h, hk, if_pos rfl]
      refine goCall 300 ck rfl (by simp only [go_sem, avE_eq]) (by simp only [go_sem, hA]) ?_
      simp only [go_sem, hA, hx, Tryz.results26]
    | false =>
      rw [hk] at ck
      have ct := text_c (nodesE t + 1) t (by omega) (by omega) (hok h hk)
      refine goCall 300 ck rfl (by simp only [go_sem, avE_eq]) (by simp only [go_sem, hA]) ?_
      simp only [go_sem, hA, mixed]
      refine goCallD 300 ctx rfl (by simp only [go_sem]) (by simp only [go_sem, hA]) ?_
      simp only [go_sem]
      refine goCallD 300 ct rfl (by simp only [go_sem, avE_eq]; rfl) (by simp only [go_sem, hA]) ?_
      by_cases hs : 65536 < (txE t).size
      · have g1 : decide ((65536 : Int) < ((txE t).size : Int)) = true := decide_eq_true (by omega)
        have hx : exprX t = (⟨#[]⟩, 4) := by unfold exprX; rw [if_pos h, hk, if_neg (by simp), if_pos hs]
        simp only [go_sem, hA, g1, hx, Tryz.results26]
        show chk _ _ _ = true
        kernel_rfl
      · have g1 : decide ((65536 : Int) < ((txE t).size : Int)) = false := decide_eq_false (by omega)
        have hx : exprX t = (txE t, 0) := by unfold exprX; rw [if_pos h, hk, if_neg (by simp), if_neg hs]
        simp only [go_sem, hA, g1, hx, Tryz.results26]
        show chk _ _ _ = true
        kernel_rfl
  · have g0 : (decide ¬ checkX t = 0) = true := by simpa using h
    have hx : exprX t = (⟨#[]⟩, checkX t) := if_neg h
    simp only [go_sem, hA, g0, hx, Tryz.results26]
end Go.Proofs.YtnphcjpccieljaaGreatDoor

namespace Go.Proofs.YtnphcjpccieljaaGreatDoor
open Go Go.RowKit Go.MapKept
section
variable {P : Program} {A : Base P} {σ : St} {g : Gh} {a : Act} {w : World}
/-- one operation by itself -/
theorem goStep (n : Nat) {all : List Oper} {o : Oper} {rest : List Oper} {i base : Nat} {s : List Itm} {σ' : St} {Q : Exit → St → Prop} {x : AV} (hg : gdOf A.N all σ o = some true) (h : OpOk P A o σ σ' x) (hd : dstOk A.N o = true)
    (hr : go P A n (.ops all rest (i + 1) base) s (σ'.put o.dst x) Q) : SemM P A (.ops all (o :: rest) i base) s σ Q :=
  satO_cons hg (fun _ => satE_op h hd (go_ok n _ _ _ _ hr)) (fun e => by cases e) (fun e => by cases e)
theorem opOk_entry {o : Oper} {it : Operand} {q r n j : Nat} {seen : List Nat} {tag : Option Nat} {ks : List Value} {cs : List AV} (ho : o.op = .entry it) (hit : σ.eval it = .box q 0) (hq : σ.blk q = some (.iter r n (seen ++ [j]))) (hr : σ.blk r = some (.map tag ks cs)) (hn : n = ks.length) (h : j < ks.length) (h' : j < cs.length) :
    OpOk P A o σ σ (.tup [.d (.raw ks[j]), cs[j]]) := by
  refine opOk_pure fun g a w hk => ?_
  have hie := hk.eval it
  rw [hit] at hie
  obtain ⟨_, c0⟩ := hk.blk q _ hq
  have c0 : w.heap[g.m q]? = some (.mapIter (some (g.m r)) n (seen ++ [j]).toArray n) := c0
  obtain ⟨_, _, es, c1, c2, c3, c4, c5⟩ := hk.blk r _ hr
  have hje : j < es.length := by omega
  have hne : n = es.length := by omega
  subst hne
  have hborn : ∀ i (hi : i < es.length), es[i].born = i := fun i hi => (c4 i (by omega) hi).2
  have hpush : (seen ++ [j]).toArray = seen.toArray.push es[j].born := by rw [hborn j hje]; simp
  have hnd : (es.toArray.toList.map (·.born)).Nodup := by
    have : es.toArray.toList.map (·.born) = List.range es.length := by
      apply List.ext_getElem
      · simp
      · intro i h1 h2
        simp only [List.getElem_map, List.getElem_range]
        exact hborn i (by simpa using h2)
    rw [this]; exact List.nodup_range
  rw [hpush] at c0
  have hrun := run_entry_at (P := P) w (g.m q) (g.m r) _ seen.toArray es.toArray es.length es[j] c0 c1 (by simp) hnd
  refine ⟨_, by simp only [execOp, ho, hie.box_eq, Sem.run_bind, hrun, Result.andThen_ok, Sem.run_pure], .tup _ [es[j].key, es[j].val] rfl fun i hi hv => ?_⟩
  match i, hi with
  | 0, _ =>
    have := (c4 j h hje).1
    simp only [List.getElem_cons_zero]
    rw [this]
    exact .d (.raw _)
  | 1, _ => exact c5 j h' hje
theorem opOk_lenMap {o : Oper} {t kt et : TypeId} {p : Operand} {r : Nat} {tag : Option Nat} {ks : List Value} {cs : List AV} (ho : o.op = .call { callee := .builtin .len, args := #[p], argTypes := #[t] }) (ht : P.underlying t = some (.map kt et)) (hp : σ.eval p = .mp r) (hb : σ.blk r = some (.map tag ks cs)) :
    OpOk P A o σ σ (.d (.raw (.int .i64 ks.length))) := by
  refine opOk_pure fun g a w hk => ?_
  have hpe := hk.eval p
  rw [hp] at hpe
  obtain ⟨_, _, es, c1, c2, _⟩ := hk.blk r _ hb
  have hrun := run_len_map (P := P) (w := w) t o.type (g.m r) es.toArray es.length (by simp [ht, Program.mapKeyOf, Program.mapElemOf]) c1
  refine ⟨_, ?_, .d (.raw _)⟩
  simp only [execOp, ho, resolve, invoke, builtin, Sem.run_bind, Sem.run_pure, Result.andThen_ok, List.map_toArray, List.map_cons, List.map_nil, hpe.mp_eq, hrun]
  simp [goInt, c2]
/-- an empty slice with room -/
theorem opOk_makeCap {o : Oper} {t e : TypeId} {p q : Operand} {n : Nat} {k k' : IntKind} {z : Value} {me : Nat} (ho : o.op = .makeSlice t p q) (ht : P.underlying t = some (.slice e)) (hz : zeroOf P e = some z) (hst : z.cells.toList.length = P.cellsOf e)
    (hp : σ.eval p = .d (.raw (.int k 0))) (hq : σ.eval q = .d (.raw (.int k' n))) (hb : P.bytesOf e * n ≤ 281474976710656) (h63 : n ≤ maxLen) (hm : σ.free me) :
    OpOk P A o σ (σ.setTok me (some ⟨P.cellsOf e, e, 0⟩)) (.grow me []) := by
  refine opOk_run fun g a w hk => ?_
  have e1 := hk.eval p
  have e2 := hk.eval q
  rw [hp] at e1
  rw [hq] at e2
  obtain ⟨i, hi, hzi⟩ : ∃ i, P.info? e = some i ∧ i.zero = some z := by
    unfold zeroOf at hz
    cases hi : P.info? e with
    | none => simp [hi] at hz
    | some i => exact ⟨i, rfl, by simpa [hi] using hz⟩
  have hsz : i.size = P.cellsOf e := by simp [Program.cellsOf, hi]
  have hby : i.bytes = P.bytesOf e := by simp [Program.bytesOf, hi]
  have hb' : (i.bytes : Int) * (n : Int) ≤ 281474976710656 := by
    have h : ((P.bytesOf e * n : Nat) : Int) ≤ 281474976710656 := by omega
    rw [hby]; rwa [Int.natCast_mul] at h
  have h63' := h63
  unfold maxLen at h63'
  have hr := run_make (P := P) w t e i z ht hi hzi k k' 0 n (by omega) (by omega) hb' (by omega)
  simp only [Int.toNat_natCast, hsz] at hr
  have hzs : z.cells.size = P.cellsOf e := by simpa using hst
  obtain ⟨g', h1, h2⟩ := hk.newTok (st := P.cellsOf e) (n := 0) (cap := n) (ty := e) (arr := madeCells z.cells (n * P.cellsOf e)) (rows := []) hm rfl (Nat.zero_le _) h63 (by simp [madeCells]) (fun i h => by simp at h) (fun i h => by simp at h)
  exact ⟨g', _, _, by simp only [execOp, ho, e1.raw_eq, e2.raw_eq, Sem.run_bind, hr, Result.andThen_ok, Sem.run_pure]; rfl, h1, h2⟩
end
/-- strings, sorted -/
def sortS (l : List ByteArray) : List ByteArray := ((l.map fun s => s.data.toList).mergeSort fun x y => decide (x ≤ y)).map fun x => ⟨x.toArray⟩
theorem sortS_length (l : List ByteArray) : (sortS l).length = l.length := by simp [sortS]
variable {A : Base Tryz.prog} {σ : St} {g : Gh} {a : Act} {w : World}
/-- slices.Sort of a row that grows: it is data then; nothing else is known behind it -/
theorem goSort (t : Nat) (l : List ByteArray) {q : Nat} (n : Nat) {all : List Oper} {f : FuncId} {o : Oper} {rest : List Oper} {i base : Nat} {st : List Itm} {Q : Exit → St → Prop} {c : Call} {p m : Operand} (ho : o.op = .call c) (hp : c.callee = .value p) (hf : σ.eval p = .fn 57 []) (hargs : c.args.toList = [m]) (hm : σ.eval m = .grow q (encS l)) (hv : σ.get t = .grow q (encS l))
    (ht : σ.tok q = some ⟨1, 9, l.length⟩) (hlen : l.length < 4611686018427387904) (hd : dstOk A.N o = true) (_hdt : o.dst ≠ some t)
    (hr : go Tryz.prog A n (.ops all rest (i + 1) base) st (St.put ⟨[(t, .d (.sl (encS (sortS l))))], [], []⟩ o.dst (.tup [])) Q) : SemM Tryz.prog A (.exe (some f) all o rest i base) st σ Q := by
  intro g a w hk
  have hrun := run_call2 hk ho hp hf ⟨_, Tryz.func57, by decide +kernel, rfl⟩
  have hme := hk.eval m
  rw [hm] at hme
  have hte := hk.env t
  rw [hv] at hte
  have htk : σ.tk q = some l.length := by simp [St.tk, ht]
  obtain ⟨hrd, hv1⟩ := hme.grow_eq
  obtain ⟨_, hv2⟩ := hte.grow_eq
  have e1 : a.eval m = g.tv q := (hv1 _ htk).2 (encS_length l)
  have e2 : a.tmps.getD t undef = g.tv q := (hv2 _ htk).2 (encS_length l)
  obtain ⟨xs, hown⟩ := hk.tok q _ ht
  unfold Oper.wp
  rw [hrun, hargs]
  simp only [Oper.upon, List.map_cons, List.map_nil, e1]
  rw [e1] at hrd
  have fin : ∀ (F' : Nat → Nat → Prop) (w' : World), Below A.B w w' → (∀ b o, A.F0 b o → F' b o) → (∀ b o, F' b o → A.F0 b o ∨ (A.B ≤ b ∧ b < w'.heap.size)) → Reads w' F' (.sl (encS (sortS l))) (g.tv q) → wpList Tryz.prog all.toArray (postOf A (stk Tryz.prog A st Q)) rest (a.put o.dst (.tuple #[])) w' := fun F' w' hbel hF0 hFn hR => by
    have hs := hbel.size
    have hB := hk.hB
    have hk2 : Ok A ⟨[(t, .d (.sl (encS (sortS l))))], [], []⟩ ⟨g.m, g.tv, F'⟩ a w' := by
      refine ⟨hk.below.trans (.of hbel), by omega, hF0, fun b o hf => (hFn b o hf).imp id And.left, fun b o hf => ?_, hk.defers, hk.size, fun t' => ?_, fun r b h => by simp [St.blk, look] at h, fun r b h => by simp [St.blk, look] at h, fun r b r' b' h => by simp [St.blk, look] at h, fun r k h => by simp [St.tok, look] at h, fun r k x h => by simp [St.tok, look] at h, fun r k r' b x h => by simp [St.tok, look] at h, fun r k r' k' x h => by simp [St.tok, look] at h⟩
      · rcases hFn b o hf with h | h
        · have := hk.Fb b o (hk.F0 b o h); omega
        · exact h.2
      · unfold St.get
        simp only [look]
        by_cases e : t = t'
        · subst e
          rw [if_pos rfl, e2]
          exact .d hR
        · rw [if_neg e]; exact .dead _
    exact go_ok n _ _ _ _ hr _ _ _ (hk2.put o.dst (dstOk_spec hd) (.tup [] [] rfl fun i hi => by simp at hi))
  rcases hown.2 with ⟨h1, h0⟩ | ⟨gb, cap, cur, h1, hgB, hgh, hcap, _⟩
  · have hl0 : l = [] := List.eq_nil_of_length_eq_zero h0
    subst hl0
    rw [h1]
    refine (Tryz.slices_Sort_string_none none 0 w).mono ?_
    rintro e w' ⟨rfl, rfl⟩
    exact fin A.F0 _ (Below.refl _ _) (fun _ _ h => h) (fun _ _ h => .inl h) (by rw [h1, show sortS [] = [] by simp [sortS]]; exact .nil _ _)
  · rw [h1] at hrd ⊢
    have hstr : ∀ j (hj : j < l.length), w.cell? ⟨gb, 0 + j, none⟩ = some (.string l[j]) := fun j hj => by
      rcases reads_strs hrd with ⟨rfl, _⟩ | ⟨_, b, off, cap', hb, _, _, hc⟩
      · simp at hj
      · injection hb with hb _ _
        injection hb with hb
        have e3 : gb = b := congrArg Addr.block hb
        have e4 : 0 = off := congrArg Addr.off hb
        subst e3 e4
        rw [hc j hj]
        simp [List.getD_eq_getElem?_getD, hj]
    have hlt : gb < w.heap.size := (Array.getElem?_eq_some_iff.1 hgh).1
    have hH : Go.Sort.Holds encStr w gb 0 (l.map fun s => s.data.toList).toArray := fun j hj => by
      have hj' : j < l.length := by simpa using hj
      refine ⟨?_, Lib.frozen_of_heap hgh _⟩
      rw [hstr j hj', getElem!_pos _ j hj]
      simp [encStr]
    have hs := Tryz.slices_Sort_string gb 0 cap (l.map fun s => s.data.toList) w hH hlt (by simpa using hlen)
    rw [List.length_map] at hs
    refine hs.mono ?_
    rintro e w' ⟨rfl, k, os, rfl⟩
    have hsize : ∀ k, (Go.Sort.putRow encStr (Go.Sort.ahead w k) gb 0 ((l.map fun s => s.data.toList).mergeSort fun x y => decide (x ≤ y)).toArray).heap.size = w.heap.size := fun k => by simp
    refine fin (fun b o => A.F0 b o ∨ (b = gb ∧ o < l.length)) _ ⟨rfl, rfl, rfl, by simp, fun b hb => ?_⟩ (fun _ _ h => .inl h) (fun b o h => h.imp id fun h => ⟨by omega, by rw [h.1]; simp; omega⟩) ?_
    · have hBs := hk.hB
      rw [Go.Sort.heap_grow_old _ _ (by rw [hsize]; omega)]
      simp only [Go.Sort.putRow, Go.Sort.mapBlock, Array.getElem?_modify]
      rw [if_neg (by omega)]
      rfl
    · rw [h1]
      have hll : (encS (sortS l)).length = l.length := by rw [encS_length, sortS_length]
      rw [← hll]
      refine Reads.mk (st := 1) (by rw [hll]; exact hcap) (fun i hi => encS_row _ _ (List.getElem_mem hi)) fun i hi j hj => ?_
      have hil : i < (sortS l).length := by rw [encS_length] at hi; exact hi
      have hrow : (encS (sortS l))[i] = [.raw (.string (sortS l)[i])] := by simp [encS]
      have hj0 : j = 0 := by rw [hrow] at hj; simpa using hj
      subst hj0
      rw [sortS_length] at hil
      have hsi : i < ((l.map fun s => s.data.toList).mergeSort fun x y => decide (x ≤ y)).length := by simpa using hil
      refine ⟨.inr ⟨rfl, by omega⟩, .string (sortS l)[i], ?_, ?_⟩
      · rw [Go.Sort.cell?_grow _ _ _ (by rw [hsize]; exact hlt), show 0 + i * 1 + 0 = 0 + i by omega, Go.Sort.cell?_putRow _ _ gb 0 _ _ (Go.Sort.holds_ahead _ w k gb 0 _ hH) (by simp) i (by simpa using hil), getElem!_pos _ i (by simpa using hsi)]
        simp [sortS, encStr]
      · simp only [hrow, List.getElem_cons_zero]
        exact .raw _
end Go.Proofs.YtnphcjpccieljaaGreatDoor
