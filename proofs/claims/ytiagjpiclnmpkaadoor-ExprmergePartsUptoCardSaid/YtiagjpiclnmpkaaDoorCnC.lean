/- Conflicts and Clean of exprmerge. -/
import Derived.Test.YtiagjpiclnmpkaaDoorCnB
import Derived.Test.YtiagjpiclnmpkaaDoorExN
import Derived.Test.YtiagjpiclnmpkaaDoorGLexH
namespace Go.Proofs.YtiagjpiclnmpkaaDoor
open Go.RowKit Go.Shelf

attribute [local go_sem] Oper.semAt_some

theorem mconflicts_any (k : Int) (nm mr : ByteArray) (it d : Int) (p : Option Addr) (len cap : Nat) (w : World) :
    Calls Tryd.prog 35 #[.agg #[.int .i64 k, .string nm, .string mr, .int .i64 it, .int .i64 d, .slice p len cap]] w fun e w' =>
      e = .returned (.func (.func 48) #[] #[.pointer (some ⟨w.heap.size, 0, none⟩)]) ∧ w.alloc (.cells #[.int .i64 k, .string nm, .string mr, .int .i64 it, .int .i64 d, .slice p len cap] 24) = w' := by
  go_enter Tryd.func35, Tryd.ntmps35
  go_wp2
  go_ret
  exact ⟨rfl, rfl⟩
/-- the parameter and one more variable in their boxes -/
structure CnFrame (w : World) (E : Array Value) (T : TypeId) (x : Value) (W : World) : Prop where
  e : W.heap[w.heap.size]? = some (.cells E 24 (0, 0))
  c : W.heap[w.heap.size + 1]? = some (.cells #[x] T (0, 0))
  size : w.heap.size + 1 + 1 + 1 ≤ W.heap.size
  below : Below w.heap.size w W
theorem CnFrame.grown {w : World} {E : Array Value} {T : TypeId} {x : Value} {A B : World} {row : Option Nat} (h : CnFrame w E T x A) (hg : A.grownBy B row) (hr : ∀ r, row = some r → w.heap.size ≤ r ∧ ∃ o : Obj, A.heap[r]? = some o ∧ o.isCells = false) : CnFrame w E T x B :=
  have hr' := fun r e => (hr r e).2
  ⟨(grownBy_keeps_cells hg hr' h.e rfl).trans h.e, (grownBy_keeps_cells hg hr' h.c rfl).trans h.c, Nat.le_trans h.size hg.size, h.below.trans ((Below.refl _ _).grown hg (by have := h.size; omega) (fun k e => (hr k e).1))⟩
theorem CnFrame.step {w : World} {E : Array Value} {T : TypeId} {x : Value} {A B : World} {base : Nat} (h : CnFrame w E T x A) (hs : ItStep base A B) (hb : w.heap.size + 1 + 1 + 1 ≤ base) : CnFrame w E T x B :=
  ⟨(hs.below.block _ (by omega)).trans h.e, (hs.below.block _ (by omega)).trans h.c, Nat.le_trans h.size hs.others.size, h.below.trans (hs.below.mono (by omega))⟩
theorem CnFrame.set {w : World} {E : Array Value} {T : TypeId} {x : Value} {A : World} (h : CnFrame w E T x A) (y : Value) : CnFrame w E T y (A.setCell ⟨w.heap.size + 1, 0, none⟩ y) :=
  ⟨(Below.heap_setCell _ _ _ _ (by simp)).trans h.e, one_setCell h.c, by simpa [World.setCell] using h.size, h.below.setCell (p := ⟨w.heap.size + 1, 0, none⟩) (by simp) _⟩
theorem cn_start (w : World) (t1 T : TypeId) (E : Array Value) (x : Value) (V : World) (hV : ((w.alloc (.cells E t1)).alloc (.cells #[x] T)).alloc (.cells E t1) = V) (h1 : t1 = 24 := by rfl) :
    CnFrame w E T x V ∧ V.heap[w.heap.size + 1 + 1]? = some (.cells E t1 (0, 0)) ∧ V.heap.size = w.heap.size + 1 + 1 + 1 := by
  subst h1
  have q1 := World.alloc_heap_new w (.cells E 24)
  have q2 := World.alloc_heap_new (w.alloc (.cells E 24)) (.cells #[x] T)
  have q3 := World.alloc_heap_new ((w.alloc (.cells E 24)).alloc (.cells #[x] T)) (.cells E 24)
  simp only [World.size_alloc] at q2 q3
  rw [hV] at q3
  refine ⟨⟨?_, ?_, ?_, ?_⟩, q3, ?_⟩ <;> rw [← hV]
  · exact (Below.heap_alloc _ _ _ (by simp <;> omega)).trans ((Below.heap_alloc _ _ _ (by simp)).trans q1)
  · exact (Below.heap_alloc _ _ _ (by simp)).trans q2
  · simp
  · exact (((Below.refl _ w).alloc (Nat.le_refl _) _).alloc (by simp) _).alloc (by simp; omega) _
  · simp
def Cn1 (w : World) (E : Array Value) (pre : List (ItN)) (W : World) : Prop := CnFrame w E 3 (.int .i64 pre.length) W
def Cn1x (_ : Code) (_ : List (ItN)) (_ : World) : Prop := False
theorem cn1_own (w : World) (E : Array Value) (B : Nat) (hB : w.heap.size ≤ B) : OwnFrom B (Cn1 w E) := fun _ _ _ _ hs hg hr => CnFrame.grown hs hg (fun r e => ⟨by have := (hr r e).1; omega, (hr r e).2⟩)
theorem cn1x_own (c : Code) (B : Nat) : OwnFrom B (Cn1x c) := fun _ _ _ _ hs _ _ => hs
def Cl1 (w : World) (E : Array Value) (pre : List (ItN)) (W : World) : Prop := CnFrame w E 4 (.bool false) W ∧ pre = []
def Cl1x (w : World) (E : Array Value) (c : Code) (pre : List (ItN)) (W : World) : Prop := c = .ret ∧ CnFrame w E 4 (.bool false) W ∧ pre ≠ []
theorem cl1_own (w : World) (E : Array Value) (B : Nat) (hB : w.heap.size ≤ B) : OwnFrom B (Cl1 w E) := fun _ _ _ _ hs hg hr => ⟨hs.1.grown hg (fun r e => ⟨by have := (hr r e).1; omega, (hr r e).2⟩), hs.2⟩
theorem cl1x_own (w : World) (E : Array Value) (c : Code) (B : Nat) (hB : w.heap.size ≤ B) : OwnFrom B (Cl1x w E c) := fun _ _ _ _ hs hg hr => ⟨hs.1, hs.2.1.grown hg (fun r e => ⟨by have := (hr r e).1; omega, (hr r e).2⟩), hs.2.2⟩
theorem confAll_length {t : Ex} {xs : List ItN} (h : ConfAll t xs) : xs.length = confE t := by
  have := congrArg List.length (show _ = _ from h)
  rw [List.length_map, confE_pre] at this; exact this
theorem confPre_pos {t : Ex} {xs : List ItN} (h : ConfPre t xs) (hn : xs ≠ []) : confE t ≠ 0 := by
  have := h.length_le
  rw [List.length_map, confE_pre] at this
  have := List.length_pos_iff.2 hn
  omega
set_option maxRecDepth 100000 in
set_option maxHeartbeats 4000000 in
theorem mConflicts_any (k : Int) (nm mr : ByteArray) (it d : Int) (sub : List Ex) (sv : Value) (w : World) (hm : nodesL sub ≤ 1048576) (hs : SubAt w w.heap.size sub sv) :
    Calls Tryd.prog 25 #[.agg #[.int .i64 k, .string nm, .string mr, .int .i64 it, .int .i64 d, sv]] w fun e w' => e = .returned (.int .i64 (confE (.mk k nm mr it d sub))) ∧ Below w.heap.size w w' := by
  obtain ⟨p, cap, rfl, hcap, _⟩ := subAt_open hs
  refine (callsIn_wide (n := 4)).1 ?_
  refine callsIn_of_wp_marks Tryd.func25 rfl trivial ?_ rfl
  simp only [Tryd.ntmps25, List.size_toArray, List.length_cons, List.length_nil, Nat.reduceAdd, Nat.reduceSub, Array.replicate_succ, Array.replicate_zero, List.push_toArray, List.append_toArray, List.nil_append, List.cons_append]
  gi_wp2_with (first | (refine ⟨trivial, ?_⟩; gi_at_call 35; refine (callsIn_wide.2 (mconflicts_any _ _ _ _ _ _ _ _ _)).mono ?_; rintro e w' ⟨rfl, rfl⟩))
  have HS := Lib.hid hs
  obtain ⟨V, hV⟩ : ∃ V, (((w.alloc (Obj.cells #[.int .i64 k, .string nm, .string mr, .int .i64 it, .int .i64 d, .slice p sub.length cap] 24)).alloc (Obj.cells #[Value.int IntKind.i64 0] 3)).alloc (Obj.cells #[.int .i64 k, .string nm, .string mr, .int .i64 it, .int .i64 d, .slice p sub.length cap] 24)) = V := ⟨_, rfl⟩
  obtain ⟨hF, hb4, hz⟩ := cn_start w 24 3 #[.int .i64 k, .string nm, .string mr, .int .i64 it, .int .i64 d, .slice p sub.length cap] (.int .i64 0) V hV
  rw [hV]
  clear hV hs
  refine wpIn_rangeFunc_R (P := Tryd.prog) (F := Fence.wide) (n := 4) rfl (by omega) (gf := 48) (lb := #[.pointer (some ⟨w.heap.size + 1 + 1, 0, none⟩)]) rfl trivial (enters_of Tryd.func48 (by kernel_rfl) rfl)
    (encs := fun x : ItN => #[valN x]) (Kp := KeepOut w.heap.size (w.heap.size + 1 + 1)) (R := ItStep (V.heap.size + 1 + 1)) (X := fun pre _ => pre.length ≤ 1048577)
    (S := ConfAll (.mk k nm mr it d sub)) (Sp := ConfPre (.mk k nm mr it d sub))
    (fun r l J Jx hJ _ hY hJ0 => conf1_in 3 l (w.heap.size + 1 + 1) w.heap.size (w.heap.size + 1 + 1) (by omega) k nm mr it d sub p cap _ (subAt_below HS.out ((hF.below.alloc (by omega) _).alloc (by simp; omega) _) (Nat.le_refl _)) (by omega) (Nat.le_refl _)
      ((Below.heap_alloc _ _ _ (by simp; omega)).trans ((Below.heap_alloc _ _ _ (by omega)).trans hb4)) hm J Jx (fun pre A B h1 h2 => hJ pre A B h1 (by simpa using h2)) hY hJ0)
    (fun h1 h2 => h1.trans h2) (fun W l o o' _ hl ho => KeepOut.putObj W l o o' hl ho) (fun h => h.others.from _) (fun _ => rfl)
    (Cn1 w #[.int .i64 k, .string nm, .string mr, .int .i64 it, .int .i64 d, .slice p sub.length cap]) Cn1x (cn1_own w _ _ (by omega)) (fun c => cn1x_own c _)
    (fun pre A B h hs => CnFrame.step h hs (by omega)) (fun c pre A B h hs => h) hF
    (fun x => { tmps := #[Value.agg #[.int .i64 k, .string nm, .string mr, .int .i64 it, .int .i64 d, .slice p sub.length cap], Value.pointer (some { block := w.heap.size, off := 0 }), Value.int .i64 0, Value.pointer (some { block := w.heap.size + 1, off := 0 }),
          Value.agg #[.int .i64 k, .string nm, .string mr, .int .i64 it, .int .i64 d, .slice p sub.length cap], Value.func (Fn.func 48) #[] #[Value.pointer (some { block := w.heap.size + 1 + 1, off := 0 })], valN x, undef, undef, undef], defers := [] }) ?assign ?body ?done ?stop
  case assign =>
    intro l x W K hK
    gi_wp2
    simpa using hK
  case body =>
    rintro l pre x W hI hX
    have c0 := cell_of_one hI.c
    have f0 := free_of_one hI.c
    have HI := Lib.hid hI
    clear hI
    have hsz := HI.out.size
    gi_wp2_with fail
    have hF' := HI.out.set (.int .i64 ((pre.length : Int) + 1))
    refine ⟨(KeepsOthers.setCell _ _ _).from _, (KeepOut.below (Below.refl _ _)).setCell (p := ⟨w.heap.size + 1, 0, none⟩) (by simp) _, ?_⟩
    have e1 : ((pre ++ [x]).length : Int) = (pre.length : Int) + 1 := by simp
    unfold Cn1
    rw [e1]; exact hF'
  case done =>
    rintro D xs W hD hS hI hK
    have hl := confAll_length hS
    have c0 := cell_of_one hI.c
    have HL := Lib.hid hl
    have HI := Lib.hid hI
    clear hl hI hS
    gi_wp2_with fail
    refine ⟨by simp, .inl ⟨_, _, rfl, run_takeDeferred hK, ?_⟩⟩
    refine ⟨.int .i64 xs.length, ?_, ret_intE (a := xs.length) (by rw [HL.out]), HI.out.below.trans (belowK_b (w := w) (Nat.le_refl _) W D _ _ (by omega) hK rfl rfl)⟩
    simp [results, Tryd.f25, go_sem]
  case stop =>
    rintro D c pre W hD hpre hf hK
    exact hf.elim
set_option maxRecDepth 100000 in
set_option maxHeartbeats 4000000 in
theorem mClean_any (k : Int) (nm mr : ByteArray) (it d : Int) (sub : List Ex) (sv : Value) (w : World) (hm : nodesL sub ≤ 1048576) (hs : SubAt w w.heap.size sub sv) :
    Calls Tryd.prog 20 #[.agg #[.int .i64 k, .string nm, .string mr, .int .i64 it, .int .i64 d, sv]] w fun e w' => e = .returned (.bool (confE (.mk k nm mr it d sub) == 0)) ∧ Below w.heap.size w w' := by
  obtain ⟨p, cap, rfl, hcap, _⟩ := subAt_open hs
  refine (callsIn_wide (n := 4)).1 ?_
  refine callsIn_of_wp_marks Tryd.func20 rfl trivial ?_ rfl
  simp only [Tryd.ntmps20, List.size_toArray, List.length_cons, List.length_nil, Nat.reduceAdd, Nat.reduceSub, Array.replicate_succ, Array.replicate_zero, List.push_toArray, List.append_toArray, List.nil_append, List.cons_append]
  gi_wp2_with (first | (refine ⟨trivial, ?_⟩; gi_at_call 35; refine (callsIn_wide.2 (mconflicts_any _ _ _ _ _ _ _ _ _)).mono ?_; rintro e w' ⟨rfl, rfl⟩))
  have HS := Lib.hid hs
  obtain ⟨V, hV⟩ : ∃ V, (((w.alloc (Obj.cells #[.int .i64 k, .string nm, .string mr, .int .i64 it, .int .i64 d, .slice p sub.length cap] 24)).alloc (Obj.cells #[Value.bool false] 4)).alloc (Obj.cells #[.int .i64 k, .string nm, .string mr, .int .i64 it, .int .i64 d, .slice p sub.length cap] 24)) = V := ⟨_, rfl⟩
  obtain ⟨hF, hb4, hz⟩ := cn_start w 24 4 #[.int .i64 k, .string nm, .string mr, .int .i64 it, .int .i64 d, .slice p sub.length cap] (.bool false) V hV
  rw [hV]
  clear hV hs
  refine wpIn_rangeFunc_R (P := Tryd.prog) (F := Fence.wide) (n := 4) rfl (by omega) (gf := 48) (lb := #[.pointer (some ⟨w.heap.size + 1 + 1, 0, none⟩)]) rfl trivial (enters_of Tryd.func48 (by kernel_rfl) rfl)
    (encs := fun x : ItN => #[valN x]) (Kp := KeepOut w.heap.size (w.heap.size + 1 + 1)) (R := ItStep (V.heap.size + 1 + 1)) (X := fun pre _ => pre.length ≤ 1048577)
    (S := ConfAll (.mk k nm mr it d sub)) (Sp := ConfPre (.mk k nm mr it d sub))
    (fun r l J Jx hJ _ hY hJ0 => conf1_in 3 l (w.heap.size + 1 + 1) w.heap.size (w.heap.size + 1 + 1) (by omega) k nm mr it d sub p cap _ (subAt_below HS.out ((hF.below.alloc (by omega) _).alloc (by simp; omega) _) (Nat.le_refl _)) (by omega) (Nat.le_refl _)
      ((Below.heap_alloc _ _ _ (by simp; omega)).trans ((Below.heap_alloc _ _ _ (by omega)).trans hb4)) hm J Jx (fun pre A B h1 h2 => hJ pre A B h1 (by simpa using h2)) hY hJ0)
    (fun h1 h2 => h1.trans h2) (fun W l o o' _ hl ho => KeepOut.putObj W l o o' hl ho) (fun h => h.others.from _) (fun _ => rfl)
    (Cl1 w #[.int .i64 k, .string nm, .string mr, .int .i64 it, .int .i64 d, .slice p sub.length cap]) (Cl1x w #[.int .i64 k, .string nm, .string mr, .int .i64 it, .int .i64 d, .slice p sub.length cap]) (cl1_own w _ _ (by omega)) (fun c => cl1x_own w _ c _ (by omega))
    (fun pre A B h hs => ⟨h.1.step hs (by omega), h.2⟩) (fun c pre A B h hs => ⟨h.1, h.2.1.step hs (by omega), h.2.2⟩) ⟨hF, rfl⟩
    (fun x => { tmps := #[Value.agg #[.int .i64 k, .string nm, .string mr, .int .i64 it, .int .i64 d, .slice p sub.length cap], Value.pointer (some { block := w.heap.size, off := 0 }), Value.pointer (some { block := w.heap.size + 1, off := 0 }),
          Value.agg #[.int .i64 k, .string nm, .string mr, .int .i64 it, .int .i64 d, .slice p sub.length cap], Value.func (Fn.func 48) #[] #[Value.pointer (some { block := w.heap.size + 1 + 1, off := 0 })], valN x], defers := [] }) ?assign ?body ?done ?stop
  case assign =>
    intro l x W K hK
    gi_wp2
    simpa using hK
  case body =>
    rintro l pre x W hI hX
    have c0 := cell_of_one hI.1.c
    have f0 := free_of_one hI.1.c
    have HI := Lib.hid hI
    clear hI
    have hsz := HI.out.1.size
    gi_wp2_with fail
    exact ⟨(KeepsOthers.setCell _ _ _).from _, rfl, HI.out.1.set (.bool false), by simp⟩
  case done =>
    rintro D xs W hD hS ⟨hI, rfl⟩ hK
    have hl : confE (.mk k nm mr it d sub) = 0 := (confAll_length hS).symm
    have c0 := cell_of_one hI.c
    have f0 := free_of_one hI.c
    have HL := Lib.hid hl
    have HI := Lib.hid (hI.set (.bool true))
    have HK := Lib.hid ((KeepsOthers.setCell W ⟨w.heap.size + 1, 0, none⟩ (.bool true)).same D _ hK rfl)
    clear hl hI hS
    gi_wp2_with fail
    refine ⟨by simp, .inl ⟨_, _, rfl, run_takeDeferred HK.out, ?_⟩⟩
    have hc5 := cell_kept (cell_of_one HI.out.c) (grownBy_putObj' _ D (.deferred none)) (fun r e => by cases e; exact ⟨_, HK.out, rfl⟩)
    refine ⟨.bool true, ?_, by rw [HL.out]; rfl, HI.out.below.trans (belowK_b (w := w) (Nat.le_refl _) _ D _ _ (by omega) HK.out rfl rfl)⟩
    simp [results, Tryd.f20, go_sem, hc5]
  case stop =>
    rintro D c pre W hD hpre ⟨rfl, hI, hne⟩ hK
    have hl := confPre_pos hpre hne
    gi_wp2_with fail
    refine ⟨by simp, .inl ⟨_, _, rfl, run_takeDeferred hK, ?_⟩⟩
    have hc5 := cell_kept (cell_of_one hI.c) (grownBy_putObj' _ D (.deferred none)) (fun r e => by cases e; exact ⟨_, hK, rfl⟩)
    refine ⟨.bool false, ?_, by rw [show (confE (.mk k nm mr it d sub) == 0) = false by simpa using hl], hI.below.trans (belowK_b (w := w) (Nat.le_refl _) _ D _ _ (by omega) hK rfl rfl)⟩
    simp [results, Tryd.f20, go_sem, hc5]
end Go.Proofs.YtiagjpiclnmpkaaDoor
