/- strings.SplitSeq at one byte: its closure's contract, as a range over a function wants it. Label of the lexer, for every string. -/
import Derived.Test.YtnphcjpccieljaaGreatDoorGLex
import Derived.Test.YtnphcjpccieljaaGreatDoorGRange
import Derived.RangeFuncBound
import Derived.RangeFuncCalls
import Derived.RangeFuncLeaves
import Derived.Shelf.Abstract
import Derived.Shelf.RegionOpen
import Derived.OwnWalkIn
import Derived.TacticsInMore
import Derived.LoopNIn
import Derived.LoopIn
import Derived.OneCell
namespace Go.Proofs.YtnphcjpccieljaaGreatDoor
open Go.RowKit Go.Shelf

attribute [local go_sem] Oper.semAt_some

/-- the length of the string in a box -/
def boxLen (w : World) (b : Nat) : Nat := match w.cell? ⟨b, 0, none⟩ with | some (Value.string r) => r.size | _ => 0
theorem boxLen_eq {w : World} {b t : Nat} {r : ByteArray} (h : w.heap[b]? = some (.cells #[.string r] t (0, 0))) : boxLen w b = r.size := by simp [boxLen, cell_of_one h]
def SplitAll (s : ByteArray) (xs : List ByteArray) : Prop := xs.map (fun x => x.data.toList) = partsL s.data.toList
def SplitPre (s : ByteArray) (xs : List ByteArray) : Prop := xs.map (fun x => x.data.toList) <+: partsL s.data.toList
def KeepB (bs : List Nat) (A B : World) : Prop := ∀ b ∈ bs, B.heap[b]? = A.heap[b]?
def StoreB (b : Nat) (A B : World) : Prop := ∃ r : ByteArray, B = A.setCell ⟨b, 0, none⟩ (.string r)
theorem index_one (s : ByteArray) (c : UInt8) (w : World) :
    Calls Tryz.prog 111 #[.string s, .string ⟨#[c]⟩] w fun e w' => e = .returned (.int .i64 (Lib.indexByte s.data.toList c)) ∧ w = w' :=
  (Tryz.strings_Index_one s c w).mono fun _ _ ⟨h1, h2⟩ => ⟨h1, h2.symm⟩

set_option maxRecDepth 100000 in
set_option maxHeartbeats 2000000 in
theorem split1_in (n l b1 b2 b3 : Nat) (hn1 : 1 ≤ n) (s : ByteArray) (hs : s.size ≤ 9223372036854775806) (h12 : b1 ≠ b2) (h32 : b3 ≠ b2) (J Jx : List ByteArray → World → Prop)
    (hJ : ∀ pre A B, J pre A → StoreB b2 A B → J pre B)
    (hY : ∀ pre x A, J pre A → YieldAt Fence.wide (n - 1) Tryz.prog l #[.string x] A fun e B =>
      (e = .returned (.bool true) ∧ J (pre ++ [x]) B ∧ KeepB [b1, b2, b3] A B) ∨ (e = .returned (.bool false) ∧ Jx (pre ++ [x]) B))
    (W : World) (hb1 : W.heap[b1]? = some (.cells #[.string ⟨#[47]⟩] 9 (0, 0))) (hb2 : W.heap[b2]? = some (.cells #[.string s] 9 (0, 0))) (hb3 : W.heap[b3]? = some (.cells #[.int .i64 0] 3 (0, 0))) (h0 : J [] W) :
    CallsIn Fence.wide n Tryz.prog 141 #[.func (.yield l) #[] #[], .pointer (some ⟨b1, 0, none⟩), .pointer (some ⟨b2, 0, none⟩), .pointer (some ⟨b3, 0, none⟩)] W fun e B => (∃ v, e = .returned v) ∧
      ((∃ xs : List ByteArray, SplitAll s xs ∧ J xs B) ∨ (∃ pre : List ByteArray, SplitPre s pre ∧ Jx pre B)) := by
  have c1 := cell_of_one hb1
  refine callsIn_of_wp Tryz.func141 rfl trivial ?_ rfl
  simp only [Tryz.ntmps141, List.size_toArray, List.length_cons, List.length_nil, Nat.reduceAdd, Nat.reduceSub, Array.replicate_succ, Array.replicate_zero, List.push_toArray, List.append_toArray, List.nil_append, List.cons_append]
  gi_wp2_with fail
  gi_loopw [7, 8] (fun _ _ wr => ∃ (pre : List ByteArray) (r : ByteArray), wr.heap[b1]? = some (.cells #[.string ⟨#[47]⟩] 9 (0, 0)) ∧ wr.heap[b2]? = some (.cells #[.string r] 9 (0, 0)) ∧ wr.heap[b3]? = some (.cells #[.int .i64 0] 3 (0, 0)) ∧
      r.size ≤ 9223372036854775806 ∧ J pre wr ∧ Hid (pre.map (·.data.toList) ++ partsL r.data.toList = partsL s.data.toList)) (fun _ _ wr => boxLen wr b2)
  case atStart => exact ⟨[], s, hb1, hb2, hb3, hs, h0, Lib.hid rfl⟩
  case round =>
    obtain ⟨pre, r, hr1, hr2, hr3, hrs, hJr, hP⟩ := hrel
    have d1 := cell_of_one hr1
    have d2 := cell_of_one hr2
    have d3 := cell_of_one hr3
    have f2 := free_of_one hr2
    have hge := Lib.indexByte_ge r.data.toList 47
    have HC := Lib.hid (index_one r 47 wr)
    have HR1 := Lib.hid hr1
    have HR2 := Lib.hid hr2
    have HR3 := Lib.hid hr3
    clear hr1 hr2 hr3 c1 hb1 hb2 hb3
    by_cases hneg : Lib.indexByte r.data.toList 47 < 0
    · have hm1 : Lib.indexByte r.data.toList 47 = -1 := by omega
      have HN := Lib.hid (partsL_none hm1)
      rw [hm1] at HC
      clear hm1 hneg hge
      obtain ⟨fn, tmps, assign, body, hy, hR⟩ := hY pre r wr hJr
      gi_wp2_with (first | (refine ⟨trivial, ?_⟩; gi_at_call 111; refine (callsIn_wide.2 HC.out).mono ?_; rintro e w' ⟨rfl, rfl⟩))
      refine hR.mono ?_
      rintro e W3 (⟨rfl, hJ3, hk3⟩ | ⟨rfl, hJx3⟩)
      · gi_wp2_with fail
        go_end0
        exact ⟨⟨_, rfl⟩, .inl ⟨_, by unfold SplitAll; rw [← hP.out, HN.out]; simp, hJ3⟩⟩
      · gi_wp2_with fail
        go_end0
        exact ⟨⟨_, rfl⟩, .inr ⟨_, by unfold SplitPre; rw [← hP.out, HN.out]; simp, hJx3⟩⟩
    · obtain ⟨i, hi⟩ : ∃ i : Nat, Lib.indexByte r.data.toList 47 = (i : Int) := ⟨_, (Int.toNat_of_nonneg (by omega)).symm⟩
      obtain ⟨hlt, hparts⟩ := partsL_some hi
      have hlt' : i < r.size := by simpa using hlt
      rw [hi] at HC
      clear hi hlt hneg hge
      have HN := Lib.hid hparts
      clear hparts
      obtain ⟨fn, tmps, assign, body, hy, hR⟩ := hY pre (r.extract 0 i) wr hJr
      gi_wp2_with (first | (refine ⟨trivial, ?_⟩; gi_at_call 111; refine (callsIn_wide.2 HC.out).mono ?_; rintro e w' ⟨rfl, rfl⟩))
      refine hR.mono ?_
      rintro e W3 (⟨rfl, hJ3, hk3⟩ | ⟨rfl, hJx3⟩)
      · have k1 : W3.heap[b1]? = _ := (hk3 b1 (by simp)).trans HR1.out
        have k2 : W3.heap[b2]? = _ := (hk3 b2 (by simp)).trans HR2.out
        have k3 : W3.heap[b3]? = _ := (hk3 b3 (by simp)).trans HR3.out
        have g1 := cell_of_one k1
        have g2 := cell_of_one k2
        have g3 := cell_of_one k3
        have e2 := free_of_one k2
        have K1 := Lib.hid k1
        have K2 := Lib.hid k2
        have K3 := Lib.hid k3
        have hk3' := Lib.hid hk3
        clear k1 k2 k3 d1 d2 d3 f2 hk3
        gi_wp2_with fail
        go_roundw
        case rel =>
          refine ⟨_, r.extract (i + 1) r.size, ?_, one_setCell K2.out, ?_, by simp; omega, hJ _ _ _ hJ3 ⟨_, rfl⟩, Lib.hid ?_⟩
          · exact (Below.heap_setCell _ _ _ _ h12).trans K1.out
          · exact (Below.heap_setCell _ _ _ _ h32).trans K3.out
          · rw [← hP.out, HN.out, extract_end]
            simp
        case measure => rw [boxLen_eq (one_setCell K2.out), boxLen_eq HR2.out]; simp; omega
      · gi_wp2_with fail
        refine bodyPost_ret (results_none rfl _ _ _) rfl ?_
        exact ⟨⟨_, rfl⟩, .inr ⟨_, ⟨partsL (r.data.toList.drop (i + 1)), by rw [← hP.out, HN.out]; simp⟩, hJx3⟩⟩
end Go.Proofs.YtnphcjpccieljaaGreatDoor

namespace Go.Proofs.YtnphcjpccieljaaGreatDoor
open Go.RowKit Go.Shelf

attribute [local go_sem] Oper.semAt_some

theorem splitSeq_any (s sep : ByteArray) (w : World) :
    Calls Tryz.prog 75 #[.string s, .string sep] w fun e w' =>
      e = .returned (.func (.func 141) #[] #[.pointer (some ⟨w.heap.size + 1, 0, none⟩), .pointer (some ⟨w.heap.size, 0, none⟩), .pointer (some ⟨w.heap.size + 1 + 1, 0, none⟩)]) ∧
      ((w.alloc (.cells #[.string s] 9)).alloc (.cells #[.string sep] 9)).alloc (.cells #[.int .i64 0] 3) = w' := by
  go_enter Tryz.func75, Tryz.ntmps75
  go_wp2
  go_ret
  exact ⟨rfl, rfl⟩
theorem labelL_long {l : List UInt8} (h : 90 < l.length) : labelL l = false := by
  have : ¬ l.length ≤ 90 := by omega
  simp [labelL, this]
theorem label_long (s : ByteArray) (w : World) (h : 90 < s.size) :
    Calls Tryz.prog 44 #[.string s] w fun e w' => e = .returned (.bool (labelL s.data.toList)) ∧ Below w.heap.size w w' := by
  have HF := Lib.hid (labelL_long (l := s.data.toList) (by simpa using h))
  go_enter Tryz.func44, Tryz.ntmps44
  go_wp2_with fail
  refine bodyPost_ret (v := .bool false) (by simp [results, Tryz.results44, go_sem]) rfl ?_
  exact ⟨by rw [HF.out], (Below.refl _ _).alloc (Nat.le_refl _) _⟩
theorem wordL_less {l : List UInt8} {a b : Nat} (h : l.length ≤ a) (h' : l.length ≤ b) : wordL a l = wordL b l := by
  cases l with
  | nil => rfl
  | cons c r =>
    have h1 : r.length + 1 ≤ a := by simpa using h
    have h2 : r.length + 1 ≤ b := by simpa using h'
    simp [wordL, h1, h2]
theorem keepB_below {bs : List Nat} {A B : World} (h : Below A.heap.size A B) (hb : ∀ b ∈ bs, b < A.heap.size) : KeepB bs A B := fun b hm => h.block b (hb b hm)
theorem keepsOthers_below {A B : World} (h : Below A.heap.size A B) : KeepsOthers A B := ⟨h.size, fun k _ hk _ => (h.block k (Array.getElem?_eq_some_iff.1 hk).1).trans hk⟩
def AllWords (pre : List ByteArray) : Prop := ∀ p ∈ pre, wordL 20 p.data.toList = true
def BadWord (pre : List ByteArray) : Prop := ∃ p ∈ pre, wordL 20 p.data.toList = false
def LabelI (w : World) (pre : List ByteArray) (W : World) : Prop := AllWords pre ∧ W.heap[w.heap.size]? = some (.cells #[.bool false] 4 (0, 0)) ∧ w.heap.size + 1 + 1 + 1 + 1 ≤ W.heap.size ∧ Below w.heap.size w W
def LabelX (w : World) (c : Code) (pre : List ByteArray) (W : World) : Prop := c = .ret ∧ BadWord pre ∧ W.heap[w.heap.size]? = some (.cells #[.bool false] 4 (0, 0)) ∧ w.heap.size + 1 + 1 + 1 + 1 ≤ W.heap.size ∧ Below w.heap.size w W
theorem allWords_snoc {pre : List ByteArray} {x : ByteArray} (h : AllWords pre) (hx : wordL 20 x.data.toList = true) : AllWords (pre ++ [x]) := by
  intro p hp
  rcases List.mem_append.1 hp with h1 | h1
  · exact h p h1
  · simp at h1; subst h1; exact hx
theorem badWord_snoc {pre : List ByteArray} {x : ByteArray} (hx : wordL 20 x.data.toList = false) : BadWord (pre ++ [x]) := ⟨x, by simp, hx⟩
theorem one_kept {W W' : World} {row : Option Nat} {b : Nat} {v : Value} {t : TypeId} (h : W.heap[b]? = some (.cells #[v] t (0, 0))) (hg : W.grownBy W' row) (hr : ∀ r, row = some r → ∃ o : Obj, W.heap[r]? = some o ∧ o.isCells = false) : W'.heap[b]? = some (.cells #[v] t (0, 0)) :=
  (grownBy_keeps_cells hg hr h rfl).trans h
theorem labelI_own (w : World) (B : Nat) (hB : w.heap.size ≤ B) : OwnFrom B (LabelI w) := fun s W W' row hs hg hr =>
  ⟨hs.1, one_kept hs.2.1 hg (fun r e => (hr r e).2), Nat.le_trans hs.2.2.1 hg.size, hs.2.2.2.trans ((Below.refl _ _).grown hg (by have := hs.2.2.1; omega) (fun k e => by have := (hr k e).1; omega))⟩
theorem labelX_own (w : World) (c : Code) (B : Nat) (hB : w.heap.size ≤ B) : OwnFrom B (LabelX w c) := fun s W W' row hs hg hr =>
  ⟨hs.1, hs.2.1, one_kept hs.2.2.1 hg (fun r e => (hr r e).2), Nat.le_trans hs.2.2.2.1 hg.size, hs.2.2.2.2.trans ((Below.refl _ _).grown hg (by have := hs.2.2.2.1; omega) (fun k e => by have := (hr k e).1; omega))⟩
theorem labelI_store (w : World) (pre : List ByteArray) (A B : World) (h : LabelI w pre A) (hr : StoreB (w.heap.size + 1) A B) : LabelI w pre B := by
  obtain ⟨r, rfl⟩ := hr
  refine ⟨h.1, (Below.heap_setCell _ _ _ _ (by simp)).trans h.2.1, by simpa [World.setCell] using h.2.2.1, h.2.2.2.setCell (p := ⟨w.heap.size + 1, 0, none⟩) (by simp) _⟩
theorem labelX_store (w : World) (c : Code) (pre : List ByteArray) (A B : World) (h : LabelX w c pre A) (hr : StoreB (w.heap.size + 1) A B) : LabelX w c pre B := by
  obtain ⟨r, rfl⟩ := hr
  refine ⟨h.1, h.2.1, (Below.heap_setCell _ _ _ _ (by simp)).trans h.2.2.1, by simpa [World.setCell] using h.2.2.2.1, h.2.2.2.2.setCell (p := ⟨w.heap.size + 1, 0, none⟩) (by simp) _⟩
theorem labelI_below (w : World) (pre pre' : List ByteArray) (A B : World) (h : LabelI w pre A) (hw : AllWords pre') (hb : Below A.heap.size A B) : LabelI w pre' B :=
  ⟨hw, (hb.block _ (by have := h.2.2.1; omega)).trans h.2.1, Nat.le_trans h.2.2.1 hb.size, h.2.2.2.trans (hb.mono (by have := h.2.2.1; omega))⟩
theorem labelL_all {s : ByteArray} {xs : List ByteArray} (h : s.size ≤ 90) (hx : SplitAll s xs) (ha : AllWords xs) : labelL s.data.toList = true := by
  unfold SplitAll at hx
  unfold labelL
  rw [← hx, Bool.and_eq_true]
  refine ⟨by simpa using h, ?_⟩
  rw [List.all_eq_true]
  intro p hp
  obtain ⟨q, hq, rfl⟩ := List.mem_map.1 hp
  exact ha q hq
theorem labelL_bad {s : ByteArray} {xs : List ByteArray} (hx : SplitPre s xs) (ha : BadWord xs) : labelL s.data.toList = false := by
  unfold labelL
  rw [Bool.and_eq_false_iff]; right
  rw [List.all_eq_false]
  obtain ⟨q, hq, hb⟩ := ha
  exact ⟨q.data.toList, (show _ <+: _ from hx).subset (List.mem_map.2 ⟨q, hq, rfl⟩), by simp [hb]⟩
set_option maxRecDepth 100000 in
set_option maxHeartbeats 2000000 in
theorem label_short (s : ByteArray) (w : World) (h : s.size ≤ 90) :
    Calls Tryz.prog 44 #[.string s] w fun e w' => e = .returned (.bool (labelL s.data.toList)) ∧ Below w.heap.size w w' := by
  have h90 : decide (90 < (s.size : Int)) = false := by simp; omega
  refine (callsIn_wide (n := 4)).1 ?_
  refine callsIn_of_wp_marks Tryz.func44 rfl trivial ?_ rfl
  simp only [Tryz.ntmps44, List.size_toArray, List.length_cons, List.length_nil, Nat.reduceAdd, Nat.reduceSub, Array.replicate_succ, Array.replicate_zero, List.push_toArray, List.append_toArray, List.nil_append, List.cons_append]
  gi_wp2_with (first | (refine ⟨trivial, ?_⟩; gi_at_call 75; refine (callsIn_wide.2 (splitSeq_any s ⟨#[47]⟩ _)).mono ?_; rintro e w' ⟨rfl, rfl⟩))
  obtain ⟨W0, hW0⟩ : ∃ W0, ((((w.alloc (Obj.cells #[Value.bool false] 4)).alloc (Obj.cells #[Value.string s] 9)).alloc (Obj.cells #[Value.string ⟨#[47]⟩] 9)).alloc (Obj.cells #[Value.int IntKind.i64 0] 3)) = W0 := ⟨_, rfl⟩
  have z0 : w.heap.size + 1 + 1 + 1 + 1 = W0.heap.size := by rw [← hW0]; simp
  have q0 : W0.heap[w.heap.size]? = some (.cells #[.bool false] 4 (0, 0)) := by rw [← hW0]; exact (Below.heap_alloc _ _ _ (by simp <;> omega)).trans ((Below.heap_alloc _ _ _ (by simp <;> omega)).trans ((Below.heap_alloc _ _ _ (by simp)).trans (World.alloc_heap_new w _)))
  have q1 : W0.heap[w.heap.size + 1]? = some (.cells #[.string s] 9 (0, 0)) := by
    rw [← hW0]; refine (Below.heap_alloc _ _ _ (by simp <;> omega)).trans ((Below.heap_alloc _ _ _ (by simp)).trans ?_)
    have := World.alloc_heap_new (w.alloc (Obj.cells #[Value.bool false] 4)) (Obj.cells #[Value.string s] 9)
    rwa [World.size_alloc] at this
  have q2 : W0.heap[w.heap.size + 1 + 1]? = some (.cells #[.string ⟨#[47]⟩] 9 (0, 0)) := by
    rw [← hW0]; refine (Below.heap_alloc _ _ _ (by simp)).trans ?_
    have := World.alloc_heap_new ((w.alloc (Obj.cells #[Value.bool false] 4)).alloc (Obj.cells #[Value.string s] 9)) (Obj.cells #[Value.string ⟨#[47]⟩] 9)
    simp only [World.size_alloc] at this
    exact this
  have q3 : W0.heap[w.heap.size + 1 + 1 + 1]? = some (.cells #[.int .i64 0] 3 (0, 0)) := by
    rw [← hW0]
    have := World.alloc_heap_new (((w.alloc (Obj.cells #[Value.bool false] 4)).alloc (Obj.cells #[Value.string s] 9)).alloc (Obj.cells #[Value.string ⟨#[47]⟩] 9)) (Obj.cells #[Value.int IntKind.i64 0] 3)
    simp only [World.size_alloc] at this
    exact this
  have bl : Below w.heap.size w W0 := by
    rw [← hW0]; exact ((((Below.refl _ w).alloc (Nat.le_refl _) _).alloc (by simp) _).alloc (by simp <;> omega) _).alloc (by simp <;> omega) _
  rw [hW0]
  clear hW0
  have hal : ∀ (r : Loop) (b : Nat) (o : Obj), W0.heap[b]? = some o → ((W0.alloc (.deferred (some []))).alloc (.loop r)).heap[b]? = some o := fun r b o hb => by
    have := (Array.getElem?_eq_some_iff.1 hb).1
    exact (Below.heap_alloc _ _ _ (by simp <;> omega)).trans ((Below.heap_alloc _ _ _ this).trans hb)
  refine wpIn_rangeFunc_R (P := Tryz.prog) (F := Fence.wide) (n := 4) rfl (by omega) (gf := 141) (lb := #[.pointer (some ⟨w.heap.size + 1 + 1, 0, none⟩), .pointer (some ⟨w.heap.size + 1, 0, none⟩), .pointer (some ⟨w.heap.size + 1 + 1 + 1, 0, none⟩)]) rfl trivial (enters_of Tryz.func141 (by kernel_rfl) rfl)
    (encs := fun x : ByteArray => #[.string x]) (Kp := KeepB [w.heap.size + 1 + 1, w.heap.size + 1, w.heap.size + 1 + 1 + 1]) (R := StoreB (w.heap.size + 1)) (X := fun _ _ => True)
    (S := SplitAll s) (Sp := SplitPre s)
    (fun r l J Jx hJ _ hY hJ0 => split1_in 3 l _ _ _ (by omega) s (by omega) (by omega) (by omega) J Jx hJ (fun pre x A hA => hY pre x A hA trivial) _ (hal r _ _ q2) (hal r _ _ q1) (hal r _ _ q3) hJ0)
    (fun h1 h2 b hb => (h2 b hb).trans (h1 b hb)) (fun W l o o' hl _ _ b hb => World.putObj_heap_other (by simp at hb; omega))
    (fun ⟨r, hr⟩ => hr ▸ (KeepsOthers.setCell _ _ _).from _) (fun _ => rfl)
    (LabelI w) (LabelX w) (labelI_own w _ (by omega)) (fun c => labelX_own w c _ (by omega)) (labelI_store w) (labelX_store w)
    ⟨fun _ hp => by simp at hp, q0, by omega, bl⟩
    (fun x => { tmps := #[Value.string s, undef, Value.pointer (some { block := w.heap.size, off := 0 }), Value.string x, Value.string s, Value.int IntKind.i64 ↑s.size, Value.bool false, Value.string s,
          Value.func (Fn.func 141) #[] #[Value.pointer (some { block := w.heap.size + 1 + 1, off := 0 }), Value.pointer (some { block := w.heap.size + 1, off := 0 }), Value.pointer (some { block := w.heap.size + 1 + 1 + 1, off := 0 })],
          Value.string x, undef, undef, undef, undef, undef, undef, undef, undef], defers := [] }) ?assign ?body ?done ?stop
  case assign =>
    intro l x W K hK
    gi_wp2
    exact hK
  case body =>
    rintro l pre x W hI -
    have c0 := cell_of_one hI.2.1
    have f0 := free_of_one hI.2.1
    have HI := Lib.hid hI
    clear hI
    by_cases hx : 20 < x.size
    · have HX := Lib.hid (badWord_snoc (pre := pre) (wordL_long (l := x.data.toList) (most := 20) (by simpa using hx)))
      gi_wp2_with fail
      refine ⟨trivial, ?_⟩
      gi_wp2_with fail
      exact ⟨(KeepsOthers.setCell _ _ _).from _, rfl, HX.out, one_setCell HI.out.2.1, by simpa [World.setCell] using HI.out.2.2.1, HI.out.2.2.2.setCell (p := ⟨w.heap.size, 0, none⟩) (Nat.le_refl _) _⟩
    · have HL := Lib.hid (wordL_less (l := x.data.toList) (a := 24) (b := 20) (by simp; omega) (by simp; omega))
      cases hw : wordL 24 x.data.toList
      · gi_wp2_with (first | (refine ⟨trivial, ?_⟩; gi_at_call 76; refine (CallsIn.inRound l (callsIn_wide.2 (word_any x W))).mono ?_; rintro e w' ⟨rfl, hb⟩; have g0 := (hb.cell (p := ⟨w.heap.size, 0, none⟩) (by have := HI.out.2.2.1; show w.heap.size < _; omega)).trans c0; have e0 := (hb.frozen (p := ⟨w.heap.size, 0, none⟩) (by have := HI.out.2.2.1; show w.heap.size < _; omega)).trans f0; have HB := Lib.hid hb; clear hb))
        have hq := labelI_below w pre pre W _ HI.out HI.out.1 HB.out
        exact ⟨((keepsOthers_below HB.out).trans (KeepsOthers.setCell _ _ _)).from _, rfl, badWord_snoc (HL.out ▸ hw), one_setCell hq.2.1, by simpa [World.setCell] using hq.2.2.1, hq.2.2.2.setCell (p := ⟨w.heap.size, 0, none⟩) (Nat.le_refl _) _⟩
      · gi_wp2_with (first | (refine ⟨trivial, ?_⟩; gi_at_call 76; refine (CallsIn.inRound l (callsIn_wide.2 (word_any x W))).mono ?_; rintro e w' ⟨rfl, hb⟩; have HB := Lib.hid hb; clear hb))
        exact ⟨(keepsOthers_below HB.out).from _, keepB_below HB.out (by have := HI.out.2.2.1; intro b hb; simp at hb; omega), labelI_below w pre _ W _ HI.out (allWords_snoc HI.out.1 (HL.out ▸ hw)) HB.out⟩
  case done =>
    rintro D ys W hD hS hI hK
    have c0 := cell_of_one hI.2.1
    have f0 := free_of_one hI.2.1
    have HI := Lib.hid hI
    clear hI
    gi_wp2_with fail
    have hK' := (KeepsOthers.setCell W ⟨w.heap.size, 0, none⟩ (.bool true)).same D _ hK rfl
    refine ⟨by simp, .inl ⟨_, _, rfl, run_takeDeferred hK', ?_⟩⟩
    have hc5 := cell_kept (cell_of_one (one_setCell (u := .bool true) HI.out.2.1)) (grownBy_putObj' _ D (.deferred none)) (fun r e => by cases e; exact ⟨_, hK', rfl⟩)
    refine ⟨.bool true, ?_, by rw [labelL_all h hS HI.out.1], (HI.out.2.2.2.setCell (p := ⟨w.heap.size, 0, none⟩) (Nat.le_refl _) _).trans (belowK_b (w := w) (Nat.le_refl _) _ D _ _ (by omega) hK' rfl rfl)⟩
    simp [results, Tryz.f44, go_sem, hc5]
  case stop =>
    rintro D c pre W hD hpre ⟨rfl, hbad, hcr, _, hB⟩ hK
    gi_wp2_with fail
    refine ⟨by simp, .inl ⟨_, _, rfl, run_takeDeferred hK, ?_⟩⟩
    have hc5 := cell_kept (cell_of_one hcr) (grownBy_putObj' _ D (.deferred none)) (fun r e => by cases e; exact ⟨_, hK, rfl⟩)
    refine ⟨.bool false, ?_, by rw [labelL_bad hpre hbad], hB.trans (belowK_b (w := w) (Nat.le_refl _) W D _ _ (by omega) hK rfl rfl)⟩
    simp [results, Tryz.f44, go_sem, hc5]
theorem label_any (s : ByteArray) (w : World) :
    Calls Tryz.prog 44 #[.string s] w fun e w' => e = .returned (.bool (labelL s.data.toList)) ∧ Below w.heap.size w w' := by
  rcases Nat.lt_or_ge 90 s.size with h | h
  · exact label_long s w h
  · exact label_short s w h
end Go.Proofs.YtnphcjpccieljaaGreatDoor
