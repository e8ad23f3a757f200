/- Texts of this proof, part 13: what the proof uses of them. -/
import Derived.Test.YtnnolijagpakiaaGreatDoorVal
import Derived.Test.YtnnolijagpakiaaGreatDoorVaj
import Derived.RangeFuncLeaves
import Derived.RangeFuncCalls
import Derived.Test.YtnnolijagpakiaaGreatDoorVai
import Derived.Test.YtnnolijagpakiaaGreatDoorVag
import Derived.Test.YtnnolijagpakiaaGreatDoorVae
import Derived.Lib.ItoaNum
import Derived.Lib.ItoaLen
import Derived.Shelf.Strings.Builder1
import Derived.Shelf.Strings.Builder2
import Derived.Shelf.Strings.OnBuilder
import Derived.Shelf.Small.Strs
import Derived.Shelf.Strings.BuilderF
import Derived.Shelf.Strings.BuilderK
import Derived.Shelf.Strings.Builder2Cap
import Derived.Shelf.Strconv.Atoi
import Derived.Shelf.Strconv.Itoa0
import Derived.Shelf.Strconv.Itoa1
import Derived.Shelf.LaysM
import Derived.Shelf.Strconv.Itoa2
import Derived.Shelf.Strconv.Itoa3
import Derived.Shelf.Strings.Search1
import Derived.Shelf.Strings.Search2
import Derived.Shelf.Strings.Search3
import Derived.Shelf.Strings.Shaped
import Derived.Shelf.Strings.Prefix
import Derived.Shelf.Unicode.DecodeSlow
import Derived.Shelf.Strings.BuilderCap
import Derived.Ground.Names2Prog
import Derived.Shelf.Slices.Clone
import Derived.Ground.SlgnProg
import Derived.Shelf.SlicesE.Clone
import Derived.Test.YtnnolijagpakiaaGreatDoorProg
namespace Go.Proofs.YtnnolijagpakiaaGreatDoor
section
section
open Go.RowKit
def checkX (t : Ex) : Int := if 400 < nodesE t ∨ 40 < depthE t then 4 else checkE t
theorem checkX_nodes {t : Ex} (h : 400 < nodesE t) : checkX t = 4 := by rw [checkX, if_pos (.inl h)]
theorem checkX_depth {t : Ex} (h : 40 < depthE t) : checkX t = 4 := by rw [checkX, if_pos (.inr h)]
theorem checkX_good {t : Ex} (h : ¬ 400 < nodesE t) (h' : ¬ 40 < depthE t) : checkX t = checkE t := by rw [checkX, if_neg (by omega)]
set_option maxHeartbeats 1000000 in
theorem rCheckExpr_any (k : Int) (nm mr : ByteArray) (it d : Int) (sub : List Ex) (sv : Value) (w : World) (hm : nodesL sub ≤ 1048576) (hs : SubAt w w.heap.size sub sv) :
  Calls Tryz.prog 42 #[.agg #[.int .i64 k, .string nm, .string mr, .int .i64 it, .int .i64 d, sv]] w fun e w' => e = .returned (.int .i64 (checkX (.mk k nm mr it d sub))) ∧ Below w.heap.size w w' := by
 obtain ⟨p, cap, rfl, hcap, _⟩ := subAt_open hs
 obtain ⟨w1, hw1, hX⟩ := boxed w #[.int .i64 k, .string nm, .string mr, .int .i64 it, .int .i64 d, .slice p sub.length cap] 36
 have HW := Lib.hid hw1
 have hsz := hX.size
 have HB0 := Lib.hid hX.below
 have hs1 := subAt_below hs hX.below hX.below.size
 have HN := Lib.hid (rNodes_any (nodesL sub + 1) k nm mr it d sub _ w1 (by omega) (by omega) hs1)
 have HX := Lib.hid hX
 have HS := Lib.hid hs1
 obtain ⟨n, hn⟩ : ∃ n, nodesL sub + 1 = n := ⟨_, rfl⟩
 rw [hn] at HN
 have hn1 : n ≤ 1048577 := by omega
 have hEq : Hid (nodesE (.mk k nm mr it d sub) = n) := Lib.hid (by rw [← hn, nodesE])
 have hdl := depthL_le sub
 clear hs hs1 hX hw1 hn
 go_enter Tryz.func42, Tryz.ntmps42
 go_wp2_with fail
 rw [HW.out]
 refine (HN.out).mono ?_
 rintro e w2 ⟨rfl, hb⟩
 have hbs := hb.size
 obtain ⟨c0, c1, c2, c3, c4, c5⟩ := boxed6 HX.out hb
 by_cases hgt : 400 < n
 ·have hd : decide (400 < (n : Int)) = true := by simp; omega
  have HE := Lib.hid (checkX_nodes (t := .mk k nm mr it d sub) (by rw [hEq.out]; exact hgt))
  go_wp2_with fail
  go_ret
  exact ⟨ret_intE (a := 4) HE.out.symm, HB0.out.trans (hb.mono (by omega))⟩
 ·have hd : decide (400 < (n : Int)) = false := by simp; omega
  have HG := Lib.hid hgt
  have HL := Lib.hid (rDepth_any (nodesL sub + 1) k nm mr it d sub _ w2 (by omega) (by omega) (subAt_below HS.out hb hb.size))
  obtain ⟨m, hm2⟩ : ∃ m, depthL sub + 1 = m := ⟨_, rfl⟩
  rw [hm2] at HL
  have hm3 : m ≤ 1048577 := by omega
  have hEq2 : Hid (depthE (.mk k nm mr it d sub) = m) := Lib.hid (by rw [← hm2, depthE])
  clear hgt hm2
  by_cases hgt2 : 40 < m
  ·have hd2 : decide (40 < (m : Int)) = true := by simp; omega
   have HE := Lib.hid (checkX_depth (t := .mk k nm mr it d sub) (by rw [hEq2.out]; exact hgt2))
   go_wp2_with (go_at_call 88; refine (HL.out).mono ?_; rintro e w3 ⟨rfl, hb3⟩)
   go_ret
   exact ⟨ret_intE (a := 4) HE.out.symm, HB0.out.trans ((hb.mono (by omega)).trans (hb3.mono (by omega)))⟩
  ·have hd2 : decide (40 < (m : Int)) = false := by simp; omega
   have HE := Lib.hid (checkX_good (t := .mk k nm mr it d sub) (by rw [hEq.out]; exact HG.out) (by rw [hEq2.out]; exact hgt2))
   clear hgt2
   go_wp2_with (go_at_call 88; refine (HL.out).mono ?_; rintro e w3 ⟨rfl, hb3⟩; obtain ⟨hc3, hf3⟩ := bcellE hb3; have hl3 : w.heap.size < w2.heap.size := (by omega))
   have HC := Lib.hid (rcheck_any (nodesL sub + 1) k nm mr it d sub _ w3 (by omega) (by omega) (subAt_below (subAt_below HS.out hb hb.size) hb3 hb3.size))
   refine (HC.out).mono ?_
   rintro e w4 ⟨rfl, hb4⟩
   go_wp2_with fail
   go_ret
   exact ⟨ret_intE (a := checkE (.mk k nm mr it d sub)) HE.out.symm, HB0.out.trans ((hb.mono (by omega)).trans ((hb3.mono (by omega)).trans (hb4.mono (by have := hb3.size; omega))))⟩
end
section
open Go.RowKit Go.Shelf
attribute [local go_sem] Oper.semAt_some
mutual
theorem preE_le : ∀ (d : Nat) (t : Ex) (x : Nat × Ex), x ∈ preE d t → x.1 + 1 ≤ d + depthE t
 | d, .mk k n m i dn s, x, h => by
  simp only [preE, List.mem_cons] at h
  rcases h with rfl | h
  ·simp only [depthE]; omega
  ·have := preL_le (d + 1) s x h; simp only [depthE]; omega
theorem preL_le : ∀ (d : Nat) (l : List Ex) (x : Nat × Ex), x ∈ preL d l → x.1 + 1 ≤ d + depthL l
 | d, [], x, h => by simp [preL] at h
 | d, e :: es, x, h => by
  simp only [preL, List.mem_append] at h
  rcases h with h | h
  ·have := preE_le d e x h; simp only [depthL]; omega
  ·have := preL_le d es x h; simp only [depthL]; omega
end
mutual
theorem preE_deep : ∀ (d : Nat) (t : Ex), ∃ x ∈ preE d t, x.1 + 1 = d + depthE t
 | d, .mk k n m i dn s => by
  rcases preL_deep (d + 1) s with ⟨rfl⟩ | ⟨x, hx, he⟩
  ·exact ⟨(d, .mk k n m i dn []), by simp [preE], by simp [depthE, depthL]⟩
  ·exact ⟨x, by simp only [preE, List.mem_cons]; exact .inr hx, by simp only [depthE]; omega⟩
theorem preL_deep : ∀ (d : Nat) (l : List Ex), l = [] ∨ ∃ x ∈ preL d l, x.1 + 1 = d + depthL l
 | d, [] => .inl rfl
 | d, e :: es => by
  right
  obtain ⟨x, hx, he⟩ := preE_deep d e
  rcases preL_deep d es with rfl | ⟨y, hy, hye⟩
  ·exact ⟨x, by simp only [preL, List.mem_append]; exact .inl hx, by simp only [depthL]; omega⟩
  ·rcases Nat.le_total (depthE e) (depthL es) with h | h
   ·exact ⟨y, by simp only [preL, List.mem_append]; exact .inr hy, by simp only [depthL]; omega⟩
   ·exact ⟨x, by simp only [preL, List.mem_append]; exact .inl hx, by simp only [depthL]; omega⟩
end
def nodeErr (t : Ex) : Int := checkN t.kind t.name t.more t.int t.den t.sub.length
def firstErr : List (Nat × Ex) → Int
 | [] => 0
 | x :: xs => if nodeErr x.2 = 0 then firstErr xs else nodeErr x.2
theorem firstErr_append : ∀ a b : List (Nat × Ex), firstErr (a ++ b) = if firstErr a = 0 then firstErr b else firstErr a
 | [], b => by simp [firstErr]
 | x :: xs, b => by
  simp only [firstErr, List.cons_append, firstErr_append xs b]
  by_cases h : nodeErr x.2 = 0 <;> simp [h]
mutual
theorem checkE_first : ∀ (d : Nat) (t : Ex), checkE t = firstErr (preE d t)
 | d, .mk k n m i dn s => by
  rw [checkE, preE, firstErr, checkEs_first (d + 1) s]; rfl
theorem checkEs_first : ∀ (d : Nat) (l : List Ex), checkEs l = firstErr (preL d l)
 | d, [] => by simp [checkEs, preL, firstErr]
 | d, e :: es => by rw [checkEs, preL, firstErr_append, checkE_first d e, checkEs_first d es]
end
theorem snodes_any (k : Int) (nm mr : ByteArray) (it d : Int) (p : Option Addr) (len cap : Nat) (w : World) :
  Calls Tryz.prog 83 #[.agg #[.int .i64 k, .string nm, .string mr, .int .i64 it, .int .i64 d, .slice p len cap]] w fun e w' =>
   e = .returned (.func (.func 142) #[] #[.pointer (some ⟨w.heap.size, 0, none⟩)]) ∧ w.alloc (.cells #[.int .i64 k, .string nm, .string mr, .int .i64 it, .int .i64 d, .slice p len cap] 36) = w' := by
 go_enter Tryz.func83, Tryz.ntmps83
 go_wp2
 go_ret
 exact ⟨rfl, rfl⟩
structure CkFrame (w : World) (E : Array Value) (res cnt : Int) (W : World) : Prop where
 e : W.heap[w.heap.size]? = some (.cells E 36 (0, 0))
 r : W.heap[w.heap.size + 1]? = some (.cells #[.int .i64 res] 27 (0, 0))
 c : W.heap[w.heap.size + 1 + 1]? = some (.cells #[.int .i64 cnt] 3 (0, 0))
 size : w.heap.size + 1 + 1 + 1 + 1 ≤ W.heap.size
 below : Below w.heap.size w W
theorem CkFrame.grown {w : World} {E : Array Value} {res cnt : Int} {A B : World} {row : Option Nat} (h : CkFrame w E res cnt A) (hg : A.grownBy B row) (hr : ∀ r, row = some r → w.heap.size ≤ r ∧ ∃ o : Obj, A.heap[r]? = some o ∧ o.isCells = false) : CkFrame w E res cnt B :=
 have hr' := fun r e => (hr r e).2
 ⟨(grownBy_keeps_cells hg hr' h.e rfl).trans h.e, (grownBy_keeps_cells hg hr' h.r rfl).trans h.r, (grownBy_keeps_cells hg hr' h.c rfl).trans h.c, Nat.le_trans h.size hg.size, h.below.trans ((Below.refl _ _).grown hg (by have := h.size; omega) (fun k e => (hr k e).1))⟩
theorem CkFrame.step {w : World} {E : Array Value} {res cnt : Int} {A B : World} {base : Nat} (h : CkFrame w E res cnt A) (hs : ItStep base A B) (hb : w.heap.size + 1 + 1 + 1 + 1 ≤ base) : CkFrame w E res cnt B :=
 ⟨(hs.below.block _ (by omega)).trans h.e, (hs.below.block _ (by omega)).trans h.r, (hs.below.block _ (by omega)).trans h.c, Nat.le_trans h.size hs.others.size, h.below.trans (hs.below.mono (by omega))⟩
theorem CkFrame.kept {w : World} {E : Array Value} {res cnt : Int} {A B : World} (h : CkFrame w E res cnt A) (hb : Below A.heap.size A B) : CkFrame w E res cnt B :=
 ⟨(hb.block _ (by have := h.size; omega)).trans h.e, (hb.block _ (by have := h.size; omega)).trans h.r, (hb.block _ (by have := h.size; omega)).trans h.c, Nat.le_trans h.size hb.size, h.below.trans (hb.mono (by have := h.size; omega))⟩
theorem CkFrame.setCnt {w : World} {E : Array Value} {res cnt : Int} {A : World} (h : CkFrame w E res cnt A) (x : Int) : CkFrame w E res x (A.setCell ⟨w.heap.size + 1 + 1, 0, none⟩ (.int .i64 x)) :=
 ⟨(Below.heap_setCell _ _ _ _ (by simp; omega)).trans h.e, (Below.heap_setCell _ _ _ _ (by simp)).trans h.r, one_setCell h.c, by simpa [World.setCell] using h.size, h.below.setCell (p := ⟨w.heap.size + 1 + 1, 0, none⟩) (by simp; omega) _⟩
theorem CkFrame.setRes {w : World} {E : Array Value} {res cnt : Int} {A : World} (h : CkFrame w E res cnt A) (x : Int) : CkFrame w E x cnt (A.setCell ⟨w.heap.size + 1, 0, none⟩ (.int .i64 x)) :=
 ⟨(Below.heap_setCell _ _ _ _ (by simp)).trans h.e, one_setCell h.r, (Below.heap_setCell _ _ _ _ (by simp)).trans h.c, by simpa [World.setCell] using h.size, h.below.setCell (p := ⟨w.heap.size + 1, 0, none⟩) (by simp) _⟩
def Ck1 (w : World) (E : Array Value) (pre : List (ItN)) (W : World) : Prop := CkFrame w E 0 pre.length W ∧ pre.length ≤ 400 ∧ ∀ x ∈ pre, x.1 ≤ 40
def Ck1x (w : World) (E : Array Value) (c : Code) (pre : List (ItN)) (W : World) : Prop := c = .ret ∧ (∃ n, CkFrame w E 4 n W) ∧ (400 < pre.length ∨ ∃ x ∈ pre, 40 < x.1)
def Ck2 (w : World) (E : Array Value) (D : Nat) (pre : List (ItN)) (W : World) : Prop := (∃ n, CkFrame w E 0 n W) ∧ firstErr (pre.map projN) = 0 ∧ W.heap[D]? = some (.deferred (some []))
def Ck2x (w : World) (E : Array Value) (D : Nat) (c : Code) (pre : List (ItN)) (W : World) : Prop := c = .ret ∧ ∃ err n, CkFrame w E err n W ∧ err ≠ 0 ∧ firstErr (pre.map projN) = err ∧ W.heap[D]? = some (.deferred (some []))
theorem ck1_own (w : World) (E : Array Value) (B : Nat) (hB : w.heap.size ≤ B) : OwnFrom B (Ck1 w E) := fun s W W' row hs hg hr => ⟨hs.1.grown hg (fun r e => ⟨by have := (hr r e).1; omega, (hr r e).2⟩), hs.2⟩
theorem ck1x_own (w : World) (E : Array Value) (c : Code) (B : Nat) (hB : w.heap.size ≤ B) : OwnFrom B (Ck1x w E c) := fun s W W' row hs hg hr => ⟨hs.1, ⟨_, hs.2.1.choose_spec.grown hg (fun r e => ⟨by have := (hr r e).1; omega, (hr r e).2⟩)⟩, hs.2.2⟩
theorem ck2_own (w : World) (E : Array Value) (D : Nat) (B : Nat) (hB : w.heap.size ≤ B) (hD : D < B) : OwnFrom B (Ck2 w E D) := fun s W W' row hs hg hr => ⟨⟨_, hs.1.choose_spec.grown hg (fun r e => ⟨by have := (hr r e).1; omega, (hr r e).2⟩)⟩, hs.2.1, (hg.block D (Array.getElem?_eq_some_iff.1 hs.2.2).1 (fun e => by have := (hr D e.symm).1; omega)).trans hs.2.2⟩
theorem ck2x_own (w : World) (E : Array Value) (D : Nat) (c : Code) (B : Nat) (hB : w.heap.size ≤ B) (hD : D < B) : OwnFrom B (Ck2x w E D c) := fun s W W' row ⟨h1, err, n, h2, h3, h4, h5⟩ hg hr => ⟨h1, err, n, h2.grown hg (fun r e => ⟨by have := (hr r e).1; omega, (hr r e).2⟩), h3, h4, (hg.block D (Array.getElem?_eq_some_iff.1 h5).1 (fun e => by have := (hr D e.symm).1; omega)).trans h5⟩
theorem limit_bad {t : Ex} {pre : List (ItN)} (hp : NodesPre t pre) (hb : 400 < pre.length ∨ ∃ x ∈ pre, 40 < x.1) : checkX t = 4 := by
 rcases hb with hb | ⟨x, hx, h40⟩
 ·apply checkX_nodes
  have := hp.length_le
  rw [List.length_map, preE_length] at this; omega
 ·apply checkX_depth
  have := preE_le 1 t (projN x) (hp.subset (List.mem_map_of_mem hx))
  simp only [projN] at this; omega
theorem limit_good {t : Ex} {pre : List (ItN)} (hp : NodesAll t pre) (h1 : pre.length ≤ 400) (h2 : ∀ x ∈ pre, x.1 ≤ 40) : ¬ 400 < nodesE t ∧ ¬ 40 < depthE t := by
 constructor
 ·have := congrArg List.length (show _ = _ from hp)
  rw [List.length_map, preE_length] at this; omega
 ·obtain ⟨x, hx, he⟩ := preE_deep 1 t
  rw [← (show _ = _ from hp)] at hx
  obtain ⟨y, hy, rfl⟩ := List.mem_map.1 hx
  have := h2 y hy
  simp only [projN] at he; omega
theorem sameLow_below {lo : Nat} {A B : World} (h : Below lo A B) : SameLow lo A B := fun b off hb _ hv => (h.cell (p := ⟨b, off, none⟩) hb).trans hv
theorem ck_start (w : World) (t1 t2 t3 : TypeId) (E : Array Value) (V : World) (hV : (((w.alloc (.cells E t1)).alloc (.cells #[.int .i64 0] t2)).alloc (.cells #[.int .i64 0] t3)).alloc (.cells E t1) = V) (h1 : t1 = 36 := by rfl) (h2 : t2 = 27 := by rfl) (h3 : t3 = 3 := by rfl) :
  CkFrame w E 0 0 V ∧ V.heap[w.heap.size + 1 + 1 + 1]? = some (.cells E t1 (0, 0)) ∧ V.heap.size = w.heap.size + 1 + 1 + 1 + 1 := by
 subst h1 h2 h3
 have q1 := World.alloc_heap_new w (.cells E 36)
 have q2 := World.alloc_heap_new (w.alloc (.cells E 36)) (.cells #[.int .i64 0] 27)
 have q3 := World.alloc_heap_new ((w.alloc (.cells E 36)).alloc (.cells #[.int .i64 0] 27)) (.cells #[.int .i64 0] 3)
 have q4 := World.alloc_heap_new (((w.alloc (.cells E 36)).alloc (.cells #[.int .i64 0] 27)).alloc (.cells #[.int .i64 0] 3)) (.cells E 36)
 simp only [World.size_alloc] at q2 q3 q4
 rw [hV] at q4
 refine ⟨⟨?_, ?_, ?_, ?_, ?_⟩, q4, ?_⟩ <;> rw [← hV]
 ·exact (Below.heap_alloc _ _ _ (by simp <;> omega)).trans ((Below.heap_alloc _ _ _ (by simp <;> omega)).trans ((Below.heap_alloc _ _ _ (by simp)).trans q1))
 ·exact (Below.heap_alloc _ _ _ (by simp <;> omega)).trans ((Below.heap_alloc _ _ _ (by simp)).trans q2)
 ·exact (Below.heap_alloc _ _ _ (by simp)).trans q3
 ·simp
 ·exact ((((Below.refl _ w).alloc (Nat.le_refl _) _).alloc (by simp) _).alloc (by simp; omega) _).alloc (by simp; omega) _
 ·simp
end
section
open Go.RowKit Go.Shelf
attribute [local go_sem] Oper.semAt_some
theorem two_marks {w : World} {E : Array Value} {res n : Int} {W : World} {D D2 : Nat} (h : CkFrame w E res n W) (h2 : W.heap[D2]? = some (.deferred (some []))) (h1 : W.heap[D]? = some (.deferred (some []))) (hne : D ≠ D2) (hw2 : w.heap.size ≤ D2) (hw1 : w.heap.size ≤ D) :
  (W.putObj D2 (.deferred none)).heap[D]? = some (.deferred (some [])) ∧ ((W.putObj D2 (.deferred none)).putObj D (.deferred none)).cell? ⟨w.heap.size + 1, 0, none⟩ = some (.int .i64 res) ∧ Below w.heap.size w ((W.putObj D2 (.deferred none)).putObj D (.deferred none)) := by
 have q : (W.putObj D2 (.deferred none)).heap[D]? = some (.deferred (some [])) := (World.putObj_heap_other hne).trans h1
 refine ⟨q, ?_, ?_⟩
 ·have c1 := cell_kept (cell_of_one h.r) (grownBy_putObj' W D2 (.deferred none)) (fun r e => by cases e; exact ⟨_, h2, rfl⟩)
  exact cell_kept c1 (grownBy_putObj' _ D (.deferred none)) (fun r e => by cases e; exact ⟨_, q, rfl⟩)
 ·exact (h.below.trans (belowK_b (w := w) (Nat.le_refl _) W D2 _ _ hw2 h2 rfl rfl)).trans (belowK_b (w := w) (Nat.le_refl _) _ D _ _ hw1 q rfl rfl)
set_option maxRecDepth 100000 in
set_option maxHeartbeats 4000000 in
theorem sCheckExpr_any (k : Int) (nm mr : ByteArray) (it d : Int) (sub : List Ex) (sv : Value) (w : World) (hm : nodesL sub ≤ 1048576) (hs : SubAt w w.heap.size sub sv) :
  Calls Tryz.prog 40 #[.agg #[.int .i64 k, .string nm, .string mr, .int .i64 it, .int .i64 d, sv]] w fun e w' => e = .returned (.int .i64 (checkX (.mk k nm mr it d sub))) ∧ Below w.heap.size w w' := by
 obtain ⟨p, cap, rfl, hcap, _⟩ := subAt_open hs
 refine (callsIn_wide (n := 4)).1 ?_
 refine callsIn_of_wp_marks Tryz.func40 rfl trivial ?_ rfl
 simp only [Tryz.ntmps40, List.size_toArray, List.length_cons, List.length_nil, Nat.reduceAdd, Nat.reduceSub, Array.replicate_succ, Array.replicate_zero, List.push_toArray, List.append_toArray, List.nil_append, List.cons_append]
 gi_wp2_with (first | (refine ⟨trivial, ?_⟩; gi_at_call 83; refine (callsIn_wide.2 (snodes_any _ _ _ _ _ _ _ _ _)).mono ?_; rintro e w' ⟨rfl, rfl⟩))
 have HS := Lib.hid hs
 obtain ⟨V, hV⟩ : ∃ V, ((((w.alloc (Obj.cells #[.int .i64 k, .string nm, .string mr, .int .i64 it, .int .i64 d, .slice p sub.length cap] 36)).alloc (Obj.cells #[Value.int IntKind.i64 0] 27)).alloc (Obj.cells #[Value.int IntKind.i64 0] 3)).alloc (Obj.cells #[.int .i64 k, .string nm, .string mr, .int .i64 it, .int .i64 d, .slice p sub.length cap] 36)) = V := ⟨_, rfl⟩
 obtain ⟨hF, hb4, hz⟩ := ck_start w 36 27 3 #[.int .i64 k, .string nm, .string mr, .int .i64 it, .int .i64 d, .slice p sub.length cap] V hV
 rw [hV]
 clear hV hs
 refine wpIn_rangeFunc_R (P := Tryz.prog) (F := Fence.wide) (n := 4) rfl (by omega) (gf := 142) (lb := #[.pointer (some ⟨w.heap.size + 1 + 1 + 1, 0, none⟩)]) rfl trivial (enters_of Tryz.func142 (by kernel_rfl) rfl)
  (encs := fun x : ItN => #[.int .i64 x.1, valN x]) (Kp := KeepOut w.heap.size (w.heap.size + 1 + 1 + 1)) (R := ItStep (V.heap.size + 1 + 1)) (X := fun _ x => ExAt w w.heap.size x.2.1 (valN x))
  (S := NodesAll (.mk k nm mr it d sub)) (Sp := NodesPre (.mk k nm mr it d sub))
  (fun r l J Jx hJ _ hY hJ0 => nodes1_in 3 l (w.heap.size + 1 + 1 + 1) w.heap.size (w.heap.size + 1 + 1 + 1) (by omega) k nm mr it d sub p cap w _ HS.out (sameLow_below ((hF.below.alloc (by omega) _).alloc (by simp; omega) _)) (by omega) (Nat.le_refl _)
   ((Below.heap_alloc _ _ _ (by simp; omega)).trans ((Below.heap_alloc _ _ _ (by omega)).trans hb4)) hm J Jx (fun pre A B h1 h2 => hJ pre A B h1 (by simpa using h2)) hY hJ0)
  (fun h1 h2 => h1.trans h2) (fun W l o o' _ hl ho => KeepOut.putObj W l o o' hl ho) (fun h => h.others.from _) (fun _ => rfl)
  (Ck1 w #[.int .i64 k, .string nm, .string mr, .int .i64 it, .int .i64 d, .slice p sub.length cap]) (Ck1x w #[.int .i64 k, .string nm, .string mr, .int .i64 it, .int .i64 d, .slice p sub.length cap]) (ck1_own w _ _ (by omega)) (fun c => ck1x_own w _ c _ (by omega))
  (fun pre A B h hs => ⟨h.1.step hs (by omega), h.2⟩) (fun c pre A B h hs => ⟨h.1, ⟨_, h.2.1.choose_spec.step hs (by omega)⟩, h.2.2⟩) ⟨hF, by simp, by simp⟩
  (fun x => { tmps := #[Value.agg #[.int .i64 k, .string nm, .string mr, .int .i64 it, .int .i64 d, .slice p sub.length cap], Value.pointer (some { block := w.heap.size, off := 0 }), Value.pointer (some { block := w.heap.size + 1, off := 0 }), Value.pointer (some { block := w.heap.size + 1 + 1, off := 0 }), Value.int .i64 x.1, undef, undef, undef,
        Value.agg #[.int .i64 k, .string nm, .string mr, .int .i64 it, .int .i64 d, .slice p sub.length cap], Value.func (Fn.func 142) #[] #[Value.pointer (some { block := w.heap.size + 1 + 1 + 1, off := 0 })], Value.int .i64 x.1, valN x, undef, undef, undef, undef, undef, undef, undef, undef, undef, undef, undef, undef, undef, undef, undef, undef, undef], defers := [] }) ?assign ?body ?done ?stop
 case assign =>
  intro l x W K hK
  gi_wp2
  exact hK
 case body =>
  rintro l pre x W hI -
  have c0 := cell_of_one hI.1.c
  have f0 := free_of_one hI.1.c
  have c1 := cell_of_one hI.1.r
  have f1 := free_of_one hI.1.r
  have hle := hI.2.1
  have HI := Lib.hid hI
  clear hI
  have hsz := HI.out.1.size
  by_cases hgt : 400 < pre.length + 1
  ·have hd : decide (400 < (pre.length : Int) + 1) = true := by simp; omega
   gi_wp2_with fail
   refine ⟨((KeepsOthers.setCell _ _ _).trans (KeepsOthers.setCell _ _ _)).from _, rfl, ⟨_, (HI.out.1.setCnt _).setRes 4⟩, .inl (by simp; omega)⟩
  ·have hd : decide (400 < (pre.length : Int) + 1) = false := by simp; omega
   by_cases hx : 40 < x.1
   ·have hd2 : decide (40 < (x.1 : Int)) = true := by simp; omega
    gi_wp2_with fail
    refine ⟨((KeepsOthers.setCell _ _ _).trans (KeepsOthers.setCell _ _ _)).from _, rfl, ⟨_, (HI.out.1.setCnt _).setRes 4⟩, .inr ⟨x, by simp, hx⟩⟩
   ·have hd2 : decide (40 < (x.1 : Int)) = false := by simp; omega
    gi_wp2_with fail
    have hF' := HI.out.1.setCnt ((pre.length : Int) + 1)
    refine ⟨(KeepsOthers.setCell _ _ _).from _, (KeepOut.below (Below.refl _ _)).setCell (p := ⟨w.heap.size + 1 + 1, 0, none⟩) (by simp; omega) _, ?_, by simp; omega, ?_⟩
    ·have e1 : ((pre ++ [x]).length : Int) = (pre.length : Int) + 1 := by simp
     rw [e1]; exact hF'
    ·intro z hz
     rcases List.mem_append.1 hz with h | h
     ·exact HI.out.2.2 z h
     ·simp at h; subst h; omega
 case done =>
  rintro D xs W hD hS hI hK
  obtain ⟨hg1, hg2⟩ := limit_good hS hI.2.1 hI.2.2
  have HX := Lib.hid (checkX_good hg1 hg2)
  have hF2 := hI.1
  have hW2 : w.heap.size + 1 + 1 + 1 + 1 ≤ W.heap.size := hF2.size
  clear hI hg1 hg2 hS
  have hcell : ∀ i (h : i < 6), W.cell? ⟨w.heap.size, i, none⟩ = some (#[.int .i64 k, .string nm, .string mr, .int .i64 it, .int .i64 d, .slice p sub.length cap][i]'h) := fun i h => by simp [World.cell?, hF2.e]
  have c0 : W.cell? ⟨w.heap.size, 0, none⟩ = some (.int .i64 k) := hcell 0 (by omega)
  have c1 : W.cell? ⟨w.heap.size, 1, none⟩ = some (.string nm) := hcell 1 (by omega)
  have c2 : W.cell? ⟨w.heap.size, 2, none⟩ = some (.string mr) := hcell 2 (by omega)
  have c3 : W.cell? ⟨w.heap.size, 3, none⟩ = some (.int .i64 it) := hcell 3 (by omega)
  have c4 : W.cell? ⟨w.heap.size, 4, none⟩ = some (.int .i64 d) := hcell 4 (by omega)
  have c5 : W.cell? ⟨w.heap.size, 5, none⟩ = some (.slice p sub.length cap) := hcell 5 (by omega)
  clear hcell
  gi_wp2_with (first | (refine ⟨trivial, ?_⟩; gi_at_call 83; refine (callsIn_wide.2 (snodes_any _ _ _ _ _ _ _ _ _)).mono ?_; rintro e w' ⟨rfl, rfl⟩))
  obtain ⟨V2, hV2⟩ : ∃ V2, W.alloc (.cells #[.int .i64 k, .string nm, .string mr, .int .i64 it, .int .i64 d, .slice p sub.length cap] 36) = V2 := ⟨_, rfl⟩
  have hF3 : CkFrame w #[.int .i64 k, .string nm, .string mr, .int .i64 it, .int .i64 d, .slice p sub.length cap] 0 xs.length V2 := by rw [← hV2]; exact hF2.kept ((Below.refl _ _).alloc (Nat.le_refl _) _)
  have hb5 : V2.heap[W.heap.size]? = some (.cells #[.int .i64 k, .string nm, .string mr, .int .i64 it, .int .i64 d, .slice p sub.length cap] 36 (0, 0)) := by rw [← hV2]; exact World.alloc_heap_new W _
  have hz2 : V2.heap.size = W.heap.size + 1 := by rw [← hV2]; simp
  have hDW := (Array.getElem?_eq_some_iff.1 hK).1
  have hK2 : V2.heap[D]? = some (.deferred (some [])) := by rw [← hV2]; exact (Below.heap_alloc _ _ _ hDW).trans hK
  rw [hV2]
  clear hV2 c0 c1 c2 c3 c4 c5
  refine wpIn_rangeFunc_A (P := Tryz.prog) (F := Fence.wide) (n := 4) rfl (by omega) (gf := 142) (lb := #[.pointer (some ⟨W.heap.size, 0, none⟩)]) rfl trivial (enters_of Tryz.func142 (by kernel_rfl) rfl)
   (encs := fun x : ItN => #[.int .i64 x.1, valN x]) (Kp := KeepOut w.heap.size (w.heap.size + 1 + 1 + 1)) (R := ItStep (V2.heap.size + 1 + 1)) (X := fun _ x => ExAt w w.heap.size x.2.1 (valN x))
   (S := NodesAll (.mk k nm mr it d sub)) (Sp := NodesPre (.mk k nm mr it d sub))
   (fun r l J Jx hJ _ hY hJ0 => nodes1_in 3 l W.heap.size w.heap.size (w.heap.size + 1 + 1 + 1) (by omega) k nm mr it d sub p cap w _ HS.out (sameLow_below ((hF3.below.alloc (by omega) _).alloc (by simp; omega) _)) (by omega) (by omega)
    ((Below.heap_alloc _ _ _ (by simp; omega)).trans ((Below.heap_alloc _ _ _ (by omega)).trans hb5)) hm J Jx (fun pre A B h1 h2 => hJ pre A B h1 (by simpa using h2)) hY hJ0)
   (fun h1 h2 => h1.trans h2) (fun W l o o' _ hl ho => KeepOut.putObj W l o o' hl ho) (fun h => h.others.from _) (fun _ => rfl)
   (Ck2 w #[.int .i64 k, .string nm, .string mr, .int .i64 it, .int .i64 d, .slice p sub.length cap] D) (Ck2x w #[.int .i64 k, .string nm, .string mr, .int .i64 it, .int .i64 d, .slice p sub.length cap] D) (ck2_own w _ _ _ (by omega) (by omega)) (fun c => ck2x_own w _ _ c _ (by omega) (by omega))
   (fun pre A B h hs => ⟨⟨_, h.1.choose_spec.step hs (by omega)⟩, h.2.1, hs.others.same _ _ h.2.2 rfl⟩) (fun c pre A B h hs => by
    obtain ⟨h1, err, n, h2, h3, h4, h5⟩ := h
    exact ⟨h1, err, n, h2.step hs (by omega), h3, h4, hs.others.same _ _ h5 rfl⟩) ⟨⟨_, hF3⟩, rfl, hK2⟩
   (fun x b => { tmps := #[Value.agg #[.int .i64 k, .string nm, .string mr, .int .i64 it, .int .i64 d, .slice p sub.length cap], Value.pointer (some { block := w.heap.size, off := 0 }), Value.pointer (some { block := w.heap.size + 1, off := 0 }), Value.pointer (some { block := w.heap.size + 1 + 1, off := 0 }), undef, undef, Value.pointer (some { block := b, off := 0 }), undef,
         Value.agg #[.int .i64 k, .string nm, .string mr, .int .i64 it, .int .i64 d, .slice p sub.length cap], Value.func (Fn.func 142) #[] #[Value.pointer (some { block := w.heap.size + 1 + 1 + 1, off := 0 })], undef, undef, undef, undef, undef, undef, undef, undef, undef, undef, Value.agg #[.int .i64 k, .string nm, .string mr, .int .i64 it, .int .i64 d, .slice p sub.length cap], Value.func (Fn.func 142) #[] #[Value.pointer (some { block := W.heap.size, off := 0 })], Value.int .i64 x.1, valN x, undef, undef, undef, undef, undef], defers := [] })
   (fun x => .cells #[.int .i64 x.2.1.kind, .string x.2.1.name, .string x.2.1.more, .int .i64 x.2.1.int, .int .i64 x.2.1.den, .slice x.2.2.1 x.2.1.sub.length x.2.2.2] 36) (fun W o => KeepOut.below ((Below.refl _ _).alloc (Nat.le_refl _) _)) ?assign2 ?body2 ?done2 ?stop2
  case assign2 =>
   intro l x W K hK
   gi_wp2
   exact hK
  case body2 =>
   rintro l pre x b W5 hI - hbx hbV
   obtain ⟨⟨n5, hF5⟩, hfe, hD5⟩ := hI
   have cr := cell_of_one hF5.r
   have fr := free_of_one hF5.r
   have g0 : W5.cell? ⟨b, 0, none⟩ = some (.int .i64 x.2.1.kind) := by simp [World.cell?, hbx]
   have g1 : W5.cell? ⟨b, 1, none⟩ = some (.string x.2.1.name) := by simp [World.cell?, hbx]
   have g2 : W5.cell? ⟨b, 2, none⟩ = some (.string x.2.1.more) := by simp [World.cell?, hbx]
   have g3 : W5.cell? ⟨b, 3, none⟩ = some (.int .i64 x.2.1.int) := by simp [World.cell?, hbx]
   have g4 : W5.cell? ⟨b, 4, none⟩ = some (.int .i64 x.2.1.den) := by simp [World.cell?, hbx]
   have g5 : W5.cell? ⟨b, 5, none⟩ = some (.slice x.2.2.1 x.2.1.sub.length x.2.2.2) := by simp [World.cell?, hbx]
   have HF5 := Lib.hid hF5
   have HFE := Lib.hid hfe
   have HD5 := Lib.hid hD5
   have hs5 := hF5.size
   have HC := Lib.hid (scheckNode_any x.2.1.kind x.2.1.name x.2.1.more x.2.1.int x.2.1.den x.2.2.1 x.2.1.sub.length x.2.2.2 W5)
   obtain ⟨err, herr⟩ : ∃ err, checkN x.2.1.kind x.2.1.name x.2.1.more x.2.1.int x.2.1.den x.2.1.sub.length = err := ⟨_, rfl⟩
   rw [herr] at HC
   have HER : Hid (nodeErr x.2.1 = err) := Lib.hid herr
   clear hF5 hfe hD5 hbx herr
   by_cases hz5 : err = 0
   ·subst hz5
    gi_wp2_with (first | (refine ⟨trivial, ?_⟩; gi_at_call 84; refine (CallsIn.inRound l (callsIn_wide.2 HC.out)).mono ?_; rintro e w' ⟨rfl, hb⟩; have HB := Lib.hid hb; clear hb))
    refine ⟨(keepsOthers_below HB.out).from _, KeepOut.below HB.out, ⟨_, HF5.out.kept HB.out⟩, ?_, (HB.out.block _ (Array.getElem?_eq_some_iff.1 HD5.out).1).trans HD5.out⟩
    rw [List.map_append, firstErr_append, if_pos HFE.out]
    simp only [List.map_cons, List.map_nil, projN, firstErr, HER.out, if_true]
   ·have hz6 : (err != 0) = true := by simpa using hz5
    gi_wp2_with (first | (refine ⟨trivial, ?_⟩; gi_at_call 84; refine (CallsIn.inRound l (callsIn_wide.2 HC.out)).mono ?_; rintro e w' ⟨rfl, hb⟩; have cr' := (hb.cell (p := ⟨w.heap.size + 1, 0, none⟩) (by show w.heap.size + 1 < _; omega)).trans cr; have fr' := (hb.frozen (p := ⟨w.heap.size + 1, 0, none⟩) (by show w.heap.size + 1 < _; omega)).trans fr; have HB := Lib.hid hb; clear hb))
    refine ⟨((keepsOthers_below HB.out).trans (KeepsOthers.setCell _ _ _)).from _, rfl, err, _, (HF5.out.kept HB.out).setRes err, hz5, ?_, (KeepsOthers.setCell _ _ _).same _ _ ((HB.out.block _ (Array.getElem?_eq_some_iff.1 HD5.out).1).trans HD5.out) rfl⟩
    rw [List.map_append, firstErr_append, if_pos HFE.out]
    simp only [List.map_cons, List.map_nil, projN, firstErr, HER.out, if_neg hz5]
  case done2 =>
   rintro D2 ys W6 hD2 hS2 ⟨⟨n6, hF6⟩, hfe, hD6⟩ hK6
   have hch : checkE (.mk k nm mr it d sub) = 0 := by rw [checkE_first 1, ← (show _ = _ from hS2)]; exact hfe
   have cr := cell_of_one hF6.r
   have fr := free_of_one hF6.r
   have HF6 := Lib.hid hF6
   have HCH := Lib.hid hch
   clear hF6 hch
   gi_wp2_with fail
   have hF7 := HF6.out.setRes 0
   have hK7 := (KeepsOthers.setCell W6 ⟨w.heap.size + 1, 0, none⟩ (.int .i64 0)).same D2 _ hK6 rfl
   have hD7 := (KeepsOthers.setCell W6 ⟨w.heap.size + 1, 0, none⟩ (.int .i64 0)).same D _ hD6 rfl
   generalize W6.setCell ⟨w.heap.size + 1, 0, none⟩ (.int .i64 0) = W7 at *
   obtain ⟨hx1, hx2, hx3⟩ := two_marks hF7 hK7 hD7 (by omega) (by omega) (by omega)
   refine ⟨by simp, .inl ⟨_, _, rfl, run_takeDeferred hK7, ⟨by simp, .inl ⟨_, _, rfl, run_takeDeferred hx1, ?_⟩⟩⟩⟩
   refine ⟨.int .i64 0, ?_, ret_intE (a := 0) (by rw [HX.out, HCH.out]), hx3⟩
   simp [results, Tryz.f40, go_sem, hx2]
  case stop2 =>
   rintro D2 c pre W6 hD2 hpre ⟨rfl, err, n6, hF6, hne, hfe, hD6⟩ hK6
   have hch : checkE (.mk k nm mr it d sub) = err := by
    obtain ⟨rest, hr⟩ := hpre
    rw [checkE_first 1, ← hr, firstErr_append, hfe, if_neg hne]
   gi_wp2_with fail
   obtain ⟨hx1, hx2, hx3⟩ := two_marks hF6 hK6 hD6 (by omega) (by omega) (by omega)
   refine ⟨by simp, .inl ⟨_, _, rfl, run_takeDeferred hK6, ⟨by simp, .inl ⟨_, _, rfl, run_takeDeferred hx1, ?_⟩⟩⟩⟩
   refine ⟨.int .i64 err, ?_, ret_intE (a := err) (by rw [HX.out, hch]), hx3⟩
   simp [results, Tryz.f40, go_sem, hx2]
 case stop =>
  rintro D c pre W hD hpre ⟨rfl, ⟨n, hF2⟩, hbad⟩ hK
  have HX := Lib.hid (limit_bad hpre hbad)
  gi_wp2_with fail
  refine ⟨by simp, .inl ⟨_, _, rfl, run_takeDeferred hK, ?_⟩⟩
  have hc5 := cell_kept (cell_of_one hF2.r) (grownBy_putObj' _ D (.deferred none)) (fun r e => by cases e; exact ⟨_, hK, rfl⟩)
  refine ⟨.int .i64 4, ?_, ret_intE (a := 4) HX.out.symm, hF2.below.trans (belowK_b (w := w) (Nat.le_refl _) W D _ _ (by omega) hK rfl rfl)⟩
  simp [results, Tryz.f40, go_sem, hc5]
end
end
section
open Go Go.RowKit
mutual
def encE : Ex → List D
 | .mk k n m i d s => [.raw (.int .i64 k), .raw (.string n), .raw (.string m), .raw (.int .i64 i), .raw (.int .i64 d), .sl (encL s)]
def encL : List Ex → List (List D)
 | [] => []
 | e :: es => encE e :: encL es
end
theorem encE_eq (t : Ex) : encE t = [.raw (.int .i64 t.kind), .raw (.string t.name), .raw (.string t.more), .raw (.int .i64 t.int), .raw (.int .i64 t.den), .sl (encL t.sub)] := by cases t; rfl
theorem encL_length : ∀ l : List Ex, (encL l).length = l.length
 | [] => rfl
 | e :: es => by rw [encL]; simp [encL_length es]
theorem encE_length (t : Ex) : (encE t).length = 6 := by cases t; rfl
theorem encL_map : ∀ l : List Ex, encL l = l.map encE
 | [] => rfl
 | e :: es => by rw [encL, encL_map es]; rfl
theorem encL_getD (l : List Ex) (i : Nat) (h : i < l.length) : (encL l).getD i [] = encE l[i] := by
 rw [encL_map]; simp [List.getD_eq_getElem?_getD, h]
theorem encL_at (l : List Ex) (i : Nat) (h : i < l.length) : (encL l).getD i [] = [.raw (.int .i64 l[i].kind), .raw (.string l[i].name), .raw (.string l[i].more), .raw (.int .i64 l[i].int), .raw (.int .i64 l[i].den), .sl (encL l[i].sub)] := by
 rw [encL_getD l i h, encE_eq]
theorem encL_fit (l : List Ex) : rowsFit 6 (encL l) := by
 intro r hr
 rw [encL_map] at hr
 obtain ⟨t, _, rfl⟩ := List.mem_map.1 hr
 refine ⟨encE_length t, fun x hx => ?_⟩
 rw [encE_eq] at hx
 simp only [List.mem_cons, List.not_mem_nil, or_false] at hx
 rcases hx with rfl | rfl | rfl | rfl | rfl | rfl <;> rfl
def avE (t : Ex) : AV := .agg ((encE t).map .d)
theorem avE_eq (t : Ex) : avE t = .agg [.d (.raw (.int .i64 t.kind)), .d (.raw (.string t.name)), .d (.raw (.string t.more)), .d (.raw (.int .i64 t.int)), .d (.raw (.int .i64 t.den)), .d (.sl (encL t.sub))] := by
 rw [avE, encE_eq]; rfl
end
section
open Go.RowKit
structure XV where
 k : Int
 n : ByteArray
 m : ByteArray
 i : Int
 d : Int
 p : Option Addr
 q : Nat
 c : Nat
abbrev XV.arr (x : XV) : Array Value := #[.int .i64 x.k, .string x.n, .string x.m, .int .i64 x.i, .int .i64 x.d, .slice x.p x.q x.c]
def XAt (w : World) (t : Ex) (x : XV) : Prop := ExAt w w.heap.size t (.agg x.arr)
theorem xAt_sub {w : World} {t : Ex} {x : XV} (h : XAt w t x) : x = ⟨t.kind, t.name, t.more, t.int, t.den, x.p, t.sub.length, x.c⟩ ∧ SubAt w w.heap.size t.sub (.slice x.p t.sub.length x.c) := by
 obtain ⟨sv, he, hs⟩ := exAt_iff.1 h
 obtain ⟨k, n, m, i, d, p, q, c⟩ := x
 obtain ⟨p', c', rfl, hc, hr⟩ := id hs
 simp only [XV.arr, Value.agg.injEq, Array.mk.injEq, List.cons.injEq, and_true, Value.int.injEq, Value.string.injEq, Value.slice.injEq, true_and] at he
 obtain ⟨rfl, rfl, rfl, rfl, rfl, rfl, rfl, rfl⟩ := he
 exact ⟨rfl, hs⟩
end
section
open Go Go.RowKit
theorem rowAt_mk {w : World} {B b : Nat} : ∀ (l : List Ex) (off : Nat), (∀ k (h : k < l.length), NodeAt w B b (off + k * 6) l[k]) → RowAt w B b off l
 | [], off, _ => by simp [RowAt]
 | e :: es, off, h => by
  rw [rowAt_cons]
  refine ⟨by have h0 := h 0 (by simp); rw [Nat.zero_mul, Nat.add_zero] at h0; exact h0, rowAt_mk es (off + 6) fun k hk => ?_⟩
  have := h (k + 1) (by simpa using hk)
  rw [show off + (k + 1) * 6 = off + 6 + k * 6 by omega] at this
  exact this
theorem reads_sub {w : World} {F : Nat → Nat → Prop} (hF : ∀ b o, F b o → b < w.heap.size) (N : Nat) : ∀ (sub : List Ex) (v : Value), nodesL sub < N → Reads w F (.sl (encL sub)) v → SubAt w w.heap.size sub v := by
 induction N with
 | zero => intro sub v h; omega
 | succ N ih =>
  intro sub v hN h
  obtain ⟨p, cap, rfl, hcap⟩ := h.slice
  rw [encL_length] at hcap h ⊢
  refine ⟨p, cap, rfl, hcap, fun hpos => ?_⟩
  have hlen := encL_length sub
  have hrow : ∀ k (hk : k < sub.length), (encL sub)[k]'(by omega) = encE sub[k] := fun k hk => by
   simp only [encL_map, List.getElem_map]
  obtain ⟨b, off, hp, h0⟩ := h.row 0 (by omega) (st := 6) (by rw [hrow 0 hpos]; exact encE_length _)
  have hb : b < w.heap.size := by
   obtain ⟨h1, _⟩ := h0 0 (by rw [hrow 0 hpos, encE_length]; omega)
   exact hF _ _ h1
  refine ⟨b, off, hp, hb, rowAt_mk sub off fun k hk => ?_⟩
  obtain ⟨b', off', hp', hk0⟩ := h.row k (by omega) (st := 6) (by rw [hrow k hk]; exact encE_length _)
  rw [hp] at hp'
  simp only [Option.some.injEq, Addr.mk.injEq, and_true] at hp'
  obtain ⟨rfl, rfl⟩ := hp'
  have hn := nodesL_get sub k hk
  rw [nodesE_eq] at hn
  have cell : ∀ j (hj : j < 6), ∃ u, w.cell? ⟨b, off + k * 6 + j, none⟩ = some u ∧ Reads w F ((encE sub[k])[j]'(by rw [encE_length]; exact hj)) u := fun j hj => by
   obtain ⟨_, u, h1, h2⟩ := hk0 j (by rw [hrow k hk, encE_length]; exact hj)
   refine ⟨u, h1, ?_⟩
   have e : ((encL sub)[k]'(by omega))[j]'(by rw [hrow k hk, encE_length]; exact hj) = (encE sub[k])[j]'(by rw [encE_length]; exact hj) := by simp only [hrow k hk]
   rw [← e]; exact h2
  have enc : ∀ j (hj : j < 6), (encE sub[k])[j]'(by rw [encE_length]; exact hj) = [D.raw (.int .i64 sub[k].kind), .raw (.string sub[k].name), .raw (.string sub[k].more), .raw (.int .i64 sub[k].int), .raw (.int .i64 sub[k].den), .sl (encL sub[k].sub)][j] := fun j hj => by
   simp only [encE_eq]
  obtain ⟨u0, a0, b0⟩ := cell 0 (by omega); rw [enc 0 (by omega)] at b0
  obtain ⟨u1, a1, b1⟩ := cell 1 (by omega); rw [enc 1 (by omega)] at b1
  obtain ⟨u2, a2, b2⟩ := cell 2 (by omega); rw [enc 2 (by omega)] at b2
  obtain ⟨u3, a3, b3⟩ := cell 3 (by omega); rw [enc 3 (by omega)] at b3
  obtain ⟨u4, a4, b4⟩ := cell 4 (by omega); rw [enc 4 (by omega)] at b4
  obtain ⟨u5, a5, b5⟩ := cell 5 (by omega); rw [enc 5 (by omega)] at b5
  obtain rfl := b0.raw_eq
  obtain rfl := b1.raw_eq
  obtain rfl := b2.raw_eq
  obtain rfl := b3.raw_eq
  obtain rfl := b4.raw_eq
  exact ⟨u5, a0, a1, a2, a3, a4, a5, ih _ _ (by omega) b5⟩
theorem avE_xAt {w : World} {F : Nat → Nat → Prop} {t : Ex} {v : Value} (hF : ∀ b o, F b o → b < w.heap.size) (h : HasC w F (avE t) v) : ∃ x : XV, v = .agg x.arr ∧ XAt w t x := by
 rw [avE_eq] at h
 unfold HasC at h
 generalize hcs : [AV.d (.raw (.int .i64 t.kind)), .d (.raw (.string t.name)), .d (.raw (.string t.more)), .d (.raw (.int .i64 t.int)), .d (.raw (.int .i64 t.den)), .d (.sl (encL t.sub))] = cs at h
 cases h with
 | agg _ vs hl hh =>
  subst hcs
  match vs, hl with
  | [v0, v1, v2, v3, v4, v5], _ =>
   have g0 := hh 0 (by simp) (by simp)
   have g1 := hh 1 (by simp) (by simp)
   have g2 := hh 2 (by simp) (by simp)
   have g3 := hh 3 (by simp) (by simp)
   have g4 := hh 4 (by simp) (by simp)
   have g5 := hh 5 (by simp) (by simp)
   obtain rfl : v0 = _ := g0.raw_eq
   obtain rfl : v1 = _ := g1.raw_eq
   obtain rfl : v2 = _ := g2.raw_eq
   obtain rfl : v3 = _ := g3.raw_eq
   obtain rfl : v4 = _ := g4.raw_eq
   have h5 : Reads w F (.sl (encL t.sub)) v5 := by
    simp only [List.getElem_cons_succ, List.getElem_cons_zero] at g5
    cases g5 with
    | d h => exact h
   have hs := reads_sub hF (nodesL t.sub + 1) t.sub v5 (by omega) h5
   obtain ⟨p, cap, rfl, hcap, hat⟩ := subAt_open hs
   exact ⟨⟨t.kind, t.name, t.more, t.int, t.den, p, t.sub.length, cap⟩, rfl, by
    unfold XAt
    rw [exAt_iff]
    exact ⟨_, rfl, hs⟩⟩
theorem con_e1 {P : Program} {f : FuncId} {t : Ex} {r : Value} (he : Enters P f) (h : ∀ (x : XV) (w : World), XAt w t x → Calls P f #[.agg x.arr] w fun e w' => e = .returned r ∧ Below w.heap.size w w') : Con P f [avE t] (.d (.raw r)) := by
 refine ⟨he, rfl, fun F w vs hF _ hl hv => ?_⟩
 match vs, hl with
 | [v], _ =>
  obtain ⟨x, rfl, hx⟩ := avE_xAt hF (hv 0 (by simp) (by simp))
  exact (h x w hx).mono fun e w' h' => ⟨r, h'.1, .d (.raw _), h'.2⟩
theorem con_e2 {P : Program} {f : FuncId} {t u : Ex} {r : Value} (he : Enters P f) (h : ∀ (x y : XV) (w : World), XAt w t x → XAt w u y → Calls P f #[.agg x.arr, .agg y.arr] w fun e w' => e = .returned r ∧ Below w.heap.size w w') : Con P f [avE t, avE u] (.d (.raw r)) := by
 refine ⟨he, rfl, fun F w vs hF _ hl hv => ?_⟩
 match vs, hl with
 | [v, v'], _ =>
  obtain ⟨x, rfl, hx⟩ := avE_xAt hF (hv 0 (by simp) (by simp))
  obtain ⟨y, rfl, hy⟩ := avE_xAt hF (hv 1 (by simp) (by simp))
  exact (h x y w hx hy).mono fun e w' h' => ⟨r, h'.1, .d (.raw _), h'.2⟩
end
section
open Go.RowKit
theorem rSame_x {a b : Ex} {xa xb : XV} {w : World} (ha : XAt w a xa) (hb : XAt w b xb) (hsz : nodesE a ≤ 1099511627776) :
  Calls Tryz.prog 18 #[.agg xa.arr, .agg xb.arr] w fun e w' => e = .returned (.bool (sameE a b)) ∧ Below w.heap.size w w' := by
 obtain ⟨ea, ha⟩ := xAt_sub ha
 obtain ⟨eb, hb⟩ := xAt_sub hb
 rw [ea, eb]
 rw [nodesE_eq] at hsz
 have h := rSame_any (nodesL a.sub + 1) a.kind a.name a.more a.int a.den a.sub _ b.kind b.name b.more b.int b.den b.sub _ w (by omega) (by omega) ha hb
 rw [Ex.eta, Ex.eta] at h
 exact h
theorem rCheckExpr_x {a : Ex} {xa : XV} {w : World} (ha : XAt w a xa) (hsz : nodesE a ≤ 1048576) :
  Calls Tryz.prog 42 #[.agg xa.arr] w fun e w' => e = .returned (.int .i64 (checkX a)) ∧ Below w.heap.size w w' := by
 obtain ⟨ea, ha⟩ := xAt_sub ha
 rw [ea]
 rw [nodesE_eq] at hsz
 have h := rCheckExpr_any a.kind a.name a.more a.int a.den a.sub _ w (by omega) ha
 rw [Ex.eta] at h
 exact h
theorem sCheckExpr_x {a : Ex} {xa : XV} {w : World} (ha : XAt w a xa) (hsz : nodesE a ≤ 1048576) :
  Calls Tryz.prog 40 #[.agg xa.arr] w fun e w' => e = .returned (.int .i64 (checkX a)) ∧ Below w.heap.size w w' := by
 obtain ⟨ea, ha⟩ := xAt_sub ha
 rw [ea]
 rw [nodesE_eq] at hsz
 have h := sCheckExpr_any a.kind a.name a.more a.int a.den a.sub _ w (by omega) ha
 rw [Ex.eta] at h
 exact h
end
section
open Go Go.RowKit
theorem rSame_c (a b : Ex) (hsz : nodesE a ≤ 1099511627776) : Con Tryz.prog 18 [avE a, avE b] (.d (.raw (.bool (sameE a b)))) := con_e2 ⟨_, Tryz.func18, by decide +kernel, rfl⟩ fun _ _ _ hx hy => rSame_x hx hy hsz
theorem rCheckExpr_c (a : Ex) (hsz : nodesE a ≤ 1048576) : Con Tryz.prog 42 [avE a] (.d (.raw (.int .i64 (checkX a)))) := con_e1 ⟨_, Tryz.func42, by decide +kernel, rfl⟩ fun _ _ hx => rCheckExpr_x hx hsz
theorem sCheckExpr_c (a : Ex) (hsz : nodesE a ≤ 1048576) : Con Tryz.prog 40 [avE a] (.d (.raw (.int .i64 (checkX a)))) := con_e1 ⟨_, Tryz.func40, by decide +kernel, rfl⟩ fun _ _ hx => sCheckExpr_x hx hsz
end
section
open Go Go.RowKit
def encS (l : List ByteArray) : List (List D) := l.map fun s => [.raw (.string s)]
theorem encS_length (l : List ByteArray) : (encS l).length = l.length := by simp [encS]
theorem encS_at (l : List ByteArray) (i : Nat) (h : i < l.length) : (encS l).getD i [] = [.raw (.string l[i])] := by
 simp [encS, List.getD_eq_getElem?_getD, h]
theorem encS_fit (l : List ByteArray) : rowsFit 1 (encS l) := by
 intro r hr
 obtain ⟨s, _, rfl⟩ := List.mem_map.1 hr
 exact ⟨rfl, fun x hx => by simp at hx; subst hx; rfl⟩
theorem encS_append (a b : List ByteArray) : encS a ++ encS b = encS (a ++ b) := by simp [encS]
theorem encS_row (l : List ByteArray) : ∀ r ∈ encS l, r.length = 1 := fun r hr => (encS_fit l r hr).1
def hasS (l : List ByteArray) (s : ByteArray) : Bool := l.any fun x => decide (x = s)
def sameS : List ByteArray → List ByteArray → Bool
 | [], [] => true
 | x :: xs, y :: ys => decide (x = y) && sameS xs ys
 | _, _ => false
theorem sameS_iff : ∀ a b : List ByteArray, sameS a b = true ↔ a = b
 | [], [] => by simp [sameS]
 | x :: xs, y :: ys => by simp only [sameS, Bool.and_eq_true, decide_eq_true_eq, sameS_iff xs ys, List.cons.injEq]
 | [], y :: ys => by simp [sameS]
 | x :: xs, [] => by simp [sameS]
theorem sameS_false {a b : List ByteArray} (h : a ≠ b) : sameS a b = false := by
 cases hc : sameS a b
 ·rfl
 ·exact absurd ((sameS_iff a b).1 hc) h
abbrev ssSt (l m : List ByteArray) (q : Nat) : St := ⟨[(0, .d (.sl (encS l))), (1, .d (.sl (encS m))), (5, .d (.raw (.int .i64 q)))], [], []⟩
set_option maxRecDepth 100000 in
set_option maxHeartbeats 4000000 in
theorem rSameStrings_c (l m : List ByteArray) (hl : l.length ≤ 1048576) : Con Tryz.prog 36 [.d (.sl (encS l)), .d (.sl (encS m))] (.d (.raw (.bool (sameS l m)))) := by
 refine con_of Tryz.func36 rfl (by decide +kernel) rfl rfl (by simp [Tryz.ntmps36]) fun A hA => ?_
 rw [Tryz.ntmps36] at hA
 refine goC 300 ?_
 by_cases hlm : l.length = m.length
 ·have g0 : (decide ¬ (l.length : Int) = (m.length : Int)) = false := decide_eq_false (by omega)
  simp only [go_sem, hA, encS_length, g0]
  refine satC_loop [0, 1, 5] [] [] (fun x σ => ∃ q : Nat, q ≤ l.length ∧ x = l.length - q ∧ l.take q = m.take q ∧ σ = ssSt l m q) l.length ⟨0, by omega, by omega, rfl, by simp only [go_sem, ssSt]⟩ ?_
  rintro x σ ⟨q, hq, rfl, hf, rfl⟩
  refine goC 300 ?_
  by_cases hlt : q < l.length
  ·have g1 : decide ((q : Int) < (l.length : Int)) = true := decide_eq_true (by omega)
   by_cases he : l[q] = m[q]
   ·have g2 : (decide ¬ l[q] = m[q]) = false := decide_eq_false (by simp [he])
    simp only [go_sem, hA, ssSt, encS_length, g1, Int.toNat_natCast, encS_at l q hlt, encS_at m q (by omega), g2, mixed]
    exact ⟨⟨by omega, by omega⟩, ⟨by omega, by omega⟩, by kernel_rfl, by unfold inI64; omega, l.length - (q + 1), by omega, q + 1, by omega, rfl, by rw [List.take_succ_eq_append_getElem hlt, List.take_succ_eq_append_getElem (show q < m.length by omega), hf, he], rfl⟩
   ·have g2 : (decide ¬ l[q] = m[q]) = true := decide_eq_true he
    have hne : sameS l m = false := sameS_false fun e => he (by simp [e])
    simp only [go_sem, hA, ssSt, encS_length, g1, Int.toNat_natCast, encS_at l q hlt, encS_at m q (by omega), g2, mixed, Tryz.results36, hne]
    exact ⟨⟨by omega, by omega⟩, ⟨by omega, by omega⟩, by kernel_rfl⟩
  ·have g1 : decide ((q : Int) < (l.length : Int)) = false := decide_eq_false (by omega)
   obtain rfl : q = l.length := by omega
   have he : l = m := by rw [List.take_length, List.take_of_length_le (by omega)] at hf; exact hf
   have hs : sameS l m = true := (sameS_iff _ _).2 he
   simp only [go_sem, hA, ssSt, encS_length, g1, Tryz.results36, hs]
 ·have g0 : (decide ¬ (l.length : Int) = (m.length : Int)) = true := decide_eq_true (by omega)
  have hne : sameS l m = false := sameS_false fun e => hlm (by rw [e])
  simp only [go_sem, hA, encS_length, g0, Tryz.results36, hne]
def ltS (a b : ByteArray) : Bool := Op.bytesLess a.data.toList b.data.toList
end
section
open Go Go.RowKit
mutual
def kindsE (k : Int) : Ex → Bool
 | .mk k' _ _ _ _ s => decide (k' = k) || kindsL k s
def kindsL (k : Int) : List Ex → Bool
 | [] => false
 | e :: es => kindsE k e || kindsL k es
end
theorem kindsL_take_succ (k : Int) (l : List Ex) (q : Nat) (h : q < l.length) : kindsL k (l.take (q + 1)) = (kindsL k (l.take q) || kindsE k l[q]) := by
 have app : ∀ a b : List Ex, kindsL k (a ++ b) = (kindsL k a || kindsL k b) := fun a b => by
  induction a with
  | nil => simp [kindsL]
  | cons x xs ih => simp only [List.cons_append, kindsL, ih, Bool.or_assoc]
 rw [List.take_succ_eq_append_getElem h, app]
 simp [kindsL]
theorem kindsL_of (k : Int) (l : List Ex) (q : Nat) (h : q < l.length) (he : kindsE k l[q] = true) : kindsL k l = true := by
 induction l generalizing q with
 | nil => simp at h
 | cons x xs ih =>
  cases q with
  | zero => simp only [List.getElem_cons_zero] at he; simp [kindsL, he]
  | succ q => simp only [List.getElem_cons_succ] at he; simp [kindsL, ih q (by simpa using h) he]
abbrev cellsX (k : Int) (n m : ByteArray) (i d : Int) (s : List Ex) : List AV := [.d (.raw (.int .i64 k)), .d (.raw (.string n)), .d (.raw (.string m)), .d (.raw (.int .i64 i)), .d (.raw (.int .i64 d)), .d (.sl (encL s))]
abbrev kiSt (k : Int) (n m : ByteArray) (i d : Int) (s : List Ex) (kk : Int) (q : Nat) : St := ⟨[(1, .d (.raw (.int .i64 kk))), (2, .box 0 0), (5, .d (.raw (.int .i64 q)))], [(0, some (.cell 36 (cellsX k n m i d s)))], []⟩
set_option maxRecDepth 100000 in
set_option maxHeartbeats 4000000 in
theorem rKinds_step (N : Nat) (kk : Int) (ih : ∀ t : Ex, nodesE t < N → nodesE t ≤ 1048576 → Con Tryz.prog 72 [avE t, .d (.raw (.int .i64 kk))] (.d (.raw (.bool (kindsE kk t)))))
  (k : Int) (n m : ByteArray) (i d : Int) (s : List Ex) (hN : nodesE (.mk k n m i d s) < N + 1) (hb : nodesE (.mk k n m i d s) ≤ 1048576) : Con Tryz.prog 72 [avE (.mk k n m i d s), .d (.raw (.int .i64 kk))] (.d (.raw (.bool (kindsE kk (.mk k n m i d s))))) := by
 rw [nodesE] at hN hb
 have hlen := length_le_nodesL s
 refine con_of Tryz.func72 rfl (by decide +kernel) rfl (by simp only [AV.closed, closedL, avE, closedL_d, Bool.and_self]) (by simp [Tryz.ntmps72]) fun A hA => ?_
 rw [Tryz.ntmps72] at hA
 refine goC 300 ?_
 by_cases hk : k = kk
 ·have g0 : decide (k = kk) = true := decide_eq_true hk
  simp only [go_sem, hA, avE, encE, g0, kindsE, Bool.true_or, Tryz.results72]
 ·have g0 : decide (k = kk) = false := decide_eq_false hk
  simp only [go_sem, hA, avE, encE, g0, kindsE]
  refine satC_loop [1, 2, 5] [0] [] (fun x σ => ∃ q : Nat, q ≤ s.length ∧ x = s.length - q ∧ kindsL kk (s.take q) = false ∧ σ = kiSt k n m i d s kk q) s.length ⟨0, by omega, by omega, rfl, by simp only [go_sem, kiSt]⟩ ?_
  rintro x σ ⟨q, hq, rfl, hf, rfl⟩
  refine goC 300 ?_
  by_cases hlt : q < s.length
  ·have g1 : decide ((q : Int) < (s.length : Int)) = true := decide_eq_true (by omega)
   have hn1 := nodesL_get s q hlt
   have hc := ih s[q] (by omega) (by omega)
   simp only [go_sem, hA, kiSt, encL_length, g1, Int.toNat_natCast, encL_at s q hlt]
   refine ⟨⟨by omega, by omega⟩, ?_⟩
   cases he : kindsE kk s[q] with
   | true =>
    rw [he] at hc
    refine goCall 300 hc rfl (by simp only [go_sem, avE_eq]) (by simp only [go_sem, hA]) ?_
    simp only [go_sem, hA, Tryz.results72, kindsL_of kk s q hlt he]
   | false =>
    rw [he] at hc
    refine goCall 300 hc rfl (by simp only [go_sem, avE_eq]) (by simp only [go_sem, hA]) ?_
    simp only [go_sem, hA]
    exact ⟨by unfold inI64; omega, s.length - (q + 1), by omega, q + 1, by omega, rfl, by rw [kindsL_take_succ kk s q hlt, hf, he]; rfl, rfl⟩
  ·have g1 : decide ((q : Int) < (s.length : Int)) = false := decide_eq_false (by omega)
   obtain rfl : q = s.length := by omega
   rw [List.take_length] at hf
   simp only [go_sem, hA, kiSt, encL_length, g1, Tryz.results72, hf]
theorem rKinds_c (kk : Int) (N : Nat) : ∀ t : Ex, nodesE t < N → nodesE t ≤ 1048576 → Con Tryz.prog 72 [avE t, .d (.raw (.int .i64 kk))] (.d (.raw (.bool (kindsE kk t)))) := by
 induction N with
 | zero => intro t h; omega
 | succ N ih => intro t h hb; cases t; exact rKinds_step N kk ih _ _ _ _ _ _ h hb
end
section
open Go Go.RowKit
def itoaB (n : Int) : ByteArray := ⟨(Lib.itoa n).toArray⟩
end
section
open Go Go.RowKit
abbrev bs (l : List UInt8) : ByteArray := ⟨l.toArray⟩
def atB (l : List ByteArray) (i : Nat) : ByteArray := l.getD i ⟨#[]⟩
def nodeText (k : Int) (n m : ByteArray) (i d : Int) (l : List ByteArray) : ByteArray :=
 if k = 1 then itoaB i
 else if k = 2 then (if i = 1 then bs [116, 114, 117, 101] else bs [102, 97, 108, 115, 101])
 else if k = 3 then n
 else if k = 4 then n ++ bs [46] ++ m
 else if k = 6 then bs [40, 102, 117, 110, 32] ++ n ++ bs [32, 45, 62, 32] ++ atB l 0 ++ bs [41]
 else if k = 7 then bs [40] ++ atB l 0 ++ bs [32] ++ atB l 1 ++ bs [41]
 else if k = 8 then bs [40, 108, 101, 116, 32] ++ n ++ bs [32, 61, 32] ++ atB l 0 ++ bs [32, 105, 110, 32] ++ atB l 1 ++ bs [41]
 else if k = 9 then bs [40, 105, 102, 32] ++ atB l 0 ++ bs [32, 116, 104, 101, 110, 32] ++ atB l 1 ++ bs [32, 101, 108, 115, 101, 32] ++ atB l 2 ++ bs [41]
 else if k = 10 then bs [40] ++ atB l 0 ++ bs [32] ++ n ++ bs [32] ++ atB l 1 ++ bs [41]
 else if k = 12 then bs [40] ++ atB l 0 ++ bs [32, 58, 58, 32] ++ atB l 1 ++ bs [41]
 else if k = 13 then bs [40, 99, 97, 115, 101, 32] ++ atB l 0 ++ bs [32, 111, 102, 32, 110, 105, 108, 32, 45, 62, 32] ++ atB l 1 ++ bs [32, 124, 32] ++ n ++ bs [32, 58, 58, 32] ++ m ++ bs [32, 45, 62, 32] ++ atB l 2 ++ bs [41]
 else if k = 14 then bs [40, 99, 104, 97, 110, 99, 101, 32] ++ itoaB i ++ bs [32, 111, 102, 32] ++ itoaB d ++ bs [41]
 else if k = 15 then bs [40, 99, 111, 110, 102, 108, 105, 99, 116, 32] ++ atB l 0 ++ bs [32, 124, 124, 32] ++ atB l 1 ++ bs [32, 124, 124, 32] ++ atB l 2 ++ bs [41]
 else bs [110, 105, 108]
mutual
def txE : Ex → ByteArray
 | .mk k n m i d s => nodeText k n m i d (txL s)
def txL : List Ex → List ByteArray
 | [] => []
 | e :: es => txE e :: txL es
end
theorem encS_atB (l : List ByteArray) (i : Nat) (h : i < l.length) : (encS l).getD i [] = [.raw (.string (atB l i))] := by
 rw [encS_at l i h]
 simp [atB, List.getD_eq_getElem?_getD, h]
end
section
open Go Go.RowKit
end
end Go.Proofs.YtnnolijagpakiaaGreatDoor
namespace Go.Proofs
open Go.Shelf
end Go.Proofs
