/- The walk over the nodes of an expression with a stack of rows: plain data; what the iterator keeps in memory. The iterator over the nodes of an expression, as a range over a function wants it. -/
import Derived.Test.YtnphcjpccieljaaGreatDoorGEx
import Derived.RangeFuncWrites
import Derived.RangeFuncBound
import Derived.Deep.LoopGhost
import Derived.OwnWalkIn
import Derived.Test.YtnphcjpccieljaaGreatDoorGLexH
import Derived.Outline
namespace Go.Proofs.YtnphcjpccieljaaGreatDoor
open Go.RowKit

mutual
def preE : Nat → Ex → List (Nat × Ex)
  | d, .mk k n m i dn s => (d, .mk k n m i dn s) :: preL (d + 1) s
def preL : Nat → List Ex → List (Nat × Ex)
  | _, [] => []
  | d, e :: es => preE d e ++ preL d es
end
theorem preE_eq (d : Nat) (t : Ex) : preE d t = (d, t) :: preL (d + 1) t.sub := by cases t; simp [preE, Ex.sub]
mutual
theorem preE_length : ∀ (d : Nat) (t : Ex), (preE d t).length = nodesE t
  | d, .mk k n m i dn s => by simp [preE, nodesE, preL_length (d + 1) s]
theorem preL_length : ∀ (d : Nat) (l : List Ex), (preL d l).length = nodesL l
  | d, [] => by simp [preL, nodesL]
  | d, e :: es => by simp [preL, nodesL, preE_length d e, preL_length d es]
end
/-- what is still to come: the rows, the top one first -/
def restL : List (List Ex) → List (Nat × Ex)
  | [] => []
  | r :: st => preL (st.length + 2) r ++ restL st
theorem restL_pop (st : List (List Ex)) : restL ([] :: st) = restL st := by simp [restL, preL]
theorem restL_push (e : Ex) (es : List Ex) (st : List (List Ex)) : restL ((e :: es) :: st) = (st.length + 2, e) :: restL (e.sub :: es :: st) := by
  simp only [restL, preL, preE_eq, List.length_cons, List.cons_append, List.append_assoc]
/-- the rows lie in memory below B -/
def RowsAt (W : World) (B : Nat) : List (List Ex) → List Value → Prop
  | [], [] => True
  | r :: st, y :: ys => SubAt W B r y ∧ RowsAt W B st ys
  | _, _ => False
theorem rowsAt_length {W : World} {B : Nat} : ∀ {st : List (List Ex)} {ys : List Value}, RowsAt W B st ys → ys.length = st.length
  | [], [], _ => rfl
  | r :: st, y :: ys, h => by simp [rowsAt_length h.2]
  | [], y :: ys, h => h.elim
  | r :: st, [], h => h.elim
theorem rowsAt_cons {W : World} {B : Nat} {r : List Ex} {st : List (List Ex)} {ys : List Value} (h : RowsAt W B (r :: st) ys) : ∃ y ys', ys = y :: ys' ∧ SubAt W B r y ∧ RowsAt W B st ys' := by
  cases ys with
  | nil => exact h.elim
  | cons y ys => exact ⟨y, ys, rfl, h.1, h.2⟩
/-- the row of a part less its first element -/
theorem subAt_tail {W : World} {B : Nat} {e : Ex} {es : List Ex} {b off cap n : Nat} (h : SubAt W B (e :: es) (.slice (some ⟨b, off, none⟩) n cap)) : SubAt W B es (.slice (some ⟨b, off + 6, none⟩) es.length (cap - 1)) := by
  obtain ⟨p, cap', he, hc, hr⟩ := h
  simp only [Value.slice.injEq] at he
  obtain ⟨rfl, rfl, rfl⟩ := he
  refine ⟨_, _, rfl, by simp at hc; omega, fun hp => ?_⟩
  obtain ⟨b', off', h1, h2, h3⟩ := hr (by simp)
  simp only [Option.some.injEq, Addr.mk.injEq, and_true] at h1
  obtain ⟨rfl, rfl⟩ := h1
  exact ⟨_, _, rfl, h2, (rowAt_cons.1 h3).2⟩
theorem subAt_none {W : World} {B : Nat} (p : Option Addr) (cap : Nat) : SubAt W B [] (.slice p 0 cap) := ⟨p, cap, rfl, by simp, fun h => by simp at h⟩
/-- what the iterator does by itself: nothing below base turns, nothing but cells -/
structure ItStep (base : Nat) (A B : World) : Prop where
  below : Below base A B
  others : KeepsOthers A B
theorem ItStep.refl (base : Nat) (A : World) : ItStep base A A := ⟨Below.refl _ _, KeepsOthers.refl _⟩
theorem ItStep.trans {base : Nat} {A B C : World} (h : ItStep base A B) (k : ItStep base B C) : ItStep base A C := ⟨h.below.trans k.below, h.others.trans k.others⟩
theorem ItStep.alloc {base : Nat} {A B : World} (h : ItStep base A B) (hb : base ≤ B.heap.size) (o : Obj) : ItStep base A (B.alloc o) := ⟨h.below.alloc hb o, h.others.trans (KeepsOthers.alloc _ _)⟩
theorem ItStep.setCell {base : Nat} {A B : World} (h : ItStep base A B) {p : Addr} (hp : base ≤ p.block) (v : Value) : ItStep base A (B.setCell p v) := ⟨h.below.setCell hp v, h.others.trans (KeepsOthers.setCell _ _ _)⟩
theorem ItStep.grown {base : Nat} {A B C : World} {g : Nat} {cur : Array Value} {T : TypeId} {f : Nat × Nat} (h : ItStep base A B) (hg : B.grownBy C (some g)) (hb : base ≤ g) (hbs : base ≤ B.heap.size) (hc : B.heap[g]? = some (.cells cur T f)) : ItStep base A C :=
  ⟨h.below.trans ((Below.refl _ _).grown hg hbs (fun k e => by cases e; exact hb)), h.others.trans (KeepsOthers.of_grownBy hg (fun j o e ho => by cases e; rw [hc] at ho; cases ho; rfl))⟩
/-- what a round must keep for the iterator: all cells but those of the blocks from lo to hi -/
structure KeepOut (lo hi : Nat) (A B : World) : Prop where
  size : A.heap.size ≤ B.heap.size
  same : ∀ k o, A.heap[k]? = some o → o.isCells = true → (k < lo ∨ hi ≤ k) → B.heap[k]? = some o
theorem KeepOut.trans {lo hi : Nat} {A B C : World} (h : KeepOut lo hi A B) (k : KeepOut lo hi B C) : KeepOut lo hi A C :=
  ⟨Nat.le_trans h.size k.size, fun i o hi' ho hc => k.same i o (h.same i o hi' ho hc) ho hc⟩
theorem KeepOut.putObj {lo hi : Nat} (W : World) (l : Nat) (o o' : Obj) (hl : W.heap[l]? = some o) (ho : o.isCells = false) : KeepOut lo hi W (W.putObj l o') :=
  ⟨by simp [World.putObj], fun k x hk hx _ => (World.putObj_heap_other (by rintro rfl; rw [hl] at hk; cases hk; rw [ho] at hx; cases hx)).trans hk⟩
theorem KeepOut.below {lo hi : Nat} {A B : World} (h : Below A.heap.size A B) : KeepOut lo hi A B :=
  ⟨h.size, fun k _ hk _ _ => (h.block k (Array.getElem?_eq_some_iff.1 hk).1).trans hk⟩
theorem KeepOut.setCell {lo hi : Nat} {A B : World} (h : KeepOut lo hi A B) {p : Addr} (hp : lo ≤ p.block ∧ p.block < hi) (v : Value) : KeepOut lo hi A (B.setCell p v) :=
  ⟨by simpa [World.setCell] using h.size, fun k o hk ho hc => (Below.heap_setCell _ _ _ _ (by rintro rfl; omega)).trans (h.same k o hk ho hc)⟩
theorem keepOut_cell {lo hi : Nat} {A B : World} (h : KeepOut lo hi A B) {p : Addr} {v : Value} (hv : A.cell? p = some v) (hp : p.block < lo ∨ hi ≤ p.block) : B.cell? p = some v := by
  obtain ⟨o, ho, hc⟩ := cells_of_cell hv
  rw [← hv]
  exact World.cell?_of_block ((h.same _ o ho hc hp).trans ho.symm)
/-- the memory of the expression is as it was -/
def SameLow (lo : Nat) (W A : World) : Prop := ∀ b off, b < lo → ∀ v, W.cell? ⟨b, off, none⟩ = some v → A.cell? ⟨b, off, none⟩ = some v
theorem SameLow.refl (lo : Nat) (W : World) : SameLow lo W W := fun _ _ _ _ h => h
theorem SameLow.keep {lo hi : Nat} {W A B : World} (h : SameLow lo W A) (hk : KeepOut lo hi A B) : SameLow lo W B := fun b off hb v hv => keepOut_cell hk (h b off hb v hv) (.inl hb)
theorem SameLow.step {lo base : Nat} {W A B : World} (h : SameLow lo W A) (hk : ItStep base A B) (hl : lo ≤ base) : SameLow lo W B := fun b off hb v hv => (hk.below.cell (p := ⟨b, off, none⟩) (by show b < base; omega)).trans (h b off hb v hv)
mutual
theorem exAt_low {w w' : World} {B : Nat} (hb : SameLow B w w') : ∀ (t : Ex) (v : Value), ExAt w B t v → ExAt w' B t v
  | .mk k n m i d sub, v, h => by
    simp only [ExAt] at h ⊢
    obtain ⟨p, cap, hv, hc, hr⟩ := h
    refine ⟨p, cap, hv, hc, fun hp => ?_⟩
    obtain ⟨b, off, h1, h2, h3⟩ := hr hp
    exact ⟨b, off, h1, h2, rowAt_low hb b h2 off sub h3⟩
theorem rowAt_low {w w' : World} {B : Nat} (hb : SameLow B w w') (b : Nat) (hlt : b < B) : ∀ (off : Nat) (sub : List Ex), RowAt w B b off sub → RowAt w' B b off sub
  | _, [], _ => rowAt_nil
  | off, e :: es, h => by
    simp only [RowAt] at h ⊢
    obtain ⟨⟨c0, c1, c2, c3, c4, c5, h0, h1, h2, h3, h4, h5, he⟩, hr⟩ := h
    exact ⟨⟨c0, c1, c2, c3, c4, c5, hb _ _ hlt _ h0, hb _ _ hlt _ h1, hb _ _ hlt _ h2, hb _ _ hlt _ h3, hb _ _ hlt _ h4, hb _ _ hlt _ h5, exAt_low hb e _ he⟩, rowAt_low hb b hlt _ es hr⟩
end
theorem subAt_low {w w' : World} {B : Nat} (hb : SameLow B w w') {sub : List Ex} {sv : Value} (h : SubAt w B sub sv) : SubAt w' B sub sv := by
  obtain ⟨p, cap, hv, hc, hr⟩ := h
  refine ⟨p, cap, hv, hc, fun hp => ?_⟩
  obtain ⟨b, off, h1, h2, h3⟩ := hr hp
  exact ⟨b, off, h1, h2, rowAt_low hb b h2 off sub h3⟩
theorem subAt_mono {w : World} {B B' : Nat} (h : B ≤ B') {sub : List Ex} {sv : Value} (hs : SubAt w B sub sv) : SubAt w B' sub sv := subAt_same h (fun _ _ _ => rfl) hs
/-- the stack of rows: a row of the iterator's own -/
def StackAt (base T : Nat) (W : World) (lo : Nat) (st : List (List Ex)) (v : Value) (wr : World) : Prop :=
  ∃ g cap cur ys, v = .slice (some ⟨g, 0, none⟩) st.length cap ∧ base ≤ g ∧ wr.heap[g]? = some (.cells cur T (0, 0)) ∧ st.length ≤ cap ∧ cap ≤ maxLen ∧ cur.size = cap ∧ cur.toList.take st.length = ys.reverse ∧ RowsAt W lo st ys
theorem stack_owns {base T lo : Nat} {W wr : World} {st : List (List Ex)} {v : Value} (h : StackAt base T W lo st v wr) : ∃ g cap ys, v = .slice (some ⟨g, 0, none⟩) st.length cap ∧ base ≤ g ∧ wr.ownsRow base T 1 v st.length ys.reverse ∧ RowsAt W lo st ys := by
  obtain ⟨g, cap, cur, ys, rfl, hb, hc, h1, h2, h3, h4, h5⟩ := h
  refine ⟨g, cap, ys, rfl, hb, ⟨by simp [rowsAt_length h5], .inr ⟨g, cap, cur, rfl, hb, hc, h1, h2, by omega, by simpa using h4⟩⟩, h5⟩
theorem stack_of_owns {base T lo : Nat} {W wr : World} {st : List (List Ex)} {ys : List Value} {v : Value} (ho : wr.ownsRow base T 1 v st.length ys.reverse) (hn : v ≠ .slice none 0 0) (hr : RowsAt W lo st ys) : StackAt base T W lo st v wr := by
  obtain ⟨_, h | ⟨g, cap, cur, rfl, hb, hc, h1, h2, h3, h4⟩⟩ := ho
  · exact absurd h.1 hn
  · exact ⟨g, cap, cur, ys, rfl, hb, hc, h1, h2, by omega, by simpa using h4, hr⟩
theorem stack_keep {base T lo hi : Nat} {W A B : World} {st : List (List Ex)} {v : Value} (h : StackAt base T W lo st v A) (hk : KeepOut lo hi A B) (hh : hi ≤ base) : StackAt base T W lo st v B := by
  obtain ⟨g, cap, cur, ys, rfl, hb, hc, h1⟩ := h
  exact ⟨g, cap, cur, ys, rfl, hb, hk.same g _ hc rfl (.inr (by omega)), h1⟩
end Go.Proofs.YtnphcjpccieljaaGreatDoor

namespace Go.Proofs.YtnphcjpccieljaaGreatDoor
open Go.RowKit Go.Shelf

attribute [local go_sem] Oper.semAt_some

/-- a node as the iterator hands it over: its depth, the node, where its parts lie -/
abbrev ItN := Nat × Ex × Option Addr × Nat
abbrev valN (x : ItN) : Value := .agg #[.int .i64 x.2.1.kind, .string x.2.1.name, .string x.2.1.more, .int .i64 x.2.1.int, .int .i64 x.2.1.den, .slice x.2.2.1 x.2.1.sub.length x.2.2.2]
def projN (x : ItN) : Nat × Ex := (x.1, x.2.1)
def NodesAll (t : Ex) (xs : List (ItN)) : Prop := xs.map projN = preE 1 t
def NodesPre (t : Ex) (xs : List (ItN)) : Prop := xs.map projN <+: preE 1 t
def NodesRel (base T lo : Nat) (W0 : World) (t : Ex) (J : List (ItN) → World → Prop) (m : Nat) (v : Value) (wr : World) : Prop :=
  ∃ pre st, StackAt base T W0 lo st v wr ∧ J pre wr ∧ SameLow lo W0 wr ∧ base ≤ wr.heap.size ∧ st.length ≤ pre.length ∧ pre.map projN ++ restL st = preE 1 t ∧ m = 2 * (restL st).length + st.length
theorem take_rev {l ys : List Value} {y : Value} {n : Nat} (h : l.take (n + 1) = (y :: ys).reverse) (hl : ys.length = n) : l.take n = ys.reverse := by
  have e : l.take n = (l.take (n + 1)).take n := by rw [List.take_take, Nat.min_eq_left (by omega)]
  rw [e, h, List.reverse_cons, List.take_left' (by simpa using hl)]
/-- the cells of the stack's top -/
theorem stack_top {base T lo : Nat} {W0 wr : World} {r : List Ex} {st : List (List Ex)} {v : Value} (h : StackAt base T W0 lo (r :: st) v wr) : ∃ g cap y, v = .slice (some ⟨g, 0, none⟩) (st.length + 1) cap ∧ base ≤ g ∧ g < wr.heap.size ∧ st.length + 1 ≤ cap ∧ cap ≤ maxLen ∧ wr.cell? ⟨g, st.length, none⟩ = some y ∧ wr.frozen? ⟨g, st.length, none⟩ = false ∧ SubAt W0 lo r y ∧
    StackAt base T W0 lo st (.slice (some ⟨g, 0, none⟩) st.length cap) wr := by
  obtain ⟨g, cap, cur, ys, rfl, hb, hc, h1, h2, h3, h4, h5⟩ := h
  obtain ⟨y, ys', rfl, hy, hr⟩ := rowsAt_cons h5
  have hl := rowsAt_length hr
  have h1' : st.length + 1 ≤ cap := by simpa using h1
  have hty : cur[st.length]? = some y := by
    have : (cur.toList.take (st.length + 1))[st.length]? = some y := by
      have h4' : cur.toList.take (st.length + 1) = (y :: ys').reverse := h4
      rw [h4', List.reverse_cons, List.getElem?_append_right (by simp; omega)]; simp [hl]
    rw [List.getElem?_take_of_lt (by omega)] at this
    simpa using this
  refine ⟨g, cap, y, rfl, hb, (Array.getElem?_eq_some_iff.1 hc).1, h1', h2, ?_, ?_, hy, g, cap, cur, ys', rfl, hb, hc, by omega, h2, h3, ?_, hr⟩
  · simp [World.cell?, hc, hty]
  · simp [World.frozen?, hc]
  · have h4' : cur.toList.take (st.length + 1) = (y :: ys').reverse := h4
    exact take_rev h4' hl
theorem stack_one {base T lo : Nat} {W0 W3 : World} {sub : List Ex} {sv : Value} (hs : SubAt W0 lo sub sv) (hz : base ≤ W3.heap.size) : StackAt base T W0 lo [sub] (.slice (some ⟨W3.heap.size, 0, none⟩) 1 1) (W3.alloc (.cells #[sv] T)) :=
  ⟨W3.heap.size, 1, #[sv], [sv], rfl, hz, World.alloc_heap_new _ _, Nat.le_refl _, by unfold maxLen; omega, rfl, rfl, hs, trivial⟩
/-- the top row replaced -/
theorem stack_set {base T lo : Nat} {W0 wr : World} {r r' : List Ex} {st : List (List Ex)} {g cap n : Nat} {y : Value} (h : StackAt base T W0 lo (r :: st) (.slice (some ⟨g, 0, none⟩) n cap) wr) (hy : SubAt W0 lo r' y) : StackAt base T W0 lo (r' :: st) (.slice (some ⟨g, 0, none⟩) (st.length + 1) cap) (wr.setCell ⟨g, st.length, none⟩ y) := by
  obtain ⟨g', cap', cur, ys, he, hb, hc, h1, h2, h3, h4, h5⟩ := h
  simp only [Value.slice.injEq, Option.some.injEq, Addr.mk.injEq, and_true] at he
  obtain ⟨rfl, -, rfl⟩ := he
  obtain ⟨y0, ys', rfl, hy0, hr⟩ := rowsAt_cons h5
  have hl := rowsAt_length hr
  have h1' : st.length + 1 ≤ cap := by simpa using h1
  refine ⟨g, cap, cur.setIfInBounds st.length y, y :: ys', by simp, hb, ?_, h1, h2, by simpa using h3, ?_, hy, hr⟩
  · have hlt := (Array.getElem?_eq_some_iff.1 hc).1
    have hb := (Array.getElem?_eq_some_iff.1 hc).2
    simp [World.setCell, Array.getElem_modify, hlt, hb]
  · have h4' : cur.toList.take (st.length + 1) = (y0 :: ys').reverse := h4
    have e1 : cur.toList.take st.length = ys'.reverse := take_rev h4' hl
    show (cur.setIfInBounds st.length y).toList.take (st.length + 1) = (y :: ys').reverse
    rw [List.take_succ_eq_append_getElem (by simp; omega)]
    simp [e1, List.take_set_of_le]
theorem least_lt {p : Nat → Prop} {m M : Nat} (hp : p m) (hlt : m < M) : leastOf p < M := Nat.lt_of_le_of_lt ((leastOf_spec ⟨m, hp⟩).2 m hp) hlt
theorem stack_alloc {base T lo : Nat} {W0 wr : World} {st : List (List Ex)} {v : Value} (h : StackAt base T W0 lo st v wr) (o : Obj) : StackAt base T W0 lo st v (wr.alloc o) := by
  obtain ⟨g, cap, cur, ys, rfl, hb, hc, h1⟩ := h
  exact ⟨g, cap, cur, ys, rfl, hb, (Below.heap_alloc _ _ _ (Array.getElem?_eq_some_iff.1 hc).1).trans hc, h1⟩
/-- the first element of a row, in a later world -/
theorem row_head {W0 wr : World} {lo : Nat} {e : Ex} {es : List Ex} {y : Value} (h : SubAt W0 lo (e :: es) y) (hl : SameLow lo W0 wr) : ∃ b off cy cv, y = .slice (some ⟨b, off, none⟩) (es.length + 1) cy ∧ es.length + 1 ≤ cy ∧ b < lo ∧ wr.cell? ⟨b, off, none⟩ = some (.int .i64 e.kind) ∧ wr.cell? ⟨b, off + 1, none⟩ = some (.string e.name) ∧ wr.cell? ⟨b, off + 2, none⟩ = some (.string e.more) ∧ wr.cell? ⟨b, off + 3, none⟩ = some (.int .i64 e.int) ∧
    wr.cell? ⟨b, off + 4, none⟩ = some (.int .i64 e.den) ∧ wr.cell? ⟨b, off + 5, none⟩ = some cv ∧ SubAt W0 lo e.sub cv := by
  obtain ⟨p, cap, rfl, hc, hr⟩ := h
  obtain ⟨b, off, rfl, hb, hrow⟩ := hr (by simp)
  obtain ⟨cv, h0, h1, h2, h3, h4, h5, h6⟩ := (rowAt_cons.1 hrow).1
  exact ⟨b, off, cap, cv, rfl, by simpa using hc, hb, hl _ _ hb _ h0, hl _ _ hb _ h1, hl _ _ hb _ h2, hl _ _ hb _ h3, hl _ _ hb _ h4, hl _ _ hb _ h5, h6⟩
theorem cell1_at (w : World) (T : TypeId) (x : Value) : ∀ j u, [x][j]? = some u → (w.alloc (.cells #[x] T)).cell? ((⟨w.heap.size, 0, none⟩ : Addr).add j) = some u := by
  intro j u h
  cases j with
  | zero => simp at h; subst h; simp [Addr.add, go_sem]
  | succ j => simp at h
theorem stack_push {base T lo : Nat} {W0 w6 : World} {e : Ex} {es : List Ex} {st : List (List Ex)} {ys : List Value} {v' cv : Value} {L : Nat} (hL : st.length = L) (ho : w6.ownsRow base T 1 v' (L + 1 + 1) (ys.reverse ++ [cv])) (hn : v' ≠ .slice none 0 0) (hr : RowsAt W0 lo (es :: st) ys) (hc : SubAt W0 lo e.sub cv) :
    StackAt base T W0 lo (e.sub :: es :: st) v' w6 := by
  refine stack_of_owns (ys := cv :: ys) ?_ hn ⟨hc, hr⟩
  rw [List.reverse_cons, List.length_cons, List.length_cons, hL]
  exact ho
end Go.Proofs.YtnphcjpccieljaaGreatDoor
