/- The stack of rows, the blocks told by a predicate; the conflicts of an expression in order, plain. -/
import Derived.Test.YtiagjpiclnmpkaaDoorExM
import Derived.Test.YtiagjpiclnmpkaaDoorGEx
namespace Go.Proofs.YtiagjpiclnmpkaaDoor
open Go.RowKit Go.Shelf

/-- the rows lie in memory, in blocks of P -/
def RowsP (W : World) (P : Nat → Prop) : List (List Ex) → List Value → Prop
  | [], [] => True
  | r :: st, y :: ys => SubP W P r y ∧ RowsP W P st ys
  | _, _ => False
theorem rowsP_length {W : World} {P : Nat → Prop} : ∀ {st : List (List Ex)} {ys : List Value}, RowsP W P st ys → ys.length = st.length
  | [], [], _ => rfl
  | r :: st, y :: ys, h => by simp [rowsP_length h.2]
  | [], y :: ys, h => h.elim
  | r :: st, [], h => h.elim
theorem rowsP_cons {W : World} {P : Nat → Prop} {r : List Ex} {st : List (List Ex)} {ys : List Value} (h : RowsP W P (r :: st) ys) : ∃ y ys', ys = y :: ys' ∧ SubP W P r y ∧ RowsP W P st ys' := by
  cases ys with
  | nil => exact h.elim
  | cons y ys => exact ⟨y, ys, rfl, h.1, h.2⟩
theorem subP_tail {W : World} {P : Nat → Prop} {e : Ex} {es : List Ex} {b off cap n : Nat} (h : SubP W P (e :: es) (.slice (some ⟨b, off, none⟩) n cap)) : SubP W P es (.slice (some ⟨b, off + 6, none⟩) es.length (cap - 1)) := by
  obtain ⟨p, cap', he, hc, hr⟩ := h
  simp only [Value.slice.injEq] at he
  obtain ⟨rfl, rfl, rfl⟩ := he
  refine ⟨_, _, rfl, by simp at hc; omega, fun hp => ?_⟩
  obtain ⟨b', off', h1, h2, h3⟩ := hr (by simp)
  simp only [Option.some.injEq, Addr.mk.injEq, and_true] at h1
  obtain ⟨rfl, rfl⟩ := h1
  exact ⟨_, _, rfl, h2, (rowP_cons.1 h3).2⟩
theorem subP_none {W : World} {P : Nat → Prop} (p : Option Addr) (cap : Nat) : SubP W P [] (.slice p 0 cap) := ⟨p, cap, rfl, by simp, fun h => by simp at h⟩
def StackP (base T : Nat) (W : World) (P : Nat → Prop) (st : List (List Ex)) (v : Value) (wr : World) : Prop :=
  ∃ g cap cur ys, v = .slice (some ⟨g, 0, none⟩) st.length cap ∧ base ≤ g ∧ wr.heap[g]? = some (.cells cur T (0, 0)) ∧ st.length ≤ cap ∧ cap ≤ maxLen ∧ cur.size = cap ∧ cur.toList.take st.length = ys.reverse ∧ RowsP W P st ys
theorem stackP_owns {base T : Nat} {P : Nat → Prop} {W wr : World} {st : List (List Ex)} {v : Value} (h : StackP base T W P st v wr) : ∃ g cap ys, v = .slice (some ⟨g, 0, none⟩) st.length cap ∧ base ≤ g ∧ wr.ownsRow base T 1 v st.length ys.reverse ∧ RowsP W P st ys := by
  obtain ⟨g, cap, cur, ys, rfl, hb, hc, h1, h2, h3, h4, h5⟩ := h
  refine ⟨g, cap, ys, rfl, hb, ⟨by simp [rowsP_length h5], .inr ⟨g, cap, cur, rfl, hb, hc, h1, h2, by omega, by simpa using h4⟩⟩, h5⟩
theorem stackP_of_owns {base T : Nat} {P : Nat → Prop} {W wr : World} {st : List (List Ex)} {ys : List Value} {v : Value} (ho : wr.ownsRow base T 1 v st.length ys.reverse) (hn : v ≠ .slice none 0 0) (hr : RowsP W P st ys) : StackP base T W P st v wr := by
  obtain ⟨_, h | ⟨g, cap, cur, rfl, hb, hc, h1, h2, h3, h4⟩⟩ := ho
  · exact absurd h.1 hn
  · exact ⟨g, cap, cur, ys, rfl, hb, hc, h1, h2, by omega, by simpa using h4, hr⟩
theorem stackP_keep {base T lo hi : Nat} {P : Nat → Prop} {W A B : World} {st : List (List Ex)} {v : Value} (h : StackP base T W P st v A) (hk : KeepOut lo hi A B) (hh : hi ≤ base) : StackP base T W P st v B := by
  obtain ⟨g, cap, cur, ys, rfl, hb, hc, h1⟩ := h
  exact ⟨g, cap, cur, ys, rfl, hb, hk.same g _ hc rfl (.inr (by omega)), h1⟩
theorem stackP_top {base T : Nat} {P : Nat → Prop} {W0 wr : World} {r : List Ex} {st : List (List Ex)} {v : Value} (h : StackP base T W0 P (r :: st) v wr) : ∃ g cap y, v = .slice (some ⟨g, 0, none⟩) (st.length + 1) cap ∧ base ≤ g ∧ g < wr.heap.size ∧ st.length + 1 ≤ cap ∧ cap ≤ maxLen ∧ wr.cell? ⟨g, st.length, none⟩ = some y ∧ wr.frozen? ⟨g, st.length, none⟩ = false ∧ SubP W0 P r y ∧
    StackP base T W0 P st (.slice (some ⟨g, 0, none⟩) st.length cap) wr := by
  obtain ⟨g, cap, cur, ys, rfl, hb, hc, h1, h2, h3, h4, h5⟩ := h
  obtain ⟨y, ys', rfl, hy, hr⟩ := rowsP_cons h5
  have hl := rowsP_length hr
  have h1' : st.length + 1 ≤ cap := by simpa using h1
  have hty : cur[st.length]? = some y := by
    have : (cur.toList.take (st.length + 1))[st.length]? = some y := by
      have h4' : cur.toList.take (st.length + 1) = (y :: ys').reverse := h4
      rw [h4', List.reverse_cons, List.getElem?_append_right (by simp; omega)]; simp [hl]
    rw [List.getElem?_take_of_lt (by omega)] at this
    simpa using this
  refine ⟨g, cap, y, rfl, hb, (Array.getElem?_eq_some_iff.1 hc).1, h1', h2, ?_, ?_, hy, g, cap, cur, ys', rfl, hb, hc, by omega, h2, h3, ?_, hr⟩
  · simp [World.cell?, hc, hty]
  · simp [World.frozen?, hc]
  · have h4' : cur.toList.take (st.length + 1) = (y :: ys').reverse := h4
    exact take_rev h4' hl
theorem stackP_one {base T : Nat} {P : Nat → Prop} {W0 W3 : World} {sub : List Ex} {sv : Value} (hs : SubP W0 P sub sv) (hz : base ≤ W3.heap.size) : StackP base T W0 P [sub] (.slice (some ⟨W3.heap.size, 0, none⟩) 1 1) (W3.alloc (.cells #[sv] T)) :=
  ⟨W3.heap.size, 1, #[sv], [sv], rfl, hz, World.alloc_heap_new _ _, Nat.le_refl _, by unfold maxLen; omega, rfl, rfl, hs, trivial⟩
theorem stackP_set {base T : Nat} {P : Nat → Prop} {W0 wr : World} {r r' : List Ex} {st : List (List Ex)} {g cap n : Nat} {y : Value} (h : StackP base T W0 P (r :: st) (.slice (some ⟨g, 0, none⟩) n cap) wr) (hy : SubP W0 P r' y) : StackP base T W0 P (r' :: st) (.slice (some ⟨g, 0, none⟩) (st.length + 1) cap) (wr.setCell ⟨g, st.length, none⟩ y) := by
  obtain ⟨g', cap', cur, ys, he, hb, hc, h1, h2, h3, h4, h5⟩ := h
  simp only [Value.slice.injEq, Option.some.injEq, Addr.mk.injEq, and_true] at he
  obtain ⟨rfl, -, rfl⟩ := he
  obtain ⟨y0, ys', rfl, hy0, hr⟩ := rowsP_cons h5
  have hl := rowsP_length hr
  have h1' : st.length + 1 ≤ cap := by simpa using h1
  refine ⟨g, cap, cur.setIfInBounds st.length y, y :: ys', by simp, hb, ?_, h1, h2, by simpa using h3, ?_, hy, hr⟩
  · have hlt := (Array.getElem?_eq_some_iff.1 hc).1
    have hb := (Array.getElem?_eq_some_iff.1 hc).2
    simp [World.setCell, Array.getElem_modify, hlt, hb]
  · have h4' : cur.toList.take (st.length + 1) = (y0 :: ys').reverse := h4
    have e1 : cur.toList.take st.length = ys'.reverse := take_rev h4' hl
    show (cur.setIfInBounds st.length y).toList.take (st.length + 1) = (y :: ys').reverse
    rw [List.take_succ_eq_append_getElem (by simp; omega)]
    simp [e1, List.take_set_of_le]
theorem stackP_alloc {base T : Nat} {P : Nat → Prop} {W0 wr : World} {st : List (List Ex)} {v : Value} (h : StackP base T W0 P st v wr) (o : Obj) : StackP base T W0 P st v (wr.alloc o) := by
  obtain ⟨g, cap, cur, ys, rfl, hb, hc, h1⟩ := h
  exact ⟨g, cap, cur, ys, rfl, hb, (Below.heap_alloc _ _ _ (Array.getElem?_eq_some_iff.1 hc).1).trans hc, h1⟩
theorem rowP_head {W0 wr : World} {P : Nat → Prop} {e : Ex} {es : List Ex} {y : Value} (h : SubP W0 P (e :: es) y) (hl : StayP P W0 wr) : ∃ b off cy cv, y = .slice (some ⟨b, off, none⟩) (es.length + 1) cy ∧ es.length + 1 ≤ cy ∧ P b ∧ wr.cell? ⟨b, off, none⟩ = some (.int .i64 e.kind) ∧ wr.cell? ⟨b, off + 1, none⟩ = some (.string e.name) ∧ wr.cell? ⟨b, off + 2, none⟩ = some (.string e.more) ∧ wr.cell? ⟨b, off + 3, none⟩ = some (.int .i64 e.int) ∧
    wr.cell? ⟨b, off + 4, none⟩ = some (.int .i64 e.den) ∧ wr.cell? ⟨b, off + 5, none⟩ = some cv ∧ SubP W0 P e.sub cv := by
  obtain ⟨p, cap, rfl, hc, hr⟩ := h
  obtain ⟨b, off, rfl, hb, hrow⟩ := hr (by simp)
  obtain ⟨cv, h0, h1, h2, h3, h4, h5, h6⟩ := (rowP_cons.1 hrow).1
  exact ⟨b, off, cap, cv, rfl, by simpa using hc, hb, hl _ _ hb _ h0, hl _ _ hb _ h1, hl _ _ hb _ h2, hl _ _ hb _ h3, hl _ _ hb _ h4, hl _ _ hb _ h5, h6⟩
theorem stackP_push {base T : Nat} {P : Nat → Prop} {W0 w6 : World} {e : Ex} {es : List Ex} {st : List (List Ex)} {ys : List Value} {v' cv : Value} {L : Nat} (hL : st.length = L) (ho : w6.ownsRow base T 1 v' (L + 1 + 1) (ys.reverse ++ [cv])) (hn : v' ≠ .slice none 0 0) (hr : RowsP W0 P (es :: st) ys) (hc : SubP W0 P e.sub cv) :
    StackP base T W0 P (e.sub :: es :: st) v' w6 := by
  refine stackP_of_owns (ys := cv :: ys) ?_ hn ⟨hc, hr⟩
  rw [List.reverse_cons, List.length_cons, List.length_cons, hL]
  exact ho
theorem StayP.keep {lo hi : Nat} {P : Nat → Prop} {W A B : World} (h : StayP P W A) (hk : KeepOut lo hi A B) (hP : ∀ b, P b → b < lo ∨ hi ≤ b) : StayP P W B := fun b off hb v hv => keepOut_cell hk (h b off hb v hv) (hP b hb)
theorem StayP.step {base : Nat} {P : Nat → Prop} {W A B : World} (h : StayP P W A) (hk : ItStep base A B) (hP : ∀ b, P b → b < base) : StayP P W B := fun b off hb v hv => (hk.below.cell (p := ⟨b, off, none⟩) (hP b hb)).trans (h b off hb v hv)
theorem ItStep.mono {a b : Nat} {A B : World} (h : ItStep b A B) (hab : a ≤ b) : ItStep a A B := ⟨h.below.mono hab, h.others⟩

/- plain: the conflicts in order -/
def isSum (x : Nat × Ex) : Bool := x.2.kind == 15
def ConfAll (t : Ex) (xs : List (ItN)) : Prop := xs.map projN = (preE 2 t).filter isSum
def ConfPre (t : Ex) (xs : List (ItN)) : Prop := xs.map projN <+: (preE 2 t).filter isSum
def ConfRel (base T : Nat) (P : Nat → Prop) (W0 : World) (t : Ex) (J : List (ItN) → World → Prop) (m : Nat) (v : Value) (wr : World) : Prop :=
  ∃ vis pre st, StackP base T W0 P st v wr ∧ J pre wr ∧ StayP P W0 wr ∧ base ≤ wr.heap.size ∧ st.length ≤ vis.length + 1 ∧ vis ++ restL st = preE 2 t ∧ pre.map projN = vis.filter isSum ∧ m = 2 * (restL st).length + st.length
mutual
theorem confE_pre : ∀ (d : Nat) (t : Ex), ((preE d t).filter isSum).length = confE t
  | d, .mk k n m i dn s => by
    have h := confL_pre (d + 1) s
    simp only [preE, confE, List.filter_cons, isSum, Ex.kind]
    by_cases hk : k = 15
    · simp [hk, h]; omega
    · simp [hk, ← h]
theorem confL_pre : ∀ (d : Nat) (l : List Ex), ((preL d l).filter isSum).length = confL l
  | d, [] => by simp [preL, confL]
  | d, e :: es => by simp [preL, confL, confE_pre d e, confL_pre d es]
end
theorem conf_one {W : World} {k : Int} {nm mr : ByteArray} {it d : Int} {sub : List Ex} {p : Option Addr} {cap lo : Nat} {T : TypeId} (h : SubAt W lo sub (.slice p sub.length cap)) (hl : lo ≤ W.heap.size) :
    SubP (W.alloc (.cells #[.int .i64 k, .string nm, .string mr, .int .i64 it, .int .i64 d, .slice p sub.length cap] T)) (fun b => b < lo ∨ b = W.heap.size) [.mk k nm mr it d sub] (.slice (some ⟨W.heap.size, 0, none⟩) 1 1) := by
  refine ⟨_, 1, rfl, Nat.le_refl _, fun _ => ⟨W.heap.size, 0, rfl, .inr rfl, rowP_cons.2 ⟨⟨_, ?_, ?_, ?_, ?_, ?_, ?_, subP_stay (fun _ h => .inl h) (stay_below ((Below.refl _ _).alloc (Nat.le_refl _) _) (fun b hb => by omega)) (subP_of h)⟩, rowP_nil⟩⟩⟩ <;> simp [go_sem, Ex.kind, Ex.name, Ex.more, Ex.int, Ex.den]
end Go.Proofs.YtiagjpiclnmpkaaDoor
