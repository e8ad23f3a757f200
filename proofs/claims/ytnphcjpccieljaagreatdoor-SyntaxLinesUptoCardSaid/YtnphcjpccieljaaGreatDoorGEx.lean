/- Expressions as plain data. Functions on expressions as plain data. The merge of expressions, plain. An expression in memory, the blocks of its reading told by a predicate. -/
import Derived.WalkKit
import Derived.Below
import Derived.Lib.Hide
namespace Go.Proofs.YtnphcjpccieljaaGreatDoor
open Go.RowKit

inductive Ex where
  | mk (kind : Int) (name more : ByteArray) (int den : Int) (sub : List Ex)
namespace Ex
def kind : Ex → Int | .mk k _ _ _ _ _ => k
def name : Ex → ByteArray | .mk _ n _ _ _ _ => n
def more : Ex → ByteArray | .mk _ _ m _ _ _ => m
def int : Ex → Int | .mk _ _ _ i _ _ => i
def den : Ex → Int | .mk _ _ _ _ d _ => d
def sub : Ex → List Ex | .mk _ _ _ _ _ s => s
theorem eta (t : Ex) : Ex.mk t.kind t.name t.more t.int t.den t.sub = t := by cases t; rfl
end Ex
mutual
def nodesE : Ex → Nat
  | .mk _ _ _ _ _ s => nodesL s + 1
def nodesL : List Ex → Nat
  | [] => 0
  | e :: es => nodesE e + nodesL es
end
theorem nodesE_eq (t : Ex) : nodesE t = nodesL t.sub + 1 := by cases t; simp [nodesE, Ex.sub]
theorem nodesE_pos (t : Ex) : 0 < nodesE t := by rw [nodesE_eq]; omega
theorem nodesL_append : ∀ a b : List Ex, nodesL (a ++ b) = nodesL a + nodesL b
  | [], b => by simp [nodesL]
  | e :: es, b => by simp [nodesL, nodesL_append es b]; omega
theorem nodesL_take_succ (l : List Ex) (j : Nat) (h : j < l.length) : nodesL (l.take (j + 1)) = nodesL (l.take j) + nodesE l[j] := by
  rw [List.take_succ_eq_append_getElem h, nodesL_append]; simp [nodesL]
theorem nodesL_mem {l : List Ex} {e : Ex} (h : e ∈ l) : nodesE e ≤ nodesL l := by
  induction l with
  | nil => cases h
  | cons a r ih =>
    simp only [nodesL]
    rcases List.mem_cons.1 h with rfl | h
    · omega
    · have := ih h; omega
theorem nodesL_get (l : List Ex) (j : Nat) (h : j < l.length) : nodesE l[j] ≤ nodesL l := nodesL_mem (List.getElem_mem h)
theorem nodesL_take_le (l : List Ex) (j : Nat) : nodesL (l.take j) ≤ nodesL l := by
  have := nodesL_append (l.take j) (l.drop j)
  rw [List.take_append_drop] at this; omega
theorem length_le_nodesL : ∀ l : List Ex, l.length ≤ nodesL l
  | [] => by simp
  | e :: es => by have := length_le_nodesL es; have := nodesE_pos e; simp [nodesL]; omega

/- how an expression lies in memory: every block that its reading meets is below B -/
mutual
def ExAt (w : World) (B : Nat) : Ex → Value → Prop
  | .mk k n m i d sub, v => ∃ (p : Option Addr) (cap : Nat), v = .agg #[.int .i64 k, .string n, .string m, .int .i64 i, .int .i64 d, .slice p sub.length cap] ∧ sub.length ≤ cap ∧
      (0 < sub.length → ∃ b off, p = some ⟨b, off, none⟩ ∧ b < B ∧ RowAt w B b off sub)
def RowAt (w : World) (B : Nat) (b : Nat) : Nat → List Ex → Prop
  | _, [] => True
  | off, e :: es => (∃ c0 c1 c2 c3 c4 c5, w.cell? ⟨b, off, none⟩ = some c0 ∧ w.cell? ⟨b, off + 1, none⟩ = some c1 ∧ w.cell? ⟨b, off + 2, none⟩ = some c2 ∧ w.cell? ⟨b, off + 3, none⟩ = some c3 ∧ w.cell? ⟨b, off + 4, none⟩ = some c4 ∧ w.cell? ⟨b, off + 5, none⟩ = some c5 ∧
      ExAt w B e (.agg #[c0, c1, c2, c3, c4, c5])) ∧ RowAt w B b (off + 6) es
end
def SubAt (w : World) (B : Nat) (sub : List Ex) (sv : Value) : Prop :=
  ∃ (p : Option Addr) (cap : Nat), sv = .slice p sub.length cap ∧ sub.length ≤ cap ∧ (0 < sub.length → ∃ b off, p = some ⟨b, off, none⟩ ∧ b < B ∧ RowAt w B b off sub)
theorem exAt_iff {w : World} {B : Nat} {t : Ex} {v : Value} : ExAt w B t v ↔ ∃ sv, v = .agg #[.int .i64 t.kind, .string t.name, .string t.more, .int .i64 t.int, .int .i64 t.den, sv] ∧ SubAt w B t.sub sv := by
  cases t with
  | mk k n m i d s =>
    simp only [ExAt, SubAt, Ex.kind, Ex.name, Ex.more, Ex.int, Ex.den, Ex.sub]
    constructor
    · rintro ⟨p, cap, rfl, h⟩; exact ⟨_, rfl, p, cap, rfl, h⟩
    · rintro ⟨_, rfl, p, cap, rfl, h⟩; exact ⟨p, cap, rfl, h⟩
/-- the node at an address -/
def NodeAt (w : World) (B : Nat) (b off : Nat) (t : Ex) : Prop :=
  ∃ sv, w.cell? ⟨b, off, none⟩ = some (.int .i64 t.kind) ∧ w.cell? ⟨b, off + 1, none⟩ = some (.string t.name) ∧ w.cell? ⟨b, off + 2, none⟩ = some (.string t.more) ∧ w.cell? ⟨b, off + 3, none⟩ = some (.int .i64 t.int) ∧ w.cell? ⟨b, off + 4, none⟩ = some (.int .i64 t.den) ∧
    w.cell? ⟨b, off + 5, none⟩ = some sv ∧ SubAt w B t.sub sv
theorem rowAt_cons {w : World} {B b off : Nat} {e : Ex} {es : List Ex} : RowAt w B b off (e :: es) ↔ NodeAt w B b off e ∧ RowAt w B b (off + 6) es := by
  simp only [RowAt, NodeAt, exAt_iff]
  constructor
  · rintro ⟨⟨c0, c1, c2, c3, c4, c5, h0, h1, h2, h3, h4, h5, sv, he, hs⟩, hr⟩
    simp only [Value.agg.injEq, Array.mk.injEq, List.cons.injEq, and_true] at he
    obtain ⟨rfl, rfl, rfl, rfl, rfl, rfl⟩ := he
    exact ⟨⟨_, h0, h1, h2, h3, h4, h5, hs⟩, hr⟩
  · rintro ⟨⟨sv, h0, h1, h2, h3, h4, h5, hs⟩, hr⟩
    exact ⟨⟨_, _, _, _, _, _, h0, h1, h2, h3, h4, h5, sv, rfl, hs⟩, hr⟩
theorem rowAt_nil {w : World} {B b off : Nat} : RowAt w B b off [] := by simp [RowAt]
theorem row_get {w : World} {B b : Nat} : ∀ {sub : List Ex} {off : Nat}, RowAt w B b off sub → ∀ k (h : k < sub.length), NodeAt w B b (off + k * 6) sub[k]
  | [], _, _, k, h => by simp at h
  | e :: es, off, hr, 0, h => by simpa using (rowAt_cons.1 hr).1
  | e :: es, off, hr, k + 1, h => by
    have := row_get (rowAt_cons.1 hr).2 k (by simpa using h)
    have e1 : off + (k + 1) * 6 = off + 6 + k * 6 := by omega
    rw [e1]; simpa using this
theorem row_mk {w : World} {B b : Nat} : ∀ {sub : List Ex} {off : Nat}, (∀ k (h : k < sub.length), NodeAt w B b (off + k * 6) sub[k]) → RowAt w B b off sub
  | [], _, _ => rowAt_nil
  | e :: es, off, hr => rowAt_cons.2 ⟨by (have h0 : NodeAt w B b (off + 0 * 6) e := hr 0 (by simp)); (simpa using h0), row_mk (fun k h => by
      have := hr (k + 1) (by simpa using h)
      have e1 : off + (k + 1) * 6 = off + 6 + k * 6 := by omega
      rw [e1] at this; simpa using this)⟩
theorem row_drop {w : World} {B b off : Nat} {sub : List Ex} (h : RowAt w B b off sub) (k : Nat) (hk : k ≤ sub.length) : RowAt w B b (off + k * 6) (sub.drop k) :=
  row_mk fun j hj => by
    have := row_get h (k + j) (by simp at hj; omega)
    have e1 : off + (k + j) * 6 = off + k * 6 + j * 6 := by omega
    rw [e1] at this; simpa using this
/- an expression lies as before where the blocks below B are as before -/
mutual
theorem exAt_same {w w' : World} {B B' : Nat} (hB : B ≤ B') (hb : ∀ b off, b < B → w'.cell? ⟨b, off, none⟩ = w.cell? ⟨b, off, none⟩) : ∀ (t : Ex) (v : Value), ExAt w B t v → ExAt w' B' t v
  | .mk k n m i d sub, v, h => by
    simp only [ExAt] at h ⊢
    obtain ⟨p, cap, hv, hc, hr⟩ := h
    refine ⟨p, cap, hv, hc, fun hp => ?_⟩
    obtain ⟨b, off, h1, h2, h3⟩ := hr hp
    exact ⟨b, off, h1, by omega, rowAt_same hB hb b h2 off sub h3⟩
theorem rowAt_same {w w' : World} {B B' : Nat} (hB : B ≤ B') (hb : ∀ b off, b < B → w'.cell? ⟨b, off, none⟩ = w.cell? ⟨b, off, none⟩) (b : Nat) (hlt : b < B) : ∀ (off : Nat) (sub : List Ex), RowAt w B b off sub → RowAt w' B' b off sub
  | _, [], _ => rowAt_nil
  | off, e :: es, h => by
    simp only [RowAt] at h ⊢
    obtain ⟨⟨c0, c1, c2, c3, c4, c5, h0, h1, h2, h3, h4, h5, he⟩, hr⟩ := h
    exact ⟨⟨c0, c1, c2, c3, c4, c5, (hb _ _ hlt).trans h0, (hb _ _ hlt).trans h1, (hb _ _ hlt).trans h2, (hb _ _ hlt).trans h3, (hb _ _ hlt).trans h4, (hb _ _ hlt).trans h5, exAt_same hB hb e _ he⟩, rowAt_same hB hb b hlt _ es hr⟩
end
theorem subAt_same {w w' : World} {B B' : Nat} (hB : B ≤ B') (hb : ∀ b off, b < B → w'.cell? ⟨b, off, none⟩ = w.cell? ⟨b, off, none⟩) {sub : List Ex} {sv : Value} (h : SubAt w B sub sv) : SubAt w' B' sub sv := by
  obtain ⟨p, cap, hv, hc, hr⟩ := h
  refine ⟨p, cap, hv, hc, fun hp => ?_⟩
  obtain ⟨b, off, h1, h2, h3⟩ := hr hp
  exact ⟨b, off, h1, by omega, rowAt_same hB hb b h2 off sub h3⟩
theorem subAt_below {w w' : World} {B B' : Nat} {sub : List Ex} {sv : Value} (h : SubAt w B sub sv) (hb : Below B w w') (hB : B ≤ B') : SubAt w' B' sub sv :=
  subAt_same hB (fun b off hlt => hb.cell (p := ⟨b, off, none⟩) hlt) h
theorem exAt_below {w w' : World} {B B' : Nat} {t : Ex} {v : Value} (h : ExAt w B t v) (hb : Below B w w') (hB : B ≤ B') : ExAt w' B' t v :=
  exAt_same hB (fun b off hlt => hb.cell (p := ⟨b, off, none⟩) hlt) t v h
/-- the parts of an expression whose slice is known: the slice's form, and each part's cells -/
theorem subAt_open {w : World} {B : Nat} {sub : List Ex} {sv : Value} (h : SubAt w B sub sv) : ∃ (p : Option Addr) (cap : Nat), sv = .slice p sub.length cap ∧ sub.length ≤ cap ∧ ∀ k (hk : k < sub.length), ∃ b off, p = some ⟨b, off, none⟩ ∧ b < B ∧ NodeAt w B b (off + k * 6) sub[k] := by
  obtain ⟨p, cap, hv, hc, hr⟩ := h
  refine ⟨p, cap, hv, hc, fun k hk => ?_⟩
  obtain ⟨b, off, h1, h2, h3⟩ := hr (by omega)
  exact ⟨b, off, h1, h2, row_get h3 k hk⟩
theorem nodeAt_below {w w' : World} {B B' b off : Nat} {t : Ex} (h : NodeAt w B b off t) (hb : Below B w w') (hB : B ≤ B') (hlt : b < B) : NodeAt w' B' b off t := by
  obtain ⟨sv, h0, h1, h2, h3, h4, h5, h6⟩ := h
  exact ⟨sv, (hb.cell (p := ⟨b, _, none⟩) hlt).trans h0, (hb.cell (p := ⟨b, _, none⟩) hlt).trans h1, (hb.cell (p := ⟨b, _, none⟩) hlt).trans h2, (hb.cell (p := ⟨b, _, none⟩) hlt).trans h3, (hb.cell (p := ⟨b, _, none⟩) hlt).trans h4, (hb.cell (p := ⟨b, _, none⟩) hlt).trans h5, subAt_below h6 hb hB⟩
/-- a struct parameter in its box -/
structure Boxed (w : World) (cs : Array Value) (w1 : World) : Prop where
  below : Below w.heap.size w w1
  size : w.heap.size < w1.heap.size
  cell : ∀ i (h : i < cs.size), w1.cell? ⟨w.heap.size, i, none⟩ = some cs[i]
  frozen : ∀ i, i < cs.size → w1.frozen? ⟨w.heap.size, i, none⟩ = false
  next : w1.heap.size = w.heap.size + 1
theorem boxed (w : World) (cs : Array Value) (T : TypeId) : ∃ w1, w.alloc (.cells cs T) = w1 ∧ Boxed w cs w1 := by
  refine ⟨_, rfl, (Below.refl _ _).alloc (Nat.le_refl _) _, by simp, fun i h => ?_, fun i h => ?_, by simp⟩
  · simp [go_sem, h]
  · simp [go_sem]
theorem boxed6 {w w1 w2 : World} {c0 c1 c2 c3 c4 c5 : Value} (hX : Boxed w #[c0, c1, c2, c3, c4, c5] w1) (hb : Below w1.heap.size w1 w2) :
    w2.cell? ⟨w.heap.size, 0, none⟩ = some c0 ∧ w2.cell? ⟨w.heap.size, 1, none⟩ = some c1 ∧ w2.cell? ⟨w.heap.size, 2, none⟩ = some c2 ∧ w2.cell? ⟨w.heap.size, 3, none⟩ = some c3 ∧ w2.cell? ⟨w.heap.size, 4, none⟩ = some c4 ∧ w2.cell? ⟨w.heap.size, 5, none⟩ = some c5 :=
  ⟨(hb.cell (p := ⟨w.heap.size, 0, none⟩) hX.size).trans (hX.cell 0 (by simp)), (hb.cell (p := ⟨w.heap.size, 1, none⟩) hX.size).trans (hX.cell 1 (by simp)), (hb.cell (p := ⟨w.heap.size, 2, none⟩) hX.size).trans (hX.cell 2 (by simp)),
   (hb.cell (p := ⟨w.heap.size, 3, none⟩) hX.size).trans (hX.cell 3 (by simp)), (hb.cell (p := ⟨w.heap.size, 4, none⟩) hX.size).trans (hX.cell 4 (by simp)), (hb.cell (p := ⟨w.heap.size, 5, none⟩) hX.size).trans (hX.cell 5 (by simp))⟩
theorem boxed5 {w w1 w2 : World} {c0 c1 c2 c3 c4 : Value} (hX : Boxed w #[c0, c1, c2, c3, c4] w1) (hb : Below w1.heap.size w1 w2) :
    w2.cell? ⟨w.heap.size, 0, none⟩ = some c0 ∧ w2.cell? ⟨w.heap.size, 1, none⟩ = some c1 ∧ w2.cell? ⟨w.heap.size, 2, none⟩ = some c2 ∧ w2.cell? ⟨w.heap.size, 3, none⟩ = some c3 ∧ w2.cell? ⟨w.heap.size, 4, none⟩ = some c4 :=
  ⟨(hb.cell (p := ⟨w.heap.size, 0, none⟩) hX.size).trans (hX.cell 0 (by simp)), (hb.cell (p := ⟨w.heap.size, 1, none⟩) hX.size).trans (hX.cell 1 (by simp)), (hb.cell (p := ⟨w.heap.size, 2, none⟩) hX.size).trans (hX.cell 2 (by simp)),
   (hb.cell (p := ⟨w.heap.size, 3, none⟩) hX.size).trans (hX.cell 3 (by simp)), (hb.cell (p := ⟨w.heap.size, 4, none⟩) hX.size).trans (hX.cell 4 (by simp))⟩
theorem boxed3 {w w1 w2 : World} {c0 c1 c2 : Value} (hX : Boxed w #[c0, c1, c2] w1) (hb : Below w1.heap.size w1 w2) :
    w2.cell? ⟨w.heap.size, 0, none⟩ = some c0 ∧ w2.cell? ⟨w.heap.size, 1, none⟩ = some c1 ∧ w2.cell? ⟨w.heap.size, 2, none⟩ = some c2 :=
  ⟨(hb.cell (p := ⟨w.heap.size, 0, none⟩) hX.size).trans (hX.cell 0 (by simp)), (hb.cell (p := ⟨w.heap.size, 1, none⟩) hX.size).trans (hX.cell 1 (by simp)), (hb.cell (p := ⟨w.heap.size, 2, none⟩) hX.size).trans (hX.cell 2 (by simp))⟩
/-- what the loop over the parts needs of part j, in a later world -/
theorem subAt_at {w wr : World} {sub : List Ex} {p : Option Addr} {n cap : Nat} (h : SubAt w w.heap.size sub (.slice p n cap)) (hb : Below w.heap.size w wr) (j : Nat) (hj : j < sub.length) :
    ∃ b off cv, p = some ⟨b, off, none⟩ ∧ wr.cell? ⟨b, off + j * 6, none⟩ = some (.int .i64 sub[j].kind) ∧ wr.cell? ⟨b, off + j * 6 + 1, none⟩ = some (.string sub[j].name) ∧ wr.cell? ⟨b, off + j * 6 + 2, none⟩ = some (.string sub[j].more) ∧ wr.cell? ⟨b, off + j * 6 + 3, none⟩ = some (.int .i64 sub[j].int) ∧
      wr.cell? ⟨b, off + j * 6 + 4, none⟩ = some (.int .i64 sub[j].den) ∧ wr.cell? ⟨b, off + j * 6 + 5, none⟩ = some cv ∧ SubAt wr wr.heap.size sub[j].sub cv := by
  obtain ⟨p', cap', he, _, hk⟩ := subAt_open h
  simp only [Value.slice.injEq] at he
  obtain ⟨rfl, -, -⟩ := he
  obtain ⟨b, off, hp, hlt, hN⟩ := hk j hj
  obtain ⟨cv, h0, h1, h2, h3, h4, h5, h6⟩ := nodeAt_below hN hb hb.size hlt
  exact ⟨b, off, cv, hp, h0, h1, h2, h3, h4, h5, h6⟩
end Go.Proofs.YtnphcjpccieljaaGreatDoor

namespace Go.Proofs.YtnphcjpccieljaaGreatDoor

mutual
def depthE : Ex → Nat
  | .mk _ _ _ _ _ s => depthL s + 1
def depthL : List Ex → Nat
  | [] => 0
  | e :: es => max (depthE e) (depthL es)
end
theorem depthE_eq (t : Ex) : depthE t = depthL t.sub + 1 := by cases t; simp [depthE, Ex.sub]
theorem depthL_append : ∀ a b : List Ex, depthL (a ++ b) = max (depthL a) (depthL b)
  | [], b => by simp [depthL]
  | e :: es, b => by simp only [depthL, List.cons_append, depthL_append es b]; omega
theorem depthL_take_succ (l : List Ex) (j : Nat) (h : j < l.length) : depthL (l.take (j + 1)) = max (depthL (l.take j)) (depthE l[j]) := by
  rw [List.take_succ_eq_append_getElem h, depthL_append]; simp [depthL]
mutual
theorem depthE_le : ∀ t : Ex, depthE t ≤ nodesE t
  | .mk _ _ _ _ _ s => by have := depthL_le s; simp only [depthE, nodesE]; omega
theorem depthL_le : ∀ l : List Ex, depthL l ≤ nodesL l
  | [] => by simp [depthL]
  | e :: es => by have := depthE_le e; have := depthL_le es; simp only [depthL, nodesL]; omega
end
theorem depthL_take_le (l : List Ex) (j : Nat) : depthL (l.take j) ≤ depthL l := by
  have := depthL_append (l.take j) (l.drop j)
  rw [List.take_append_drop] at this; omega
mutual
def longE : Ex → Bool
  | .mk _ n m _ _ s => decide (100 < n.size) || decide (100 < m.size) || longL s
def longL : List Ex → Bool
  | [] => false
  | e :: es => longE e || longL es
end
theorem longE_eq (t : Ex) : longE t = (decide (100 < t.name.size) || decide (100 < t.more.size) || longL t.sub) := by cases t; rw [longE]; rfl
theorem longL_append : ∀ a b : List Ex, longL (a ++ b) = (longL a || longL b)
  | [], b => by simp [longL]
  | e :: es, b => by simp [longL, longL_append es b, Bool.or_assoc]
theorem longL_take_succ (l : List Ex) (j : Nat) (h : j < l.length) : longL (l.take (j + 1)) = (longL (l.take j) || longE l[j]) := by
  rw [List.take_succ_eq_append_getElem h, longL_append]; simp [longL]
theorem longL_of {l : List Ex} {j : Nat} (h : j < l.length) (he : longE l[j] = true) : longL l = true := by
  have h1 := longL_append (l.take (j + 1)) (l.drop (j + 1))
  rw [List.take_append_drop, longL_take_succ l j h, he] at h1
  simp [h1]
mutual
def confE : Ex → Nat
  | .mk k _ _ _ _ s => (if k = 15 then 1 else 0) + confL s
def confL : List Ex → Nat
  | [] => 0
  | e :: es => confE e + confL es
end
theorem confE_eq (t : Ex) : confE t = (if t.kind = 15 then 1 else 0) + confL t.sub := by cases t; rw [confE]; rfl
theorem confL_append : ∀ a b : List Ex, confL (a ++ b) = confL a + confL b
  | [], b => by simp [confL]
  | e :: es, b => by simp [confL, confL_append es b]; omega
theorem confL_take_succ (l : List Ex) (j : Nat) (h : j < l.length) : confL (l.take (j + 1)) = confL (l.take j) + confE l[j] := by
  rw [List.take_succ_eq_append_getElem h, confL_append]; simp [confL]
mutual
theorem confE_le : ∀ t : Ex, confE t ≤ nodesE t
  | .mk _ _ _ _ _ s => by have := confL_le s; simp only [confE, nodesE]; split <;> omega
theorem confL_le : ∀ l : List Ex, confL l ≤ nodesL l
  | [] => by simp [confL]
  | e :: es => by have := confE_le e; have := confL_le es; simp only [confL, nodesL]; omega
end
theorem confL_take_le (l : List Ex) (j : Nat) : confL (l.take j) ≤ confL l := by
  have := confL_append (l.take j) (l.drop j)
  rw [List.take_append_drop] at this; omega
/-- equal but for the parts -/
def alikeE (a b : Ex) : Bool := decide (a.kind = b.kind) && decide (a.name = b.name) && decide (a.more = b.more) && decide (a.int = b.int) && decide (a.den = b.den) && decide (a.sub.length = b.sub.length)
theorem alikeE_iff (a b : Ex) : alikeE a b = true ↔ a.kind = b.kind ∧ a.name = b.name ∧ a.more = b.more ∧ a.int = b.int ∧ a.den = b.den ∧ a.sub.length = b.sub.length := by
  simp [alikeE, and_assoc]
mutual
def sameE : Ex → Ex → Bool
  | .mk k n m i d s, .mk k' n' m' i' d' s' => decide (k = k') && decide (n = n') && decide (m = m') && decide (i = i') && decide (d = d') && sameL s s'
def sameL : List Ex → List Ex → Bool
  | [], [] => true
  | a :: as, b :: bs => sameE a b && sameL as bs
  | _, _ => false
end
mutual
theorem sameE_iff : ∀ a b : Ex, sameE a b = true ↔ a = b
  | .mk k n m i d s, .mk k' n' m' i' d' s' => by
    simp only [sameE, Bool.and_eq_true, decide_eq_true_eq, sameL_iff s s', Ex.mk.injEq, and_assoc]
theorem sameL_iff : ∀ a b : List Ex, sameL a b = true ↔ a = b
  | [], [] => by simp [sameL]
  | a :: as, b :: bs => by simp only [sameL, Bool.and_eq_true, sameE_iff a b, sameL_iff as bs, List.cons.injEq]
  | [], b :: bs => by simp [sameL]
  | a :: as, [] => by simp [sameL]
end
theorem sameE_false {a b : Ex} (h : a ≠ b) : sameE a b = false := by
  cases hc : sameE a b
  · rfl
  · exact absurd ((sameE_iff a b).1 hc) h
theorem sameE_refl (a : Ex) : sameE a a = true := (sameE_iff a a).2 rfl
theorem sameL_append : ∀ (a b a' b' : List Ex), a.length = a'.length → sameL (a ++ b) (a' ++ b') = (sameL a a' && sameL b b')
  | [], b, [], b', _ => by simp [sameL]
  | x :: xs, b, y :: ys, b', h => by simp only [List.cons_append, sameL, sameL_append xs b ys b' (by simpa using h), Bool.and_assoc]
  | [], b, y :: ys, b', h => by simp at h
  | x :: xs, b, [], b', h => by simp at h
theorem sameL_take_succ (l m : List Ex) (j : Nat) (h : j < l.length) (h' : j < m.length) : sameL (l.take (j + 1)) (m.take (j + 1)) = (sameL (l.take j) (m.take j) && sameE l[j] m[j]) := by
  rw [List.take_succ_eq_append_getElem h, List.take_succ_eq_append_getElem h', sameL_append _ _ _ _ (by simp; omega)]; simp [sameL]
theorem sameL_bad {l m : List Ex} {j : Nat} (hl : l.length = m.length) (h : j < l.length) (h' : j < m.length) (he : sameE l[j] m[j] = false) : sameL l m = false := by
  have h1 := sameL_append (l.take (j + 1)) (l.drop (j + 1)) (m.take (j + 1)) (m.drop (j + 1)) (by simp; omega)
  rw [List.take_append_drop, List.take_append_drop, sameL_take_succ l m j h h', he] at h1
  simp [h1]
theorem sameE_alike (a b : Ex) : sameE a b = (alikeE a b && sameL a.sub b.sub) := by
  cases a; cases b
  rename_i k n m i d s k' n' m' i' d' s'
  simp only [sameE, alikeE, Ex.kind, Ex.name, Ex.more, Ex.int, Ex.den, Ex.sub]
  cases hs : sameL s s'
  · simp
  · have : s = s' := (sameL_iff _ _).1 hs
    subst this; simp; rfl
end Go.Proofs.YtnphcjpccieljaaGreatDoor

namespace Go.Proofs.YtnphcjpccieljaaGreatDoor

def sumE (l b r : Ex) : Ex := .mk 15 ⟨#[]⟩ ⟨#[]⟩ 0 0 [l, b, r]
/-- the parts are merged one by one -/
def partsB (b l r : Ex) : Bool := alikeE b l && alikeE b r && decide (b.kind ≠ 15) && decide (0 < b.sub.length)
mutual
def mergeE : Ex → Ex → Ex → Ex
  | .mk k n m i d s, l, r =>
    if sameE l r || sameE r (.mk k n m i d s) then l else
    if sameE l (.mk k n m i d s) then r else
    if partsB (.mk k n m i d s) l r then .mk k n m i d (mergeL s l.sub r.sub) else sumE l (.mk k n m i d s) r
def mergeL : List Ex → List Ex → List Ex → List Ex
  | b :: bs, l :: ls, r :: rs => mergeE b l r :: mergeL bs ls rs
  | _, _, _ => []
end
theorem mergeE_eq (b l r : Ex) : mergeE b l r = if sameE l r || sameE r b then l else if sameE l b then r else if partsB b l r then .mk b.kind b.name b.more b.int b.den (mergeL b.sub l.sub r.sub) else sumE l b r := by
  cases b; rw [mergeE]; rfl
theorem mergeL_length : ∀ (b l r : List Ex), b.length = l.length → b.length = r.length → (mergeL b l r).length = b.length
  | [], l, r, _, _ => by cases l <;> cases r <;> simp [mergeL]
  | b :: bs, l :: ls, r :: rs, h1, h2 => by simp [mergeL, mergeL_length bs ls rs (by simpa using h1) (by simpa using h2)]
  | b :: bs, [], r, h1, _ => by simp at h1
  | b :: bs, l :: ls, [], _, h2 => by simp at h2
theorem mergeL_get : ∀ (b l r : List Ex) (j : Nat) (hb : j < b.length) (hl : j < l.length) (hr : j < r.length) (hm : j < (mergeL b l r).length), (mergeL b l r)[j] = mergeE b[j] l[j] r[j]
  | b :: bs, l :: ls, r :: rs, 0, _, _, _, _ => by simp [mergeL]
  | b :: bs, l :: ls, r :: rs, j + 1, hb, hl, hr, hm => by
    simp only [mergeL, List.getElem_cons_succ]
    exact mergeL_get bs ls rs j (by simpa using hb) (by simpa using hl) (by simpa using hr) _
  | [], _, _, j, hb, _, _, _ => by simp at hb
  | b :: bs, [], _, j, _, hl, _, _ => by simp at hl
  | b :: bs, l :: ls, [], j, _, _, hr, _ => by simp at hr
end Go.Proofs.YtnphcjpccieljaaGreatDoor

namespace Go.Proofs.YtnphcjpccieljaaGreatDoor
open Go.RowKit

mutual
def ExP (w : World) (P : Nat → Prop) : Ex → Value → Prop
  | .mk k n m i d sub, v => ∃ (p : Option Addr) (cap : Nat), v = .agg #[.int .i64 k, .string n, .string m, .int .i64 i, .int .i64 d, .slice p sub.length cap] ∧ sub.length ≤ cap ∧
      (0 < sub.length → ∃ b off, p = some ⟨b, off, none⟩ ∧ P b ∧ RowP w P b off sub)
def RowP (w : World) (P : Nat → Prop) (b : Nat) : Nat → List Ex → Prop
  | _, [] => True
  | off, e :: es => (∃ c0 c1 c2 c3 c4 c5, w.cell? ⟨b, off, none⟩ = some c0 ∧ w.cell? ⟨b, off + 1, none⟩ = some c1 ∧ w.cell? ⟨b, off + 2, none⟩ = some c2 ∧ w.cell? ⟨b, off + 3, none⟩ = some c3 ∧ w.cell? ⟨b, off + 4, none⟩ = some c4 ∧ w.cell? ⟨b, off + 5, none⟩ = some c5 ∧
      ExP w P e (.agg #[c0, c1, c2, c3, c4, c5])) ∧ RowP w P b (off + 6) es
end
def SubP (w : World) (P : Nat → Prop) (sub : List Ex) (sv : Value) : Prop :=
  ∃ (p : Option Addr) (cap : Nat), sv = .slice p sub.length cap ∧ sub.length ≤ cap ∧ (0 < sub.length → ∃ b off, p = some ⟨b, off, none⟩ ∧ P b ∧ RowP w P b off sub)
theorem exP_iff {w : World} {P : Nat → Prop} {t : Ex} {v : Value} : ExP w P t v ↔ ∃ sv, v = .agg #[.int .i64 t.kind, .string t.name, .string t.more, .int .i64 t.int, .int .i64 t.den, sv] ∧ SubP w P t.sub sv := by
  cases t with
  | mk k n m i d s =>
    simp only [ExP, SubP, Ex.kind, Ex.name, Ex.more, Ex.int, Ex.den, Ex.sub]
    constructor
    · rintro ⟨p, cap, rfl, h⟩; exact ⟨_, rfl, p, cap, rfl, h⟩
    · rintro ⟨_, rfl, p, cap, rfl, h⟩; exact ⟨p, cap, rfl, h⟩
def NodeP (w : World) (P : Nat → Prop) (b off : Nat) (t : Ex) : Prop :=
  ∃ sv, w.cell? ⟨b, off, none⟩ = some (.int .i64 t.kind) ∧ w.cell? ⟨b, off + 1, none⟩ = some (.string t.name) ∧ w.cell? ⟨b, off + 2, none⟩ = some (.string t.more) ∧ w.cell? ⟨b, off + 3, none⟩ = some (.int .i64 t.int) ∧ w.cell? ⟨b, off + 4, none⟩ = some (.int .i64 t.den) ∧
    w.cell? ⟨b, off + 5, none⟩ = some sv ∧ SubP w P t.sub sv
theorem rowP_cons {w : World} {P : Nat → Prop} {b off : Nat} {e : Ex} {es : List Ex} : RowP w P b off (e :: es) ↔ NodeP w P b off e ∧ RowP w P b (off + 6) es := by
  simp only [RowP, NodeP, exP_iff]
  constructor
  · rintro ⟨⟨c0, c1, c2, c3, c4, c5, h0, h1, h2, h3, h4, h5, sv, he, hs⟩, hr⟩
    simp only [Value.agg.injEq, Array.mk.injEq, List.cons.injEq, and_true] at he
    obtain ⟨rfl, rfl, rfl, rfl, rfl, rfl⟩ := he
    exact ⟨⟨_, h0, h1, h2, h3, h4, h5, hs⟩, hr⟩
  · rintro ⟨⟨sv, h0, h1, h2, h3, h4, h5, hs⟩, hr⟩
    exact ⟨⟨_, _, _, _, _, _, h0, h1, h2, h3, h4, h5, sv, rfl, hs⟩, hr⟩
theorem rowP_nil {w : World} {P : Nat → Prop} {b off : Nat} : RowP w P b off [] := by simp [RowP]
theorem rowP_get {w : World} {P : Nat → Prop} {b : Nat} : ∀ {sub : List Ex} {off : Nat}, RowP w P b off sub → ∀ k (h : k < sub.length), NodeP w P b (off + k * 6) sub[k]
  | [], _, _, k, h => by simp at h
  | e :: es, off, hr, 0, h => by simpa using (rowP_cons.1 hr).1
  | e :: es, off, hr, k + 1, h => by
    have := rowP_get (rowP_cons.1 hr).2 k (by simpa using h)
    have e1 : off + (k + 1) * 6 = off + 6 + k * 6 := by omega
    rw [e1]; simpa using this
theorem rowP_mk {w : World} {P : Nat → Prop} {b : Nat} : ∀ {sub : List Ex} {off : Nat}, (∀ k (h : k < sub.length), NodeP w P b (off + k * 6) sub[k]) → RowP w P b off sub
  | [], _, _ => rowP_nil
  | e :: es, off, hr => rowP_cons.2 ⟨by (have h0 : NodeP w P b (off + 0 * 6) e := hr 0 (by simp)); (simpa using h0), rowP_mk (fun k h => by
      have := hr (k + 1) (by simpa using h)
      have e1 : off + (k + 1) * 6 = off + 6 + k * 6 := by omega
      rw [e1] at this; simpa using this)⟩
/-- cells of the named blocks stay -/
def StayP (P : Nat → Prop) (A B : World) : Prop := ∀ b off, P b → ∀ v, A.cell? ⟨b, off, none⟩ = some v → B.cell? ⟨b, off, none⟩ = some v
mutual
theorem exP_stay {w w' : World} {P Q : Nat → Prop} (hPQ : ∀ b, P b → Q b) (hb : StayP P w w') : ∀ (t : Ex) (v : Value), ExP w P t v → ExP w' Q t v
  | .mk k n m i d sub, v, h => by
    simp only [ExP] at h ⊢
    obtain ⟨p, cap, hv, hc, hr⟩ := h
    refine ⟨p, cap, hv, hc, fun hp => ?_⟩
    obtain ⟨b, off, h1, h2, h3⟩ := hr hp
    exact ⟨b, off, h1, hPQ b h2, rowP_stay hPQ hb b h2 off sub h3⟩
theorem rowP_stay {w w' : World} {P Q : Nat → Prop} (hPQ : ∀ b, P b → Q b) (hb : StayP P w w') (b : Nat) (hlt : P b) : ∀ (off : Nat) (sub : List Ex), RowP w P b off sub → RowP w' Q b off sub
  | _, [], _ => rowP_nil
  | off, e :: es, h => by
    simp only [RowP] at h ⊢
    obtain ⟨⟨c0, c1, c2, c3, c4, c5, h0, h1, h2, h3, h4, h5, he⟩, hr⟩ := h
    exact ⟨⟨c0, c1, c2, c3, c4, c5, hb _ _ hlt _ h0, hb _ _ hlt _ h1, hb _ _ hlt _ h2, hb _ _ hlt _ h3, hb _ _ hlt _ h4, hb _ _ hlt _ h5, exP_stay hPQ hb e _ he⟩, rowP_stay hPQ hb b hlt _ es hr⟩
end
theorem subP_stay {w w' : World} {P Q : Nat → Prop} (hPQ : ∀ b, P b → Q b) (hb : StayP P w w') {sub : List Ex} {sv : Value} (h : SubP w P sub sv) : SubP w' Q sub sv := by
  obtain ⟨p, cap, hv, hc, hr⟩ := h
  refine ⟨p, cap, hv, hc, fun hp => ?_⟩
  obtain ⟨b, off, h1, h2, h3⟩ := hr hp
  exact ⟨b, off, h1, hPQ b h2, rowP_stay hPQ hb b h2 off sub h3⟩
theorem nodeP_stay {w w' : World} {P Q : Nat → Prop} {b off : Nat} {t : Ex} (h : NodeP w P b off t) (hPQ : ∀ b, P b → Q b) (hb : StayP P w w') (hc : ∀ i v, w.cell? ⟨b, off + i, none⟩ = some v → i < 6 → w'.cell? ⟨b, off + i, none⟩ = some v) : NodeP w' Q b off t := by
  obtain ⟨sv, h0, h1, h2, h3, h4, h5, h6⟩ := h
  exact ⟨sv, hc 0 _ h0 (by omega), hc 1 _ h1 (by omega), hc 2 _ h2 (by omega), hc 3 _ h3 (by omega), hc 4 _ h4 (by omega), hc 5 _ h5 (by omega), subP_stay hPQ hb h6⟩
theorem stay_below {P : Nat → Prop} {B : Nat} {A C : World} (h : Below B A C) (hP : ∀ b, P b → b < B) : StayP P A C := fun b off hb _ hv => (h.cell (p := ⟨b, off, none⟩) (hP b hb)).trans hv
theorem stay_refl (P : Nat → Prop) (A : World) : StayP P A A := fun _ _ _ _ h => h
theorem StayP.trans {P : Nat → Prop} {A B C : World} (h : StayP P A B) (k : StayP P B C) : StayP P A C := fun b off hb v hv => k b off hb v (h b off hb v hv)
mutual
theorem exP_of : ∀ {w : World} {B : Nat} (t : Ex) (v : Value), ExAt w B t v → ExP w (· < B) t v
  | w, B, .mk k n m i d sub, v, h => by
    simp only [ExAt] at h; simp only [ExP]
    obtain ⟨p, cap, hv, hc, hr⟩ := h
    refine ⟨p, cap, hv, hc, fun hp => ?_⟩
    obtain ⟨b, off, h1, h2, h3⟩ := hr hp
    exact ⟨b, off, h1, h2, rowP_of b off sub h3⟩
theorem rowP_of : ∀ {w : World} {B : Nat} (b off : Nat) (sub : List Ex), RowAt w B b off sub → RowP w (· < B) b off sub
  | w, B, b, _, [], _ => rowP_nil
  | w, B, b, off, e :: es, h => by
    simp only [RowAt] at h; simp only [RowP]
    obtain ⟨⟨c0, c1, c2, c3, c4, c5, h0, h1, h2, h3, h4, h5, he⟩, hr⟩ := h
    exact ⟨⟨c0, c1, c2, c3, c4, c5, h0, h1, h2, h3, h4, h5, exP_of e _ he⟩, rowP_of b _ es hr⟩
end
mutual
theorem exAt_of {w : World} {B : Nat} {P : Nat → Prop} (hP : ∀ b, P b → b < B) : ∀ (t : Ex) (v : Value), ExP w P t v → ExAt w B t v
  | .mk k n m i d sub, v, h => by
    simp only [ExP] at h; simp only [ExAt]
    obtain ⟨p, cap, hv, hc, hr⟩ := h
    refine ⟨p, cap, hv, hc, fun hp => ?_⟩
    obtain ⟨b, off, h1, h2, h3⟩ := hr hp
    exact ⟨b, off, h1, hP b h2, rowAt_of hP b off sub h3⟩
theorem rowAt_of {w : World} {B : Nat} {P : Nat → Prop} (hP : ∀ b, P b → b < B) : ∀ (b off : Nat) (sub : List Ex), RowP w P b off sub → RowAt w B b off sub
  | b, _, [], _ => rowAt_nil
  | b, off, e :: es, h => by
    simp only [RowP] at h; simp only [RowAt]
    obtain ⟨⟨c0, c1, c2, c3, c4, c5, h0, h1, h2, h3, h4, h5, he⟩, hr⟩ := h
    exact ⟨⟨c0, c1, c2, c3, c4, c5, h0, h1, h2, h3, h4, h5, exAt_of hP e _ he⟩, rowAt_of hP b _ es hr⟩
end
theorem subP_of {w : World} {B : Nat} {sub : List Ex} {sv : Value} (h : SubAt w B sub sv) : SubP w (· < B) sub sv := by
  obtain ⟨p, cap, hv, hc, hr⟩ := h
  refine ⟨p, cap, hv, hc, fun hp => ?_⟩
  obtain ⟨b, off, h1, h2, h3⟩ := hr hp
  exact ⟨b, off, h1, h2, rowP_of b off sub h3⟩
theorem subAt_of {w : World} {B : Nat} {P : Nat → Prop} (hP : ∀ b, P b → b < B) {sub : List Ex} {sv : Value} (h : SubP w P sub sv) : SubAt w B sub sv := by
  obtain ⟨p, cap, hv, hc, hr⟩ := h
  refine ⟨p, cap, hv, hc, fun hp => ?_⟩
  obtain ⟨b, off, h1, h2, h3⟩ := hr hp
  exact ⟨b, off, h1, hP b h2, rowAt_of hP b off sub h3⟩
/-- part j, in a later world -/
theorem subP_at {w wr : World} {P : Nat → Prop} {sub : List Ex} {p : Option Addr} {n cap : Nat} (h : SubP w P sub (.slice p n cap)) (hb : StayP P w wr) (j : Nat) (hj : j < sub.length) :
    ∃ b off pc cc, p = some ⟨b, off, none⟩ ∧ P b ∧ wr.cell? ⟨b, off + j * 6, none⟩ = some (.int .i64 sub[j].kind) ∧ wr.cell? ⟨b, off + j * 6 + 1, none⟩ = some (.string sub[j].name) ∧ wr.cell? ⟨b, off + j * 6 + 2, none⟩ = some (.string sub[j].more) ∧ wr.cell? ⟨b, off + j * 6 + 3, none⟩ = some (.int .i64 sub[j].int) ∧
      wr.cell? ⟨b, off + j * 6 + 4, none⟩ = some (.int .i64 sub[j].den) ∧ wr.cell? ⟨b, off + j * 6 + 5, none⟩ = some (.slice pc sub[j].sub.length cc) ∧ SubP wr P sub[j].sub (.slice pc sub[j].sub.length cc) := by
  obtain ⟨p', cap', he, _, hk⟩ := h
  simp only [Value.slice.injEq] at he
  obtain ⟨rfl, -, -⟩ := he
  obtain ⟨b, off, hp, hlt, hN⟩ := hk (by omega)
  obtain ⟨cv, h0, h1, h2, h3, h4, h5, h6⟩ := rowP_get hN j hj
  have h6' := subP_stay (fun _ h => h) hb h6
  obtain ⟨pc, cc, rfl, _, _⟩ := id h6'
  exact ⟨b, off, pc, cc, hp, hlt, hb _ _ hlt _ h0, hb _ _ hlt _ h1, hb _ _ hlt _ h2, hb _ _ hlt _ h3, hb _ _ hlt _ h4, hb _ _ hlt _ h5, h6'⟩
/-- a call hands back an expression: its blocks are those that were named, or new -/
def NewP (P : Nat → Prop) (w w' : World) (b : Nat) : Prop := P b ∨ (w.heap.size ≤ b ∧ b < w'.heap.size)
def RetEx (P : Nat → Prop) (w : World) (t : Ex) (e : Ending) (w' : World) : Prop := ∃ v, e = .returned v ∧ ExP w' (NewP P w w') t v ∧ Below w.heap.size w w'
end Go.Proofs.YtnphcjpccieljaaGreatDoor
