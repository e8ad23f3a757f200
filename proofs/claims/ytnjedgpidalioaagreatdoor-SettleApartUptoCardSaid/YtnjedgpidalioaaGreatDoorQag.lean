/- Texts of this proof, part 7: what the proof uses of them. -/
import Derived.WalkKit
import Derived.Below
import Derived.Lib.Hide
import Derived.Shelf.Strings.Builder1
import Derived.Shelf.Small.Strs
import Derived.Shelf.Small.Wraps
import Derived.Shelf.Strings.BuilderF
import Derived.Shelf.Strings.BuilderK
import Derived.Shelf.Strconv.Itoa0
import Derived.Shelf.Strconv.Itoa1
import Derived.Shelf.LaysM
import Derived.Shelf.Strconv.Itoa2
import Derived.Shelf.Strconv.Itoa3
import Derived.Shelf.Strings.Search1
import Derived.Shelf.Strings.Search2
import Derived.Shelf.Strings.Search3
import Derived.Shelf.Strings.Shaped
import Derived.Shelf.Sort.Plain
import Derived.Shelf.Strings.LastIndex
import Derived.Shelf.Strings.Prefix
import Derived.Shelf.Unicode.DecodeSlow
import Derived.Shelf.Strings.BuilderCap
import Derived.Shelf.Slices.Turned
import Derived.Ground.Names2Prog
import Derived.Shelf.Slices.Clone
import Derived.Shelf.Slices.In.SortNone
import Derived.Ground.SlgnProg
import Derived.Shelf.SlicesE.Clone
import Derived.Test.YtnjedgpidalioaaGreatDoorProg
import Derived.Lib.Bytealg
import Derived.Lib.Strings
import Derived.WalkSpells
import Derived.WalkLawsBesides
import Derived.BigQuiet
import Derived.Deep.QuietTactic
namespace Go.Proofs.YtnjedgpidalioaaGreatDoor
section
open Go.RowKit
inductive Ex where
 | mk (kind : Int) (name more : ByteArray) (int den : Int) (sub : List Ex)
namespace Ex
def kind : Ex → Int | .mk k _ _ _ _ _ => k
def name : Ex → ByteArray | .mk _ n _ _ _ _ => n
def more : Ex → ByteArray | .mk _ _ m _ _ _ => m
def int : Ex → Int | .mk _ _ _ i _ _ => i
def den : Ex → Int | .mk _ _ _ _ d _ => d
def sub : Ex → List Ex | .mk _ _ _ _ _ s => s
theorem eta (t : Ex) : Ex.mk t.kind t.name t.more t.int t.den t.sub = t := by cases t; rfl
end Ex
mutual
def nodesE : Ex → Nat
 | .mk _ _ _ _ _ s => nodesL s + 1
def nodesL : List Ex → Nat
 | [] => 0
 | e :: es => nodesE e + nodesL es
end
theorem nodesE_eq (t : Ex) : nodesE t = nodesL t.sub + 1 := by cases t; simp [nodesE, Ex.sub]
theorem nodesE_pos (t : Ex) : 0 < nodesE t := by rw [nodesE_eq]; omega
theorem nodesL_append : ∀ a b : List Ex, nodesL (a ++ b) = nodesL a + nodesL b
 | [], b => by simp [nodesL]
 | e :: es, b => by simp [nodesL, nodesL_append es b]; omega
theorem nodesL_take_succ (l : List Ex) (j : Nat) (h : j < l.length) : nodesL (l.take (j + 1)) = nodesL (l.take j) + nodesE l[j] := by
 rw [List.take_succ_eq_append_getElem h, nodesL_append]; simp [nodesL]
theorem nodesL_mem {l : List Ex} {e : Ex} (h : e ∈ l) : nodesE e ≤ nodesL l := by
 induction l with
 | nil => cases h
 | cons a r ih =>
  simp only [nodesL]
  rcases List.mem_cons.1 h with rfl | h
  ·omega
  ·have := ih h; omega
theorem nodesL_get (l : List Ex) (j : Nat) (h : j < l.length) : nodesE l[j] ≤ nodesL l := nodesL_mem (List.getElem_mem h)
theorem nodesL_take_le (l : List Ex) (j : Nat) : nodesL (l.take j) ≤ nodesL l := by
 have := nodesL_append (l.take j) (l.drop j)
 rw [List.take_append_drop] at this; omega
theorem length_le_nodesL : ∀ l : List Ex, l.length ≤ nodesL l
 | [] => by simp
 | e :: es => by have := length_le_nodesL es; have := nodesE_pos e; simp [nodesL]; omega
mutual
def ExAt (w : World) (B : Nat) : Ex → Value → Prop
 | .mk k n m i d sub, v => ∃ (p : Option Addr) (cap : Nat), v = .agg #[.int .i64 k, .string n, .string m, .int .i64 i, .int .i64 d, .slice p sub.length cap] ∧ sub.length ≤ cap ∧
   (0 < sub.length → ∃ b off, p = some ⟨b, off, none⟩ ∧ b < B ∧ RowAt w B b off sub)
def RowAt (w : World) (B : Nat) (b : Nat) : Nat → List Ex → Prop
 | _, [] => True
 | off, e :: es => (∃ c0 c1 c2 c3 c4 c5, w.cell? ⟨b, off, none⟩ = some c0 ∧ w.cell? ⟨b, off + 1, none⟩ = some c1 ∧ w.cell? ⟨b, off + 2, none⟩ = some c2 ∧ w.cell? ⟨b, off + 3, none⟩ = some c3 ∧ w.cell? ⟨b, off + 4, none⟩ = some c4 ∧ w.cell? ⟨b, off + 5, none⟩ = some c5 ∧
   ExAt w B e (.agg #[c0, c1, c2, c3, c4, c5])) ∧ RowAt w B b (off + 6) es
end
def SubAt (w : World) (B : Nat) (sub : List Ex) (sv : Value) : Prop :=
 ∃ (p : Option Addr) (cap : Nat), sv = .slice p sub.length cap ∧ sub.length ≤ cap ∧ (0 < sub.length → ∃ b off, p = some ⟨b, off, none⟩ ∧ b < B ∧ RowAt w B b off sub)
theorem exAt_iff {w : World} {B : Nat} {t : Ex} {v : Value} : ExAt w B t v ↔ ∃ sv, v = .agg #[.int .i64 t.kind, .string t.name, .string t.more, .int .i64 t.int, .int .i64 t.den, sv] ∧ SubAt w B t.sub sv := by
 cases t with
 | mk k n m i d s =>
  simp only [ExAt, SubAt, Ex.kind, Ex.name, Ex.more, Ex.int, Ex.den, Ex.sub]
  constructor
  ·rintro ⟨p, cap, rfl, h⟩; exact ⟨_, rfl, p, cap, rfl, h⟩
  ·rintro ⟨_, rfl, p, cap, rfl, h⟩; exact ⟨p, cap, rfl, h⟩
def NodeAt (w : World) (B : Nat) (b off : Nat) (t : Ex) : Prop :=
 ∃ sv, w.cell? ⟨b, off, none⟩ = some (.int .i64 t.kind) ∧ w.cell? ⟨b, off + 1, none⟩ = some (.string t.name) ∧ w.cell? ⟨b, off + 2, none⟩ = some (.string t.more) ∧ w.cell? ⟨b, off + 3, none⟩ = some (.int .i64 t.int) ∧ w.cell? ⟨b, off + 4, none⟩ = some (.int .i64 t.den) ∧
  w.cell? ⟨b, off + 5, none⟩ = some sv ∧ SubAt w B t.sub sv
theorem rowAt_cons {w : World} {B b off : Nat} {e : Ex} {es : List Ex} : RowAt w B b off (e :: es) ↔ NodeAt w B b off e ∧ RowAt w B b (off + 6) es := by
 simp only [RowAt, NodeAt, exAt_iff]
 constructor
 ·rintro ⟨⟨c0, c1, c2, c3, c4, c5, h0, h1, h2, h3, h4, h5, sv, he, hs⟩, hr⟩
  simp only [Value.agg.injEq, Array.mk.injEq, List.cons.injEq, and_true] at he
  obtain ⟨rfl, rfl, rfl, rfl, rfl, rfl⟩ := he
  exact ⟨⟨_, h0, h1, h2, h3, h4, h5, hs⟩, hr⟩
 ·rintro ⟨⟨sv, h0, h1, h2, h3, h4, h5, hs⟩, hr⟩
  exact ⟨⟨_, _, _, _, _, _, h0, h1, h2, h3, h4, h5, sv, rfl, hs⟩, hr⟩
theorem rowAt_nil {w : World} {B b off : Nat} : RowAt w B b off [] := by simp [RowAt]
theorem row_get {w : World} {B b : Nat} : ∀ {sub : List Ex} {off : Nat}, RowAt w B b off sub → ∀ k (h : k < sub.length), NodeAt w B b (off + k * 6) sub[k]
 | [], _, _, k, h => by simp at h
 | e :: es, off, hr, 0, h => by simpa using (rowAt_cons.1 hr).1
 | e :: es, off, hr, k + 1, h => by
  have := row_get (rowAt_cons.1 hr).2 k (by simpa using h)
  have e1 : off + (k + 1) * 6 = off + 6 + k * 6 := by omega
  rw [e1]; simpa using this
mutual
theorem exAt_same {w w' : World} {B B' : Nat} (hB : B ≤ B') (hb : ∀ b off, b < B → w'.cell? ⟨b, off, none⟩ = w.cell? ⟨b, off, none⟩) : ∀ (t : Ex) (v : Value), ExAt w B t v → ExAt w' B' t v
 | .mk k n m i d sub, v, h => by
  simp only [ExAt] at h ⊢
  obtain ⟨p, cap, hv, hc, hr⟩ := h
  refine ⟨p, cap, hv, hc, fun hp => ?_⟩
  obtain ⟨b, off, h1, h2, h3⟩ := hr hp
  exact ⟨b, off, h1, by omega, rowAt_same hB hb b h2 off sub h3⟩
theorem rowAt_same {w w' : World} {B B' : Nat} (hB : B ≤ B') (hb : ∀ b off, b < B → w'.cell? ⟨b, off, none⟩ = w.cell? ⟨b, off, none⟩) (b : Nat) (hlt : b < B) : ∀ (off : Nat) (sub : List Ex), RowAt w B b off sub → RowAt w' B' b off sub
 | _, [], _ => rowAt_nil
 | off, e :: es, h => by
  simp only [RowAt] at h ⊢
  obtain ⟨⟨c0, c1, c2, c3, c4, c5, h0, h1, h2, h3, h4, h5, he⟩, hr⟩ := h
  exact ⟨⟨c0, c1, c2, c3, c4, c5, (hb _ _ hlt).trans h0, (hb _ _ hlt).trans h1, (hb _ _ hlt).trans h2, (hb _ _ hlt).trans h3, (hb _ _ hlt).trans h4, (hb _ _ hlt).trans h5, exAt_same hB hb e _ he⟩, rowAt_same hB hb b hlt _ es hr⟩
end
theorem subAt_same {w w' : World} {B B' : Nat} (hB : B ≤ B') (hb : ∀ b off, b < B → w'.cell? ⟨b, off, none⟩ = w.cell? ⟨b, off, none⟩) {sub : List Ex} {sv : Value} (h : SubAt w B sub sv) : SubAt w' B' sub sv := by
 obtain ⟨p, cap, hv, hc, hr⟩ := h
 refine ⟨p, cap, hv, hc, fun hp => ?_⟩
 obtain ⟨b, off, h1, h2, h3⟩ := hr hp
 exact ⟨b, off, h1, by omega, rowAt_same hB hb b h2 off sub h3⟩
theorem subAt_below {w w' : World} {B B' : Nat} {sub : List Ex} {sv : Value} (h : SubAt w B sub sv) (hb : Below B w w') (hB : B ≤ B') : SubAt w' B' sub sv :=
 subAt_same hB (fun b off hlt => hb.cell (p := ⟨b, off, none⟩) hlt) h
theorem subAt_open {w : World} {B : Nat} {sub : List Ex} {sv : Value} (h : SubAt w B sub sv) : ∃ (p : Option Addr) (cap : Nat), sv = .slice p sub.length cap ∧ sub.length ≤ cap ∧ ∀ k (hk : k < sub.length), ∃ b off, p = some ⟨b, off, none⟩ ∧ b < B ∧ NodeAt w B b (off + k * 6) sub[k] := by
 obtain ⟨p, cap, hv, hc, hr⟩ := h
 refine ⟨p, cap, hv, hc, fun k hk => ?_⟩
 obtain ⟨b, off, h1, h2, h3⟩ := hr (by omega)
 exact ⟨b, off, h1, h2, row_get h3 k hk⟩
theorem nodeAt_below {w w' : World} {B B' b off : Nat} {t : Ex} (h : NodeAt w B b off t) (hb : Below B w w') (hB : B ≤ B') (hlt : b < B) : NodeAt w' B' b off t := by
 obtain ⟨sv, h0, h1, h2, h3, h4, h5, h6⟩ := h
 exact ⟨sv, (hb.cell (p := ⟨b, _, none⟩) hlt).trans h0, (hb.cell (p := ⟨b, _, none⟩) hlt).trans h1, (hb.cell (p := ⟨b, _, none⟩) hlt).trans h2, (hb.cell (p := ⟨b, _, none⟩) hlt).trans h3, (hb.cell (p := ⟨b, _, none⟩) hlt).trans h4, (hb.cell (p := ⟨b, _, none⟩) hlt).trans h5, subAt_below h6 hb hB⟩
structure Boxed (w : World) (cs : Array Value) (w1 : World) : Prop where
 below : Below w.heap.size w w1
 size : w.heap.size < w1.heap.size
 cell : ∀ i (h : i < cs.size), w1.cell? ⟨w.heap.size, i, none⟩ = some cs[i]
 frozen : ∀ i, i < cs.size → w1.frozen? ⟨w.heap.size, i, none⟩ = false
 next : w1.heap.size = w.heap.size + 1
theorem boxed (w : World) (cs : Array Value) (T : TypeId) : ∃ w1, w.alloc (.cells cs T) = w1 ∧ Boxed w cs w1 := by
 refine ⟨_, rfl, (Below.refl _ _).alloc (Nat.le_refl _) _, by simp, fun i h => ?_, fun i h => ?_, by simp⟩
 ·simp [go_sem, h]
 ·simp [go_sem]
theorem boxed6 {w w1 w2 : World} {c0 c1 c2 c3 c4 c5 : Value} (hX : Boxed w #[c0, c1, c2, c3, c4, c5] w1) (hb : Below w1.heap.size w1 w2) :
  w2.cell? ⟨w.heap.size, 0, none⟩ = some c0 ∧ w2.cell? ⟨w.heap.size, 1, none⟩ = some c1 ∧ w2.cell? ⟨w.heap.size, 2, none⟩ = some c2 ∧ w2.cell? ⟨w.heap.size, 3, none⟩ = some c3 ∧ w2.cell? ⟨w.heap.size, 4, none⟩ = some c4 ∧ w2.cell? ⟨w.heap.size, 5, none⟩ = some c5 :=
 ⟨(hb.cell (p := ⟨w.heap.size, 0, none⟩) hX.size).trans (hX.cell 0 (by simp)), (hb.cell (p := ⟨w.heap.size, 1, none⟩) hX.size).trans (hX.cell 1 (by simp)), (hb.cell (p := ⟨w.heap.size, 2, none⟩) hX.size).trans (hX.cell 2 (by simp)),
  (hb.cell (p := ⟨w.heap.size, 3, none⟩) hX.size).trans (hX.cell 3 (by simp)), (hb.cell (p := ⟨w.heap.size, 4, none⟩) hX.size).trans (hX.cell 4 (by simp)), (hb.cell (p := ⟨w.heap.size, 5, none⟩) hX.size).trans (hX.cell 5 (by simp))⟩
theorem subAt_at {w wr : World} {sub : List Ex} {p : Option Addr} {n cap : Nat} (h : SubAt w w.heap.size sub (.slice p n cap)) (hb : Below w.heap.size w wr) (j : Nat) (hj : j < sub.length) :
  ∃ b off cv, p = some ⟨b, off, none⟩ ∧ wr.cell? ⟨b, off + j * 6, none⟩ = some (.int .i64 sub[j].kind) ∧ wr.cell? ⟨b, off + j * 6 + 1, none⟩ = some (.string sub[j].name) ∧ wr.cell? ⟨b, off + j * 6 + 2, none⟩ = some (.string sub[j].more) ∧ wr.cell? ⟨b, off + j * 6 + 3, none⟩ = some (.int .i64 sub[j].int) ∧
   wr.cell? ⟨b, off + j * 6 + 4, none⟩ = some (.int .i64 sub[j].den) ∧ wr.cell? ⟨b, off + j * 6 + 5, none⟩ = some cv ∧ SubAt wr wr.heap.size sub[j].sub cv := by
 obtain ⟨p', cap', he, _, hk⟩ := subAt_open h
 simp only [Value.slice.injEq] at he
 obtain ⟨rfl, -, -⟩ := he
 obtain ⟨b, off, hp, hlt, hN⟩ := hk j hj
 obtain ⟨cv, h0, h1, h2, h3, h4, h5, h6⟩ := nodeAt_below hN hb hb.size hlt
 exact ⟨b, off, cv, hp, h0, h1, h2, h3, h4, h5, h6⟩
end
section
mutual
def depthE : Ex → Nat
 | .mk _ _ _ _ _ s => depthL s + 1
def depthL : List Ex → Nat
 | [] => 0
 | e :: es => max (depthE e) (depthL es)
end
mutual
def longE : Ex → Bool
 | .mk _ n m _ _ s => decide (100 < n.size) || decide (100 < m.size) || longL s
def longL : List Ex → Bool
 | [] => false
 | e :: es => longE e || longL es
end
theorem longE_eq (t : Ex) : longE t = (decide (100 < t.name.size) || decide (100 < t.more.size) || longL t.sub) := by cases t; rw [longE]; rfl
theorem longL_append : ∀ a b : List Ex, longL (a ++ b) = (longL a || longL b)
 | [], b => by simp [longL]
 | e :: es, b => by simp [longL, longL_append es b, Bool.or_assoc]
theorem longL_take_succ (l : List Ex) (j : Nat) (h : j < l.length) : longL (l.take (j + 1)) = (longL (l.take j) || longE l[j]) := by
 rw [List.take_succ_eq_append_getElem h, longL_append]; simp [longL]
theorem longL_of {l : List Ex} {j : Nat} (h : j < l.length) (he : longE l[j] = true) : longL l = true := by
 have h1 := longL_append (l.take (j + 1)) (l.drop (j + 1))
 rw [List.take_append_drop, longL_take_succ l j h, he] at h1
 simp [h1]
mutual
def confE : Ex → Nat
 | .mk k _ _ _ _ s => (if k = 15 then 1 else 0) + confL s
def confL : List Ex → Nat
 | [] => 0
 | e :: es => confE e + confL es
end
mutual
theorem confE_le : ∀ t : Ex, confE t ≤ nodesE t
 | .mk _ _ _ _ _ s => by have := confL_le s; simp only [confE, nodesE]; split <;> omega
theorem confL_le : ∀ l : List Ex, confL l ≤ nodesL l
 | [] => by simp [confL]
 | e :: es => by have := confE_le e; have := confL_le es; simp only [confL, nodesL]; omega
end
def alikeE (a b : Ex) : Bool := decide (a.kind = b.kind) && decide (a.name = b.name) && decide (a.more = b.more) && decide (a.int = b.int) && decide (a.den = b.den) && decide (a.sub.length = b.sub.length)
theorem alikeE_iff (a b : Ex) : alikeE a b = true ↔ a.kind = b.kind ∧ a.name = b.name ∧ a.more = b.more ∧ a.int = b.int ∧ a.den = b.den ∧ a.sub.length = b.sub.length := by
 simp [alikeE, and_assoc]
mutual
def sameE : Ex → Ex → Bool
 | .mk k n m i d s, .mk k' n' m' i' d' s' => decide (k = k') && decide (n = n') && decide (m = m') && decide (i = i') && decide (d = d') && sameL s s'
def sameL : List Ex → List Ex → Bool
 | [], [] => true
 | a :: asL, b :: bs => sameE a b && sameL asL bs
 | _, _ => false
end
mutual
theorem sameE_iff : ∀ a b : Ex, sameE a b = true ↔ a = b
 | .mk k n m i d s, .mk k' n' m' i' d' s' => by
  simp only [sameE, Bool.and_eq_true, decide_eq_true_eq, sameL_iff s s', Ex.mk.injEq, and_assoc]
theorem sameL_iff : ∀ a b : List Ex, sameL a b = true ↔ a = b
 | [], [] => by simp [sameL]
 | a :: asL, b :: bs => by simp only [sameL, Bool.and_eq_true, sameE_iff a b, sameL_iff asL bs, List.cons.injEq]
 | [], b :: bs => by simp [sameL]
 | a :: asL, [] => by simp [sameL]
end
theorem sameL_append : ∀ (a b a' b' : List Ex), a.length = a'.length → sameL (a ++ b) (a' ++ b') = (sameL a a' && sameL b b')
 | [], b, [], b', _ => by simp [sameL]
 | x :: xs, b, y :: ys, b', h => by simp only [List.cons_append, sameL, sameL_append xs b ys b' (by simpa using h), Bool.and_assoc]
 | [], b, y :: ys, b', h => by simp at h
 | x :: xs, b, [], b', h => by simp at h
theorem sameL_take_succ (l m : List Ex) (j : Nat) (h : j < l.length) (h' : j < m.length) : sameL (l.take (j + 1)) (m.take (j + 1)) = (sameL (l.take j) (m.take j) && sameE l[j] m[j]) := by
 rw [List.take_succ_eq_append_getElem h, List.take_succ_eq_append_getElem h', sameL_append _ _ _ _ (by simp; omega)]; simp [sameL]
theorem sameL_bad {l m : List Ex} {j : Nat} (hl : l.length = m.length) (h : j < l.length) (h' : j < m.length) (he : sameE l[j] m[j] = false) : sameL l m = false := by
 have h1 := sameL_append (l.take (j + 1)) (l.drop (j + 1)) (m.take (j + 1)) (m.drop (j + 1)) (by simp; omega)
 rw [List.take_append_drop, List.take_append_drop, sameL_take_succ l m j h h', he] at h1
 simp [h1]
theorem sameE_alike (a b : Ex) : sameE a b = (alikeE a b && sameL a.sub b.sub) := by
 cases a; cases b
 rename_i k n m i d s k' n' m' i' d' s'
 simp only [sameE, alikeE, Ex.kind, Ex.name, Ex.more, Ex.int, Ex.den, Ex.sub]
 cases hs : sameL s s'
 ·simp
 ·have : s = s' := (sameL_iff _ _).1 hs
  subst this; simp; rfl
end
section
end
section
open Go.RowKit
mutual
def ExP (w : World) (P : Nat → Prop) : Ex → Value → Prop
 | .mk k n m i d sub, v => ∃ (p : Option Addr) (cap : Nat), v = .agg #[.int .i64 k, .string n, .string m, .int .i64 i, .int .i64 d, .slice p sub.length cap] ∧ sub.length ≤ cap ∧
   (0 < sub.length → ∃ b off, p = some ⟨b, off, none⟩ ∧ P b ∧ RowP w P b off sub)
def RowP (w : World) (P : Nat → Prop) (b : Nat) : Nat → List Ex → Prop
 | _, [] => True
 | off, e :: es => (∃ c0 c1 c2 c3 c4 c5, w.cell? ⟨b, off, none⟩ = some c0 ∧ w.cell? ⟨b, off + 1, none⟩ = some c1 ∧ w.cell? ⟨b, off + 2, none⟩ = some c2 ∧ w.cell? ⟨b, off + 3, none⟩ = some c3 ∧ w.cell? ⟨b, off + 4, none⟩ = some c4 ∧ w.cell? ⟨b, off + 5, none⟩ = some c5 ∧
   ExP w P e (.agg #[c0, c1, c2, c3, c4, c5])) ∧ RowP w P b (off + 6) es
end
def SubP (w : World) (P : Nat → Prop) (sub : List Ex) (sv : Value) : Prop :=
 ∃ (p : Option Addr) (cap : Nat), sv = .slice p sub.length cap ∧ sub.length ≤ cap ∧ (0 < sub.length → ∃ b off, p = some ⟨b, off, none⟩ ∧ P b ∧ RowP w P b off sub)
theorem exP_iff {w : World} {P : Nat → Prop} {t : Ex} {v : Value} : ExP w P t v ↔ ∃ sv, v = .agg #[.int .i64 t.kind, .string t.name, .string t.more, .int .i64 t.int, .int .i64 t.den, sv] ∧ SubP w P t.sub sv := by
 cases t with
 | mk k n m i d s =>
  simp only [ExP, SubP, Ex.kind, Ex.name, Ex.more, Ex.int, Ex.den, Ex.sub]
  constructor
  ·rintro ⟨p, cap, rfl, h⟩; exact ⟨_, rfl, p, cap, rfl, h⟩
  ·rintro ⟨_, rfl, p, cap, rfl, h⟩; exact ⟨p, cap, rfl, h⟩
def NodeP (w : World) (P : Nat → Prop) (b off : Nat) (t : Ex) : Prop :=
 ∃ sv, w.cell? ⟨b, off, none⟩ = some (.int .i64 t.kind) ∧ w.cell? ⟨b, off + 1, none⟩ = some (.string t.name) ∧ w.cell? ⟨b, off + 2, none⟩ = some (.string t.more) ∧ w.cell? ⟨b, off + 3, none⟩ = some (.int .i64 t.int) ∧ w.cell? ⟨b, off + 4, none⟩ = some (.int .i64 t.den) ∧
  w.cell? ⟨b, off + 5, none⟩ = some sv ∧ SubP w P t.sub sv
theorem rowP_cons {w : World} {P : Nat → Prop} {b off : Nat} {e : Ex} {es : List Ex} : RowP w P b off (e :: es) ↔ NodeP w P b off e ∧ RowP w P b (off + 6) es := by
 simp only [RowP, NodeP, exP_iff]
 constructor
 ·rintro ⟨⟨c0, c1, c2, c3, c4, c5, h0, h1, h2, h3, h4, h5, sv, he, hs⟩, hr⟩
  simp only [Value.agg.injEq, Array.mk.injEq, List.cons.injEq, and_true] at he
  obtain ⟨rfl, rfl, rfl, rfl, rfl, rfl⟩ := he
  exact ⟨⟨_, h0, h1, h2, h3, h4, h5, hs⟩, hr⟩
 ·rintro ⟨⟨sv, h0, h1, h2, h3, h4, h5, hs⟩, hr⟩
  exact ⟨⟨_, _, _, _, _, _, h0, h1, h2, h3, h4, h5, sv, rfl, hs⟩, hr⟩
theorem rowP_nil {w : World} {P : Nat → Prop} {b off : Nat} : RowP w P b off [] := by simp [RowP]
def StayP (P : Nat → Prop) (A B : World) : Prop := ∀ b off, P b → ∀ v, A.cell? ⟨b, off, none⟩ = some v → B.cell? ⟨b, off, none⟩ = some v
mutual
theorem exP_stay {w w' : World} {P Q : Nat → Prop} (hPQ : ∀ b, P b → Q b) (hb : StayP P w w') : ∀ (t : Ex) (v : Value), ExP w P t v → ExP w' Q t v
 | .mk k n m i d sub, v, h => by
  simp only [ExP] at h ⊢
  obtain ⟨p, cap, hv, hc, hr⟩ := h
  refine ⟨p, cap, hv, hc, fun hp => ?_⟩
  obtain ⟨b, off, h1, h2, h3⟩ := hr hp
  exact ⟨b, off, h1, hPQ b h2, rowP_stay hPQ hb b h2 off sub h3⟩
theorem rowP_stay {w w' : World} {P Q : Nat → Prop} (hPQ : ∀ b, P b → Q b) (hb : StayP P w w') (b : Nat) (hlt : P b) : ∀ (off : Nat) (sub : List Ex), RowP w P b off sub → RowP w' Q b off sub
 | _, [], _ => rowP_nil
 | off, e :: es, h => by
  simp only [RowP] at h ⊢
  obtain ⟨⟨c0, c1, c2, c3, c4, c5, h0, h1, h2, h3, h4, h5, he⟩, hr⟩ := h
  exact ⟨⟨c0, c1, c2, c3, c4, c5, hb _ _ hlt _ h0, hb _ _ hlt _ h1, hb _ _ hlt _ h2, hb _ _ hlt _ h3, hb _ _ hlt _ h4, hb _ _ hlt _ h5, exP_stay hPQ hb e _ he⟩, rowP_stay hPQ hb b hlt _ es hr⟩
end
theorem subP_stay {w w' : World} {P Q : Nat → Prop} (hPQ : ∀ b, P b → Q b) (hb : StayP P w w') {sub : List Ex} {sv : Value} (h : SubP w P sub sv) : SubP w' Q sub sv := by
 obtain ⟨p, cap, hv, hc, hr⟩ := h
 refine ⟨p, cap, hv, hc, fun hp => ?_⟩
 obtain ⟨b, off, h1, h2, h3⟩ := hr hp
 exact ⟨b, off, h1, hPQ b h2, rowP_stay hPQ hb b h2 off sub h3⟩
theorem stay_below {P : Nat → Prop} {B : Nat} {A C : World} (h : Below B A C) (hP : ∀ b, P b → b < B) : StayP P A C := fun b off hb _ hv => (h.cell (p := ⟨b, off, none⟩) (hP b hb)).trans hv
mutual
theorem exP_of : ∀ {w : World} {B : Nat} (t : Ex) (v : Value), ExAt w B t v → ExP w (· < B) t v
 | w, B, .mk k n m i d sub, v, h => by
  simp only [ExAt] at h; simp only [ExP]
  obtain ⟨p, cap, hv, hc, hr⟩ := h
  refine ⟨p, cap, hv, hc, fun hp => ?_⟩
  obtain ⟨b, off, h1, h2, h3⟩ := hr hp
  exact ⟨b, off, h1, h2, rowP_of b off sub h3⟩
theorem rowP_of : ∀ {w : World} {B : Nat} (b off : Nat) (sub : List Ex), RowAt w B b off sub → RowP w (· < B) b off sub
 | w, B, b, _, [], _ => rowP_nil
 | w, B, b, off, e :: es, h => by
  simp only [RowAt] at h; simp only [RowP]
  obtain ⟨⟨c0, c1, c2, c3, c4, c5, h0, h1, h2, h3, h4, h5, he⟩, hr⟩ := h
  exact ⟨⟨c0, c1, c2, c3, c4, c5, h0, h1, h2, h3, h4, h5, exP_of e _ he⟩, rowP_of b _ es hr⟩
end
theorem subP_of {w : World} {B : Nat} {sub : List Ex} {sv : Value} (h : SubAt w B sub sv) : SubP w (· < B) sub sv := by
 obtain ⟨p, cap, hv, hc, hr⟩ := h
 refine ⟨p, cap, hv, hc, fun hp => ?_⟩
 obtain ⟨b, off, h1, h2, h3⟩ := hr hp
 exact ⟨b, off, h1, h2, rowP_of b off sub h3⟩
end
end Go.Proofs.YtnjedgpidalioaaGreatDoor
namespace Go.Proofs
open Go.Shelf
def Tryz.lays143_ren : Go.Shelf.Ren := ⟨fun | 143 => 164 | 219 => 194 | 217 => 227 | 225 => 228 | 224 => 229 | 267 => 230 | 266 => 243 | 314 => 244 | n => n, fun | 9 => 9 | 3 => 3 | 4 => 4 | 5 => 5 | 46 => 149 | 146 => 307 | 51 => 276 | n => n, fun | 1 => 0 | n => n⟩
theorem Tryz.lays143 : Go.Proofs.Lays.n143 Tryz.prog Tryz.lays143_ren := {
 mixed := by kernel_rfl
 f143 := Tryz.func164.trans (congrArg some (by kernel_rfl))
 f217 := Tryz.func227.trans (congrArg some (by kernel_rfl))
 f219 := Tryz.func194.trans (congrArg some (by kernel_rfl))
 f224 := Tryz.func229.trans (congrArg some (by kernel_rfl))
 f225 := Tryz.func228.trans (congrArg some (by kernel_rfl))
 f266 := Tryz.func243.trans (congrArg some (by kernel_rfl))
 f267 := Tryz.func230.trans (congrArg some (by kernel_rfl))
 f314 := Tryz.func244.trans (congrArg some (by kernel_rfl))
 t3 := Tryz.underlying3
 a3 := Tryz.isAgg3
 z3 := Tryz.sizeOf3
 v3 := Tryz.zeroValue3
 t4 := Tryz.underlying4
 a4 := Tryz.isAgg4
 z4 := Tryz.sizeOf4
 v4 := Tryz.zeroValue4
 t5 := Tryz.underlying5
 a5 := Tryz.isAgg5
 z5 := Tryz.sizeOf5
 v5 := Tryz.zeroValue5
 t9 := Tryz.underlying9
 a9 := Tryz.isAgg9
 z9 := Tryz.sizeOf9
 v9 := Tryz.zeroValue9
 t46 := Tryz.underlying149
 a46 := Tryz.isAgg149
 z46 := Tryz.sizeOf149
 v46 := Tryz.zeroValue149
 t51 := Tryz.underlying276
 a51 := Tryz.isAgg276
 z51 := Tryz.sizeOf276
 v51 := Tryz.zeroValue276
 t146 := Tryz.underlying307
 a146 := Tryz.isAgg307
 z146 := Tryz.sizeOf307
 v146 := Tryz.zeroValue307
 g1 := by kernel_rfl }
open Go.RowKit Go.Lib in
theorem Tryz.strings_Index_one (s : ByteArray) (c : UInt8) (w : World) :
  Calls Tryz.prog 164 #[.string s, .string ⟨#[c]⟩] w fun e w' => e = .returned (.int .i64 (Lib.indexByte s.data.toList c)) ∧ w' = w := Any.strings_Index_one Tryz.lays143 s c w
def Tryz.lays144_ren : Go.Shelf.Ren := ⟨fun | 144 => 195 | 143 => 164 | 219 => 194 | 217 => 227 | 225 => 228 | 224 => 229 | 267 => 230 | 266 => 243 | 314 => 244 | n => n, fun | 9 => 9 | 4 => 4 | 3 => 3 | 5 => 5 | 46 => 149 | 146 => 307 | 51 => 276 | n => n, fun | 1 => 0 | n => n⟩
theorem Tryz.lays144 : Go.Proofs.Lays.n144 Tryz.prog Tryz.lays144_ren := {
 mixed := by kernel_rfl
 f143 := Tryz.func164.trans (congrArg some (by kernel_rfl))
 f144 := Tryz.func195.trans (congrArg some (by kernel_rfl))
 f217 := Tryz.func227.trans (congrArg some (by kernel_rfl))
 f219 := Tryz.func194.trans (congrArg some (by kernel_rfl))
 f224 := Tryz.func229.trans (congrArg some (by kernel_rfl))
 f225 := Tryz.func228.trans (congrArg some (by kernel_rfl))
 f266 := Tryz.func243.trans (congrArg some (by kernel_rfl))
 f267 := Tryz.func230.trans (congrArg some (by kernel_rfl))
 f314 := Tryz.func244.trans (congrArg some (by kernel_rfl))
 t3 := Tryz.underlying3
 a3 := Tryz.isAgg3
 z3 := Tryz.sizeOf3
 v3 := Tryz.zeroValue3
 t4 := Tryz.underlying4
 a4 := Tryz.isAgg4
 z4 := Tryz.sizeOf4
 v4 := Tryz.zeroValue4
 t5 := Tryz.underlying5
 a5 := Tryz.isAgg5
 z5 := Tryz.sizeOf5
 v5 := Tryz.zeroValue5
 t9 := Tryz.underlying9
 a9 := Tryz.isAgg9
 z9 := Tryz.sizeOf9
 v9 := Tryz.zeroValue9
 t46 := Tryz.underlying149
 a46 := Tryz.isAgg149
 z46 := Tryz.sizeOf149
 v46 := Tryz.zeroValue149
 t51 := Tryz.underlying276
 a51 := Tryz.isAgg276
 z51 := Tryz.sizeOf276
 v51 := Tryz.zeroValue276
 t146 := Tryz.underlying307
 a146 := Tryz.isAgg307
 z146 := Tryz.sizeOf307
 v146 := Tryz.zeroValue307
 g1 := by kernel_rfl }
open Go.RowKit Go.Lib in
theorem Tryz.strings_Contains_one (s : ByteArray) (c : UInt8) (w : World) :
  Calls Tryz.prog 195 #[.string s, .string ⟨#[c]⟩] w fun e w' => e = .returned (.bool (decide (0 ≤ Lib.indexByte s.data.toList c))) ∧ w' = w := Any.strings_Contains_one Tryz.lays144 s c w
def Tryz.lays106_ren : Go.Shelf.Ren := ⟨fun | 106 => 60 | 213 => 91 | 265 => 141 | n => n, fun | 9 => 9 | 3 => 3 | n => n, fun | n => n⟩
theorem Tryz.lays106 : Go.Proofs.Lays.n106 Tryz.prog Tryz.lays106_ren := {
 mixed := by kernel_rfl
 f106 := Tryz.func60.trans (congrArg some (by kernel_rfl))
 f213 := Tryz.func91.trans (congrArg some (by kernel_rfl))
 f265 := Tryz.func141.trans (congrArg some (by kernel_rfl))
 t3 := Tryz.underlying3
 a3 := Tryz.isAgg3
 z3 := Tryz.sizeOf3
 v3 := Tryz.zeroValue3
 t9 := Tryz.underlying9
 a9 := Tryz.isAgg9
 z9 := Tryz.sizeOf9
 v9 := Tryz.zeroValue9 }
open Go.RowKit in
theorem Tryz.strings_Compare (a b : ByteArray) (w : World) :
  Calls Tryz.prog 60 #[.string a, .string b] w fun e w' => e = .returned (.int .i64 (Lib.compareBytes a.data.toList b.data.toList)) ∧ w' = w := Any.strings_Compare Tryz.lays106 a b w
def Tryz.lays104_ren : Go.Shelf.Ren := ⟨fun | 104 => 54 | 211 => 89 | 207 => 139 | n => n, fun | 9 => 9 | 4 => 4 | 24 => 45 | 3 => 3 | n => n, fun | n => n⟩
theorem Tryz.lays104 : Go.Proofs.Lays.n104 Tryz.prog Tryz.lays104_ren := {
 mixed := by kernel_rfl
 f104 := Tryz.func54.trans (congrArg some (by kernel_rfl))
 f207 := Tryz.func139.trans (congrArg some (by kernel_rfl))
 f211 := Tryz.func89.trans (congrArg some (by kernel_rfl))
 t3 := Tryz.underlying3
 a3 := Tryz.isAgg3
 z3 := Tryz.sizeOf3
 v3 := Tryz.zeroValue3
 t4 := Tryz.underlying4
 a4 := Tryz.isAgg4
 z4 := Tryz.sizeOf4
 v4 := Tryz.zeroValue4
 t9 := Tryz.underlying9
 a9 := Tryz.isAgg9
 z9 := Tryz.sizeOf9
 v9 := Tryz.zeroValue9
 t24 := Tryz.underlying45
 a24 := Tryz.isAgg45
 z24 := Tryz.sizeOf45
 v24 := Tryz.zeroValue45 }
open Go.RowKit in
theorem Tryz.strings_CutSuffix (s p : ByteArray) (w : World) (hs : s.size ≤ 9223372036854775807) :
  Calls Tryz.prog 54 #[.string s, .string p] w fun e w' => e = .returned (.tuple #[.string ⟨(Lib.trimSuffix s.data.toList p.data.toList).toArray⟩, .bool (Lib.hasSuffix s.data.toList p.data.toList)]) ∧ w' = w := Any.strings_CutSuffix Tryz.lays104 s p w hs
def Tryz.lays149_ren : Go.Shelf.Ren := ⟨fun | 149 => 90 | 222 => 140 | n => n, fun | 9 => 9 | 5 => 5 | 3 => 3 | 4 => 4 | n => n, fun | n => n⟩
theorem Tryz.lays149 : Go.Proofs.Lays.n149 Tryz.prog Tryz.lays149_ren := {
 mixed := by kernel_rfl
 f149 := Tryz.func90.trans (congrArg some (by kernel_rfl))
 f222 := Tryz.func140.trans (congrArg some (by kernel_rfl))
 t3 := Tryz.underlying3
 a3 := Tryz.isAgg3
 z3 := Tryz.sizeOf3
 v3 := Tryz.zeroValue3
 t4 := Tryz.underlying4
 a4 := Tryz.isAgg4
 z4 := Tryz.sizeOf4
 v4 := Tryz.zeroValue4
 t5 := Tryz.underlying5
 a5 := Tryz.isAgg5
 z5 := Tryz.sizeOf5
 v5 := Tryz.zeroValue5
 t9 := Tryz.underlying9
 a9 := Tryz.isAgg9
 z9 := Tryz.sizeOf9
 v9 := Tryz.zeroValue9 }
open Go.RowKit Go.Lib in
theorem Tryz.strings_LastIndexByte (s : ByteArray) (c : Int) (hs : s.size < 4611686018427387904) (w : World) :
  Calls Tryz.prog 90 #[.string s, .int .u8 c] w fun e w' => e = .returned (.int .i64 (Lib.lastIndexByte s c)) ∧ w' = w := Any.strings_LastIndexByte Tryz.lays149 s c hs w
def Tryz.lays190_ren : Go.Shelf.Ren := ⟨fun | 190 => 137 | 125 => 173 | 258 => 172 | 128 => 206 | 129 => 207 | 302 => 197 | 303 => 198 | 304 => 199 | 305 => 200 | 306 => 201 | 307 => 202 | 308 => 203 | 309 => 204 | 310 => 205 | 333 => 231 | 329 => 232 | 330 => 233 | 334 => 234 | 335 => 235 | 336 => 236 | 344 => 245 | n => n, fun | 31 => 43 | 9 => 9 | 3 => 3 | 46 => 149 | 0 => 0 | 51 => 276 | 53 => 56 | 4 => 4 | 183 => 270 | 182 => 269 | 131 => 69 | 5 => 5 | 218 => 297 | 222 => 213 | 228 => 309 | 229 => 310 | n => n, fun | n => n⟩
theorem Tryz.lays190 : Go.Proofs.Lays.n190 Tryz.prog Tryz.lays190_ren := {
 mixed := by kernel_rfl
 f125 := Tryz.func173.trans (congrArg some (by kernel_rfl))
 f128 := Tryz.func206.trans (congrArg some (by kernel_rfl))
 f129 := Tryz.func207.trans (congrArg some (by kernel_rfl))
 f190 := Tryz.func137.trans (congrArg some (by kernel_rfl))
 f258 := Tryz.func172.trans (congrArg some (by kernel_rfl))
 f302 := Tryz.func197.trans (congrArg some (by kernel_rfl))
 f303 := Tryz.func198.trans (congrArg some (by kernel_rfl))
 f304 := Tryz.func199.trans (congrArg some (by kernel_rfl))
 f305 := Tryz.func200.trans (congrArg some (by kernel_rfl))
 f306 := Tryz.func201.trans (congrArg some (by kernel_rfl))
 f307 := Tryz.func202.trans (congrArg some (by kernel_rfl))
 f308 := Tryz.func203.trans (congrArg some (by kernel_rfl))
 f309 := Tryz.func204.trans (congrArg some (by kernel_rfl))
 f310 := Tryz.func205.trans (congrArg some (by kernel_rfl))
 f329 := Tryz.func232.trans (congrArg some (by kernel_rfl))
 f330 := Tryz.func233.trans (congrArg some (by kernel_rfl))
 f333 := Tryz.func231.trans (congrArg some (by kernel_rfl))
 f334 := Tryz.func234.trans (congrArg some (by kernel_rfl))
 f335 := Tryz.func235.trans (congrArg some (by kernel_rfl))
 f336 := Tryz.func236.trans (congrArg some (by kernel_rfl))
 f344 := Tryz.func245.trans (congrArg some (by kernel_rfl))
 t0 := Tryz.underlying0
 a0 := Tryz.isAgg0
 z0 := Tryz.sizeOf0
 v0 := Tryz.zeroValue0
 t3 := Tryz.underlying3
 a3 := Tryz.isAgg3
 z3 := Tryz.sizeOf3
 v3 := Tryz.zeroValue3
 t4 := Tryz.underlying4
 a4 := Tryz.isAgg4
 z4 := Tryz.sizeOf4
 v4 := Tryz.zeroValue4
 t5 := Tryz.underlying5
 a5 := Tryz.isAgg5
 z5 := Tryz.sizeOf5
 v5 := Tryz.zeroValue5
 t9 := Tryz.underlying9
 a9 := Tryz.isAgg9
 z9 := Tryz.sizeOf9
 v9 := Tryz.zeroValue9
 t31 := Tryz.underlying43
 a31 := Tryz.isAgg43
 z31 := Tryz.sizeOf43
 v31 := Tryz.zeroValue43
 t46 := Tryz.underlying149
 a46 := Tryz.isAgg149
 z46 := Tryz.sizeOf149
 v46 := Tryz.zeroValue149
 t51 := Tryz.underlying276
 a51 := Tryz.isAgg276
 z51 := Tryz.sizeOf276
 v51 := Tryz.zeroValue276
 t53 := Tryz.underlying56
 a53 := Tryz.isAgg56
 z53 := Tryz.sizeOf56
 v53 := Tryz.zeroValue56
 t131 := Tryz.underlying69
 a131 := Tryz.isAgg69
 z131 := Tryz.sizeOf69
 v131 := Tryz.zeroValue69
 t182 := Tryz.underlying269
 a182 := Tryz.isAgg269
 z182 := Tryz.sizeOf269
 v182 := Tryz.zeroValue269
 t183 := Tryz.underlying270
 a183 := Tryz.isAgg270
 z183 := Tryz.sizeOf270
 v183 := Tryz.zeroValue270
 t218 := Tryz.underlying297
 a218 := Tryz.isAgg297
 z218 := Tryz.sizeOf297
 v218 := Tryz.zeroValue297
 t222 := Tryz.underlying213
 a222 := Tryz.isAgg213
 z222 := Tryz.sizeOf213
 v222 := Tryz.zeroValue213
 t228 := Tryz.underlying309
 a228 := Tryz.isAgg309
 z228 := Tryz.sizeOf309
 v228 := Tryz.zeroValue309
 t229 := Tryz.underlying310
 a229 := Tryz.isAgg310
 z229 := Tryz.sizeOf310
 v229 := Tryz.zeroValue310 }
open Go.Sort Go.RowKit in
theorem Tryz.slices_Sort_string (blk off cap : Nat) (ss : List (List UInt8)) (w : World) (hH : Holds encStr w blk off ss.toArray) (hblk : blk < w.heap.size) (hsz : ss.length < 4611686018427387904) :
  Calls Tryz.prog 137 #[.slice (some ⟨blk, off, none⟩) ss.length cap] w fun e w' =>
   e = .returned (.tuple #[]) ∧ ∃ n os, w' = grow (putRow encStr (Sort.ahead w n) blk off (ss.mergeSort fun x y => decide (x ≤ y)).toArray) os := Any.slices_Sort_string Tryz.lays190 blk off cap ss w hH hblk hsz
open Go.RowKit Go.Sort in
theorem Tryz.slices_Sort_string_none (p : Option Addr) (cap : Nat) (w : World) :
  Calls Tryz.prog 137 #[.slice p 0 cap] w fun e w' => e = .returned (.tuple #[]) ∧ w' = w := Any.slices_Sort_string_none Tryz.lays190 p cap w
end Go.Proofs
namespace Go.Proofs.YtnjedgpidalioaaGreatDoor
section
def isLetter (c : Int) : Bool := decide (97 ≤ c) && decide (c ≤ 122)
def isDigit (c : Int) : Bool := decide (48 ≤ c) && decide (c ≤ 57)
def letterB (c : UInt8) : Bool := isLetter (c.toNat : Int)
def digitB (c : UInt8) : Bool := isDigit (c.toNat : Int)
def alnumB (c : UInt8) : Bool := letterB c || digitB c
def wordL (most : Nat) (l : List UInt8) : Bool :=
 match l with
 | [] => false
 | c :: r => decide (r.length + 1 ≤ most) && letterB c && r.all alnumB
theorem wordL_true {most : Nat} {l : List UInt8} (h0 : 0 < l.length) (h1 : l.length ≤ most)
  (h : ∀ j (hj : j < l.length), letterB l[j] = true ∨ (j ≠ 0 ∧ digitB l[j] = true)) : wordL most l = true := by
 cases l with
 | nil => simp at h0
 | cons c r =>
  simp only [wordL, Bool.and_eq_true, decide_eq_true_eq, List.all_eq_true]
  refine ⟨⟨by simpa using h1, ?_⟩, fun x hx => ?_⟩
  ·have := h 0 (by simp)
   simpa using this
  ·obtain ⟨j, hj, rfl⟩ := List.getElem_of_mem hx
   have := h (j + 1) (by simpa using hj)
   simp only [List.getElem_cons_succ] at this
   unfold alnumB
   rcases this with h | ⟨_, h⟩ <;> simp [h]
theorem wordL_false {most : Nat} {l : List UInt8} {j : Nat} (hj : j < l.length) (h1 : letterB l[j] = false) (h2 : j = 0 ∨ digitB l[j] = false) : wordL most l = false := by
 cases l with
 | nil => rfl
 | cons c r =>
  cases j with
  | zero => simp at h1; simp [wordL, h1]
  | succ j =>
   have hj' : j < r.length := by simpa using hj
   simp only [List.getElem_cons_succ] at h1 h2
   have h3 : digitB r[j] = false := by rcases h2 with h | h; · omega
                                       ·exact h
   have : r.all alnumB = false := by
    rw [List.all_eq_false]
    exact ⟨r[j], List.getElem_mem _, by simp [alnumB, h1, h3]⟩
   simp [wordL, this]
theorem wordL_long {most : Nat} {l : List UInt8} (h : most < l.length) : wordL most l = false := by
 cases l with
 | nil => rfl
 | cons c r =>
  have : ¬ (r.length + 1 ≤ most) := by simp at h; omega
  simp [wordL, this]
theorem wordL_nil {most : Nat} {l : List UInt8} (h : l.length = 0) : wordL most l = false := by
 cases l with
 | nil => rfl
 | cons c r => simp at h
def partsL : List UInt8 → List (List UInt8)
 | [] => [[]]
 | c :: r => if c == 47 then [] :: partsL r else match partsL r with
  | p :: ps => (c :: p) :: ps
  | [] => [[c]]
def labelL (l : List UInt8) : Bool := decide (l.length ≤ 90) && (partsL l).all (wordL 20)
theorem partsL_none {l : List UInt8} (h : Lib.indexByte l 47 = -1) : partsL l = [l] := by
 induction l with
 | nil => rfl
 | cons c r ih =>
  unfold Lib.indexByte at h
  by_cases hc : (c == 47) = true
  ·simp [hc] at h
  ·rw [if_neg hc] at h
   by_cases hr : (Lib.indexByte r 47 == -1) = true
   ·have := ih (by simpa using hr)
    rw [partsL, if_neg hc, this]
   ·rw [if_neg hr] at h
    have := Lib.indexByte_ge r 47
    exfalso; apply hr; simp; omega
theorem partsL_some : ∀ {l : List UInt8} {i : Nat}, Lib.indexByte l 47 = (i : Int) → i < l.length ∧ partsL l = l.take i :: partsL (l.drop (i + 1)) := by
 intro l
 induction l with
 | nil => intro i h; simp [Lib.indexByte] at h
 | cons c r ih =>
  intro i h
  unfold Lib.indexByte at h
  by_cases hc : (c == 47) = true
  ·rw [if_pos hc] at h
   obtain rfl : i = 0 := by omega
   refine ⟨by simp, ?_⟩
   rw [partsL, if_pos hc]; rfl
  ·rw [if_neg hc] at h
   by_cases hr : (Lib.indexByte r 47 == -1) = true
   ·rw [if_pos hr] at h; omega
   ·rw [if_neg hr] at h
    cases i with
    | zero => have := Lib.indexByte_ge r 47; exfalso; apply hr; simp; omega
    | succ i =>
     obtain ⟨h1, h2⟩ := ih (i := i) (by omega)
     refine ⟨by simpa using h1, ?_⟩
     rw [partsL, if_neg hc, h2]
     simp
end
section
open Go.RowKit
theorem letter_yes (c : Int) (w : World) (h : isLetter c = true) : Calls Tryz.prog 128 #[.int .i32 c] w fun e w' => e = .returned (.bool true) ∧ w = w' := by
 obtain ⟨h1, h2⟩ : 97 ≤ c ∧ c ≤ 122 := by simpa [isLetter] using h
 clear h
 go_enter Tryz.func128, Tryz.ntmps128
 go_wp2
 go_ret
 exact ⟨rfl, rfl⟩
theorem letter_no (c : Int) (w : World) (h : isLetter c = false) : Calls Tryz.prog 128 #[.int .i32 c] w fun e w' => e = .returned (.bool false) ∧ w = w' := by
 by_cases h1 : 97 ≤ c
 ·have h2 : ¬ c ≤ 122 := by simp [isLetter] at h; omega
  clear h
  go_enter Tryz.func128, Tryz.ntmps128
  go_wp2
  go_ret
  exact ⟨rfl, rfl⟩
 ·clear h
  go_enter Tryz.func128, Tryz.ntmps128
  go_wp2
  go_ret
  exact ⟨rfl, rfl⟩
theorem digit_yes (c : Int) (w : World) (h : isDigit c = true) : Calls Tryz.prog 129 #[.int .i32 c] w fun e w' => e = .returned (.bool true) ∧ w = w' := by
 obtain ⟨h1, h2⟩ : 48 ≤ c ∧ c ≤ 57 := by simpa [isDigit] using h
 clear h
 go_enter Tryz.func129, Tryz.ntmps129
 go_wp2
 go_ret
 exact ⟨rfl, rfl⟩
theorem digit_no (c : Int) (w : World) (h : isDigit c = false) : Calls Tryz.prog 129 #[.int .i32 c] w fun e w' => e = .returned (.bool false) ∧ w = w' := by
 by_cases h1 : 48 ≤ c
 ·have h2 : ¬ c ≤ 57 := by simp [isDigit] at h; omega
  clear h
  go_enter Tryz.func129, Tryz.ntmps129
  go_wp2
  go_ret
  exact ⟨rfl, rfl⟩
 ·clear h
  go_enter Tryz.func129, Tryz.ntmps129
  go_wp2
  go_ret
  exact ⟨rfl, rfl⟩
end
section
open Go.RowKit
theorem toList_len (s : ByteArray) : s.data.toList.length = s.size := by simp
theorem below_iter (w : World) (s : ByteArray) (p : Nat) : Below w.heap.size w (w.iter s p) := (Below.refl _ _).alloc (Nat.le_refl _) _
theorem empty_no (s : ByteArray) (h : 0 < s.size) : s.toList.isEmpty = false := by
 rw [ByteArray.toList_eq]
 cases hl : s.data.toList with
 | nil => have := toList_len s; rw [hl] at this; simp at this; omega
 | cons => rfl
theorem empty_yes (s : ByteArray) (h : s.size = 0) : s.toList.isEmpty = true := by
 rw [ByteArray.toList_eq]
 cases hl : s.data.toList with
 | nil => rfl
 | cons => have := toList_len s; rw [hl] at this; simp at this; omega
theorem word_nil (s : ByteArray) (w : World) (h : s.size = 0) :
  Calls Tryz.prog 79 #[.string s] w fun e w' => e = .returned (.bool false) ∧ w = w' := by
 have h0 := empty_yes s h
 clear h
 go_enter Tryz.func79, Tryz.ntmps79
 go_wp2_with fail
 go_ret
 exact ⟨rfl, rfl⟩
theorem word_long (s : ByteArray) (w : World) (h : 24 < s.size) :
  Calls Tryz.prog 79 #[.string s] w fun e w' => e = .returned (.bool false) ∧ w = w' := by
 have h0 := empty_no s (by omega)
 go_enter Tryz.func79, Tryz.ntmps79
 go_wp2_with fail
 go_ret
 exact ⟨rfl, rfl⟩
def wordTo (l : List UInt8) (k : Nat) : Prop := ∀ j (hj : j < l.length), j < k → letterB l[j] = true ∨ (j ≠ 0 ∧ digitB l[j] = true)
theorem wordTo_step {s : ByteArray} {k : Nat} (hk : k < s.size) (h : wordTo s.data.toList k) (h1 : letterB s[k] = true ∨ (k ≠ 0 ∧ digitB s[k] = true)) : wordTo s.data.toList (k + 1) := by
 intro j hj hlt
 rcases Nat.lt_or_ge j k with hh | hh
 ·exact h j hj hh
 ·obtain rfl : j = k := by omega
  exact h1
set_option maxHeartbeats 400000 in
theorem word_walk (s : ByteArray) (w : World) (h1 : s.size ≤ 24) (h2 : 0 < s.size) :
  Calls Tryz.prog 79 #[.string s] w fun e w' => e = .returned (.bool (wordL 24 s.data.toList)) ∧ ∃ p, w.iter s p = w' := by
 have h0 := empty_no s h2
 have h24 : decide (24 < (s.size : Int)) = false := by simp; omega
 go_enter Tryz.func79, Tryz.ntmps79
 go_wp2_with fail
 go_loopw [3, 4] (fun _ _ wr => ∃ pos : Nat, wr = w.iter s pos ∧ pos ≤ s.size ∧ wordTo s.data.toList pos) (fun _ _ wr => s.size - wr.iterPos w.heap.size)
 case atStart => exact ⟨0, rfl, by omega, fun j hj h => absurd h (by omega)⟩
 case round =>
  obtain ⟨pos, rfl, hle, hto⟩ := hrel
  by_cases hp : pos < s.size
  ·by_cases ha : (s[pos]'hp).toNat < 128
   ·have hnx : ∀ ty, (Instr.next (.pointer (some ⟨w.heap.size, 0, none⟩)) true ty).run Tryz.prog (w.iter s pos) = _ := fun ty => run_next_ascii w s pos ty hp ha
    cases hl : isLetter ((s[pos]'hp).toNat : Int)
    ·by_cases hz : pos = 0
     ·have hzb : ((pos : Int) == 0) = true := by simp [hz]
      have Hf := Lib.hid (wordL_false (most := 24) (l := s.data.toList) (j := pos) (by simpa using hp) hl (.inl hz))
      clear hz
      go_wp2_with (first | (go_at_call 128; refine (letter_no _ _ hl).mono ?_; rintro e w' ⟨rfl, rfl⟩))
      go_ret
      exact ⟨by rw [Hf.out]; rfl, _, rfl⟩
     ·have hzb : ((pos : Int) == 0) = false := by simp; omega
      cases hd : isDigit ((s[pos]'hp).toNat : Int)
      ·have Hf := Lib.hid (wordL_false (most := 24) (l := s.data.toList) (j := pos) (by simpa using hp) hl (.inr hd))
       clear hz
       go_wp2_with (first | (go_at_call 128; refine (letter_no _ _ hl).mono ?_; rintro e w' ⟨rfl, rfl⟩) | (go_at_call 129; refine (digit_no _ _ hd).mono ?_; rintro e w' ⟨rfl, rfl⟩))
       go_ret
       exact ⟨by rw [Hf.out]; rfl, _, rfl⟩
      ·go_wp2_with (first | (go_at_call 128; refine (letter_no _ _ hl).mono ?_; rintro e w' ⟨rfl, rfl⟩) | (go_at_call 129; refine (digit_yes _ _ hd).mono ?_; rintro e w' ⟨rfl, rfl⟩))
       go_roundw
       case rel => exact ⟨pos + 1, rfl, by omega, wordTo_step hp hto (.inr ⟨hz, hd⟩)⟩
       case measure => simp; omega
    ·go_wp2_with (first | (go_at_call 128; refine (letter_yes _ _ hl).mono ?_; rintro e w' ⟨rfl, rfl⟩))
     go_roundw
     case rel => exact ⟨pos + 1, rfl, by omega, wordTo_step hp hto (.inl hl)⟩
     case measure => simp; omega
   ·have hdec := decode_high s pos hp (by omega)
    obtain ⟨hge, hw1⟩ := hdec
    have hle' := decode_le s pos
    have hl : isLetter ((Utf8.decode s pos).1 : Int) = false := by simp [isLetter]; omega
    have hd : isDigit ((Utf8.decode s pos).1 : Int) = false := by simp [isDigit]; omega
    have hlb : letterB (s[pos]'hp) = false := by simp [letterB, isLetter]; omega
    have hdb : digitB (s[pos]'hp) = false := by simp [digitB, isDigit]; omega
    have Hf := Lib.hid (wordL_false (most := 24) (l := s.data.toList) (j := pos) (by simpa using hp) hlb (.inr hdb))
    have hnx : ∀ ty, (Instr.next (.pointer (some ⟨w.heap.size, 0, none⟩)) true ty).run Tryz.prog (w.iter s pos) = _ := fun ty => run_next_any w s pos ty hp
    clear hlb hdb
    by_cases hz : pos = 0
    ·have hzb : ((pos : Int) == 0) = true := by simp [hz]
     clear hz
     go_wp2_with (first | (go_at_call 128; refine (letter_no _ _ hl).mono ?_; rintro e w' ⟨rfl, rfl⟩))
     go_ret
     exact ⟨by rw [Hf.out]; rfl, _, rfl⟩
    ·have hzb : ((pos : Int) == 0) = false := by simp; omega
     clear hz
     go_wp2_with (first | (go_at_call 128; refine (letter_no _ _ hl).mono ?_; rintro e w' ⟨rfl, rfl⟩) | (go_at_call 129; refine (digit_no _ _ hd).mono ?_; rintro e w' ⟨rfl, rfl⟩))
     go_ret
     exact ⟨by rw [Hf.out]; rfl, _, rfl⟩
  ·have hnx : ∀ ty, (Instr.next (.pointer (some ⟨w.heap.size, 0, none⟩)) true ty).run Tryz.prog (w.iter s pos) = _ := fun ty => run_next_end w s pos ty hp
   go_wp2_with fail
   go_ret
   refine ⟨?_, _, rfl⟩
   rw [wordL_true (by simpa using h2) (by simpa using h1) (fun j hj => hto j hj (by simp at hj; omega))]
   rfl
theorem word_any (s : ByteArray) (w : World) :
  Calls Tryz.prog 79 #[.string s] w fun e w' => e = .returned (.bool (wordL 24 s.data.toList)) ∧ Below w.heap.size w w' := by
 rcases Nat.eq_zero_or_pos s.size with h | h
 ·rw [wordL_nil (by simpa using h)]
  exact (word_nil s w h).mono fun e w' ⟨h1, h2⟩ => ⟨h1, h2 ▸ Below.refl _ _⟩
 ·rcases Nat.lt_or_ge 24 s.size with h' | h'
  ·rw [wordL_long (by simpa using h')]
   exact (word_long s w h').mono fun e w' ⟨h1, h2⟩ => ⟨h1, h2 ▸ Below.refl _ _⟩
  ·refine (word_walk s w h' h).mono fun e w' ⟨h1, p, h2⟩ => ⟨h1, h2 ▸ below_iter w s p⟩
end
section
open Go.RowKit
end
section
open Go.RowKit
theorem extract_list (s : ByteArray) (a b : Nat) : (s.extract a b).data.toList = (s.data.toList.drop a).take (b - a) := by
 rw [ByteArray.data_extract, Array.toList_extract, List.extract_eq_take_drop]
theorem extract_end (s : ByteArray) (a : Nat) : (s.extract a s.size).data.toList = s.data.toList.drop a := by
 rw [extract_list, List.take_of_length_le (by simp)]
end
section
open Go.RowKit
theorem contains_one (s : ByteArray) (c : UInt8) (w : World) :
  Calls Tryz.prog 195 #[.string s, .string ⟨#[c]⟩] w fun e w' => e = .returned (.bool (decide ((0 : Int) ≤ Lib.indexByte s.data.toList c))) ∧ w = w' :=
 (Tryz.strings_Contains_one s c w).mono fun _ _ ⟨h1, h2⟩ => ⟨h1, h2.symm⟩
end
section
open Go.RowKit
end
end Go.Proofs.YtnjedgpidalioaaGreatDoor
