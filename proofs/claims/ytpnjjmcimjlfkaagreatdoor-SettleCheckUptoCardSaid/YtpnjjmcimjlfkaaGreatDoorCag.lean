/- Texts of this proof, part 7: what the proof uses of them. -/
import Derived.WalkKit
import Derived.Below
import Derived.Lib.Hide
import Derived.Shelf.Strings.Builder1
import Derived.Shelf.Small.Strs
import Derived.Shelf.Strings.BuilderF
import Derived.Shelf.Strings.BuilderK
import Derived.Shelf.Strconv.Itoa0
import Derived.Shelf.Strconv.Itoa1
import Derived.Shelf.LaysM
import Derived.Shelf.Strconv.Itoa2
import Derived.Shelf.Strconv.Itoa3
import Derived.Shelf.Strings.Search1
import Derived.Shelf.Strings.Search2
import Derived.Shelf.Strings.Search3
import Derived.Shelf.Strings.Shaped
import Derived.Shelf.Strings.Prefix
import Derived.Shelf.Unicode.DecodeSlow
import Derived.Shelf.Strings.BuilderCap
import Derived.Shelf.Slices.Turned
import Derived.Ground.Names2Prog
import Derived.Shelf.Slices.Clone
import Derived.Ground.SlgnProg
import Derived.Shelf.SlicesE.Clone
import Derived.Test.YtpnjjmcimjlfkaaGreatDoorProg
import Derived.Lib.Bytealg
import Derived.Lib.Strings
import Derived.WalkSpells
import Derived.WalkLawsBesides
import Derived.BigQuiet
import Derived.Deep.QuietTactic
import Derived.RangeFuncWrites
set_option maxRecDepth 100000
set_option maxHeartbeats 64000000
namespace Go.Proofs.YtpnjjmcimjlfkaaGreatDoor
section
open Go.RowKit
inductive Ex where
 | mk (kind : Int) (name more : ByteArray) (int den : Int) (sub : List Ex)
namespace Ex
def kind : Ex → Int | .mk k _ _ _ _ _ => k
def name : Ex → ByteArray | .mk _ n _ _ _ _ => n
def more : Ex → ByteArray | .mk _ _ m _ _ _ => m
def int : Ex → Int | .mk _ _ _ i _ _ => i
def den : Ex → Int | .mk _ _ _ _ d _ => d
def sub : Ex → List Ex | .mk _ _ _ _ _ s => s
theorem eta (t : Ex) : Ex.mk t.kind t.name t.more t.int t.den t.sub = t := by cases t; rfl
end Ex
mutual
def zb : Ex → Nat
 | .mk _ _ _ _ _ s => nodesL s + 1
def nodesL : List Ex → Nat
 | [] => 0
 | e :: es => zb e + nodesL es
end
theorem zbz (t : Ex) : zb t = nodesL t.sub + 1 := by cases t; simp [zb, Ex.sub]
theorem zcO (t : Ex) : 0 < zb t := by rw [zbz]; omega
theorem zaD : ∀ a b : List Ex, nodesL (a ++ b) = nodesL a + nodesL b
 | [], b => by simp [nodesL]
 | e :: es, b => by simp [nodesL, zaD es b]; omega
theorem zjq (l : List Ex) (j : Nat) (h : j < l.length) : nodesL (l.take (j + 1)) = nodesL (l.take j) + zb l[j] := by
 rw [List.take_succ_eq_append_getElem h, zaD]; simp [nodesL]
theorem zmI {l : List Ex} {e : Ex} (h : e ∈ l) : zb e ≤ nodesL l := by
 induction l with
 | nil => cases h
 | cons a r ih =>
  simp only [nodesL]
  rcases List.mem_cons.1 h with rfl | h
  ·omega
  ·have := ih h; omega
theorem zaP (l : List Ex) (j : Nat) (h : j < l.length) : zb l[j] ≤ nodesL l := zmI (List.getElem_mem h)
theorem zmH (l : List Ex) (j : Nat) : nodesL (l.take j) ≤ nodesL l := by
 have := zaD (l.take j) (l.drop j)
 rw [List.take_append_drop] at this; omega
theorem zI : ∀ l : List Ex, l.length ≤ nodesL l
 | [] => by simp
 | e :: es => by have := zI es; have := zcO e; simp [nodesL]; omega
mutual
def zje (w : World) (B : Nat) : Ex → Value → Prop
 | .mk k n m i d sub, v => ∃ (p : Option Addr) (cap : Nat), v = .agg #[.int .i64 k, .string n, .string m, .int .i64 i, .int .i64 d, .slice p sub.length cap] ∧ sub.length ≤ cap ∧
   (0 < sub.length → ∃ b off, p = some ⟨b, off, none⟩ ∧ b < B ∧ zdA w B b off sub)
def zdA (w : World) (B : Nat) (b : Nat) : Nat → List Ex → Prop
 | _, [] => True
 | off, e :: es => (∃ c0 c1 c2 c3 c4 c5, w.cell? ⟨b, off, none⟩ = some c0 ∧ w.cell? ⟨b, off + 1, none⟩ = some c1 ∧ w.cell? ⟨b, off + 2, none⟩ = some c2 ∧ w.cell? ⟨b, off + 3, none⟩ = some c3 ∧ w.cell? ⟨b, off + 4, none⟩ = some c4 ∧ w.cell? ⟨b, off + 5, none⟩ = some c5 ∧
   zje w B e (.agg #[c0, c1, c2, c3, c4, c5])) ∧ zdA w B b (off + 6) es
end
def zas (w : World) (B : Nat) (sub : List Ex) (sv : Value) : Prop :=
 ∃ (p : Option Addr) (cap : Nat), sv = .slice p sub.length cap ∧ sub.length ≤ cap ∧ (0 < sub.length → ∃ b off, p = some ⟨b, off, none⟩ ∧ b < B ∧ zdA w B b off sub)
theorem zff {w : World} {B : Nat} {t : Ex} {v : Value} : zje w B t v ↔ ∃ sv, v = .agg #[.int .i64 t.kind, .string t.name, .string t.more, .int .i64 t.int, .int .i64 t.den, sv] ∧ zas w B t.sub sv := by
 cases t with
 | mk k n m i d s =>
  simp only [zje, zas, Ex.kind, Ex.name, Ex.more, Ex.int, Ex.den, Ex.sub]
  constructor
  ·rintro ⟨p, cap, rfl, h⟩; exact ⟨_, rfl, p, cap, rfl, h⟩
  ·rintro ⟨_, rfl, p, cap, rfl, h⟩; exact ⟨p, cap, rfl, h⟩
def zhT (w : World) (B : Nat) (b off : Nat) (t : Ex) : Prop :=
 ∃ sv, w.cell? ⟨b, off, none⟩ = some (.int .i64 t.kind) ∧ w.cell? ⟨b, off + 1, none⟩ = some (.string t.name) ∧ w.cell? ⟨b, off + 2, none⟩ = some (.string t.more) ∧ w.cell? ⟨b, off + 3, none⟩ = some (.int .i64 t.int) ∧ w.cell? ⟨b, off + 4, none⟩ = some (.int .i64 t.den) ∧
  w.cell? ⟨b, off + 5, none⟩ = some sv ∧ zas w B t.sub sv
theorem zdW {w : World} {B b off : Nat} {e : Ex} {es : List Ex} : zdA w B b off (e :: es) ↔ zhT w B b off e ∧ zdA w B b (off + 6) es := by
 simp only [zdA, zhT, zff]
 constructor
 ·rintro ⟨⟨c0, c1, c2, c3, c4, c5, h0, h1, h2, h3, h4, h5, sv, he, hs⟩, hr⟩
  simp only [Value.agg.injEq, Array.mk.injEq, List.cons.injEq, and_true] at he
  obtain ⟨rfl, rfl, rfl, rfl, rfl, rfl⟩ := he
  exact ⟨⟨_, h0, h1, h2, h3, h4, h5, hs⟩, hr⟩
 ·rintro ⟨⟨sv, h0, h1, h2, h3, h4, h5, hs⟩, hr⟩
  exact ⟨⟨_, _, _, _, _, _, h0, h1, h2, h3, h4, h5, sv, rfl, hs⟩, hr⟩
theorem zxp {w : World} {B b off : Nat} : zdA w B b off [] := by simp [zdA]
theorem zvW {w : World} {B b : Nat} : ∀ {sub : List Ex} {off : Nat}, zdA w B b off sub → ∀ k (h : k < sub.length), zhT w B b (off + k * 6) sub[k]
 | [], _, _, k, h => by simp at h
 | e :: es, off, hr, 0, h => by simpa using (zdW.1 hr).1
 | e :: es, off, hr, k + 1, h => by
  have := zvW (zdW.1 hr).2 k (by simpa using h)
  have e1 : off + (k + 1) * 6 = off + 6 + k * 6 := by omega
  rw [e1]; simpa using this
mutual
theorem zyi {w w' : World} {B B' : Nat} (hB : B ≤ B') (hb : ∀ b off, b < B → w'.cell? ⟨b, off, none⟩ = w.cell? ⟨b, off, none⟩) : ∀ (t : Ex) (v : Value), zje w B t v → zje w' B' t v
 | .mk k n m i d sub, v, h => by
  simp only [zje] at h ⊢
  obtain ⟨p, cap, hv, hc, hr⟩ := h
  refine ⟨p, cap, hv, hc, fun hp => ?_⟩
  obtain ⟨b, off, h1, h2, h3⟩ := hr hp
  exact ⟨b, off, h1, by omega, zhD hB hb b h2 off sub h3⟩
theorem zhD {w w' : World} {B B' : Nat} (hB : B ≤ B') (hb : ∀ b off, b < B → w'.cell? ⟨b, off, none⟩ = w.cell? ⟨b, off, none⟩) (b : Nat) (hlt : b < B) : ∀ (off : Nat) (sub : List Ex), zdA w B b off sub → zdA w' B' b off sub
 | _, [], _ => zxp
 | off, e :: es, h => by
  simp only [zdA] at h ⊢
  obtain ⟨⟨c0, c1, c2, c3, c4, c5, h0, h1, h2, h3, h4, h5, he⟩, hr⟩ := h
  exact ⟨⟨c0, c1, c2, c3, c4, c5, (hb _ _ hlt).trans h0, (hb _ _ hlt).trans h1, (hb _ _ hlt).trans h2, (hb _ _ hlt).trans h3, (hb _ _ hlt).trans h4, (hb _ _ hlt).trans h5, zyi hB hb e _ he⟩, zhD hB hb b hlt _ es hr⟩
end
theorem ztz {w w' : World} {B B' : Nat} (hB : B ≤ B') (hb : ∀ b off, b < B → w'.cell? ⟨b, off, none⟩ = w.cell? ⟨b, off, none⟩) {sub : List Ex} {sv : Value} (h : zas w B sub sv) : zas w' B' sub sv := by
 obtain ⟨p, cap, hv, hc, hr⟩ := h
 refine ⟨p, cap, hv, hc, fun hp => ?_⟩
 obtain ⟨b, off, h1, h2, h3⟩ := hr hp
 exact ⟨b, off, h1, by omega, zhD hB hb b h2 off sub h3⟩
theorem zbD {w w' : World} {B B' : Nat} {sub : List Ex} {sv : Value} (h : zas w B sub sv) (hb : Below B w w') (hB : B ≤ B') : zas w' B' sub sv :=
 ztz hB (fun b off hlt => hb.cell (p := ⟨b, off, none⟩) hlt) h
theorem zaO {w : World} {B : Nat} {sub : List Ex} {sv : Value} (h : zas w B sub sv) : ∃ (p : Option Addr) (cap : Nat), sv = .slice p sub.length cap ∧ sub.length ≤ cap ∧ ∀ k (hk : k < sub.length), ∃ b off, p = some ⟨b, off, none⟩ ∧ b < B ∧ zhT w B b (off + k * 6) sub[k] := by
 obtain ⟨p, cap, hv, hc, hr⟩ := h
 refine ⟨p, cap, hv, hc, fun k hk => ?_⟩
 obtain ⟨b, off, h1, h2, h3⟩ := hr (by omega)
 exact ⟨b, off, h1, h2, zvW h3 k hk⟩
theorem zqp {w w' : World} {B B' b off : Nat} {t : Ex} (h : zhT w B b off t) (hb : Below B w w') (hB : B ≤ B') (hlt : b < B) : zhT w' B' b off t := by
 obtain ⟨sv, h0, h1, h2, h3, h4, h5, h6⟩ := h
 exact ⟨sv, (hb.cell (p := ⟨b, _, none⟩) hlt).trans h0, (hb.cell (p := ⟨b, _, none⟩) hlt).trans h1, (hb.cell (p := ⟨b, _, none⟩) hlt).trans h2, (hb.cell (p := ⟨b, _, none⟩) hlt).trans h3, (hb.cell (p := ⟨b, _, none⟩) hlt).trans h4, (hb.cell (p := ⟨b, _, none⟩) hlt).trans h5, zbD h6 hb hB⟩
structure Boxed (w : World) (cs : Array Value) (w1 : World) : Prop where
 below : Below w.heap.size w w1
 size : w.heap.size < w1.heap.size
 cell : ∀ i (h : i < cs.size), w1.cell? ⟨w.heap.size, i, none⟩ = some cs[i]
 frozen : ∀ i, i < cs.size → w1.frozen? ⟨w.heap.size, i, none⟩ = false
 next : w1.heap.size = w.heap.size + 1
theorem zct (w : World) (cs : Array Value) (T : TypeId) : ∃ w1, w.alloc (.cells cs T) = w1 ∧ Boxed w cs w1 := by
 refine ⟨_, rfl, (Below.refl _ _).alloc (Nat.le_refl _) _, by simp, fun i h => ?_, fun i h => ?_, by simp⟩
 ·simp [go_sem, h]
 ·simp [go_sem]
theorem zdt {w w1 w2 : World} {c0 c1 c2 c3 c4 c5 : Value} (hX : Boxed w #[c0, c1, c2, c3, c4, c5] w1) (hb : Below w1.heap.size w1 w2) :
  w2.cell? ⟨w.heap.size, 0, none⟩ = some c0 ∧ w2.cell? ⟨w.heap.size, 1, none⟩ = some c1 ∧ w2.cell? ⟨w.heap.size, 2, none⟩ = some c2 ∧ w2.cell? ⟨w.heap.size, 3, none⟩ = some c3 ∧ w2.cell? ⟨w.heap.size, 4, none⟩ = some c4 ∧ w2.cell? ⟨w.heap.size, 5, none⟩ = some c5 :=
 ⟨(hb.cell (p := ⟨w.heap.size, 0, none⟩) hX.size).trans (hX.cell 0 (by simp)), (hb.cell (p := ⟨w.heap.size, 1, none⟩) hX.size).trans (hX.cell 1 (by simp)), (hb.cell (p := ⟨w.heap.size, 2, none⟩) hX.size).trans (hX.cell 2 (by simp)),
  (hb.cell (p := ⟨w.heap.size, 3, none⟩) hX.size).trans (hX.cell 3 (by simp)), (hb.cell (p := ⟨w.heap.size, 4, none⟩) hX.size).trans (hX.cell 4 (by simp)), (hb.cell (p := ⟨w.heap.size, 5, none⟩) hX.size).trans (hX.cell 5 (by simp))⟩
theorem zjP {w w1 w2 : World} {c0 c1 c2 c3 c4 : Value} (hX : Boxed w #[c0, c1, c2, c3, c4] w1) (hb : Below w1.heap.size w1 w2) :
  w2.cell? ⟨w.heap.size, 0, none⟩ = some c0 ∧ w2.cell? ⟨w.heap.size, 1, none⟩ = some c1 ∧ w2.cell? ⟨w.heap.size, 2, none⟩ = some c2 ∧ w2.cell? ⟨w.heap.size, 3, none⟩ = some c3 ∧ w2.cell? ⟨w.heap.size, 4, none⟩ = some c4 :=
 ⟨(hb.cell (p := ⟨w.heap.size, 0, none⟩) hX.size).trans (hX.cell 0 (by simp)), (hb.cell (p := ⟨w.heap.size, 1, none⟩) hX.size).trans (hX.cell 1 (by simp)), (hb.cell (p := ⟨w.heap.size, 2, none⟩) hX.size).trans (hX.cell 2 (by simp)),
  (hb.cell (p := ⟨w.heap.size, 3, none⟩) hX.size).trans (hX.cell 3 (by simp)), (hb.cell (p := ⟨w.heap.size, 4, none⟩) hX.size).trans (hX.cell 4 (by simp))⟩
theorem zhZ {w wr : World} {sub : List Ex} {p : Option Addr} {n cap : Nat} (h : zas w w.heap.size sub (.slice p n cap)) (hb : Below w.heap.size w wr) (j : Nat) (hj : j < sub.length) :
  ∃ b off cv, p = some ⟨b, off, none⟩ ∧ wr.cell? ⟨b, off + j * 6, none⟩ = some (.int .i64 sub[j].kind) ∧ wr.cell? ⟨b, off + j * 6 + 1, none⟩ = some (.string sub[j].name) ∧ wr.cell? ⟨b, off + j * 6 + 2, none⟩ = some (.string sub[j].more) ∧ wr.cell? ⟨b, off + j * 6 + 3, none⟩ = some (.int .i64 sub[j].int) ∧
   wr.cell? ⟨b, off + j * 6 + 4, none⟩ = some (.int .i64 sub[j].den) ∧ wr.cell? ⟨b, off + j * 6 + 5, none⟩ = some cv ∧ zas wr wr.heap.size sub[j].sub cv := by
 obtain ⟨p', cap', he, _, hk⟩ := zaO h
 simp only [Value.slice.injEq] at he
 obtain ⟨rfl, -, -⟩ := he
 obtain ⟨b, off, hp, hlt, hN⟩ := hk j hj
 obtain ⟨cv, h0, h1, h2, h3, h4, h5, h6⟩ := zqp hN hb hb.size hlt
 exact ⟨b, off, cv, hp, h0, h1, h2, h3, h4, h5, h6⟩
end
section
mutual
def zbh : Ex → Nat
 | .mk _ _ _ _ _ s => depthL s + 1
def depthL : List Ex → Nat
 | [] => 0
 | e :: es => max (zbh e) (depthL es)
end
theorem zyq (t : Ex) : zbh t = depthL t.sub + 1 := by cases t; simp [zbh, Ex.sub]
theorem zeH : ∀ a b : List Ex, depthL (a ++ b) = max (depthL a) (depthL b)
 | [], b => by simp [depthL]
 | e :: es, b => by simp only [depthL, List.cons_append, zeH es b]; omega
theorem zjK (l : List Ex) (j : Nat) (h : j < l.length) : depthL (l.take (j + 1)) = max (depthL (l.take j)) (zbh l[j]) := by
 rw [List.take_succ_eq_append_getElem h, zeH]; simp [depthL]
mutual
theorem zyp : ∀ t : Ex, zbh t ≤ zb t
 | .mk _ _ _ _ _ s => by have := zfi s; simp only [zbh, zb]; omega
theorem zfi : ∀ l : List Ex, depthL l ≤ nodesL l
 | [] => by simp [depthL]
 | e :: es => by have := zyp e; have := zfi es; simp only [depthL, nodesL]; omega
end
theorem znj (l : List Ex) (j : Nat) : depthL (l.take j) ≤ depthL l := by
 have := zeH (l.take j) (l.drop j)
 rw [List.take_append_drop] at this; omega
mutual
def zkq : Ex → Bool
 | .mk _ n m _ _ s => decide (100 < n.size) || decide (100 < m.size) || zer s
def zer : List Ex → Bool
 | [] => false
 | e :: es => zkq e || zer es
end
theorem zzL (t : Ex) : zkq t = (decide (100 < t.name.size) || decide (100 < t.more.size) || zer t.sub) := by cases t; rw [zkq]; rfl
theorem zfE : ∀ a b : List Ex, zer (a ++ b) = (zer a || zer b)
 | [], b => by simp [zer]
 | e :: es, b => by simp [zer, zfE es b, Bool.or_assoc]
theorem zfV (l : List Ex) (j : Nat) (h : j < l.length) : zer (l.take (j + 1)) = (zer (l.take j) || zkq l[j]) := by
 rw [List.take_succ_eq_append_getElem h, zfE]; simp [zer]
theorem zzK {l : List Ex} {j : Nat} (h : j < l.length) (he : zkq l[j] = true) : zer l = true := by
 have h1 := zfE (l.take (j + 1)) (l.drop (j + 1))
 rw [List.take_append_drop, zfV l j h, he] at h1
 simp [h1]
mutual
def confE : Ex → Nat
 | .mk k _ _ _ _ s => (if k = 15 then 1 else 0) + zbe s
def zbe : List Ex → Nat
 | [] => 0
 | e :: es => confE e + zbe es
end
theorem zfO : ∀ a b : List Ex, zbe (a ++ b) = zbe a + zbe b
 | [], b => by simp [zbe]
 | e :: es, b => by simp [zbe, zfO es b]; omega
theorem zld (l : List Ex) (j : Nat) (h : j < l.length) : zbe (l.take (j + 1)) = zbe (l.take j) + confE l[j] := by
 rw [List.take_succ_eq_append_getElem h, zfO]; simp [zbe]
mutual
theorem ziR : ∀ t : Ex, confE t ≤ zb t
 | .mk _ _ _ _ _ s => by have := zsY s; simp only [confE, zb]; split <;> omega
theorem zsY : ∀ l : List Ex, zbe l ≤ nodesL l
 | [] => by simp [zbe]
 | e :: es => by have := ziR e; have := zsY es; simp only [zbe, nodesL]; omega
end
theorem zoh (l : List Ex) (j : Nat) : zbe (l.take j) ≤ zbe l := by
 have := zfO (l.take j) (l.drop j)
 rw [List.take_append_drop] at this; omega
end
section
end
section
open Go.RowKit
mutual
def ExP (w : World) (P : Nat → Prop) : Ex → Value → Prop
 | .mk k n m i d sub, v => ∃ (p : Option Addr) (cap : Nat), v = .agg #[.int .i64 k, .string n, .string m, .int .i64 i, .int .i64 d, .slice p sub.length cap] ∧ sub.length ≤ cap ∧
   (0 < sub.length → ∃ b off, p = some ⟨b, off, none⟩ ∧ P b ∧ zjS w P b off sub)
def zjS (w : World) (P : Nat → Prop) (b : Nat) : Nat → List Ex → Prop
 | _, [] => True
 | off, e :: es => (∃ c0 c1 c2 c3 c4 c5, w.cell? ⟨b, off, none⟩ = some c0 ∧ w.cell? ⟨b, off + 1, none⟩ = some c1 ∧ w.cell? ⟨b, off + 2, none⟩ = some c2 ∧ w.cell? ⟨b, off + 3, none⟩ = some c3 ∧ w.cell? ⟨b, off + 4, none⟩ = some c4 ∧ w.cell? ⟨b, off + 5, none⟩ = some c5 ∧
   ExP w P e (.agg #[c0, c1, c2, c3, c4, c5])) ∧ zjS w P b (off + 6) es
end
def zfm (w : World) (P : Nat → Prop) (sub : List Ex) (sv : Value) : Prop :=
 ∃ (p : Option Addr) (cap : Nat), sv = .slice p sub.length cap ∧ sub.length ≤ cap ∧ (0 < sub.length → ∃ b off, p = some ⟨b, off, none⟩ ∧ P b ∧ zjS w P b off sub)
theorem zCx {w : World} {P : Nat → Prop} {t : Ex} {v : Value} : ExP w P t v ↔ ∃ sv, v = .agg #[.int .i64 t.kind, .string t.name, .string t.more, .int .i64 t.int, .int .i64 t.den, sv] ∧ zfm w P t.sub sv := by
 cases t with
 | mk k n m i d s =>
  simp only [ExP, zfm, Ex.kind, Ex.name, Ex.more, Ex.int, Ex.den, Ex.sub]
  constructor
  ·rintro ⟨p, cap, rfl, h⟩; exact ⟨_, rfl, p, cap, rfl, h⟩
  ·rintro ⟨_, rfl, p, cap, rfl, h⟩; exact ⟨p, cap, rfl, h⟩
def zDo (w : World) (P : Nat → Prop) (b off : Nat) (t : Ex) : Prop :=
 ∃ sv, w.cell? ⟨b, off, none⟩ = some (.int .i64 t.kind) ∧ w.cell? ⟨b, off + 1, none⟩ = some (.string t.name) ∧ w.cell? ⟨b, off + 2, none⟩ = some (.string t.more) ∧ w.cell? ⟨b, off + 3, none⟩ = some (.int .i64 t.int) ∧ w.cell? ⟨b, off + 4, none⟩ = some (.int .i64 t.den) ∧
  w.cell? ⟨b, off + 5, none⟩ = some sv ∧ zfm w P t.sub sv
theorem zjm {w : World} {P : Nat → Prop} {b off : Nat} {e : Ex} {es : List Ex} : zjS w P b off (e :: es) ↔ zDo w P b off e ∧ zjS w P b (off + 6) es := by
 simp only [zjS, zDo, zCx]
 constructor
 ·rintro ⟨⟨c0, c1, c2, c3, c4, c5, h0, h1, h2, h3, h4, h5, sv, he, hs⟩, hr⟩
  simp only [Value.agg.injEq, Array.mk.injEq, List.cons.injEq, and_true] at he
  obtain ⟨rfl, rfl, rfl, rfl, rfl, rfl⟩ := he
  exact ⟨⟨_, h0, h1, h2, h3, h4, h5, hs⟩, hr⟩
 ·rintro ⟨⟨sv, h0, h1, h2, h3, h4, h5, hs⟩, hr⟩
  exact ⟨⟨_, _, _, _, _, _, h0, h1, h2, h3, h4, h5, sv, rfl, hs⟩, hr⟩
theorem zlX {w : World} {P : Nat → Prop} {b off : Nat} : zjS w P b off [] := by simp [zjS]
def zfn (P : Nat → Prop) (A B : World) : Prop := ∀ b off, P b → ∀ v, A.cell? ⟨b, off, none⟩ = some v → B.cell? ⟨b, off, none⟩ = some v
mutual
theorem zAk {w w' : World} {P Q : Nat → Prop} (hPQ : ∀ b, P b → Q b) (hb : zfn P w w') : ∀ (t : Ex) (v : Value), ExP w P t v → ExP w' Q t v
 | .mk k n m i d sub, v, h => by
  simp only [ExP] at h ⊢
  obtain ⟨p, cap, hv, hc, hr⟩ := h
  refine ⟨p, cap, hv, hc, fun hp => ?_⟩
  obtain ⟨b, off, h1, h2, h3⟩ := hr hp
  exact ⟨b, off, h1, hPQ b h2, zjl hPQ hb b h2 off sub h3⟩
theorem zjl {w w' : World} {P Q : Nat → Prop} (hPQ : ∀ b, P b → Q b) (hb : zfn P w w') (b : Nat) (hlt : P b) : ∀ (off : Nat) (sub : List Ex), zjS w P b off sub → zjS w' Q b off sub
 | _, [], _ => zlX
 | off, e :: es, h => by
  simp only [zjS] at h ⊢
  obtain ⟨⟨c0, c1, c2, c3, c4, c5, h0, h1, h2, h3, h4, h5, he⟩, hr⟩ := h
  exact ⟨⟨c0, c1, c2, c3, c4, c5, hb _ _ hlt _ h0, hb _ _ hlt _ h1, hb _ _ hlt _ h2, hb _ _ hlt _ h3, hb _ _ hlt _ h4, hb _ _ hlt _ h5, zAk hPQ hb e _ he⟩, zjl hPQ hb b hlt _ es hr⟩
end
theorem zwX {w w' : World} {P Q : Nat → Prop} (hPQ : ∀ b, P b → Q b) (hb : zfn P w w') {sub : List Ex} {sv : Value} (h : zfm w P sub sv) : zfm w' Q sub sv := by
 obtain ⟨p, cap, hv, hc, hr⟩ := h
 refine ⟨p, cap, hv, hc, fun hp => ?_⟩
 obtain ⟨b, off, h1, h2, h3⟩ := hr hp
 exact ⟨b, off, h1, hPQ b h2, zjl hPQ hb b h2 off sub h3⟩
theorem zlB {P : Nat → Prop} {B : Nat} {A C : World} (h : Below B A C) (hP : ∀ b, P b → b < B) : zfn P A C := fun b off hb _ hv => (h.cell (p := ⟨b, off, none⟩) (hP b hb)).trans hv
mutual
theorem zDK : ∀ {w : World} {B : Nat} (t : Ex) (v : Value), zje w B t v → ExP w (· < B) t v
 | w, B, .mk k n m i d sub, v, h => by
  simp only [zje] at h; simp only [ExP]
  obtain ⟨p, cap, hv, hc, hr⟩ := h
  refine ⟨p, cap, hv, hc, fun hp => ?_⟩
  obtain ⟨b, off, h1, h2, h3⟩ := hr hp
  exact ⟨b, off, h1, h2, zpQ b off sub h3⟩
theorem zpQ : ∀ {w : World} {B : Nat} (b off : Nat) (sub : List Ex), zdA w B b off sub → zjS w (· < B) b off sub
 | w, B, b, _, [], _ => zlX
 | w, B, b, off, e :: es, h => by
  simp only [zdA] at h; simp only [zjS]
  obtain ⟨⟨c0, c1, c2, c3, c4, c5, h0, h1, h2, h3, h4, h5, he⟩, hr⟩ := h
  exact ⟨⟨c0, c1, c2, c3, c4, c5, h0, h1, h2, h3, h4, h5, zDK e _ he⟩, zpQ b _ es hr⟩
end
theorem zBD {w : World} {B : Nat} {sub : List Ex} {sv : Value} (h : zas w B sub sv) : zfm w (· < B) sub sv := by
 obtain ⟨p, cap, hv, hc, hr⟩ := h
 refine ⟨p, cap, hv, hc, fun hp => ?_⟩
 obtain ⟨b, off, h1, h2, h3⟩ := hr hp
 exact ⟨b, off, h1, h2, zpQ b off sub h3⟩
end
end Go.Proofs.YtpnjjmcimjlfkaaGreatDoor
namespace Go.Proofs
open Go.Shelf
def Tryz.lays143_ren : Go.Shelf.Ren := ⟨fun | 143 => 256 | 219 => 288 | 217 => 324 | 225 => 325 | 224 => 326 | 267 => 327 | 266 => 340 | 314 => 341 | n => n, fun | 9 => 9 | 3 => 3 | 4 => 4 | 5 => 5 | 46 => 180 | 146 => 359 | 51 => 323 | n => n, fun | 1 => 0 | n => n⟩
theorem Tryz.lays143 : Go.Proofs.Lays.n143 Tryz.prog Tryz.lays143_ren := {
 mixed := by kernel_rfl
 f143 := Tryz.func256.trans (congrArg some (by kernel_rfl))
 f217 := Tryz.func324.trans (congrArg some (by kernel_rfl))
 f219 := Tryz.func288.trans (congrArg some (by kernel_rfl))
 f224 := Tryz.func326.trans (congrArg some (by kernel_rfl))
 f225 := Tryz.func325.trans (congrArg some (by kernel_rfl))
 f266 := Tryz.func340.trans (congrArg some (by kernel_rfl))
 f267 := Tryz.func327.trans (congrArg some (by kernel_rfl))
 f314 := Tryz.func341.trans (congrArg some (by kernel_rfl))
 t3 := Tryz.underlying3
 a3 := Tryz.isAgg3
 z3 := Tryz.sizeOf3
 v3 := Tryz.zeroValue3
 t4 := Tryz.underlying4
 a4 := Tryz.isAgg4
 z4 := Tryz.sizeOf4
 v4 := Tryz.zeroValue4
 t5 := Tryz.underlying5
 a5 := Tryz.isAgg5
 z5 := Tryz.sizeOf5
 v5 := Tryz.zeroValue5
 t9 := Tryz.underlying9
 a9 := Tryz.isAgg9
 z9 := Tryz.sizeOf9
 v9 := Tryz.zeroValue9
 t46 := Tryz.underlying180
 a46 := Tryz.isAgg180
 z46 := Tryz.sizeOf180
 v46 := Tryz.zeroValue180
 t51 := Tryz.underlying323
 a51 := Tryz.isAgg323
 z51 := Tryz.sizeOf323
 v51 := Tryz.zeroValue323
 t146 := Tryz.underlying359
 a146 := Tryz.isAgg359
 z146 := Tryz.sizeOf359
 v146 := Tryz.zeroValue359
 g1 := by kernel_rfl }
open Go.RowKit Go.Lib in
theorem Tryz.strings_Index_one (s : ByteArray) (c : UInt8) (w : World) :
  Calls Tryz.prog 256 #[.string s, .string ⟨#[c]⟩] w fun e w' => e = .returned (.int .i64 (Lib.indexByte s.data.toList c)) ∧ w' = w := Any.strings_Index_one Tryz.lays143 s c w
def Tryz.lays144_ren : Go.Shelf.Ren := ⟨fun | 144 => 289 | 143 => 256 | 219 => 288 | 217 => 324 | 225 => 325 | 224 => 326 | 267 => 327 | 266 => 340 | 314 => 341 | n => n, fun | 9 => 9 | 4 => 4 | 3 => 3 | 5 => 5 | 46 => 180 | 146 => 359 | 51 => 323 | n => n, fun | 1 => 0 | n => n⟩
theorem Tryz.lays144 : Go.Proofs.Lays.n144 Tryz.prog Tryz.lays144_ren := {
 mixed := by kernel_rfl
 f143 := Tryz.func256.trans (congrArg some (by kernel_rfl))
 f144 := Tryz.func289.trans (congrArg some (by kernel_rfl))
 f217 := Tryz.func324.trans (congrArg some (by kernel_rfl))
 f219 := Tryz.func288.trans (congrArg some (by kernel_rfl))
 f224 := Tryz.func326.trans (congrArg some (by kernel_rfl))
 f225 := Tryz.func325.trans (congrArg some (by kernel_rfl))
 f266 := Tryz.func340.trans (congrArg some (by kernel_rfl))
 f267 := Tryz.func327.trans (congrArg some (by kernel_rfl))
 f314 := Tryz.func341.trans (congrArg some (by kernel_rfl))
 t3 := Tryz.underlying3
 a3 := Tryz.isAgg3
 z3 := Tryz.sizeOf3
 v3 := Tryz.zeroValue3
 t4 := Tryz.underlying4
 a4 := Tryz.isAgg4
 z4 := Tryz.sizeOf4
 v4 := Tryz.zeroValue4
 t5 := Tryz.underlying5
 a5 := Tryz.isAgg5
 z5 := Tryz.sizeOf5
 v5 := Tryz.zeroValue5
 t9 := Tryz.underlying9
 a9 := Tryz.isAgg9
 z9 := Tryz.sizeOf9
 v9 := Tryz.zeroValue9
 t46 := Tryz.underlying180
 a46 := Tryz.isAgg180
 z46 := Tryz.sizeOf180
 v46 := Tryz.zeroValue180
 t51 := Tryz.underlying323
 a51 := Tryz.isAgg323
 z51 := Tryz.sizeOf323
 v51 := Tryz.zeroValue323
 t146 := Tryz.underlying359
 a146 := Tryz.isAgg359
 z146 := Tryz.sizeOf359
 v146 := Tryz.zeroValue359
 g1 := by kernel_rfl }
open Go.RowKit Go.Lib in
theorem Tryz.strings_Contains_one (s : ByteArray) (c : UInt8) (w : World) :
  Calls Tryz.prog 289 #[.string s, .string ⟨#[c]⟩] w fun e w' => e = .returned (.bool (decide (0 ≤ Lib.indexByte s.data.toList c))) ∧ w' = w := Any.strings_Contains_one Tryz.lays144 s c w
def Tryz.lays106_ren : Go.Shelf.Ren := ⟨fun | 106 => 81 | 213 => 145 | 265 => 224 | n => n, fun | 9 => 9 | 3 => 3 | n => n, fun | n => n⟩
theorem Tryz.lays106 : Go.Proofs.Lays.n106 Tryz.prog Tryz.lays106_ren := {
 mixed := by kernel_rfl
 f106 := Tryz.func81.trans (congrArg some (by kernel_rfl))
 f213 := Tryz.func145.trans (congrArg some (by kernel_rfl))
 f265 := Tryz.func224.trans (congrArg some (by kernel_rfl))
 t3 := Tryz.underlying3
 a3 := Tryz.isAgg3
 z3 := Tryz.sizeOf3
 v3 := Tryz.zeroValue3
 t9 := Tryz.underlying9
 a9 := Tryz.isAgg9
 z9 := Tryz.sizeOf9
 v9 := Tryz.zeroValue9 }
open Go.RowKit in
theorem Tryz.strings_Compare (a b : ByteArray) (w : World) :
  Calls Tryz.prog 81 #[.string a, .string b] w fun e w' => e = .returned (.int .i64 (Lib.compareBytes a.data.toList b.data.toList)) ∧ w' = w := Any.strings_Compare Tryz.lays106 a b w
end Go.Proofs
namespace Go.Proofs.YtpnjjmcimjlfkaaGreatDoor
section
def zax (c : Int) : Bool := decide (97 ≤ c) && decide (c ≤ 122)
def zbv (c : Int) : Bool := decide (48 ≤ c) && decide (c ≤ 57)
def zcD (c : UInt8) : Bool := zax (c.toNat : Int)
def zfN (c : UInt8) : Bool := zbv (c.toNat : Int)
def zfS (c : UInt8) : Bool := zcD c || zfN c
def zay (most : Nat) (l : List UInt8) : Bool :=
 match l with
 | [] => false
 | c :: r => decide (r.length + 1 ≤ most) && zcD c && r.all zfS
theorem zlr {most : Nat} {l : List UInt8} (h0 : 0 < l.length) (h1 : l.length ≤ most)
  (h : ∀ j (hj : j < l.length), zcD l[j] = true ∨ (j ≠ 0 ∧ zfN l[j] = true)) : zay most l = true := by
 cases l with
 | nil => simp at h0
 | cons c r =>
  simp only [zay, Bool.and_eq_true, decide_eq_true_eq, List.all_eq_true]
  refine ⟨⟨by simpa using h1, ?_⟩, fun x hx => ?_⟩
  ·have := h 0 (by simp)
   simpa using this
  ·obtain ⟨j, hj, rfl⟩ := List.getElem_of_mem hx
   have := h (j + 1) (by simpa using hj)
   simp only [List.getElem_cons_succ] at this
   unfold zfS
   rcases this with h | ⟨_, h⟩ <;> simp [h]
theorem zcX {most : Nat} {l : List UInt8} {j : Nat} (hj : j < l.length) (h1 : zcD l[j] = false) (h2 : j = 0 ∨ zfN l[j] = false) : zay most l = false := by
 cases l with
 | nil => rfl
 | cons c r =>
  cases j with
  | zero => simp at h1; simp [zay, h1]
  | succ j =>
   have hj' : j < r.length := by simpa using hj
   simp only [List.getElem_cons_succ] at h1 h2
   have h3 : zfN r[j] = false := by
    rcases h2 with h | h
    ·omega
    ·exact h
   have : r.all zfS = false := by
    rw [List.all_eq_false]
    exact ⟨r[j], List.getElem_mem _, by simp [zfS, h1, h3]⟩
   simp [zay, this]
theorem zht {most : Nat} {l : List UInt8} (h : most < l.length) : zay most l = false := by
 cases l with
 | nil => rfl
 | cons c r =>
  have : ¬ (r.length + 1 ≤ most) := by simp at h; omega
  simp [zay, this]
theorem zol {most : Nat} {l : List UInt8} (h : l.length = 0) : zay most l = false := by
 cases l with
 | nil => rfl
 | cons c r => simp at h
def runL (p : UInt8 → Bool) (l : List UInt8) : Nat := (l.takeWhile p).length
theorem zpM (p : UInt8 → Bool) (l : List UInt8) : runL p l ≤ l.length := by
 unfold runL; exact (List.takeWhile_sublist p).length_le
theorem zvQ {p : UInt8 → Bool} : ∀ {l : List UInt8} {k : Nat}, k ≤ l.length → (∀ j (hj : j < l.length), j < k → p l[j] = true) → (∀ h : k < l.length, p l[k] = false) → runL p l = k := by
 intro l
 induction l with
 | nil => intro k hk _ _; simp at hk; subst hk; rfl
 | cons c r ih =>
  intro k hk h1 h2
  cases k with
  | zero =>
   have := h2 (by simp)
   simp only [List.getElem_cons_zero] at this
   simp [runL, this]
  | succ k =>
   have hc : p c = true := h1 0 (by simp) (by omega)
   have := ih (k := k) (by simpa using hk) (fun j hj hlt => h1 (j + 1) (by simpa using hj) (by omega)) (fun h => by
    have := h2 (by simpa using h)
    simpa using this)
   unfold runL at this ⊢
   simp [hc, this]
def zaC : List UInt8 → List (List UInt8)
 | [] => [[]]
 | c :: r => if c == 47 then [] :: zaC r else match zaC r with
  | p :: ps => (c :: p) :: ps
  | [] => [[c]]
def zR (l : List UInt8) : Bool := decide (l.length ≤ 90) && (zaC l).all (zay 20)
theorem zgc {l : List UInt8} (h : Lib.indexByte l 47 = -1) : zaC l = [l] := by
 induction l with
 | nil => rfl
 | cons c r ih =>
  unfold Lib.indexByte at h
  by_cases hc : (c == 47) = true
  ·simp [hc] at h
  ·rw [if_neg hc] at h
   by_cases hr : (Lib.indexByte r 47 == -1) = true
   ·have := ih (by simpa using hr)
    rw [zaC, if_neg hc, this]
   ·rw [if_neg hr] at h
    have := Lib.indexByte_ge r 47
    exfalso; apply hr; simp; omega
theorem zeo : ∀ {l : List UInt8} {i : Nat}, Lib.indexByte l 47 = (i : Int) → i < l.length ∧ zaC l = l.take i :: zaC (l.drop (i + 1)) := by
 intro l
 induction l with
 | nil => intro i h; simp [Lib.indexByte] at h
 | cons c r ih =>
  intro i h
  unfold Lib.indexByte at h
  by_cases hc : (c == 47) = true
  ·rw [if_pos hc] at h
   obtain rfl : i = 0 := by omega
   refine ⟨by simp, ?_⟩
   rw [zaC, if_pos hc]; rfl
  ·rw [if_neg hc] at h
   by_cases hr : (Lib.indexByte r 47 == -1) = true
   ·rw [if_pos hr] at h; omega
   ·rw [if_neg hr] at h
    cases i with
    | zero => have := Lib.indexByte_ge r 47; exfalso; apply hr; simp; omega
    | succ i =>
     obtain ⟨h1, h2⟩ := ih (i := i) (by omega)
     refine ⟨by simpa using h1, ?_⟩
     rw [zaC, if_neg hc, h2]
     simp
end
section
open Go.RowKit
theorem zva (c : Int) (w : World) (h : zax c = true) : Calls Tryz.prog 211 #[.int .i32 c] w fun e w' => e = .returned (.bool true) ∧ w = w' := by
 obtain ⟨h1, h2⟩ : 97 ≤ c ∧ c ≤ 122 := by simpa [zax] using h
 clear h
 go_enter Tryz.func211, Tryz.ntmps211
 go_wp2
 go_ret
 exact ⟨rfl, rfl⟩
theorem zfa (c : Int) (w : World) (h : zax c = false) : Calls Tryz.prog 211 #[.int .i32 c] w fun e w' => e = .returned (.bool false) ∧ w = w' := by
 by_cases h1 : 97 ≤ c
 ·have h2 : ¬ c ≤ 122 := by simp [zax] at h; omega
  clear h
  go_enter Tryz.func211, Tryz.ntmps211
  go_wp2
  go_ret
  exact ⟨rfl, rfl⟩
 ·clear h
  go_enter Tryz.func211, Tryz.ntmps211
  go_wp2
  go_ret
  exact ⟨rfl, rfl⟩
theorem digit_yes (c : Int) (w : World) (h : zbv c = true) : Calls Tryz.prog 212 #[.int .i32 c] w fun e w' => e = .returned (.bool true) ∧ w = w' := by
 obtain ⟨h1, h2⟩ : 48 ≤ c ∧ c ≤ 57 := by simpa [zbv] using h
 clear h
 go_enter Tryz.func212, Tryz.ntmps212
 go_wp2
 go_ret
 exact ⟨rfl, rfl⟩
theorem digit_no (c : Int) (w : World) (h : zbv c = false) : Calls Tryz.prog 212 #[.int .i32 c] w fun e w' => e = .returned (.bool false) ∧ w = w' := by
 by_cases h1 : 48 ≤ c
 ·have h2 : ¬ c ≤ 57 := by simp [zbv] at h; omega
  clear h
  go_enter Tryz.func212, Tryz.ntmps212
  go_wp2
  go_ret
  exact ⟨rfl, rfl⟩
 ·clear h
  go_enter Tryz.func212, Tryz.ntmps212
  go_wp2
  go_ret
  exact ⟨rfl, rfl⟩
end
section
open Go.RowKit
theorem zlt (s : ByteArray) : s.data.toList.length = s.size := by simp
theorem zvA (w : World) (s : ByteArray) (p : Nat) : Below w.heap.size w (w.iter s p) := (Below.refl _ _).alloc (Nat.le_refl _) _
theorem zsQ (s : ByteArray) (h : 0 < s.size) : s.toList.isEmpty = false := by
 rw [ByteArray.toList_eq]
 cases hl : s.data.toList with
 | nil => have := zlt s; rw [hl] at this; simp at this; omega
 | cons => rfl
theorem zyn (s : ByteArray) (h : s.size = 0) : s.toList.isEmpty = true := by
 rw [ByteArray.toList_eq]
 cases hl : s.data.toList with
 | nil => rfl
 | cons => have := zlt s; rw [hl] at this; simp at this; omega
theorem zyK (s : ByteArray) (w : World) (h : s.size = 0) :
  Calls Tryz.prog 133 #[.string s] w fun e w' => e = .returned (.bool false) ∧ w = w' := by
 have h0 := zyn s h
 clear h
 go_enter Tryz.func133, Tryz.ntmps133
 go_wp2_with fail
 go_ret
 exact ⟨rfl, rfl⟩
theorem zwQ (s : ByteArray) (w : World) (h : 24 < s.size) :
  Calls Tryz.prog 133 #[.string s] w fun e w' => e = .returned (.bool false) ∧ w = w' := by
 have h0 := zsQ s (by omega)
 go_enter Tryz.func133, Tryz.ntmps133
 go_wp2_with fail
 go_ret
 exact ⟨rfl, rfl⟩
def ztq (l : List UInt8) (k : Nat) : Prop := ∀ j (hj : j < l.length), j < k → zcD l[j] = true ∨ (j ≠ 0 ∧ zfN l[j] = true)
theorem zjV {s : ByteArray} {k : Nat} (hk : k < s.size) (h : ztq s.data.toList k) (h1 : zcD s[k] = true ∨ (k ≠ 0 ∧ zfN s[k] = true)) : ztq s.data.toList (k + 1) := by
 intro j hj hlt
 rcases Nat.lt_or_ge j k with hh | hh
 ·exact h j hj hh
 ·obtain rfl : j = k := by omega
  exact h1
theorem zwP (s : ByteArray) (w : World) (h1 : s.size ≤ 24) (h2 : 0 < s.size) :
  Calls Tryz.prog 133 #[.string s] w fun e w' => e = .returned (.bool (zay 24 s.data.toList)) ∧ ∃ p, w.iter s p = w' := by
 have h0 := zsQ s h2
 have h24 : decide (24 < (s.size : Int)) = false := by simp; omega
 go_enter Tryz.func133, Tryz.ntmps133
 go_wp2_with fail
 go_loopw [3, 4] (fun _ _ wr => ∃ pos : Nat, wr = w.iter s pos ∧ pos ≤ s.size ∧ ztq s.data.toList pos) (fun _ _ wr => s.size - wr.iterPos w.heap.size)
 case atStart => exact ⟨0, rfl, by omega, fun j hj h => absurd h (by omega)⟩
 case round =>
  obtain ⟨pos, rfl, hle, hto⟩ := hrel
  by_cases hp : pos < s.size
  ·by_cases ha : (s[pos]'hp).toNat < 128
   ·have hnx : ∀ ty, (Instr.next (.pointer (some ⟨w.heap.size, 0, none⟩)) true ty).run Tryz.prog (w.iter s pos) = _ := fun ty => run_next_ascii w s pos ty hp ha
    cases hl : zax ((s[pos]'hp).toNat : Int)
    ·by_cases hz : pos = 0
     ·have hzb : ((pos : Int) == 0) = true := by simp [hz]
      have Hf := Lib.hid (zcX (most := 24) (l := s.data.toList) (j := pos) (by simpa using hp) hl (.inl hz))
      clear hz
      go_wp2_with (first | (go_at_call 211; refine (zfa _ _ hl).mono ?_; rintro e w' ⟨rfl, rfl⟩))
      go_ret
      exact ⟨by rw [Hf.out]; rfl, _, rfl⟩
     ·have hzb : ((pos : Int) == 0) = false := by simp; omega
      cases hd : zbv ((s[pos]'hp).toNat : Int)
      ·have Hf := Lib.hid (zcX (most := 24) (l := s.data.toList) (j := pos) (by simpa using hp) hl (.inr hd))
       clear hz
       go_wp2_with (first | (go_at_call 211; refine (zfa _ _ hl).mono ?_; rintro e w' ⟨rfl, rfl⟩) | (go_at_call 212; refine (digit_no _ _ hd).mono ?_; rintro e w' ⟨rfl, rfl⟩))
       go_ret
       exact ⟨by rw [Hf.out]; rfl, _, rfl⟩
      ·go_wp2_with (first | (go_at_call 211; refine (zfa _ _ hl).mono ?_; rintro e w' ⟨rfl, rfl⟩) | (go_at_call 212; refine (digit_yes _ _ hd).mono ?_; rintro e w' ⟨rfl, rfl⟩))
       go_roundw
       case rel => exact ⟨pos + 1, rfl, by omega, zjV hp hto (.inr ⟨hz, hd⟩)⟩
       case measure => simp; omega
    ·go_wp2_with (first | (go_at_call 211; refine (zva _ _ hl).mono ?_; rintro e w' ⟨rfl, rfl⟩))
     go_roundw
     case rel => exact ⟨pos + 1, rfl, by omega, zjV hp hto (.inl hl)⟩
     case measure => simp; omega
   ·have hdec := decode_high s pos hp (by omega)
    obtain ⟨hge, hw1⟩ := hdec
    have hle' := decode_le s pos
    have hl : zax ((Utf8.decode s pos).1 : Int) = false := by simp [zax]; omega
    have hd : zbv ((Utf8.decode s pos).1 : Int) = false := by simp [zbv]; omega
    have hlb : zcD (s[pos]'hp) = false := by simp [zcD, zax]; omega
    have hdb : zfN (s[pos]'hp) = false := by simp [zfN, zbv]; omega
    have Hf := Lib.hid (zcX (most := 24) (l := s.data.toList) (j := pos) (by simpa using hp) hlb (.inr hdb))
    have hnx : ∀ ty, (Instr.next (.pointer (some ⟨w.heap.size, 0, none⟩)) true ty).run Tryz.prog (w.iter s pos) = _ := fun ty => run_next_any w s pos ty hp
    clear hlb hdb
    by_cases hz : pos = 0
    ·have hzb : ((pos : Int) == 0) = true := by simp [hz]
     clear hz
     go_wp2_with (first | (go_at_call 211; refine (zfa _ _ hl).mono ?_; rintro e w' ⟨rfl, rfl⟩))
     go_ret
     exact ⟨by rw [Hf.out]; rfl, _, rfl⟩
    ·have hzb : ((pos : Int) == 0) = false := by simp; omega
     clear hz
     go_wp2_with (first | (go_at_call 211; refine (zfa _ _ hl).mono ?_; rintro e w' ⟨rfl, rfl⟩) | (go_at_call 212; refine (digit_no _ _ hd).mono ?_; rintro e w' ⟨rfl, rfl⟩))
     go_ret
     exact ⟨by rw [Hf.out]; rfl, _, rfl⟩
  ·have hnx : ∀ ty, (Instr.next (.pointer (some ⟨w.heap.size, 0, none⟩)) true ty).run Tryz.prog (w.iter s pos) = _ := fun ty => run_next_end w s pos ty hp
   go_wp2_with fail
   go_ret
   refine ⟨?_, _, rfl⟩
   rw [zlr (by simpa using h2) (by simpa using h1) (fun j hj => hto j hj (by simp at hj; omega))]
   rfl
theorem zlq (s : ByteArray) (w : World) :
  Calls Tryz.prog 133 #[.string s] w fun e w' => e = .returned (.bool (zay 24 s.data.toList)) ∧ Below w.heap.size w w' := by
 rcases Nat.eq_zero_or_pos s.size with h | h
 ·rw [zol (by simpa using h)]
  exact (zyK s w h).mono fun e w' ⟨h1, h2⟩ => ⟨h1, h2 ▸ Below.refl _ _⟩
 ·rcases Nat.lt_or_ge 24 s.size with h' | h'
  ·rw [zht (by simpa using h')]
   exact (zwQ s w h').mono fun e w' ⟨h1, h2⟩ => ⟨h1, h2 ▸ Below.refl _ _⟩
  ·refine (zwP s w h' h).mono fun e w' ⟨h1, p, h2⟩ => ⟨h1, h2 ▸ zvA w s p⟩
end
section
open Go.RowKit
def zov (p : UInt8 → Bool) (l : List UInt8) (k : Nat) : Prop := ∀ j (hj : j < l.length), j < k → p l[j] = true
theorem zlS (p : UInt8 → Bool) (l : List UInt8) : zov p l 0 := fun _ _ h => absurd h (by omega)
theorem zhC {p : UInt8 → Bool} {s : ByteArray} {k : Nat} (hk : k < s.size) (h : zov p s.data.toList k) (h1 : p s[k] = true) : zov p s.data.toList (k + 1) := by
 intro j hj hlt
 rcases Nat.lt_or_ge j k with hh | hh
 ·exact h j hj hh
 ·obtain rfl : j = k := by omega
  exact h1
end
section
open Go.RowKit
theorem zcj (s : ByteArray) (a b : Nat) : (s.extract a b).data.toList = (s.data.toList.drop a).take (b - a) := by
 rw [ByteArray.data_extract, Array.toList_extract, List.extract_eq_take_drop]
theorem zgq (s : ByteArray) (a : Nat) : (s.extract a s.size).data.toList = s.data.toList.drop a := by
 rw [zcj, List.take_of_length_le (by simp)]
end
section
open Go.RowKit
theorem zqJ (s : ByteArray) (c : UInt8) (w : World) :
  Calls Tryz.prog 289 #[.string s, .string ⟨#[c]⟩] w fun e w' => e = .returned (.bool (decide ((0 : Int) ≤ Lib.indexByte s.data.toList c))) ∧ w = w' :=
 (Tryz.strings_Contains_one s c w).mono fun _ _ ⟨h1, h2⟩ => ⟨h1, h2.symm⟩
end
section
open Go.RowKit
end
section
open Go Go.RowKit
def zDg {α : Type} (F : Fence) (n : Nat) (P : Program) (g : Nat) (lb : Array Value) (encs : α → Array Value) (Kp R : World → World → Prop) (X : List α → α → Prop) (S Sp : List α → Prop) (W : World) : Prop :=
 ∀ (l : Nat) (J Jx : List α → World → Prop),
  (∀ pre A B, J pre A → R A B → J pre B) → (∀ pre A B, Jx pre A → R A B → Jx pre B) →
  (∀ pre x A, J pre A → X pre x → YieldAt F (n - 1) P l (encs x) A fun e B =>
   (e = .returned (.bool true) ∧ J (pre ++ [x]) B ∧ Kp A B) ∨ (e = .returned (.bool false) ∧ Jx (pre ++ [x]) B)) →
  J [] W →
  CallsIn F n P g (#[.func (.yield l) #[] #[]] ++ lb) W fun e B => (∃ v, e = .returned v) ∧ ((∃ xs, S xs ∧ J xs B) ∨ (∃ pre, Sp pre ∧ Jx pre B))
variable {F : Fence} {n : Nat} {P : Program}
theorem zbx {α : Type} {g : Operand} {ps : Array Tmp} {assign body : Code} {Q : Exit → Act → World → Prop} {a : Act} {w : World}
  (hro : F.round = none) (h1 : 1 ≤ n) {gf : Nat} {lb : Array Value} (hg : a.eval g = .func (.func gf) #[] lb) (hFg : F.fn gf) (eg : ∀ args w, (callFunc gf args).run P w = .ok (.enter gf args) w)
  {encs : α → Array Value} {Kp R : World → World → Prop} {X : List α → α → Prop} {S Sp : List α → Prop}
  (hseq : ∀ r : Loop, zDg F (n - 1) P gf lb encs Kp R X S Sp ((w.alloc (.deferred (some []))).alloc (.loop r)))
  (hKt : ∀ {A B C : World}, Kp A B → Kp B C → Kp A C)
  (hKb : ∀ (W : World) (l : Nat) (o o' : Obj), w.heap.size ≤ l → W.heap[l]? = some o → o.isCells = false → Kp W (W.putObj l o'))
  (hR : ∀ {A B : World}, R A B → KeepsFrom w.heap.size A B) (hps : ∀ x, (encs x).size = ps.size)
  (I : List α → World → Prop) (Ix : Code → List α → World → Prop) (hI : OwnFrom w.heap.size I) (hIx : ∀ c, OwnFrom w.heap.size (Ix c))
  (hIR : ∀ pre A B, I pre A → R A B → I pre B) (hIxR : ∀ c pre A B, Ix c pre A → R A B → Ix c pre B) (h0 : I [] w) (a₁ : α → Act)
  (hassign : ∀ (l : Nat) (x : α) (W : World) (K : Act → World → Prop), K (a₁ x) W →
   assign.wpIn (F.inRound l) (n - 1 - 1) P (Exit.then K (fun _ _ _ => False)) { tmps := (ps.zip (encs x)).foldl (fun t (p, v) => t.setIfInBounds p v) a.tmps, defers := [] } W)
  (hbody : ∀ (l : Nat) (pre : List α) (x : α) (W : World), I pre W → X pre x → body.wpIn (F.inRound l) (n - 1 - 1) P (ownPostG w.heap.size Kp I Ix (pre ++ [x]) W) (a₁ x) W)
  (hdone : ∀ (D : Nat) (xs : List α) (W : World), w.heap.size ≤ D → S xs → I xs W → W.heap[D]? = some (.deferred (some [])) → Q .normal { a with defers := { target := .collected D, args := #[] } :: a.defers } W)
  (hstop : ∀ (D : Nat) (c : Code) (pre : List α) (W : World), w.heap.size ≤ D → Sp pre → Ix c pre W → W.heap[D]? = some (.deferred (some [])) → c.wpIn F n P Q { a with defers := { target := .collected D, args := #[] } :: a.defers } W) :
  (Code.rangeFunc g ps assign body).wpIn F n P Q a w := by
 refine wpIn_rangeFunc ?_
 intro fn hfn
 rw [hro]
 -- the two blocks that the statement lays: one for the rounds' deferred calls, then the record of the loop
 obtain ⟨rec, hrec⟩ : ∃ rec : LoopState → Option Code → Loop, rec = fun st pe => { state := st, pending := pe, fn, tmps := a.tmps, params := ps, assign, body, defers := w.heap.size } := ⟨_, rfl⟩
 obtain ⟨W1, hW1⟩ : ∃ W1, (w.alloc (.deferred (some []))).alloc (.loop (rec .ready none)) = W1 := ⟨_, rfl⟩
 have hL1 : W1.heap[w.heap.size + 1]? = some (.loop (rec .ready none)) := by
  have := World.alloc_heap_new (w.alloc (.deferred (some []))) (.loop (rec .ready none))
  rw [World.size_alloc, hW1] at this
  exact this
 have hK1 : W1.heap[w.heap.size]? = some (.deferred (some [])) := by
  rw [← hW1]; exact (Below.heap_alloc _ _ _ (by simp)).trans (World.alloc_heap_new w _)
 have hI1 : I [] W1 := by rw [← hW1]; exact hI.alloc _ (hI.alloc _ h0)
 have hseq1 : zDg F (n - 1) P gf lb encs Kp R X S Sp W1 := hW1 ▸ hseq (rec .ready none)
 refine ⟨w.heap.size + 1, [{ target := .collected w.heap.size, args := #[] }], W1, { target := .fn (.func gf) lb, args := #[.func (.yield (w.heap.size + 1)) #[] #[]] }, W1, gf,
  #[.func (.yield (w.heap.size + 1)) #[] #[]] ++ lb, W1, ?_, ?_, ?_, ?_, fun _ => h1, ?_⟩
 ·rw [← hW1, hrec]; exact run_enterLoop_outer _ _ _ _ _
 ·simp only [resolve, hg]
  simp [go_sem]
 ·intro f' hf'; simp [Target.leads] at hf'; subst hf'; exact hFg
 ·simp [invoke, go_sem, eg]
 ·refine (hseq1 (w.heap.size + 1)
   (fun pre W => I pre W ∧ W.heap[w.heap.size + 1]? = some (.loop (rec .ready none)) ∧ W.heap[w.heap.size]? = some (.deferred (some [])))
   (fun pre W => ∃ c, Ix c pre W ∧ W.heap[w.heap.size + 1]? = some (.loop (rec .done (some c))) ∧ W.heap[w.heap.size]? = some (.deferred (some [])))
   (fun pre A B hs hr => ⟨hIR pre A B hs.1 hr, (hR hr).same _ _ (by omega) hs.2.1 rfl, (hR hr).same _ _ (Nat.le_refl _) hs.2.2 rfl⟩)
   (fun pre A B hs hr => by
    obtain ⟨c, hc, hl, hk⟩ := hs
    exact ⟨c, hIxR c pre A B hc hr, (hR hr).same _ _ (by omega) hl rfl, (hR hr).same _ _ (Nat.le_refl _) hk rfl⟩)
   ?_ ⟨hI1, hL1, hK1⟩).mono ?_
  ·rintro pre x W ⟨hi, hl, hk⟩ hX
   have hlt : w.heap.size + 1 < W.heap.size := (Array.getElem?_eq_some_iff.1 hl).1
   have hy := run_yield (P := P) (args := encs x) hl (by rw [hrec]; exact hps x)
   rw [hrec] at hy
   refine ⟨fn, _, assign, body, hy, roundIn_of_wpIn hfn (hassign _ x W _ ⟨_, run_beginRound hl (by rw [hrec]), ?_⟩)⟩
   have hl2 : (W.putObj (w.heap.size + 1) (.loop { rec .ready none with state := .busy })).heap[w.heap.size + 1]? = some (.loop { rec .ready none with state := .busy }) := World.putObj_heap_same hlt
   have hk2 : (W.putObj (w.heap.size + 1) (.loop { rec .ready none with state := .busy })).heap[w.heap.size]? = some (.deferred (some [])) := (World.putObj_heap_other (by omega)).trans hk
   have hw2 : Kp W (W.putObj (w.heap.size + 1) (.loop { rec .ready none with state := .busy })) := hKb _ _ _ _ (by omega) hl rfl
   refine wpIn_mono (hbody _ pre x _ (hI.putObj _ hi (by omega) hl rfl) hX) ?_
   have fin : ∀ (jump : Option Code) (W3 : World), KeepsFrom w.heap.size (W.putObj (w.heap.size + 1) (.loop { rec .ready none with state := .busy })) W3 →
     (Instr.endRound (w.heap.size + 1) jump).run P W3 = .ok (.bool jump.isNone) (W3.putObj (w.heap.size + 1) (.loop (rec (if jump.isNone then .ready else .done) jump))) ∧
     W3.heap[w.heap.size + 1]? = some (.loop { rec .ready none with state := .busy }) ∧
     (W3.putObj (w.heap.size + 1) (.loop (rec (if jump.isNone then .ready else .done) jump))).heap[w.heap.size + 1]? = some (.loop (rec (if jump.isNone then .ready else .done) jump)) ∧
     (W3.putObj (w.heap.size + 1) (.loop (rec (if jump.isNone then .ready else .done) jump))).heap[w.heap.size]? = some (.deferred (some [])) := fun jump W3 hk3 => by
    have hl3 := hk3.same _ _ (by omega) hl2 rfl
    have := run_endRound (P := P) jump hl3
    rw [hrec] at this ⊢
    exact ⟨this, by rw [hrec] at hl3; exact hl3, World.putObj_heap_same (Array.getElem?_eq_some_iff.1 hl3).1, (World.putObj_heap_other (by omega)).trans (hk3.same _ _ (Nat.le_refl _) hk2 rfl)⟩
   have leave : ∀ (c : Code) (W3 : World), KeepsFrom w.heap.size (W.putObj (w.heap.size + 1) (.loop { rec .ready none with state := .busy })) W3 → Ix c (pre ++ [x]) W3 →
     ∃ v w', (Instr.endRound (w.heap.size + 1) (some c)).run P W3 = .ok v w' ∧ ((Ending.returned v = .returned (.bool true) ∧ (I (pre ++ [x]) w' ∧ w'.heap[w.heap.size + 1]? = some (.loop (rec .ready none)) ∧ w'.heap[w.heap.size]? = some (.deferred (some []))) ∧ Kp W w') ∨
      (Ending.returned v = .returned (.bool false) ∧ ∃ c, Ix c (pre ++ [x]) w' ∧ w'.heap[w.heap.size + 1]? = some (.loop (rec .done (some c))) ∧ w'.heap[w.heap.size]? = some (.deferred (some [])))) := fun c W3 hk3 hi3 => by
    obtain ⟨hr, hl3, hl4, hk4⟩ := fin (some c) W3 hk3
    exact ⟨_, _, hr, .inr ⟨rfl, c, (hIx _).putObj _ hi3 (by omega) hl3 rfl, hl4, hk4⟩⟩
   rintro e a3 W3 hp
   cases e with
   | normal =>
    obtain ⟨hk3, hkp3, hi3⟩ := hp
    obtain ⟨hr, hl3, hl4, hk4⟩ := fin none W3 hk3
    exact ⟨_, _, hr, .inl ⟨rfl, ⟨hI.putObj _ hi3 (by omega) hl3 rfl, hl4, hk4⟩, hKt (hKt hw2 hkp3) (hKb _ _ _ _ (by omega) hl3 rfl)⟩⟩
   | ret => exact leave .ret W3 hp.1 hp.2
   | exit id => exact leave (.exit id) W3 hp.1 hp.2
   | goto t => exact leave (.goto t) W3 hp.1 hp.2
   | panic ch => exact hp.elim
   | outgrown => exact hp.elim
  ·rintro e W2 ⟨⟨v, rfl⟩, (⟨xs, hS, hi, hl, hk⟩ | ⟨pre, hSp, c, hi, hl, hk⟩)⟩
   ·exact ⟨none, _, by have := run_endLoop (P := P) hl (by rw [hrec]; simp); rw [hrec] at this; exact this, hdone _ xs _ (Nat.le_refl _) hS (hI.putObj _ hi (by omega) hl rfl) ((World.putObj_heap_other (by omega)).trans hk)⟩
   ·exact ⟨some c, _, by have := run_endLoop (P := P) hl (by rw [hrec]; simp); rw [hrec] at this; exact this, hstop _ c pre _ (Nat.le_refl _) hSp ((hIx c).putObj _ hi (by omega) hl rfl) ((World.putObj_heap_other (by omega)).trans hk)⟩
end
section
open Go Go.RowKit
variable {F : Fence} {n : Nat} {P : Program}
theorem zeK {α : Type} {g : Operand} {ps : Array Tmp} {assign body : Code} {Q : Exit → Act → World → Prop} {a : Act} {w : World}
  (hro : F.round = none) (h1 : 1 ≤ n) {gf : Nat} {lb : Array Value} (hg : a.eval g = .func (.func gf) #[] lb) (hFg : F.fn gf) (eg : ∀ args w, (callFunc gf args).run P w = .ok (.enter gf args) w)
  {encs : α → Array Value} {Kp R : World → World → Prop} {X : List α → α → Prop} {S Sp : List α → Prop}
  (hseq : ∀ r : Loop, zDg F (n - 1) P gf lb encs Kp R X S Sp ((w.alloc (.deferred (some []))).alloc (.loop r)))
  (hKt : ∀ {A B C : World}, Kp A B → Kp B C → Kp A C)
  (hKb : ∀ (W : World) (l : Nat) (o o' : Obj), w.heap.size ≤ l → W.heap[l]? = some o → o.isCells = false → Kp W (W.putObj l o'))
  (hR : ∀ {A B : World}, R A B → KeepsFrom w.heap.size A B) (hps : ∀ x, (encs x).size = ps.size)
  (I : List α → World → Prop) (Ix : Code → List α → World → Prop) (hI : OwnFrom w.heap.size I) (hIx : ∀ c, OwnFrom w.heap.size (Ix c))
  (hIR : ∀ pre A B, I pre A → R A B → I pre B) (hIxR : ∀ c pre A B, Ix c pre A → R A B → Ix c pre B) (h0 : I [] w) (a₁ : α → Nat → Act) (O : α → Obj) (hKa : ∀ (W : World) (o : Obj), Kp W (W.alloc o))
  (hassign : ∀ (l : Nat) (x : α) (W : World) (K : Act → World → Prop), K (a₁ x W.heap.size) (W.alloc (O x)) →
   assign.wpIn (F.inRound l) (n - 1 - 1) P (Exit.then K (fun _ _ _ => False)) { tmps := (ps.zip (encs x)).foldl (fun t (p, v) => t.setIfInBounds p v) a.tmps, defers := [] } W)
  (hbody : ∀ (l : Nat) (pre : List α) (x : α) (b : Nat) (W : World), I pre W → X pre x → W.heap[b]? = some (O x) → w.heap.size ≤ b → body.wpIn (F.inRound l) (n - 1 - 1) P (ownPostG w.heap.size Kp I Ix (pre ++ [x]) W) (a₁ x b) W)
  (hdone : ∀ (D : Nat) (xs : List α) (W : World), w.heap.size ≤ D → S xs → I xs W → W.heap[D]? = some (.deferred (some [])) → Q .normal { a with defers := { target := .collected D, args := #[] } :: a.defers } W)
  (hstop : ∀ (D : Nat) (c : Code) (pre : List α) (W : World), w.heap.size ≤ D → Sp pre → Ix c pre W → W.heap[D]? = some (.deferred (some [])) → c.wpIn F n P Q { a with defers := { target := .collected D, args := #[] } :: a.defers } W) :
  (Code.rangeFunc g ps assign body).wpIn F n P Q a w := by
 refine wpIn_rangeFunc ?_
 intro fn hfn
 rw [hro]
 -- the two blocks that the statement lays: one for the rounds' deferred calls, then the record of the loop
 obtain ⟨rec, hrec⟩ : ∃ rec : LoopState → Option Code → Loop, rec = fun st pe => { state := st, pending := pe, fn, tmps := a.tmps, params := ps, assign, body, defers := w.heap.size } := ⟨_, rfl⟩
 obtain ⟨W1, hW1⟩ : ∃ W1, (w.alloc (.deferred (some []))).alloc (.loop (rec .ready none)) = W1 := ⟨_, rfl⟩
 have hL1 : W1.heap[w.heap.size + 1]? = some (.loop (rec .ready none)) := by
  have := World.alloc_heap_new (w.alloc (.deferred (some []))) (.loop (rec .ready none))
  rw [World.size_alloc, hW1] at this
  exact this
 have hK1 : W1.heap[w.heap.size]? = some (.deferred (some [])) := by
  rw [← hW1]; exact (Below.heap_alloc _ _ _ (by simp)).trans (World.alloc_heap_new w _)
 have hI1 : I [] W1 := by rw [← hW1]; exact hI.alloc _ (hI.alloc _ h0)
 have hseq1 : zDg F (n - 1) P gf lb encs Kp R X S Sp W1 := hW1 ▸ hseq (rec .ready none)
 refine ⟨w.heap.size + 1, [{ target := .collected w.heap.size, args := #[] }], W1, { target := .fn (.func gf) lb, args := #[.func (.yield (w.heap.size + 1)) #[] #[]] }, W1, gf,
  #[.func (.yield (w.heap.size + 1)) #[] #[]] ++ lb, W1, ?_, ?_, ?_, ?_, fun _ => h1, ?_⟩
 ·rw [← hW1, hrec]; exact run_enterLoop_outer _ _ _ _ _
 ·simp only [resolve, hg]
  simp [go_sem]
 ·intro f' hf'; simp [Target.leads] at hf'; subst hf'; exact hFg
 ·simp [invoke, go_sem, eg]
 ·refine (hseq1 (w.heap.size + 1)
   (fun pre W => I pre W ∧ W.heap[w.heap.size + 1]? = some (.loop (rec .ready none)) ∧ W.heap[w.heap.size]? = some (.deferred (some [])))
   (fun pre W => ∃ c, Ix c pre W ∧ W.heap[w.heap.size + 1]? = some (.loop (rec .done (some c))) ∧ W.heap[w.heap.size]? = some (.deferred (some [])))
   (fun pre A B hs hr => ⟨hIR pre A B hs.1 hr, (hR hr).same _ _ (by omega) hs.2.1 rfl, (hR hr).same _ _ (Nat.le_refl _) hs.2.2 rfl⟩)
   (fun pre A B hs hr => by
    obtain ⟨c, hc, hl, hk⟩ := hs
    exact ⟨c, hIxR c pre A B hc hr, (hR hr).same _ _ (by omega) hl rfl, (hR hr).same _ _ (Nat.le_refl _) hk rfl⟩)
   ?_ ⟨hI1, hL1, hK1⟩).mono ?_
  ·rintro pre x W ⟨hi, hl, hk⟩ hX
   have hlt : w.heap.size + 1 < W.heap.size := (Array.getElem?_eq_some_iff.1 hl).1
   have hy := run_yield (P := P) (args := encs x) hl (by rw [hrec]; exact hps x)
   rw [hrec] at hy
   have hlA : (W.alloc (O x)).heap[w.heap.size + 1]? = some (.loop (rec .ready none)) := (Below.heap_alloc _ _ _ hlt).trans hl
   have hkA : (W.alloc (O x)).heap[w.heap.size]? = some (.deferred (some [])) := (Below.heap_alloc _ _ _ (by omega)).trans hk
   have hbA : (W.alloc (O x)).heap[W.heap.size]? = some (O x) := World.alloc_heap_new W _
   have hiA := hI.alloc (O x) hi
   have hpA := hKa W (O x)
   have hltA : w.heap.size + 1 < (W.alloc (O x)).heap.size := (Array.getElem?_eq_some_iff.1 hlA).1
   refine ⟨fn, _, assign, body, hy, roundIn_of_wpIn hfn (hassign _ x W _ ⟨_, run_beginRound hlA (by rw [hrec]), ?_⟩)⟩
   obtain ⟨bA, hbe⟩ : ∃ bA, W.heap.size = bA := ⟨_, rfl⟩
   have hbL : w.heap.size ≤ bA := by omega
   have hbN : bA ≠ w.heap.size + 1 := by omega
   rw [hbe] at hbA ⊢
   generalize W.alloc (O x) = WA at *
   have hl2 : (WA.putObj (w.heap.size + 1) (.loop { rec .ready none with state := .busy })).heap[w.heap.size + 1]? = some (.loop { rec .ready none with state := .busy }) := World.putObj_heap_same hltA
   have hk2 : (WA.putObj (w.heap.size + 1) (.loop { rec .ready none with state := .busy })).heap[w.heap.size]? = some (.deferred (some [])) := (World.putObj_heap_other (by omega)).trans hkA
   have hw2 : Kp W (WA.putObj (w.heap.size + 1) (.loop { rec .ready none with state := .busy })) := hKt hpA (hKb _ _ _ _ (by omega) hlA rfl)
   refine wpIn_mono (hbody _ pre x bA _ (hI.putObj _ hiA (by omega) hlA rfl) hX ((World.putObj_heap_other hbN).trans hbA) hbL) ?_
   have fin : ∀ (jump : Option Code) (W3 : World), KeepsFrom w.heap.size (WA.putObj (w.heap.size + 1) (.loop { rec .ready none with state := .busy })) W3 →
     (Instr.endRound (w.heap.size + 1) jump).run P W3 = .ok (.bool jump.isNone) (W3.putObj (w.heap.size + 1) (.loop (rec (if jump.isNone then .ready else .done) jump))) ∧
     W3.heap[w.heap.size + 1]? = some (.loop { rec .ready none with state := .busy }) ∧
     (W3.putObj (w.heap.size + 1) (.loop (rec (if jump.isNone then .ready else .done) jump))).heap[w.heap.size + 1]? = some (.loop (rec (if jump.isNone then .ready else .done) jump)) ∧
     (W3.putObj (w.heap.size + 1) (.loop (rec (if jump.isNone then .ready else .done) jump))).heap[w.heap.size]? = some (.deferred (some [])) := fun jump W3 hk3 => by
    have hl3 := hk3.same _ _ (by omega) hl2 rfl
    have := run_endRound (P := P) jump hl3
    rw [hrec] at this ⊢
    exact ⟨this, by rw [hrec] at hl3; exact hl3, World.putObj_heap_same (Array.getElem?_eq_some_iff.1 hl3).1, (World.putObj_heap_other (by omega)).trans (hk3.same _ _ (Nat.le_refl _) hk2 rfl)⟩
   have leave : ∀ (c : Code) (W3 : World), KeepsFrom w.heap.size (WA.putObj (w.heap.size + 1) (.loop { rec .ready none with state := .busy })) W3 → Ix c (pre ++ [x]) W3 →
     ∃ v w', (Instr.endRound (w.heap.size + 1) (some c)).run P W3 = .ok v w' ∧ ((Ending.returned v = .returned (.bool true) ∧ (I (pre ++ [x]) w' ∧ w'.heap[w.heap.size + 1]? = some (.loop (rec .ready none)) ∧ w'.heap[w.heap.size]? = some (.deferred (some []))) ∧ Kp W w') ∨
      (Ending.returned v = .returned (.bool false) ∧ ∃ c, Ix c (pre ++ [x]) w' ∧ w'.heap[w.heap.size + 1]? = some (.loop (rec .done (some c))) ∧ w'.heap[w.heap.size]? = some (.deferred (some [])))) := fun c W3 hk3 hi3 => by
    obtain ⟨hr, hl3, hl4, hk4⟩ := fin (some c) W3 hk3
    exact ⟨_, _, hr, .inr ⟨rfl, c, (hIx _).putObj _ hi3 (by omega) hl3 rfl, hl4, hk4⟩⟩
   rintro e a3 W3 hp
   cases e with
   | normal =>
    obtain ⟨hk3, hkp3, hi3⟩ := hp
    obtain ⟨hr, hl3, hl4, hk4⟩ := fin none W3 hk3
    exact ⟨_, _, hr, .inl ⟨rfl, ⟨hI.putObj _ hi3 (by omega) hl3 rfl, hl4, hk4⟩, hKt (hKt hw2 hkp3) (hKb _ _ _ _ (by omega) hl3 rfl)⟩⟩
   | ret => exact leave .ret W3 hp.1 hp.2
   | exit id => exact leave (.exit id) W3 hp.1 hp.2
   | goto t => exact leave (.goto t) W3 hp.1 hp.2
   | panic ch => exact hp.elim
   | outgrown => exact hp.elim
  ·rintro e W2 ⟨⟨v, rfl⟩, (⟨xs, hS, hi, hl, hk⟩ | ⟨pre, hSp, c, hi, hl, hk⟩)⟩
   ·exact ⟨none, _, by have := run_endLoop (P := P) hl (by rw [hrec]; simp); rw [hrec] at this; exact this, hdone _ xs _ (Nat.le_refl _) hS (hI.putObj _ hi (by omega) hl rfl) ((World.putObj_heap_other (by omega)).trans hk)⟩
   ·exact ⟨some c, _, by have := run_endLoop (P := P) hl (by rw [hrec]; simp); rw [hrec] at this; exact this, hstop _ c pre _ (Nat.le_refl _) hSp ((hIx c).putObj _ hi (by omega) hl rfl) ((World.putObj_heap_other (by omega)).trans hk)⟩
end
end Go.Proofs.YtpnjjmcimjlfkaaGreatDoor
