/- Texts of this proof, part 7: what the proof uses of them. -/
import Derived.Test.YtnnolijagpakiaaGreatDoorVaf
import Derived.WalkKit
import Derived.Below
import Derived.Lib.Hide
import Derived.Shelf.Strings.Builder1
import Derived.Shelf.Strings.Builder2
import Derived.Shelf.Strings.OnBuilder
import Derived.Shelf.Small.Strs
import Derived.Shelf.Strings.BuilderF
import Derived.Shelf.Strings.BuilderK
import Derived.Shelf.Strings.Builder2Cap
import Derived.Shelf.Strconv.Atoi
import Derived.Shelf.Strconv.Itoa0
import Derived.Shelf.Strconv.Itoa1
import Derived.Shelf.LaysM
import Derived.Shelf.Strconv.Itoa2
import Derived.Shelf.Strconv.Itoa3
import Derived.Shelf.Strings.Search1
import Derived.Shelf.Strings.Search2
import Derived.Shelf.Strings.Search3
import Derived.Shelf.Strings.Shaped
import Derived.Shelf.Strings.Prefix
import Derived.Shelf.Unicode.DecodeSlow
import Derived.Shelf.Strings.BuilderCap
import Derived.Ground.Names2Prog
import Derived.Shelf.Slices.Clone
import Derived.Ground.SlgnProg
import Derived.Shelf.SlicesE.Clone
import Derived.Test.YtnnolijagpakiaaGreatDoorProg
namespace Go.Proofs.YtnnolijagpakiaaGreatDoor
section
section
open Go Go.RowKit
attribute [go_sem] Int.reduceToNat Int.cast_ofNat_Int Nat.reduceEqDiff Nat.reduceLT Nat.reduceSub Nat.reduceBEq Nat.reduceBNe reduceCtorEq Bool.false_eq_true Int.reduceNeg Int.reduceLE Int.reduceLT
attribute [go_sem ↓] reduceIte
attribute [go_sem] Bool.true_or Bool.or_true
@[go_sem] theorem beqT (b : Bool) : (b == true) = b := by cases b <;> rfl
@[go_sem] theorem beqF (b : Bool) : (b == false) = !b := by cases b <;> rfl
attribute [go_sem] riOf relOps Op.operands Call.operands go gdOf calleeOf dstOk outOp outLoad outStore outIndex outAppend outLen outCopy outCall loaded shifted AV.rows AV.toD toDs toRows Value.toD AV.cells AV.one Value.oneCell' binV St.eval St.get St.blk St.tok St.put St.setBlk St.setTok St.app look St.ment mentEnv mentBlks Blk.ment mentL AV.ment ofVal ofCell spliced bound makes D.one tokOf blkOf fillA outBin boolEq
attribute [go_sem] outPut outLookup outRange mapOf mapGet findIx putK putC keyEq keyFit lookAV frzMap Blk.lent St.frzs retKF Option.isSome_some Option.isSome_none Option.isNone_some Option.isNone_none
attribute [go_sem] fixN lentN lentB St.frz AV.frz frzL frzEnv frzBlks Blk.frz frzBox frzElem frzOwn
attribute [go_sem] AV.ptr AV.rawOf stkN AV.killS Blk.killS killSB killSK St.callL AV.lentOk Blk.lentOk St.lends lentChk retL St.enterL AV.lbox AV.lboxF AV.closeX closeXL cutS slen Tok.n
attribute [go_sem] AV.close closeL AV.closed closedL fin finL resAV resAll finRes retK St.enter St.keep keepL Value.cells
attribute [go_sem] List.zipIdx_cons List.zipIdx_nil List.map_cons List.map_nil List.take_succ_cons List.take_zero List.take_nil List.drop_succ_cons List.drop_zero List.drop_nil List.length_cons List.length_nil List.getElem?_cons_zero List.getElem?_cons_succ List.all_cons List.all_nil List.cons_append List.nil_append List.append_nil Option.getD_some Option.getD_none Option.map_some Option.map_none Option.bind_some Option.bind_none Bool.and_true Bool.true_and Bool.and_self Bool.or_false Bool.false_or Bool.or_self Bool.not_true Bool.not_false beq_self_eq_true Array.toList_append List.range_zero List.range_succ eq_self List.size_toArray decide_true decide_false Nat.reduceAdd Nat.reduceMul Nat.reduceLeDiff List.toList_toArray List.getElem?_toArray cond_true cond_false and_true true_and implies_true List.set_cons_zero List.set_cons_succ beq_true false_implies forall_const ne_eq not_true_eq_false not_false_eq_true and_false false_and or_true true_or
theorem goC {P : Program} {A : Base P} (n : Nat) {c : Code} {s : List Itm} {σ : St} {Q : Exit → St → Prop} (h : go P A n (.code c) s σ Q) : SatC P A c σ (stk P A s Q) := go_ok n (.code c) s σ Q h
theorem goCallF {P : Program} {A : Base P} (n : Nat) {all : List Oper} {f : FuncId} {o : Oper} {rest : List Oper} {i base : Nat} {s : List Itm} {σ : St} {Q : Exit → St → Prop} {c : Call} {p : Operand} {cs ys : List AV} {res : AV} (hc : Con P f ys res)
  (ho : o.op = .call c) (hp : c.callee = .value p) (hf : σ.eval p = .fn f cs) (ha : closeL (c.args.toList.map σ.eval ++ cs) = some ys) (hd : dstOk A.N o = true)
  (hr : go P A n (.ops all rest (i + 1) base) s (σ.put o.dst res) Q) : SemM P A (.exe (some f) all o rest i base) s σ Q := satE_call ho hp hf ha hc hd (go_ok n _ _ _ _ hr)
theorem goCallDF {P : Program} {A : Base P} (n : Nat) {all : List Oper} {f : FuncId} {o : Oper} {rest : List Oper} {i base : Nat} {acc : List RI} {s : List Itm} {σ : St} {Q : Exit → St → Prop} {c : Call} {p : Operand} {cs ys : List AV} {res : AV} (hc : Con P f ys res)
  (ho : o.op = .call c) (hp : c.callee = .value p) (hf : σ.eval p = .fn f cs) (ha : closeL (c.args.toList.map σ.eval ++ cs) = some ys) (hd : dstOk A.N o = true)
  (hr : go P A n (.dops all rest (i + 1) base (acc ++ [riOf σ o res .none])) s (σ.put o.dst res) Q) : SemM P A (.dexe (some f) all o rest i base acc) s σ Q := fun hg hP =>
 dSem_op hg (.inr (.inl ⟨rfl, f, c, p, cs, ys, ho, hp, hf, ha, hc⟩)) hd (go_ok n _ _ _ _ hr hP)
theorem goCall {P : Program} {A : Base P} (n : Nat) {all : List Oper} {f : FuncId} {o : Oper} {rest : List Oper} {i base : Nat} {s : List Itm} {σ : St} {Q : Exit → St → Prop} {args : Array Operand} {ats : Array TypeId} {ys : List AV} {res : AV} (hc : Con P f ys res)
  (ho : o.op = .call { callee := .value (.func f), args := args, argTypes := ats }) (ha : closeL (args.toList.map σ.eval) = some ys) (hd : dstOk A.N o = true)
  (hr : go P A n (.ops all rest (i + 1) base) s (σ.put o.dst res) Q) : SemM P A (.exe (some f) all o rest i base) s σ Q := goCallF n hc ho rfl rfl (by rw [List.append_nil]; exact ha) hd hr
theorem goCallD {P : Program} {A : Base P} (n : Nat) {all : List Oper} {f : FuncId} {o : Oper} {rest : List Oper} {i base : Nat} {acc : List RI} {s : List Itm} {σ : St} {Q : Exit → St → Prop} {args : Array Operand} {ats : Array TypeId} {ys : List AV} {res : AV} (hc : Con P f ys res)
  (ho : o.op = .call { callee := .value (.func f), args := args, argTypes := ats }) (ha : closeL (args.toList.map σ.eval) = some ys) (hd : dstOk A.N o = true)
  (hr : go P A n (.dops all rest (i + 1) base (acc ++ [riOf σ o res .none])) s (σ.put o.dst res) Q) : SemM P A (.dexe (some f) all o rest i base acc) s σ Q := goCallDF n hc ho rfl rfl (by rw [List.append_nil]; exact ha) hd hr
theorem closedL_d (l : List D) : closedL (l.map .d) = true := by
 induction l with
 | nil => rfl
 | cons x l ih => simp only [List.map_cons, closedL, ih]; rfl
end
end
section
open Go.RowKit
inductive Ex where
 | mk (kind : Int) (name more : ByteArray) (int den : Int) (sub : List Ex)
namespace Ex
def kind : Ex → Int | .mk k _ _ _ _ _ => k
def name : Ex → ByteArray | .mk _ n _ _ _ _ => n
def more : Ex → ByteArray | .mk _ _ m _ _ _ => m
def int : Ex → Int | .mk _ _ _ i _ _ => i
def den : Ex → Int | .mk _ _ _ _ d _ => d
def sub : Ex → List Ex | .mk _ _ _ _ _ s => s
theorem eta (t : Ex) : Ex.mk t.kind t.name t.more t.int t.den t.sub = t := by cases t; rfl
end Ex
mutual
def nodesE : Ex → Nat
 | .mk _ _ _ _ _ s => nodesL s + 1
def nodesL : List Ex → Nat
 | [] => 0
 | e :: es => nodesE e + nodesL es
end
theorem nodesE_eq (t : Ex) : nodesE t = nodesL t.sub + 1 := by cases t; simp [nodesE, Ex.sub]
theorem nodesE_pos (t : Ex) : 0 < nodesE t := by rw [nodesE_eq]; omega
theorem nodesL_append : ∀ a b : List Ex, nodesL (a ++ b) = nodesL a + nodesL b
 | [], b => by simp [nodesL]
 | e :: es, b => by simp [nodesL, nodesL_append es b]; omega
theorem nodesL_take_succ (l : List Ex) (j : Nat) (h : j < l.length) : nodesL (l.take (j + 1)) = nodesL (l.take j) + nodesE l[j] := by
 rw [List.take_succ_eq_append_getElem h, nodesL_append]; simp [nodesL]
theorem nodesL_mem {l : List Ex} {e : Ex} (h : e ∈ l) : nodesE e ≤ nodesL l := by
 induction l with
 | nil => cases h
 | cons a r ih =>
  simp only [nodesL]
  rcases List.mem_cons.1 h with rfl | h
  ·omega
  ·have := ih h; omega
theorem nodesL_get (l : List Ex) (j : Nat) (h : j < l.length) : nodesE l[j] ≤ nodesL l := nodesL_mem (List.getElem_mem h)
theorem nodesL_take_le (l : List Ex) (j : Nat) : nodesL (l.take j) ≤ nodesL l := by
 have := nodesL_append (l.take j) (l.drop j)
 rw [List.take_append_drop] at this; omega
theorem length_le_nodesL : ∀ l : List Ex, l.length ≤ nodesL l
 | [] => by simp
 | e :: es => by have := length_le_nodesL es; have := nodesE_pos e; simp [nodesL]; omega
mutual
def ExAt (w : World) (B : Nat) : Ex → Value → Prop
 | .mk k n m i d sub, v => ∃ (p : Option Addr) (cap : Nat), v = .agg #[.int .i64 k, .string n, .string m, .int .i64 i, .int .i64 d, .slice p sub.length cap] ∧ sub.length ≤ cap ∧
   (0 < sub.length → ∃ b off, p = some ⟨b, off, none⟩ ∧ b < B ∧ RowAt w B b off sub)
def RowAt (w : World) (B : Nat) (b : Nat) : Nat → List Ex → Prop
 | _, [] => True
 | off, e :: es => (∃ c0 c1 c2 c3 c4 c5, w.cell? ⟨b, off, none⟩ = some c0 ∧ w.cell? ⟨b, off + 1, none⟩ = some c1 ∧ w.cell? ⟨b, off + 2, none⟩ = some c2 ∧ w.cell? ⟨b, off + 3, none⟩ = some c3 ∧ w.cell? ⟨b, off + 4, none⟩ = some c4 ∧ w.cell? ⟨b, off + 5, none⟩ = some c5 ∧
   ExAt w B e (.agg #[c0, c1, c2, c3, c4, c5])) ∧ RowAt w B b (off + 6) es
end
def SubAt (w : World) (B : Nat) (sub : List Ex) (sv : Value) : Prop :=
 ∃ (p : Option Addr) (cap : Nat), sv = .slice p sub.length cap ∧ sub.length ≤ cap ∧ (0 < sub.length → ∃ b off, p = some ⟨b, off, none⟩ ∧ b < B ∧ RowAt w B b off sub)
theorem exAt_iff {w : World} {B : Nat} {t : Ex} {v : Value} : ExAt w B t v ↔ ∃ sv, v = .agg #[.int .i64 t.kind, .string t.name, .string t.more, .int .i64 t.int, .int .i64 t.den, sv] ∧ SubAt w B t.sub sv := by
 cases t with
 | mk k n m i d s =>
  simp only [ExAt, SubAt, Ex.kind, Ex.name, Ex.more, Ex.int, Ex.den, Ex.sub]
  constructor
  ·rintro ⟨p, cap, rfl, h⟩; exact ⟨_, rfl, p, cap, rfl, h⟩
  ·rintro ⟨_, rfl, p, cap, rfl, h⟩; exact ⟨p, cap, rfl, h⟩
def NodeAt (w : World) (B : Nat) (b off : Nat) (t : Ex) : Prop :=
 ∃ sv, w.cell? ⟨b, off, none⟩ = some (.int .i64 t.kind) ∧ w.cell? ⟨b, off + 1, none⟩ = some (.string t.name) ∧ w.cell? ⟨b, off + 2, none⟩ = some (.string t.more) ∧ w.cell? ⟨b, off + 3, none⟩ = some (.int .i64 t.int) ∧ w.cell? ⟨b, off + 4, none⟩ = some (.int .i64 t.den) ∧
  w.cell? ⟨b, off + 5, none⟩ = some sv ∧ SubAt w B t.sub sv
theorem rowAt_cons {w : World} {B b off : Nat} {e : Ex} {es : List Ex} : RowAt w B b off (e :: es) ↔ NodeAt w B b off e ∧ RowAt w B b (off + 6) es := by
 simp only [RowAt, NodeAt, exAt_iff]
 constructor
 ·rintro ⟨⟨c0, c1, c2, c3, c4, c5, h0, h1, h2, h3, h4, h5, sv, he, hs⟩, hr⟩
  simp only [Value.agg.injEq, Array.mk.injEq, List.cons.injEq, and_true] at he
  obtain ⟨rfl, rfl, rfl, rfl, rfl, rfl⟩ := he
  exact ⟨⟨_, h0, h1, h2, h3, h4, h5, hs⟩, hr⟩
 ·rintro ⟨⟨sv, h0, h1, h2, h3, h4, h5, hs⟩, hr⟩
  exact ⟨⟨_, _, _, _, _, _, h0, h1, h2, h3, h4, h5, sv, rfl, hs⟩, hr⟩
theorem rowAt_nil {w : World} {B b off : Nat} : RowAt w B b off [] := by simp [RowAt]
theorem row_get {w : World} {B b : Nat} : ∀ {sub : List Ex} {off : Nat}, RowAt w B b off sub → ∀ k (h : k < sub.length), NodeAt w B b (off + k * 6) sub[k]
 | [], _, _, k, h => by simp at h
 | e :: es, off, hr, 0, h => by simpa using (rowAt_cons.1 hr).1
 | e :: es, off, hr, k + 1, h => by
  have := row_get (rowAt_cons.1 hr).2 k (by simpa using h)
  have e1 : off + (k + 1) * 6 = off + 6 + k * 6 := by omega
  rw [e1]; simpa using this
mutual
theorem exAt_same {w w' : World} {B B' : Nat} (hB : B ≤ B') (hb : ∀ b off, b < B → w'.cell? ⟨b, off, none⟩ = w.cell? ⟨b, off, none⟩) : ∀ (t : Ex) (v : Value), ExAt w B t v → ExAt w' B' t v
 | .mk k n m i d sub, v, h => by
  simp only [ExAt] at h ⊢
  obtain ⟨p, cap, hv, hc, hr⟩ := h
  refine ⟨p, cap, hv, hc, fun hp => ?_⟩
  obtain ⟨b, off, h1, h2, h3⟩ := hr hp
  exact ⟨b, off, h1, by omega, rowAt_same hB hb b h2 off sub h3⟩
theorem rowAt_same {w w' : World} {B B' : Nat} (hB : B ≤ B') (hb : ∀ b off, b < B → w'.cell? ⟨b, off, none⟩ = w.cell? ⟨b, off, none⟩) (b : Nat) (hlt : b < B) : ∀ (off : Nat) (sub : List Ex), RowAt w B b off sub → RowAt w' B' b off sub
 | _, [], _ => rowAt_nil
 | off, e :: es, h => by
  simp only [RowAt] at h ⊢
  obtain ⟨⟨c0, c1, c2, c3, c4, c5, h0, h1, h2, h3, h4, h5, he⟩, hr⟩ := h
  exact ⟨⟨c0, c1, c2, c3, c4, c5, (hb _ _ hlt).trans h0, (hb _ _ hlt).trans h1, (hb _ _ hlt).trans h2, (hb _ _ hlt).trans h3, (hb _ _ hlt).trans h4, (hb _ _ hlt).trans h5, exAt_same hB hb e _ he⟩, rowAt_same hB hb b hlt _ es hr⟩
end
theorem subAt_same {w w' : World} {B B' : Nat} (hB : B ≤ B') (hb : ∀ b off, b < B → w'.cell? ⟨b, off, none⟩ = w.cell? ⟨b, off, none⟩) {sub : List Ex} {sv : Value} (h : SubAt w B sub sv) : SubAt w' B' sub sv := by
 obtain ⟨p, cap, hv, hc, hr⟩ := h
 refine ⟨p, cap, hv, hc, fun hp => ?_⟩
 obtain ⟨b, off, h1, h2, h3⟩ := hr hp
 exact ⟨b, off, h1, by omega, rowAt_same hB hb b h2 off sub h3⟩
theorem subAt_below {w w' : World} {B B' : Nat} {sub : List Ex} {sv : Value} (h : SubAt w B sub sv) (hb : Below B w w') (hB : B ≤ B') : SubAt w' B' sub sv :=
 subAt_same hB (fun b off hlt => hb.cell (p := ⟨b, off, none⟩) hlt) h
theorem subAt_open {w : World} {B : Nat} {sub : List Ex} {sv : Value} (h : SubAt w B sub sv) : ∃ (p : Option Addr) (cap : Nat), sv = .slice p sub.length cap ∧ sub.length ≤ cap ∧ ∀ k (hk : k < sub.length), ∃ b off, p = some ⟨b, off, none⟩ ∧ b < B ∧ NodeAt w B b (off + k * 6) sub[k] := by
 obtain ⟨p, cap, hv, hc, hr⟩ := h
 refine ⟨p, cap, hv, hc, fun k hk => ?_⟩
 obtain ⟨b, off, h1, h2, h3⟩ := hr (by omega)
 exact ⟨b, off, h1, h2, row_get h3 k hk⟩
theorem nodeAt_below {w w' : World} {B B' b off : Nat} {t : Ex} (h : NodeAt w B b off t) (hb : Below B w w') (hB : B ≤ B') (hlt : b < B) : NodeAt w' B' b off t := by
 obtain ⟨sv, h0, h1, h2, h3, h4, h5, h6⟩ := h
 exact ⟨sv, (hb.cell (p := ⟨b, _, none⟩) hlt).trans h0, (hb.cell (p := ⟨b, _, none⟩) hlt).trans h1, (hb.cell (p := ⟨b, _, none⟩) hlt).trans h2, (hb.cell (p := ⟨b, _, none⟩) hlt).trans h3, (hb.cell (p := ⟨b, _, none⟩) hlt).trans h4, (hb.cell (p := ⟨b, _, none⟩) hlt).trans h5, subAt_below h6 hb hB⟩
structure Boxed (w : World) (cs : Array Value) (w1 : World) : Prop where
 below : Below w.heap.size w w1
 size : w.heap.size < w1.heap.size
 cell : ∀ i (h : i < cs.size), w1.cell? ⟨w.heap.size, i, none⟩ = some cs[i]
 frozen : ∀ i, i < cs.size → w1.frozen? ⟨w.heap.size, i, none⟩ = false
 next : w1.heap.size = w.heap.size + 1
theorem boxed (w : World) (cs : Array Value) (T : TypeId) : ∃ w1, w.alloc (.cells cs T) = w1 ∧ Boxed w cs w1 := by
 refine ⟨_, rfl, (Below.refl _ _).alloc (Nat.le_refl _) _, by simp, fun i h => ?_, fun i h => ?_, by simp⟩
 ·simp [go_sem, h]
 ·simp [go_sem]
theorem boxed6 {w w1 w2 : World} {c0 c1 c2 c3 c4 c5 : Value} (hX : Boxed w #[c0, c1, c2, c3, c4, c5] w1) (hb : Below w1.heap.size w1 w2) :
  w2.cell? ⟨w.heap.size, 0, none⟩ = some c0 ∧ w2.cell? ⟨w.heap.size, 1, none⟩ = some c1 ∧ w2.cell? ⟨w.heap.size, 2, none⟩ = some c2 ∧ w2.cell? ⟨w.heap.size, 3, none⟩ = some c3 ∧ w2.cell? ⟨w.heap.size, 4, none⟩ = some c4 ∧ w2.cell? ⟨w.heap.size, 5, none⟩ = some c5 :=
 ⟨(hb.cell (p := ⟨w.heap.size, 0, none⟩) hX.size).trans (hX.cell 0 (by simp)), (hb.cell (p := ⟨w.heap.size, 1, none⟩) hX.size).trans (hX.cell 1 (by simp)), (hb.cell (p := ⟨w.heap.size, 2, none⟩) hX.size).trans (hX.cell 2 (by simp)),
  (hb.cell (p := ⟨w.heap.size, 3, none⟩) hX.size).trans (hX.cell 3 (by simp)), (hb.cell (p := ⟨w.heap.size, 4, none⟩) hX.size).trans (hX.cell 4 (by simp)), (hb.cell (p := ⟨w.heap.size, 5, none⟩) hX.size).trans (hX.cell 5 (by simp))⟩
theorem boxed5 {w w1 w2 : World} {c0 c1 c2 c3 c4 : Value} (hX : Boxed w #[c0, c1, c2, c3, c4] w1) (hb : Below w1.heap.size w1 w2) :
  w2.cell? ⟨w.heap.size, 0, none⟩ = some c0 ∧ w2.cell? ⟨w.heap.size, 1, none⟩ = some c1 ∧ w2.cell? ⟨w.heap.size, 2, none⟩ = some c2 ∧ w2.cell? ⟨w.heap.size, 3, none⟩ = some c3 ∧ w2.cell? ⟨w.heap.size, 4, none⟩ = some c4 :=
 ⟨(hb.cell (p := ⟨w.heap.size, 0, none⟩) hX.size).trans (hX.cell 0 (by simp)), (hb.cell (p := ⟨w.heap.size, 1, none⟩) hX.size).trans (hX.cell 1 (by simp)), (hb.cell (p := ⟨w.heap.size, 2, none⟩) hX.size).trans (hX.cell 2 (by simp)),
  (hb.cell (p := ⟨w.heap.size, 3, none⟩) hX.size).trans (hX.cell 3 (by simp)), (hb.cell (p := ⟨w.heap.size, 4, none⟩) hX.size).trans (hX.cell 4 (by simp))⟩
theorem subAt_at {w wr : World} {sub : List Ex} {p : Option Addr} {n cap : Nat} (h : SubAt w w.heap.size sub (.slice p n cap)) (hb : Below w.heap.size w wr) (j : Nat) (hj : j < sub.length) :
  ∃ b off cv, p = some ⟨b, off, none⟩ ∧ wr.cell? ⟨b, off + j * 6, none⟩ = some (.int .i64 sub[j].kind) ∧ wr.cell? ⟨b, off + j * 6 + 1, none⟩ = some (.string sub[j].name) ∧ wr.cell? ⟨b, off + j * 6 + 2, none⟩ = some (.string sub[j].more) ∧ wr.cell? ⟨b, off + j * 6 + 3, none⟩ = some (.int .i64 sub[j].int) ∧
   wr.cell? ⟨b, off + j * 6 + 4, none⟩ = some (.int .i64 sub[j].den) ∧ wr.cell? ⟨b, off + j * 6 + 5, none⟩ = some cv ∧ SubAt wr wr.heap.size sub[j].sub cv := by
 obtain ⟨p', cap', he, _, hk⟩ := subAt_open h
 simp only [Value.slice.injEq] at he
 obtain ⟨rfl, -, -⟩ := he
 obtain ⟨b, off, hp, hlt, hN⟩ := hk j hj
 obtain ⟨cv, h0, h1, h2, h3, h4, h5, h6⟩ := nodeAt_below hN hb hb.size hlt
 exact ⟨b, off, cv, hp, h0, h1, h2, h3, h4, h5, h6⟩
end
section
mutual
def depthE : Ex → Nat
 | .mk _ _ _ _ _ s => depthL s + 1
def depthL : List Ex → Nat
 | [] => 0
 | e :: es => max (depthE e) (depthL es)
end
theorem depthE_eq (t : Ex) : depthE t = depthL t.sub + 1 := by cases t; simp [depthE, Ex.sub]
theorem depthL_append : ∀ a b : List Ex, depthL (a ++ b) = max (depthL a) (depthL b)
 | [], b => by simp [depthL]
 | e :: es, b => by simp only [depthL, List.cons_append, depthL_append es b]; omega
theorem depthL_take_succ (l : List Ex) (j : Nat) (h : j < l.length) : depthL (l.take (j + 1)) = max (depthL (l.take j)) (depthE l[j]) := by
 rw [List.take_succ_eq_append_getElem h, depthL_append]; simp [depthL]
mutual
theorem depthE_le : ∀ t : Ex, depthE t ≤ nodesE t
 | .mk _ _ _ _ _ s => by have := depthL_le s; simp only [depthE, nodesE]; omega
theorem depthL_le : ∀ l : List Ex, depthL l ≤ nodesL l
 | [] => by simp [depthL]
 | e :: es => by have := depthE_le e; have := depthL_le es; simp only [depthL, nodesL]; omega
end
theorem depthL_take_le (l : List Ex) (j : Nat) : depthL (l.take j) ≤ depthL l := by
 have := depthL_append (l.take j) (l.drop j)
 rw [List.take_append_drop] at this; omega
def alikeE (a b : Ex) : Bool := decide (a.kind = b.kind) && decide (a.name = b.name) && decide (a.more = b.more) && decide (a.int = b.int) && decide (a.den = b.den) && decide (a.sub.length = b.sub.length)
theorem alikeE_iff (a b : Ex) : alikeE a b = true ↔ a.kind = b.kind ∧ a.name = b.name ∧ a.more = b.more ∧ a.int = b.int ∧ a.den = b.den ∧ a.sub.length = b.sub.length := by
 simp [alikeE, and_assoc]
mutual
def sameE : Ex → Ex → Bool
 | .mk k n m i d s, .mk k' n' m' i' d' s' => decide (k = k') && decide (n = n') && decide (m = m') && decide (i = i') && decide (d = d') && sameL s s'
def sameL : List Ex → List Ex → Bool
 | [], [] => true
 | a :: asL, b :: bs => sameE a b && sameL asL bs
 | _, _ => false
end
mutual
theorem sameE_iff : ∀ a b : Ex, sameE a b = true ↔ a = b
 | .mk k n m i d s, .mk k' n' m' i' d' s' => by
  simp only [sameE, Bool.and_eq_true, decide_eq_true_eq, sameL_iff s s', Ex.mk.injEq, and_assoc]
theorem sameL_iff : ∀ a b : List Ex, sameL a b = true ↔ a = b
 | [], [] => by simp [sameL]
 | a :: asL, b :: bs => by simp only [sameL, Bool.and_eq_true, sameE_iff a b, sameL_iff asL bs, List.cons.injEq]
 | [], b :: bs => by simp [sameL]
 | a :: asL, [] => by simp [sameL]
end
theorem sameL_append : ∀ (a b a' b' : List Ex), a.length = a'.length → sameL (a ++ b) (a' ++ b') = (sameL a a' && sameL b b')
 | [], b, [], b', _ => by simp [sameL]
 | x :: xs, b, y :: ys, b', h => by simp only [List.cons_append, sameL, sameL_append xs b ys b' (by simpa using h), Bool.and_assoc]
 | [], b, y :: ys, b', h => by simp at h
 | x :: xs, b, [], b', h => by simp at h
theorem sameL_take_succ (l m : List Ex) (j : Nat) (h : j < l.length) (h' : j < m.length) : sameL (l.take (j + 1)) (m.take (j + 1)) = (sameL (l.take j) (m.take j) && sameE l[j] m[j]) := by
 rw [List.take_succ_eq_append_getElem h, List.take_succ_eq_append_getElem h', sameL_append _ _ _ _ (by simp; omega)]; simp [sameL]
theorem sameL_bad {l m : List Ex} {j : Nat} (hl : l.length = m.length) (h : j < l.length) (h' : j < m.length) (he : sameE l[j] m[j] = false) : sameL l m = false := by
 have h1 := sameL_append (l.take (j + 1)) (l.drop (j + 1)) (m.take (j + 1)) (m.drop (j + 1)) (by simp; omega)
 rw [List.take_append_drop, List.take_append_drop, sameL_take_succ l m j h h', he] at h1
 simp [h1]
theorem sameE_alike (a b : Ex) : sameE a b = (alikeE a b && sameL a.sub b.sub) := by
 cases a; cases b
 rename_i k n m i d s k' n' m' i' d' s'
 simp only [sameE, alikeE, Ex.kind, Ex.name, Ex.more, Ex.int, Ex.den, Ex.sub]
 cases hs : sameL s s'
 ·simp
 ·have : s = s' := (sameL_iff _ _).1 hs
  subst this; simp; rfl
end
section
end
section
open Go.RowKit
end
end Go.Proofs.YtnnolijagpakiaaGreatDoor
namespace Go.Proofs
open Go.Shelf
def Tryz.lays143_ren : Go.Shelf.Ren := ⟨fun | 143 => 154 | 219 => 175 | 217 => 177 | 225 => 190 | 224 => 191 | 267 => 192 | 266 => 193 | 314 => 204 | n => n, fun | 9 => 9 | 3 => 3 | 4 => 4 | 5 => 5 | 46 => 199 | 146 => 212 | 51 => 208 | n => n, fun | 1 => 0 | n => n⟩
theorem Tryz.lays143 : Go.Proofs.Lays.n143 Tryz.prog Tryz.lays143_ren := {
 mixed := by kernel_rfl
 f143 := Tryz.func154.trans (congrArg some (by kernel_rfl))
 f217 := Tryz.func177.trans (congrArg some (by kernel_rfl))
 f219 := Tryz.func175.trans (congrArg some (by kernel_rfl))
 f224 := Tryz.func191.trans (congrArg some (by kernel_rfl))
 f225 := Tryz.func190.trans (congrArg some (by kernel_rfl))
 f266 := Tryz.func193.trans (congrArg some (by kernel_rfl))
 f267 := Tryz.func192.trans (congrArg some (by kernel_rfl))
 f314 := Tryz.func204.trans (congrArg some (by kernel_rfl))
 t3 := Tryz.underlying3
 a3 := Tryz.isAgg3
 z3 := Tryz.sizeOf3
 v3 := Tryz.zeroValue3
 t4 := Tryz.underlying4
 a4 := Tryz.isAgg4
 z4 := Tryz.sizeOf4
 v4 := Tryz.zeroValue4
 t5 := Tryz.underlying5
 a5 := Tryz.isAgg5
 z5 := Tryz.sizeOf5
 v5 := Tryz.zeroValue5
 t9 := Tryz.underlying9
 a9 := Tryz.isAgg9
 z9 := Tryz.sizeOf9
 v9 := Tryz.zeroValue9
 t46 := Tryz.underlying199
 a46 := Tryz.isAgg199
 z46 := Tryz.sizeOf199
 v46 := Tryz.zeroValue199
 t51 := Tryz.underlying208
 a51 := Tryz.isAgg208
 z51 := Tryz.sizeOf208
 v51 := Tryz.zeroValue208
 t146 := Tryz.underlying212
 a146 := Tryz.isAgg212
 z146 := Tryz.sizeOf212
 v146 := Tryz.zeroValue212
 g1 := by kernel_rfl }
open Go.RowKit Go.Lib in
theorem Tryz.strings_Index_one (s : ByteArray) (c : UInt8) (w : World) :
  Calls Tryz.prog 154 #[.string s, .string ⟨#[c]⟩] w fun e w' => e = .returned (.int .i64 (Lib.indexByte s.data.toList c)) ∧ w' = w := Any.strings_Index_one Tryz.lays143 s c w
def Tryz.lays144_ren : Go.Shelf.Ren := ⟨fun | 144 => 105 | 143 => 154 | 219 => 175 | 217 => 177 | 225 => 190 | 224 => 191 | 267 => 192 | 266 => 193 | 314 => 204 | n => n, fun | 9 => 9 | 4 => 4 | 3 => 3 | 5 => 5 | 46 => 199 | 146 => 212 | 51 => 208 | n => n, fun | 1 => 0 | n => n⟩
theorem Tryz.lays144 : Go.Proofs.Lays.n144 Tryz.prog Tryz.lays144_ren := {
 mixed := by kernel_rfl
 f143 := Tryz.func154.trans (congrArg some (by kernel_rfl))
 f144 := Tryz.func105.trans (congrArg some (by kernel_rfl))
 f217 := Tryz.func177.trans (congrArg some (by kernel_rfl))
 f219 := Tryz.func175.trans (congrArg some (by kernel_rfl))
 f224 := Tryz.func191.trans (congrArg some (by kernel_rfl))
 f225 := Tryz.func190.trans (congrArg some (by kernel_rfl))
 f266 := Tryz.func193.trans (congrArg some (by kernel_rfl))
 f267 := Tryz.func192.trans (congrArg some (by kernel_rfl))
 f314 := Tryz.func204.trans (congrArg some (by kernel_rfl))
 t3 := Tryz.underlying3
 a3 := Tryz.isAgg3
 z3 := Tryz.sizeOf3
 v3 := Tryz.zeroValue3
 t4 := Tryz.underlying4
 a4 := Tryz.isAgg4
 z4 := Tryz.sizeOf4
 v4 := Tryz.zeroValue4
 t5 := Tryz.underlying5
 a5 := Tryz.isAgg5
 z5 := Tryz.sizeOf5
 v5 := Tryz.zeroValue5
 t9 := Tryz.underlying9
 a9 := Tryz.isAgg9
 z9 := Tryz.sizeOf9
 v9 := Tryz.zeroValue9
 t46 := Tryz.underlying199
 a46 := Tryz.isAgg199
 z46 := Tryz.sizeOf199
 v46 := Tryz.zeroValue199
 t51 := Tryz.underlying208
 a51 := Tryz.isAgg208
 z51 := Tryz.sizeOf208
 v51 := Tryz.zeroValue208
 t146 := Tryz.underlying212
 a146 := Tryz.isAgg212
 z146 := Tryz.sizeOf212
 v146 := Tryz.zeroValue212
 g1 := by kernel_rfl }
open Go.RowKit Go.Lib in
theorem Tryz.strings_Contains_one (s : ByteArray) (c : UInt8) (w : World) :
  Calls Tryz.prog 105 #[.string s, .string ⟨#[c]⟩] w fun e w' => e = .returned (.bool (decide (0 ≤ Lib.indexByte s.data.toList c))) ∧ w' = w := Any.strings_Contains_one Tryz.lays144 s c w
def Tryz.lays137_ren : Go.Shelf.Ren := ⟨fun | 137 => 156 | 217 => 177 | 266 => 193 | n => n, fun | 9 => 9 | 5 => 5 | 3 => 3 | n => n, fun | n => n⟩
theorem Tryz.lays137 : Go.Proofs.Lays.n137 Tryz.prog Tryz.lays137_ren := {
 mixed := by kernel_rfl
 f137 := Tryz.func156.trans (congrArg some (by kernel_rfl))
 f217 := Tryz.func177.trans (congrArg some (by kernel_rfl))
 f266 := Tryz.func193.trans (congrArg some (by kernel_rfl))
 t3 := Tryz.underlying3
 a3 := Tryz.isAgg3
 z3 := Tryz.sizeOf3
 v3 := Tryz.zeroValue3
 t5 := Tryz.underlying5
 a5 := Tryz.isAgg5
 z5 := Tryz.sizeOf5
 v5 := Tryz.zeroValue5
 t9 := Tryz.underlying9
 a9 := Tryz.isAgg9
 z9 := Tryz.sizeOf9
 v9 := Tryz.zeroValue9 }
open Go.RowKit in
theorem Tryz.strings_IndexByte (s : ByteArray) (c : Int) (w : World) :
  Calls Tryz.prog 156 #[.string s, .int .u8 c] w fun e w' => e = .returned (.int .i64 (Lib.indexByte s.data.toList c.toNat.toUInt8)) ∧ w' = w := Any.strings_IndexByte Tryz.lays137 s c w
def Tryz.lays99_ren : Go.Shelf.Ren := ⟨fun | 99 => 155 | 206 => 176 | n => n, fun | 9 => 9 | 4 => 4 | 3 => 3 | n => n, fun | n => n⟩
theorem Tryz.lays99 : Go.Proofs.Lays.n99 Tryz.prog Tryz.lays99_ren := {
 mixed := by kernel_rfl
 f99 := Tryz.func155.trans (congrArg some (by kernel_rfl))
 f206 := Tryz.func176.trans (congrArg some (by kernel_rfl))
 t3 := Tryz.underlying3
 a3 := Tryz.isAgg3
 z3 := Tryz.sizeOf3
 v3 := Tryz.zeroValue3
 t4 := Tryz.underlying4
 a4 := Tryz.isAgg4
 z4 := Tryz.sizeOf4
 v4 := Tryz.zeroValue4
 t9 := Tryz.underlying9
 a9 := Tryz.isAgg9
 z9 := Tryz.sizeOf9
 v9 := Tryz.zeroValue9 }
open Go.RowKit Go.Lib in
theorem Tryz.strings_HasPrefix (s p : ByteArray) (w : World) :
  Calls Tryz.prog 155 #[.string s, .string p] w fun e w' => e = .returned (.bool (Lib.hasPrefix s.data.toList p.data.toList)) ∧ w' = w := Any.strings_HasPrefix Tryz.lays99 s p w
end Go.Proofs
