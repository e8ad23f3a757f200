/- The rules by which a walk by trees is reckoned. -/
import Derived.Test.YtnphcjpccieljaaGreatDoorFacts
namespace Go.Proofs.YtnphcjpccieljaaGreatDoor
open Go Go.RowKit
attribute [go_sem] Int.reduceToNat Int.cast_ofNat_Int Nat.reduceEqDiff Nat.reduceLT Nat.reduceSub Nat.reduceBEq Nat.reduceBNe reduceCtorEq Bool.false_eq_true Int.reduceNeg Int.reduceLE Int.reduceLT
attribute [go_sem ↓] reduceIte
@[go_sem] theorem beqT (b : Bool) : (b == true) = b := by cases b <;> rfl
@[go_sem] theorem beqF (b : Bool) : (b == false) = !b := by cases b <;> rfl
attribute [go_sem] riOf Op.operands Call.operands go gdOf calleeOf dstOk outOp outLoad outStore outIndex outAppend outLen outCopy outCall loaded shifted AV.rows AV.toD toDs toRows Value.toD AV.cells AV.one Value.oneCell' binV St.eval St.get St.blk St.tok St.put St.setBlk St.setTok St.app look St.ment mentEnv mentBlks Blk.ment mentL AV.ment ofVal ofCell spliced bound makes D.one tokOf blkOf fillA outBin boolEq
attribute [go_sem] outPut outLookup outRange mapOf mapGet findIx putK putC keyEq keyFit lookAV frzMap Blk.lent St.frzs retKF retM St.enterM Option.isSome_some Option.isSome_none
attribute [go_sem] St.frz AV.frz frzL frzEnv frzBlks Blk.frz frzBox frzElem frzOwn
attribute [go_sem] AV.close closeL AV.closed closedL fin finL resAV resAll finRes retK St.enter St.keep keepL Value.cells
attribute [go_sem] List.zipIdx_cons List.zipIdx_nil List.map_cons List.map_nil List.take_succ_cons List.take_zero List.take_nil List.drop_succ_cons List.drop_zero List.drop_nil List.length_cons List.length_nil List.getElem?_cons_zero List.getElem?_cons_succ List.all_cons List.all_nil List.cons_append List.nil_append List.append_nil Option.getD_some Option.getD_none Option.map_some Option.map_none Option.bind_some Option.bind_none Bool.and_true Bool.true_and Bool.and_self Bool.or_false Bool.false_or Bool.or_self Bool.not_true Bool.not_false beq_self_eq_true Array.toList_append List.range_zero List.range_succ eq_self List.size_toArray decide_true decide_false Nat.reduceAdd Nat.reduceMul Nat.reduceLeDiff List.toList_toArray List.getElem?_toArray cond_true cond_false and_true true_and implies_true List.set_cons_zero List.set_cons_succ beq_true false_implies forall_const ne_eq not_true_eq_false not_false_eq_true and_false false_and or_true true_or
theorem goC {P : Program} {A : Base P} (n : Nat) {c : Code} {s : List Itm} {σ : St} {Q : Exit → St → Prop} (h : go P A n (.code c) s σ Q) : SatC P A c σ (stk P A s Q) := go_ok n (.code c) s σ Q h
theorem goO {P : Program} {A : Base P} (n i base : Nat) {all rest : List Oper} {s : List Itm} {σ : St} {Q : Exit → St → Prop} (h : go P A n (.ops all rest i base) s σ Q) : SatO P A all rest σ (stk P A s Q) := go_ok n (.ops all rest i base) s σ Q h
/-- a truth that is not known -/
theorem goIf {P : Program} {A : Base P} {n : Nat} {b : Bool} {x y : Code} {s : List Itm} {σ : St} {Q : Exit → St → Prop} (ht : b = true → go P A n (.code x) s σ Q) (hf : b = false → go P A n (.code y) s σ Q) : go P A (n + 1) (.cond b x y) s σ Q := by
  cases b
  · rw [go]; exact hf rfl
  · rw [go]; exact ht rfl
/-- a call of a func value -/
theorem goCallF {P : Program} {A : Base P} (n : Nat) {all : List Oper} {f : FuncId} {o : Oper} {rest : List Oper} {i base : Nat} {s : List Itm} {σ : St} {Q : Exit → St → Prop} {c : Call} {p : Operand} {cs ys : List AV} {res : AV} (hc : Con P f ys res)
    (ho : o.op = .call c) (hp : c.callee = .value p) (hf : σ.eval p = .fn f cs) (ha : closeL (c.args.toList.map σ.eval ++ cs) = some ys) (hd : dstOk A.N o = true)
    (hr : go P A n (.ops all rest (i + 1) base) s (σ.put o.dst res) Q) : SemM P A (.exe (some f) all o rest i base) s σ Q := satE_call ho hp hf ha hc hd (go_ok n _ _ _ _ hr)
/-- a call of a func value in a region that draws its order -/
theorem goCallDF {P : Program} {A : Base P} (n : Nat) {all : List Oper} {f : FuncId} {o : Oper} {rest : List Oper} {i base : Nat} {acc : List RI} {s : List Itm} {σ : St} {Q : Exit → St → Prop} {c : Call} {p : Operand} {cs ys : List AV} {res : AV} (hc : Con P f ys res)
    (ho : o.op = .call c) (hp : c.callee = .value p) (hf : σ.eval p = .fn f cs) (ha : closeL (c.args.toList.map σ.eval ++ cs) = some ys) (hd : dstOk A.N o = true)
    (hr : go P A n (.dops all rest (i + 1) base (acc ++ [riOf σ o res .none])) s (σ.put o.dst res) Q) : SemM P A (.dexe (some f) all o rest i base acc) s σ Q := fun hg hP =>
  dSem_op hg (.inr (.inl ⟨rfl, f, c, p, cs, ys, ho, hp, hf, ha, hc⟩)) hd (go_ok n _ _ _ _ hr hP)
/-- a call -/
theorem goCall {P : Program} {A : Base P} (n : Nat) {all : List Oper} {f : FuncId} {o : Oper} {rest : List Oper} {i base : Nat} {s : List Itm} {σ : St} {Q : Exit → St → Prop} {args : Array Operand} {ats : Array TypeId} {ys : List AV} {res : AV} (hc : Con P f ys res)
    (ho : o.op = .call { callee := .value (.func f), args := args, argTypes := ats }) (ha : closeL (args.toList.map σ.eval) = some ys) (hd : dstOk A.N o = true)
    (hr : go P A n (.ops all rest (i + 1) base) s (σ.put o.dst res) Q) : SemM P A (.exe (some f) all o rest i base) s σ Q := goCallF n hc ho rfl rfl (by rw [List.append_nil]; exact ha) hd hr
/-- a call in a region that draws its order -/
theorem goCallD {P : Program} {A : Base P} (n : Nat) {all : List Oper} {f : FuncId} {o : Oper} {rest : List Oper} {i base : Nat} {acc : List RI} {s : List Itm} {σ : St} {Q : Exit → St → Prop} {args : Array Operand} {ats : Array TypeId} {ys : List AV} {res : AV} (hc : Con P f ys res)
    (ho : o.op = .call { callee := .value (.func f), args := args, argTypes := ats }) (ha : closeL (args.toList.map σ.eval) = some ys) (hd : dstOk A.N o = true)
    (hr : go P A n (.dops all rest (i + 1) base (acc ++ [riOf σ o res .none])) s (σ.put o.dst res) Q) : SemM P A (.dexe (some f) all o rest i base acc) s σ Q := goCallDF n hc ho rfl rfl (by rw [List.append_nil]; exact ha) hd hr
/-- a call that is lent a map, in a region that draws its order -/
theorem goCallDM {P : Program} {A : Base P} (n : Nat) {all : List Oper} {f : FuncId} {o : Oper} {rest : List Oper} {i base : Nat} {acc : List RI} {s : List Itm} {σ : St} {Q : Exit → St → Prop} {c : Call} {p m : Operand} {args : List Operand} {ys : List AV} {res : AV} {r : Nat} {tag : Option Nat} {ks ks' : List Value} {cs cs' : List AV} (hc : ConM P f ys ks cs ks' cs' res) (ho : o.op = .call c) (hp : c.callee = .value p) (hf : σ.eval p = .fn f []) (hargs : c.args.toList = args ++ [m]) (hm : σ.eval m = .mp r) (hb : σ.blk r = some (.map tag ks cs)) (hcl : closedL cs = true)
    (ha : closeL (args.map σ.eval) = some ys) (hd : dstOk A.N o = true) (hr : go P A n (.dops all rest (i + 1) base (acc ++ [riOf σ o res (.blk r (.map tag ks' cs'))])) s ((σ.setBlk r (some (.map tag ks' cs'))).put o.dst res) Q) : SemM P A (.dexe (some f) all o rest i base acc) s σ Q := fun hg hP =>
  dSem_op hg (.inr (.inr (.inl ⟨f, c, p, m, args, ys, r, tag, ks, cs, ks', cs', rfl, ho, hp, hf, hargs, hm, hb, hcl, ha, hc⟩))) hd (go_ok n _ _ _ _ hr hP)
/-- a call that hands out a row that may grow -/
theorem goCallT {P : Program} {A : Base P} (n : Nat) {all : List Oper} {f : FuncId} {o : Oper} {rest : List Oper} {i base : Nat} {s : List Itm} {σ : St} {Q : Exit → St → Prop} {c : Call} {p : Operand} {ys : List AV} {st : Nat} {ty : TypeId} {rows : List (List D)} (hc : ConT P f ys st ty rows) (ho : o.op = .call c) (hp : c.callee = .value p) (hf : σ.eval p = .fn f []) (ha : closeL (c.args.toList.map σ.eval) = some ys) (hd : dstOk A.N o = true) (hfr : σ.ment (base + i) = false)
    (hr : go P A n (.ops all rest (i + 1) base) s ((σ.setTok (base + i) (some ⟨st, ty, rows.length⟩)).put o.dst (.grow (base + i) rows)) Q) : SemM P A (.exe (some f) all o rest i base) s σ Q := satE_op (opOk_callT ho hp hf ha hc (St.free_of hfr)) hd (go_ok n _ _ _ _ hr)
theorem goCallDT {P : Program} {A : Base P} (n : Nat) {all : List Oper} {f : FuncId} {o : Oper} {rest : List Oper} {i base : Nat} {acc : List RI} {s : List Itm} {σ : St} {Q : Exit → St → Prop} {c : Call} {p : Operand} {ys : List AV} {st : Nat} {ty : TypeId} {rows : List (List D)} (hc : ConT P f ys st ty rows) (ho : o.op = .call c) (hp : c.callee = .value p) (hf : σ.eval p = .fn f []) (ha : closeL (c.args.toList.map σ.eval) = some ys) (hd : dstOk A.N o = true) (hfr : σ.ment (base + i) = false)
    (hr : go P A n (.dops all rest (i + 1) base (acc ++ [riOf σ o (.grow (base + i) rows) (.tok (base + i) ⟨st, ty, rows.length⟩)])) s ((σ.setTok (base + i) (some ⟨st, ty, rows.length⟩)).put o.dst (.grow (base + i) rows)) Q) : SemM P A (.dexe (some f) all o rest i base acc) s σ Q := fun hg hP =>
  dSem_op hg (.inr (.inr (.inr ⟨f, c, p, ys, st, ty, rows, rfl, rfl, ho, hp, hf, ha, hc, hfr⟩))) hd (go_ok n _ _ _ _ hr hP)
theorem closedL_d (l : List D) : closedL (l.map .d) = true := by
  induction l with
  | nil => rfl
  | cons x l ih => simp only [List.map_cons, closedL, ih]; rfl
end Go.Proofs.YtnphcjpccieljaaGreatDoor
