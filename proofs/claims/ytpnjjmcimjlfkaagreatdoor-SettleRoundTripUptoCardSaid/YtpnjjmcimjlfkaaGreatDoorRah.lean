/- Texts of this proof, part 8: what the proof uses of them. -/
import Derived.Test.YtpnjjmcimjlfkaaGreatDoorRaf
import Derived.Test.YtpnjjmcimjlfkaaGreatDoorRag
import Derived.Test.YtpnjjmcimjlfkaaGreatDoorRows
import Derived.Deep.Slices
import Derived.Carry
import Derived.OpenShut
import Derived.WalkKit
import Derived.Below
import Derived.Lib.Hide
import Derived.Shelf.Strings.Builder1
import Derived.Shelf.Small.Strs
import Derived.Shelf.Strings.BuilderF
import Derived.Shelf.Strings.BuilderK
import Derived.Shelf.Strconv.Itoa0
import Derived.Shelf.Strconv.Itoa1
import Derived.Shelf.LaysM
import Derived.Shelf.Strconv.Itoa2
import Derived.Shelf.Strconv.Itoa3
import Derived.Shelf.Strings.Search1
import Derived.Shelf.Strings.Search2
import Derived.Shelf.Strings.Search3
import Derived.Shelf.Strings.Shaped
import Derived.Shelf.Unicode.DecodeSlow
import Derived.Shelf.Strings.BuilderCap
import Derived.Shelf.Slices.Turned
import Derived.Ground.Names2Prog
import Derived.Shelf.Slices.Clone
import Derived.Ground.SlgnProg
import Derived.Shelf.SlicesE.Clone
import Derived.Test.YtpnjjmcimjlfkaaGreatDoorProg
set_option maxRecDepth 100000
set_option maxHeartbeats 64000000
namespace Go.Proofs.YtpnjjmcimjlfkaaGreatDoor
section
section
open Go Go.RowKit
attribute [go_sem] Int.reduceToNat Int.cast_ofNat_Int Nat.reduceEqDiff Nat.reduceLT Nat.reduceSub Nat.reduceBEq Nat.reduceBNe reduceCtorEq Bool.false_eq_true Int.reduceNeg Int.reduceLE Int.reduceLT
attribute [go_sem ↓] reduceIte
attribute [go_sem] Bool.true_or Bool.or_true
@[go_sem] theorem beqT (b:Bool):(b == true)=b:=by cases b <;> rfl
@[go_sem] theorem beqF (b:Bool):(b == false) = !b:=by cases b <;> rfl
attribute [go_sem] zhd zag Op.operands Call.operands go zcX znI zaf zO zbi zaW zfM zeB zqj zqk zgv zqh zah shifted AV.rows AV.toD zlU zgY Value.toD AV.cells AV.one Value.oneCell' znP St.eval St.get St.blk St.tok St.put St.setBlk St.setTok St.app zk St.ment zai zP Blk.ment zbq AV.ment zhi zeh zv zbJ zfQ D.one ziR zwO zlc zki znO
attribute [go_sem] zjq zmz znu ziA zld zAM zmo zjp zcx zck zdu zjw zgZ zpG St.enterI St.backI rawAV zmp rawRes zxi zoX
attribute [go_sem] zmy zhM zjn zik zfv zbs zji zjj zph zdf zkr zvu Blk.lent zFN St.enterM Option.isSome_some Option.isSome_none Option.isNone_some Option.isNone_none
attribute [go_sem] zqO zdq zho St.frz AV.frz ziK ziL zfo Blk.frz zvv zqN zqM
attribute [go_sem] AV.ptr AV.rawOf zel AV.killS Blk.killS zku zkt St.callL AV.lentOk Blk.lentOk inN Lent.has St.lends zcy zzy St.enterL AV.lbox AV.lboxD AV.lboxF AV.closeX zbk zfd zpV Tok.n
attribute [go_sem] AV.close zU AV.closed zN fin zlx resAV zmk zeY zuw St.enter St.keep zgP Value.cells
attribute [go_sem] List.zipIdx_cons List.zipIdx_nil List.map_cons List.map_nil List.take_succ_cons List.take_zero List.take_nil List.drop_succ_cons List.drop_zero List.drop_nil List.length_cons List.length_nil List.getElem?_cons_zero List.getElem?_cons_succ List.all_cons List.all_nil List.cons_append List.nil_append List.append_nil Option.getD_some Option.getD_none Option.map_some Option.map_none Option.bind_some Option.bind_none Bool.and_true Bool.true_and Bool.and_self Bool.or_false Bool.false_or Bool.or_self Bool.not_true Bool.not_false beq_self_eq_true Array.toList_append List.range_zero List.range_succ eq_self List.size_toArray decide_true decide_false Nat.reduceAdd Nat.reduceMul Nat.reduceLeDiff List.toList_toArray List.getElem?_toArray cond_true cond_false and_true true_and implies_true List.set_cons_zero List.set_cons_succ beq_true false_implies forall_const ne_eq not_true_eq_false not_false_eq_true and_false false_and or_true true_or
theorem goC {P:Program} {A:Base P} (n:Nat) {c:Code} {s:List Itm} {σ:St} {Q:Exit->St->Prop} (h:go P A n (.code c) s σ Q):SatC P A c σ (stk P A s Q):=zar n (.code c) s σ Q h
theorem zeu {P:Program} {A:Base P} (n:Nat) {all:List Oper} {f:FuncId} {o:Oper} {rest:List Oper} {i base:Nat} {s:List Itm} {σ:St} {Q:Exit->St->Prop} {c:Call} {p:Operand} {cs ys:List AV} {res:AV} (hc:Con P f ys res)
  (ho:o.op = .call c) (hp:c.callee = .value p) (hf:σ.eval p = .fn f cs) (ha:zU (c.args.toList.map σ.eval++cs)=some ys) (hd:zaf A.N o=true)
  (hr:go P A n (.ops all rest (i+1) base) s (σ.put o.dst res) Q):zbL P A (.exe (some f) all o rest i base) s σ Q:=zoH ho hp hf ha hc hd (zar n _ _ _ _ hr)
theorem znm {P:Program} {A:Base P} (n:Nat) {all:List Oper} {f:FuncId} {o:Oper} {rest:List Oper} {i base:Nat} {acc:List RI} {s:List Itm} {σ:St} {Q:Exit->St->Prop} {c:Call} {p:Operand} {cs ys:List AV} {res:AV} (hc:Con P f ys res)
  (ho:o.op = .call c) (hp:c.callee = .value p) (hf:σ.eval p = .fn f cs) (ha:zU (c.args.toList.map σ.eval++cs)=some ys) (hd:zaf A.N o=true)
  (hr:go P A n (.dops all rest (i+1) base (acc++[zhd σ o res .none])) s (σ.put o.dst res) Q):zbL P A (.dexe (some f) all o rest i base acc) s σ Q:=fun hg hP=>
 zdL hg (.inr (.inl ⟨rfl,f,c,p,cs,ys,ho,hp,hf,ha,hc⟩)) hd (zar n _ _ _ _ hr hP)
theorem zaU {P:Program} {A:Base P} (n:Nat) {all:List Oper} {f:FuncId} {o:Oper} {rest:List Oper} {i base:Nat} {s:List Itm} {σ:St} {Q:Exit->St->Prop} {args:Array Operand} {ats:Array TypeId} {ys:List AV} {res:AV} (hc:Con P f ys res)
  (ho:o.op = .call { callee:=.value (.func f),args:=args,argTypes:=ats }) (ha:zU (args.toList.map σ.eval)=some ys) (hd:zaf A.N o=true)
  (hr:go P A n (.ops all rest (i+1) base) s (σ.put o.dst res) Q):zbL P A (.exe (some f) all o rest i base) s σ Q:=zeu n hc ho rfl rfl (by rw [List.append_nil];exact ha) hd hr
theorem zlG {P:Program} {A:Base P} (n:Nat) {all:List Oper} {f:FuncId} {o:Oper} {rest:List Oper} {i base:Nat} {acc:List RI} {s:List Itm} {σ:St} {Q:Exit->St->Prop} {args:Array Operand} {ats:Array TypeId} {ys:List AV} {res:AV} (hc:Con P f ys res)
  (ho:o.op = .call { callee:=.value (.func f),args:=args,argTypes:=ats }) (ha:zU (args.toList.map σ.eval)=some ys) (hd:zaf A.N o=true)
  (hr:go P A n (.dops all rest (i+1) base (acc++[zhd σ o res .none])) s (σ.put o.dst res) Q):zbL P A (.dexe (some f) all o rest i base acc) s σ Q:=znm n hc ho rfl rfl (by rw [List.append_nil];exact ha) hd hr
theorem znl {P:Program} {A:Base P} (n:Nat) {all:List Oper} {f:FuncId} {o:Oper} {rest:List Oper} {i base:Nat} {acc:List RI} {s:List Itm} {σ:St} {Q:Exit->St->Prop} {c:Call} {p m:Operand} {args:List Operand} {ys:List AV} {res:AV} {r:Nat} {tag:Option Nat} {ks ks':List Value} {cs cs':List AV} (hc:ConM P f ys ks cs ks' cs' res) (ho:o.op = .call c) (hp:c.callee = .value p) (hf:σ.eval p = .fn f []) (hargs:c.args.toList=args++[m]) (hm:σ.eval m = .mp r) (hb:σ.blk r=some (.map tag ks cs)) (hcl:zN cs=true)
  (ha:zU (args.map σ.eval)=some ys) (hd:zaf A.N o=true) (hr:go P A n (.dops all rest (i+1) base (acc++[zhd σ o res (.blk r (.map tag ks' cs'))])) s ((σ.setBlk r (some (.map tag ks' cs'))).put o.dst res) Q):zbL P A (.dexe (some f) all o rest i base acc) s σ Q:=fun hg hP=>
 zdL hg (.inr (.inr (.inl ⟨f,c,p,m,args,ys,r,tag,ks,cs,ks',cs',rfl,ho,hp,hf,hargs,hm,hb,hcl,ha,hc⟩))) hd (zar n _ _ _ _ hr hP)
theorem znk {P:Program} {A:Base P} (n:Nat) {all:List Oper} {f:FuncId} {o:Oper} {rest:List Oper} {i base:Nat} {acc:List RI} {s:List Itm} {σ:St} {Q:Exit->St->Prop} {c:Call} {p:Operand} {ys:List AV} {st:Nat} {ty:TypeId} {rows:List (List D)} (hc:ztJ P f ys st ty rows) (ho:o.op = .call c) (hp:c.callee = .value p) (hf:σ.eval p = .fn f []) (ha:zU (c.args.toList.map σ.eval)=some ys) (hd:zaf A.N o=true) (hfr:σ.ment (base+i)=false)
  (hr:go P A n (.dops all rest (i+1) base (acc++[zhd σ o (.grow (base+i) rows) (.tok (base+i) ⟨st,ty,rows.length,none⟩)])) s ((σ.setTok (base+i) (some ⟨st,ty,rows.length,none⟩)).put o.dst (.grow (base+i) rows)) Q):zbL P A (.dexe (some f) all o rest i base acc) s σ Q:=fun hg hP=>
 zdL hg (.inr (.inr (.inr (.inl ⟨f,c,p,ys,st,ty,rows,rfl,rfl,ho,hp,hf,ha,hc,hfr⟩)))) hd (zar n _ _ _ _ hr hP)
theorem zgg (l:List D):zN (l.map .d)=true:=by
 induction l with
 | nil=>rfl
 | cons x l ih=>simp only [List.map_cons,zN,ih];rfl
theorem gC {P:Program} {A:Base P} {all:List Oper} {f:FuncId} {o:Oper} {rest:List Oper} {i base:Nat} {s:List Itm} {σ:St} {Q:Exit->St->Prop} {args:Array Operand} {ats:Array TypeId} {ys:List AV} {res:AV} (hc:Con P f ys res) (hr:go P A 400 (.ops all rest (i+1) base) s (σ.put o.dst res) Q)
  (ho:o.op = .call { callee:=.value (.func f),args:=args,argTypes:=ats }:=by rfl) (ha:zU (args.toList.map σ.eval)=some ys:=by simp only [go_sem]) (hd:zaf A.N o=true:=by simp only [go_sem,hA]):zbL P A (.exe (some f) all o rest i base) s σ Q:=zaU 400 hc ho ha hd hr
theorem gD {P:Program} {A:Base P} {all:List Oper} {f:FuncId} {o:Oper} {rest:List Oper} {i base:Nat} {acc:List RI} {s:List Itm} {σ:St} {Q:Exit->St->Prop} {args:Array Operand} {ats:Array TypeId} {ys:List AV} {res:AV} (hc:Con P f ys res) (hr:go P A 400 (.dops all rest (i+1) base (acc++[zhd σ o res .none])) s (σ.put o.dst res) Q)
  (ho:o.op = .call { callee:=.value (.func f),args:=args,argTypes:=ats }:=by rfl) (ha:zU (args.toList.map σ.eval)=some ys:=by simp only [go_sem]) (hd:zaf A.N o=true:=by simp only [go_sem,hA]):zbL P A (.dexe (some f) all o rest i base acc) s σ Q:=zlG 400 hc ho ha hd hr
end
section
open Go Go.ChangeShapes Go.WideShapes Go.Deep Go.RowKit
inductive Typed (P:Program):TypeId->List D->Prop
 | int {t:TypeId} {k:IntKind} (n:Int) (h:P.underlying t=some (.int k)) (hw:(Lit.int k n).wf=true):Typed P t [.raw (.int k n)]
 | str {t:TypeId} (s:ByteArray) (h:P.underlying t=some .string) (hs:s.size<=Go.maxLen):Typed P t [.raw (.string s)]
 | bool {t:TypeId} (b:Bool) (h:P.underlying t=some .bool):Typed P t [.raw (.bool b)]
 | struct {t:TypeId} (fs:Array Field) (parts:List (List D)) (h:P.underlying t=some (.struct fs)) (hl:parts.length=fs.toList.length) (hp:∀ i (hi:i<fs.toList.length) (hi':i<parts.length),Typed P fs.toList[i].type parts[i]):Typed P t parts.flatten
 | slice {t e:TypeId} (rows:List (List D)) (h:P.underlying t=some (.slice e)) (hr:∀ i (hi:i<rows.length),Typed P e rows[i]):Typed P t [.sl rows]
 | array {t e:TypeId} {n:Nat} (parts:List (List D)) (h:P.underlying t=some (.array n e)) (hl:parts.length=n) (hp:∀ i (hi:i<parts.length),Typed P e parts[i]):Typed P t parts.flatten
mutual
def D.size:D->Nat
 | .raw v=>match v with
  | .string s=>s.size+1
  | _=>1
 | .sl rows=>zfF rows+1
def zaH:List D->Nat
 | []=>0
 | d :: l=>d.size+zaH l
def zfF:List (List D)->Nat
 | []=>0
 | r :: rs=>zaH r+zfF rs
end
theorem zgl:∀ a b:List D,zaH (a++b)=zaH a+zaH b
 | [],b=>by simp [zaH]
 | x :: a,b=>by simp [zaH,zgl a b];omega
theorem zcR {P:Program} {t:TypeId} {k:IntKind} {ds:List D} (h:Typed P t ds) (ht:P.underlying t=some (.int k)):∃ n,ds=[.raw (.int k n)]/\(Lit.int k n).wf=true:=by
 cases h with
 | int n h hw=>rw [ht] at h;cases h;exact⟨n,rfl,hw⟩
 | str s h=>rw [ht] at h;cases h
 | bool b h=>rw [ht] at h;cases h
 | struct fs parts h=>rw [ht] at h;cases h
 | slice rows h=>rw [ht] at h;cases h
 | array parts h=>rw [ht] at h;cases h
theorem zbN {P:Program} {t:TypeId} {ds:List D} (h:Typed P t ds) (ht:P.underlying t=some .string):∃ s,ds=[.raw (.string s)]/\s.size<=Go.maxLen:=by
 cases h with
 | int n h hw=>rw [ht] at h;cases h
 | str s h hs=>exact⟨s,rfl,hs⟩
 | bool b h=>rw [ht] at h;cases h
 | struct fs parts h=>rw [ht] at h;cases h
 | slice rows h=>rw [ht] at h;cases h
 | array parts h=>rw [ht] at h;cases h
theorem zeJ {P:Program} {t:TypeId} {ds:List D} (h:Typed P t ds) (ht:P.underlying t=some .bool):∃ b,ds=[.raw (.bool b)]:=by
 cases h with
 | int n h hw=>rw [ht] at h;cases h
 | str s h=>rw [ht] at h;cases h
 | bool b h=>exact⟨b,rfl⟩
 | struct fs parts h=>rw [ht] at h;cases h
 | slice rows h=>rw [ht] at h;cases h
 | array parts h=>rw [ht] at h;cases h
theorem zbW {P:Program} {t e:TypeId} {ds:List D} (h:Typed P t ds) (ht:P.underlying t=some (.slice e)):∃ rows,ds=[.sl rows]/\∀ i (hi:i<rows.length),Typed P e rows[i]:=by
 cases h with
 | int n h hw=>rw [ht] at h;cases h
 | str s h=>rw [ht] at h;cases h
 | bool b h=>rw [ht] at h;cases h
 | struct fs parts h=>rw [ht] at h;cases h
 | slice rows h hr=>rw [ht] at h;cases h;exact⟨rows,rfl,hr⟩
 | array parts h=>rw [ht] at h;cases h
theorem zby {P:Program} {t:TypeId} {fs:Array Field} {ds:List D} (h:Typed P t ds) (ht:P.underlying t=some (.struct fs)):∃ parts:List (List D),ds=parts.flatten/\parts.length=fs.toList.length/\∀ i (hi:i<fs.toList.length) (hi':i<parts.length),Typed P fs.toList[i].type parts[i]:=by
 cases h with
 | int n h hw=>rw [ht] at h;cases h
 | str s h=>rw [ht] at h;cases h
 | bool b h=>rw [ht] at h;cases h
 | struct fs parts h hl hp=>rw [ht] at h;cases h;exact⟨parts,rfl,hl,hp⟩
 | slice rows h=>rw [ht] at h;cases h
 | array parts h=>rw [ht] at h;cases h
theorem zrz {P:Program} {t e:TypeId} {n:Nat} {ds:List D} (h:Typed P t ds) (ht:P.underlying t=some (.array n e)):∃ parts:List (List D),ds=parts.flatten/\parts.length=n/\∀ i (hi:i<parts.length),Typed P e parts[i]:=by
 cases h with
 | int n h hw=>rw [ht] at h;cases h
 | str s h=>rw [ht] at h;cases h
 | bool b h=>rw [ht] at h;cases h
 | struct fs parts h=>rw [ht] at h;cases h
 | slice rows h=>rw [ht] at h;cases h
 | array parts h hl hp=>rw [ht] at h;cases h;exact⟨parts,rfl,hl,hp⟩
def znU (R:D->Value->Prop):List D->List Value->Prop
 | [],[]=>True
 | d :: ds,c :: cs=>R d c/\znU R ds cs
 | _,_=>False
theorem zhA {R:D->Value->Prop}:∀ {a b:List D} {c d:List Value},znU R a c->znU R b d->znU R (a++b) (c++d)
 | [],_,[],_,_,h=>h
 | [],_,_ :: _,_,h,_=>h.elim
 | _ :: _,_,[],_,h,_=>h.elim
 | _ :: _,_,_ :: _,_,h,h'=>⟨h.1,zhA h.2 h'⟩
theorem zhX {R:D->Value->Prop}:∀ {a:List D} {c:List Value},znU R a c->a.length=c.length/\∀ i (hi:i<a.length) (hv:i<c.length),R a[i] c[i]
 | [],[],_=>⟨rfl,fun i hi=>absurd hi (Nat.not_lt_zero _)⟩
 | [],_ :: _,h=>h.elim
 | _ :: _,[],h=>h.elim
 | x :: a,y :: c,h=>by
  obtain⟨h1,h2⟩:=zhX h.2
  refine⟨by simp [h1],fun i hi hv=>?_⟩
  cases i with
  | zero=>exact h.1
  | succ i=>exact h2 i (by simpa using hi) (by simpa using hv)
def zjm (P:Program):Nat->List Field->Option Nat
 | n,[]=>some n
 | n,f :: fs=>if f.offset=n then zjm P (n+P.cellsOf f.type) fs else none
def zjl (P:Program) (tys:List TypeId) (t:TypeId):Bool:=
 match P.underlying t with
 | some (.int _)=>true
 | some .string=>true
 | some .bool=>true
 | some (.slice e)=>tys.contains e && decide (P.cellsOf e≠0)
 | some (.struct fs)=>decide (zjm P 0 fs.toList=some (P.cellsOf t)) && fs.toList.all (fun f=>tys.contains f.type)
 | some (.array n e)=>tys.contains e && decide (P.cellsOf t=n * P.cellsOf e)
 | _=>false
theorem blkOne {H:Type} (d:DataW H):1<=Rows.uptoBulk d:=by
 cases d with
 | lit l=>cases l <;> simp [Rows.uptoBulk]
 | nil=>simp [Rows.uptoBulk]
 | ptr d=>simp [Rows.uptoBulk]
 | slice elems spare=>simp [Rows.uptoBulk]
 | agg parts=>simp [Rows.uptoBulk]
 | iface t d=>simp [Rows.uptoBulk]
 | map entries=>simp [Rows.uptoBulk]
 | held h=>simp [Rows.uptoBulk]
theorem zrm {H:Type} {d:DataW H} {l:List (DataW H)} (h:d ∈ l):Rows.uptoBulk d<=Rows.uptoBulkAll l:=by
 induction l with
 | nil=>cases h
 | cons x r ih=>
  simp only [Rows.uptoBulkAll]
  cases List.mem_cons.1 h with
  | inl e=>subst e;omega
  | inr e=>have:=ih e;omega
theorem zwN {H:Type} (f:Nat->List D) (E:Nat->DataW H):∀ l:List Nat,(∀ i ∈ l,zaH (f i)<=Rows.uptoBulk (E i))->zfF (l.map f)<=Rows.uptoBulkAll (l.map E)
 | [],_=>by simp [zfF]
 | a :: r,h=>by
  have h1:=h a (by simp)
  have h2:=zwN f E r (fun i hi=>h i (by simp [hi]))
  simp only [List.map_cons,zfF,Rows.uptoBulkAll];omega
section
variable {H:Type} {enc:TypeId × Value->H} {P:Program} {W:World} {base:Nat} {spare:Nat->Bool} {held:Bool}
abbrev below (W:World):Nat->Nat->Prop:=fun b _=>b<W.heap.size
def Opened (P:Program) (W:World) (t:TypeId) (cs:List Value) (n:Nat):Prop:=∃ ds:List D,Typed P t ds/\znU (Reads W (below W)) ds cs/\zaH ds<=n
theorem zmA {tys:List TypeId} (hall:tys.all (zjl P tys)=true) (N:Nat):∀ (fuel:Nat) (t:TypeId) (cs:List Value) (x:DataW H × List MemPlace),Rows.uptoBulk x.1<=N->tys.contains t=true->DataW.trod enc P W base spare held fuel t cs=some x->(∀ p ∈ x.2,p.block<W.heap.size) ->
  Opened P W t cs (Rows.uptoBulk x.1):=by
 induction N with
 | zero=>intro fuel t cs x hN;have:=blkOne x.1;omega
 | succ N ih=>
  intro fuel t cs x hN ht h hlt
  have hp:zjl P tys t=true:=List.all_eq_true.1 hall t (by simpa using ht)
  unfold zjl at hp
  split at hp
  ·rename_i k hk
   obtain⟨n,rfl,hx,hw⟩:=DataW.trod_int hk h
   exact⟨_,.int n hk hw,⟨.raw _,trivial⟩,by simpa [zaH,D.size] using blkOne x.1⟩
  ·rename_i hk
   obtain⟨s,rfl,rfl,hs⟩:=DataW.trod_string hk h
   refine⟨_,.str s hk hs,⟨.raw _,trivial⟩,?_⟩
   have:s.data.toList.length=s.size:=rfl
   simp only [zaH,D.size,Rows.uptoBulk,this]
   omega
  ·rename_i hk
   obtain⟨b,rfl,hx⟩:=DataW.trod_bool hk h
   exact⟨_,.bool b hk,⟨.raw _,trivial⟩,by simpa [zaH,D.size] using blkOne x.1⟩
  ·rename_i e hk
   simp only [Bool.and_eq_true,decide_eq_true_eq] at hp
   obtain⟨he,h0⟩:=hp
   rcases open_slice hk h with⟨rfl,rfl⟩ | ⟨a,len,cap,m,n',E,Pl,rfl,_,hlc,hcm,hm,rfl,hi⟩
   ·exact⟨_,.slice [] hk (fun i hi=>absurd hi (Nat.not_lt_zero _)),⟨.nil _ _,trivial⟩,by simp [zaH,D.size,zfF,Rows.uptoBulk]⟩
   ·have hlm:len<=m:=by rw [hm];split <;> omega
    have hbs:Rows.uptoBulkAll ((List.range len).map E)+1<=Rows.uptoBulk (DataW.slice ((List.range len).map E) ((List.range (m - len)).map fun j=>E (len+j))):=by simp only [Rows.uptoBulk];omega
    have hbx:Rows.uptoBulk (DataW.slice ((List.range len).map E) ((List.range (m - len)).map fun j=>E (len+j)))<=N+1:=hN
    have ex:∀ i,∃ r:List D,i<len->(Typed P e r/\zaH r<=Rows.uptoBulk (E i)/\∃ cs',W.cells? base (a.add (i * P.cellsOf e)) (P.cellsOf e)=some cs'/\znU (Reads W (below W)) r cs'):=by
     intro i
     by_cases hil:i<len
     ·obtain⟨cs',hc,hti⟩:=hi i (by omega)
      have hbi:=zrm (d:=E i) (l:=(List.range len).map E) (List.mem_map.2 ⟨i,List.mem_range.2 hil,rfl⟩)
      obtain⟨r,h1,h2,h3⟩:=ih n' e cs' (E i,Pl i) (by show Rows.uptoBulk (E i)<=N;omega) he hti (fun p hp=>hlt p (List.mem_append.2 (.inr (List.mem_flatMap.2 ⟨i,List.mem_range.2 (by omega),hp⟩))))
      exact⟨r,fun _=>⟨h1,h3,cs',hc,h2⟩⟩
     ·exact⟨[],fun h=>absurd h hil⟩
    obtain⟨f,hf⟩:=Classical.axiomOfChoice ex
    have hsz:=zwN f E (List.range len) (fun i hi=>(hf i (List.mem_range.1 hi)).2.1)
    have hget:∀ i (hi:i<((List.range len).map f).length),((List.range len).map f)[i]=f i:=fun i hi=>by simp
    refine⟨_,.slice ((List.range len).map f) hk (fun i hi=>by rw [hget i hi];exact(hf i (by simpa using hi)).1),⟨?_,trivial⟩,?_⟩
    ·by_cases hp:0<len
     ·obtain⟨b,off,spot⟩:=a
      have cell0:∀ i,i<len->∀ j (hj:j<(f i).length),∃ u,W.cell? (((⟨b,off,spot⟩:Addr).add (i * P.cellsOf e)).add j)=some u/\Reads W (below W) (f i)[j] u:=fun i hi j hj=>by
       obtain⟨_,_,cs',hc,hr⟩:=hf i hi
       obtain⟨_,hl,hat⟩:=World.cells?_some hc
       obtain⟨h1,h2⟩:=zhX hr
       have hj':j<cs'.length:=by omega
       exact⟨cs'[j],by rw [hat j (by omega),List.getElem?_eq_getElem hj'],h2 j hj hj'⟩
      have hfl:∀ i,i<len->(f i).length=P.cellsOf e:=fun i hi=>by
       obtain⟨_,_,cs',hc,hr⟩:=hf i hi
       obtain⟨_,hl,_⟩:=World.cells?_some hc
       rw [(zhX hr).1,hl]
      obtain⟨u0,hu0,_⟩:=cell0 0 hp 0 (by rw [hfl 0 hp];omega)
      have hspot:spot=none:=by simpa [Addr.add] using World.cell?_spot hu0
      subst hspot
      have hblt:b<W.heap.size:=by
       have:MemPlace.cell b (off+0) ∈ MemPlace.row ⟨b,off,none⟩ (m * P.cellsOf e)++(List.range m).flatMap Pl:=by
        refine List.mem_append.2 (.inl ?_)
        unfold MemPlace.row
        exact List.mem_map.2 ⟨0,List.mem_range.2 (Nat.mul_pos (by omega) (by omega)),rfl⟩
       exact hlt _ this
      have hlen:((List.range len).map f).length=len:=by simp
      have key:Reads W (below W) (.sl ((List.range len).map f)) (.slice (some ⟨b,off,none⟩) ((List.range len).map f).length cap):=by
       refine Reads.mk (st:=P.cellsOf e) (by omega) (fun i hi=>by rw [hget i hi];exact hfl i (by simpa using hi)) fun i hi j hj=>?_
       have hi':i<len:=by simpa using hi
       have hj':j<(f i).length:=by rw [hget i hi] at hj;exact hj
       obtain⟨u,hu,hr⟩:=cell0 i hi' j hj'
       rw [Go.WideShapes.add_plain,Go.WideShapes.add_plain] at hu
       refine⟨hblt,u,hu,?_⟩
       have:((List.range len).map f)[i][j]=(f i)[j]:=by simp
       rw [this]
       exact hr
      rw [hlen] at key
      exact key
     ·obtain rfl:len=0:=by omega
      exact .nil _ _
    ·simp only [zaH,D.size]
     show zfF ((List.range len).map f)+1+0<=Rows.uptoBulk (DataW.slice ((List.range len).map E) ((List.range (m - len)).map fun j=>E (len+j)))
     omega
  ·rename_i fs hk
   simp only [Bool.and_eq_true,decide_eq_true_eq] at hp
   obtain⟨hpk,hfs⟩:=hp
   obtain⟨xs,n,_,hx,hlen,hxl,hf⟩:=DataW.trod_struct hk h
   subst hx
   have step:∀ (fl:List Field) (ys:List (DataW H × List MemPlace)) (k:Nat),zjm P k fl=some (P.cellsOf t)->ys.length=fl.length->(∀ y ∈ ys,y ∈ xs)->(∀ f ∈ fl,tys.contains f.type=true)->(∀ (i:Nat) (f:Field),fl[i]? = some f->DataW.trod enc P W base spare held n f.type ((cs.drop f.offset).take (P.cellsOf f.type))=ys[i]?) ->
     ∃ parts:List (List D),parts.length=fl.length/\(∀ i (hi:i<fl.length) (hi':i<parts.length),Typed P fl[i].type parts[i])/\znU (Reads W (below W)) parts.flatten (cs.drop k)/\zaH parts.flatten<=Rows.uptoBulkAll (ys.map (·.1)):=by
    intro fl
    induction fl with
    | nil=>
     intro ys k hk' hl _ _ _
     obtain rfl:ys=[]:=List.eq_nil_of_length_eq_zero hl
     simp only [zjm,Option.some.injEq] at hk'
     refine⟨[],rfl,fun i hi=>absurd hi (Nat.not_lt_zero _),?_,by simp [zaH,Rows.uptoBulkAll]⟩
     rw [List.drop_of_length_le (by omega)]
     trivial
    | cons f fl ih2=>
     intro ys k hk' hl hys htys hf'
     match ys,hl with
     | y :: ys,hl=>
      unfold zjm at hk'
      split at hk'
      ·rename_i hoff
       obtain⟨parts,p1,p2,p3,p4⟩:=ih2 ys _ hk' (by simpa using hl) (fun z hz=>hys z (by simp [hz])) (fun g hg=>htys g (by simp [hg])) (fun i g hg=>by have:=hf' (i+1) g (by simpa using hg);simpa using this)
       have ht0:DataW.trod enc P W base spare held n f.type ((cs.drop f.offset).take (P.cellsOf f.type))=some y:=by simpa using hf' 0 f rfl
       have hb0:=zrm (d:=y.1) (l:=xs.map (·.1)) (List.mem_map.2 ⟨y,hys y (by simp),rfl⟩)
       obtain⟨r,h1,h2,h3⟩:=ih n f.type _ y (by simp only [Rows.uptoBulk] at hN;omega) (htys f (by simp)) ht0 (fun p hp=>hlt p (List.mem_flatMap.2 ⟨y,hys y (by simp),hp⟩))
       refine⟨r :: parts,by simp [p1],fun i hi hi'=>?_,?_,?_⟩
       ·cases i with
        | zero=>exact h1
        | succ i=>exact p2 i (by simpa using hi) (by simpa using hi')
       ·rw [List.flatten_cons]
        have e:cs.drop k=(cs.drop f.offset).take (P.cellsOf f.type)++cs.drop (k+P.cellsOf f.type):=by
         rw [hoff,<- List.drop_drop,List.take_append_drop]
        rw [e]
        exact zhA h2 p3
       ·rw [List.flatten_cons,zgl]
        simp only [List.map_cons,Rows.uptoBulkAll]
        omega
      ·cases hk'
   obtain⟨parts,p1,p2,p3,p4⟩:=step fs.toList xs 0 hpk (by simpa using hxl) (fun _ h=>h) (fun f hf=>List.all_eq_true.1 hfs f hf) (fun i f hf'=>hf i f (by simpa using hf'))
   refine⟨_,.struct fs parts hk p1 p2,by simpa using p3,?_⟩
   simp only [Rows.uptoBulk]
   omega
  ·rename_i n e hk
   simp only [Bool.and_eq_true,decide_eq_true_eq] at hp
   obtain⟨he,hce⟩:=hp
   obtain⟨xs,m,_,hx,hlen,hxl,hf⟩:=DataW.trod_array hk h
   subst hx
   have step:∀ (ys:List (DataW H × List MemPlace)) (i:Nat),i+ys.length=n->(∀ y ∈ ys,y ∈ xs)->(∀ j,j<ys.length->DataW.trod enc P W base spare held m e ((cs.drop ((i+j) * P.cellsOf e)).take (P.cellsOf e))=ys[j]?) ->
     ∃ parts:List (List D),parts.length=ys.length/\(∀ j (hj:j<parts.length),Typed P e parts[j])/\znU (Reads W (below W)) parts.flatten (cs.drop (i * P.cellsOf e))/\zaH parts.flatten<=Rows.uptoBulkAll (ys.map (·.1)):=by
    intro ys
    induction ys with
    | nil=>
     intro i hi _ _
     refine⟨[],rfl,fun j hj=>absurd hj (Nat.not_lt_zero _),?_,by simp [zaH,Rows.uptoBulkAll]⟩
     have:i=n:=by simpa using hi
     subst this
     rw [List.drop_of_length_le (by omega)]
     trivial
    | cons y ys ih2=>
     intro i hi hys hf'
     have hi':i+(ys.length+1)=n:=by simpa using hi
     obtain⟨parts,p1,p2,p3,p4⟩:=ih2 (i+1) (by omega) (fun z hz=>hys z (by simp [hz])) (fun j hj=>by
      have:=hf' (j+1) (by simpa using hj)
      rw [show i+1+j=i+(j+1) by omega,this]
      simp)
     have ht0:DataW.trod enc P W base spare held m e ((cs.drop (i * P.cellsOf e)).take (P.cellsOf e))=some y:=by simpa using hf' 0 (by simp)
     have hb0:=zrm (d:=y.1) (l:=xs.map (·.1)) (List.mem_map.2 ⟨y,hys y (by simp),rfl⟩)
     obtain⟨r,h1,h2,h3⟩:=ih m e _ y (by simp only [Rows.uptoBulk] at hN;omega) he ht0 (fun p hp=>hlt p (List.mem_flatMap.2 ⟨y,hys y (by simp),hp⟩))
     refine⟨r :: parts,by simp [p1],fun j hj=>?_,?_,?_⟩
     ·cases j with
      | zero=>exact h1
      | succ j=>exact p2 j (by simpa using hj)
     ·rw [List.flatten_cons]
      have e1:cs.drop (i * P.cellsOf e)=(cs.drop (i * P.cellsOf e)).take (P.cellsOf e)++cs.drop ((i+1) * P.cellsOf e):=by
       rw [Nat.add_mul,Nat.one_mul,<- List.drop_drop,List.take_append_drop]
      rw [e1]
      exact zhA h2 p3
     ·rw [List.flatten_cons,zgl]
      simp only [List.map_cons,Rows.uptoBulkAll]
      omega
   obtain⟨parts,p1,p2,p3,p4⟩:=step xs 0 (by omega) (fun _ h=>h) (fun j hj=>by rw [Nat.zero_add];exact hf j (by omega))
   refine⟨_,.array parts hk (by omega) p2,by simpa using p3,?_⟩
   simp only [Rows.uptoBulk]
   omega
  ·cases hp
end
theorem zBW {W:World} {ds:List D} {cs:List Value} (h:znU (Reads W (below W)) ds cs):zch W (below W) (.agg (ds.map .d)) (.agg cs.toArray):=by
 obtain⟨h1,h2⟩:=zhX h
 refine .agg _ _ (by simp [h1]) fun i hi hv=>?_
 rw [List.getElem_map]
 exact .d (h2 i (by simpa using hi) hv)
theorem zBV {W:World} {d:D} {v:Value} (h:znU (Reads W (below W)) [d] [v]):zch W (below W) (.d d) v:=.d h.1
end
end
section
open Go.RowKit
inductive Ex where
 | mk (kind:Int) (name more:ByteArray) (int den:Int) (sub:List Ex)
namespace Ex
def kind:Ex->Int | .mk k _ _ _ _ _=>k
def name:Ex->ByteArray | .mk _ n _ _ _ _=>n
def more:Ex->ByteArray | .mk _ _ m _ _ _=>m
def int:Ex->Int | .mk _ _ _ i _ _=>i
def den:Ex->Int | .mk _ _ _ _ d _=>d
def sub:Ex->List Ex | .mk _ _ _ _ _ s=>s
theorem eta (t:Ex):Ex.mk t.kind t.name t.more t.int t.den t.sub=t:=by cases t;rfl
end Ex
mutual
def nodesE:Ex->Nat
 | .mk _ _ _ _ _ s=>nodesL s+1
def nodesL:List Ex->Nat
 | []=>0
 | e :: es=>nodesE e+nodesL es
end
theorem zeD (t:Ex):nodesE t=nodesL t.sub+1:=by cases t;simp [nodesE,Ex.sub]
theorem zmT (t:Ex):0<nodesE t:=by rw [zeD];omega
theorem zbH:∀ a b:List Ex,nodesL (a++b)=nodesL a+nodesL b
 | [],b=>by simp [nodesL]
 | e :: es,b=>by simp [nodesL,zbH es b];omega
theorem zkk (l:List Ex) (j:Nat) (h:j<l.length):nodesL (l.take (j+1))=nodesL (l.take j)+nodesE l[j]:=by
 rw [List.take_succ_eq_append_getElem h,zbH];simp [nodesL]
theorem zmR {l:List Ex} {e:Ex} (h:e ∈ l):nodesE e<=nodesL l:=by
 induction l with
 | nil=>cases h
 | cons a r ih=>
  simp only [nodesL]
  rcases List.mem_cons.1 h with rfl | h
  ·omega
  ·have:=ih h;omega
theorem zeS (l:List Ex) (j:Nat) (h:j<l.length):nodesE l[j]<=nodesL l:=zmR (List.getElem_mem h)
theorem zmQ (l:List Ex) (j:Nat):nodesL (l.take j)<=nodesL l:=by
 have:=zbH (l.take j) (l.drop j)
 rw [List.take_append_drop] at this;omega
theorem zaY:∀ l:List Ex,l.length<=nodesL l
 | []=>by simp
 | e :: es=>by have:=zaY es;have:=zmT e;simp [nodesL];omega
mutual
def zlB (w:World) (B:Nat):Ex->Value->Prop
 | .mk k n m i d sub,v=>∃ (p:Option Addr) (cap:Nat),v = .agg #[.int .i64 k,.string n,.string m,.int .i64 i,.int .i64 d,.slice p sub.length cap]/\sub.length<=cap /\
   (0<sub.length->∃ b off,p=some ⟨b,off,none⟩/\b<B/\zfq w B b off sub)
def zfq (w:World) (B:Nat) (b:Nat):Nat->List Ex->Prop
 | _,[]=>True
 | off,e :: es=>(∃ c0 c1 c2 c3 c4 c5,w.cell? ⟨b,off,none⟩=some c0/\w.cell? ⟨b,off+1,none⟩=some c1/\w.cell? ⟨b,off+2,none⟩=some c2/\w.cell? ⟨b,off+3,none⟩=some c3/\w.cell? ⟨b,off+4,none⟩=some c4/\w.cell? ⟨b,off+5,none⟩=some c5 /\
   zlB w B e (.agg #[c0,c1,c2,c3,c4,c5]))/\zfq w B b (off+6) es
end
def zbK (w:World) (B:Nat) (sub:List Ex) (sv:Value):Prop:=
 ∃ (p:Option Addr) (cap:Nat),sv = .slice p sub.length cap/\sub.length<=cap/\(0<sub.length->∃ b off,p=some ⟨b,off,none⟩/\b<B/\zfq w B b off sub)
theorem zfW {w:World} {B:Nat} {t:Ex} {v:Value}:zlB w B t v ↔ ∃ sv,v = .agg #[.int .i64 t.kind,.string t.name,.string t.more,.int .i64 t.int,.int .i64 t.den,sv]/\zbK w B t.sub sv:=by
 cases t with
 | mk k n m i d s=>
  simp only [zlB,zbK,Ex.kind,Ex.name,Ex.more,Ex.int,Ex.den,Ex.sub]
  constructor
  ·rintro⟨p,cap,rfl,h⟩;exact⟨_,rfl,p,cap,rfl,h⟩
  ·rintro⟨_,rfl,p,cap,rfl,h⟩;exact⟨p,cap,rfl,h⟩
def ziQ (w:World) (B:Nat) (b off:Nat) (t:Ex):Prop:=
 ∃ sv,w.cell? ⟨b,off,none⟩=some (.int .i64 t.kind)/\w.cell? ⟨b,off+1,none⟩=some (.string t.name)/\w.cell? ⟨b,off+2,none⟩=some (.string t.more)/\w.cell? ⟨b,off+3,none⟩=some (.int .i64 t.int)/\w.cell? ⟨b,off+4,none⟩=some (.int .i64 t.den) /\
  w.cell? ⟨b,off+5,none⟩=some sv/\zbK w B t.sub sv
theorem zeM {w:World} {B b off:Nat} {e:Ex} {es:List Ex}:zfq w B b off (e :: es) ↔ ziQ w B b off e/\zfq w B b (off+6) es:=by
 simp only [zfq,ziQ,zfW]
 constructor
 ·rintro⟨⟨c0,c1,c2,c3,c4,c5,h0,h1,h2,h3,h4,h5,sv,he,hs⟩,hr⟩
  simp only [Value.agg.injEq,Array.mk.injEq,List.cons.injEq,and_true] at he
  obtain⟨rfl,rfl,rfl,rfl,rfl,rfl⟩:=he
  exact⟨⟨_,h0,h1,h2,h3,h4,h5,hs⟩,hr⟩
 ·rintro⟨⟨sv,h0,h1,h2,h3,h4,h5,hs⟩,hr⟩
  exact⟨⟨_,_,_,_,_,_,h0,h1,h2,h3,h4,h5,sv,rfl,hs⟩,hr⟩
theorem zxh {w:World} {B b off:Nat}:zfq w B b off []:=by simp [zfq]
theorem zwc {w:World} {B b:Nat}:∀ {sub:List Ex} {off:Nat},zfq w B b off sub->∀ k (h:k<sub.length),ziQ w B b (off+k * 6) sub[k]
 | [],_,_,k,h=>by simp at h
 | e :: es,off,hr,0,h=>by simpa using(zeM.1 hr).1
 | e :: es,off,hr,k+1,h=>by
  have:=zwc (zeM.1 hr).2 k (by simpa using h)
  have e1:off+(k+1) * 6=off+6+k * 6:=by omega
  rw [e1];simpa using this
mutual
theorem zyi {w w':World} {B B':Nat} (hB:B<=B') (hb:∀ b off,b<B->w'.cell? ⟨b,off,none⟩=w.cell? ⟨b,off,none⟩):∀ (t:Ex) (v:Value),zlB w B t v->zlB w' B' t v
 | .mk k n m i d sub,v,h=>by
  simp only [zlB] at h ⊢
  obtain⟨p,cap,hv,hc,hr⟩:=h
  refine⟨p,cap,hv,hc,fun hp=>?_⟩
  obtain⟨b,off,h1,h2,h3⟩:=hr hp
  exact⟨b,off,h1,by omega,ziw hB hb b h2 off sub h3⟩
theorem ziw {w w':World} {B B':Nat} (hB:B<=B') (hb:∀ b off,b<B->w'.cell? ⟨b,off,none⟩=w.cell? ⟨b,off,none⟩) (b:Nat) (hlt:b<B):∀ (off:Nat) (sub:List Ex),zfq w B b off sub->zfq w' B' b off sub
 | _,[],_=>zxh
 | off,e :: es,h=>by
  simp only [zfq] at h ⊢
  obtain⟨⟨c0,c1,c2,c3,c4,c5,h0,h1,h2,h3,h4,h5,he⟩,hr⟩:=h
  exact⟨⟨c0,c1,c2,c3,c4,c5,(hb _ _ hlt).trans h0,(hb _ _ hlt).trans h1,(hb _ _ hlt).trans h2,(hb _ _ hlt).trans h3,(hb _ _ hlt).trans h4,(hb _ _ hlt).trans h5,zyi hB hb e _ he⟩,ziw hB hb b hlt _ es hr⟩
end
theorem ztZ {w w':World} {B B':Nat} (hB:B<=B') (hb:∀ b off,b<B->w'.cell? ⟨b,off,none⟩=w.cell? ⟨b,off,none⟩) {sub:List Ex} {sv:Value} (h:zbK w B sub sv):zbK w' B' sub sv:=by
 obtain⟨p,cap,hv,hc,hr⟩:=h
 refine⟨p,cap,hv,hc,fun hp=>?_⟩
 obtain⟨b,off,h1,h2,h3⟩:=hr hp
 exact⟨b,off,h1,by omega,ziw hB hb b h2 off sub h3⟩
theorem zrB {w w':World} {B B':Nat} {sub:List Ex} {sv:Value} (h:zbK w B sub sv) (hb:Below B w w') (hB:B<=B'):zbK w' B' sub sv:=
 ztZ hB (fun b off hlt=>hb.cell (p:=⟨b,off,none⟩) hlt) h
theorem zeL {w:World} {B:Nat} {sub:List Ex} {sv:Value} (h:zbK w B sub sv):∃ (p:Option Addr) (cap:Nat),sv = .slice p sub.length cap/\sub.length<=cap/\∀ k (hk:k<sub.length),∃ b off,p=some ⟨b,off,none⟩/\b<B/\ziQ w B b (off+k * 6) sub[k]:=by
 obtain⟨p,cap,hv,hc,hr⟩:=h
 refine⟨p,cap,hv,hc,fun k hk=>?_⟩
 obtain⟨b,off,h1,h2,h3⟩:=hr (by omega)
 exact⟨b,off,h1,h2,zwc h3 k hk⟩
theorem zqt {w w':World} {B B' b off:Nat} {t:Ex} (h:ziQ w B b off t) (hb:Below B w w') (hB:B<=B') (hlt:b<B):ziQ w' B' b off t:=by
 obtain⟨sv,h0,h1,h2,h3,h4,h5,h6⟩:=h
 exact⟨sv,(hb.cell (p:=⟨b,_,none⟩) hlt).trans h0,(hb.cell (p:=⟨b,_,none⟩) hlt).trans h1,(hb.cell (p:=⟨b,_,none⟩) hlt).trans h2,(hb.cell (p:=⟨b,_,none⟩) hlt).trans h3,(hb.cell (p:=⟨b,_,none⟩) hlt).trans h4,(hb.cell (p:=⟨b,_,none⟩) hlt).trans h5,zrB h6 hb hB⟩
structure Boxed (w:World) (cs:Array Value) (w1:World):Prop where
 below:Below w.heap.size w w1
 size:w.heap.size<w1.heap.size
 cell:∀ i (h:i<cs.size),w1.cell? ⟨w.heap.size,i,none⟩=some cs[i]
 frozen:∀ i,i<cs.size->w1.frozen? ⟨w.heap.size,i,none⟩=false
 next:w1.heap.size=w.heap.size+1
theorem zBO (w:World) (cs:Array Value) (T:TypeId):∃ w1,w.alloc (.cells cs T)=w1/\Boxed w cs w1:=by
 refine⟨_,rfl,(Below.refl _ _).alloc (Nat.le_refl _) _,by simp,fun i h=>?_,fun i h=>?_,by simp⟩
 ·simp [go_sem,h]
 ·simp [go_sem]
theorem zBN {w w1 w2:World} {c0 c1 c2 c3 c4 c5:Value} (hX:Boxed w #[c0,c1,c2,c3,c4,c5] w1) (hb:Below w1.heap.size w1 w2) :
  w2.cell? ⟨w.heap.size,0,none⟩=some c0/\w2.cell? ⟨w.heap.size,1,none⟩=some c1/\w2.cell? ⟨w.heap.size,2,none⟩=some c2/\w2.cell? ⟨w.heap.size,3,none⟩=some c3/\w2.cell? ⟨w.heap.size,4,none⟩=some c4/\w2.cell? ⟨w.heap.size,5,none⟩=some c5:=
 ⟨(hb.cell (p:=⟨w.heap.size,0,none⟩) hX.size).trans (hX.cell 0 (by simp)),(hb.cell (p:=⟨w.heap.size,1,none⟩) hX.size).trans (hX.cell 1 (by simp)),(hb.cell (p:=⟨w.heap.size,2,none⟩) hX.size).trans (hX.cell 2 (by simp)),
  (hb.cell (p:=⟨w.heap.size,3,none⟩) hX.size).trans (hX.cell 3 (by simp)),(hb.cell (p:=⟨w.heap.size,4,none⟩) hX.size).trans (hX.cell 4 (by simp)),(hb.cell (p:=⟨w.heap.size,5,none⟩) hX.size).trans (hX.cell 5 (by simp))⟩
theorem zzn {w wr:World} {sub:List Ex} {p:Option Addr} {n cap:Nat} (h:zbK w w.heap.size sub (.slice p n cap)) (hb:Below w.heap.size w wr) (j:Nat) (hj:j<sub.length) :
  ∃ b off cv,p=some ⟨b,off,none⟩/\wr.cell? ⟨b,off+j * 6,none⟩=some (.int .i64 sub[j].kind)/\wr.cell? ⟨b,off+j * 6+1,none⟩=some (.string sub[j].name)/\wr.cell? ⟨b,off+j * 6+2,none⟩=some (.string sub[j].more)/\wr.cell? ⟨b,off+j * 6+3,none⟩=some (.int .i64 sub[j].int) /\
   wr.cell? ⟨b,off+j * 6+4,none⟩=some (.int .i64 sub[j].den)/\wr.cell? ⟨b,off+j * 6+5,none⟩=some cv/\zbK wr wr.heap.size sub[j].sub cv:=by
 obtain⟨p',cap',he,_,hk⟩:=zeL h
 simp only [Value.slice.injEq] at he
 obtain⟨rfl,-,-⟩:=he
 obtain⟨b,off,hp,hlt,hN⟩:=hk j hj
 obtain⟨cv,h0,h1,h2,h3,h4,h5,h6⟩:=zqt hN hb hb.size hlt
 exact⟨b,off,cv,hp,h0,h1,h2,h3,h4,h5,h6⟩
end
section
mutual
def zbU:Ex->Nat
 | .mk _ _ _ _ _ s=>zcP s+1
def zcP:List Ex->Nat
 | []=>0
 | e :: es=>max (zbU e) (zcP es)
end
theorem zyw (t:Ex):zbU t=zcP t.sub+1:=by cases t;simp [zbU,Ex.sub]
mutual
def zgO:Ex->Bool
 | .mk _ n m _ _ s=>decide (100<n.size) || decide (100<m.size) || zfm s
def zfm:List Ex->Bool
 | []=>false
 | e :: es=>zgO e || zfm es
end
theorem zgA:∀ a b:List Ex,zfm (a++b)=(zfm a || zfm b)
 | [],b=>by simp [zfm]
 | e :: es,b=>by simp [zfm,zgA es b,Bool.or_assoc]
theorem zgN (l:List Ex) (j:Nat) (h:j<l.length):zfm (l.take (j+1))=(zfm (l.take j) || zgO l[j]):=by
 rw [List.take_succ_eq_append_getElem h,zgA];simp [zfm]
theorem zAj {l:List Ex} {j:Nat} (h:j<l.length) (he:zgO l[j]=true):zfm l=true:=by
 have h1:=zgA (l.take (j+1)) (l.drop (j+1))
 rw [List.take_append_drop,zgN l j h,he] at h1
 simp [h1]
mutual
def zfh:Ex->Ex->Bool
 | .mk k n m i d s,.mk k' n' m' i' d' s'=>decide (k=k') && decide (n=n') && decide (m=m') && decide (i=i') && decide (d=d') && zcS s s'
def zcS:List Ex->List Ex->Bool
 | [],[]=>true
 | a :: asL,b :: bs=>zfh a b && zcS asL bs
 | _,_=>false
end
mutual
theorem zjZ:∀ a b:Ex,zfh a b=true ↔ a=b
 | .mk k n m i d s,.mk k' n' m' i' d' s'=>by
  simp only [zfh,Bool.and_eq_true,decide_eq_true_eq,zhH s s',Ex.mk.injEq,and_assoc]
theorem zhH:∀ a b:List Ex,zcS a b=true ↔ a=b
 | [],[]=>by simp [zcS]
 | a :: asL,b :: bs=>by simp only [zcS,Bool.and_eq_true,zjZ a b,zhH asL bs,List.cons.injEq]
 | [],b :: bs=>by simp [zcS]
 | a :: asL,[]=>by simp [zcS]
end
theorem zuq (a:Ex):zfh a a=true:=(zjZ a a).2 rfl
theorem ziZ:∀ (a b a' b':List Ex),a.length=a'.length->zcS (a++b) (a'++b')=(zcS a a' && zcS b b')
 | [],b,[],b',_=>by simp [zcS]
 | x :: xs,b,y :: ys,b',h=>by simp only [List.cons_append,zcS,ziZ xs b ys b' (by simpa using h),Bool.and_assoc]
 | [],b,y :: ys,b',h=>by simp at h
 | x :: xs,b,[],b',h=>by simp at h
theorem zlr (l m:List Ex) (j:Nat) (h:j<l.length) (h':j<m.length):zcS (l.take (j+1)) (m.take (j+1))=(zcS (l.take j) (m.take j) && zfh l[j] m[j]):=by
 rw [List.take_succ_eq_append_getElem h,List.take_succ_eq_append_getElem h',ziZ _ _ _ _ (by simp;omega)];simp [zcS]
end
section
end
section
open Go.RowKit
end
end Go.Proofs.YtpnjjmcimjlfkaaGreatDoor
namespace Go.Proofs
open Go.Shelf
def Tryz.lays143_ren:Go.Shelf.Ren:=⟨fun | 143=>256 | 219=>288 | 217=>324 | 225=>325 | 224=>326 | 267=>327 | 266=>340 | 314=>341 | n=>n,fun | 9=>9 | 3=>3 | 4=>4 | 5=>5 | 46=>180 | 146=>359 | 51=>323 | n=>n,fun | 1=>0 | n=>n⟩
theorem Tryz.lays143:Go.Proofs.Lays.n143 Tryz.prog Tryz.lays143_ren:={
 mixed:=by kernel_rfl
 f143:=Tryz.func256.trans (congrArg some (by kernel_rfl))
 f217:=Tryz.func324.trans (congrArg some (by kernel_rfl))
 f219:=Tryz.func288.trans (congrArg some (by kernel_rfl))
 f224:=Tryz.func326.trans (congrArg some (by kernel_rfl))
 f225:=Tryz.func325.trans (congrArg some (by kernel_rfl))
 f266:=Tryz.func340.trans (congrArg some (by kernel_rfl))
 f267:=Tryz.func327.trans (congrArg some (by kernel_rfl))
 f314:=Tryz.func341.trans (congrArg some (by kernel_rfl))
 t3:=Tryz.underlying3
 a3:=Tryz.isAgg3
 z3:=Tryz.sizeOf3
 v3:=Tryz.zeroValue3
 t4:=Tryz.underlying4
 a4:=Tryz.isAgg4
 z4:=Tryz.sizeOf4
 v4:=Tryz.zeroValue4
 t5:=Tryz.underlying5
 a5:=Tryz.isAgg5
 z5:=Tryz.sizeOf5
 v5:=Tryz.zeroValue5
 t9:=Tryz.underlying9
 a9:=Tryz.isAgg9
 z9:=Tryz.sizeOf9
 v9:=Tryz.zeroValue9
 t46:=Tryz.underlying180
 a46:=Tryz.isAgg180
 z46:=Tryz.sizeOf180
 v46:=Tryz.zeroValue180
 t51:=Tryz.underlying323
 a51:=Tryz.isAgg323
 z51:=Tryz.sizeOf323
 v51:=Tryz.zeroValue323
 t146:=Tryz.underlying359
 a146:=Tryz.isAgg359
 z146:=Tryz.sizeOf359
 v146:=Tryz.zeroValue359
 g1:=by kernel_rfl }
open Go.RowKit Go.Lib in
theorem Tryz.strings_Index_one (s:ByteArray) (c:UInt8) (w:World) :
  Calls Tryz.prog 256 #[.string s,.string ⟨#[c]⟩] w fun e w'=>e = .returned (.int .i64 (Lib.indexByte s.data.toList c))/\w'=w:=Any.strings_Index_one Tryz.lays143 s c w
def Tryz.lays144_ren:Go.Shelf.Ren:=⟨fun | 144=>289 | 143=>256 | 219=>288 | 217=>324 | 225=>325 | 224=>326 | 267=>327 | 266=>340 | 314=>341 | n=>n,fun | 9=>9 | 4=>4 | 3=>3 | 5=>5 | 46=>180 | 146=>359 | 51=>323 | n=>n,fun | 1=>0 | n=>n⟩
theorem Tryz.lays144:Go.Proofs.Lays.n144 Tryz.prog Tryz.lays144_ren:={
 mixed:=by kernel_rfl
 f143:=Tryz.func256.trans (congrArg some (by kernel_rfl))
 f144:=Tryz.func289.trans (congrArg some (by kernel_rfl))
 f217:=Tryz.func324.trans (congrArg some (by kernel_rfl))
 f219:=Tryz.func288.trans (congrArg some (by kernel_rfl))
 f224:=Tryz.func326.trans (congrArg some (by kernel_rfl))
 f225:=Tryz.func325.trans (congrArg some (by kernel_rfl))
 f266:=Tryz.func340.trans (congrArg some (by kernel_rfl))
 f267:=Tryz.func327.trans (congrArg some (by kernel_rfl))
 f314:=Tryz.func341.trans (congrArg some (by kernel_rfl))
 t3:=Tryz.underlying3
 a3:=Tryz.isAgg3
 z3:=Tryz.sizeOf3
 v3:=Tryz.zeroValue3
 t4:=Tryz.underlying4
 a4:=Tryz.isAgg4
 z4:=Tryz.sizeOf4
 v4:=Tryz.zeroValue4
 t5:=Tryz.underlying5
 a5:=Tryz.isAgg5
 z5:=Tryz.sizeOf5
 v5:=Tryz.zeroValue5
 t9:=Tryz.underlying9
 a9:=Tryz.isAgg9
 z9:=Tryz.sizeOf9
 v9:=Tryz.zeroValue9
 t46:=Tryz.underlying180
 a46:=Tryz.isAgg180
 z46:=Tryz.sizeOf180
 v46:=Tryz.zeroValue180
 t51:=Tryz.underlying323
 a51:=Tryz.isAgg323
 z51:=Tryz.sizeOf323
 v51:=Tryz.zeroValue323
 t146:=Tryz.underlying359
 a146:=Tryz.isAgg359
 z146:=Tryz.sizeOf359
 v146:=Tryz.zeroValue359
 g1:=by kernel_rfl }
open Go.RowKit Go.Lib in
theorem Tryz.strings_Contains_one (s:ByteArray) (c:UInt8) (w:World) :
  Calls Tryz.prog 289 #[.string s,.string ⟨#[c]⟩] w fun e w'=>e = .returned (.bool (decide (0<=Lib.indexByte s.data.toList c)))/\w'=w:=Any.strings_Contains_one Tryz.lays144 s c w
def Tryz.lays106_ren:Go.Shelf.Ren:=⟨fun | 106=>81 | 213=>145 | 265=>224 | n=>n,fun | 9=>9 | 3=>3 | n=>n,fun | n=>n⟩
theorem Tryz.lays106:Go.Proofs.Lays.n106 Tryz.prog Tryz.lays106_ren:={
 mixed:=by kernel_rfl
 f106:=Tryz.func81.trans (congrArg some (by kernel_rfl))
 f213:=Tryz.func145.trans (congrArg some (by kernel_rfl))
 f265:=Tryz.func224.trans (congrArg some (by kernel_rfl))
 t3:=Tryz.underlying3
 a3:=Tryz.isAgg3
 z3:=Tryz.sizeOf3
 v3:=Tryz.zeroValue3
 t9:=Tryz.underlying9
 a9:=Tryz.isAgg9
 z9:=Tryz.sizeOf9
 v9:=Tryz.zeroValue9 }
open Go.RowKit in
theorem Tryz.strings_Compare (a b:ByteArray) (w:World) :
  Calls Tryz.prog 81 #[.string a,.string b] w fun e w'=>e = .returned (.int .i64 (Lib.compareBytes a.data.toList b.data.toList))/\w'=w:=Any.strings_Compare Tryz.lays106 a b w
end Go.Proofs
