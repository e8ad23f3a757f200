/- Texts of this proof, part 7: what the proof uses of them. -/
import Derived.WalkKit
import Derived.Below
import Derived.Lib.Hide
import Derived.Shelf.Strings.Builder1
import Derived.Shelf.Small.Strs
import Derived.Shelf.Strings.BuilderF
import Derived.Shelf.Strings.BuilderK
import Derived.Shelf.Strconv.Itoa0
import Derived.Shelf.Strconv.Itoa1
import Derived.Shelf.LaysM
import Derived.Shelf.Strconv.Itoa2
import Derived.Shelf.Strconv.Itoa3
import Derived.Shelf.Strings.Search1
import Derived.Shelf.Strings.Search2
import Derived.Shelf.Strings.Search3
import Derived.Shelf.Strings.Shaped
import Derived.Shelf.Strings.Prefix
import Derived.Shelf.Unicode.DecodeSlow
import Derived.Shelf.Strings.BuilderCap
import Derived.Shelf.Slices.Turned
import Derived.Ground.Names2Prog
import Derived.Shelf.Slices.Clone
import Derived.Ground.SlgnProg
import Derived.Shelf.SlicesE.Clone
import Derived.Test.YtpnjjmcimjlfkaaGreatDoorProg
import Derived.Lib.Bytealg
import Derived.Lib.Strings
import Derived.WalkSpells
import Derived.WalkLawsBesides
import Derived.BigQuiet
import Derived.Deep.QuietTactic
import Derived.RangeFuncWrites
set_option maxRecDepth 100000
set_option maxHeartbeats 64000000
namespace Go.Proofs.YtpnjjmcimjlfkaaGreatDoor
section
open Go.RowKit
inductive Ex where
 | mk (kind:Int) (name more:ByteArray) (int den:Int) (sub:List Ex)
namespace Ex
def kind:Ex→Int | .mk k _ _ _ _ _=>k
def name:Ex→ByteArray | .mk _ n _ _ _ _=>n
def more:Ex→ByteArray | .mk _ _ m _ _ _=>m
def int:Ex→Int | .mk _ _ _ i _ _=>i
def den:Ex→Int | .mk _ _ _ _ d _=>d
def sub:Ex→List Ex | .mk _ _ _ _ _ s=>s
theorem eta (t:Ex):Ex.mk t.kind t.name t.more t.int t.den t.sub=t:=by cases t;rfl
end Ex
mutual
def nodesE:Ex→Nat
 | .mk _ _ _ _ _ s=>nodesL s+1
def nodesL:List Ex→Nat
 | []=>0
 | e :: es=>nodesE e+nodesL es
end
theorem zcs (t:Ex):nodesE t=nodesL t.sub+1:=by cases t;simp [nodesE,Ex.sub]
theorem zdg (t:Ex):0<nodesE t:=by rw [zcs];omega
theorem zaK:∀ a b:List Ex,nodesL (a++b)=nodesL a+nodesL b
 | [],b=>by simp [nodesL]
 | e :: es,b=>by simp [nodesL,zaK es b];omega
theorem zkw (l:List Ex) (j:Nat) (h:j<l.length):nodesL (l.take (j+1))=nodesL (l.take j)+nodesE l[j]:=by
 rw [List.take_succ_eq_append_getElem h,zaK];simp [nodesL]
theorem znP {l:List Ex} {e:Ex} (h:e ∈ l):nodesE e≤nodesL l:=by
 induction l with
 | nil=>cases h
 | cons a r ih=>
  simp only [nodesL]
  rcases List.mem_cons.1 h with rfl | h
  ·omega
  ·have:=ih h;omega
theorem zam (l:List Ex) (j:Nat) (h:j<l.length):nodesE l[j]≤nodesL l:=znP (List.getElem_mem h)
theorem znO (l:List Ex) (j:Nat):nodesL (l.take j)≤nodesL l:=by
 have:=zaK (l.take j) (l.drop j)
 rw [List.take_append_drop] at this;omega
theorem zC:∀ l:List Ex,l.length≤nodesL l
 | []=>by simp
 | e :: es=>by have:=zC es;have:=zdg e;simp [nodesL];omega
mutual
def zkc (w:World) (B:Nat):Ex→Value→Prop
 | .mk k n m i d sub,v=>∃ (p:Option Addr) (cap:Nat),v = .agg #[.int .i64 k,.string n,.string m,.int .i64 i,.int .i64 d,.slice p sub.length cap]∧sub.length≤cap ∧
   (0<sub.length→∃ b off,p=some ⟨b,off,none⟩∧b<B∧zdW w B b off sub)
def zdW (w:World) (B:Nat) (b:Nat):Nat→List Ex→Prop
 | _,[]=>True
 | off,e :: es=>(∃ c0 c1 c2 c3 c4 c5,w.cell? ⟨b,off,none⟩=some c0∧w.cell? ⟨b,off+1,none⟩=some c1∧w.cell? ⟨b,off+2,none⟩=some c2∧w.cell? ⟨b,off+3,none⟩=some c3∧w.cell? ⟨b,off+4,none⟩=some c4∧w.cell? ⟨b,off+5,none⟩=some c5 ∧
   zkc w B e (.agg #[c0,c1,c2,c3,c4,c5]))∧zdW w B b (off+6) es
end
def zbb (w:World) (B:Nat) (sub:List Ex) (sv:Value):Prop:=
 ∃ (p:Option Addr) (cap:Nat),sv = .slice p sub.length cap∧sub.length≤cap∧(0<sub.length→∃ b off,p=some ⟨b,off,none⟩∧b<B∧zdW w B b off sub)
theorem zfH {w:World} {B:Nat} {t:Ex} {v:Value}:zkc w B t v ↔ ∃ sv,v = .agg #[.int .i64 t.kind,.string t.name,.string t.more,.int .i64 t.int,.int .i64 t.den,sv]∧zbb w B t.sub sv:=by
 cases t with
 | mk k n m i d s=>
  simp only [zkc,zbb,Ex.kind,Ex.name,Ex.more,Ex.int,Ex.den,Ex.sub]
  constructor
  ·rintro⟨p,cap,rfl,h⟩;exact⟨_,rfl,p,cap,rfl,h⟩
  ·rintro⟨_,rfl,p,cap,rfl,h⟩;exact⟨p,cap,rfl,h⟩
def ziX (w:World) (B:Nat) (b off:Nat) (t:Ex):Prop:=
 ∃ sv,w.cell? ⟨b,off,none⟩=some (.int .i64 t.kind)∧w.cell? ⟨b,off+1,none⟩=some (.string t.name)∧w.cell? ⟨b,off+2,none⟩=some (.string t.more)∧w.cell? ⟨b,off+3,none⟩=some (.int .i64 t.int)∧w.cell? ⟨b,off+4,none⟩=some (.int .i64 t.den) ∧
  w.cell? ⟨b,off+5,none⟩=some sv∧zbb w B t.sub sv
theorem zex {w:World} {B b off:Nat} {e:Ex} {es:List Ex}:zdW w B b off (e :: es) ↔ ziX w B b off e∧zdW w B b (off+6) es:=by
 simp only [zdW,ziX,zfH]
 constructor
 ·rintro⟨⟨c0,c1,c2,c3,c4,c5,h0,h1,h2,h3,h4,h5,sv,he,hs⟩,hr⟩
  simp only [Value.agg.injEq,Array.mk.injEq,List.cons.injEq,and_true] at he
  obtain⟨rfl,rfl,rfl,rfl,rfl,rfl⟩:=he
  exact⟨⟨_,h0,h1,h2,h3,h4,h5,hs⟩,hr⟩
 ·rintro⟨⟨sv,h0,h1,h2,h3,h4,h5,hs⟩,hr⟩
  exact⟨⟨_,_,_,_,_,_,h0,h1,h2,h3,h4,h5,sv,rfl,hs⟩,hr⟩
theorem zyK {w:World} {B b off:Nat}:zdW w B b off []:=by simp [zdW]
theorem zxo {w:World} {B b:Nat}:∀ {sub:List Ex} {off:Nat},zdW w B b off sub→∀ k (h:k<sub.length),ziX w B b (off+k * 6) sub[k]
 | [],_,_,k,h=>by simp at h
 | e :: es,off,hr,0,h=>by simpa using(zex.1 hr).1
 | e :: es,off,hr,k+1,h=>by
  have:=zxo (zex.1 hr).2 k (by simpa using h)
  have e1:off+(k+1) * 6=off+6+k * 6:=by omega
  rw [e1];simpa using this
mutual
theorem zzJ {w w':World} {B B':Nat} (hB:B≤B') (hb:∀ b off,b<B→w'.cell? ⟨b,off,none⟩=w.cell? ⟨b,off,none⟩):∀ (t:Ex) (v:Value),zkc w B t v→zkc w' B' t v
 | .mk k n m i d sub,v,h=>by
  simp only [zkc] at h ⊢
  obtain⟨p,cap,hv,hc,hr⟩:=h
  refine⟨p,cap,hv,hc,fun hp=>?_⟩
  obtain⟨b,off,h1,h2,h3⟩:=hr hp
  exact⟨b,off,h1,by omega,ziF hB hb b h2 off sub h3⟩
theorem ziF {w w':World} {B B':Nat} (hB:B≤B') (hb:∀ b off,b<B→w'.cell? ⟨b,off,none⟩=w.cell? ⟨b,off,none⟩) (b:Nat) (hlt:b<B):∀ (off:Nat) (sub:List Ex),zdW w B b off sub→zdW w' B' b off sub
 | _,[],_=>zyK
 | off,e :: es,h=>by
  simp only [zdW] at h ⊢
  obtain⟨⟨c0,c1,c2,c3,c4,c5,h0,h1,h2,h3,h4,h5,he⟩,hr⟩:=h
  exact⟨⟨c0,c1,c2,c3,c4,c5,(hb _ _ hlt).trans h0,(hb _ _ hlt).trans h1,(hb _ _ hlt).trans h2,(hb _ _ hlt).trans h3,(hb _ _ hlt).trans h4,(hb _ _ hlt).trans h5,zzJ hB hb e _ he⟩,ziF hB hb b hlt _ es hr⟩
end
theorem zuX {w w':World} {B B':Nat} (hB:B≤B') (hb:∀ b off,b<B→w'.cell? ⟨b,off,none⟩=w.cell? ⟨b,off,none⟩) {sub:List Ex} {sv:Value} (h:zbb w B sub sv):zbb w' B' sub sv:=by
 obtain⟨p,cap,hv,hc,hr⟩:=h
 refine⟨p,cap,hv,hc,fun hp=>?_⟩
 obtain⟨b,off,h1,h2,h3⟩:=hr hp
 exact⟨b,off,h1,by omega,ziF hB hb b h2 off sub h3⟩
theorem zlc {w w':World} {B B':Nat} {sub:List Ex} {sv:Value} (h:zbb w B sub sv) (hb:Below B w w') (hB:B≤B'):zbb w' B' sub sv:=
 zuX hB (fun b off hlt=>hb.cell (p:=⟨b,off,none⟩) hlt) h
theorem zcE {w:World} {B:Nat} {sub:List Ex} {sv:Value} (h:zbb w B sub sv):∃ (p:Option Addr) (cap:Nat),sv = .slice p sub.length cap∧sub.length≤cap∧∀ k (hk:k<sub.length),∃ b off,p=some ⟨b,off,none⟩∧b<B∧ziX w B b (off+k * 6) sub[k]:=by
 obtain⟨p,cap,hv,hc,hr⟩:=h
 refine⟨p,cap,hv,hc,fun k hk=>?_⟩
 obtain⟨b,off,h1,h2,h3⟩:=hr (by omega)
 exact⟨b,off,h1,h2,zxo h3 k hk⟩
theorem zrE {w w':World} {B B' b off:Nat} {t:Ex} (h:ziX w B b off t) (hb:Below B w w') (hB:B≤B') (hlt:b<B):ziX w' B' b off t:=by
 obtain⟨sv,h0,h1,h2,h3,h4,h5,h6⟩:=h
 exact⟨sv,(hb.cell (p:=⟨b,_,none⟩) hlt).trans h0,(hb.cell (p:=⟨b,_,none⟩) hlt).trans h1,(hb.cell (p:=⟨b,_,none⟩) hlt).trans h2,(hb.cell (p:=⟨b,_,none⟩) hlt).trans h3,(hb.cell (p:=⟨b,_,none⟩) hlt).trans h4,(hb.cell (p:=⟨b,_,none⟩) hlt).trans h5,zlc h6 hb hB⟩
structure Boxed (w:World) (cs:Array Value) (w1:World):Prop where
 below:Below w.heap.size w w1
 size:w.heap.size<w1.heap.size
 cell:∀ i (h:i<cs.size),w1.cell? ⟨w.heap.size,i,none⟩=some cs[i]
 frozen:∀ i,i<cs.size→w1.frozen? ⟨w.heap.size,i,none⟩=false
 next:w1.heap.size=w.heap.size+1
theorem zxZ (w:World) (cs:Array Value) (T:TypeId):∃ w1,w.alloc (.cells cs T)=w1∧Boxed w cs w1:=by
 refine⟨_,rfl,(Below.refl _ _).alloc (Nat.le_refl _) _,by simp,fun i h=>?_,fun i h=>?_,by simp⟩
 ·simp [go_sem,h]
 ·simp [go_sem]
theorem zCT {w w1 w2:World} {c0 c1 c2 c3 c4 c5:Value} (hX:Boxed w #[c0,c1,c2,c3,c4,c5] w1) (hb:Below w1.heap.size w1 w2) :
  w2.cell? ⟨w.heap.size,0,none⟩=some c0∧w2.cell? ⟨w.heap.size,1,none⟩=some c1∧w2.cell? ⟨w.heap.size,2,none⟩=some c2∧w2.cell? ⟨w.heap.size,3,none⟩=some c3∧w2.cell? ⟨w.heap.size,4,none⟩=some c4∧w2.cell? ⟨w.heap.size,5,none⟩=some c5:=
 ⟨(hb.cell (p:=⟨w.heap.size,0,none⟩) hX.size).trans (hX.cell 0 (by simp)),(hb.cell (p:=⟨w.heap.size,1,none⟩) hX.size).trans (hX.cell 1 (by simp)),(hb.cell (p:=⟨w.heap.size,2,none⟩) hX.size).trans (hX.cell 2 (by simp)),
  (hb.cell (p:=⟨w.heap.size,3,none⟩) hX.size).trans (hX.cell 3 (by simp)),(hb.cell (p:=⟨w.heap.size,4,none⟩) hX.size).trans (hX.cell 4 (by simp)),(hb.cell (p:=⟨w.heap.size,5,none⟩) hX.size).trans (hX.cell 5 (by simp))⟩
theorem zsx {w wr:World} {sub:List Ex} {p:Option Addr} {n cap:Nat} (h:zbb w w.heap.size sub (.slice p n cap)) (hb:Below w.heap.size w wr) (j:Nat) (hj:j<sub.length) :
  ∃ b off cv,p=some ⟨b,off,none⟩∧wr.cell? ⟨b,off+j * 6,none⟩=some (.int .i64 sub[j].kind)∧wr.cell? ⟨b,off+j * 6+1,none⟩=some (.string sub[j].name)∧wr.cell? ⟨b,off+j * 6+2,none⟩=some (.string sub[j].more)∧wr.cell? ⟨b,off+j * 6+3,none⟩=some (.int .i64 sub[j].int) ∧
   wr.cell? ⟨b,off+j * 6+4,none⟩=some (.int .i64 sub[j].den)∧wr.cell? ⟨b,off+j * 6+5,none⟩=some cv∧zbb wr wr.heap.size sub[j].sub cv:=by
 obtain⟨p',cap',he,_,hk⟩:=zcE h
 simp only [Value.slice.injEq] at he
 obtain⟨rfl,-,-⟩:=he
 obtain⟨b,off,hp,hlt,hN⟩:=hk j hj
 obtain⟨cv,h0,h1,h2,h3,h4,h5,h6⟩:=zrE hN hb hb.size hlt
 exact⟨b,off,cv,hp,h0,h1,h2,h3,h4,h5,h6⟩
end
section
mutual
def depthE:Ex→Nat
 | .mk _ _ _ _ _ s=>depthL s+1
def depthL:List Ex→Nat
 | []=>0
 | e :: es=>max (depthE e) (depthL es)
end
theorem zqt (t:Ex):depthE t=depthL t.sub+1:=by cases t;simp [depthE,Ex.sub]
theorem zfk:∀ a b:List Ex,depthL (a++b)=max (depthL a) (depthL b)
 | [],b=>by simp [depthL]
 | e :: es,b=>by simp only [depthL,List.cons_append,zfk es b];omega
theorem zkP (l:List Ex) (j:Nat) (h:j<l.length):depthL (l.take (j+1))=max (depthL (l.take j)) (depthE l[j]):=by
 rw [List.take_succ_eq_append_getElem h,zfk];simp [depthL]
mutual
theorem zzQ:∀ t:Ex,depthE t≤nodesE t
 | .mk _ _ _ _ _ s=>by have:=zhU s;simp only [depthE,nodesE];omega
theorem zhU:∀ l:List Ex,depthL l≤nodesL l
 | []=>by simp [depthL]
 | e :: es=>by have:=zzQ e;have:=zhU es;simp only [depthL,nodesL];omega
end
theorem zou (l:List Ex) (j:Nat):depthL (l.take j)≤depthL l:=by
 have:=zfk (l.take j) (l.drop j)
 rw [List.take_append_drop] at this;omega
mutual
def zjA:Ex→Bool
 | .mk _ n m _ _ s=>decide (100<n.size) || decide (100<m.size) || zgP s
def zgP:List Ex→Bool
 | []=>false
 | e :: es=>zjA e || zgP es
end
theorem zgq:∀ a b:List Ex,zgP (a++b)=(zgP a || zgP b)
 | [],b=>by simp [zgP]
 | e :: es,b=>by simp [zgP,zgq es b,Bool.or_assoc]
theorem zgO (l:List Ex) (j:Nat) (h:j<l.length):zgP (l.take (j+1))=(zgP (l.take j) || zjA l[j]):=by
 rw [List.take_succ_eq_append_getElem h,zgq];simp [zgP]
theorem zBv {l:List Ex} {j:Nat} (h:j<l.length) (he:zjA l[j]=true):zgP l=true:=by
 have h1:=zgq (l.take (j+1)) (l.drop (j+1))
 rw [List.take_append_drop,zgO l j h,he] at h1
 simp [h1]
mutual
def confE:Ex→Nat
 | .mk k _ _ _ _ s=>(if k=15 then 1 else 0)+confL s
def confL:List Ex→Nat
 | []=>0
 | e :: es=>confE e+confL es
end
theorem zgC:∀ a b:List Ex,confL (a++b)=confL a+confL b
 | [],b=>by simp [confL]
 | e :: es,b=>by simp [confL,zgC es b];omega
theorem zdP (l:List Ex) (j:Nat) (h:j<l.length):confL (l.take (j+1))=confL (l.take j)+confE l[j]:=by
 rw [List.take_succ_eq_append_getElem h,zgC];simp [confL]
mutual
theorem zjR:∀ t:Ex,confE t≤nodesE t
 | .mk _ _ _ _ _ s=>by have:=zuu s;simp only [confE,nodesE];split <;> omega
theorem zuu:∀ l:List Ex,confL l≤nodesL l
 | []=>by simp [confL]
 | e :: es=>by have:=zjR e;have:=zuu es;simp only [confL,nodesL];omega
end
theorem zfl (l:List Ex) (j:Nat):confL (l.take j)≤confL l:=by
 have:=zgC (l.take j) (l.drop j)
 rw [List.take_append_drop] at this;omega
mutual
def zeS:Ex→Ex→Bool
 | .mk k n m i d s,.mk k' n' m' i' d' s'=>decide (k=k') && decide (n=n') && decide (m=m') && decide (i=i') && decide (d=d') && zcK s s'
def zcK:List Ex→List Ex→Bool
 | [],[]=>true
 | a :: asL,b :: bs=>zeS a b && zcK asL bs
 | _,_=>false
end
mutual
theorem zkh:∀ a b:Ex,zeS a b=true ↔ a=b
 | .mk k n m i d s,.mk k' n' m' i' d' s'=>by
  simp only [zeS,Bool.and_eq_true,decide_eq_true_eq,zhF s s',Ex.mk.injEq,and_assoc]
theorem zhF:∀ a b:List Ex,zcK a b=true ↔ a=b
 | [],[]=>by simp [zcK]
 | a :: asL,b :: bs=>by simp only [zcK,Bool.and_eq_true,zkh a b,zhF asL bs,List.cons.injEq]
 | [],b :: bs=>by simp [zcK]
 | a :: asL,[]=>by simp [zcK]
end
theorem zvs (a:Ex):zeS a a=true:=(zkh a a).2 rfl
theorem zjl:∀ (a b a' b':List Ex),a.length=a'.length→zcK (a++b) (a'++b')=(zcK a a' && zcK b b')
 | [],b,[],b',_=>by simp [zcK]
 | x :: xs,b,y :: ys,b',h=>by simp only [List.cons_append,zcK,zjl xs b ys b' (by simpa using h),Bool.and_assoc]
 | [],b,y :: ys,b',h=>by simp at h
 | x :: xs,b,[],b',h=>by simp at h
theorem zlU (l m:List Ex) (j:Nat) (h:j<l.length) (h':j<m.length):zcK (l.take (j+1)) (m.take (j+1))=(zcK (l.take j) (m.take j) && zeS l[j] m[j]):=by
 rw [List.take_succ_eq_append_getElem h,List.take_succ_eq_append_getElem h',zjl _ _ _ _ (by simp;omega)];simp [zcK]
end
section
end
section
open Go.RowKit
mutual
def ExP (w:World) (P:Nat→Prop):Ex→Value→Prop
 | .mk k n m i d sub,v=>∃ (p:Option Addr) (cap:Nat),v = .agg #[.int .i64 k,.string n,.string m,.int .i64 i,.int .i64 d,.slice p sub.length cap]∧sub.length≤cap ∧
   (0<sub.length→∃ b off,p=some ⟨b,off,none⟩∧P b∧zkV w P b off sub)
def zkV (w:World) (P:Nat→Prop) (b:Nat):Nat→List Ex→Prop
 | _,[]=>True
 | off,e :: es=>(∃ c0 c1 c2 c3 c4 c5,w.cell? ⟨b,off,none⟩=some c0∧w.cell? ⟨b,off+1,none⟩=some c1∧w.cell? ⟨b,off+2,none⟩=some c2∧w.cell? ⟨b,off+3,none⟩=some c3∧w.cell? ⟨b,off+4,none⟩=some c4∧w.cell? ⟨b,off+5,none⟩=some c5 ∧
   ExP w P e (.agg #[c0,c1,c2,c3,c4,c5]))∧zkV w P b (off+6) es
end
def zfT (w:World) (P:Nat→Prop) (sub:List Ex) (sv:Value):Prop:=
 ∃ (p:Option Addr) (cap:Nat),sv = .slice p sub.length cap∧sub.length≤cap∧(0<sub.length→∃ b off,p=some ⟨b,off,none⟩∧P b∧zkV w P b off sub)
theorem zEl {w:World} {P:Nat→Prop} {t:Ex} {v:Value}:ExP w P t v ↔ ∃ sv,v = .agg #[.int .i64 t.kind,.string t.name,.string t.more,.int .i64 t.int,.int .i64 t.den,sv]∧zfT w P t.sub sv:=by
 cases t with
 | mk k n m i d s=>
  simp only [ExP,zfT,Ex.kind,Ex.name,Ex.more,Ex.int,Ex.den,Ex.sub]
  constructor
  ·rintro⟨p,cap,rfl,h⟩;exact⟨_,rfl,p,cap,rfl,h⟩
  ·rintro⟨_,rfl,p,cap,rfl,h⟩;exact⟨p,cap,rfl,h⟩
def zFf (w:World) (P:Nat→Prop) (b off:Nat) (t:Ex):Prop:=
 ∃ sv,w.cell? ⟨b,off,none⟩=some (.int .i64 t.kind)∧w.cell? ⟨b,off+1,none⟩=some (.string t.name)∧w.cell? ⟨b,off+2,none⟩=some (.string t.more)∧w.cell? ⟨b,off+3,none⟩=some (.int .i64 t.int)∧w.cell? ⟨b,off+4,none⟩=some (.int .i64 t.den) ∧
  w.cell? ⟨b,off+5,none⟩=some sv∧zfT w P t.sub sv
theorem zko {w:World} {P:Nat→Prop} {b off:Nat} {e:Ex} {es:List Ex}:zkV w P b off (e :: es) ↔ zFf w P b off e∧zkV w P b (off+6) es:=by
 simp only [zkV,zFf,zEl]
 constructor
 ·rintro⟨⟨c0,c1,c2,c3,c4,c5,h0,h1,h2,h3,h4,h5,sv,he,hs⟩,hr⟩
  simp only [Value.agg.injEq,Array.mk.injEq,List.cons.injEq,and_true] at he
  obtain⟨rfl,rfl,rfl,rfl,rfl,rfl⟩:=he
  exact⟨⟨_,h0,h1,h2,h3,h4,h5,hs⟩,hr⟩
 ·rintro⟨⟨sv,h0,h1,h2,h3,h4,h5,hs⟩,hr⟩
  exact⟨⟨_,_,_,_,_,_,h0,h1,h2,h3,h4,h5,sv,rfl,hs⟩,hr⟩
theorem zng {w:World} {P:Nat→Prop} {b off:Nat}:zkV w P b off []:=by simp [zkV]
def zfU (P:Nat→Prop) (A B:World):Prop:=∀ b off,P b→∀ v,A.cell? ⟨b,off,none⟩=some v→B.cell? ⟨b,off,none⟩=some v
mutual
theorem zBY {w w':World} {P Q:Nat→Prop} (hPQ:∀ b,P b→Q b) (hb:zfU P w w'):∀ (t:Ex) (v:Value),ExP w P t v→ExP w' Q t v
 | .mk k n m i d sub,v,h=>by
  simp only [ExP] at h ⊢
  obtain⟨p,cap,hv,hc,hr⟩:=h
  refine⟨p,cap,hv,hc,fun hp=>?_⟩
  obtain⟨b,off,h1,h2,h3⟩:=hr hp
  exact⟨b,off,h1,hPQ b h2,zkn hPQ hb b h2 off sub h3⟩
theorem zkn {w w':World} {P Q:Nat→Prop} (hPQ:∀ b,P b→Q b) (hb:zfU P w w') (b:Nat) (hlt:P b):∀ (off:Nat) (sub:List Ex),zkV w P b off sub→zkV w' Q b off sub
 | _,[],_=>zng
 | off,e :: es,h=>by
  simp only [zkV] at h ⊢
  obtain⟨⟨c0,c1,c2,c3,c4,c5,h0,h1,h2,h3,h4,h5,he⟩,hr⟩:=h
  exact⟨⟨c0,c1,c2,c3,c4,c5,hb _ _ hlt _ h0,hb _ _ hlt _ h1,hb _ _ hlt _ h2,hb _ _ hlt _ h3,hb _ _ hlt _ h4,hb _ _ hlt _ h5,zBY hPQ hb e _ he⟩,zkn hPQ hb b hlt _ es hr⟩
end
theorem zys {w w':World} {P Q:Nat→Prop} (hPQ:∀ b,P b→Q b) (hb:zfU P w w') {sub:List Ex} {sv:Value} (h:zfT w P sub sv):zfT w' Q sub sv:=by
 obtain⟨p,cap,hv,hc,hr⟩:=h
 refine⟨p,cap,hv,hc,fun hp=>?_⟩
 obtain⟨b,off,h1,h2,h3⟩:=hr hp
 exact⟨b,off,h1,hPQ b h2,zkn hPQ hb b h2 off sub h3⟩
theorem zmH {P:Nat→Prop} {B:Nat} {A C:World} (h:Below B A C) (hP:∀ b,P b→b<B):zfU P A C:=fun b off hb _ hv=>(h.cell (p:=⟨b,off,none⟩) (hP b hb)).trans hv
mutual
theorem zFC:∀ {w:World} {B:Nat} (t:Ex) (v:Value),zkc w B t v→ExP w (· < B) t v
 | w,B,.mk k n m i d sub,v,h=>by
  simp only [zkc] at h;simp only [ExP]
  obtain⟨p,cap,hv,hc,hr⟩:=h
  refine⟨p,cap,hv,hc,fun hp=>?_⟩
  obtain⟨b,off,h1,h2,h3⟩:=hr hp
  exact⟨b,off,h1,h2,zrd b off sub h3⟩
theorem zrd:∀ {w:World} {B:Nat} (b off:Nat) (sub:List Ex),zdW w B b off sub→zkV w (· < B) b off sub
 | w,B,b,_,[],_=>zng
 | w,B,b,off,e :: es,h=>by
  simp only [zdW] at h;simp only [zkV]
  obtain⟨⟨c0,c1,c2,c3,c4,c5,h0,h1,h2,h3,h4,h5,he⟩,hr⟩:=h
  exact⟨⟨c0,c1,c2,c3,c4,c5,h0,h1,h2,h3,h4,h5,zFC e _ he⟩,zrd b _ es hr⟩
end
theorem zDs {w:World} {B:Nat} {sub:List Ex} {sv:Value} (h:zbb w B sub sv):zfT w (· < B) sub sv:=by
 obtain⟨p,cap,hv,hc,hr⟩:=h
 refine⟨p,cap,hv,hc,fun hp=>?_⟩
 obtain⟨b,off,h1,h2,h3⟩:=hr hp
 exact⟨b,off,h1,h2,zrd b off sub h3⟩
end
end Go.Proofs.YtpnjjmcimjlfkaaGreatDoor
namespace Go.Proofs
open Go.Shelf
def Tryz.lays143_ren:Go.Shelf.Ren:=⟨fun | 143=>256 | 219=>288 | 217=>324 | 225=>325 | 224=>326 | 267=>327 | 266=>340 | 314=>341 | n=>n,fun | 9=>9 | 3=>3 | 4=>4 | 5=>5 | 46=>180 | 146=>359 | 51=>323 | n=>n,fun | 1=>0 | n=>n⟩
theorem Tryz.lays143:Go.Proofs.Lays.n143 Tryz.prog Tryz.lays143_ren:={
 mixed:=by kernel_rfl
 f143:=Tryz.func256.trans (congrArg some (by kernel_rfl))
 f217:=Tryz.func324.trans (congrArg some (by kernel_rfl))
 f219:=Tryz.func288.trans (congrArg some (by kernel_rfl))
 f224:=Tryz.func326.trans (congrArg some (by kernel_rfl))
 f225:=Tryz.func325.trans (congrArg some (by kernel_rfl))
 f266:=Tryz.func340.trans (congrArg some (by kernel_rfl))
 f267:=Tryz.func327.trans (congrArg some (by kernel_rfl))
 f314:=Tryz.func341.trans (congrArg some (by kernel_rfl))
 t3:=Tryz.underlying3
 a3:=Tryz.isAgg3
 z3:=Tryz.sizeOf3
 v3:=Tryz.zeroValue3
 t4:=Tryz.underlying4
 a4:=Tryz.isAgg4
 z4:=Tryz.sizeOf4
 v4:=Tryz.zeroValue4
 t5:=Tryz.underlying5
 a5:=Tryz.isAgg5
 z5:=Tryz.sizeOf5
 v5:=Tryz.zeroValue5
 t9:=Tryz.underlying9
 a9:=Tryz.isAgg9
 z9:=Tryz.sizeOf9
 v9:=Tryz.zeroValue9
 t46:=Tryz.underlying180
 a46:=Tryz.isAgg180
 z46:=Tryz.sizeOf180
 v46:=Tryz.zeroValue180
 t51:=Tryz.underlying323
 a51:=Tryz.isAgg323
 z51:=Tryz.sizeOf323
 v51:=Tryz.zeroValue323
 t146:=Tryz.underlying359
 a146:=Tryz.isAgg359
 z146:=Tryz.sizeOf359
 v146:=Tryz.zeroValue359
 g1:=by kernel_rfl }
open Go.RowKit Go.Lib in
theorem Tryz.strings_Index_one (s:ByteArray) (c:UInt8) (w:World) :
  Calls Tryz.prog 256 #[.string s,.string ⟨#[c]⟩] w fun e w'=>e = .returned (.int .i64 (Lib.indexByte s.data.toList c))∧w'=w:=Any.strings_Index_one Tryz.lays143 s c w
def Tryz.lays144_ren:Go.Shelf.Ren:=⟨fun | 144=>289 | 143=>256 | 219=>288 | 217=>324 | 225=>325 | 224=>326 | 267=>327 | 266=>340 | 314=>341 | n=>n,fun | 9=>9 | 4=>4 | 3=>3 | 5=>5 | 46=>180 | 146=>359 | 51=>323 | n=>n,fun | 1=>0 | n=>n⟩
theorem Tryz.lays144:Go.Proofs.Lays.n144 Tryz.prog Tryz.lays144_ren:={
 mixed:=by kernel_rfl
 f143:=Tryz.func256.trans (congrArg some (by kernel_rfl))
 f144:=Tryz.func289.trans (congrArg some (by kernel_rfl))
 f217:=Tryz.func324.trans (congrArg some (by kernel_rfl))
 f219:=Tryz.func288.trans (congrArg some (by kernel_rfl))
 f224:=Tryz.func326.trans (congrArg some (by kernel_rfl))
 f225:=Tryz.func325.trans (congrArg some (by kernel_rfl))
 f266:=Tryz.func340.trans (congrArg some (by kernel_rfl))
 f267:=Tryz.func327.trans (congrArg some (by kernel_rfl))
 f314:=Tryz.func341.trans (congrArg some (by kernel_rfl))
 t3:=Tryz.underlying3
 a3:=Tryz.isAgg3
 z3:=Tryz.sizeOf3
 v3:=Tryz.zeroValue3
 t4:=Tryz.underlying4
 a4:=Tryz.isAgg4
 z4:=Tryz.sizeOf4
 v4:=Tryz.zeroValue4
 t5:=Tryz.underlying5
 a5:=Tryz.isAgg5
 z5:=Tryz.sizeOf5
 v5:=Tryz.zeroValue5
 t9:=Tryz.underlying9
 a9:=Tryz.isAgg9
 z9:=Tryz.sizeOf9
 v9:=Tryz.zeroValue9
 t46:=Tryz.underlying180
 a46:=Tryz.isAgg180
 z46:=Tryz.sizeOf180
 v46:=Tryz.zeroValue180
 t51:=Tryz.underlying323
 a51:=Tryz.isAgg323
 z51:=Tryz.sizeOf323
 v51:=Tryz.zeroValue323
 t146:=Tryz.underlying359
 a146:=Tryz.isAgg359
 z146:=Tryz.sizeOf359
 v146:=Tryz.zeroValue359
 g1:=by kernel_rfl }
open Go.RowKit Go.Lib in
theorem Tryz.strings_Contains_one (s:ByteArray) (c:UInt8) (w:World) :
  Calls Tryz.prog 289 #[.string s,.string ⟨#[c]⟩] w fun e w'=>e = .returned (.bool (decide (0≤Lib.indexByte s.data.toList c)))∧w'=w:=Any.strings_Contains_one Tryz.lays144 s c w
def Tryz.lays106_ren:Go.Shelf.Ren:=⟨fun | 106=>81 | 213=>145 | 265=>224 | n=>n,fun | 9=>9 | 3=>3 | n=>n,fun | n=>n⟩
theorem Tryz.lays106:Go.Proofs.Lays.n106 Tryz.prog Tryz.lays106_ren:={
 mixed:=by kernel_rfl
 f106:=Tryz.func81.trans (congrArg some (by kernel_rfl))
 f213:=Tryz.func145.trans (congrArg some (by kernel_rfl))
 f265:=Tryz.func224.trans (congrArg some (by kernel_rfl))
 t3:=Tryz.underlying3
 a3:=Tryz.isAgg3
 z3:=Tryz.sizeOf3
 v3:=Tryz.zeroValue3
 t9:=Tryz.underlying9
 a9:=Tryz.isAgg9
 z9:=Tryz.sizeOf9
 v9:=Tryz.zeroValue9 }
open Go.RowKit in
theorem Tryz.strings_Compare (a b:ByteArray) (w:World) :
  Calls Tryz.prog 81 #[.string a,.string b] w fun e w'=>e = .returned (.int .i64 (Lib.compareBytes a.data.toList b.data.toList))∧w'=w:=Any.strings_Compare Tryz.lays106 a b w
end Go.Proofs
namespace Go.Proofs.YtpnjjmcimjlfkaaGreatDoor
section
def zay (c:Int):Bool:=decide (97≤c) && decide (c≤122)
def zbx (c:Int):Bool:=decide (48≤c) && decide (c≤57)
def zcT (c:UInt8):Bool:=zay (c.toNat:Int)
def zgB (c:UInt8):Bool:=zbx (c.toNat:Int)
def zgJ (c:UInt8):Bool:=zcT c || zgB c
def zaA (most:Nat) (l:List UInt8):Bool:=
 match l with
 | []=>false
 | c :: r=>decide (r.length+1≤most) && zcT c && r.all zgJ
theorem zmy {most:Nat} {l:List UInt8} (h0:0<l.length) (h1:l.length≤most)
  (h:∀ j (hj:j<l.length),zcT l[j]=true∨(j≠0∧zgB l[j]=true)):zaA most l=true:=by
 cases l with
 | nil=>simp at h0
 | cons c r=>
  simp only [zaA,Bool.and_eq_true,decide_eq_true_eq,List.all_eq_true]
  refine⟨⟨by simpa using h1,?_⟩,fun x hx=>?_⟩
  ·have:=h 0 (by simp)
   simpa using this
  ·obtain⟨j,hj,rfl⟩:=List.getElem_of_mem hx
   have:=h (j+1) (by simpa using hj)
   simp only [List.getElem_cons_succ] at this
   unfold zgJ
   rcases this with h | ⟨_,h⟩ <;> simp [h]
theorem zds {most:Nat} {l:List UInt8} {j:Nat} (hj:j<l.length) (h1:zcT l[j]=false) (h2:j=0∨zgB l[j]=false):zaA most l=false:=by
 cases l with
 | nil=>rfl
 | cons c r=>
  cases j with
  | zero=>simp at h1;simp [zaA,h1]
  | succ j=>
   have hj':j<r.length:=by simpa using hj
   simp only [List.getElem_cons_succ] at h1 h2
   have h3:zgB r[j]=false:=by
    rcases h2 with h | h
    ·omega
    ·exact h
   have:r.all zgJ=false:=by
    rw [List.all_eq_false]
    exact⟨r[j],List.getElem_mem _,by simp [zgJ,h1,h3]⟩
   simp [zaA,this]
theorem ziv {most:Nat} {l:List UInt8} (h:most<l.length):zaA most l=false:=by
 cases l with
 | nil=>rfl
 | cons c r=>
  have:¬ (r.length+1≤most):=by simp at h;omega
  simp [zaA,this]
theorem zpu {most:Nat} {l:List UInt8} (h:l.length=0):zaA most l=false:=by
 cases l with
 | nil=>rfl
 | cons c r=>simp at h
def runL (p:UInt8→Bool) (l:List UInt8):Nat:=(l.takeWhile p).length
theorem zqZ (p:UInt8→Bool) (l:List UInt8):runL p l≤l.length:=by
 unfold runL;exact(List.takeWhile_sublist p).length_le
theorem zxg {p:UInt8→Bool}:∀ {l:List UInt8} {k:Nat},k≤l.length→(∀ j (hj:j<l.length),j<k→p l[j]=true)→(∀ h:k<l.length,p l[k]=false)→runL p l=k:=by
 intro l
 induction l with
 | nil=>intro k hk _ _;simp at hk;subst hk;rfl
 | cons c r ih=>
  intro k hk h1 h2
  cases k with
  | zero=>
   have:=h2 (by simp)
   simp only [List.getElem_cons_zero] at this
   simp [runL,this]
  | succ k=>
   have hc:p c=true:=h1 0 (by simp) (by omega)
   have:=ih (k:=k) (by simpa using hk) (fun j hj hlt=>h1 (j+1) (by simpa using hj) (by omega)) (fun h=>by
    have:=h2 (by simpa using h)
    simpa using this)
   unfold runL at this ⊢
   simp [hc,this]
def zaH:List UInt8→List (List UInt8)
 | []=>[[]]
 | c :: r=>if c == 47 then [] :: zaH r else match zaH r with
  | p :: ps=>(c :: p) :: ps
  | []=>[[c]]
def zX (l:List UInt8):Bool:=decide (l.length≤90) && (zaH l).all (zaA 20)
theorem zhc {l:List UInt8} (h:Lib.indexByte l 47 = -1):zaH l=[l]:=by
 induction l with
 | nil=>rfl
 | cons c r ih=>
  unfold Lib.indexByte at h
  by_cases hc:(c == 47)=true
  ·simp [hc] at h
  ·rw [if_neg hc] at h
   by_cases hr:(Lib.indexByte r 47 == -1)=true
   ·have:=ih (by simpa using hr)
    rw [zaH,if_neg hc,this]
   ·rw [if_neg hr] at h
    have:=Lib.indexByte_ge r 47
    exfalso;apply hr;simp;omega
theorem zeW:∀ {l:List UInt8} {i:Nat},Lib.indexByte l 47=(i:Int)→i<l.length∧zaH l=l.take i :: zaH (l.drop (i+1)):=by
 intro l
 induction l with
 | nil=>intro i h;simp [Lib.indexByte] at h
 | cons c r ih=>
  intro i h
  unfold Lib.indexByte at h
  by_cases hc:(c == 47)=true
  ·rw [if_pos hc] at h
   obtain rfl:i=0:=by omega
   refine⟨by simp,?_⟩
   rw [zaH,if_pos hc];rfl
  ·rw [if_neg hc] at h
   by_cases hr:(Lib.indexByte r 47 == -1)=true
   ·rw [if_pos hr] at h;omega
   ·rw [if_neg hr] at h
    cases i with
    | zero=>have:=Lib.indexByte_ge r 47;exfalso;apply hr;simp;omega
    | succ i=>
     obtain⟨h1,h2⟩:=ih (i:=i) (by omega)
     refine⟨by simpa using h1,?_⟩
     rw [zaH,if_neg hc,h2]
     simp
end
section
open Go.RowKit
theorem zwo (c:Int) (w:World) (h:zay c=true):Calls Tryz.prog 211 #[.int .i32 c] w fun e w'=>e = .returned (.bool true)∧w=w':=by
 obtain⟨h1,h2⟩:97≤c∧c≤122:=by simpa [zay] using h
 clear h
 go_enter Tryz.func211,Tryz.ntmps211
 go_wp2
 go_ret
 exact⟨rfl,rfl⟩
theorem zfD (c:Int) (w:World) (h:zay c=false):Calls Tryz.prog 211 #[.int .i32 c] w fun e w'=>e = .returned (.bool false)∧w=w':=by
 by_cases h1:97≤c
 ·have h2:¬ c≤122:=by simp [zay] at h;omega
  clear h
  go_enter Tryz.func211,Tryz.ntmps211
  go_wp2
  go_ret
  exact⟨rfl,rfl⟩
 ·clear h
  go_enter Tryz.func211,Tryz.ntmps211
  go_wp2
  go_ret
  exact⟨rfl,rfl⟩
theorem digit_yes (c:Int) (w:World) (h:zbx c=true):Calls Tryz.prog 212 #[.int .i32 c] w fun e w'=>e = .returned (.bool true)∧w=w':=by
 obtain⟨h1,h2⟩:48≤c∧c≤57:=by simpa [zbx] using h
 clear h
 go_enter Tryz.func212,Tryz.ntmps212
 go_wp2
 go_ret
 exact⟨rfl,rfl⟩
theorem digit_no (c:Int) (w:World) (h:zbx c=false):Calls Tryz.prog 212 #[.int .i32 c] w fun e w'=>e = .returned (.bool false)∧w=w':=by
 by_cases h1:48≤c
 ·have h2:¬ c≤57:=by simp [zbx] at h;omega
  clear h
  go_enter Tryz.func212,Tryz.ntmps212
  go_wp2
  go_ret
  exact⟨rfl,rfl⟩
 ·clear h
  go_enter Tryz.func212,Tryz.ntmps212
  go_wp2
  go_ret
  exact⟨rfl,rfl⟩
end
section
open Go.RowKit
theorem zmA (s:ByteArray):s.data.toList.length=s.size:=by simp
theorem zwQ (w:World) (s:ByteArray) (p:Nat):Below w.heap.size w (w.iter s p):=(Below.refl _ _).alloc (Nat.le_refl _) _
theorem zum (s:ByteArray) (h:0<s.size):s.toList.isEmpty=false:=by
 rw [ByteArray.toList_eq]
 cases hl:s.data.toList with
 | nil=>have:=zmA s;rw [hl] at this;simp at this;omega
 | cons=>rfl
theorem zzO (s:ByteArray) (h:s.size=0):s.toList.isEmpty=true:=by
 rw [ByteArray.toList_eq]
 cases hl:s.data.toList with
 | nil=>rfl
 | cons=>have:=zmA s;rw [hl] at this;simp at this;omega
theorem zAo (s:ByteArray) (w:World) (h:s.size=0) :
  Calls Tryz.prog 133 #[.string s] w fun e w'=>e = .returned (.bool false)∧w=w':=by
 have h0:=zzO s h
 clear h
 go_enter Tryz.func133,Tryz.ntmps133
 go_wp2_with fail
 go_ret
 exact⟨rfl,rfl⟩
theorem zyl (s:ByteArray) (w:World) (h:24<s.size) :
  Calls Tryz.prog 133 #[.string s] w fun e w'=>e = .returned (.bool false)∧w=w':=by
 have h0:=zum s (by omega)
 go_enter Tryz.func133,Tryz.ntmps133
 go_wp2_with fail
 go_ret
 exact⟨rfl,rfl⟩
def zuN (l:List UInt8) (k:Nat):Prop:=∀ j (hj:j<l.length),j<k→zcT l[j]=true∨(j≠0∧zgB l[j]=true)
theorem zkY {s:ByteArray} {k:Nat} (hk:k<s.size) (h:zuN s.data.toList k) (h1:zcT s[k]=true∨(k≠0∧zgB s[k]=true)):zuN s.data.toList (k+1):=by
 intro j hj hlt
 rcases Nat.lt_or_ge j k with hh | hh
 ·exact h j hj hh
 ·obtain rfl:j=k:=by omega
  exact h1
theorem zyk (s:ByteArray) (w:World) (h1:s.size≤24) (h2:0<s.size) :
  Calls Tryz.prog 133 #[.string s] w fun e w'=>e = .returned (.bool (zaA 24 s.data.toList))∧∃ p,w.iter s p=w':=by
 have h0:=zum s h2
 have h24:decide (24<(s.size:Int))=false:=by simp;omega
 go_enter Tryz.func133,Tryz.ntmps133
 go_wp2_with fail
 go_loopw [3,4] (fun _ _ wr=>∃ pos:Nat,wr=w.iter s pos∧pos≤s.size∧zuN s.data.toList pos) (fun _ _ wr=>s.size - wr.iterPos w.heap.size)
 case atStart=>exact⟨0,rfl,by omega,fun j hj h=>absurd h (by omega)⟩
 case round=>
  obtain⟨pos,rfl,hle,hto⟩:=hrel
  by_cases hp:pos<s.size
  ·by_cases ha:(s[pos]'hp).toNat<128
   ·have hnx:∀ ty,(Instr.next (.pointer (some ⟨w.heap.size,0,none⟩)) true ty).run Tryz.prog (w.iter s pos)=_:=fun ty=>run_next_ascii w s pos ty hp ha
    cases hl:zay ((s[pos]'hp).toNat:Int)
    ·by_cases hz:pos=0
     ·have hzb:((pos:Int) == 0)=true:=by simp [hz]
      have Hf:=Lib.hid (zds (most:=24) (l:=s.data.toList) (j:=pos) (by simpa using hp) hl (.inl hz))
      clear hz
      go_wp2_with (first | (go_at_call 211;refine(zfD _ _ hl).mono ?_;rintro e w' ⟨rfl,rfl⟩))
      go_ret
      exact⟨by rw [Hf.out];rfl,_,rfl⟩
     ·have hzb:((pos:Int) == 0)=false:=by simp;omega
      cases hd:zbx ((s[pos]'hp).toNat:Int)
      ·have Hf:=Lib.hid (zds (most:=24) (l:=s.data.toList) (j:=pos) (by simpa using hp) hl (.inr hd))
       clear hz
       go_wp2_with (first | (go_at_call 211;refine(zfD _ _ hl).mono ?_;rintro e w' ⟨rfl,rfl⟩) | (go_at_call 212;refine(digit_no _ _ hd).mono ?_;rintro e w' ⟨rfl,rfl⟩))
       go_ret
       exact⟨by rw [Hf.out];rfl,_,rfl⟩
      ·go_wp2_with (first | (go_at_call 211;refine(zfD _ _ hl).mono ?_;rintro e w' ⟨rfl,rfl⟩) | (go_at_call 212;refine(digit_yes _ _ hd).mono ?_;rintro e w' ⟨rfl,rfl⟩))
       go_roundw
       case rel=>exact⟨pos+1,rfl,by omega,zkY hp hto (.inr ⟨hz,hd⟩)⟩
       case measure=>simp;omega
    ·go_wp2_with (first | (go_at_call 211;refine(zwo _ _ hl).mono ?_;rintro e w' ⟨rfl,rfl⟩))
     go_roundw
     case rel=>exact⟨pos+1,rfl,by omega,zkY hp hto (.inl hl)⟩
     case measure=>simp;omega
   ·have hdec:=decode_high s pos hp (by omega)
    obtain⟨hge,hw1⟩:=hdec
    have hle':=decode_le s pos
    have hl:zay ((Utf8.decode s pos).1:Int)=false:=by simp [zay];omega
    have hd:zbx ((Utf8.decode s pos).1:Int)=false:=by simp [zbx];omega
    have hlb:zcT (s[pos]'hp)=false:=by simp [zcT,zay];omega
    have hdb:zgB (s[pos]'hp)=false:=by simp [zgB,zbx];omega
    have Hf:=Lib.hid (zds (most:=24) (l:=s.data.toList) (j:=pos) (by simpa using hp) hlb (.inr hdb))
    have hnx:∀ ty,(Instr.next (.pointer (some ⟨w.heap.size,0,none⟩)) true ty).run Tryz.prog (w.iter s pos)=_:=fun ty=>run_next_any w s pos ty hp
    clear hlb hdb
    by_cases hz:pos=0
    ·have hzb:((pos:Int) == 0)=true:=by simp [hz]
     clear hz
     go_wp2_with (first | (go_at_call 211;refine(zfD _ _ hl).mono ?_;rintro e w' ⟨rfl,rfl⟩))
     go_ret
     exact⟨by rw [Hf.out];rfl,_,rfl⟩
    ·have hzb:((pos:Int) == 0)=false:=by simp;omega
     clear hz
     go_wp2_with (first | (go_at_call 211;refine(zfD _ _ hl).mono ?_;rintro e w' ⟨rfl,rfl⟩) | (go_at_call 212;refine(digit_no _ _ hd).mono ?_;rintro e w' ⟨rfl,rfl⟩))
     go_ret
     exact⟨by rw [Hf.out];rfl,_,rfl⟩
  ·have hnx:∀ ty,(Instr.next (.pointer (some ⟨w.heap.size,0,none⟩)) true ty).run Tryz.prog (w.iter s pos)=_:=fun ty=>run_next_end w s pos ty hp
   go_wp2_with fail
   go_ret
   refine⟨?_,_,rfl⟩
   rw [zmy (by simpa using h2) (by simpa using h1) (fun j hj=>hto j hj (by simp at hj;omega))]
   rfl
theorem zmx (s:ByteArray) (w:World) :
  Calls Tryz.prog 133 #[.string s] w fun e w'=>e = .returned (.bool (zaA 24 s.data.toList))∧Below w.heap.size w w':=by
 rcases Nat.eq_zero_or_pos s.size with h | h
 ·rw [zpu (by simpa using h)]
  exact(zAo s w h).mono fun e w' ⟨h1,h2⟩=>⟨h1,h2 ▸ Below.refl _ _⟩
 ·rcases Nat.lt_or_ge 24 s.size with h' | h'
  ·rw [ziv (by simpa using h')]
   exact(zyl s w h').mono fun e w' ⟨h1,h2⟩=>⟨h1,h2 ▸ Below.refl _ _⟩
  ·refine(zyk s w h' h).mono fun e w' ⟨h1,p,h2⟩=>⟨h1,h2 ▸ zwQ w s p⟩
end
section
open Go.RowKit
def zpD (p:UInt8→Bool) (l:List UInt8) (k:Nat):Prop:=∀ j (hj:j<l.length),j<k→p l[j]=true
theorem zmZ (p:UInt8→Bool) (l:List UInt8):zpD p l 0:=fun _ _ h=>absurd h (by omega)
theorem ziD {p:UInt8→Bool} {s:ByteArray} {k:Nat} (hk:k<s.size) (h:zpD p s.data.toList k) (h1:p s[k]=true):zpD p s.data.toList (k+1):=by
 intro j hj hlt
 rcases Nat.lt_or_ge j k with hh | hh
 ·exact h j hj hh
 ·obtain rfl:j=k:=by omega
  exact h1
end
section
open Go.RowKit
theorem zct (s:ByteArray) (a b:Nat):(s.extract a b).data.toList=(s.data.toList.drop a).take (b - a):=by
 rw [ByteArray.data_extract,Array.toList_extract,List.extract_eq_take_drop]
theorem zhq (s:ByteArray) (a:Nat):(s.extract a s.size).data.toList=s.data.toList.drop a:=by
 rw [zct,List.take_of_length_le (by simp)]
end
section
open Go.RowKit
theorem zrY (s:ByteArray) (c:UInt8) (w:World) :
  Calls Tryz.prog 289 #[.string s,.string ⟨#[c]⟩] w fun e w'=>e = .returned (.bool (decide ((0:Int)≤Lib.indexByte s.data.toList c)))∧w=w':=
 (Tryz.strings_Contains_one s c w).mono fun _ _ ⟨h1,h2⟩=>⟨h1,h2.symm⟩
end
section
open Go.RowKit
end
section
open Go Go.RowKit
def zEV {α:Type} (F:Fence) (n:Nat) (P:Program) (g:Nat) (lb:Array Value) (encs:α→Array Value) (Kp R:World→World→Prop) (X:List α→α→Prop) (S Sp:List α→Prop) (W:World):Prop:=
 ∀ (l:Nat) (J Jx:List α→World→Prop),
  (∀ pre A B,J pre A→R A B→J pre B)→(∀ pre A B,Jx pre A→R A B→Jx pre B) →
  (∀ pre x A,J pre A→X pre x→YieldAt F (n - 1) P l (encs x) A fun e B=>
   (e = .returned (.bool true)∧J (pre++[x]) B∧Kp A B)∨(e = .returned (.bool false)∧Jx (pre++[x]) B)) →
  J [] W →
  CallsIn F n P g (#[.func (.yield l) #[] #[]]++lb) W fun e B=>(∃ v,e = .returned v)∧((∃ xs,S xs∧J xs B)∨(∃ pre,Sp pre∧Jx pre B))
variable {F:Fence} {n:Nat} {P:Program}
theorem zbA {α:Type} {g:Operand} {ps:Array Tmp} {assign body:Code} {Q:Exit→Act→World→Prop} {a:Act} {w:World}
  (hro:F.round=none) (h1:1≤n) {gf:Nat} {lb:Array Value} (hg:a.eval g = .func (.func gf) #[] lb) (hFg:F.fn gf) (eg:∀ args w,(callFunc gf args).run P w = .ok (.enter gf args) w)
  {encs:α→Array Value} {Kp R:World→World→Prop} {X:List α→α→Prop} {S Sp:List α→Prop}
  (hseq:∀ r:Loop,zEV F (n - 1) P gf lb encs Kp R X S Sp ((w.alloc (.deferred (some []))).alloc (.loop r)))
  (hKt:∀ {A B C:World},Kp A B→Kp B C→Kp A C)
  (hKb:∀ (W:World) (l:Nat) (o o':Obj),w.heap.size≤l→W.heap[l]? = some o→o.isCells=false→Kp W (W.putObj l o'))
  (hR:∀ {A B:World},R A B→KeepsFrom w.heap.size A B) (hps:∀ x,(encs x).size=ps.size)
  (I:List α→World→Prop) (Ix:Code→List α→World→Prop) (hI:OwnFrom w.heap.size I) (hIx:∀ c,OwnFrom w.heap.size (Ix c))
  (hIR:∀ pre A B,I pre A→R A B→I pre B) (hIxR:∀ c pre A B,Ix c pre A→R A B→Ix c pre B) (h0:I [] w) (a₁:α→Act)
  (hassign:∀ (l:Nat) (x:α) (W:World) (K:Act→World→Prop),K (a₁ x) W →
   assign.wpIn (F.inRound l) (n - 1 - 1) P (Exit.then K (fun _ _ _=>False)) { tmps:=(ps.zip (encs x)).foldl (fun t (p,v)=>t.setIfInBounds p v) a.tmps,defers:=[] } W)
  (hbody:∀ (l:Nat) (pre:List α) (x:α) (W:World),I pre W→X pre x→body.wpIn (F.inRound l) (n - 1 - 1) P (ownPostG w.heap.size Kp I Ix (pre++[x]) W) (a₁ x) W)
  (hdone:∀ (D:Nat) (xs:List α) (W:World),w.heap.size≤D→S xs→I xs W→W.heap[D]? = some (.deferred (some []))→Q .normal { a with defers:={ target:=.collected D,args:=#[] } :: a.defers } W)
  (hstop:∀ (D:Nat) (c:Code) (pre:List α) (W:World),w.heap.size≤D→Sp pre→Ix c pre W→W.heap[D]? = some (.deferred (some []))→c.wpIn F n P Q { a with defers:={ target:=.collected D,args:=#[] } :: a.defers } W) :
  (Code.rangeFunc g ps assign body).wpIn F n P Q a w:=by
 refine wpIn_rangeFunc ?_
 intro fn hfn
 rw [hro]
 -- the two blocks that the statement lays: one for the rounds' deferred calls,then the record of the loop
 obtain⟨rec,hrec⟩:∃ rec:LoopState→Option Code→Loop,rec=fun st pe=>{ state:=st,pending:=pe,fn,tmps:=a.tmps,params:=ps,assign,body,defers:=w.heap.size }:=⟨_,rfl⟩
 obtain⟨W1,hW1⟩:∃ W1,(w.alloc (.deferred (some []))).alloc (.loop (rec .ready none))=W1:=⟨_,rfl⟩
 have hL1:W1.heap[w.heap.size+1]? = some (.loop (rec .ready none)):=by
  have:=World.alloc_heap_new (w.alloc (.deferred (some []))) (.loop (rec .ready none))
  rw [World.size_alloc,hW1] at this
  exact this
 have hK1:W1.heap[w.heap.size]? = some (.deferred (some [])):=by
  rw [← hW1];exact(Below.heap_alloc _ _ _ (by simp)).trans (World.alloc_heap_new w _)
 have hI1:I [] W1:=by rw [← hW1];exact hI.alloc _ (hI.alloc _ h0)
 have hseq1:zEV F (n - 1) P gf lb encs Kp R X S Sp W1:=hW1 ▸ hseq (rec .ready none)
 refine⟨w.heap.size+1,[{ target:=.collected w.heap.size,args:=#[] }],W1,{ target:=.fn (.func gf) lb,args:=#[.func (.yield (w.heap.size+1)) #[] #[]] },W1,gf,
  #[.func (.yield (w.heap.size+1)) #[] #[]]++lb,W1,?_,?_,?_,?_,fun _=>h1,?_⟩
 ·rw [← hW1,hrec];exact run_enterLoop_outer _ _ _ _ _
 ·simp only [resolve,hg]
  simp [go_sem]
 ·intro f' hf';simp [Target.leads] at hf';subst hf';exact hFg
 ·simp [invoke,go_sem,eg]
 ·refine(hseq1 (w.heap.size+1)
   (fun pre W=>I pre W∧W.heap[w.heap.size+1]? = some (.loop (rec .ready none))∧W.heap[w.heap.size]? = some (.deferred (some [])))
   (fun pre W=>∃ c,Ix c pre W∧W.heap[w.heap.size+1]? = some (.loop (rec .done (some c)))∧W.heap[w.heap.size]? = some (.deferred (some [])))
   (fun pre A B hs hr=>⟨hIR pre A B hs.1 hr,(hR hr).same _ _ (by omega) hs.2.1 rfl,(hR hr).same _ _ (Nat.le_refl _) hs.2.2 rfl⟩)
   (fun pre A B hs hr=>by
    obtain⟨c,hc,hl,hk⟩:=hs
    exact⟨c,hIxR c pre A B hc hr,(hR hr).same _ _ (by omega) hl rfl,(hR hr).same _ _ (Nat.le_refl _) hk rfl⟩)
   ?_ ⟨hI1,hL1,hK1⟩).mono ?_
  ·rintro pre x W ⟨hi,hl,hk⟩ hX
   have hlt:w.heap.size+1<W.heap.size:=(Array.getElem?_eq_some_iff.1 hl).1
   have hy:=run_yield (P:=P) (args:=encs x) hl (by rw [hrec];exact hps x)
   rw [hrec] at hy
   refine⟨fn,_,assign,body,hy,roundIn_of_wpIn hfn (hassign _ x W _ ⟨_,run_beginRound hl (by rw [hrec]),?_⟩)⟩
   have hl2:(W.putObj (w.heap.size+1) (.loop { rec .ready none with state:=.busy })).heap[w.heap.size+1]? = some (.loop { rec .ready none with state:=.busy }):=World.putObj_heap_same hlt
   have hk2:(W.putObj (w.heap.size+1) (.loop { rec .ready none with state:=.busy })).heap[w.heap.size]? = some (.deferred (some [])):=(World.putObj_heap_other (by omega)).trans hk
   have hw2:Kp W (W.putObj (w.heap.size+1) (.loop { rec .ready none with state:=.busy })):=hKb _ _ _ _ (by omega) hl rfl
   refine wpIn_mono (hbody _ pre x _ (hI.putObj _ hi (by omega) hl rfl) hX) ?_
   have fin:∀ (jump:Option Code) (W3:World),KeepsFrom w.heap.size (W.putObj (w.heap.size+1) (.loop { rec .ready none with state:=.busy })) W3 →
     (Instr.endRound (w.heap.size+1) jump).run P W3 = .ok (.bool jump.isNone) (W3.putObj (w.heap.size+1) (.loop (rec (if jump.isNone then .ready else .done) jump))) ∧
     W3.heap[w.heap.size+1]? = some (.loop { rec .ready none with state:=.busy }) ∧
     (W3.putObj (w.heap.size+1) (.loop (rec (if jump.isNone then .ready else .done) jump))).heap[w.heap.size+1]? = some (.loop (rec (if jump.isNone then .ready else .done) jump)) ∧
     (W3.putObj (w.heap.size+1) (.loop (rec (if jump.isNone then .ready else .done) jump))).heap[w.heap.size]? = some (.deferred (some [])):=fun jump W3 hk3=>by
    have hl3:=hk3.same _ _ (by omega) hl2 rfl
    have:=run_endRound (P:=P) jump hl3
    rw [hrec] at this ⊢
    exact⟨this,by rw [hrec] at hl3;exact hl3,World.putObj_heap_same (Array.getElem?_eq_some_iff.1 hl3).1,(World.putObj_heap_other (by omega)).trans (hk3.same _ _ (Nat.le_refl _) hk2 rfl)⟩
   have leave:∀ (c:Code) (W3:World),KeepsFrom w.heap.size (W.putObj (w.heap.size+1) (.loop { rec .ready none with state:=.busy })) W3→Ix c (pre++[x]) W3 →
     ∃ v w',(Instr.endRound (w.heap.size+1) (some c)).run P W3 = .ok v w'∧((Ending.returned v = .returned (.bool true)∧(I (pre++[x]) w'∧w'.heap[w.heap.size+1]? = some (.loop (rec .ready none))∧w'.heap[w.heap.size]? = some (.deferred (some [])))∧Kp W w') ∨
      (Ending.returned v = .returned (.bool false)∧∃ c,Ix c (pre++[x]) w'∧w'.heap[w.heap.size+1]? = some (.loop (rec .done (some c)))∧w'.heap[w.heap.size]? = some (.deferred (some [])))):=fun c W3 hk3 hi3=>by
    obtain⟨hr,hl3,hl4,hk4⟩:=fin (some c) W3 hk3
    exact⟨_,_,hr,.inr ⟨rfl,c,(hIx _).putObj _ hi3 (by omega) hl3 rfl,hl4,hk4⟩⟩
   rintro e a3 W3 hp
   cases e with
   | normal=>
    obtain⟨hk3,hkp3,hi3⟩:=hp
    obtain⟨hr,hl3,hl4,hk4⟩:=fin none W3 hk3
    exact⟨_,_,hr,.inl ⟨rfl,⟨hI.putObj _ hi3 (by omega) hl3 rfl,hl4,hk4⟩,hKt (hKt hw2 hkp3) (hKb _ _ _ _ (by omega) hl3 rfl)⟩⟩
   | ret=>exact leave .ret W3 hp.1 hp.2
   | exit id=>exact leave (.exit id) W3 hp.1 hp.2
   | goto t=>exact leave (.goto t) W3 hp.1 hp.2
   | panic ch=>exact hp.elim
   | outgrown=>exact hp.elim
  ·rintro e W2 ⟨⟨v,rfl⟩,(⟨xs,hS,hi,hl,hk⟩ | ⟨pre,hSp,c,hi,hl,hk⟩)⟩
   ·exact⟨none,_,by have:=run_endLoop (P:=P) hl (by rw [hrec];simp);rw [hrec] at this;exact this,hdone _ xs _ (Nat.le_refl _) hS (hI.putObj _ hi (by omega) hl rfl) ((World.putObj_heap_other (by omega)).trans hk)⟩
   ·exact⟨some c,_,by have:=run_endLoop (P:=P) hl (by rw [hrec];simp);rw [hrec] at this;exact this,hstop _ c pre _ (Nat.le_refl _) hSp ((hIx c).putObj _ hi (by omega) hl rfl) ((World.putObj_heap_other (by omega)).trans hk)⟩
end
section
open Go Go.RowKit
variable {F:Fence} {n:Nat} {P:Program}
theorem zfo {α:Type} {g:Operand} {ps:Array Tmp} {assign body:Code} {Q:Exit→Act→World→Prop} {a:Act} {w:World}
  (hro:F.round=none) (h1:1≤n) {gf:Nat} {lb:Array Value} (hg:a.eval g = .func (.func gf) #[] lb) (hFg:F.fn gf) (eg:∀ args w,(callFunc gf args).run P w = .ok (.enter gf args) w)
  {encs:α→Array Value} {Kp R:World→World→Prop} {X:List α→α→Prop} {S Sp:List α→Prop}
  (hseq:∀ r:Loop,zEV F (n - 1) P gf lb encs Kp R X S Sp ((w.alloc (.deferred (some []))).alloc (.loop r)))
  (hKt:∀ {A B C:World},Kp A B→Kp B C→Kp A C)
  (hKb:∀ (W:World) (l:Nat) (o o':Obj),w.heap.size≤l→W.heap[l]? = some o→o.isCells=false→Kp W (W.putObj l o'))
  (hR:∀ {A B:World},R A B→KeepsFrom w.heap.size A B) (hps:∀ x,(encs x).size=ps.size)
  (I:List α→World→Prop) (Ix:Code→List α→World→Prop) (hI:OwnFrom w.heap.size I) (hIx:∀ c,OwnFrom w.heap.size (Ix c))
  (hIR:∀ pre A B,I pre A→R A B→I pre B) (hIxR:∀ c pre A B,Ix c pre A→R A B→Ix c pre B) (h0:I [] w) (a₁:α→Nat→Act) (O:α→Obj) (hKa:∀ (W:World) (o:Obj),Kp W (W.alloc o))
  (hassign:∀ (l:Nat) (x:α) (W:World) (K:Act→World→Prop),K (a₁ x W.heap.size) (W.alloc (O x)) →
   assign.wpIn (F.inRound l) (n - 1 - 1) P (Exit.then K (fun _ _ _=>False)) { tmps:=(ps.zip (encs x)).foldl (fun t (p,v)=>t.setIfInBounds p v) a.tmps,defers:=[] } W)
  (hbody:∀ (l:Nat) (pre:List α) (x:α) (b:Nat) (W:World),I pre W→X pre x→W.heap[b]? = some (O x)→w.heap.size≤b→body.wpIn (F.inRound l) (n - 1 - 1) P (ownPostG w.heap.size Kp I Ix (pre++[x]) W) (a₁ x b) W)
  (hdone:∀ (D:Nat) (xs:List α) (W:World),w.heap.size≤D→S xs→I xs W→W.heap[D]? = some (.deferred (some []))→Q .normal { a with defers:={ target:=.collected D,args:=#[] } :: a.defers } W)
  (hstop:∀ (D:Nat) (c:Code) (pre:List α) (W:World),w.heap.size≤D→Sp pre→Ix c pre W→W.heap[D]? = some (.deferred (some []))→c.wpIn F n P Q { a with defers:={ target:=.collected D,args:=#[] } :: a.defers } W) :
  (Code.rangeFunc g ps assign body).wpIn F n P Q a w:=by
 refine wpIn_rangeFunc ?_
 intro fn hfn
 rw [hro]
 -- the two blocks that the statement lays: one for the rounds' deferred calls,then the record of the loop
 obtain⟨rec,hrec⟩:∃ rec:LoopState→Option Code→Loop,rec=fun st pe=>{ state:=st,pending:=pe,fn,tmps:=a.tmps,params:=ps,assign,body,defers:=w.heap.size }:=⟨_,rfl⟩
 obtain⟨W1,hW1⟩:∃ W1,(w.alloc (.deferred (some []))).alloc (.loop (rec .ready none))=W1:=⟨_,rfl⟩
 have hL1:W1.heap[w.heap.size+1]? = some (.loop (rec .ready none)):=by
  have:=World.alloc_heap_new (w.alloc (.deferred (some []))) (.loop (rec .ready none))
  rw [World.size_alloc,hW1] at this
  exact this
 have hK1:W1.heap[w.heap.size]? = some (.deferred (some [])):=by
  rw [← hW1];exact(Below.heap_alloc _ _ _ (by simp)).trans (World.alloc_heap_new w _)
 have hI1:I [] W1:=by rw [← hW1];exact hI.alloc _ (hI.alloc _ h0)
 have hseq1:zEV F (n - 1) P gf lb encs Kp R X S Sp W1:=hW1 ▸ hseq (rec .ready none)
 refine⟨w.heap.size+1,[{ target:=.collected w.heap.size,args:=#[] }],W1,{ target:=.fn (.func gf) lb,args:=#[.func (.yield (w.heap.size+1)) #[] #[]] },W1,gf,
  #[.func (.yield (w.heap.size+1)) #[] #[]]++lb,W1,?_,?_,?_,?_,fun _=>h1,?_⟩
 ·rw [← hW1,hrec];exact run_enterLoop_outer _ _ _ _ _
 ·simp only [resolve,hg]
  simp [go_sem]
 ·intro f' hf';simp [Target.leads] at hf';subst hf';exact hFg
 ·simp [invoke,go_sem,eg]
 ·refine(hseq1 (w.heap.size+1)
   (fun pre W=>I pre W∧W.heap[w.heap.size+1]? = some (.loop (rec .ready none))∧W.heap[w.heap.size]? = some (.deferred (some [])))
   (fun pre W=>∃ c,Ix c pre W∧W.heap[w.heap.size+1]? = some (.loop (rec .done (some c)))∧W.heap[w.heap.size]? = some (.deferred (some [])))
   (fun pre A B hs hr=>⟨hIR pre A B hs.1 hr,(hR hr).same _ _ (by omega) hs.2.1 rfl,(hR hr).same _ _ (Nat.le_refl _) hs.2.2 rfl⟩)
   (fun pre A B hs hr=>by
    obtain⟨c,hc,hl,hk⟩:=hs
    exact⟨c,hIxR c pre A B hc hr,(hR hr).same _ _ (by omega) hl rfl,(hR hr).same _ _ (Nat.le_refl _) hk rfl⟩)
   ?_ ⟨hI1,hL1,hK1⟩).mono ?_
  ·rintro pre x W ⟨hi,hl,hk⟩ hX
   have hlt:w.heap.size+1<W.heap.size:=(Array.getElem?_eq_some_iff.1 hl).1
   have hy:=run_yield (P:=P) (args:=encs x) hl (by rw [hrec];exact hps x)
   rw [hrec] at hy
   have hlA:(W.alloc (O x)).heap[w.heap.size+1]? = some (.loop (rec .ready none)):=(Below.heap_alloc _ _ _ hlt).trans hl
   have hkA:(W.alloc (O x)).heap[w.heap.size]? = some (.deferred (some [])):=(Below.heap_alloc _ _ _ (by omega)).trans hk
   have hbA:(W.alloc (O x)).heap[W.heap.size]? = some (O x):=World.alloc_heap_new W _
   have hiA:=hI.alloc (O x) hi
   have hpA:=hKa W (O x)
   have hltA:w.heap.size+1<(W.alloc (O x)).heap.size:=(Array.getElem?_eq_some_iff.1 hlA).1
   refine⟨fn,_,assign,body,hy,roundIn_of_wpIn hfn (hassign _ x W _ ⟨_,run_beginRound hlA (by rw [hrec]),?_⟩)⟩
   obtain⟨bA,hbe⟩:∃ bA,W.heap.size=bA:=⟨_,rfl⟩
   have hbL:w.heap.size≤bA:=by omega
   have hbN:bA≠w.heap.size+1:=by omega
   rw [hbe] at hbA ⊢
   generalize W.alloc (O x)=WA at *
   have hl2:(WA.putObj (w.heap.size+1) (.loop { rec .ready none with state:=.busy })).heap[w.heap.size+1]? = some (.loop { rec .ready none with state:=.busy }):=World.putObj_heap_same hltA
   have hk2:(WA.putObj (w.heap.size+1) (.loop { rec .ready none with state:=.busy })).heap[w.heap.size]? = some (.deferred (some [])):=(World.putObj_heap_other (by omega)).trans hkA
   have hw2:Kp W (WA.putObj (w.heap.size+1) (.loop { rec .ready none with state:=.busy })):=hKt hpA (hKb _ _ _ _ (by omega) hlA rfl)
   refine wpIn_mono (hbody _ pre x bA _ (hI.putObj _ hiA (by omega) hlA rfl) hX ((World.putObj_heap_other hbN).trans hbA) hbL) ?_
   have fin:∀ (jump:Option Code) (W3:World),KeepsFrom w.heap.size (WA.putObj (w.heap.size+1) (.loop { rec .ready none with state:=.busy })) W3 →
     (Instr.endRound (w.heap.size+1) jump).run P W3 = .ok (.bool jump.isNone) (W3.putObj (w.heap.size+1) (.loop (rec (if jump.isNone then .ready else .done) jump))) ∧
     W3.heap[w.heap.size+1]? = some (.loop { rec .ready none with state:=.busy }) ∧
     (W3.putObj (w.heap.size+1) (.loop (rec (if jump.isNone then .ready else .done) jump))).heap[w.heap.size+1]? = some (.loop (rec (if jump.isNone then .ready else .done) jump)) ∧
     (W3.putObj (w.heap.size+1) (.loop (rec (if jump.isNone then .ready else .done) jump))).heap[w.heap.size]? = some (.deferred (some [])):=fun jump W3 hk3=>by
    have hl3:=hk3.same _ _ (by omega) hl2 rfl
    have:=run_endRound (P:=P) jump hl3
    rw [hrec] at this ⊢
    exact⟨this,by rw [hrec] at hl3;exact hl3,World.putObj_heap_same (Array.getElem?_eq_some_iff.1 hl3).1,(World.putObj_heap_other (by omega)).trans (hk3.same _ _ (Nat.le_refl _) hk2 rfl)⟩
   have leave:∀ (c:Code) (W3:World),KeepsFrom w.heap.size (WA.putObj (w.heap.size+1) (.loop { rec .ready none with state:=.busy })) W3→Ix c (pre++[x]) W3 →
     ∃ v w',(Instr.endRound (w.heap.size+1) (some c)).run P W3 = .ok v w'∧((Ending.returned v = .returned (.bool true)∧(I (pre++[x]) w'∧w'.heap[w.heap.size+1]? = some (.loop (rec .ready none))∧w'.heap[w.heap.size]? = some (.deferred (some [])))∧Kp W w') ∨
      (Ending.returned v = .returned (.bool false)∧∃ c,Ix c (pre++[x]) w'∧w'.heap[w.heap.size+1]? = some (.loop (rec .done (some c)))∧w'.heap[w.heap.size]? = some (.deferred (some [])))):=fun c W3 hk3 hi3=>by
    obtain⟨hr,hl3,hl4,hk4⟩:=fin (some c) W3 hk3
    exact⟨_,_,hr,.inr ⟨rfl,c,(hIx _).putObj _ hi3 (by omega) hl3 rfl,hl4,hk4⟩⟩
   rintro e a3 W3 hp
   cases e with
   | normal=>
    obtain⟨hk3,hkp3,hi3⟩:=hp
    obtain⟨hr,hl3,hl4,hk4⟩:=fin none W3 hk3
    exact⟨_,_,hr,.inl ⟨rfl,⟨hI.putObj _ hi3 (by omega) hl3 rfl,hl4,hk4⟩,hKt (hKt hw2 hkp3) (hKb _ _ _ _ (by omega) hl3 rfl)⟩⟩
   | ret=>exact leave .ret W3 hp.1 hp.2
   | exit id=>exact leave (.exit id) W3 hp.1 hp.2
   | goto t=>exact leave (.goto t) W3 hp.1 hp.2
   | panic ch=>exact hp.elim
   | outgrown=>exact hp.elim
  ·rintro e W2 ⟨⟨v,rfl⟩,(⟨xs,hS,hi,hl,hk⟩ | ⟨pre,hSp,c,hi,hl,hk⟩)⟩
   ·exact⟨none,_,by have:=run_endLoop (P:=P) hl (by rw [hrec];simp);rw [hrec] at this;exact this,hdone _ xs _ (Nat.le_refl _) hS (hI.putObj _ hi (by omega) hl rfl) ((World.putObj_heap_other (by omega)).trans hk)⟩
   ·exact⟨some c,_,by have:=run_endLoop (P:=P) hl (by rw [hrec];simp);rw [hrec] at this;exact this,hstop _ c pre _ (Nat.le_refl _) hSp ((hIx c).putObj _ hi (by omega) hl rfl) ((World.putObj_heap_other (by omega)).trans hk)⟩
end
end Go.Proofs.YtpnjjmcimjlfkaaGreatDoor
