/- Texts of this proof, part 10: what the proof uses of them. -/
import Derived.Test.YtpnjjmcimjlfkaaGreatDoorRah
import Derived.RangeFuncWrites
import Derived.RangeFuncBound
import Derived.Deep.LoopGhost
import Derived.OwnWalkIn
import Derived.Test.YtpnjjmcimjlfkaaGreatDoorRai
import Derived.Outline
import Derived.Test.YtpnjjmcimjlfkaaGreatDoorProg
import Derived.StillTailTactics
import Derived.Deep.RegionHeld3
import Derived.Lib.SlicesS
set_option maxRecDepth 100000
set_option maxHeartbeats 64000000
namespace Go.Proofs.YtpnjjmcimjlfkaaGreatDoor
section
open Go.RowKit
mutual
def zgu:Nat->Ex->List (Nat × Ex)
 | d,.mk k n m i dn s=>(d,.mk k n m i dn s) :: zfb (d+1) s
def zfb:Nat->List Ex->List (Nat × Ex)
 | _,[]=>[]
 | d,e :: es=>zgu d e++zfb d es
end
theorem zCF (d:Nat) (t:Ex):zgu d t=(d,t) :: zfb (d+1) t.sub:=by cases t;simp [zgu,Ex.sub]
mutual
theorem zfj:∀ (d:Nat) (t:Ex),(zgu d t).length=nodesE t
 | d,.mk k n m i dn s=>by simp [zgu,nodesE,zkR (d+1) s]
theorem zkR:∀ (d:Nat) (l:List Ex),(zfb d l).length=nodesL l
 | d,[]=>by simp [zfb,nodesL]
 | d,e :: es=>by simp [zfb,nodesL,zfj d e,zkR d es]
end
def zdp:List (List Ex)->List (Nat × Ex)
 | []=>[]
 | r :: st=>zfb (st.length+2) r++zdp st
theorem zkd (st:List (List Ex)):zdp ([] :: st)=zdp st:=by simp [zdp,zfb]
theorem zux (e:Ex) (es:List Ex) (st:List (List Ex)):zdp ((e :: es) :: st)=(st.length+2,e) :: zdp (e.sub :: es :: st):=by
 simp only [zdp,zfb,zCF,List.length_cons,List.cons_append,List.append_assoc]
def zhC (W:World) (B:Nat):List (List Ex)->List Value->Prop
 | [],[]=>True
 | r :: st,y :: ys=>zbK W B r y/\zhC W B st ys
 | _,_=>False
theorem zdE {W:World} {B:Nat}:∀ {st:List (List Ex)} {ys:List Value},zhC W B st ys->ys.length=st.length
 | [],[],_=>rfl
 | r :: st,y :: ys,h=>by simp [zdE h.2]
 | [],y :: ys,h=>h.elim
 | r :: st,[],h=>h.elim
theorem zkQ {W:World} {B:Nat} {r:List Ex} {st:List (List Ex)} {ys:List Value} (h:zhC W B (r :: st) ys):∃ y ys',ys=y :: ys'/\zbK W B r y/\zhC W B st ys':=by
 cases ys with
 | nil=>exact h.elim
 | cons y ys=>exact⟨y,ys,rfl,h.1,h.2⟩
theorem ztY {W:World} {B:Nat} {e:Ex} {es:List Ex} {b off cap n:Nat} (h:zbK W B (e :: es) (.slice (some ⟨b,off,none⟩) n cap)):zbK W B es (.slice (some ⟨b,off+6,none⟩) es.length (cap - 1)):=by
 obtain⟨p,cap',he,hc,hr⟩:=h
 simp only [Value.slice.injEq] at he
 obtain⟨rfl,rfl,rfl⟩:=he
 refine⟨_,_,rfl,by simp at hc;omega,fun hp=>?_⟩
 obtain⟨b',off',h1,h2,h3⟩:=hr (by simp)
 simp only [Option.some.injEq,Addr.mk.injEq,and_true] at h1
 obtain⟨rfl,rfl⟩:=h1
 exact⟨_,_,rfl,h2,(zeM.1 h3).2⟩
theorem zua {W:World} {B:Nat} (p:Option Addr) (cap:Nat):zbK W B [] (.slice p 0 cap):=⟨p,cap,rfl,by simp,fun h=>by simp at h⟩
structure ItStep (base:Nat) (A B:World):Prop where
 below:Below base A B
 others:KeepsOthers A B
theorem ItStep.refl (base:Nat) (A:World):ItStep base A A:=⟨Below.refl _ _,KeepsOthers.refl _⟩
theorem ItStep.alloc {base:Nat} {A B:World} (h:ItStep base A B) (hb:base<=B.heap.size) (o:Obj):ItStep base A (B.alloc o):=⟨h.below.alloc hb o,h.others.trans (KeepsOthers.alloc _ _)⟩
theorem ItStep.setCell {base:Nat} {A B:World} (h:ItStep base A B) {p:Addr} (hp:base<=p.block) (v:Value):ItStep base A (B.setCell p v):=⟨h.below.setCell hp v,h.others.trans (KeepsOthers.setCell _ _ _)⟩
theorem ItStep.grown {base:Nat} {A B C:World} {g:Nat} {cur:Array Value} {T:TypeId} {f:Nat × Nat} (h:ItStep base A B) (hg:B.grownBy C (some g)) (hb:base<=g) (hbs:base<=B.heap.size) (hc:B.heap[g]? = some (.cells cur T f)):ItStep base A C:=
 ⟨h.below.trans ((Below.refl _ _).grown hg hbs (fun k e=>by cases e;exact hb)),h.others.trans (KeepsOthers.of_grownBy hg (fun j o e ho=>by cases e;rw [hc] at ho;cases ho;rfl))⟩
structure KeepOut (lo hi:Nat) (A B:World):Prop where
 size:A.heap.size<=B.heap.size
 same:∀ k o,A.heap[k]? = some o->o.isCells=true->(k<lo\/hi<=k)->B.heap[k]? = some o
theorem KeepOut.trans {lo hi:Nat} {A B C:World} (h:KeepOut lo hi A B) (k:KeepOut lo hi B C):KeepOut lo hi A C:=
 ⟨Nat.le_trans h.size k.size,fun i o hi' ho hc=>k.same i o (h.same i o hi' ho hc) ho hc⟩
theorem KeepOut.putObj {lo hi:Nat} (W:World) (l:Nat) (o o':Obj) (hl:W.heap[l]? = some o) (ho:o.isCells=false):KeepOut lo hi W (W.putObj l o'):=
 ⟨by simp [World.putObj],fun k x hk hx _=>(World.putObj_heap_other (by rintro rfl;rw [hl] at hk;cases hk;rw [ho] at hx;cases hx)).trans hk⟩
theorem KeepOut.below {lo hi:Nat} {A B:World} (h:Below A.heap.size A B):KeepOut lo hi A B:=
 ⟨h.size,fun k _ hk _ _=>(h.block k (Array.getElem?_eq_some_iff.1 hk).1).trans hk⟩
theorem KeepOut.setCell {lo hi:Nat} {A B:World} (h:KeepOut lo hi A B) {p:Addr} (hp:lo<=p.block/\p.block<hi) (v:Value):KeepOut lo hi A (B.setCell p v):=
 ⟨by simpa [World.setCell] using h.size,fun k o hk ho hc=>(Below.heap_setCell _ _ _ _ (by rintro rfl;omega)).trans (h.same k o hk ho hc)⟩
theorem zer {lo hi:Nat} {A B:World} (h:KeepOut lo hi A B) {p:Addr} {v:Value} (hv:A.cell? p=some v) (hp:p.block<lo\/hi<=p.block):B.cell? p=some v:=by
 obtain⟨o,ho,hc⟩:=cells_of_cell hv
 rw [<- hv]
 exact World.cell?_of_block ((h.same _ o ho hc hp).trans ho.symm)
def zdM (lo:Nat) (W A:World):Prop:=∀ b off,b<lo->∀ v,W.cell? ⟨b,off,none⟩=some v->A.cell? ⟨b,off,none⟩=some v
theorem zdM.keep {lo hi:Nat} {W A B:World} (h:zdM lo W A) (hk:KeepOut lo hi A B):zdM lo W B:=fun b off hb v hv=>zer hk (h b off hb v hv) (.inl hb)
theorem zdM.step {lo base:Nat} {W A B:World} (h:zdM lo W A) (hk:ItStep base A B) (hl:lo<=base):zdM lo W B:=fun b off hb v hv=>(hk.below.cell (p:=⟨b,off,none⟩) (by show b<base;omega)).trans (h b off hb v hv)
def StackAt (base T:Nat) (W:World) (lo:Nat) (st:List (List Ex)) (v:Value) (wr:World):Prop:=
 ∃ g cap cur ys,v = .slice (some ⟨g,0,none⟩) st.length cap/\base<=g/\wr.heap[g]? = some (.cells cur T (0,0))/\st.length<=cap/\cap<=maxLen/\cur.size=cap/\cur.toList.take st.length=ys.reverse/\zhC W lo st ys
theorem zit {base T lo:Nat} {W wr:World} {st:List (List Ex)} {v:Value} (h:StackAt base T W lo st v wr):∃ g cap ys,v = .slice (some ⟨g,0,none⟩) st.length cap/\base<=g/\wr.ownsRow base T 1 v st.length ys.reverse/\zhC W lo st ys:=by
 obtain⟨g,cap,cur,ys,rfl,hb,hc,h1,h2,h3,h4,h5⟩:=h
 refine⟨g,cap,ys,rfl,hb,⟨by simp [zdE h5],.inr ⟨g,cap,cur,rfl,hb,hc,h1,h2,by omega,by simpa using h4⟩⟩,h5⟩
theorem zoc {base T lo:Nat} {W wr:World} {st:List (List Ex)} {ys:List Value} {v:Value} (ho:wr.ownsRow base T 1 v st.length ys.reverse) (hn:v ≠ .slice none 0 0) (hr:zhC W lo st ys):StackAt base T W lo st v wr:=by
 obtain⟨_,h | ⟨g,cap,cur,rfl,hb,hc,h1,h2,h3,h4⟩⟩:=ho
 ·exact absurd h.1 hn
 ·exact⟨g,cap,cur,ys,rfl,hb,hc,h1,h2,by omega,by simpa using h4,hr⟩
theorem zlX {base T lo hi:Nat} {W A B:World} {st:List (List Ex)} {v:Value} (h:StackAt base T W lo st v A) (hk:KeepOut lo hi A B) (hh:hi<=base):StackAt base T W lo st v B:=by
 obtain⟨g,cap,cur,ys,rfl,hb,hc,h1⟩:=h
 exact⟨g,cap,cur,ys,rfl,hb,hk.same g _ hc rfl (.inr (by omega)),h1⟩
end
section
open Go.RowKit Go.Shelf
attribute [local go_sem] Oper.semAt_some
abbrev ItN:=Nat × Ex × Option Addr × Nat
abbrev zlS (x:ItN):Value:=.agg #[.int .i64 x.2.1.kind,.string x.2.1.name,.string x.2.1.more,.int .i64 x.2.1.int,.int .i64 x.2.1.den,.slice x.2.2.1 x.2.1.sub.length x.2.2.2]
def zdQ (x:ItN):Nat × Ex:=(x.1,x.2.1)
def zfa (t:Ex) (xs:List (ItN)):Prop:=xs.map zdQ=zgu 1 t
def zeZ (t:Ex) (xs:List (ItN)):Prop:=xs.map zdQ <+: zgu 1 t
def zhD (base T lo:Nat) (W0:World) (t:Ex) (J:List (ItN)->World->Prop) (m:Nat) (v:Value) (wr:World):Prop:=
 ∃ pre st,StackAt base T W0 lo st v wr/\J pre wr/\zdM lo W0 wr/\base<=wr.heap.size/\st.length<=pre.length/\pre.map zdQ++zdp st=zgu 1 t/\m=2 * (zdp st).length+st.length
theorem zrA {l ys:List Value} {y:Value} {n:Nat} (h:l.take (n+1)=(y :: ys).reverse) (hl:ys.length=n):l.take n=ys.reverse:=by
 have e:l.take n=(l.take (n+1)).take n:=by rw [List.take_take,Nat.min_eq_left (by omega)]
 rw [e,h,List.reverse_cons,List.take_left' (by simpa using hl)]
theorem zwZ {base T lo:Nat} {W0 wr:World} {r:List Ex} {st:List (List Ex)} {v:Value} (h:StackAt base T W0 lo (r :: st) v wr):∃ g cap y,v = .slice (some ⟨g,0,none⟩) (st.length+1) cap/\base<=g/\g<wr.heap.size/\st.length+1<=cap/\cap<=maxLen/\wr.cell? ⟨g,st.length,none⟩=some y/\wr.frozen? ⟨g,st.length,none⟩=false/\zbK W0 lo r y /\
  StackAt base T W0 lo st (.slice (some ⟨g,0,none⟩) st.length cap) wr:=by
 obtain⟨g,cap,cur,ys,rfl,hb,hc,h1,h2,h3,h4,h5⟩:=h
 obtain⟨y,ys',rfl,hy,hr⟩:=zkQ h5
 have hl:=zdE hr
 have h1':st.length+1<=cap:=by simpa using h1
 have hty:cur[st.length]? = some y:=by
  have:(cur.toList.take (st.length+1))[st.length]? = some y:=by
   have h4':cur.toList.take (st.length+1)=(y :: ys').reverse:=h4
   rw [h4',List.reverse_cons,List.getElem?_append_right (by simp;omega)];simp [hl]
  rw [List.getElem?_take_of_lt (by omega)] at this
  simpa using this
 refine⟨g,cap,y,rfl,hb,(Array.getElem?_eq_some_iff.1 hc).1,h1',h2,?_,?_,hy,g,cap,cur,ys',rfl,hb,hc,by omega,h2,h3,?_,hr⟩
 ·simp [World.cell?,hc,hty]
 ·simp [World.frozen?,hc]
 ·have h4':cur.toList.take (st.length+1)=(y :: ys').reverse:=h4
  exact zrA h4' hl
theorem zxa {base T lo:Nat} {W0 W3:World} {sub:List Ex} {sv:Value} (hs:zbK W0 lo sub sv) (hz:base<=W3.heap.size):StackAt base T W0 lo [sub] (.slice (some ⟨W3.heap.size,0,none⟩) 1 1) (W3.alloc (.cells #[sv] T)):=
 ⟨W3.heap.size,1,#[sv],[sv],rfl,hz,World.alloc_heap_new _ _,Nat.le_refl _,by unfold maxLen;omega,rfl,rfl,hs,trivial⟩
theorem zoE {base T lo:Nat} {W0 wr:World} {r r':List Ex} {st:List (List Ex)} {g cap n:Nat} {y:Value} (h:StackAt base T W0 lo (r :: st) (.slice (some ⟨g,0,none⟩) n cap) wr) (hy:zbK W0 lo r' y):StackAt base T W0 lo (r' :: st) (.slice (some ⟨g,0,none⟩) (st.length+1) cap) (wr.setCell ⟨g,st.length,none⟩ y):=by
 obtain⟨g',cap',cur,ys,he,hb,hc,h1,h2,h3,h4,h5⟩:=h
 simp only [Value.slice.injEq,Option.some.injEq,Addr.mk.injEq,and_true] at he
 obtain⟨rfl,-,rfl⟩:=he
 obtain⟨y0,ys',rfl,hy0,hr⟩:=zkQ h5
 have hl:=zdE hr
 have h1':st.length+1<=cap:=by simpa using h1
 refine⟨g,cap,cur.setIfInBounds st.length y,y :: ys',by simp,hb,?_,h1,h2,by simpa using h3,?_,hy,hr⟩
 ·have hlt:=(Array.getElem?_eq_some_iff.1 hc).1
  have hb:=(Array.getElem?_eq_some_iff.1 hc).2
  simp [World.setCell,Array.getElem_modify,hlt,hb]
 ·have h4':cur.toList.take (st.length+1)=(y0 :: ys').reverse:=h4
  have e1:cur.toList.take st.length=ys'.reverse:=zrA h4' hl
  show(cur.setIfInBounds st.length y).toList.take (st.length+1)=(y :: ys').reverse
  rw [List.take_succ_eq_append_getElem (by simp;omega)]
  simp [e1,List.take_set_of_le]
theorem znc {p:Nat->Prop} {m M:Nat} (hp:p m) (hlt:m<M):leastOf p<M:=Nat.lt_of_le_of_lt ((leastOf_spec ⟨m,hp⟩).2 m hp) hlt
theorem zkN {base T lo:Nat} {W0 wr:World} {st:List (List Ex)} {v:Value} (h:StackAt base T W0 lo st v wr) (o:Obj):StackAt base T W0 lo st v (wr.alloc o):=by
 obtain⟨g,cap,cur,ys,rfl,hb,hc,h1⟩:=h
 exact⟨g,cap,cur,ys,rfl,hb,(Below.heap_alloc _ _ _ (Array.getElem?_eq_some_iff.1 hc).1).trans hc,h1⟩
theorem zzx {W0 wr:World} {lo:Nat} {e:Ex} {es:List Ex} {y:Value} (h:zbK W0 lo (e :: es) y) (hl:zdM lo W0 wr):∃ b off cy cv,y = .slice (some ⟨b,off,none⟩) (es.length+1) cy/\es.length+1<=cy/\b<lo/\wr.cell? ⟨b,off,none⟩=some (.int .i64 e.kind)/\wr.cell? ⟨b,off+1,none⟩=some (.string e.name)/\wr.cell? ⟨b,off+2,none⟩=some (.string e.more)/\wr.cell? ⟨b,off+3,none⟩=some (.int .i64 e.int) /\
  wr.cell? ⟨b,off+4,none⟩=some (.int .i64 e.den)/\wr.cell? ⟨b,off+5,none⟩=some cv/\zbK W0 lo e.sub cv:=by
 obtain⟨p,cap,rfl,hc,hr⟩:=h
 obtain⟨b,off,rfl,hb,hrow⟩:=hr (by simp)
 obtain⟨cv,h0,h1,h2,h3,h4,h5,h6⟩:=(zeM.1 hrow).1
 exact⟨b,off,cap,cv,rfl,by simpa using hc,hb,hl _ _ hb _ h0,hl _ _ hb _ h1,hl _ _ hb _ h2,hl _ _ hb _ h3,hl _ _ hb _ h4,hl _ _ hb _ h5,h6⟩
theorem ztA (w:World) (T:TypeId) (x:Value):∀ j u,[x][j]? = some u->(w.alloc (.cells #[x] T)).cell? ((⟨w.heap.size,0,none⟩:Addr).add j)=some u:=by
 intro j u h
 cases j with
 | zero=>simp at h;subst h;simp [Addr.add,go_sem]
 | succ j=>simp at h
theorem zlW {base T lo:Nat} {W0 w6:World} {e:Ex} {es:List Ex} {st:List (List Ex)} {ys:List Value} {v' cv:Value} {L:Nat} (hL:st.length=L) (ho:w6.ownsRow base T 1 v' (L+1+1) (ys.reverse++[cv])) (hn:v' ≠ .slice none 0 0) (hr:zhC W0 lo (es :: st) ys) (hc:zbK W0 lo e.sub cv) :
  StackAt base T W0 lo (e.sub :: es :: st) v' w6:=by
 refine zoc (ys:=cv :: ys) ?_ hn ⟨hc,hr⟩
 rw [List.reverse_cons,List.length_cons,List.length_cons,hL]
 exact ho
end
section
section
open Go.RowKit Go.Shelf
attribute [local go_sem] Oper.semAt_some
theorem zxX:(Tryz.prog.info? 103).map (fun i=>(i.zero,i.size,i.bytes))=some (some (.slice none 0 0),1,24):=by kernel_rfl
theorem zkl (n l be lo hi:Nat) (hn1:1<=n) (k:Int) (nm mr:ByteArray) (it d:Int) (sub:List Ex) (p:Option Addr) (cap:Nat) (W0 W:World)
  (hs:zbK W0 lo sub (.slice p sub.length cap)) (hlow:zdM lo W0 W) (hlh:lo<=hi) (hhb:hi<=be) (hbe:W.heap[be]? = some (.cells #[.int .i64 k,.string nm,.string mr,.int .i64 it,.int .i64 d,.slice p sub.length cap] 105 (0,0))) (hsz:nodesL sub<=1048576)
  (J Jx:List (ItN)->World->Prop) (hJ:∀ pre A B,J pre A->ItStep W.heap.size A B->J pre B)
  (hY:∀ pre x A,J pre A->zlB W0 lo x.2.1 (zlS x)->YieldAt Fence.wide (n - 1) Tryz.prog l #[.int .i64 x.1,zlS x] A fun e B=>
   (e = .returned (.bool true)/\J (pre++[x]) B/\KeepOut lo hi A B)\/(e = .returned (.bool false)/\Jx (pre++[x]) B)) (h0:J [] W) :
  CallsIn Fence.wide n Tryz.prog 258 #[.func (.yield l) #[] #[],.pointer (some ⟨be,0,none⟩)] W fun e B=>(∃ v,e = .returned v) /\
   ((∃ xs,zfa (.mk k nm mr it d sub) xs/\J xs B)\/(∃ pre,zeZ (.mk k nm mr it d sub) pre/\Jx pre B)):=by
 obtain⟨i0,hi0,hz0,hz1,hz2⟩:=info_parts zxX
 have hbl:=(Array.getElem?_eq_some_iff.1 hbe).1
 have c0:W.cell? ⟨be,0,none⟩=some (.int .i64 k):=by simp [World.cell?,hbe]
 have c1:W.cell? ⟨be,1,none⟩=some (.string nm):=by simp [World.cell?,hbe]
 have c2:W.cell? ⟨be,2,none⟩=some (.string mr):=by simp [World.cell?,hbe]
 have c3:W.cell? ⟨be,3,none⟩=some (.int .i64 it):=by simp [World.cell?,hbe]
 have c4:W.cell? ⟨be,4,none⟩=some (.int .i64 d):=by simp [World.cell?,hbe]
 have c5:W.cell? ⟨be,5,none⟩=some (.slice p sub.length cap):=by simp [World.cell?,hbe]
 have HEX:Hid (zlB W0 lo (.mk k nm mr it d sub) (.agg #[.int .i64 k,.string nm,.string mr,.int .i64 it,.int .i64 d,.slice p sub.length cap])):=Lib.hid (zfW.2 ⟨_,rfl,hs⟩)
 have HBE:=Lib.hid hbe
 have HS:=Lib.hid hs
 have HLOW:=Lib.hid hlow
 clear hbe hs hlow
 obtain⟨fn,tmps,assign,body,hy,hR⟩:=hY [] (1,.mk k nm mr it d sub,p,cap) W h0 HEX.out
 replace hy:(Instr.yield l #[.int .i64 1,.agg #[.int .i64 k,.string nm,.string mr,.int .i64 it,.int .i64 d,.slice p sub.length cap]]).run Tryz.prog W = .ok (.round l fn tmps assign body) W:=hy
 refine callsIn_of_wp Tryz.func258 rfl trivial ?_ rfl
 simp only [Tryz.ntmps258,List.size_toArray,List.length_cons,List.length_nil,Nat.reduceAdd,Nat.reduceSub,Array.replicate_succ,Array.replicate_zero,List.push_toArray,List.append_toArray,List.nil_append,List.cons_append]
 gi_wp2_with fail
 refine hR.mono ?_
 rintro e W3 (⟨rfl,hJ3,hk3⟩ | ⟨rfl,hJx3⟩)
 ·have d5:=zer hk3 c5 (.inr hhb)
  have HL3:=Lib.hid (HLOW.out.keep hk3)
  have hz3:=hk3.size
  clear c0 c1 c2 c3 c4 c5 hy hR
  have hzs:W.heap.size<=(W3.alloc (Obj.cells #[Value.slice p sub.length cap] 103)).heap.size:=by simp;omega
  have HST:Hid (StackAt W.heap.size 103 W0 lo [sub] (.slice (some ⟨W3.heap.size,0,none⟩) 1 1) (W3.alloc (Obj.cells #[Value.slice p sub.length cap] 103))):=Lib.hid (zxa HS.out hz3)
  have HI3:Hid (ItStep W.heap.size W3 (W3.alloc (Obj.cells #[Value.slice p sub.length cap] 103))):=Lib.hid ((ItStep.refl _ _).alloc hz3 _)
  have HJ4:=Lib.hid (hJ _ _ _ hJ3 HI3.out)
  have hlo:lo<=W.heap.size:=by omega
  have HL4:=Lib.hid (HL3.out.step HI3.out hlo)
  gi_wp2_with fail
  clear d5 HI3 HL3
  generalize (W3.alloc (Obj.cells #[Value.slice p sub.length cap] 103))=W4 at *
  gi_loopw [3] (fun v wr=>∃ m,zhD W.heap.size 103 lo W0 (.mk k nm mr it d sub) J m v wr) (fun v wr=>leastOf (fun m=>zhD W.heap.size 103 lo W0 (.mk k nm mr it d sub) J m v wr))
  case atStart=>exact⟨_,_,_,HST.out,HJ4.out,HL4.out,hzs,by simp,by simp [zdQ,zgu,zdp],rfl⟩
  case round=>
   obtain⟨hrel1,hleast⟩:=leastOf_spec hrel
   obtain⟨M,hM⟩:∃ M,leastOf (fun m=>zhD W.heap.size 103 lo W0 (.mk k nm mr it d sub) J m u3 wr)=M:=⟨_,rfl⟩
   rw [hM] at hrel1
   obtain⟨pre,st,hst,hJr,hlr,hbz,hpl,hpre,hm⟩:=hrel1
   have HPRE:=Lib.hid hpre
   have HLR:=Lib.hid hlr
   have HMM:=Lib.hid hm
   have HMQ:=Lib.hid hM
   have HLE:=Lib.hid hleast
   clear hpre hlr hm hM hleast hrel HST HJ4 HL4
   cases st with
   | nil=>
    obtain⟨g,cp,_,rfl,_,_,_⟩:=zit hst
    gi_wp2_with fail
    go_end0
    exact⟨⟨_,rfl⟩,.inl ⟨pre,by unfold zfa;rw [<- HPRE.out];simp [zdp],hJr⟩⟩
   | cons r st=>
    obtain⟨g,cp,y,rfl,hg1,hg2,hg3,hg4,hcy,hfy,hy,hst'⟩:=zwZ hst
    have HST:=Lib.hid hst
    have HST':=Lib.hid hst'
    clear hst hst'
    have hpl':st.length+1<=pre.length:=by simpa using hpl
    have hpn:pre.length<=1048577:=by
     have h1:=congrArg List.length HPRE.out
     rw [zfj,List.length_append,List.length_map] at h1
     simp only [nodesE] at h1;omega
    clear hpl
    obtain⟨L,hL⟩:∃ L,st.length=L:=⟨_,rfl⟩
    rw [hL] at hcy hfy hg3 hpl' HST' HMQ
    unfold maxLen at hg4
    cases r with
    | nil=>
     obtain⟨py,cy,rfl,_,_⟩:=hy
     rw [hL]
     gi_wp2_with fail
     go_roundw
     case rel=>exact⟨_,pre,st,HST'.out,hJr,HLR.out,hbz,by omega,by rw [<- zkd];exact HPRE.out,rfl⟩
     case measure=>
      have hMv:=HMM.out
      rw [zkd,List.length_cons] at hMv
      rw [HMQ.out]
      exact znc (m:=2 * (zdp st).length+st.length) ⟨pre,st,HST'.out,hJr,HLR.out,hbz,by omega,by rw [<- zkd];exact HPRE.out,rfl⟩ (by omega)
    | cons e es=>
     obtain⟨b,off,cy,cv,rfl,hcy2,hblo,g0,g1,g2,g3,g4,g5,hsub⟩:=zzx hy HLR.out
     have HSUB:=Lib.hid hsub
     obtain⟨pc,cc,rfl,_,_⟩:=hsub
     have HTL:=Lib.hid (ztY hy)
     have hbg:b≠g:=by omega
     have hgw:g≠wr.heap.size:=by omega
     have hbw:b≠wr.heap.size:=by omega
     have hblt:b<wr.heap.size:=by omega
     have q0:(0:Int)<=(L:Int):=by omega
     have q1:(L:Int)<(cp:Int):=by omega
     have HREL:=Lib.hid (zux e es st)
     rw [hL] at HREL
     clear hy
     by_cases hc1:cy=1
     ·subst hc1
      obtain rfl:es=[]:=by cases es with | nil=>rfl | cons a r=>simp at hcy2
      have HTL':Hid (zbK W0 lo [] (.slice (some ⟨b,off,none⟩) 0 0)):=Lib.hid (zua _ _)
      have HA:Hid (ItStep W.heap.size wr ((wr.setCell ⟨g,L,none⟩ (.slice (some ⟨b,off,none⟩) 0 0)).alloc (.cells #[.int .i64 e.kind,.string e.name,.string e.more,.int .i64 e.int,.int .i64 e.den,.slice pc e.sub.length cc] 105))):=Lib.hid (((ItStep.refl _ _).setCell (p:=⟨g,L,none⟩) hg1 _).alloc (by simpa [World.setCell] using hbz) _)
      have HSA:Hid (StackAt W.heap.size 103 W0 lo ([] :: st) (.slice (some ⟨g,0,none⟩) (L+1) cp) ((wr.setCell ⟨g,L,none⟩ (.slice (some ⟨b,off,none⟩) 0 0)).alloc (.cells #[.int .i64 e.kind,.string e.name,.string e.more,.int .i64 e.int,.int .i64 e.den,.slice pc e.sub.length cc] 105))):=Lib.hid (by have h1:=zkN (zoE HST.out HTL'.out) (.cells #[.int .i64 e.kind,.string e.name,.string e.more,.int .i64 e.int,.int .i64 e.den,.slice pc e.sub.length cc] 105);rw [hL] at h1;exact h1)
      have HCA:Hid (((wr.setCell ⟨g,L,none⟩ (.slice (some ⟨b,off,none⟩) 0 0)).alloc (.cells #[.int .i64 e.kind,.string e.name,.string e.more,.int .i64 e.int,.int .i64 e.den,.slice pc e.sub.length cc] 105)).cell? ⟨wr.heap.size,5,none⟩=some (.slice pc e.sub.length cc)):=Lib.hid (by simp [go_sem])
      have hsa:wr.heap.size<((wr.setCell ⟨g,L,none⟩ (.slice (some ⟨b,off,none⟩) 0 0)).alloc (.cells #[.int .i64 e.kind,.string e.name,.string e.more,.int .i64 e.int,.int .i64 e.den,.slice pc e.sub.length cc] 105)).heap.size:=by simp [World.setCell]
      have HWA:Hid (∃ A,(wr.setCell ⟨g,L,none⟩ (.slice (some ⟨b,off,none⟩) 0 0)).alloc (.cells #[.int .i64 e.kind,.string e.name,.string e.more,.int .i64 e.int,.int .i64 e.den,.slice pc e.sub.length cc] 105)=A):=Lib.hid ⟨_,rfl⟩
      obtain⟨fn,tmps,assign,body,hy,hR⟩:=hY pre (L+2,e,pc,cc) _ (hJ _ _ _ hJr HA.out) (zfW.2 ⟨_,rfl,HSUB.out⟩)
      replace hy:(Instr.yield l #[.int .i64 ((L:Int)+1+1),.agg #[.int .i64 e.kind,.string e.name,.string e.more,.int .i64 e.int,.int .i64 e.den,.slice pc e.sub.length cc]]).run Tryz.prog ((wr.setCell ⟨g,L,none⟩ (.slice (some ⟨b,off,none⟩) 0 0)).alloc (.cells #[.int .i64 e.kind,.string e.name,.string e.more,.int .i64 e.int,.int .i64 e.den,.slice pc e.sub.length cc] 105)) = .ok (.round l fn tmps assign body) ((wr.setCell ⟨g,L,none⟩ (.slice (some ⟨b,off,none⟩) 0 0)).alloc (.cells #[.int .i64 e.kind,.string e.name,.string e.more,.int .i64 e.int,.int .i64 e.den,.slice pc e.sub.length cc] 105)):=hy
      rw [hL]
      gi_wp2_with fail
      generalize (wr.setCell ⟨g,L,none⟩ (.slice (some ⟨b,off,none⟩) 0 0)).alloc (.cells #[.int .i64 e.kind,.string e.name,.string e.more,.int .i64 e.int,.int .i64 e.den,.slice pc e.sub.length cc] 105)=A at *
      clear g0 g1 g2 g3 g4 g5 hcy hfy
      refine hR.mono ?_
      rintro e5 W5 (⟨rfl,hJ5,hk5⟩ | ⟨rfl,hJx5⟩)
      ·have d5:=zer hk5 HCA.out (.inr (by show hi<=wr.heap.size;omega))
       have HS5:=Lib.hid (zlX HSA.out hk5 (by omega))
       have hz5:=hk5.size
       have HL5:=Lib.hid ((HLR.out.step HA.out hlo).keep hk5)
       have hb5:W.heap.size<=W5.heap.size:=by omega
       clear hy hR
       obtain⟨g5,cp5,cur5,ys5,hv5,hgb5,hcur5,_⟩:=id HS5.out
       simp only [Value.slice.injEq,Option.some.injEq,Addr.mk.injEq,and_true] at hv5
       obtain⟨rfl,-,rfl⟩:=hv5
       obtain⟨g6,cp6,ys,hv6,hgb6,hown,hrows⟩:=zit HS5.out
       have HROWS:=Lib.hid hrows
       have HCUR:=Lib.hid hcur5
       rw [List.length_cons,hL] at hown
       clear hv6 hrows hcur5
       gi_wp2_with (first
        | (gi_at_builtin;refine wpListIn_append_own _ rfl _ _ 289 rfl W.heap.size 103 i0 _ 1 24 Tryz.underlying289 hi0 hz0 hz1 hz2 rfl (by decide) _ _ _ rfl (hown.alloc _) ⟨W5.heap.size,0,none⟩ 1 1 [.slice pc e.sub.length cc] rfl rfl ?c1 ?c2 ?c3 ?c4 ?c5 ?_))
       case c1=>exact ztA _ _ _
       case c2=>intro u hu;simp at hu;subst hu;rfl
       case c3=>unfold maxLen;omega
       case c4=>omega
       case c5=>simp;omega
       intro v' w6 hown6 hgrow hne
       have hvn:v' ≠ .slice none 0 0:=hne
       have HST6:=Lib.hid (zlW hL hown6 hvn HROWS.out HSUB.out)
       have HI6:Hid (ItStep W.heap.size W5 w6):=Lib.hid (((ItStep.refl _ _).alloc hb5 _).grown hgrow hgb5 (by simp;omega) ((Below.heap_alloc _ _ _ (Array.getElem?_eq_some_iff.1 HCUR.out).1).trans HCUR.out))
       have hz6:=HI6.out.others.size
       have HJ6:=Lib.hid (hJ _ _ _ hJ5 HI6.out)
       have HL6:=Lib.hid (HL5.out.step HI6.out hlo)
       have hM6:2 * (zdp (e.sub :: [] :: st)).length+(e.sub :: [] :: st).length<M:=by
        have h1:=HMM.out
        have h2:=congrArg List.length HREL.out
        simp only [List.length_cons] at h1 h2 ⊢
        omega
       have HR6:Hid (zhD W.heap.size 103 lo W0 (.mk k nm mr it d sub) J (2 * (zdp (e.sub :: [] :: st)).length+(e.sub :: [] :: st).length) v' w6):=Lib.hid ⟨_,_,HST6.out,HJ6.out,HL6.out,by omega,by simp;omega,by
        rw [<- HPRE.out,HREL.out];simp [zdQ],rfl⟩
       clear hown hown6 hgrow hne d5
       gi_wp2_with fail
       go_roundw
       case rel=>exact⟨_,HR6.out⟩
       case measure=>
        rw [HMQ.out]
        exact znc HR6.out hM6
      ·gi_wp2_with fail
       refine bodyPost_ret (results_none rfl _ _ _) rfl ?_
       exact⟨⟨_,rfl⟩,.inr ⟨_,⟨zdp (e.sub :: [] :: st),by rw [<- HPRE.out,HREL.out];simp [zdQ]⟩,hJx5⟩⟩
     ·have HTL':=Lib.hid HTL.out
      have hc2:(cy == 1)=false:=by simpa using hc1
      have HA:Hid (ItStep W.heap.size wr ((wr.setCell ⟨g,L,none⟩ (.slice (some ⟨b,off+6,none⟩) es.length (cy - 1))).alloc (.cells #[.int .i64 e.kind,.string e.name,.string e.more,.int .i64 e.int,.int .i64 e.den,.slice pc e.sub.length cc] 105))):=Lib.hid (((ItStep.refl _ _).setCell (p:=⟨g,L,none⟩) hg1 _).alloc (by simpa [World.setCell] using hbz) _)
      have HSA:Hid (StackAt W.heap.size 103 W0 lo (es :: st) (.slice (some ⟨g,0,none⟩) (L+1) cp) ((wr.setCell ⟨g,L,none⟩ (.slice (some ⟨b,off+6,none⟩) es.length (cy - 1))).alloc (.cells #[.int .i64 e.kind,.string e.name,.string e.more,.int .i64 e.int,.int .i64 e.den,.slice pc e.sub.length cc] 105))):=Lib.hid (by have h1:=zkN (zoE HST.out HTL'.out) (.cells #[.int .i64 e.kind,.string e.name,.string e.more,.int .i64 e.int,.int .i64 e.den,.slice pc e.sub.length cc] 105);rw [hL] at h1;exact h1)
      have HCA:Hid (((wr.setCell ⟨g,L,none⟩ (.slice (some ⟨b,off+6,none⟩) es.length (cy - 1))).alloc (.cells #[.int .i64 e.kind,.string e.name,.string e.more,.int .i64 e.int,.int .i64 e.den,.slice pc e.sub.length cc] 105)).cell? ⟨wr.heap.size,5,none⟩=some (.slice pc e.sub.length cc)):=Lib.hid (by simp [go_sem])
      have hsa:wr.heap.size<((wr.setCell ⟨g,L,none⟩ (.slice (some ⟨b,off+6,none⟩) es.length (cy - 1))).alloc (.cells #[.int .i64 e.kind,.string e.name,.string e.more,.int .i64 e.int,.int .i64 e.den,.slice pc e.sub.length cc] 105)).heap.size:=by simp [World.setCell]
      have HWA:Hid (∃ A,(wr.setCell ⟨g,L,none⟩ (.slice (some ⟨b,off+6,none⟩) es.length (cy - 1))).alloc (.cells #[.int .i64 e.kind,.string e.name,.string e.more,.int .i64 e.int,.int .i64 e.den,.slice pc e.sub.length cc] 105)=A):=Lib.hid ⟨_,rfl⟩
      obtain⟨fn,tmps,assign,body,hy,hR⟩:=hY pre (L+2,e,pc,cc) _ (hJ _ _ _ hJr HA.out) (zfW.2 ⟨_,rfl,HSUB.out⟩)
      replace hy:(Instr.yield l #[.int .i64 ((L:Int)+1+1),.agg #[.int .i64 e.kind,.string e.name,.string e.more,.int .i64 e.int,.int .i64 e.den,.slice pc e.sub.length cc]]).run Tryz.prog ((wr.setCell ⟨g,L,none⟩ (.slice (some ⟨b,off+6,none⟩) es.length (cy - 1))).alloc (.cells #[.int .i64 e.kind,.string e.name,.string e.more,.int .i64 e.int,.int .i64 e.den,.slice pc e.sub.length cc] 105)) = .ok (.round l fn tmps assign body) ((wr.setCell ⟨g,L,none⟩ (.slice (some ⟨b,off+6,none⟩) es.length (cy - 1))).alloc (.cells #[.int .i64 e.kind,.string e.name,.string e.more,.int .i64 e.int,.int .i64 e.den,.slice pc e.sub.length cc] 105)):=hy
      rw [hL]
      gi_wp2_with fail
      generalize (wr.setCell ⟨g,L,none⟩ (.slice (some ⟨b,off+6,none⟩) es.length (cy - 1))).alloc (.cells #[.int .i64 e.kind,.string e.name,.string e.more,.int .i64 e.int,.int .i64 e.den,.slice pc e.sub.length cc] 105)=A at *
      clear g0 g1 g2 g3 g4 g5 hcy hfy
      refine hR.mono ?_
      rintro e5 W5 (⟨rfl,hJ5,hk5⟩ | ⟨rfl,hJx5⟩)
      ·have d5:=zer hk5 HCA.out (.inr (by show hi<=wr.heap.size;omega))
       have HS5:=Lib.hid (zlX HSA.out hk5 (by omega))
       have hz5:=hk5.size
       have HL5:=Lib.hid ((HLR.out.step HA.out hlo).keep hk5)
       have hb5:W.heap.size<=W5.heap.size:=by omega
       clear hy hR
       obtain⟨g5,cp5,cur5,ys5,hv5,hgb5,hcur5,_⟩:=id HS5.out
       simp only [Value.slice.injEq,Option.some.injEq,Addr.mk.injEq,and_true] at hv5
       obtain⟨rfl,-,rfl⟩:=hv5
       obtain⟨g6,cp6,ys,hv6,hgb6,hown,hrows⟩:=zit HS5.out
       have HROWS:=Lib.hid hrows
       have HCUR:=Lib.hid hcur5
       rw [List.length_cons,hL] at hown
       clear hv6 hrows hcur5
       gi_wp2_with (first
        | (gi_at_builtin;refine wpListIn_append_own _ rfl _ _ 289 rfl W.heap.size 103 i0 _ 1 24 Tryz.underlying289 hi0 hz0 hz1 hz2 rfl (by decide) _ _ _ rfl (hown.alloc _) ⟨W5.heap.size,0,none⟩ 1 1 [.slice pc e.sub.length cc] rfl rfl ?e1 ?e2 ?e3 ?e4 ?e5 ?_))
       case e1=>exact ztA _ _ _
       case e2=>intro u hu;simp at hu;subst hu;rfl
       case e3=>unfold maxLen;omega
       case e4=>omega
       case e5=>simp;omega
       intro v' w6 hown6 hgrow hne
       have hvn:v' ≠ .slice none 0 0:=hne
       have HST6:=Lib.hid (zlW hL hown6 hvn HROWS.out HSUB.out)
       have HI6:Hid (ItStep W.heap.size W5 w6):=Lib.hid (((ItStep.refl _ _).alloc hb5 _).grown hgrow hgb5 (by simp;omega) ((Below.heap_alloc _ _ _ (Array.getElem?_eq_some_iff.1 HCUR.out).1).trans HCUR.out))
       have hz6:=HI6.out.others.size
       have HJ6:=Lib.hid (hJ _ _ _ hJ5 HI6.out)
       have HL6:=Lib.hid (HL5.out.step HI6.out hlo)
       have hM6:2 * (zdp (e.sub :: es :: st)).length+(e.sub :: es :: st).length<M:=by
        have h1:=HMM.out
        have h2:=congrArg List.length HREL.out
        simp only [List.length_cons] at h1 h2 ⊢
        omega
       have HR6:Hid (zhD W.heap.size 103 lo W0 (.mk k nm mr it d sub) J (2 * (zdp (e.sub :: es :: st)).length+(e.sub :: es :: st).length) v' w6):=Lib.hid ⟨_,_,HST6.out,HJ6.out,HL6.out,by omega,by simp;omega,by
        rw [<- HPRE.out,HREL.out];simp [zdQ],rfl⟩
       clear hown hown6 hgrow hne d5
       gi_wp2_with fail
       go_roundw
       case rel=>exact⟨_,HR6.out⟩
       case measure=>
        rw [HMQ.out]
        exact znc HR6.out hM6
      ·gi_wp2_with fail
       refine bodyPost_ret (results_none rfl _ _ _) rfl ?_
       exact⟨⟨_,rfl⟩,.inr ⟨_,⟨zdp (e.sub :: es :: st),by rw [<- HPRE.out,HREL.out];simp [zdQ]⟩,hJx5⟩⟩
 ·gi_wp2_with fail
  refine bodyPost_ret (results_none rfl _ _ _) rfl ?_
  exact⟨⟨_,rfl⟩,.inr ⟨_,by unfold zeZ;simp [zdQ,zgu],hJx3⟩⟩
end
end
section
open Go.RowKit
end
section
open Go.RowKit
end
section
open Go.RowKit
end
section
open Go.RowKit
def zCa (w1:World) (f:List Ex->Nat) (sub:List Ex) (n i:Value) (wr:World):Prop:=∃ j:Nat,j<=sub.length/\i = .int .i64 j/\n = .int .i64 (f (sub.take j):Nat)/\Below w1.heap.size w1 wr
theorem zuA (N:Nat):∀ (k:Int) (nm mr:ByteArray) (it d:Int) (sub:List Ex) (sv:Value) (w:World),nodesL sub<N->nodesL sub<=1099511627776->zbK w w.heap.size sub sv ->
  Calls Tryz.prog 208 #[.agg #[.int .i64 k,.string nm,.string mr,.int .i64 it,.int .i64 d,sv]] w fun e w'=>e = .returned (.int .i64 (nodesL sub+1:Nat))/\Below w.heap.size w w':=by
 induction N with
 | zero=>intro k nm mr it d sub sv w hN;omega
 | succ N ih=>
  intro k nm mr it d sub sv w hN hm hs
  have hl:=zaY sub
  obtain⟨p,cap,rfl,hcap,_⟩:=zeL hs
  have HS:=Lib.hid hs
  have HIH:=Lib.hid ih
  clear hs ih
  obtain⟨w1,hw1,hX⟩:=zBO w #[.int .i64 k,.string nm,.string mr,.int .i64 it,.int .i64 d,.slice p sub.length cap] 105
  have HW:=Lib.hid hw1
  have hsz:=hX.size
  have HB0:=Lib.hid hX.below
  have hc5:w1.cell? ⟨w.heap.size,5,none⟩=some (.slice p sub.length cap):=hX.cell 5 (by simp)
  have HX:=Lib.hid hX
  clear hX hw1
  go_enter Tryz.func208,Tryz.ntmps208
  go_wp2_with fail
  rw [HW.out]
  go_loopw [3,4] (fun n i wr=>zCa w1 (fun l=>nodesL l+1) sub n i wr) (fun _ i _=>sub.length - (intOf i).toNat)
  case atStart=>exact⟨0,by omega,rfl,rfl,Below.refl _ _⟩
  case round=>
   obtain⟨j,hj,rfl,rfl,hBr⟩:=hrel
   have hcr:=(hBr.cell (p:=⟨w.heap.size,5,none⟩) hsz).trans hc5
   have hcc:=Lib.hid hc5
   have htk:=zmQ sub j
   have hbd:=hm
   clear hc5
   by_cases hlt:j<sub.length
   ·have hbw:Below w.heap.size w wr:=HB0.out.trans (hBr.mono (by omega))
    obtain⟨b,off,cv,rfl,g0,g1,g2,g3,g4,g5,g6⟩:=zzn HS.out hbw j hlt
    have hn1:=zeS sub j hlt
    have hn2:=zeD sub[j]
    have hC:=Lib.hid (HIH.out sub[j].kind sub[j].name sub[j].more sub[j].int sub[j].den sub[j].sub cv wr (by omega) (by omega) g6)
    have HT:=Lib.hid (zkk sub j hlt)
    rw [hn2] at HT
    have hn3:nodesL sub[j].sub+1<=nodesL sub:=by omega
    clear g6 hn1 hn2
    go_wp2_with (go_at_call 208;refine(hC.out).mono ?_;rintro e w' ⟨rfl,hb1⟩)
    go_roundw
    case rel=>exact⟨j+1,by omega,by go_num,by simp only [];rw [HT.out];go_num,hBr.trans (hb1.mono hBr.size)⟩
    case measure=>simp [intOf];omega
   ·obtain rfl:j=sub.length:=by omega
    go_wp2_with fail
    go_ret
    exact⟨by simp [List.take_length],HB0.out.trans (hBr.mono (by omega))⟩
end
section
open Go.RowKit
def zkx (t:Ex):Bool:=decide (40<nodesE t) || zgO t
end
section
open Go.RowKit
def zFG (w:World) (v:Value) (l:List ByteArray):Prop:=
 ∃ (p:Option Addr) (cap:Nat),v = .slice p l.length cap/\l.length<=cap/\∀ i (h:i<l.length),∃ b off,p=some ⟨b,off,none⟩/\b<w.heap.size/\w.cell? ⟨b,off+i,none⟩=some (.string l[i])
def zjx (l:List ByteArray) (s:ByteArray):Bool:=l.any fun x=>decide (x=s)
theorem zCW {l:List ByteArray} {s:ByteArray} (h:∀ i (hi:i<l.length),l[i]≠s):zjx l s=false:=by
 rw [zjx,List.any_eq_false];intro x hx
 obtain⟨i,hi,rfl⟩:=List.getElem_of_mem hx
 simpa using h i hi
def zez:List ByteArray:=[⟨#[99,97,115,101]⟩,⟨#[99,104,97,110,99,101]⟩,⟨#[99,111,110,102,108,105,99,116]⟩,⟨#[101,108,115,101]⟩,⟨#[102,97,108,115,101]⟩,⟨#[102,108,97,107,121]⟩,⟨#[102,117,110]⟩,⟨#[105,102]⟩,⟨#[105,110]⟩,⟨#[108,101,116]⟩,⟨#[110,105,108]⟩,⟨#[111,102]⟩,⟨#[112,117,98]⟩,⟨#[116,101,115,116]⟩,⟨#[116,104,101,110]⟩,⟨#[116,114,117,101]⟩,⟨#[117,115,101]⟩]
def zcd (s:ByteArray):Bool:=zcD 24 s.data.toList && !zjx zez s
end
section
open Go.RowKit
def zbO (k:Int):Option (Nat × Nat × Nat):=
 if k=1 then some (0,1,0) else
 if k=2 then some (0,1,0) else
 if k=3 then some (1,0,0) else
 if k=4 then some (2,0,0) else
 if k=5 then some (1,1,0) else
 if k=6 then some (1,0,1) else
 if k=7 then some (0,0,2) else
 if k=8 then some (1,0,2) else
 if k=9 then some (0,0,3) else
 if k=10 then some (1,0,2) else
 if k=11 then some (0,0,0) else
 if k=12 then some (0,0,2) else
 if k=13 then some (2,0,3) else
 if k=14 then some (0,2,0) else
 if k=15 then some (0,0,3) else
 none
theorem zda {k:Int} {s:Nat × Nat × Nat} (h:zbO k=some s):(k=1/\s=(0,1,0))\/(k=2/\s=(0,1,0))\/(k=3/\s=(1,0,0))\/(k=4/\s=(2,0,0))\/(k=5/\s=(1,1,0))\/(k=6/\s=(1,0,1))\/(k=7/\s=(0,0,2))\/(k=8/\s=(1,0,2))\/(k=9/\s=(0,0,3))\/(k=10/\s=(1,0,2))\/(k=11/\s=(0,0,0))\/(k=12/\s=(0,0,2))\/(k=13/\s=(2,0,3))\/(k=14/\s=(0,2,0))\/(k=15/\s=(0,0,3)):=by
 unfold zbO at h
 by_cases e1:k=1
 ·rw [if_pos e1] at h;exact .inl ⟨e1,(Option.some.inj h).symm⟩
 rw [if_neg e1] at h
 by_cases e2:k=2
 ·rw [if_pos e2] at h;exact .inr (.inl ⟨e2,(Option.some.inj h).symm⟩)
 rw [if_neg e2] at h
 by_cases e3:k=3
 ·rw [if_pos e3] at h;exact .inr (.inr (.inl ⟨e3,(Option.some.inj h).symm⟩))
 rw [if_neg e3] at h
 by_cases e4:k=4
 ·rw [if_pos e4] at h;exact .inr (.inr (.inr (.inl ⟨e4,(Option.some.inj h).symm⟩)))
 rw [if_neg e4] at h
 by_cases e5:k=5
 ·rw [if_pos e5] at h;exact .inr (.inr (.inr (.inr (.inl ⟨e5,(Option.some.inj h).symm⟩))))
 rw [if_neg e5] at h
 by_cases e6:k=6
 ·rw [if_pos e6] at h;exact .inr (.inr (.inr (.inr (.inr (.inl ⟨e6,(Option.some.inj h).symm⟩)))))
 rw [if_neg e6] at h
 by_cases e7:k=7
 ·rw [if_pos e7] at h;exact .inr (.inr (.inr (.inr (.inr (.inr (.inl ⟨e7,(Option.some.inj h).symm⟩))))))
 rw [if_neg e7] at h
 by_cases e8:k=8
 ·rw [if_pos e8] at h;exact .inr (.inr (.inr (.inr (.inr (.inr (.inr (.inl ⟨e8,(Option.some.inj h).symm⟩)))))))
 rw [if_neg e8] at h
 by_cases e9:k=9
 ·rw [if_pos e9] at h;exact .inr (.inr (.inr (.inr (.inr (.inr (.inr (.inr (.inl ⟨e9,(Option.some.inj h).symm⟩))))))))
 rw [if_neg e9] at h
 by_cases e10:k=10
 ·rw [if_pos e10] at h;exact .inr (.inr (.inr (.inr (.inr (.inr (.inr (.inr (.inr (.inl ⟨e10,(Option.some.inj h).symm⟩)))))))))
 rw [if_neg e10] at h
 by_cases e11:k=11
 ·rw [if_pos e11] at h;exact .inr (.inr (.inr (.inr (.inr (.inr (.inr (.inr (.inr (.inr (.inl ⟨e11,(Option.some.inj h).symm⟩))))))))))
 rw [if_neg e11] at h
 by_cases e12:k=12
 ·rw [if_pos e12] at h;exact .inr (.inr (.inr (.inr (.inr (.inr (.inr (.inr (.inr (.inr (.inr (.inl ⟨e12,(Option.some.inj h).symm⟩)))))))))))
 rw [if_neg e12] at h
 by_cases e13:k=13
 ·rw [if_pos e13] at h;exact .inr (.inr (.inr (.inr (.inr (.inr (.inr (.inr (.inr (.inr (.inr (.inr (.inl ⟨e13,(Option.some.inj h).symm⟩))))))))))))
 rw [if_neg e13] at h
 by_cases e14:k=14
 ·rw [if_pos e14] at h;exact .inr (.inr (.inr (.inr (.inr (.inr (.inr (.inr (.inr (.inr (.inr (.inr (.inr (.inl ⟨e14,(Option.some.inj h).symm⟩)))))))))))))
 rw [if_neg e14] at h
 by_cases e15:k=15
 ·rw [if_pos e15] at h;exact .inr (.inr (.inr (.inr (.inr (.inr (.inr (.inr (.inr (.inr (.inr (.inr (.inr (.inr (⟨e15,(Option.some.inj h).symm⟩))))))))))))))
 rw [if_neg e15] at h
 cases h
theorem zrL {k:Int} (h:zbO k=none):(k == 1)=false/\(k == 2)=false/\(k == 3)=false/\(k == 4)=false/\(k == 5)=false/\(k == 6)=false/\(k == 7)=false/\(k == 8)=false/\(k == 9)=false/\(k == 10)=false/\(k == 11)=false/\(k == 12)=false/\(k == 13)=false/\(k == 14)=false/\(k == 15)=false:=by
 unfold zbO at h
 by_cases e1:k=1
 ·rw [if_pos e1] at h;cases h
 rw [if_neg e1] at h
 by_cases e2:k=2
 ·rw [if_pos e2] at h;cases h
 rw [if_neg e2] at h
 by_cases e3:k=3
 ·rw [if_pos e3] at h;cases h
 rw [if_neg e3] at h
 by_cases e4:k=4
 ·rw [if_pos e4] at h;cases h
 rw [if_neg e4] at h
 by_cases e5:k=5
 ·rw [if_pos e5] at h;cases h
 rw [if_neg e5] at h
 by_cases e6:k=6
 ·rw [if_pos e6] at h;cases h
 rw [if_neg e6] at h
 by_cases e7:k=7
 ·rw [if_pos e7] at h;cases h
 rw [if_neg e7] at h
 by_cases e8:k=8
 ·rw [if_pos e8] at h;cases h
 rw [if_neg e8] at h
 by_cases e9:k=9
 ·rw [if_pos e9] at h;cases h
 rw [if_neg e9] at h
 by_cases e10:k=10
 ·rw [if_pos e10] at h;cases h
 rw [if_neg e10] at h
 by_cases e11:k=11
 ·rw [if_pos e11] at h;cases h
 rw [if_neg e11] at h
 by_cases e12:k=12
 ·rw [if_pos e12] at h;cases h
 rw [if_neg e12] at h
 by_cases e13:k=13
 ·rw [if_pos e13] at h;cases h
 rw [if_neg e13] at h
 by_cases e14:k=14
 ·rw [if_pos e14] at h;cases h
 rw [if_neg e14] at h
 by_cases e15:k=15
 ·rw [if_pos e15] at h;cases h
 rw [if_neg e15] at h
 exact⟨by simpa using e1,by simpa using e2,by simpa using e3,by simpa using e4,by simpa using e5,by simpa using e6,by simpa using e7,by simpa using e8,by simpa using e9,by simpa using e10,by simpa using e11,by simpa using e12,by simpa using e13,by simpa using e14,by simpa using e15⟩
theorem zuk (w:World):Calls Tryz.prog 259 #[.int .i64 1] w fun e w'=>e = .returned (.tuple #[.agg #[.int .i64 0,.int .i64 1,.int .i64 0],.bool true])/\Below w.heap.size w w':=by
 go_enter Tryz.func259,Tryz.ntmps259
 go_wp2_with fail
 exact bodyPost_ret (v:=.tuple #[.agg #[.int .i64 0,.int .i64 1,.int .i64 0],.bool true]) (by simp [results,Tryz.results259,go_sem]) rfl ⟨rfl,(Below.refl _ _).alloc (Nat.le_refl _) _⟩
theorem zuj (w:World):Calls Tryz.prog 259 #[.int .i64 2] w fun e w'=>e = .returned (.tuple #[.agg #[.int .i64 0,.int .i64 1,.int .i64 0],.bool true])/\Below w.heap.size w w':=by
 go_enter Tryz.func259,Tryz.ntmps259
 go_wp2_with fail
 exact bodyPost_ret (v:=.tuple #[.agg #[.int .i64 0,.int .i64 1,.int .i64 0],.bool true]) (by simp [results,Tryz.results259,go_sem]) rfl ⟨rfl,(Below.refl _ _).alloc (Nat.le_refl _) _⟩
theorem zui (w:World):Calls Tryz.prog 259 #[.int .i64 3] w fun e w'=>e = .returned (.tuple #[.agg #[.int .i64 1,.int .i64 0,.int .i64 0],.bool true])/\Below w.heap.size w w':=by
 go_enter Tryz.func259,Tryz.ntmps259
 go_wp2_with fail
 exact bodyPost_ret (v:=.tuple #[.agg #[.int .i64 1,.int .i64 0,.int .i64 0],.bool true]) (by simp [results,Tryz.results259,go_sem]) rfl ⟨rfl,(Below.refl _ _).alloc (Nat.le_refl _) _⟩
theorem zuh (w:World):Calls Tryz.prog 259 #[.int .i64 4] w fun e w'=>e = .returned (.tuple #[.agg #[.int .i64 2,.int .i64 0,.int .i64 0],.bool true])/\Below w.heap.size w w':=by
 go_enter Tryz.func259,Tryz.ntmps259
 go_wp2_with fail
 exact bodyPost_ret (v:=.tuple #[.agg #[.int .i64 2,.int .i64 0,.int .i64 0],.bool true]) (by simp [results,Tryz.results259,go_sem]) rfl ⟨rfl,(Below.refl _ _).alloc (Nat.le_refl _) _⟩
theorem zug (w:World):Calls Tryz.prog 259 #[.int .i64 5] w fun e w'=>e = .returned (.tuple #[.agg #[.int .i64 1,.int .i64 1,.int .i64 0],.bool true])/\Below w.heap.size w w':=by
 go_enter Tryz.func259,Tryz.ntmps259
 go_wp2_with fail
 exact bodyPost_ret (v:=.tuple #[.agg #[.int .i64 1,.int .i64 1,.int .i64 0],.bool true]) (by simp [results,Tryz.results259,go_sem]) rfl ⟨rfl,(Below.refl _ _).alloc (Nat.le_refl _) _⟩
theorem zuf (w:World):Calls Tryz.prog 259 #[.int .i64 6] w fun e w'=>e = .returned (.tuple #[.agg #[.int .i64 1,.int .i64 0,.int .i64 1],.bool true])/\Below w.heap.size w w':=by
 go_enter Tryz.func259,Tryz.ntmps259
 go_wp2_with fail
 exact bodyPost_ret (v:=.tuple #[.agg #[.int .i64 1,.int .i64 0,.int .i64 1],.bool true]) (by simp [results,Tryz.results259,go_sem]) rfl ⟨rfl,(Below.refl _ _).alloc (Nat.le_refl _) _⟩
theorem zue (w:World):Calls Tryz.prog 259 #[.int .i64 7] w fun e w'=>e = .returned (.tuple #[.agg #[.int .i64 0,.int .i64 0,.int .i64 2],.bool true])/\Below w.heap.size w w':=by
 go_enter Tryz.func259,Tryz.ntmps259
 go_wp2_with fail
 exact bodyPost_ret (v:=.tuple #[.agg #[.int .i64 0,.int .i64 0,.int .i64 2],.bool true]) (by simp [results,Tryz.results259,go_sem]) rfl ⟨rfl,(Below.refl _ _).alloc (Nat.le_refl _) _⟩
theorem zud (w:World):Calls Tryz.prog 259 #[.int .i64 8] w fun e w'=>e = .returned (.tuple #[.agg #[.int .i64 1,.int .i64 0,.int .i64 2],.bool true])/\Below w.heap.size w w':=by
 go_enter Tryz.func259,Tryz.ntmps259
 go_wp2_with fail
 exact bodyPost_ret (v:=.tuple #[.agg #[.int .i64 1,.int .i64 0,.int .i64 2],.bool true]) (by simp [results,Tryz.results259,go_sem]) rfl ⟨rfl,(Below.refl _ _).alloc (Nat.le_refl _) _⟩
theorem zuc (w:World):Calls Tryz.prog 259 #[.int .i64 9] w fun e w'=>e = .returned (.tuple #[.agg #[.int .i64 0,.int .i64 0,.int .i64 3],.bool true])/\Below w.heap.size w w':=by
 go_enter Tryz.func259,Tryz.ntmps259
 go_wp2_with fail
 exact bodyPost_ret (v:=.tuple #[.agg #[.int .i64 0,.int .i64 0,.int .i64 3],.bool true]) (by simp [results,Tryz.results259,go_sem]) rfl ⟨rfl,(Below.refl _ _).alloc (Nat.le_refl _) _⟩
theorem zrI (w:World):Calls Tryz.prog 259 #[.int .i64 10] w fun e w'=>e = .returned (.tuple #[.agg #[.int .i64 1,.int .i64 0,.int .i64 2],.bool true])/\Below w.heap.size w w':=by
 go_enter Tryz.func259,Tryz.ntmps259
 go_wp2_with fail
 exact bodyPost_ret (v:=.tuple #[.agg #[.int .i64 1,.int .i64 0,.int .i64 2],.bool true]) (by simp [results,Tryz.results259,go_sem]) rfl ⟨rfl,(Below.refl _ _).alloc (Nat.le_refl _) _⟩
theorem zrH (w:World):Calls Tryz.prog 259 #[.int .i64 11] w fun e w'=>e = .returned (.tuple #[.agg #[.int .i64 0,.int .i64 0,.int .i64 0],.bool true])/\Below w.heap.size w w':=by
 go_enter Tryz.func259,Tryz.ntmps259
 go_wp2_with fail
 exact bodyPost_ret (v:=.tuple #[.agg #[.int .i64 0,.int .i64 0,.int .i64 0],.bool true]) (by simp [results,Tryz.results259,go_sem]) rfl ⟨rfl,(Below.refl _ _).alloc (Nat.le_refl _) _⟩
theorem zrG (w:World):Calls Tryz.prog 259 #[.int .i64 12] w fun e w'=>e = .returned (.tuple #[.agg #[.int .i64 0,.int .i64 0,.int .i64 2],.bool true])/\Below w.heap.size w w':=by
 go_enter Tryz.func259,Tryz.ntmps259
 go_wp2_with fail
 exact bodyPost_ret (v:=.tuple #[.agg #[.int .i64 0,.int .i64 0,.int .i64 2],.bool true]) (by simp [results,Tryz.results259,go_sem]) rfl ⟨rfl,(Below.refl _ _).alloc (Nat.le_refl _) _⟩
theorem zrF (w:World):Calls Tryz.prog 259 #[.int .i64 13] w fun e w'=>e = .returned (.tuple #[.agg #[.int .i64 2,.int .i64 0,.int .i64 3],.bool true])/\Below w.heap.size w w':=by
 go_enter Tryz.func259,Tryz.ntmps259
 go_wp2_with fail
 exact bodyPost_ret (v:=.tuple #[.agg #[.int .i64 2,.int .i64 0,.int .i64 3],.bool true]) (by simp [results,Tryz.results259,go_sem]) rfl ⟨rfl,(Below.refl _ _).alloc (Nat.le_refl _) _⟩
theorem zrE (w:World):Calls Tryz.prog 259 #[.int .i64 14] w fun e w'=>e = .returned (.tuple #[.agg #[.int .i64 0,.int .i64 2,.int .i64 0],.bool true])/\Below w.heap.size w w':=by
 go_enter Tryz.func259,Tryz.ntmps259
 go_wp2_with fail
 exact bodyPost_ret (v:=.tuple #[.agg #[.int .i64 0,.int .i64 2,.int .i64 0],.bool true]) (by simp [results,Tryz.results259,go_sem]) rfl ⟨rfl,(Below.refl _ _).alloc (Nat.le_refl _) _⟩
theorem zrD (w:World):Calls Tryz.prog 259 #[.int .i64 15] w fun e w'=>e = .returned (.tuple #[.agg #[.int .i64 0,.int .i64 0,.int .i64 3],.bool true])/\Below w.heap.size w w':=by
 go_enter Tryz.func259,Tryz.ntmps259
 go_wp2_with fail
 exact bodyPost_ret (v:=.tuple #[.agg #[.int .i64 0,.int .i64 0,.int .i64 3],.bool true]) (by simp [results,Tryz.results259,go_sem]) rfl ⟨rfl,(Below.refl _ _).alloc (Nat.le_refl _) _⟩
theorem zrC (k:Int) (w:World) (h:zbO k=none):Calls Tryz.prog 259 #[.int .i64 k] w fun e w'=>e = .returned (.tuple #[.agg #[.int .i64 0,.int .i64 0,.int .i64 0],.bool false])/\Below w.heap.size w w':=by
 obtain⟨e1,e2,e3,e4,e5,e6,e7,e8,e9,e10,e11,e12,e13,e14,e15⟩:=zrL h
 clear h
 go_enter Tryz.func259,Tryz.ntmps259
 go_wp2_with fail
 exact bodyPost_ret (v:=.tuple #[.agg #[.int .i64 0,.int .i64 0,.int .i64 0],.bool false]) (by simp [results,Tryz.results259,go_sem]) rfl ⟨rfl,(Below.refl _ _).alloc (Nat.le_refl _) _⟩
theorem zpU (k:Int) (nn nu ns:Nat) (w:World) (h:zbO k=some (nn,nu,ns)):Calls Tryz.prog 259 #[.int .i64 k] w fun e w'=>e = .returned (.tuple #[.agg #[.int .i64 nn,.int .i64 nu,.int .i64 ns],.bool true])/\Below w.heap.size w w':=by
 rcases zda h with⟨rfl,e⟩ | ⟨rfl,e⟩ | ⟨rfl,e⟩ | ⟨rfl,e⟩ | ⟨rfl,e⟩ | ⟨rfl,e⟩ | ⟨rfl,e⟩ | ⟨rfl,e⟩ | ⟨rfl,e⟩ | ⟨rfl,e⟩ | ⟨rfl,e⟩ | ⟨rfl,e⟩ | ⟨rfl,e⟩ | ⟨rfl,e⟩ | ⟨rfl,e⟩
 ·cases e;exact zuk w
 ·cases e;exact zuj w
 ·cases e;exact zui w
 ·cases e;exact zuh w
 ·cases e;exact zug w
 ·cases e;exact zuf w
 ·cases e;exact zue w
 ·cases e;exact zud w
 ·cases e;exact zuc w
 ·cases e;exact zrI w
 ·cases e;exact zrH w
 ·cases e;exact zrG w
 ·cases e;exact zrF w
 ·cases e;exact zrE w
 ·cases e;exact zrD w
end
section
open Go.RowKit
def zaM (k it d:Int):Bool:=
 if k=1 then decide (-999999999<=it) && decide (it<=999999999) else
 if k=2 then decide (it=0) || decide (it=1) else
 if k=5 then decide (1<=it) && decide (it<=999999) else
 if k=14 then decide (1<=d) && decide (d<=999999) && decide (0<=it) && decide (it<=d) else true
end
end Go.Proofs.YtpnjjmcimjlfkaaGreatDoor
