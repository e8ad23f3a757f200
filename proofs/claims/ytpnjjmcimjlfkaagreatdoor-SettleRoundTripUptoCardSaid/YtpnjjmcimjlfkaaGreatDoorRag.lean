/- Texts of this proof, part 7: what the proof uses of them. -/
import Derived.Test.YtpnjjmcimjlfkaaGreatDoorRae
set_option maxRecDepth 100000
set_option maxHeartbeats 64000000
namespace Go.Proofs.YtpnjjmcimjlfkaaGreatDoor
section
open Go Go.RowKit
def zel (r:Nat):Bool:=decide (910<=r) && decide (r<1000)
theorem zkA {r:Nat} (h:zqO r=true):zdq r=true:=by
 simp only [zqO,zdq,Bool.and_eq_true,decide_eq_true_eq] at h ⊢;omega
theorem zwY {r:Nat} (h:zel r=true):zdq r=true:=by
 simp only [zel,zdq,Bool.and_eq_true,decide_eq_true_eq] at h ⊢;omega
def AV.killS (x:AV):AV:=x
def Blk.killS (b:Blk):Option Blk:=some b
structure Lent where
 blks:List (Nat × Option Blk)
 toks:List (Nat × Option Tok)
def zku (L:Lent) (x:Nat × Option Blk):Nat × Option Blk:=(x.1,if (zk L.blks x.1).isSome=true then none else x.2.bind Blk.killS)
def zkt (x:Nat × Option Tok):Nat × Option Tok:=(x.1,if zel x.1=true then none else x.2)
def St.callL (σ:St) (L L':Lent):St:=⟨σ.env.map fun x=>(x.1,x.2.killS),L'.blks++σ.blks.map (zku L),L'.toks++σ.toks.map zkt⟩
theorem zfl {α:Type}:∀ (a b:List (Nat × α)) (r:Nat),zk (a++b) r=match zk a r with
  | some v=>some v
  | none=>zk b r
 | [],b,r=>rfl
 | x :: a,b,r=>by
  simp only [List.cons_append,zk]
  by_cases h:x.1=r
  ·rw [if_pos h,if_pos h]
  ·rw [if_neg h,if_neg h];exact zfl a b r
theorem zkX:∀ (l:List (Nat × AV)) (t:Nat),zk (l.map fun x=>(x.1,x.2.killS)) t=(zk l t).map AV.killS
 | [],t=>rfl
 | x :: l,t=>by
  simp only [List.map_cons,zk]
  split
  ·rfl
  ·exact zkX l t
theorem zkY (L:Lent):∀ (l:List (Nat × Option Blk)) (q:Nat),zk (l.map (zku L)) q=(zk l q).map fun b=>if (zk L.blks q).isSome=true then none else b.bind Blk.killS
 | [],q=>rfl
 | x :: l,q=>by
  simp only [List.map_cons,zku,zk]
  by_cases h:x.1=q
  ·rw [if_pos h,if_pos h,h];rfl
  ·rw [if_neg h,if_neg h];exact zkY L l q
def inN:List Nat->Nat->Bool
 | [],_=>false
 | x :: xs,r=>(x == r) || inN xs r
def AV.lentOk (h:Nat->Bool):AV->Bool
 | .dead | .d _ | .at_ _=>true
 | .box r _=>h r
 | .stk r _ _ _ _=>zel r
 | _=>false
def Blk.lentOk (h:Nat->Bool):Blk->Bool
 | .cell _ cs=>cs.all (AV.lentOk h)
 | .obj _=>true
 | _=>false
theorem Blk.lentOk_mono {h h':Nat->Bool} (hh:∀ r,h r=true->h' r=true) {b:Blk} (hb:b.lentOk h=true):b.lentOk h'=true:=by
 cases b with
 | cell ty cs=>
  rw [Blk.lentOk,List.all_eq_true] at hb ⊢
  intro x hx
  have h1:=hb x hx
  cases x with
  | box r j=>exact hh r h1
  | _=>exact h1
 | _=>exact hb
theorem zww:∀ {l:List Nat} {r:Nat},inN l r=true->r ∈ l
 | x :: xs,r,h=>by
  rw [inN,Bool.or_eq_true,beq_iff_eq] at h
  rcases h with rfl | h
  ·exact .head _
  ·exact .tail _ (zww h)
theorem zkW:∀ (l:List (Nat × Option Tok)) (q:Nat),zk (l.map zkt) q=(zk l q).map fun b=>if zel q=true then none else b
 | [],q=>rfl
 | x :: l,q=>by
  simp only [List.map_cons,zkt,zk]
  by_cases h:x.1=q
  ·rw [if_pos h,if_pos h,h];rfl
  ·rw [if_neg h,if_neg h];exact zkW l q
def Lent.blk (L:Lent) (r:Nat) (b:Blk):Prop:=zk L.blks r=some (some b)
def Lent.has (L:Lent) (r:Nat):Bool:=match zk L.blks r with
 | some (some _)=>true
 | _=>false
theorem Lent.has_blk {L:Lent} {r:Nat} (h:L.has r=true):∃ b,L.blk r b:=by
 unfold Lent.has at h
 unfold Lent.blk
 split at h
 ·rename_i b e;exact⟨b,e⟩
 ·cases h
def Lent.tok (L:Lent) (r:Nat) (k:Tok):Prop:=zk L.toks r=some (some k)
def Lent.tk (L:Lent) (r:Nat):Option Nat:=((zk L.toks r).getD none).map (·.len)
theorem Lent.tk_some {L:Lent} {r n:Nat} (h:L.tk r=some n):∃ k,L.tok r k/\k.len=n:=by
 unfold Lent.tk at h
 unfold Lent.tok
 cases hl:zk L.toks r with
 | none=>rw [hl] at h;simp at h
 | some x=>
  cases x with
  | none=>rw [hl] at h;simp at h
  | some k=>rw [hl] at h;simp at h;exact⟨k,rfl,h⟩
section
variable {P:Program} {A:Base P} {σ:St} {g:Gh} {a:Act} {w:World}
theorem St.get_callL (L L':Lent) (t:Nat):(σ.callL L L').get t=(σ.get t).killS:=by
 unfold St.get St.callL
 rw [zkX]
 cases zk σ.env t with
 | none=>rfl
 | some x=>rfl
theorem zdz {L L':Lent} {q:Nat} {b:Blk} (h:(σ.callL L L').blk q=some b):L'.blk q b\/(zk L.blks q=none/\∃ b',σ.blk q=some b'/\Blk.killS b'=some b):=by
 unfold St.blk St.callL at h
 simp only [zfl,zkY] at h
 unfold Lent.blk
 cases hL:zk L'.blks q with
 | some v=>
  rw [hL] at h
  simp only [Option.getD_some] at h
  left;rw [h]
 | none=>
  rw [hL] at h
  right
  unfold St.blk
  cases hb:zk σ.blks q with
  | none=>rw [hb] at h;simp at h
  | some v=>
   rw [hb] at h
   simp only [Option.map_some,Option.getD_some] at h ⊢
   split at h
   ·cases h
   ·rename_i hn
    cases v with
    | none=>cases h
    | some b'=>exact⟨by simpa using hn,b',rfl,h⟩
theorem zdy {L L':Lent} {q:Nat} {k:Tok} (h:(σ.callL L L').tok q=some k):L'.tok q k\/(zel q=false/\σ.tok q=some k):=by
 unfold St.tok St.callL at h
 simp only [zfl,zkW] at h
 unfold Lent.tok
 cases hL:zk L'.toks q with
 | some v=>
  rw [hL] at h
  simp only [Option.getD_some] at h
  left;rw [h]
 | none=>
  rw [hL] at h
  right
  unfold St.tok
  cases hb:zk σ.toks q with
  | none=>rw [hb] at h;simp at h
  | some v=>
   rw [hb] at h
   simp only [Option.map_some,Option.getD_some] at h ⊢
   split at h
   ·cases h
   ·rename_i hn;exact⟨by simpa using hn,h⟩
structure LentOk (P:Program) (F:Nat->Nat->Prop) (m:Nat->Nat) (tv:Nat->Value) (w:World) (L:Lent):Prop where
 nm:∀ r b,L.blk r b->zqO r=true
 tnm:∀ r k,L.tok r k->zel r=true/\k.ex≠none
 lo:∀ r b,L.blk r b->P.globals.size<=m r
 tlo:∀ r k x,L.tok r k->(tv r).ownBlock=some x->P.globals.size<=x
 at_:∀ r b,L.blk r b->zek ⟨m,tv,F⟩ L.tk w (m r) b
 tat:∀ r k,L.tok r k->∃ xs,w.ownsRow 0 k.ty k.st (tv r) k.n xs/\∀ rows,k.ex=some rows->(∀ i (h:i<rows.length),rows[i].length=k.st)/\∀ i (h:i<rows.length) j (hj:j<rows[i].length),∃ u,xs[i * k.st+j]? = some u/\Reads w F rows[i][j] u
 nF:∀ r b,L.blk r b->∀ o,¬ F (m r) o
 tF:∀ r k x,L.tok r k->(tv r).ownBlock=some x->∀ o,¬ F x o
 inj:∀ r b r' b',L.blk r b->L.blk r' b'->r≠r'->m r≠m r'
 tokblk:∀ r k r' b x,L.tok r k->L.blk r' b->(tv r).ownBlock=some x->x≠m r'
 toktok:∀ r k r' k' x,L.tok r k->L.tok r' k'->r≠r'->(tv r).ownBlock=some x->(tv r').ownBlock≠some x
def Lent.at (L:Lent) (m:Nat->Nat) (tv:Nat->Value) (x:Nat):Prop:=(∃ r b,L.blk r b/\x=m r)\/∃ r k,L.tok r k/\(tv r).ownBlock=some x
inductive Out where
 | ret (res:AV) (L:Lent)
 | pan (v:Value)
def zbA (F:Nat->Nat->Prop) (w w':World) (m:Nat->Nat) (tv:Nat->Value) (L:Lent):Nat->Nat->Prop:=fun b o=>F b o\/(w.heap.size<=b/\b<w'.heap.size/\¬ L.at m tv b)
def zI (P:Program) (f:FuncId) (args:List AV) (L:Lent) (post:Out->Prop):Prop:=
 zcQ P f/\∀ (F:Nat->Nat->Prop) (w:World) (vs:List Value) (m:Nat->Nat) (tv:Nat->Value),(∀ b o,F b o->b<w.heap.size)->Glob P w->LentOk P F m tv w L->args.length=vs.length ->
  (∀ i (hi:i<args.length) (hv:i<vs.length),Has ⟨m,tv,F⟩ L.tk w args[i] vs[i]) ->
  Calls P f vs.toArray w fun e w'=>BelowX w.heap.size (L.at m tv) w w' /\
   ((∃ v res L' m' tv',e = .returned v/\post (.ret res L')/\res.closed=true/\(∀ r b,L'.blk r b->b.lentOk L.has=true)/\(∀ r v,zk L'.blks r=some v->L.has r=true)/\(∀ r v,zk L'.toks r=some v->zel r=true)/\zch w' (zbA F w w' m' tv' L') res v/\LentOk P (zbA F w w' m' tv' L') m' tv' w' L' /\
     (∀ r,L.has r=true->m' r=m r)/\(∀ r k',L'.tok r k'->∃ k,L.tok r k/\k.len<=k'.len/\(k.len=k'.len->tv' r=tv r))/\∀ x,L'.at m' tv' x->L.at m tv x\/w.heap.size<=x) \/
    ∃ pv,e = .panicked [{ v:=pv,recovered:=false }]/\post (.pan pv))
def AV.lbox:AV->Bool
 | .box r _=>zdq r
 | _=>false
def AV.lboxD:AV->Bool
 | .box r _=>zdq r
 | .d _=>true
 | _=>false
def AV.lboxF:AV->Bool
 | .box r _=>zdq r
 | .fn _ cs=>cs.all AV.lboxD
 | .bnd _ x=>x.lbox
 | _=>false
theorem Has.lboxF {tk tk':Nat->Option Nat} {x:AV} {v:Value} (h:Has g tk w x v) (hx:x.lboxF=true):Has g tk' w x v:=by
 have key:∀ (x:AV) (v:Value),x.lboxD=true->Has g tk w x v->Has g tk' w x v:=fun x v hx h=>by
  cases h with
  | box r j=>exact .box r j
  | d h=>exact .d h
  | _=>cases hx
 cases h with
 | box r j=>exact .box r j
 | fn f cs vs hl hh=>exact .fn f cs vs hl fun i hi hv=>key _ _ (List.all_eq_true.1 hx _ (List.getElem_mem hi)) (hh i hi hv)
 | bnd f y u hy=>exact .bnd f y u (key _ _ (by
   cases y <;> first | exact hx | cases hx) hy)
 | _=>cases hx
def AV.closeX (x:AV):Option AV:=if x.lboxF=true then some x else match x.close with
 | some y=>if y.closed=true then some y else none
 | none=>none
def zbk:List AV->Option (List AV)
 | []=>some []
 | x :: xs=>match x.closeX,zbk xs with
  | some y,some ys=>some (y :: ys)
  | _,_=>none
theorem zjN:∀ {xs ys:List AV},zbk xs=some ys->xs.length=ys.length/\∀ i (hi:i<xs.length) (hy:i<ys.length),xs[i].closeX=some ys[i]
 | [],ys,h=>by cases h;simp
 | x :: xs,ys,h=>by
  unfold zbk at h
  split at h
  ·rename_i y ys' h1 h2
   cases h
   obtain⟨h3,h4⟩:=zjN h2
   refine⟨by simp [h3],fun i hi hy=>?_⟩
   cases i with
   | zero=>simpa using h1
   | succ i=>simpa using h4 i (by simpa using hi) (by simpa using hy)
  ·cases h
theorem Has.closeX {tk tk':Nat->Option Nat} {x y:AV} {v:Value} (h:Has g tk w x v) (hx:x.closeX=some y):Has g tk' w y v:=by
 unfold AV.closeX at hx
 split at hx
 ·rename_i hl;cases hx;exact h.lboxF hl
 ·split at hx
  ·rename_i y' hy
   split at hx
   ·rename_i hc
    cases hx
    have h1:=h.close hy
    unfold zch at h1
    exact h1.shut hc fun _ _ h=>h
   ·cases hx
  ·cases hx
theorem znJ {L L':Lent} {q n:Nat} (h:(σ.callL L L').tk q=some n):L'.tk q=some n\/(zel q=false/\σ.tk q=some n):=by
 unfold St.tk at h
 cases ht:(σ.callL L L').tok q with
 | none=>rw [ht] at h;cases h
 | some k=>
  rw [ht] at h
  rcases zdy ht with h1 | ⟨h1,h2⟩
  ·left
   unfold Lent.tok at h1
   unfold Lent.tk
   rw [h1];exact h
  ·right
   refine⟨h1,?_⟩
   unfold St.tk
   rw [h2];exact h
structure Lends (σ:St) (L:Lent):Prop where
 blk:∀ r b,L.blk r b->σ.blk r=some b
 bnm:∀ r b,L.blk r b->zqO r=true
 tok:∀ r k,L.tok r k->σ.tok r=some k
 tnm:∀ r k,L.tok r k->zel r=true/\k.ex≠none
theorem Ok.at_lo (hk:Ok A σ g a w) {L:Lent} (hL:Lends σ L) {x:Nat} (h:L.at g.m g.tv x):A.B<=x\/A.X x:=by
 rcases h with⟨r,b,h1,rfl⟩ | ⟨r,k,h1,h2⟩
 ·exact(hk.blk r b (hL.blk r b h1)).1.imp id fun h=>h.1
 ·obtain⟨xs,h3,h4,_⟩:=hk.tok r k (hL.tok r k h1)
  exact(h4 x h2).imp id fun h=>h.1
theorem Ok.at_F (hk:Ok A σ g a w) {L:Lent} (hL:Lends σ L) {x o:Nat} (hf:g.F x o):¬ L.at g.m g.tv x:=by
 rintro (⟨r,b,h1,rfl⟩ | ⟨r,k,h1,h2⟩)
 ·exact hk.Fblk r b (hL.blk r b h1) o hf
 ·exact(hL.tnm r k h1).2 (hk.Ftok r k x (hL.tok r k h1) h2 o hf).1
theorem Ok.at_blk (hk:Ok A σ g a w) {L:Lent} (hL:Lends σ L) {q:Nat} {b:Blk} (hq:zk L.blks q=none) (hb:σ.blk q=some b):¬ L.at g.m g.tv (g.m q):=by
 rintro (⟨r,b',h1,e⟩ | ⟨r,k,h1,h2⟩)
 ·exact hk.inj q b r b' hb (hL.blk r b' h1) (fun h=>by subst h;unfold Lent.blk at h1;rw [hq] at h1;cases h1) e
 ·exact hk.tokblk r k q b (g.m q) (hL.tok r k h1) hb h2 rfl
theorem Ok.at_tok (hk:Ok A σ g a w) {L:Lent} (hL:Lends σ L) {q x:Nat} {k:Tok} (hq:zel q=false) (hb:σ.tok q=some k) (hx:(g.tv q).ownBlock=some x):¬ L.at g.m g.tv x:=by
 rintro (⟨r,b',h1,e⟩ | ⟨r,k',h1,h2⟩)
 ·exact hk.tokblk q k r b' x hb (hL.blk r b' h1) hx e
 ·exact hk.toktok q k r k' x hb (hL.tok r k' h1) (fun h=>by rw [h,(hL.tnm r k' h1).1] at hq;cases hq) hx h2
theorem Ok.callL (hk:Ok A σ g a w) {L L':Lent} (hL:Lends σ L) {w':World} {m':Nat->Nat} {tv':Nat->Value} (hbx:BelowX w.heap.size (L.at g.m g.tv) w w')
  (hok:∀ r b,L'.blk r b->b.lentOk L.has=true) (hin:∀ r v,zk L'.blks r=some v->L.has r=true) (hl:LentOk P (zbA g.F w w' m' tv' L') m' tv' w' L') (hfix:∀ r,L.has r=true->m' r=g.m r) (hver:∀ r k',L'.tok r k'->∃ k,L.tok r k/\k.len<=k'.len/\(k.len=k'.len->tv' r=g.tv r)) (hat:∀ x,L'.at m' tv' x->L.at g.m g.tv x\/w.heap.size<=x) :
  Ok A (σ.callL L L') ⟨g.m,fun r=>if zel r=true then tv' r else g.tv r,zbA g.F w w' m' tv' L'⟩ a w':=by
 have hB:=hk.hB
 have hs:=hbx.size
 have hsame:∀ b,b<w.heap.size->¬ L.at g.m g.tv b->w'.heap[b]? = w.heap[b]?:=fun b h1 h2=>hbx.block b h1 h2
 have hFs:∀ b o,g.F b o->w'.heap[b]? = w.heap[b]?:=fun b o hf=>hsame b (hk.Fb b o hf) (hk.at_F hL hf)
 have hml:∀ r,L.has r=true->g.m r=m' r:=fun r h=>(hfix r h).symm
 have hmq:∀ r b,L'.blk r b->g.m r=m' r:=fun r b h=>hml r (hin r _ h)
 have htl:∀ r,zel r=true->(if zel r=true then tv' r else g.tv r)=tv' r:=fun r h=>if_pos h
 have htn:∀ r,zel r=false->(if zel r=true then tv' r else g.tv r)=g.tv r:=fun r h=>if_neg (by rw [h];decide)
 have htk:∀ r n,L'.tk r=some n->zel r=true:=fun r n h=>by
  obtain⟨k,h1,_⟩:=Lent.tk_some h
  exact(hl.tnm r k h1).1
 have e:Ext (fun _=>False) g σ.tk w ⟨g.m,fun r=>if zel r=true then tv' r else g.tv r,zbA g.F w w' m' tv' L'⟩ (σ.callL L L').tk w':=⟨fun _ _ h=>.inl h,fun b o u hf hu=>(zaZ (hFs b o hf)).trans hu,fun r _=>rfl,fun q _ n' hn'=>by
       rcases znJ hn' with h | ⟨h1,h2⟩
       ·obtain⟨k',h3,h4⟩:=Lent.tk_some h
        obtain⟨k,h5,h6,h7⟩:=hver q k' h3
        refine⟨k.len,by unfold St.tk;rw [hL.tok q k h5];rfl,by omega,fun h8=>?_⟩
        exact(htl q (htk q n' h)).trans (h7 (by omega))
       ·exact⟨n',h2,Nat.le_refl _,fun _=>htn q h1⟩,fun b es c hf hu=>(hFs b 0 hf).trans hu⟩
 have hbel:BelowX A.B A.X w w':=⟨hbx.os,hbx.tape,hbx.output,hbx.size,fun k hk1 hk2=>hsame k (by omega) fun h=>by
  rcases hk.at_lo hL h with h | h
  ·omega
  ·exact hk2 h⟩
 have hat':∀ x,L'.at m' tv' x->A.B<=x\/A.X x:=fun x hx=>by
  rcases hat x hx with h | h
  ·exact hk.at_lo hL h
  ·left;omega
 refine⟨hk.below.trans hbel,by omega,fun b o h=>.inl (hk.F0 b o h),fun b o hf=>?_,fun b o hf=>?_,hk.defers,hk.size,fun t=>?_,fun q b hq=>?_,fun q b hq o hf=>?_,fun q b1 q' b2 hq hq' hne=>?_,fun q k1 hq=>?_,fun q k1 x hq hx o hf=>?_,fun q k1 q' b x hq hq' hx=>?_,fun q k1 q' k2 x hq hq' hne hx=>?_,fun q hq=>?_,fun q n0 h0 n hn=>?_⟩
 ·rcases hf with h | h
  ·exact hk.Fn b o h
  ·right;omega
 ·rcases hf with h | h
  ·have:=hk.Fb b o h;omega
  ·exact h.2.1
 ·rw [St.get_callL]
  exact(hk.env t).mono e fun _ _=>id
 ·rcases zdz hq with h | ⟨h1,b',h2,h3⟩
  ·have hn:=hl.nm q b h
   simp only [hmq q b h]
   refine⟨(hat' _ (.inl ⟨q,b,h,rfl⟩)).imp id fun h=>⟨h,by unfold zho;rw [zkA hn,Bool.or_true]⟩,?_⟩
   have hb:=hl.at_ q b h
   have hc:=hok q b h
   cases b with
   | cell ty cs=>
    obtain⟨arr,c1,c2,c3⟩:=hb
    refine⟨arr,c1,c2,fun j hj hj'=>?_⟩
    have key:∀ (x:AV) (u:Value),x.lentOk L.has=true->Has ⟨m',tv',zbA g.F w w' m' tv' L'⟩ L'.tk w' x u->Has ⟨g.m,fun r=>if zel r=true then tv' r else g.tv r,zbA g.F w w' m' tv' L'⟩ (σ.callL L L').tk w' x u:=fun x u hx hh=>by
     cases hh with
     | dead=>exact .dead _
     | d h=>exact .d h
     | at_ cs b o h=>exact .at_ cs b o h
     | box r j=>
      have:=Has.box (g:=⟨g.m,fun r=>if zel r=true then tv' r else g.tv r,zbA g.F w w' m' tv' L'⟩) (tk:=(σ.callL L L').tk) (w:=w') r j
      simp only [hml r hx] at this
      exact this
     | stk r st ver off len p cap hc hp h=>
      refine .stk r st ver off len p cap hc hp fun n hn=>?_
      simp only [htl r hx]
      rcases znJ hn with h' | ⟨h1,_⟩
      ·exact h n h'
      ·rw [show zel r=true from hx] at h1;cases h1
     | _=>simp [AV.lentOk] at hx
    exact key _ _ (List.all_eq_true.1 hc _ (List.getElem_mem hj)) (c3 j hj hj')
   | obj o=>exact hb
   | _=>simp [Blk.lentOk] at hc
  ·obtain⟨h4,h5⟩:=hk.blk q b' h2
   have h6:w'.heap[g.m q]? = w.heap[g.m q]?:=hsame _ h5.lt (hk.at_blk hL h1 h2)
   cases h3
   exact⟨h4,h5.mono e (fun _ _=>id) h6⟩
 ·rcases zdz hq with h | ⟨h1,b',h2,h3⟩
  ·simp only [hmq q b h] at hf
   exact hl.nF q b h o hf
  ·rcases hf with h | h
   ·exact hk.Fblk q b' h2 o h
   ·have:=(hk.blk q b' h2).2.lt;have h5:w.heap.size<=g.m q:=h.1;omega
 ·rcases zdz hq with h | ⟨h1,c1,h2,_⟩
  ·rcases zdz hq' with h' | ⟨h1',c2,h2',_⟩
   ·simp only [hmq q b1 h,hmq q' b2 h']
    exact hl.inj q b1 q' b2 h h' hne
   ·simp only [hmq q b1 h]
    rcases hat _ (.inl ⟨q,b1,h,rfl⟩) with h4 | h4
    ·exact fun e=>hk.at_blk hL h1' h2' (e ▸ h4)
    ·have:=(hk.blk q' c2 h2').2.lt;omega
  ·rcases zdz hq' with h' | ⟨h1',c2,h2',_⟩
   ·simp only [hmq q' b2 h']
    rcases hat _ (.inl ⟨q',b2,h',rfl⟩) with h4 | h4
    ·exact fun e=>hk.at_blk hL h1 h2 (e ▸ h4)
    ·have:=(hk.blk q c1 h2).2.lt;omega
   ·exact hk.inj q c1 q' c2 h2 h2' hne
 ·rcases zdy hq with h | ⟨h1,h2⟩
  ·obtain⟨h3,h4⟩:=hl.tnm q k1 h
   simp only [htl q h3]
   obtain⟨xs,h5,h6⟩:=hl.tat q k1 h
   exact⟨xs,h5,fun x hx=>(hat' x (.inr ⟨q,k1,h,hx⟩)).imp id fun h=>⟨h,h4⟩,h6⟩
  ·simp only [htn q h1]
   exact(hk.tok q k1 h2).mono e fun x hx=>hsame x ((hk.tok q k1 h2).lt hx) (hk.at_tok hL h1 h2 hx)
 ·rcases zdy hq with h | ⟨h1,h2⟩
  ·simp only [htl q (hl.tnm q k1 h).1] at hx
   exact absurd hf (hl.tF q k1 x h hx o)
  ·simp only [htn q h1] at hx
   rcases hf with h | h
   ·exact hk.Ftok q k1 x h2 hx o h
   ·have:=(hk.tok q k1 h2).lt hx;omega
 ·rcases zdy hq with h | ⟨h1,h2⟩
  ·have hn:=(hl.tnm q k1 h).1
   simp only [htl q hn] at hx
   rcases zdz hq' with h' | ⟨h1',b',h2',_⟩
   ·simp only [hmq q' b h']
    exact hl.tokblk q k1 q' b x h h' hx
   ·rcases hat _ (.inr ⟨q,k1,h,hx⟩) with h4 | h4
    ·exact fun e=>hk.at_blk hL h1' h2' (e ▸ h4)
    ·have h5:g.m q'<w.heap.size:=(hk.blk q' b' h2').2.lt
     exact fun e=>by have e2:x=g.m q':=e;omega
  ·simp only [htn q h1] at hx
   rcases zdz hq' with h' | ⟨h1',b',h2',_⟩
   ·simp only [hmq q' b h']
    rcases hat _ (.inl ⟨q',b,h',rfl⟩) with h4 | h4
    ·exact fun e=>hk.at_tok hL h1 h2 hx (e ▸ h4)
    ·have:=(hk.tok q k1 h2).lt hx;omega
   ·exact hk.tokblk q k1 q' b' x h2 h2' hx
 ·rcases zdy hq with h | ⟨h1,h2⟩
  ·have hn:=(hl.tnm q k1 h).1
   simp only [htl q hn] at hx
   rcases zdy hq' with h' | ⟨h1',h2'⟩
   ·simp only [htl q' (hl.tnm q' k2 h').1]
    exact hl.toktok q k1 q' k2 x h h' hne hx
   ·simp only [htn q' h1']
    intro hx'
    rcases hat _ (.inr ⟨q,k1,h,hx⟩) with h4 | h4
    ·exact hk.at_tok hL h1' h2' hx' h4
    ·have:=(hk.tok q' k2 h2').lt hx';omega
  ·simp only [htn q h1] at hx
   rcases zdy hq' with h' | ⟨h1',h2'⟩
   ·simp only [htl q' (hl.tnm q' k2 h').1]
    intro hx'
    rcases hat _ (.inr ⟨q',k2,h',hx'⟩) with h4 | h4
    ·exact hk.at_tok hL h1 h2 hx h4
    ·have:=(hk.tok q k1 h2).lt hx;omega
   ·simp only [htn q' h1']
    exact hk.toktok q k1 q' k2 x h2 h2' hne hx
 ·exact hk.fix q hq
 ·rcases znJ hn with h | ⟨h1,h2⟩
  ·obtain⟨k',h3,h4⟩:=Lent.tk_some h
   obtain⟨k,h5,h6,h7⟩:=hver q k' h3
   have h8:=hk.hist q n0 h0 k.len (by unfold St.tk;rw [hL.tok q k h5];rfl)
   refine⟨by omega,fun h9=>?_⟩
   exact(htl q (htk q n h)).trans ((h7 (by omega)).trans (h8.2 (by omega)))
  ·have h3:=hk.hist q n0 h0 n h2
   exact⟨h3.1,fun h4=>(htn q h1).trans (h3.2 h4)⟩
theorem Ok.nought (hk:Ok A σ g a w) {w':World} (hbx:BelowX A.B A.X w w') (hs:w.heap.size<=w'.heap.size):Ok A ⟨[],[],[]⟩ ⟨g.m,g.tv,A.F0⟩ a w':=by
 have hB:=hk.hB
 refine⟨hk.below.trans hbx,by omega,fun _ _ h=>h,fun _ _ h=>.inl h,fun b o hf=>by have:=hk.Fb b o (hk.F0 b o hf);omega,hk.defers,hk.size,fun t=>.dead _,fun r b h=>by simp [St.blk,zk] at h,fun r b h=>by simp [St.blk,zk] at h,fun r b r' b' h=>by simp [St.blk,zk] at h,fun r k h=>by simp [St.tok,zk] at h,fun r k x h=>by simp [St.tok,zk] at h,fun r k r' b x h=>by simp [St.tok,zk] at h,fun r k r' k' x h=>by simp [St.tok,zk] at h,hk.fix,fun r n0 _ n hn=>by simp [St.tk,St.tok,zk] at hn⟩
theorem zkT {o:Oper} {f:FuncId} {as0 asL:List AV} {L:Lent} {post:Out->Prop} (hrun:zcQ P f->∃ vs:List Value,(execOp a.eval o).run P w = .ok (.enter f vs.toArray) w/\as0.length=vs.length/\∀ i (hi:i<as0.length) (hv:i<vs.length),Has g σ.tk w as0[i] vs[i]) (ha:zbk as0=some asL) (hc:zI P f asL L post) (hL:Lends σ L) (hk:Ok A σ g a w) (Kn:Act->World->Prop) (Q:Exit->Act->World->Prop)
  (hr:∀ res L' g' v w',post (.ret res L')->Ok A (σ.callL L L') g' a w'->Has g' (σ.callL L L').tk w' res v->Kn (a.put o.dst v) w') (hpn:∀ pv g' w',post (.pan pv)->Ok A ⟨[],[],[]⟩ g' a w'->Q (.panic [{ v:=pv,recovered:=false }]) a w'):wpE A o a w Kn Q:=by
 obtain⟨hen,hcon⟩:=hc
 obtain⟨hl,hg⟩:=zjN ha
 obtain⟨vs,hr',hlen',hvs⟩:=hrun hen
 have hlen:vs.length=asL.length:=by omega
 have e:Ext (fun _=>False) g σ.tk w ⟨g.m,g.tv,g.F⟩ L.tk w:=⟨fun _ _ h=>h,fun _ _ _ _ h=>h,fun _ _=>rfl,fun r _ n' hn'=>by
  obtain⟨k,h1,h2⟩:=Lent.tk_some hn'
  refine⟨n',?_,Nat.le_refl _,fun _=>rfl⟩
  unfold St.tk
  rw [hL.tok r k h1,<- h2];rfl,fun _ _ _ _ h=>h⟩
 have hlent:LentOk P g.F g.m g.tv w L:=⟨hL.bnm,hL.tnm,fun r b hr=>(hk.blk r b (hL.blk r b hr)).1.elim (fun h=>Nat.le_trans A.loB h) fun h=>A.loX _ h.1,fun r k x hr hx=>(hk.at_lo hL (.inr ⟨r,k,hr,hx⟩)).elim (fun h=>Nat.le_trans A.loB h) (A.loX _),
  fun r b hr=>(hk.blk r b (hL.blk r b hr)).2.mono e (fun _ _=>id) rfl,fun r k hr=>by
   obtain⟨xs,h1,_,h3⟩:=hk.tok r k (hL.tok r k hr)
   exact⟨xs,h1,h3⟩,fun r b hr=>hk.Fblk r b (hL.blk r b hr),fun r k x hr hx o hf=>hk.at_F hL hf (.inr ⟨r,k,hr,hx⟩),fun r b r' b' h h'=>hk.inj r b r' b' (hL.blk r b h) (hL.blk r' b' h'),
  fun r k r' b x h h'=>hk.tokblk r k r' b x (hL.tok r k h) (hL.blk r' b h'),fun r k r' k' x h h'=>hk.toktok r k r' k' x (hL.tok r k h) (hL.tok r' k' h')⟩
 refine zcC hr' ?_
 refine(hcon g.F w vs g.m g.tv hk.Fb (A.glob w hk.below) hlent hlen.symm (fun i hi hv=>?_)).mono ?_
 ·have hi':i<as0.length:=by omega
  exact Has.closeX (g:=g) (tk:=σ.tk) (hvs i hi' hv) (hg i hi' hi)
 ·rintro e w' ⟨hbx,h⟩
  rcases h with⟨v,res,L',m',tv',rfl,hpost,hres,hok,hin,_,hv,hl',hfix,hver,hat⟩ | ⟨pv,rfl,hpost⟩
  ·have h2:=hk.callL hL hbx hok hin hl' hfix hver hat
   exact hr res L' _ v w' hpost h2 (hv.open hres (fun _ _ h=>h))
  ·refine hpn pv _ w' hpost (hk.nought ⟨hbx.os,hbx.tape,hbx.output,hbx.size,fun k hk1 hk2=>hbx.block k (by have:=hk.hB;omega) fun h=>?_⟩ hbx.size)
   rcases hk.at_lo hL h with h | h
   ·omega
   ·exact hk2 h
theorem zmL {o:Oper} {f:FuncId} {c:Call} {p:Operand} {cs asL:List AV} {L:Lent} {post:Out->Prop} (ho:o.op = .call c) (hp:c.callee = .value p) (hf:σ.eval p = .fn f cs) (ha:zbk (c.args.toList.map σ.eval++cs)=some asL) (hc:zI P f asL L post) (hL:Lends σ L) (hk:Ok A σ g a w) (Kn:Act->World->Prop) (Q:Exit->Act->World->Prop)
  (hr:∀ res L' g' v w',post (.ret res L')->Ok A (σ.callL L L') g' a w'->Has g' (σ.callL L L').tk w' res v->Kn (a.put o.dst v) w') (hpn:∀ pv g' w',post (.pan pv)->Ok A ⟨[],[],[]⟩ g' a w'->Q (.panic [{ v:=pv,recovered:=false }]) a w'):wpE A o a w Kn Q:=by
 refine zkT (fun hen=>?_) ha hc hL hk Kn Q hr hpn
 have hpe:=hk.eval p
 rw [hf] at hpe
 obtain⟨vs,hv,hvl,hvs⟩:=hpe.fn_eq
 refine⟨c.args.toList.map a.eval++vs,?_,by simp [hvl],fun i hi hv=>?_⟩
 ·simp only [execOp,ho,resolve,hp,hv,Deferred.ofValue,Sem.run_bind,Sem.run_pure,Result.andThen_ok,invoke]
  rw [zaL hen]
  have he:#[]++c.args.map a.eval++vs.toArray=(c.args.toList.map a.eval++vs).toArray:=by
   apply Array.ext';simp
  rw [he]
 ·rw [List.getElem_append,List.getElem_append]
  simp only [List.length_map]
  by_cases hlt:i<c.args.toList.length
  ·rw [dif_pos hlt,dif_pos hlt,List.getElem_map,List.getElem_map];exact hk.eval _
  ·rw [dif_neg hlt,dif_neg hlt]
   exact hvs _ _ _
theorem zsx {o:Oper} {f:FuncId} {c:Call} {p:Operand} {x:AV} {asL:List AV} {L:Lent} {post:Out->Prop} (ho:o.op = .call c) (hp:c.callee = .value p) (hf:σ.eval p = .bnd f x) (ha:zbk (x :: c.args.toList.map σ.eval)=some asL) (hc:zI P f asL L post) (hL:Lends σ L) (hk:Ok A σ g a w) (Kn:Act->World->Prop) (Q:Exit->Act->World->Prop)
  (hr:∀ res L' g' v w',post (.ret res L')->Ok A (σ.callL L L') g' a w'->Has g' (σ.callL L L').tk w' res v->Kn (a.put o.dst v) w') (hpn:∀ pv g' w',post (.pan pv)->Ok A ⟨[],[],[]⟩ g' a w'->Q (.panic [{ v:=pv,recovered:=false }]) a w'):wpE A o a w Kn Q:=by
 refine zkT (fun hen=>?_) ha hc hL hk Kn Q hr hpn
 have hpe:=hk.eval p
 rw [hf] at hpe
 obtain⟨v,hv,hx⟩:=hpe.bnd_eq
 refine⟨v :: c.args.toList.map a.eval,?_,by simp,fun i hi hv=>?_⟩
 ·simp only [execOp,ho,resolve,hp,hv,Deferred.ofValue,Sem.run_bind,Sem.run_pure,Result.andThen_ok,invoke]
  rw [zaL hen]
  have he:#[v]++c.args.map a.eval++#[]=(v :: c.args.toList.map a.eval).toArray:=by
   apply Array.ext';simp
  rw [he]
 ·cases i with
  | zero=>exact hx
  | succ i=>simpa using hk.eval _
theorem zuo {all:List Oper} {o:Oper} {rest:List Oper} {f:FuncId} {c:Call} {p:Operand} {cs asL:List AV} {L:Lent} {post:Out->Prop} {K:Exit->St->Prop} (ho:o.op = .call c) (hp:c.callee = .value p) (hf:σ.eval p = .fn f cs) (ha:zbk (c.args.toList.map σ.eval++cs)=some asL) (hc:zI P f asL L post)
  (hL:Lends σ L) (hd:zaf A.N o=true)
  (hr:∀ res L',post (.ret res L')->zgV P A all rest ((σ.callL L L').put o.dst res) K) (hpn:∀ pv,post (.pan pv)->K (.panic [{ v:=pv,recovered:=false }]) ⟨[],[],[]⟩):zkI P A all o rest σ K:=fun _g _a _w hk=>
 zmL ho hp hf ha hc hL hk _ _ (fun res L' _g' _v w' hpost h1 h2=>hr res L' hpost _ _ w' (h1.put o.dst (zaO hd) h2)) fun pv _g' _w' hpost h1=>⟨⟨[],[],[]⟩,_,hpn pv hpost,h1⟩
theorem zrN {all:List Oper} {o:Oper} {rest:List Oper} {f:FuncId} {c:Call} {p:Operand} {x:AV} {asL:List AV} {L:Lent} {post:Out->Prop} {K:Exit->St->Prop} (ho:o.op = .call c) (hp:c.callee = .value p) (hf:σ.eval p = .bnd f x) (ha:zbk (x :: c.args.toList.map σ.eval)=some asL) (hc:zI P f asL L post)
  (hL:Lends σ L) (hd:zaf A.N o=true)
  (hr:∀ res L',post (.ret res L')->zgV P A all rest ((σ.callL L L').put o.dst res) K) (hpn:∀ pv,post (.pan pv)->K (.panic [{ v:=pv,recovered:=false }]) ⟨[],[],[]⟩):zkI P A all o rest σ K:=fun _g _a _w hk=>
 zsx ho hp hf ha hc hL hk _ _ (fun res L' _g' _v w' hpost h1 h2=>hr res L' hpost _ _ w' (h1.put o.dst (zaO hd) h2)) fun pv _g' _w' hpost h1=>⟨⟨[],[],[]⟩,_,hpn pv hpost,h1⟩
def St.lends (σ:St) (bs ks:List Nat):Lent:=⟨zgP σ.blk bs,zgP σ.tok ks⟩
def zcy (σ:St) (bs ks:List Nat):Bool:=bs.all (fun r=>zqO r && match σ.blk r with | some b=>b.lentOk (inN bs) | none=>true) && ks.all (fun r=>zel r && match σ.tok r with | some k=>k.ex.isSome | none=>true)
theorem zbP {α:Type} (f:Nat->α):∀ (ts:List Nat) (t:Nat) (x:α),zk (zgP f ts) t=some x->t ∈ ts/\x=f t
 | [],_,_,h=>by cases h
 | u :: ts,t,x,h=>by
  unfold zgP zk at h
  by_cases e:u=t
  ·subst e;simp at h;exact⟨.head _,h.symm⟩
  ·rw [if_neg e] at h
   have:=zbP f ts t x h
   exact⟨.tail _ this.1,this.2⟩
theorem zpf {bs ks:List Nat} {r:Nat} {b:Blk} (h:(σ.lends bs ks).blk r b):r ∈ bs/\σ.blk r=some b:=by
 have:=zbP _ _ _ _ h
 exact⟨this.1,this.2.symm⟩
theorem zpe {bs ks:List Nat} {r:Nat} {b:Tok} (h:(σ.lends bs ks).tok r b):r ∈ ks/\σ.tok r=some b:=by
 have:=zbP _ _ _ _ h
 exact⟨this.1,this.2.symm⟩
theorem zde {bs ks:List Nat} (h:zcy σ bs ks=true):Lends σ (σ.lends bs ks)/\∀ r b,(σ.lends bs ks).blk r b->b.lentOk (inN bs)=true:=by
 unfold zcy at h
 rw [Bool.and_eq_true,List.all_eq_true,List.all_eq_true] at h
 have h1:∀ r b,(σ.lends bs ks).blk r b->zqO r=true/\b.lentOk (inN bs)=true:=fun r b hb=>by
  obtain⟨h2,h3⟩:=zpf hb
  have:=h.1 r h2
  simp only [h3,Bool.and_eq_true] at this
  exact this
 refine⟨⟨fun r b hb=>(zpf hb).2,fun r b hb=>(h1 r b hb).1,fun r k hb=>(zpe hb).2,fun r k hb=>?_⟩,fun r b hb=>(h1 r b hb).2⟩
 obtain⟨h2,h3⟩:=zpe hb
 have:=h.2 r h2
 simp only [h3,Bool.and_eq_true] at this
 exact⟨this.1,fun e=>by rw [e] at this;cases this.2⟩
theorem zae (bs ks:List Nat) (n:Nat) {all:List Oper} {f:FuncId} {o:Oper} {rest:List Oper} {i base:Nat} {s:List Itm} {Q:Exit->St->Prop} {c:Call} {p:Operand} {cs asL:List AV} {post:Out->Prop} (hc:zI P f asL (σ.lends bs ks) post) (ho:o.op = .call c) (hp:c.callee = .value p) (hf:σ.eval p = .fn f cs) (ha:zbk (c.args.toList.map σ.eval++cs)=some asL) (hL:zcy σ bs ks=true) (hd:zaf A.N o=true)
  (hr:∀ res L',post (.ret res L')->go P A n (.ops all rest (i+1) base) s ((σ.callL (σ.lends bs ks) L').put o.dst res) Q) (hpn:∀ pv,post (.pan pv)->Q (.panic [{ v:=pv,recovered:=false }]) ⟨[],[],[]⟩):zbL P A (.exe (some f) all o rest i base) s σ Q:=
 zuo ho hp hf ha hc (zde hL).1 hd (fun res L' h=>zar n _ _ _ _ (hr res L' h)) fun pv h=>by
  have key:∀ s:List Itm,stk P A s Q (.panic [{ v:=pv,recovered:=false }]) ⟨[],[],[]⟩=Q (.panic [{ v:=pv,recovered:=false }]) ⟨[],[],[]⟩:=fun s=>by
   induction s with
   | nil=>rfl
   | cons x s ih=>cases x <;> exact ih
  rw [key];exact hpn pv h
theorem zcG (bs ks:List Nat) (n:Nat) {all:List Oper} {f:FuncId} {o:Oper} {rest:List Oper} {i base:Nat} {s:List Itm} {Q:Exit->St->Prop} {c:Call} {p:Operand} {x:AV} {asL:List AV} {post:Out->Prop} (hc:zI P f asL (σ.lends bs ks) post) (ho:o.op = .call c) (hp:c.callee = .value p) (hf:σ.eval p = .bnd f x) (ha:zbk (x :: c.args.toList.map σ.eval)=some asL) (hL:zcy σ bs ks=true) (hd:zaf A.N o=true)
  (hr:∀ res L',post (.ret res L')->go P A n (.ops all rest (i+1) base) s ((σ.callL (σ.lends bs ks) L').put o.dst res) Q) (hpn:∀ pv,post (.pan pv)->Q (.panic [{ v:=pv,recovered:=false }]) ⟨[],[],[]⟩):zbL P A (.exe (some f) all o rest i base) s σ Q:=
 zrN ho hp hf ha hc (zde hL).1 hd (fun res L' h=>zar n _ _ _ _ (hr res L' h)) fun pv h=>by
  have key:∀ s:List Itm,stk P A s Q (.panic [{ v:=pv,recovered:=false }]) ⟨[],[],[]⟩=Q (.panic [{ v:=pv,recovered:=false }]) ⟨[],[],[]⟩:=fun s=>by
   induction s with
   | nil=>rfl
   | cons x s ih=>cases x <;> exact ih
  rw [key];exact hpn pv h
def zzy (P:Program) (rs:List ResultVar) (bs ks:List Nat) (post:Out->Prop):Exit->St->Prop
 | .normal,σ | .ret,σ=>∃ res,zeY P σ rs=some res/\res.closed=true/\zcy σ bs ks=true/\post (.ret res (σ.lends bs ks))
 | .panic ch,_=>∃ pv,ch=[{ v:=pv,recovered:=false }]/\post (.pan pv)
 | _,_=>False
def St.enterL (args:List AV) (L:Lent):St:=⟨args.zipIdx.map fun x=>(x.2,x.1),L.blks,L.toks⟩
structure LRel (P:Program) (F:Nat->Nat->Prop) (w:World) (m:Nat->Nat) (tv:Nat->Value) (L:Lent) (F':Nat->Nat->Prop) (w':World) (m':Nat->Nat) (tv':Nat->Value) (L':Lent):Prop where
 below:BelowX w.heap.size (L.at m tv) w w'
 ok:LentOk P F' m' tv' w' L'
 fix:∀ r,L.has r=true->m' r=m r
 ver:∀ r k',L'.tok r k'->∃ k,L.tok r k/\k.len<=k'.len/\(k.len=k'.len->tv' r=tv r)
 at_:∀ x,L'.at m' tv' x->L.at m tv x\/w.heap.size<=x
 sub:∀ b o,F b o->F' b o
 new:∀ b o,F' b o->F b o\/(w.heap.size<=b/\b<w'.heap.size)
section
variable {F:Nat->Nat->Prop} {m:Nat->Nat} {tv:Nat->Value} {L:Lent}
theorem zqD (hLok:LentOk P F m tv w L) {x:Nat} (hx:L.at m tv x):P.globals.size<=x:=by
 rcases hx with⟨r,b,h1,rfl⟩ | ⟨r,k,h1,h2⟩
 ·exact hLok.lo r b h1
 ·exact hLok.tlo r k x h1 h2
def zsL (P:Program) (F:Nat->Nat->Prop) (w:World) (m:Nat->Nat) (tv:Nat->Value) (L:Lent) (N:Nat) (ro:Option Nat) (hG:Glob P w) (hLok:LentOk P F m tv w L):Base P:=
 ⟨w.heap.size,w,F,N,L.at m tv,fun _ hb=>hG.keep hb fun _ hx=>zqD hLok hx,hG.low,fun _ hx=>zqD hLok hx,L.has,m,fun r h=>(Lent.has_blk h).elim fun b hb=>hLok.nm r b hb,ro,L.tk,tv,(fun r n h=>by
   obtain⟨k,h1,_⟩:=Lent.tk_some h
   exact zwY (hLok.tnm r k h1).1),[],fun _=>undef,fun _ _=>rfl⟩
theorem zvi {N:Nat} {ro:Option Nat} {env:List (Nat × AV)} {ts:Array Value} (hF:∀ b o,F b o->b<w.heap.size) (hG:Glob P w) (hLok:LentOk P F m tv w L) (hsz:ts.size=N) (henv:∀ t,Has ⟨m,tv,F⟩ L.tk w ((⟨env,[],[]⟩:St).get t) (ts.getD t undef)) :
  Ok (zsL P F w m tv L N ro hG hLok) ⟨env,L.blks,L.toks⟩ ⟨m,tv,F⟩ { tmps:=ts,defers:=[] } w:=by
 have hb1:∀ r b,(⟨env,L.blks,L.toks⟩:St).blk r=some b->L.blk r b:=fun r b hr=>by
  unfold St.blk at hr
  unfold Lent.blk
  cases hl:zk L.blks r with
  | none=>simp [hl] at hr
  | some v=>simp [hl] at hr;rw [hr]
 have hb2:∀ r b,(⟨env,L.blks,L.toks⟩:St).tok r=some b->L.tok r b:=fun r b hr=>by
  unfold St.tok at hr
  unfold Lent.tok
  cases hl:zk L.toks r with
  | none=>simp [hl] at hr
  | some v=>simp [hl] at hr;rw [hr]
 refine⟨⟨rfl,rfl,rfl,Nat.le_refl _,fun _ _ _=>rfl⟩,Nat.le_refl _,fun _ _ h=>h,fun _ _ h=>.inl h,hF,rfl,hsz,fun t=>by rw [Base.val_of (fun _=>rfl) hsz];exact henv t,fun r b hr=>?_,fun r b hr=>hLok.nF r b (hb1 r b hr),fun r b r' b' hr hr'=>hLok.inj r b r' b' (hb1 r b hr) (hb1 r' b' hr'),fun r b hr=>?_,fun r b x hr hx o hf=>absurd hf (hLok.tF r b x (hb2 r b hr) hx o),fun r b r' b' x hr hr'=>hLok.tokblk r b r' b' x (hb2 r b hr) (hb1 r' b' hr'),fun r b r' b' x hr hr'=>hLok.toktok r b r' b' x (hb2 r b hr) (hb2 r' b' hr'),fun r hr=>rfl,fun r n0 h0 n hn=>by
  have hn':L.tk r=some n:=hn
  have h0':L.tk r=some n0:=h0
  rw [h0'] at hn'
  cases hn'
  exact⟨Nat.le_refl _,fun _=>rfl⟩⟩
 ·have h1:=hb1 r b hr
  exact⟨.inr ⟨.inl ⟨r,b,h1,rfl⟩,by unfold zho;rw [zkA (hLok.nm r b h1),Bool.or_true]⟩,hLok.at_ r b h1⟩
 ·have h1:=hb2 r b hr
  obtain⟨xs,h2,h3⟩:=hLok.tat r b h1
  exact⟨xs,h2,fun x hx=>.inr ⟨.inr ⟨r,b,h1,hx⟩,(hLok.tnm r b h1).2⟩,h3⟩
theorem zAl {N:Nat} {ro:Option Nat} {hG:Glob P w} {hLok:LentOk P F m tv w L} {σ':St} {g':Gh} {a':Act} {w':World} (bs ks:List Nat) (h2:Ok (zsL P F w m tv L N ro hG hLok) σ' g' a' w') (hch:zcy σ' bs ks=true) (hks:ks.all (fun r=>match zk L.toks r with | some (some _)=>true | _=>false)=true) :
  LRel P F w m tv L (zbA F w w' g'.m g'.tv (σ'.lends bs ks)) w' g'.m g'.tv (σ'.lends bs ks):=by
 obtain⟨hLd,hlo⟩:=zde hch
 have hnat:∀ b o,g'.F b o->zbA F w w' g'.m g'.tv (σ'.lends bs ks) b o:=fun b o hf=>by
  rcases h2.Fn b o hf with h | h
  ·exact .inl h
  ·exact .inr ⟨h,h2.Fb b o hf,h2.at_F hLd hf⟩
 have e:Ext (fun _=>False) g' σ'.tk w' ⟨g'.m,g'.tv,zbA F w w' g'.m g'.tv (σ'.lends bs ks)⟩ (σ'.lends bs ks).tk w':=⟨hnat,fun _ _ _ _ h=>h,fun _ _=>rfl,fun r _ n' hn'=>by
  obtain⟨k,h1,h2⟩:=Lent.tk_some hn'
  refine⟨n',?_,Nat.le_refl _,fun _=>rfl⟩
  unfold St.tk
  rw [hLd.tok r k h1,<- h2];rfl,fun _ _ _ _ h=>h⟩
 have hat:∀ x,(σ'.lends bs ks).at g'.m g'.tv x->L.at m tv x\/w.heap.size<=x:=fun x hx=>(h2.at_lo hLd hx).symm
 have hlow:∀ x,(σ'.lends bs ks).at g'.m g'.tv x->P.globals.size<=x:=fun x hx=>(hat x hx).elim (zqD hLok) fun h=>Nat.le_trans hG.low h
 have hnF:∀ x o,(σ'.lends bs ks).at g'.m g'.tv x->¬ zbA F w w' g'.m g'.tv (σ'.lends bs ks) x o:=fun x o hx hf=>by
  rcases hf with h | h
  ·exact h2.at_F hLd (h2.F0 x o h) hx
  ·exact h.2.2 hx
 refine⟨h2.below,⟨hLd.bnm,hLd.tnm,fun r b hr=>hlow _ (.inl ⟨r,b,hr,rfl⟩),fun r k x hr hx=>hlow _ (.inr ⟨r,k,hr,hx⟩),fun r b hr=>?_,fun r k hr=>?_,fun r b hr o=>hnF _ o (.inl ⟨r,b,hr,rfl⟩),fun r k x hr hx o=>hnF x o (.inr ⟨r,k,hr,hx⟩),
  fun r b r' b' hr hr'=>h2.inj r b r' b' (hLd.blk r b hr) (hLd.blk r' b' hr'),fun r k r' b x hr hr'=>h2.tokblk r k r' b x (hLd.tok r k hr) (hLd.blk r' b hr'),fun r k r' k' x hr hr'=>h2.toktok r k r' k' x (hLd.tok r k hr) (hLd.tok r' k' hr')⟩,fun r hr=>h2.fix r hr,fun r k' hr=>?_,hat,fun _ _ h=>.inl h,fun b o hf=>hf.imp id fun h=>⟨h.1,h.2.1⟩⟩
 ·exact(h2.blk r b (hLd.blk r b hr)).2.mono e (fun _ _=>id) rfl
 ·obtain⟨xs,h5,_,h6⟩:=(h2.tok r k (hLd.tok r k hr)).mono e fun _ _=>rfl
  exact⟨xs,h5,h6⟩
 ·have h5:=List.all_eq_true.1 hks r (zbP _ _ _ _ hr).1
  split at h5
  ·rename_i k hk5
   have h6:=h2.hist r k.len (by show L.tk r=some k.len;unfold Lent.tk;rw [hk5];rfl) k'.len (by unfold St.tk;rw [hLd.tok r k' hr];rfl)
   exact⟨k,hk5,h6.1,fun h7=>h6.2 h7.symm⟩
  ·cases h5
end
structure LentA {P:Program} (A:Base P) (L:Lent):Prop where
 fx:A.fx=L.has
 tk0:A.tk0=L.tk
 X:∀ x,A.X x->(∃ r,A.fx r=true/\x=A.m0 r)\/∃ r k,L.tok r k
theorem zDA (bs ks : List Nat) {f : FuncId} {fn : Func} {c : Code} {args : List AV} {L : Lent} {post : Out -> Prop} (hf : P.funcs[f]? = some fn) (hb : fn.body = some c) (hn : (fn.name == "runtime.NumGoroutine") = false) (hle : args.length <= fn.ntmps)
  (h:∀ A:Base P,A.N=fn.ntmps/\A.ro=none->LentA A L->SatC P A c (St.enterL args L) (stk P A [] (zzy P fn.results.toList bs ks post))) (hks:ks.all (fun r=>match zk L.toks r with | some (some _)=>true | _=>false)=true:=by rfl) (hbs:bs.all L.has=true:=by rfl):zI P f args L post:=by
 refine⟨⟨fn,hf,hn,by rw [hb];rfl⟩,fun F w vs m tv hF hG hLok hl hv=>?_⟩
 refine calls_of_wp hf hb ?_
 have hsz:vs.toArray.size=args.length:=by simp [hl]
 have hk:=zvi (N:=fn.ntmps) (ro:=none) (env:=args.zipIdx.map fun x=>(x.2,x.1)) (ts:=vs.toArray++Array.replicate (fn.ntmps - vs.toArray.size) undef) hF hG hLok (by simp;omega) fun t=>by
  have hget:(⟨args.zipIdx.map fun x=>(x.2,x.1),[],[]⟩:St).get t=(args[t]?).getD .dead:=by
   unfold St.get
   rw [zcq];simp
  rw [hget]
  by_cases ht:t<args.length
  ·have htv:t<vs.length:=by omega
   have e1:(vs.toArray++Array.replicate (fn.ntmps - vs.toArray.size) undef).getD t undef=vs[t]:=by
    rw [Array.getD_eq_getD_getElem?,Array.getElem?_append_left (by simpa using htv)]
    simp [htv]
   rw [e1]
   simp only [List.getElem?_eq_getElem ht,Option.getD_some]
   exact hv t ht htv
  ·simp only [List.getElem?_eq_none (Nat.le_of_not_lt ht),Option.getD_none]
   exact .dead _
 refine wp_mono (wpIn_wide.1 (h _ ⟨rfl,rfl⟩ ⟨rfl,rfl,fun x hx=>Or.elim (show(∃ r b,L.blk r b/\x=m r)\/∃ r k,L.tok r k/\(tv r).ownBlock=some x from hx) (fun⟨r,b,h1,h2⟩=>.inl ⟨r,by show L.has r=true;unfold Lent.has;unfold Lent.blk at h1;rw [h1],h2⟩) fun⟨r,k,h1,_⟩=>.inr ⟨r,k,h1⟩⟩ ⟨m,tv,F⟩ _ w hk)) fun e a' w' hq=>?_
 obtain⟨σ',g',h1,h2⟩:=hq
 have hret:(∃ res,zeY P σ' fn.results.toList=some res/\res.closed=true/\zcy σ' bs ks=true/\post (.ret res (σ'.lends bs ks)))->a'.defers=[]/\∃ v,(results fn a'.tmps).run P w' = .ok v w'/\(BelowX w.heap.size (L.at m tv) w w' /\
   ((∃ u res L' m' tv',Ending.returned v = .returned u/\post (.ret res L')/\res.closed=true/\(∀ r b,L'.blk r b->b.lentOk L.has=true)/\(∀ r v,zk L'.blks r=some v->L.has r=true)/\(∀ r v,zk L'.toks r=some v->zel r=true)/\zch w' (zbA F w w' m' tv' L') res u/\LentOk P (zbA F w w' m' tv' L') m' tv' w' L' /\
     (∀ r,L.has r=true->m' r=m r)/\(∀ r k',L'.tok r k'->∃ k,L.tok r k/\k.len<=k'.len/\(k.len=k'.len->tv' r=tv r))/\∀ x,L'.at m' tv' x->L.at m tv x\/w.heap.size<=x) \/
    ∃ pv,Ending.returned v = .panicked [{ v:=pv,recovered:=false }]/\post (.pan pv))):=fun⟨res,hr,hcl,hch,hpost⟩=>by
  obtain⟨v,h3,h4⟩:=h2.results hr
  obtain⟨hLd,hlo⟩:=zde hch
  have hrel:=zAl bs ks h2 hch hks
  unfold zcy at hch
  rw [Bool.and_eq_true,List.all_eq_true,List.all_eq_true] at hch
  refine⟨h2.defers,v,h3,h2.below,.inl ⟨v,res,σ'.lends bs ks,g'.m,g'.tv,rfl,hpost,hcl,fun r b hb=>(hlo r b hb |> Blk.lentOk_mono fun q hq=>List.all_eq_true.1 hbs q (zww hq)),fun r v hr=>?_,fun r v hr=>?_,h4.mono fun b o hf=>?_,hrel.ok,hrel.fix,hrel.ver,hrel.at_⟩⟩
  ·exact List.all_eq_true.1 hbs r (zbP _ _ _ _ hr).1
  ·have:=hch.2 r (zbP _ _ _ _ hr).1
   rw [Bool.and_eq_true] at this
   exact this.1
  ·rcases hf with h | ⟨h5,h6,h7,h8⟩
   ·exact .inl h
   ·refine .inr ⟨h5,h6,?_⟩
    rintro (⟨r,bl,h9,e9⟩ | ⟨r,k,h9,e9⟩)
    ·exact h7 r bl (hLd.blk r bl h9) (zkA (hLd.bnm r bl h9)) e9
    ·exact h8 r k (hLd.tok r k h9) (hLd.tnm r k h9).2 e9
 cases e with
 | normal=>exact hret h1
 | ret=>exact hret h1
 | panic ch=>
  obtain⟨pv,rfl,hp⟩:=h1
  exact⟨h2.defers,h2.below,.inr ⟨pv,rfl,hp⟩⟩
 | exit | goto | outgrown=>exact h1.elim
theorem Ok.nilStk (h:Ok A σ g a w) {q st n:Nat} {e:TypeId} (hq:(∃ k,σ.tok q=some k/\k.ex≠Option.none/\k.len<n)\/(σ.tok q=Option.none/\(zai q σ.env || zP q σ.blks)=false/\A.fx q=false/\A.tk0 q=Option.none)):∃ g',Ok A (σ.setTok q (some ⟨st,e,n,some []⟩)) g' a w /\
  Has g' (σ.setTok q (some ⟨st,e,n,some []⟩)).tk w (.stk q st n 0 0) (.slice Option.none 0 0)/\g'.m=g.m:=by
 have hh:∀ g':Gh,g'.tv q = .slice Option.none 0 0->Has g' (σ.setTok q (some ⟨st,e,n,some []⟩)).tk w (.stk q st n 0 0) (.slice Option.none 0 0):=fun g' hg'=>.stk q st n 0 0 _ 0 (Nat.le_refl _) (fun h=>by omega) fun n' hn'=>by
  simp only [St.tk,St.tok_setTok,if_pos,Option.map_some,Option.some.injEq] at hn'
  subst hn'
  refine⟨Nat.le_refl _,fun _=>?_⟩
  rw [hg']
  exact⟨rfl,Nat.zero_le _⟩
 have hr0:∀ rows:List (List D),(some []:Option (List (List D)))=some rows->(∀ i (h:i<rows.length),rows[i].length=st)/\∀ i (h:i<rows.length) j (hj:j<rows[i].length),∃ u,([]:List Value)[i * st+j]? = some u/\Reads w g.F rows[i][j] u:=fun rows hr=>by
  cases hr;exact⟨fun i h=>by simp at h,fun i h=>by simp at h⟩
 rcases hq with⟨k,h1,h2,h3⟩ | ⟨h1,h2,h3⟩
 ·exact⟨_,h.restack (k':=⟨st,e,n,some []⟩) (v':=.slice Option.none 0 0) (xs:=[]) h1 h2 (by simp) (.inl h3) ⟨rfl,rfl,rfl,Nat.le_refl _,fun _ _ _=>rfl⟩ (World.ownsRow_nil _ _ _ _) hr0 (.inr (.inr rfl)),hh _ (zp _ _ _),rfl⟩
 ·exact⟨_,h.addTok (k:=⟨st,e,n,some []⟩) (v:=.slice Option.none 0 0) (St.free_as h3.1 h3.2 h2) ⟨[],World.ownsRow_nil _ _ _ _,(fun x hx=>by cases hx),hr0⟩ (fun x hx=>by cases hx) (fun _ _ x _ hx=>by cases hx) (fun _ _ x _ hx=>by cases hx),hh _ (zp _ _ _),rfl⟩
theorem zgo (q r j st n:Nat) (e:TypeId) {ty:TypeId} {cs:List AV} {c:Code} {K:Exit->St->Prop} (hf:A.fx q=false/\A.tk0 q=Option.none) (hk:(match σ.tok q with | some k=>k.ex.isSome && decide (k.len<n) | Option.none=>!(zai q σ.env || zP q σ.blks))=true) (hb:σ.blk r=some (.cell ty cs)) (hj:cs[j]? = some (.d (.raw (.slice Option.none 0 0))))
  (h:SatC P A c ((σ.setTok q (some ⟨st,e,n,some []⟩)).setBlk r (some (.cell ty (cs.set j (.stk q st n 0 0))))) K):SatC P A c σ K:=by
 refine zen (fun g a w hok=>?_) h
 obtain⟨g',h1,h2,_⟩:=hok.nilStk (q:=q) (st:=st) (n:=n) (e:=e) (by
  cases hk1:σ.tok q with
  | none=>
   rw [hk1] at hk
   exact .inr ⟨rfl,by simpa using hk,hf⟩
  | some k=>
   rw [hk1] at hk
   simp only [Bool.and_eq_true,decide_eq_true_eq] at hk
   exact .inl ⟨k,rfl,(fun e=>by rw [e] at hk;cases hk.1),hk.2⟩)
 obtain⟨hB,arr,c1,c2,c3⟩:=h1.blk r _ hb
 obtain⟨hjl,hje⟩:=List.getElem?_eq_some_iff.1 hj
 refine⟨_,(h1.write (k':=.cell ty (cs.set j (.stk q st n 0 0))) (w':=w) hb (fun _ _=>rfl) rfl (.of (Below.refl _ _)) ⟨arr,c1,by simpa using c2,fun i hi hi'=>?_⟩).1⟩
 have hi2:i<cs.length:=by simpa using hi
 rw [List.getElem_set]
 split
 ·rename_i e1;subst e1
  have h3:=c3 j hjl hi'
  rw [hje] at h3
  rw [h3.raw_eq];exact h2
 ·exact c3 i hi2 hi'
theorem kL (bs ks:List Nat) {f:FuncId} {fn:Func} {c:Code} {args:List AV} {L:Lent} {post:Out->Prop} {n:Nat} (hf:P.funcs[f]? = some fn) (hm:fn.ntmps=n)
  (h:∀ A:Base P,A.N=n/\A.ro=none->LentA A L->SatC P A c (St.enterL args L) (stk P A [] (zzy P fn.results.toList bs ks post)))
  (hb : fn.body = some c := by rfl) (hn : (fn.name == "runtime.NumGoroutine") = false := by decide +kernel) (hle : args.length <= n := by simp) (hks : ks.all (fun r => match zk L.toks r with | some (some _) => true | _ => false) = true := by rfl) (hbs : bs.all L.has = true := by rfl) : zI P f args L post :=
 zDA bs ks hf hb hn (by rw [hm];exact hle) (fun A hA=>h A ⟨hA.1.trans hm,hA.2⟩) hks hbs
theorem gL (bs ks:List Nat) {all:List Oper} {f:FuncId} {o:Oper} {rest:List Oper} {i base:Nat} {s:List Itm} {Q:Exit->St->Prop} {c:Call} {p:Operand} {cs asL:List AV} {post:Out->Prop} (hc:zI P f asL (σ.lends bs ks) post)
  (hpn:∀ pv,post (.pan pv)->Q (.panic [{ v:=pv,recovered:=false }]) ⟨[],[],[]⟩) (hr:∀ res L',post (.ret res L')->go P A 400 (.ops all rest (i+1) base) s ((σ.callL (σ.lends bs ks) L').put o.dst res) Q)
  (hL:zcy σ bs ks=true:=by rfl) (hd:zaf A.N o=true:=by simp only [go_sem,hA]) (ho:o.op = .call c:=by rfl) (hp:c.callee = .value p:=by rfl) (hf:σ.eval p = .fn f cs:=by rfl) (ha:zbk (c.args.toList.map σ.eval++cs)=some asL:=by rfl):zbL P A (.exe (some f) all o rest i base) s σ Q:=zae bs ks 400 hc ho hp hf ha hL hd hr hpn
end
section
variable {P:Program} {A:Base P} {σ:St}
def zfC (P:Program) (A:Base P) (ops:Array Oper) (fuel:Nat) (listed:Array Bool) (σ:St) (K:Exit->St->Prop):Prop:=∀ g a w,Ok A σ g a w->wpAnyIn A.fe 0 P .any ops (zeg A K) fuel listed a w
def znY (P:Program) (A:Base P) (ops:Array Oper) (fuel:Nat) (listed:Array Bool) (i:Nat) (σ:St) (K:Exit->St->Prop):Prop:=∀ g a w,Ok A σ g a w->wpOpIn A.fe 0 P ops (zeg A K) i (wpAnyIn A.fe 0 P .any ops (zeg A K) fuel (listed.setIfInBounds i true)) a w
variable {id fuel:Nat} {ops:Array Oper} {listed:Array Bool} {K:Exit->St->Prop}
theorem zgn (hP:P.follows .mixedOrders=true) (h:zfC P A ops ops.size (Array.replicate ops.size false) σ K):SatC P A (.region id ops true) σ K:=fun g a _ hk=>wpIn_region_any hP (h g a _ hk.drew)
theorem zdt (hr:Region.ready .any ops listed=[]) (h:K .normal σ):zfC P A ops fuel listed σ K:=fun g _ _ hk=>wpAnyIn_done hr ⟨σ,g,h,hk⟩ fuel
theorem zoG (rs:List Nat) (hr:Region.ready .any ops listed=rs) (hne:rs≠[]) (h:∀ i ∈ rs,znY P A ops fuel listed i σ K):zfC P A ops (fuel+1) listed σ K:=fun g a w hk=>wpAnyIn_all hr hne fun i hi=>h i hi g a w hk
theorem zao (i:Nat) (hr:Region.ready .any ops listed=[i]) (h:znY P A ops fuel listed i σ K):zfC P A ops (fuel+1) listed σ K:=zoG [i] hr (by simp) fun j hj=>by
 obtain rfl:j=i:=by simpa using hj
 exact h
theorem zhb (i j:Nat) (hr:Region.ready .any ops listed=[i,j]) (h:znY P A ops fuel listed i σ K) (h':znY P A ops fuel listed j σ K):zfC P A ops (fuel+1) listed σ K:=zoG [i,j] hr (by simp) fun k hk=>by
 rcases List.mem_cons.1 hk with rfl | hk
 ·exact h
 ·obtain rfl:k=j:=by simpa using hk
  exact h'
theorem zco {o:Oper} (hg:o.guard=none) (ops:Array Oper) (ts:Array Value):Region.wanted o (yielded ops ts)=true:=by simp [Region.wanted,hg]
theorem zzt {i:Nat} {o:Oper} {σ':St} {x:AV} (ho:ops[i]? = some o) (hg:o.guard=none) (hop:OpOk P A o σ σ' x) (hd:zaf A.N o=true) (h:zfC P A ops fuel (listed.setIfInBounds i true) (σ'.put o.dst x) K):znY P A ops fuel listed i σ K:=fun g a w hk=>by
 unfold wpOpIn
 rw [ho]
 simp only [zco hg,if_true]
 exact hop g a w hk _ _ fun g' v w' h1 h2=>h g' _ w' (h1.put o.dst (zaO hd) h2)
theorem zbu (me i:Nat) {o:Oper} {x:AV} {e:Eff} {need:Prop} (ho:ops[i]? = some o) (hg:o.guard=none) (hout:zO P σ me o.op=some (x,e,need)) (hn:need) (hm:zfQ o.op=true->σ.ment me=false) (hd:zaf A.N o=true) (h:zfC P A ops fuel (listed.setIfInBounds i true) ((σ.app e).put o.dst x) K):znY P A ops fuel listed i σ K:=
 zzt ho hg (zjo hout hn fun h=>St.free_of (hm h)) hd h
theorem zfg (bs ks:List Nat) {i:Nat} {o:Oper} {f:FuncId} {c:Call} {p:Operand} {cs asL:List AV} {post:Out->Prop} (ho:ops[i]? = some o) (hg:o.guard=none) (hc:zI P f asL (σ.lends bs ks) post) (hop:o.op = .call c) (hp:c.callee = .value p) (hf:σ.eval p = .fn f cs) (ha:zbk (c.args.toList.map σ.eval++cs)=some asL) (hL:zcy σ bs ks=true) (hd:zaf A.N o=true)
  (hr:∀ res L',post (.ret res L')->zfC P A ops fuel (listed.setIfInBounds i true) ((σ.callL (σ.lends bs ks) L').put o.dst res) K) (hpn:∀ pv,post (.pan pv)->K (.panic [{ v:=pv,recovered:=false }]) ⟨[],[],[]⟩):znY P A ops fuel listed i σ K:=fun g a w hk=>by
 unfold wpOpIn
 rw [ho]
 simp only [zco hg,if_true]
 exact zmL hop hp hf ha hc (zde hL).1 hk _ _ (fun res L' g' v w' hpost h1 h2=>hr res L' hpost g' _ w' (h1.put o.dst (zaO hd) h2)) fun pv g' w' hpost h1=>⟨⟨[],[],[]⟩,g',hpn pv hpost,h1⟩
def zgt (P:Program) (σ:St) (o:Oper):Option AV:=
 match o.guard,o.op with
 | none,.move p | none,.assign p=>some (σ.eval p)
 | none,.nilCheck p=>if (σ.eval p).ptr then some (σ.eval p) else none
 | none,.fieldAddr s p k=>match P.underlying s with
  | some (.struct fs)=>match fs[k]? with
   | some f=>if P.cellsOf f.type=0 then none else shifted (σ.eval p) f.offset
   | none=>none
  | _=>none
 | _,_=>none
theorem zxs {o:Oper} {x:AV} (h:zgt P σ o=some x) {g:Gh} {a:Act} {w:World} (hk:Ok A σ g a w):∃ v,YieldsFenced P ops o v a/\Has g σ.tk w x v:=by
 unfold zgt at h
 split at h
 ·rename_i p hg ho
  cases h
  exact⟨a.eval p,⟨.inl ⟨zco hg _ _,fun w=>by simp [execOp,ho]⟩,fun w=>by simp [Oper.about,ho]⟩,hk.eval p⟩
 ·rename_i p hg ho
  cases h
  exact⟨a.eval p,⟨.inl ⟨zco hg _ _,fun w=>by simp [execOp,ho]⟩,fun w=>by simp [Oper.about,ho]⟩,hk.eval p⟩
 ·rename_i p hg ho
  split at h
  ·rename_i hp
   cases h
   have h:=hk.eval p
   have hv:∃ b o,a.eval p = .pointer (some ⟨b,o,none⟩):=by
    cases hx:σ.eval p with
    | box r j=>rw [hx] at h;exact⟨_,_,h.box_eq⟩
    | elem r st i j=>rw [hx] at h;exact⟨_,_,h.elem_eq⟩
    | selem r st ver i j=>rw [hx] at h;obtain⟨b,o,h1,_⟩:=h.selem_eq;exact⟨b,o,h1⟩
    | at_ cs=>rw [hx] at h;obtain⟨b,o,h1,_⟩:=h.at_eq;exact⟨b,o,h1⟩
    | dead | d | agg | tup | own | grow | fn | bnd | mp | mapd | stk=>rw [hx] at hp;cases hp
   obtain⟨b,o',hv⟩:=hv
   exact⟨a.eval p,⟨.inl ⟨zco hg _ _,fun w=>by simp [execOp,ho,hv]⟩,fun w=>by simp [Oper.about,ho]⟩,h⟩
  ·cases h
 ·rename_i s p k hg ho
  split at h
  ·rename_i fs hs
   split at h
   ·rename_i f hf
    split at h
    ·cases h
    ·rename_i h0
     obtain⟨q,off,hv,hh⟩:=(hk.eval p).shifted h
     exact⟨_,⟨.inl ⟨zco hg _ _,fun w=>by simp [execOp,ho,hv,Instr.fieldAt,run_underlying hs,hf,Instr.sureAddr,fieldPlace,zab h0,h0,Addr.add_lit]⟩,fun w=>by simp [Oper.about,ho]⟩,hh⟩
   ·cases h
  ·cases h
 ·cases h
theorem zci (i:Nat) {o:Oper} {x:AV} (ho:ops[i]? = some o) (hro:A.ro=none) (hs:Region.noSelect ops=true) (hf:Region.free .any ops listed i=true) (hr:(Region.ready .any ops listed).contains i=true) (hK:∀ c σ,K (.panic c) σ->K (.panic c) ⟨[],[],[]⟩) (hp:zgt P σ o=some x) (hd:zaf A.N o=true) (h:zfC P A ops fuel (listed.setIfInBounds i true) (σ.put o.dst x) K):zfC P A ops (fuel+1) listed σ K:=fun g a w hk=>by
 obtain⟨v,hy,hh⟩:=zxs (ops:=ops) hp hk
 refine wpAnyIn_take hro ho hs hf hr (fun c a' w' hq=>?_) hy (h g _ w (hk.put o.dst (zaO hd) hh))
 obtain⟨σ',g',h1,h2⟩:=hq
 have e1:(a'.put o.dst v).defers=a'.defers:=by cases o.dst <;> rfl
 have e2:(a'.put o.dst v).tmps.size=a'.tmps.size:=by cases o.dst <;> simp [Act.put]
 refine⟨⟨[],[],[]⟩,⟨g'.m,g'.tv,A.F0⟩,hK c σ' h1,h2.below,h2.hB,fun _ _ h=>h,fun _ _ h=>.inl h,fun b o hf=>h2.Fb b o (h2.F0 b o hf),by rw [<- e1];exact h2.defers,by rw [<- e2];exact h2.size,fun t=>.dead _,fun r b h=>by simp [St.blk,zk] at h,fun r b h=>by simp [St.blk,zk] at h,fun r b r' b' h=>by simp [St.blk,zk] at h,fun r k h=>by simp [St.tok,zk] at h,fun r k x h=>by simp [St.tok,zk] at h,fun r k r' b x h=>by simp [St.tok,zk] at h,fun r k r' k' x h=>by simp [St.tok,zk] at h,h2.fix,fun r n0 _ n hn=>by simp [St.tk,St.tok,zk] at hn⟩
theorem zgk (Q:Exit->St->Prop) (c:List PanicEntry):∀ s:List Itm,stk P A s Q (.panic c) σ=Q (.panic c) σ
 | []=>rfl
 | .code _ :: s=>zgk Q c s
 | .blk _ :: s=>zgk Q c s
 | .inv _ :: s=>zgk Q c s
 | .off _ :: s=>zgk Q c s
theorem zac {rs:List ResultVar} {bs ks:List Nat} {post:Out->Prop} {s:List Itm}:∀ c σ,stk P A s (zzy P rs bs ks post) (.panic c) σ->stk P A s (zzy P rs bs ks post) (.panic c) ⟨[],[],[]⟩:=fun c σ h=>by
 rw [zgk] at h ⊢;exact h
end
def zgZ:List (Nat × AV)->List (Nat × AV)
 | []=>[]
 | (k,x) :: r=>(k+1000000,x) :: zgZ r
def zpG:List (Nat × AV)->List (Nat × AV)
 | []=>[]
 | (k,x) :: r=>if k<1000000 then zpG r else (k - 1000000,x) :: zpG r
theorem zkV:∀ (l:List (Nat × AV)) (t:Nat),zk (zgZ l) (t+1000000)=zk l t
 | [],_=>rfl
 | (k,x) :: r,t=>by
  unfold zgZ zk
  rw [zkV r t]
  by_cases h:k=t
  ·subst h;simp
  ·rw [if_neg (by omega),if_neg h]
theorem zhn:∀ (l:List (Nat × AV)) {t:Nat},t<1000000->zk (zgZ l) t=none
 | [],_,_=>rfl
 | (k,x) :: r,t,h=>by
  unfold zgZ zk
  rw [zhn r h,if_neg (by omega)]
theorem ziF:∀ (l:List (Nat × AV)) (t:Nat),zk (zpG l) t=zk l (t+1000000)
 | [],_=>rfl
 | (k,x) :: r,t=>by
  unfold zpG
  by_cases h:k<1000000
  ·rw [if_pos h,ziF r t,zk,if_neg (by omega)]
  ·rw [if_neg h,zk,zk,ziF r t]
   by_cases h2:k=t+1000000
   ·rw [if_pos (by omega),if_pos h2]
   ·rw [if_neg (by omega),if_neg h2]
def St.enterI (σ:St) (args:List AV):St:=⟨(args.zipIdx.map fun x=>(x.2,x.1))++zgZ σ.env,σ.blks,σ.toks⟩
def St.backI (σ:St):St:=⟨zpG σ.env,σ.blks,σ.toks⟩
def rawAV (P:Program) (σ:St):ResultVar->Option AV
 | .tmp t=>some (σ.eval (.tmp t))
 | .cell p ty=>match σ.eval (.tmp p) with
  | .box r j=>match σ.blk r with
   | some (.cell _ cs)=>zah P ty (cs.drop j)
   | _=>none
  | _=>none
def zmp (P:Program) (σ:St):List ResultVar->Option (List AV)
 | []=>some []
 | r :: rs=>match rawAV P σ r,zmp P σ rs with
  | some y,some ys=>some (y :: ys)
  | _,_=>none
def rawRes (P:Program) (σ:St) (rs:List ResultVar):Option AV:=
 match zmp P σ rs with
 | some [x]=>some x
 | some xs=>some (.tup xs)
 | none=>none
def zxi (P:Program) (rs:List ResultVar) (K:AV->St->Prop):Exit->St->Prop
 | .normal,σ | .ret,σ=>match rawRes P σ rs with
  | some y=>K y σ
  | none=>False
 | _,_=>False
variable {P:Program} {A:Base P} {σ:St} {g:Gh} {a:Act} {w:World}
theorem Ok.rawAV (hk:Ok A σ g a w) {r:ResultVar} {y:AV} (h:Go.Proofs.YtpnjjmcimjlfkaaGreatDoor.rawAV P σ r=some y):∃ v,(zfs a.tmps r).run P w = .ok v w/\Has g σ.tk w y v:=by
 cases r with
 | tmp t=>cases h;exact⟨_,rfl,hk.eval (.tmp t)⟩
 | cell p ty=>
  unfold Go.Proofs.YtpnjjmcimjlfkaaGreatDoor.rawAV at h
  simp only at h
  split at h
  ·rename_i r j hp
   split at h
   ·rename_i ty' cs hb
    have he:Has g σ.tk w (σ.eval (.tmp p)) (a.tmps.getD p undef):=hk.eval (.tmp p)
    rw [hp] at he
    obtain⟨hB,arr,c1,c2,c3⟩:=hk.blk r _ hb
    obtain⟨v,hv,hh⟩:=zmf (P:=P) (g:=g) (σ:=σ) (w:=w) (q:=g.m r) (off:=j) h (fun i hi=>by
     simp only [List.length_drop] at hi
     have hj:j+i<arr.length:=by omega
     refine⟨arr[j+i],by simp [World.cell?,c1,hj],?_⟩
     rw [List.getElem_drop]
     exact c3 (j+i) (by omega) hj)
    exact⟨v,by simp only [zfs,he.box_eq,asAddr,Sem.run_bind,Sem.run_pure,Result.andThen_ok];exact hv,hh⟩
   ·cases h
  ·cases h
theorem Ok.rawRes (hk:Ok A σ g a w) {fn:Func} {y:AV} (h:Go.Proofs.YtpnjjmcimjlfkaaGreatDoor.rawRes P σ fn.results.toList=some y):∃ v,(Go.results fn a.tmps).run P w = .ok v w/\Has g σ.tk w y v:=by
 have key:∀ (rs:List ResultVar) (ys:List AV),zmp P σ rs=some ys->∃ vs:List Value,(rs.mapM (m:=Go.Sem) (zfs a.tmps)).run P w = .ok vs w/\ys.length=vs.length/\∀ i (hi:i<ys.length) (hv:i<vs.length),Has g σ.tk w ys[i] vs[i]:=by
  intro rs
  induction rs with
  | nil=>intro ys h;cases h;exact⟨[],rfl,rfl,fun i hi=>by simp at hi⟩
  | cons r rs ih=>
   intro ys h
   unfold zmp at h
   split at h
   ·rename_i y1 ys1 h1 h2
    cases h
    obtain⟨vs,h3,h4,h5⟩:=ih ys1 h2
    obtain⟨v,h6,h7⟩:=hk.rawAV h1
    refine⟨v :: vs,?_,by simp [h4],fun i hi hv=>?_⟩
    ·simp only [List.mapM_cons,Sem.run_bind,h6,Result.andThen_ok,h3,Sem.run_pure]
    ·cases i with
     | zero=>simpa using h7
     | succ i=>simpa using h5 i (by simpa using hi) (by simpa using hv)
   ·cases h
 unfold Go.Proofs.YtpnjjmcimjlfkaaGreatDoor.rawRes at h
 split at h
 ·rename_i x hx
  cases h
  obtain⟨vs,h1,h2,h3⟩:=key _ _ hx
  obtain⟨v,rfl⟩:∃ v,vs=[v]:=by
   cases vs with
   | nil=>simp at h2
   | cons v vs=>cases vs with
    | nil=>exact⟨v,rfl⟩
    | cons u us=>simp at h2
  refine⟨v,?_,by simpa using h3 0 (by simp) (by simp)⟩
  rw [zdN _ h1];rfl
 ·rename_i xs hne hx
  cases h
  obtain⟨vs,h1,h2,h3⟩:=key _ _ hx
  refine⟨.tuple vs.toArray,?_,.tup xs vs h2 h3⟩
  rw [zdN _ h1,dif_neg]
  intro hs
  obtain⟨x,rfl⟩:∃ x,xs=[x]:=by
   have hl:xs.length=1:=by rw [h2];simpa using hs
   cases xs with
   | nil=>simp at hl
   | cons x xs=>cases xs with
    | nil=>exact⟨x,rfl⟩
    | cons y ys=>simp at hl
  exact hne x rfl
 ·cases h
theorem zsY (k n:Nat) {all:List Oper} {f:FuncId} {o:Oper} {rest:List Oper} {i base:Nat} {s:List Itm} {Q:Exit->St->Prop} {asL:List AV} {fn:Func} {c:Code}
  (hent : zcQ P f -> ∀ g a w,Ok A σ g a w -> ∃ us : List Value,(execOp a.eval o).run P w = .ok (.enter f us.toArray) w /\ us.length = asL.length /\ ∀ i (hi : i < asL.length) (hv : i < us.length),Has g σ.tk w asL[i] us[i]) (hfn : P.funcs[f]? = some fn) (hb : fn.body = some c) (hnm : (fn.name == "runtime.NumGoroutine") = false)
  (hle:asL.length<=fn.ntmps) (hN:fn.ntmps<=1000000) (hd:zaf A.N o=true)
  (h:∀ A':Base P,A'.N=fn.ntmps->(A'.fx=A.fx/\A'.tk0=A.tk0)->SatC P A' c (σ.enterI asL) (stk P A' [.off k] (zxi P fn.results.toList fun y σ'=>go P A n (.ops all rest (i+1) base) s (σ'.backI.put o.dst y) Q))):zkI P A all o rest σ (stk P A s Q):=by
 intro g a w hk
 have hen:zcQ P f:=⟨fn,hfn,hnm,by rw [hb];rfl⟩
 obtain⟨us,hr',hul,hhas⟩:=hent hen g a w hk
 refine zcC hr' (calls_of_wp hfn hb ?_)
 have hk2:Ok { A with N:=fn.ntmps,ro:=none,ds:=[],kv:=fun t=>if t<1000000 then undef else A.val a (t - 1000000),kvU:=fun t ht=>if_pos ht } (σ.enterI asL) g { tmps:=us.toArray++Array.replicate (fn.ntmps - us.toArray.size) undef,defers:=[] } w:=by
  refine⟨hk.below,hk.hB,hk.F0,hk.Fn,hk.Fb,rfl,by simp;omega,fun t=>?_,hk.blk,hk.Fblk,hk.inj,hk.tok,hk.Ftok,hk.tokblk,hk.toktok,hk.fix,hk.hist⟩
  have hget:(σ.enterI asL).get t=if h:t<asL.length then asL[t] else (zk (zgZ σ.env) t).getD .dead:=by
   unfold St.enterI St.get
   rw [zfl,zcq]
   simp only [Nat.zero_le,if_true,Nat.sub_zero]
   by_cases ht:t<asL.length
   ·rw [dif_pos ht,List.getElem?_eq_getElem ht];rfl
   ·rw [dif_neg ht,List.getElem?_eq_none (Nat.le_of_not_lt ht)]
  rw [hget]
  unfold Base.val
  simp only
  by_cases ht:t<asL.length
  ·have htv:t<us.length:=by omega
   have e1:(us.toArray++Array.replicate (fn.ntmps - us.toArray.size) undef).getD t undef=us[t]:=by
    rw [Array.getD_eq_getD_getElem?,Array.getElem?_append_left (by simpa using htv)]
    simp [htv]
   rw [if_pos (by omega),dif_pos ht,e1]
   exact hhas t ht htv
  ·rw [dif_neg ht]
   by_cases h6:t<1000000
   ·rw [zhn _ h6];exact Has.dead _
   ·obtain⟨u,rfl⟩:∃ u,t=u+1000000:=⟨t - 1000000,by omega⟩
    rw [zkV,if_neg (by omega),if_neg h6,Nat.add_sub_cancel]
    exact hk.env u
 refine wp_mono (wpIn_wide.1 (h _ (by rfl) (by exact⟨rfl,rfl⟩) g _ w hk2)) fun e a' w' hq=>?_
 obtain⟨σ',g',h1,h2⟩:=hq
 have hret:(match Go.Proofs.YtpnjjmcimjlfkaaGreatDoor.rawRes P σ' fn.results.toList with | some y=>go P A n (.ops all rest (i+1) base) s (σ'.backI.put o.dst y) Q | none=>False)->a'.defers=[]/\∃ v,(Go.results fn a'.tmps).run P w' = .ok v w'/\wpListIn A.fe 0 P all.toArray (zeg A (stk P A s Q)) rest (a.put o.dst v) w':=fun hm=>by
  split at hm
  ·rename_i y hy
   obtain⟨v,h3,h4⟩:=h2.rawRes hy
   refine⟨h2.defers,v,h3,?_⟩
   have hk3:Ok A σ'.backI g' a w':=by
    refine⟨h2.below,h2.hB,h2.F0,h2.Fn,h2.Fb,hk.defers,hk.size,fun t=>?_,h2.blk,h2.Fblk,h2.inj,h2.tok,h2.Ftok,h2.tokblk,h2.toktok,h2.fix,h2.hist⟩
    have h5:=h2.env (t+1000000)
    unfold St.get at h5
    unfold St.backI St.get
    rw [ziF]
    unfold Base.val at h5
    simp only at h5
    rw [if_neg (by omega),if_neg (by omega),Nat.add_sub_cancel] at h5
    exact h5
   exact zar n _ _ _ _ hm _ _ w' (hk3.put o.dst (zaO hd) h4)
  ·cases hm
 cases e with
 | normal=>exact hret h1
 | ret=>exact hret h1
 | exit | goto | panic | outgrown=>exact h1.elim
theorem zjz (k n : Nat) {all : List Oper} {f : FuncId} {o : Oper} {rest : List Oper} {i base : Nat} {s : List Itm} {Q : Exit -> St -> Prop} {cl : Call} {p : Operand} {cs : List AV} {fn : Func} {c : Code} (ho : o.op = .call cl) (hp : cl.callee = .value p) (hf : σ.eval p = .fn f cs) (hfn : P.funcs[f]? = some fn) (hb : fn.body = some c) (hnm : (fn.name == "runtime.NumGoroutine") = false)
  (hle:(cl.args.toList.map σ.eval++cs).length<=fn.ntmps) (hN:fn.ntmps<=1000000) (hd:zaf A.N o=true)
  (h:∀ A':Base P,A'.N=fn.ntmps->(A'.fx=A.fx/\A'.tk0=A.tk0)->SatC P A' c (σ.enterI (cl.args.toList.map σ.eval++cs)) (stk P A' [.off k] (zxi P fn.results.toList fun y σ'=>go P A n (.ops all rest (i+1) base) s (σ'.backI.put o.dst y) Q))):zbL P A (.exe (some f) all o rest i base) s σ Q:=by
 refine zsY k n (fun hen g a w hk=>?_) hfn hb hnm hle hN hd h
 have hpe:=hk.eval p
 rw [hf] at hpe
 obtain⟨vs,hv,hvl,hvs⟩:=hpe.fn_eq
 refine⟨cl.args.toList.map a.eval++vs,?_,by simp [hvl],fun i hi hv=>?_⟩
 ·simp only [execOp,ho,resolve,hp,hv,Deferred.ofValue,Sem.run_bind,Sem.run_pure,Result.andThen_ok,invoke]
  rw [zaL hen]
  have he:#[]++cl.args.map a.eval++vs.toArray=(cl.args.toList.map a.eval++vs).toArray:=by
   apply Array.ext';simp
  rw [he]
 ·rw [List.getElem_append,List.getElem_append]
  simp only [List.length_map]
  by_cases hlt:i<cl.args.toList.length
  ·rw [dif_pos hlt,dif_pos hlt,List.getElem_map,List.getElem_map];exact hk.eval _
  ·rw [dif_neg hlt,dif_neg hlt]
   exact hvs _ _ _
theorem zAx (k n : Nat) {all : List Oper} {f : FuncId} {o : Oper} {rest : List Oper} {i base : Nat} {s : List Itm} {Q : Exit -> St -> Prop} {cl : Call} {p : Operand} {x : AV} {fn : Func} {c : Code} (ho : o.op = .call cl) (hp : cl.callee = .value p) (hf : σ.eval p = .bnd f x) (hfn : P.funcs[f]? = some fn) (hb : fn.body = some c) (hnm : (fn.name == "runtime.NumGoroutine") = false)
  (hle:(x :: cl.args.toList.map σ.eval).length<=fn.ntmps) (hN:fn.ntmps<=1000000) (hd:zaf A.N o=true)
  (h:∀ A':Base P,A'.N=fn.ntmps->(A'.fx=A.fx/\A'.tk0=A.tk0)->SatC P A' c (σ.enterI (x :: cl.args.toList.map σ.eval)) (stk P A' [.off k] (zxi P fn.results.toList fun y σ'=>go P A n (.ops all rest (i+1) base) s (σ'.backI.put o.dst y) Q))):zbL P A (.exe (some f) all o rest i base) s σ Q:=by
 refine zsY k n (fun hen g a w hk=>?_) hfn hb hnm hle hN hd h
 have hpe:=hk.eval p
 rw [hf] at hpe
 obtain⟨v,hv,hx⟩:=hpe.bnd_eq
 refine⟨v :: cl.args.toList.map a.eval,?_,by simp,fun i hi hv=>?_⟩
 ·simp only [execOp,ho,resolve,hp,hv,Deferred.ofValue,Sem.run_bind,Sem.run_pure,Result.andThen_ok,invoke]
  rw [zaL hen]
  have he:#[v]++cl.args.map a.eval++#[]=(v :: cl.args.toList.map a.eval).toArray:=by
   apply Array.ext';simp
  rw [he]
 ·cases i with
  | zero=>exact hx
  | succ i=>simpa using hk.eval _
theorem zEq (me n:Nat) {all:List Oper} {o:Oper} {rest:List Oper} {i base:Nat} {s:List Itm} {Q:Exit->St->Prop} {t e:TypeId} {k st m:Nat} {ps:Array (Nat × Operand)} {rows:List (List D)} {need:Prop} (hg:zcX A.N all σ o=some true) (ho:o.op = .buildSlice t k ps) (h:zO P σ me o.op=some (.grow me rows,.tok me ⟨st,e,m,none⟩,need)) (hm:σ.ment me=false) (hd:zaf A.N o=true)
  (hr:go P A n (.ops all rest (i+1) base) s ((σ.setTok me (some ⟨st,e,0,some rows⟩)).put o.dst (.stk me st 0 0 m)) Q):zbL P A (.ops all (o :: rest) i base) s σ Q:=by
 rw [ho] at h
 simp only [zO] at h
 split at h
 ·rename_i el ht
  split at h
  ·rename_i z rows' hz hr'
   split at h
   ·rename_i hc
    simp only [Bool.and_eq_true,decide_eq_true_eq,List.all_eq_true] at hc
    obtain⟨⟨⟨⟨hps,hzs⟩,h0⟩,h1⟩,hlim⟩:=hc
    obtain⟨h2,h3,_⟩:=zaP h
    injection h2 with _ h2
    injection h3 with _ h3
    injection h3 with e1 e2 e3
    subst h2 e1 e2 e3
    obtain⟨f1,f2⟩:=zej hps
    rw [f1,f2] at ho
    rw [f2] at hr
    refine zfH hg (fun _=>zem (zor me ho ht hz hzs h0 (by rw [List.map_map];exact hr') (fun p hp=>?_) (by rw [<- f2];exact hlim) (St.free_of hm)) hd (zar n _ _ _ _ hr)) (fun h=>by cases h) fun h=>by cases h
    obtain⟨x,hx,rfl⟩:=List.mem_map.1 hp
    exact⟨List.all_eq_true.2 (h1 x hx).1,(h1 x hx).2⟩
   ·cases h
  ·split at h
   ·obtain⟨h2,_,_⟩:=zaP h;cases h2
   ·cases h
  ·cases h
 ·cases h
end
end Go.Proofs.YtpnjjmcimjlfkaaGreatDoor
