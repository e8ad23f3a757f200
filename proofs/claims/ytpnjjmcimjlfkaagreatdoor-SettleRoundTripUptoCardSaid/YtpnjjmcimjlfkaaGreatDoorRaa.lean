/- Texts of this proof, part 1: what the proof uses of them. -/
import Derived.WalkKit
import Derived.Below
import Derived.Orders
import Derived.Deep.AppendLies
import Derived.Laws.MakeOwn
import Derived.Lib.LaidTab
import Derived.OrdersIn
import Derived.RangeFuncLeaves
import Derived.RangeFuncCalls
import Derived.Lib.ItoaNum
set_option maxRecDepth 100000
set_option maxHeartbeats 64000000
namespace Go.Proofs.YtpnjjmcimjlfkaaGreatDoor
section
open Go Go.RowKit
inductive D where
 | raw (v:Value)
 | sl (rows:List (List D))
inductive Reads (w:World) (F:Nat->Nat->Prop):D->Value->Prop
 | raw (v:Value):Reads w F (.raw v) v
 | nil (p:Option Addr) (cap:Nat):Reads w F (.sl []) (.slice p 0 cap)
 | rows (st:Nat) (rows:List (List D)) (b off cap:Nat) (val:Nat->Nat->Value) (hcap:rows.length<=cap) (hpos:0<rows.length)
   (hrow:∀ i (h:i<rows.length),rows[i].length=st)
   (hcell:∀ i j,i<rows.length->j<st->F b (off+i * st+j)/\w.cell? ⟨b,off+i * st+j,none⟩=some (val i j))
   (hsub:∀ i (h:i<rows.length) j (hj:j<rows[i].length),Reads w F rows[i][j] (val i j)) :
   Reads w F (.sl rows) (.slice (some ⟨b,off,none⟩) rows.length cap)
theorem Reads.mono {w w':World} {F F':Nat->Nat->Prop} {x:D} {v:Value} (h:Reads w F x v) (hF:∀ b o,F b o->F' b o)
  (hw:∀ b o u,F b o->w.cell? ⟨b,o,none⟩=some u->w'.cell? ⟨b,o,none⟩=some u):Reads w' F' x v:=by
 induction h with
 | raw v=>exact .raw v
 | nil p cap=>exact .nil p cap
 | rows st rows b off cap val hcap hpos hrow hcell _ ih=>
  exact .rows st rows b off cap val hcap hpos hrow (fun i j hi hj=>⟨hF _ _ (hcell i j hi hj).1,hw _ _ _ (hcell i j hi hj).1 (hcell i j hi hj).2⟩) ih
theorem Reads.slice {w:World} {F:Nat->Nat->Prop} {rows:List (List D)} {v:Value} (h:Reads w F (.sl rows) v):∃ p cap,v = .slice p rows.length cap/\rows.length<=cap:=by
 cases h with
 | nil p cap=>exact⟨p,cap,rfl,by simp⟩
 | rows st rows b off cap val hcap _ _ _ _=>exact⟨_,cap,rfl,hcap⟩
theorem Reads.raw_eq {w:World} {F:Nat->Nat->Prop} {x v:Value} (h:Reads w F (.raw x) v):v=x:=by cases h;rfl
theorem Reads.row {w:World} {F:Nat->Nat->Prop} {rows:List (List D)} {p:Option Addr} {n cap:Nat} (h:Reads w F (.sl rows) (.slice p n cap)) (i:Nat) (hi:i<rows.length) {st:Nat} (hst:rows[i].length=st) :
  ∃ b off,p=some ⟨b,off,none⟩/\∀ j (hj:j<rows[i].length),F b (off+i * st+j)/\∃ u,w.cell? ⟨b,off+i * st+j,none⟩=some u/\Reads w F rows[i][j] u:=by
 cases h with
 | nil p cap=>simp at hi
 | rows st' rows b off cap val hcap hpos hrow hcell hsub=>
  obtain rfl:st'=st:=(hrow i hi).symm.trans hst
  exact⟨b,off,rfl,fun j hj=>⟨(hcell i j hi (by omega)).1,_,(hcell i j hi (by omega)).2,hsub i hi j hj⟩⟩
theorem Reads.mk {w:World} {F:Nat->Nat->Prop} {rows:List (List D)} {st b off cap:Nat} (hcap:rows.length<=cap) (hrow:∀ i (h:i<rows.length),rows[i].length=st)
  (h:∀ i (hi:i<rows.length) j (hj:j<rows[i].length),F b (off+i * st+j)/\∃ u,w.cell? ⟨b,off+i * st+j,none⟩=some u/\Reads w F rows[i][j] u):Reads w F (.sl rows) (.slice (some ⟨b,off,none⟩) rows.length cap):=by
 by_cases hp:0<rows.length
 ·refine .rows st rows b off cap (fun i j=>((w.cell? ⟨b,off+i * st+j,none⟩).getD undef)) hcap hp hrow (fun i j hi hj=>?_) (fun i hi j hj=>?_)
  ·obtain⟨h1,u,h2,_⟩:=h i hi j (by rw [hrow i hi];exact hj)
   exact⟨h1,by simp [h2]⟩
  ·obtain⟨h1,u,h2,h3⟩:=h i hi j hj
   simpa [h2] using h3
 ·obtain rfl:rows=[]:=List.eq_nil_of_length_eq_zero (by omega)
  exact .nil _ _
inductive AV where
 | dead
 | d (x:D)
 | agg (cs:List AV)
 | tup (cs:List AV)
 | box (r j:Nat)
 | elem (r st i j:Nat)
 | own (r len:Nat)
 | at_ (cs:List D)
 | grow (r:Nat) (rows:List (List D))
 | fn (f:FuncId) (cs:List AV)
 | bnd (f:FuncId) (x:AV)
 | mp (r:Nat)
 | mapd (ks:List Value) (cs:List AV)
 | stk (r st ver off len:Nat)
 | selem (r st ver i j:Nat)
mutual
/-- the name r occurs -/
def AV.ment (r:Nat):AV->Bool
 | .dead | .d _ | .at_ _=>false
 | .agg cs | .tup cs | .fn _ cs | .mapd _ cs=>zbq r cs
 | .bnd _ x=>x.ment r
 | .box q _ | .elem q _ _ _ | .own q _ | .grow q _ | .mp q | .stk q _ _ _ _ | .selem q _ _ _ _=>q == r
def zbq (r:Nat):List AV->Bool
 | []=>false
 | c :: cs=>c.ment r || zbq r cs
end
theorem zcU {r:Nat}:∀ {cs:List AV} {i:Nat} (h:i<cs.length),cs[i].ment r=true->zbq r cs=true
 | c :: cs,0,_,h=>by simp only [List.getElem_cons_zero] at h;simp [zbq,h]
 | c :: cs,i+1,hi,h=>by
  simp only [List.getElem_cons_succ] at h
  simp [zbq,zcU (by simpa using hi) h]
structure Gh where
 m:Nat->Nat
 tv:Nat->Value
 F:Nat->Nat->Prop
def zfd (v:Value) (st off len:Nat):Value:=
 match v with
 | .slice p _ cap=>.slice (p.map (·.add (off * st))) len (cap - off)
 | v=>v
def zpV:Value->Nat
 | .slice _ n _=>n
 | _=>0
inductive Has (g:Gh) (tk:Nat->Option Nat) (w:World):AV->Value->Prop
 | dead (v:Value):Has g tk w .dead v
 | d {x:D} {v:Value} (h:Reads w g.F x v):Has g tk w (.d x) v
 | agg (cs:List AV) (vs:List Value) (hl:cs.length=vs.length) (h:∀ i (hi:i<cs.length) (hv:i<vs.length),Has g tk w cs[i] vs[i]):Has g tk w (.agg cs) (.agg vs.toArray)
 | tup (cs:List AV) (vs:List Value) (hl:cs.length=vs.length) (h:∀ i (hi:i<cs.length) (hv:i<vs.length),Has g tk w cs[i] vs[i]):Has g tk w (.tup cs) (.tuple vs.toArray)
 | fn (f:FuncId) (cs:List AV) (vs:List Value) (hl:cs.length=vs.length) (h:∀ i (hi:i<cs.length) (hv:i<vs.length),Has g tk w cs[i] vs[i]):Has g tk w (.fn f cs) (.func (.func f) #[] vs.toArray)
 | bnd (f:FuncId) (x:AV) (v:Value) (h:Has g tk w x v):Has g tk w (.bnd f x) (.func (.func f) #[v] #[])
 | box (r j:Nat):Has g tk w (.box r j) (.pointer (some ⟨g.m r,j,none⟩))
 | elem (r st i j:Nat):Has g tk w (.elem r st i j) (.pointer (some ⟨g.m r,i * st+j,none⟩))
 | own (r len cap:Nat) (h:len<=cap):Has g tk w (.own r len) (.slice (some ⟨g.m r,0,none⟩) len cap)
 | stk (r st ver off len:Nat) (p:Option Addr) (cap:Nat) (hc:len<=cap) (hp:0<len->∃ b o,p=some ⟨b,o,none⟩) (h:∀ n,tk r=some n->ver<=n/\(ver=n -> .slice p len cap=zfd (g.tv r) st off len/\off+len<=zpV (g.tv r))):Has g tk w (.stk r st ver off len) (.slice p len cap)
 | selem (r st ver i j b o:Nat) (h:∀ n,tk r=some n->ver<=n/\(ver=n->(g.tv r).ownBlock=some b/\o=i * st+j)):Has g tk w (.selem r st ver i j) (.pointer (some ⟨b,o,none⟩))
 | at_ (cs:List D) (b o:Nat) (h:∀ k (hk:k<cs.length),g.F b (o+k)/\∃ u,w.cell? ⟨b,o+k,none⟩=some u/\Reads w g.F cs[k] u):Has g tk w (.at_ cs) (.pointer (some ⟨b,o,none⟩))
 | grow (r:Nat) (rows:List (List D)) (v:Value) (h:Reads w g.F (.sl rows) v) (ht:∀ n,tk r=some n->rows.length<=n/\(rows.length=n->v=g.tv r)):Has g tk w (.grow r rows) v
 | mp (r:Nat):Has g tk w (.mp r) (.map (some (g.m r)))
 | mapd (ks:List Value) (cs:List AV) (b:Nat) (es:List MapEntry) (hF:g.F b 0) (hh:w.heap[b]? = some (.map es.toArray es.length)) (hl:ks.length=es.length) (hl2:cs.length=es.length) (hk:∀ i (hi:i<ks.length) (hv:i<es.length),ks[i]=es[i].key)
   (h:∀ i (hi:i<cs.length) (hv:i<es.length),Has g tk w cs[i] es[i].val):Has g tk w (.mapd ks cs) (.map (some b))
structure Ext (New:Nat->Prop) (g:Gh) (tk:Nat->Option Nat) (w:World) (g':Gh) (tk':Nat->Option Nat) (w':World):Prop where
 hF:∀ b o,g.F b o->g'.F b o
 hw:∀ b o u,g.F b o->w.cell? ⟨b,o,none⟩=some u->w'.cell? ⟨b,o,none⟩=some u
 hm:∀ r,¬ New r->g'.m r=g.m r
 ht:∀ r,¬ New r->∀ n',tk' r=some n'->∃ n,tk r=some n/\n<=n'/\(n=n'->g'.tv r=g.tv r)
 hmap:∀ b es c,g.F b 0->w.heap[b]? = some (.map es c)->w'.heap[b]? = some (.map es c)
theorem Has.mono {New:Nat->Prop} {g g':Gh} {tk tk':Nat->Option Nat} {w w':World} (e:Ext New g tk w g' tk' w') {x:AV} {v:Value} (h:Has g tk w x v) (hn:∀ r,x.ment r=true->¬ New r):Has g' tk' w' x v:=by
 induction h with
 | dead v=>exact .dead v
 | d h=>exact .d (h.mono e.hF e.hw)
 | agg cs vs hl _ ih=>exact .agg cs vs hl fun i hi hv=>ih i hi hv fun r hr=>hn r (by rw [AV.ment];exact zcU hi hr)
 | fn f cs vs hl _ ih=>exact .fn f cs vs hl fun i hi hv=>ih i hi hv fun r hr=>hn r (by rw [AV.ment];exact zcU hi hr)
 | bnd f x v _ ih=>exact .bnd f x v (ih fun r hr=>hn r (by rw [AV.ment];exact hr))
 | tup cs vs hl _ ih=>exact .tup cs vs hl fun i hi hv=>ih i hi hv fun r hr=>hn r (by rw [AV.ment];exact zcU hi hr)
 | box r j=>
  have:=e.hm r (hn r (by simp [AV.ment]))
  rw [<- this];exact .box r j
 | elem r st i j=>
  have:=e.hm r (hn r (by simp [AV.ment]))
  rw [<- this];exact .elem r st i j
 | mp r=>
  have:=e.hm r (hn r (by simp [AV.ment]))
  rw [<- this];exact .mp r
 | mapd ks cs b es hF hh hl hl2 hk _ ih=>exact .mapd ks cs b es (e.hF _ _ hF) (e.hmap _ _ _ hF hh) hl hl2 hk fun i hi hv=>ih i hi hv fun r hr=>hn r (by rw [AV.ment];exact zcU hi hr)
 | own r len cap h=>
  have:=e.hm r (hn r (by simp [AV.ment]))
  rw [<- this];exact .own r len cap h
 | stk r st ver off len p cap hc hp h=>
  refine .stk r st ver off len p cap hc hp fun n' hn'=>?_
  obtain⟨n,h1,h2,h3⟩:=e.ht r (hn r (by simp [AV.ment])) n' hn'
  obtain⟨h4,h5⟩:=h n h1
  refine⟨by omega,fun he=>?_⟩
  have hnn:n=n':=by omega
  rw [h3 hnn];exact h5 (by omega)
 | selem r st ver i j b o h=>
  refine .selem r st ver i j b o fun n' hn'=>?_
  obtain⟨n,h1,h2,h3⟩:=e.ht r (hn r (by simp [AV.ment])) n' hn'
  obtain⟨h4,h5⟩:=h n h1
  refine⟨by omega,fun he=>?_⟩
  have hnn:n=n':=by omega
  rw [h3 hnn];exact h5 (by omega)
 | at_ cs b o h=>exact .at_ cs b o fun k hk=>⟨e.hF _ _ (h k hk).1,by
   obtain⟨h1,u,h2,h3⟩:=h k hk
   exact⟨u,e.hw _ _ _ h1 h2,h3.mono e.hF e.hw⟩⟩
 | grow r rows v h ht=>
  refine .grow r rows v (h.mono e.hF e.hw) fun n' hn'=>?_
  obtain⟨n,h1,h2,h3⟩:=e.ht r (hn r (by simp [AV.ment])) n' hn'
  obtain⟨h4,h5⟩:=ht n h1
  refine⟨by omega,fun he=>?_⟩
  have hnn:n=n':=by omega
  rw [h3 hnn];exact h5 (by omega)
end
section
open Go Go.RowKit
inductive Blk where
 | cell (ty:TypeId) (cs:List AV)
 | row (st:Nat) (ty:TypeId) (rows:List (List D))
 | map (tag:Option Nat) (ks:List Value) (cs:List AV)
 | iter (r n:Nat) (seen:List Nat)
 | obj (o:Obj)
structure Tok where
 st:Nat
 ty:TypeId
 len:Nat
 ex:Option (List (List D))
def Tok.n (k:Tok):Nat:=match k.ex with
 | none=>k.len
 | some rows=>rows.length
structure St where
 env:List (Nat × AV)
 blks:List (Nat × Option Blk)
 toks:List (Nat × Option Tok)
def zk {α:Type}:List (Nat × α)->Nat->Option α
 | [],_=>none
 | (k,v) :: r,n=>if k=n then some v else zk r n
def St.get (σ:St) (t:Nat):AV:=(zk σ.env t).getD .dead
def St.blk (σ:St) (r:Nat):Option Blk:=(zk σ.blks r).getD none
def St.tok (σ:St) (r:Nat):Option Tok:=(zk σ.toks r).getD none
def St.tk (σ:St) (r:Nat):Option Nat:=(σ.tok r).map (·.len)
def St.put (σ:St) (t:Option Tmp) (x:AV):St:=
 match t with
 | some t=>{ σ with env:=(t,x) :: σ.env }
 | none=>σ
def St.setBlk (σ:St) (r:Nat) (b:Option Blk):St:={ σ with blks:=(r,b) :: σ.blks }
def St.setTok (σ:St) (r:Nat) (k:Option Tok):St:={ σ with toks:=(r,k) :: σ.toks }
def Blk.ment (r:Nat):Blk->Bool
 | .cell _ cs=>zbq r cs
 | .row _ _ _=>false
 | .map _ _ cs=>zbq r cs
 | .iter q _ _=>q == r
 | .obj _=>false
def Blk.lent:Blk->Bool
 | .map (some _) _ _=>true
 | _=>false
def zdq (r:Nat):Bool:=decide (900<=r) && decide (r<1000)
def zho (r:Nat) (b:Blk):Bool:=b.lent || zdq r
def zai (r:Nat):List (Nat × AV)->Bool
 | []=>false
 | x :: l=>x.2.ment r || zai r l
def zP (r:Nat):List (Nat × Option Blk)->Bool
 | []=>false
 | (_,none) :: l=>zP r l
 | (_,some b) :: l=>b.ment r || zP r l
def zqO (r:Nat):Bool:=decide (900<=r) && decide (r<910)
def St.ment (r:Nat) (σ:St):Bool:=zdq r || (zai r σ.env || zP r σ.blks)
theorem zhl {r:Nat} {x:AV}:∀ {l:List (Nat × AV)} {t:Nat},zk l t=some x->x.ment r=true->zai r l=true
 | [],_,h,_=>by simp [zk] at h
 | (k,y) :: l,t,h,hx=>by
  unfold zk at h
  split at h
  ·cases h;simp [zai,hx]
  ·simp [zai,zhl h hx]
theorem zgx {r:Nat} {b:Blk}:∀ {l:List (Nat × Option Blk)} {t:Nat},zk l t=some (some b)->b.ment r=true->zP r l=true
 | [],_,h,_=>by simp [zk] at h
 | (k,y) :: l,t,h,hx=>by
  unfold zk at h
  split at h
  ·cases h;simp [zP,hx]
  ·have:=zgx h hx
   cases y <;> simp [zP,this]
theorem St.ment_get {σ:St} {r t:Nat} (h:(σ.get t).ment r=true):σ.ment r=true:=by
 unfold St.get at h
 cases hl:zk σ.env t with
 | none=>simp [hl,AV.ment] at h
 | some x=>
  simp only [hl,Option.getD_some] at h
  simp [St.ment,zhl hl h]
theorem St.ment_blk {σ:St} {r q:Nat} {b:Blk} (hb:σ.blk q=some b) (h:b.ment r=true):σ.ment r=true:=by
 unfold St.blk at hb
 cases hl:zk σ.blks q with
 | none=>simp [hl] at hb
 | some x=>
  simp only [hl,Option.getD_some] at hb
  subst hb
  simp [St.ment,zgx hl h]
def zek (g:Gh) (tk:Nat->Option Nat) (w:World) (b:Nat):Blk->Prop
 | .cell ty cs=>∃ arr:List Value,w.heap[b]? = some (.cells arr.toArray ty (0,0))/\arr.length=cs.length/\∀ j (h:j<cs.length) (h':j<arr.length),Has g tk w cs[j] arr[j]
 | .row st ty rows=>∃ arr:List Value,w.heap[b]? = some (.cells arr.toArray ty (0,0))/\(∀ i (h:i<rows.length),rows[i].length=st) /\
   ∀ i (h:i<rows.length) j (hj:j<rows[i].length),∃ u,arr[i * st+j]? = some u/\Reads w g.F rows[i][j] u
 | .map tag ks cs=>(∀ b0,tag=some b0->b=b0)/\∃ es:List MapEntry,w.heap[b]? = some (.map es.toArray es.length)/\ks.length=es.length/\cs.length=es.length/\(∀ i (hi:i<ks.length) (hv:i<es.length),ks[i]=es[i].key/\es[i].born=i)/\∀ i (hi:i<cs.length) (hv:i<es.length),Has g tk w cs[i] es[i].val
 | .iter r n seen=>w.heap[b]? = some (.mapIter (some (g.m r)) n seen.toArray n)
 | .obj o=>w.heap[b]? = some o
theorem zek.lt {g:Gh} {tk:Nat->Option Nat} {w:World} {b:Nat} {k:Blk} (h:zek g tk w b k):b<w.heap.size:=by
 cases k with
 | cell ty cs=>obtain⟨arr,h,_⟩:=h;exact(Array.getElem?_eq_some_iff.1 h).1
 | row st ty rows=>obtain⟨arr,h,_⟩:=h;exact(Array.getElem?_eq_some_iff.1 h).1
 | map tag ks cs=>obtain⟨_,es,h,_⟩:=h;exact(Array.getElem?_eq_some_iff.1 h).1
 | iter r n seen=>exact(Array.getElem?_eq_some_iff.1 h).1
 | obj o=>exact(Array.getElem?_eq_some_iff.1 h).1
theorem zek.mono {New:Nat->Prop} {g g':Gh} {tk tk':Nat->Option Nat} {w w':World} (e:Ext New g tk w g' tk' w') {b:Nat} {k:Blk} (h:zek g tk w b k) (hn:∀ r,k.ment r=true->¬ New r) (hb:w'.heap[b]? = w.heap[b]?):zek g' tk' w' b k:=by
 cases k with
 | cell ty cs=>
  obtain⟨arr,h1,h2,h3⟩:=h
  exact⟨arr,hb.trans h1,h2,fun j hj hj'=>(h3 j hj hj').mono e fun r hr=>hn r (by rw [Blk.ment];exact zcU hj hr)⟩
 | row st ty rows=>
  obtain⟨arr,h1,h2,h3⟩:=h
  exact⟨arr,hb.trans h1,h2,fun i hi j hj=>by
   obtain⟨u,h4,h5⟩:=h3 i hi j hj
   exact⟨u,h4,h5.mono e.hF e.hw⟩⟩
 | map tag ks cs=>
  obtain⟨h0,es,h1,h2,h3,h4,h5⟩:=h
  exact⟨h0,es,hb.trans h1,h2,h3,h4,fun i hi hv=>(h5 i hi hv).mono e fun r hr=>hn r (by rw [Blk.ment];exact zcU hi hr)⟩
 | iter r n seen=>
  have:=e.hm r (hn r (by simp [Blk.ment]))
  show w'.heap[b]? = some (.mapIter (some (g'.m r)) n seen.toArray n)
  rw [this,hb];exact h
 | obj o=>exact hb.trans h
structure BelowX (B:Nat) (X:Nat->Prop) (w w':World):Prop where
 os:w'.os=w.os
 tape:w'.tape=w.tape
 output:w'.output=w.output
 size:w.heap.size<=w'.heap.size
 block:∀ k,k<B->¬ X k->w'.heap[k]? = w.heap[k]?
theorem BelowX.of {B:Nat} {X:Nat->Prop} {w w':World} (h:Below B w w'):BelowX B X w w':=⟨h.os,h.tape,h.output,h.size,fun k hk _=>h.block k hk⟩
theorem BelowX.trans {B:Nat} {X:Nat->Prop} {a b c:World} (h:BelowX B X a b) (k:BelowX B X b c):BelowX B X a c:=
 ⟨k.os.trans h.os,k.tape.trans h.tape,k.output.trans h.output,Nat.le_trans h.size k.size,fun i hi hx=>(k.block i hi hx).trans (h.block i hi hx)⟩
theorem BelowX.one {B:Nat} {X:Nat->Prop} {w w':World} {m:Nat} (hm:B<=m\/X m) (hos:w'.os=w.os) (ht:w'.tape=w.tape) (ho:w'.output=w.output) (hs:w.heap.size<=w'.heap.size) (hb:∀ b,b≠m->w'.heap[b]? = w.heap[b]?):BelowX B X w w':=
 ⟨hos,ht,ho,hs,fun k hk hx=>hb k fun e=>by
  subst e
  rcases hm with h | h
  ·omega
  ·exact hx h⟩
structure Glob (P:Program) (w:World):Prop where
 low:P.globals.size<=w.heap.size
 tab : ∀ g,P.globalNamed "internal/strconv.uint64pow10" = some g -> Lib.TabIs P w "internal/strconv.uint64pow10" .u64 Lib.pow10Tab
 most : ∀ g,P.globalNamed "internal/bytealg.MaxLen" = some g -> ∃ m,w.cell? ⟨g,0,none⟩ = some (.int .i64 m)
theorem znn {P:Program} {n:String} {g:Nat} (h:P.globalNamed n=some g):g<P.globals.size:=by
 unfold Program.globalNamed at h
 split at h
 ·rename_i g' heq
  cases h
  exact List.mem_range.1 (List.mem_filter.1 (heq ▸ List.mem_singleton.2 rfl)).1
 ·cases h
theorem Glob.keep {P:Program} {X:Nat->Prop} {w w':World} (h:Glob P w) (hb:BelowX w.heap.size X w w') (hX:∀ x,X x->P.globals.size<=x):Glob P w':=by
 have hlow:=h.low
 have key:∀ n g,P.globalNamed n=some g->w'.heap[g]? = w.heap[g]?:=fun n g hg=>by
  have h1:=znn hg
  refine hb.block g (by omega) fun hx=>?_
  have:=hX g hx
  omega
 refine⟨by have:=hb.size;omega,fun g hg=>?_,fun g hg=>?_⟩
 ·have h1:=h.tab g hg
  unfold Lib.TabIs World.var? at h1 ⊢
  rw [hg] at h1 ⊢
  simp only [Option.bind_some] at h1 ⊢
  rw [key _ g hg]
  exact h1
 ·obtain⟨m,hm⟩:=h.most g hg
  refine⟨m,?_⟩
  rw [<- hm]
  exact World.cell?_of_block (w:=w) (a:=⟨g,0,none⟩) (key _ g hg)
structure Base (P:Program) where
 B:Nat
 w0:World
 F0:Nat->Nat->Prop
 N:Nat
 X:Nat->Prop
 glob:∀ w',BelowX B X w0 w'->Glob P w'
 loB:P.globals.size<=B
 loX:∀ x,X x->P.globals.size<=x
 fx:Nat->Bool
 m0:Nat->Nat
 fxN:∀ r,fx r=true->zqO r=true
 ro:Option Nat
 tk0:Nat->Option Nat
 tv0:Nat->Value
 tkN:∀ r n,tk0 r=some n->zdq r=true
 ds:List Deferred
 kv:Nat->Value
 kvU:∀ t,t<1000000->kv t=undef
def Base.val {P:Program} (A:Base P) (a:Act) (t:Nat):Value:=if t<A.N then a.tmps.getD t undef else A.kv t
def Base.fe {P:Program} (A:Base P):Fence:={ Fence.wide with round:=A.ro }
theorem zxc {P:Program} {ro:Option Nat} {ρ:Operand->Value} {o:Oper} {w:World} {r:Result Next} (hr:(execOp ρ o).run P w=r) (hnd:∀ d w',r ≠ .ok (.defer d) w'):(Oper.semAt ro ρ o).run P w=r:=by
 cases ro with
 | none=>exact hr
 | some l=>
  by_cases hd:∃ c,o.op = .defer c
  ·obtain⟨c,hc⟩:=hd
   simp only [execOp,hc,Sem.run_bind] at hr
   simp only [Oper.semAt,hc,Sem.run_bind]
   cases h1:(resolve ρ c o.type).run P w with
   | ok d w'=>
    rw [h1] at hr
    exact absurd hr.symm (hnd d w')
   | halt h w'=>rw [h1] at hr;exact hr
  ·rw [Oper.semAt_eq _ _ _ fun c hc=>hd ⟨c,hc⟩];exact hr
def wpE {P:Program} (A:Base P) (o:Oper) (a:Act) (w:World) (K:Act->World->Prop) (Q:Exit->Act->World->Prop):Prop:=Oper.wpIn A.fe 0 P o a w K Q
theorem zjV {P:Program} {A:Base P} {o:Oper} {a:Act} {w:World} {K:Act->World->Prop} {Q:Exit->Act->World->Prop} {r:Result Next} (hr:(execOp a.eval o).run P w=r) (hnd:∀ d w',r ≠ .ok (.defer d) w') (h:o.uponIn A.fe 0 P a K Q r):wpE A o a w K Q:=
 ⟨fun _ _=>trivial,by rw [zxc hr hnd];exact h⟩
theorem zAG {P:Program} {A:Base P} {f:FuncId} {args:Array Value} {w:World} {R:Ending->World->Prop} (h:Calls P f args w R):CallsIn A.fe 0 P f args w R:=by
 have h1:=(callsIn_wide (n:=0)).2 h
 unfold Base.fe
 cases A.ro with
 | none=>exact h1
 | some l=>exact CallsIn.inRound l h1
theorem zcC {P:Program} {A:Base P} {o:Oper} {a:Act} {w w':World} {K:Act->World->Prop} {Q:Exit->Act->World->Prop} {f:FuncId} {args:Array Value} (hr:(execOp a.eval o).run P w = .ok (.enter f args) w')
  (h:Calls P f args w' fun
   | .returned v,w''=>K (a.put o.dst v) w''
   | .panicked chain,w''=>Q (.panic chain) a w''
   | .outgrown,_=>LetsOut Q):wpE A o a w K Q:=
 zjV hr (fun _ _ h=>by cases h) ⟨fun h=>by simp [Base.fe,Fence.wide] at h,zAG h⟩
def St.free {P:Program} (A:Base P) (σ:St) (r:Nat):Prop:=(∀ t,(σ.get t).ment r=false)/\(∀ q b,σ.blk q=some b->b.ment r=false)/\A.fx r=false/\A.tk0 r=none
theorem St.free_of {P:Program} {A:Base P} {σ:St} {r:Nat} (h:σ.ment r=false):σ.free A r:=by
 have hl:zdq r=false:=by
  unfold St.ment at h
  rw [Bool.or_eq_false_iff] at h;exact h.1
 refine⟨fun t=>?_,fun q b hb=>?_,?_,?_⟩
 ·cases hc:(σ.get t).ment r with
  | false=>rfl
  | true=>rw [St.ment_get hc] at h;cases h
 ·cases hc:b.ment r with
  | false=>rfl
  | true=>rw [St.ment_blk hb hc] at h;cases h
 ·cases hf:A.fx r with
  | false=>rfl
  | true=>
   have:=A.fxN r hf
   simp only [zqO,zdq,Bool.and_eq_true,Bool.and_eq_false_iff,decide_eq_true_eq,decide_eq_false_iff_not] at this hl
   omega
 ·cases hf:A.tk0 r with
  | none=>rfl
  | some n=>rw [A.tkN r n hf] at hl;cases hl
theorem St.free_as {P:Program} {A:Base P} {σ:St} {r:Nat} (hA:A.fx r=false) (hT:A.tk0 r=none) (h:(zai r σ.env || zP r σ.blks)=false):σ.free A r:=by
 rw [Bool.or_eq_false_iff] at h
 refine⟨fun t=>?_,fun q b hb=>?_,hA,hT⟩
 ·cases hc:(σ.get t).ment r with
  | false=>rfl
  | true=>
   unfold St.get at hc
   cases hl:zk σ.env t with
   | none=>simp [hl,AV.ment] at hc
   | some x=>simp only [hl,Option.getD_some] at hc;rw [zhl hl hc] at h;cases h.1
 ·cases hc:b.ment r with
  | false=>rfl
  | true=>
   unfold St.blk at hb
   cases hl:zk σ.blks q with
   | none=>simp [hl] at hb
   | some x=>simp only [hl,Option.getD_some] at hb;subst hb;rw [zgx hl hc] at h;cases h.2
def zhB {P:Program} (A:Base P) (g:Gh) (w:World) (k:Tok) (v:Value):Prop:=
 ∃ xs,w.ownsRow 0 k.ty k.st v k.n xs/\(∀ x,v.ownBlock=some x->A.B<=x\/(A.X x/\k.ex≠none)) /\
  ∀ rows,k.ex=some rows->(∀ i (h:i<rows.length),rows[i].length=k.st)/\∀ i (h:i<rows.length) j (hj:j<rows[i].length),∃ u,xs[i * k.st+j]? = some u/\Reads w g.F rows[i][j] u
structure Ok {P:Program} (A:Base P) (σ:St) (g:Gh) (a:Act) (w:World):Prop where
 below:BelowX A.B A.X A.w0 w
 hB:A.B<=w.heap.size
 F0:∀ b o,A.F0 b o->g.F b o
 Fn:∀ b o,g.F b o->A.F0 b o\/A.B<=b
 Fb:∀ b o,g.F b o->b<w.heap.size
 defers:a.defers=A.ds
 size:a.tmps.size=A.N
 env:∀ t,Has g σ.tk w (σ.get t) (A.val a t)
 blk:∀ r b,σ.blk r=some b->(A.B<=g.m r\/(A.X (g.m r)/\zho r b=true))/\zek g σ.tk w (g.m r) b
 Fblk:∀ r b,σ.blk r=some b->∀ o,¬ g.F (g.m r) o
 inj:∀ r b r' b',σ.blk r=some b->σ.blk r'=some b'->r≠r'->g.m r≠g.m r'
 tok:∀ r k,σ.tok r=some k->zhB A g w k (g.tv r)
 Ftok:∀ r k x,σ.tok r=some k->(g.tv r).ownBlock=some x->∀ o,g.F x o->k.ex=none/\o<k.len * k.st
 tokblk:∀ r k r' b x,σ.tok r=some k->σ.blk r'=some b->(g.tv r).ownBlock=some x->x≠g.m r'
 toktok:∀ r k r' k' x,σ.tok r=some k->σ.tok r'=some k'->r≠r'->(g.tv r).ownBlock=some x->(g.tv r').ownBlock≠some x
 fix:∀ r,A.fx r=true->g.m r=A.m0 r
 hist:∀ r n0,A.tk0 r=some n0->∀ n,σ.tk r=some n->n0<=n/\(n=n0->g.tv r=A.tv0 r)
variable {P:Program} {A:Base P} {σ:St} {g:Gh} {a:Act} {w:World}
theorem zhB.lt {k:Tok} {v:Value} (h:zhB A g w k v) {x:Nat} (hx:v.ownBlock=some x):x<w.heap.size:=by
 obtain⟨xs,h1,_⟩:=h
 exact(h1.lt x hx).2
theorem zhB.own {k:Tok} {v:Value} (h:zhB A g w k v) (hk:k.ex=none):∃ xs,w.ownsRow A.B k.ty k.st v k.len xs:=by
 obtain⟨xs,h1,h2,_⟩:=h
 have hn:k.n=k.len:=by unfold Tok.n;rw [hk]
 rw [hn] at h1
 refine⟨xs,h1.1,h1.2.imp id fun⟨b,cap,cur,e,_,r⟩=>⟨b,cap,cur,e,?_,r⟩⟩
 rcases h2 b (by rw [e];rfl) with h | h
 ·exact h
 ·exact absurd hk h.2
theorem zhB.of_own {k:Tok} {v:Value} (hk:k.ex=none) (h:∃ xs,w.ownsRow A.B k.ty k.st v k.len xs):zhB A g w k v:=by
 obtain⟨xs,h1⟩:=h
 have hn:k.n=k.len:=by unfold Tok.n;rw [hk]
 refine⟨xs,?_,fun x hx=>.inl (h1.lt x hx).1,fun rows hr=>by rw [hk] at hr;cases hr⟩
 rw [hn]
 exact⟨h1.1,h1.2.imp id fun⟨b,cap,cur,e,_,r⟩=>⟨b,cap,cur,e,Nat.zero_le _,r⟩⟩
theorem St.get_put (σ:St) (t:Option Tmp) (x:AV) (n:Nat):(σ.put t x).get n=if t=some n then x else σ.get n:=by
 cases t with
 | none=>simp [St.put]
 | some t=>
  simp only [St.put,St.get,zk,Option.some.injEq]
  split <;> rfl
theorem St.blk_put (σ:St) (t:Option Tmp) (x:AV):(σ.put t x).blk=σ.blk:=by cases t <;> rfl
theorem St.tok_put (σ:St) (t:Option Tmp) (x:AV):(σ.put t x).tok=σ.tok:=by cases t <;> rfl
theorem St.tk_put (σ:St) (t:Option Tmp) (x:AV):(σ.put t x).tk=σ.tk:=by cases t <;> rfl
theorem zAA (a:Act) (t:Option Tmp) (v:Value) (n:Nat) (h:n<a.tmps.size):(a.put t v).tmps.getD n undef=if t=some n then v else a.tmps.getD n undef:=by
 cases t with
 | none=>simp [Act.put]
 | some t=>
  simp only [Act.put,Array.getD_eq_getD_getElem?,Array.getElem?_setIfInBounds,Option.some.injEq]
  by_cases e:t=n
  ·subst e;simp [h]
  ·simp [e]
theorem Base.val_of (hk:∀ t,A.kv t=undef) (hs:a.tmps.size=A.N) (t:Nat):A.val a t=a.tmps.getD t undef:=by
 unfold Base.val
 split
 ·rfl
 ·rw [hk,Array.getD_eq_getD_getElem?,Array.getElem?_eq_none (by omega)];rfl
theorem Ok.tmp (h:Ok A σ g a w) {t:Nat} (ht:t<1000000):Has g σ.tk w (σ.get t) (a.tmps.getD t undef):=by
 have he:=h.env t
 have hs:=h.size
 unfold Base.val at he
 split at he
 ·exact he
 ·rw [A.kvU t ht] at he
  rwa [Array.getD_eq_getD_getElem?,Array.getElem?_eq_none (by omega)]
theorem Ok.put (h:Ok A σ g a w) (t:Option Tmp) (ht:∀ n:Nat,t=some n->n<A.N) {x:AV} {v:Value} (hx:Has g σ.tk w x v):Ok A (σ.put t x) g (a.put t v) w:=by
 have e1:(a.put t v).defers=a.defers:=by cases t <;> rfl
 have e2:(a.put t v).tmps.size=a.tmps.size:=by cases t <;> simp [Act.put]
 refine⟨h.below,h.hB,h.F0,h.Fn,h.Fb,e1.trans h.defers,e2.trans h.size,fun n=>?_,?_,?_,?_,?_,?_,?_,?_,h.fix,by rw [St.tk_put];exact h.hist⟩
 ·rw [St.tk_put,St.get_put]
  have he:=h.env n
  have hs:=h.size
  unfold Base.val at he ⊢
  by_cases hn:n<A.N
  ·rw [if_pos hn] at he ⊢
   rw [zAA a t v n (by omega)]
   by_cases e:t=some n
   ·rw [if_pos e,if_pos e];exact hx
   ·rw [if_neg e,if_neg e];exact he
  ·rw [if_neg hn] at he ⊢
   rw [if_neg fun e=>hn (ht n e)]
   exact he
 ·rw [St.blk_put,St.tk_put];exact h.blk
 ·rw [St.blk_put];exact h.Fblk
 ·rw [St.blk_put];exact h.inj
 ·rw [St.tok_put];exact h.tok
 ·rw [St.tok_put];exact h.Ftok
 ·rw [St.tok_put,St.blk_put];exact h.tokblk
 ·rw [St.tok_put];exact h.toktok
end
section
open Go Go.RowKit
def zcZ {α:Type} (f:Nat->α) (r:Nat) (v:α):Nat->α:=fun x=>if x=r then v else f x
theorem zp {α:Type} (f:Nat->α) (r:Nat) (v:α):zcZ f r v r=v:=by simp [zcZ]
theorem zw {α:Type} {f:Nat->α} {r x:Nat} {v:α} (h:x≠r):zcZ f r v x=f x:=by simp [zcZ,h]
theorem St.blk_setBlk (σ:St) (r q:Nat) (b:Option Blk):(σ.setBlk r b).blk q=if r=q then b else σ.blk q:=by
 by_cases h:r=q <;> simp [St.blk,St.setBlk,zk,h]
theorem St.tok_setTok (σ:St) (r q:Nat) (b:Option Tok):(σ.setTok r b).tok q=if r=q then b else σ.tok q:=by
 by_cases h:r=q <;> simp [St.tok,St.setTok,zk,h]
theorem St.tk_some {σ:St} {r n:Nat} (h:σ.tk r=some n):∃ k,σ.tok r=some k/\k.len=n:=by
 unfold St.tk at h
 cases hk:σ.tok r with
 | none=>simp [hk] at h
 | some k=>simp only [hk,Option.map_some,Option.some.injEq] at h;exact⟨k,rfl,h⟩
theorem zfu {w w':World} {base:Nat} {e:TypeId} {size:Nat} {v:Value} {n:Nat} {xs:List Value} (h:w.ownsRow base e size v n xs) (hb:∀ x,v.ownBlock=some x->w'.heap[x]? = w.heap[x]?):w'.ownsRow base e size v n xs:=by
 refine⟨h.1,?_⟩
 rcases h.2 with h2 | ⟨g,cap,cur,rfl,hg,hh,r⟩
 ·exact .inl h2
 ·exact .inr ⟨g,cap,cur,rfl,hg,(hb g rfl).trans hh,r⟩
theorem zaZ {w w':World} {b o:Nat} (h:w'.heap[b]? = w.heap[b]?):w'.cell? ⟨b,o,none⟩=w.cell? ⟨b,o,none⟩:=World.cell?_of_block (w:=w) (a:=⟨b,o,none⟩) h
variable {P:Program} {A:Base P} {σ:St} {g:Gh} {a:Act} {w:World}
theorem zhB.mono {P:Program} {A:Base P} {New:Nat->Prop} {g g':Gh} {tk tk':Nat->Option Nat} {w w':World} (e:Ext New g tk w g' tk' w') {k:Tok} {v:Value} (h:zhB A g w k v) (hb:∀ x,v.ownBlock=some x->w'.heap[x]? = w.heap[x]?):zhB A g' w' k v:=by
 obtain⟨xs,h1,h2,h3⟩:=h
 exact⟨xs,zfu h1 hb,h2,fun rows hr=>⟨(h3 rows hr).1,fun i hi j hj=>by
  obtain⟨u,h4,h5⟩:=(h3 rows hr).2 i hi j hj
  exact⟨u,h4,h5.mono e.hF e.hw⟩⟩⟩
theorem Ok.grown (h:Ok A σ g a w) {w':World} (hb:Below w.heap.size w w') (F':Nat->Nat->Prop) (hF:∀ b o,g.F b o->F' b o) (hN:∀ b o,F' b o->g.F b o\/(w.heap.size<=b/\b<w'.heap.size)) :
  Ok A σ { g with F:=F' } a w'/\Ext (fun _=>False) g σ.tk w { g with F:=F' } σ.tk w':=by
 have hB:=h.hB
 have hs:=hb.size
 have e:Ext (fun _=>False) g σ.tk w { g with F:=F' } σ.tk w':=⟨hF,fun b o u hf hu=>(zaZ (hb.block b (h.Fb b o hf))).trans hu,fun _ _=>rfl,fun r _ n' hn'=>⟨n',hn',Nat.le_refl _,fun _=>rfl⟩,fun b es c hf hu=>(hb.block b (h.Fb b 0 hf)).trans hu⟩
 refine⟨⟨h.below.trans (.of (hb.mono hB)),by omega,fun b o hf=>hF _ _ (h.F0 b o hf),fun b o hf=>?_,fun b o hf=>?_,h.defers,h.size,fun t=>(h.env t).mono e (fun _ _=>id),fun r b hr=>⟨(h.blk r b hr).1,(h.blk r b hr).2.mono e (fun _ _=>id) (hb.block _ (h.blk r b hr).2.lt)⟩,fun r b hr o hf=>?_,h.inj,fun r k hr=>?_,fun r k x hr hx o hf=>?_,h.tokblk,h.toktok,h.fix,h.hist⟩,e⟩
 ·rcases hN b o hf with h1 | h1
  ·exact h.Fn b o h1
  ·right;omega
 ·rcases hN b o hf with h1 | h1
  ·have:=h.Fb b o h1;omega
  ·omega
 ·rcases hN _ o hf with h1 | h1
  ·exact h.Fblk r b hr o h1
  ·have:g.m r<w.heap.size:=(h.blk r b hr).2.lt
   have h2:w.heap.size<=g.m r:=h1.1
   omega
 ·exact(h.tok r k hr).mono e fun x hx'=>hb.block x ((h.tok r k hr).lt hx')
 ·rcases hN x o hf with h1 | h1
  ·exact h.Ftok r k x hr hx o h1
  ·have:=(h.tok r k hr).lt hx;omega
theorem Ok.sub (h:Ok A σ g a w) {σ':St} (hg:∀ t,σ'.get t = .dead\/σ'.get t=σ.get t) (hb:∀ r,σ'.blk r=none\/σ'.blk r=σ.blk r) (ht:∀ r,σ'.tok r=none\/σ'.tok r=σ.tok r):Ok A σ' g a w:=by
 have htk:∀ r n,σ'.tk r=some n->σ.tk r=some n:=fun r n hr=>by
  unfold St.tk at hr ⊢
  rcases ht r with h1 | h1
  ·rw [h1] at hr;cases hr
  ·rw [h1] at hr;exact hr
 have e:Ext (fun _=>False) g σ.tk w g σ'.tk w:=⟨fun _ _ h=>h,fun _ _ _ _ h=>h,fun _ _=>rfl,fun r _ n' hn'=>⟨n',htk r n' hn',Nat.le_refl _,fun _=>rfl⟩,fun _ _ _ _ h=>h⟩
 have hb':∀ r b,σ'.blk r=some b->σ.blk r=some b:=fun r b hr=>by
  rcases hb r with h1 | h1
  ·rw [h1] at hr;cases hr
  ·rw [h1] at hr;exact hr
 have ht':∀ r k,σ'.tok r=some k->σ.tok r=some k:=fun r b hr=>by
  rcases ht r with h1 | h1
  ·rw [h1] at hr;cases hr
  ·rw [h1] at hr;exact hr
 refine⟨h.below,h.hB,h.F0,h.Fn,h.Fb,h.defers,h.size,fun t=>?_,fun r b hr=>⟨(h.blk r b (hb' r b hr)).1,(h.blk r b (hb' r b hr)).2.mono e (fun _ _=>id) rfl⟩,fun r b hr=>h.Fblk r b (hb' r b hr),fun r b r' b' hr hr'=>h.inj r b r' b' (hb' r b hr) (hb' r' b' hr'),fun r k hr=>h.tok r k (ht' r k hr),fun r k x hr=>h.Ftok r k x (ht' r k hr),fun r k r' b x hr hr'=>h.tokblk r k r' b x (ht' r k hr) (hb' r' b hr'),fun r k r' k' x hr hr'=>h.toktok r k r' k' x (ht' r k hr) (ht' r' k' hr'),h.fix,fun r n0 h0 n hn=>h.hist r n0 h0 n (htk r n hn)⟩
 rcases hg t with h1 | h1
 ·rw [h1];exact .dead _
 ·rw [h1];exact(h.env t).mono e (fun _ _=>id)
theorem Ok.drew (h:Ok A σ g a w):Ok A σ g a w.drew:=
 (h.grown (w':=w.drew) ((Below.refl _ _).drew) g.F (fun _ _ h=>h) (fun _ _ h=>.inl h)).1
theorem Ok.addBlk (h:Ok A σ g a w) {r b:Nat} {k:Blk} (hr:σ.free A r) (hB:A.B<=b\/(A.X b/\zho r k=true)) (hk:zek g σ.tk w b k) (hkr:k.ment r=false) (hF:∀ o,¬ g.F b o)
  (hblk:∀ r' k',σ.blk r'=some k'->g.m r'≠b) (htok:∀ r' k',σ.tok r'=some k'->(g.tv r').ownBlock≠some b) :
  Ok A (σ.setBlk r (some k)) { g with m:=zcZ g.m r b } a w:=by
 have e:Ext (fun q=>q=r) g σ.tk w { g with m:=zcZ g.m r b } σ.tk w:=⟨fun _ _ h=>h,fun _ _ _ _ h=>h,fun q hq=>zw hq,fun q _ n' hn'=>⟨n',hn',Nat.le_refl _,fun _=>rfl⟩,fun _ _ _ _ h=>h⟩
 refine⟨h.below,h.hB,h.F0,h.Fn,h.Fb,h.defers,h.size,fun t=>(h.env t).mono e (fun q hq e=>by subst e;rw [hr.1] at hq;cases hq),fun q b' hq=>?_,fun q b' hq o=>?_,fun q b1 q' b2 hq hq' hne=>?_,h.tok,h.Ftok,fun q k1 q' b1 x hq hq' hx=>?_,h.toktok,fun q hq=>(zw (fun e=>by rw [e,hr.2.2.1] at hq;cases hq)).trans (h.fix q hq),h.hist⟩
 ·rw [St.blk_setBlk] at hq
  by_cases e1:r=q
  ·rw [if_pos e1] at hq
   cases hq;subst e1
   exact⟨by simp only [zp];exact hB,by
    simp only [zp]
    exact hk.mono e (fun q hq e1=>by subst e1;rw [hkr] at hq;cases hq) rfl⟩
  ·rw [if_neg e1] at hq
   have h1:=h.blk q b' hq
   simp only [zw (fun e=>e1 e.symm)]
   exact⟨h1.1,h1.2.mono e (fun q' hq' e=>by subst e;rw [hr.2.1 _ _ hq] at hq';cases hq') rfl⟩
 ·rw [St.blk_setBlk] at hq
  by_cases e1:r=q
  ·subst e1;simp only [zp];exact hF o
  ·rw [if_neg e1] at hq
   simp only [zw (fun e=>e1 e.symm)]
   exact h.Fblk q b' hq o
 ·rw [St.blk_setBlk] at hq hq'
  by_cases e1:r=q
  ·have e2:¬ r=q':=fun e2=>hne (e1.symm.trans e2)
   rw [if_neg e2] at hq'
   subst e1
   simp only [zp,zw (fun e=>e2 e.symm)]
   exact fun e=>hblk q' b2 hq' e.symm
  ·rw [if_neg e1] at hq
   by_cases e2:r=q'
   ·subst e2
    simp only [zp,zw (fun e=>e1 e.symm)]
    exact hblk q b1 hq
   ·rw [if_neg e2] at hq'
    simp only [zw (fun e=>e1 e.symm),zw (fun e=>e2 e.symm)]
    exact h.inj q b1 q' b2 hq hq' hne
 ·rw [St.blk_setBlk] at hq'
  by_cases e1:r=q'
  ·subst e1
   simp only [zp]
   exact fun e=>htok q k1 hq (by rw [<- e];exact hx)
  ·rw [if_neg e1] at hq'
   simp only [zw (fun e=>e1 e.symm)]
   exact h.tokblk q k1 q' b1 x hq hq' hx
theorem Ok.newBlk (h:Ok A σ g a w) {r:Nat} {k:Blk} {o:Obj} (hr:σ.free A r) (hkr:k.ment r=false) (hk:zek g σ.tk (w.alloc o) w.heap.size k) :
  Ok A (σ.setBlk r (some k)) { g with m:=zcZ g.m r w.heap.size } a (w.alloc o):=by
 have hb:Below w.heap.size w (w.alloc o):=(Below.refl _ _).alloc (Nat.le_refl _) _
 have h1:=(h.grown hb g.F (fun _ _ h=>h) (fun _ _ h=>.inl h)).1
 refine h1.addBlk hr (.inl h.hB) hk hkr (fun o hf=>?_) (fun q k' hq e=>?_) (fun q k' hq e=>?_)
 ·have:=h.Fb _ o hf;omega
 ·have e':g.m q=w.heap.size:=e
  have:=(h.blk q k' hq).2.lt;omega
 ·have:=(h.tok q k' hq).lt e;omega
theorem Ok.addTok (h:Ok A σ g a w) {r:Nat} {k:Tok} {v:Value} (hr:σ.free A r) (hv:zhB A g w k v) (hF:∀ x,v.ownBlock=some x->∀ o,g.F x o->k.ex=none/\o<k.len * k.st)
  (hblk:∀ r' k' x,σ.blk r'=some k'->v.ownBlock=some x->x≠g.m r') (htok:∀ r' k' x,σ.tok r'=some k'->v.ownBlock=some x->(g.tv r').ownBlock≠some x) :
  Ok A (σ.setTok r (some k)) { g with tv:=zcZ g.tv r v } a w:=by
 have htk:∀ q,q≠r->(σ.setTok r (some k)).tk q=σ.tk q:=fun q hq=>by
  unfold St.tk;rw [St.tok_setTok,if_neg (fun e=>hq e.symm)]
 have e:Ext (fun q=>q=r) g σ.tk w { g with tv:=zcZ g.tv r v } (σ.setTok r (some k)).tk w:=⟨fun _ _ h=>h,fun _ _ _ _ h=>h,fun q _=>rfl,fun q hq n' hn'=>⟨n',by rw [htk q hq] at hn';exact hn',Nat.le_refl _,fun _=>zw hq⟩,fun _ _ _ _ h=>h⟩
 refine⟨h.below,h.hB,h.F0,h.Fn,h.Fb,h.defers,h.size,fun t=>(h.env t).mono e (fun q hq e=>by subst e;rw [hr.1] at hq;cases hq),fun q b hq=>⟨(h.blk q b hq).1,(h.blk q b hq).2.mono e (fun q' hq' e=>by subst e;rw [hr.2.1 _ _ hq] at hq';cases hq') rfl⟩,h.Fblk,h.inj,fun q k' hq=>?_,fun q k' x hq hx=>?_,fun q k' q' b x hq hq' hx=>?_,fun q k1 q' k2 x hq hq' hne hx=>?_,h.fix,fun q n0 h0 n hn=>by
   have hq:q≠r:=fun e=>by rw [e,hr.2.2.2] at h0;cases h0
   rw [htk q hq] at hn
   simp only [zw hq]
   exact h.hist q n0 h0 n hn⟩
 ·rw [St.tok_setTok] at hq
  by_cases e1:r=q
  ·rw [if_pos e1] at hq;cases hq;subst e1;simp only [zp];exact hv.mono e fun _ _=>rfl
  ·rw [if_neg e1] at hq;simp only [zw (fun e=>e1 e.symm)];exact(h.tok q k' hq).mono e fun _ _=>rfl
 ·rw [St.tok_setTok] at hq
  by_cases e1:r=q
  ·rw [if_pos e1] at hq;cases hq;subst e1;simp only [zp] at hx;exact hF x hx
  ·rw [if_neg e1] at hq;simp only [zw (fun e=>e1 e.symm)] at hx;exact h.Ftok q k' x hq hx
 ·rw [St.tok_setTok] at hq
  by_cases e1:r=q
  ·rw [if_pos e1] at hq;cases hq;subst e1;simp only [zp] at hx;exact hblk q' b x hq' hx
  ·rw [if_neg e1] at hq;simp only [zw (fun e=>e1 e.symm)] at hx;exact h.tokblk q k' q' b x hq hq' hx
 ·rw [St.tok_setTok] at hq hq'
  by_cases e1:r=q
  ·have e2:¬ r=q':=fun e2=>hne (e1.symm.trans e2)
   rw [if_neg e2] at hq'
   subst e1
   simp only [zp] at hx
   simp only [zw (fun e=>e2 e.symm)]
   exact htok q' k2 x hq' hx
  ·rw [if_neg e1] at hq
   simp only [zw (fun e=>e1 e.symm)] at hx
   by_cases e2:r=q'
   ·subst e2
    simp only [zp]
    exact fun e=>htok q k1 x hq e hx
   ·rw [if_neg e2] at hq'
    simp only [zw (fun e=>e2 e.symm)]
    exact h.toktok q k1 q' k2 x hq hq' hne hx
theorem Ok.write (h:Ok A σ g a w) {r:Nat} {k k':Blk} {w':World} (hr:σ.blk r=some k) (hb:∀ b,b≠g.m r->w'.heap[b]? = w.heap[b]?) (hs:w'.heap.size=w.heap.size) (hbel:BelowX A.B A.X w w')
  (hk:zek g σ.tk w' (g.m r) k') (hl:k.lent=k'.lent:=by rfl):Ok A (σ.setBlk r (some k')) g a w'/\Ext (fun _=>False) g σ.tk w g σ.tk w':=by
 have hFc:∀ b o,g.F b o->w'.cell? ⟨b,o,none⟩=w.cell? ⟨b,o,none⟩:=fun b o hf=>zaZ (hb b fun e=>h.Fblk r k hr o (e ▸ hf))
 have e:Ext (fun _=>False) g σ.tk w g σ.tk w':=⟨fun _ _ h=>h,fun b o u hf hu=>(hFc b o hf).trans hu,fun _ _=>rfl,fun q _ n' hn'=>⟨n',hn',Nat.le_refl _,fun _=>rfl⟩,fun b es c hf hu=>(hb b fun e=>h.Fblk r k hr 0 (e ▸ hf)).trans hu⟩
 refine⟨⟨h.below.trans hbel,by rw [hs];exact h.hB,h.F0,h.Fn,fun b o hf=>by rw [hs];exact h.Fb b o hf,h.defers,h.size,fun t=>(h.env t).mono e (fun _ _=>id),fun q b hq=>?_,fun q b hq=>?_,fun q b1 q' b2 hq hq' hne=>?_,fun q k1 hq=>?_,h.Ftok,fun q k1 q' b x hq hq' hx=>?_,h.toktok,h.fix,h.hist⟩,e⟩
 ·rw [St.blk_setBlk] at hq
  by_cases e1:r=q
  ·rw [if_pos e1] at hq;cases hq;subst e1;exact⟨by unfold zho;rw [<- hl];exact(h.blk r k hr).1,hk⟩
  ·rw [if_neg e1] at hq
   exact⟨(h.blk q b hq).1,(h.blk q b hq).2.mono e (fun _ _=>id) (hb _ (h.inj q b r k hq hr (fun e=>e1 e.symm)))⟩
 ·rw [St.blk_setBlk] at hq
  by_cases e1:r=q
  ·subst e1;exact h.Fblk r k hr
  ·rw [if_neg e1] at hq;exact h.Fblk q b hq
 ·rw [St.blk_setBlk] at hq hq'
  have h1:∃ k1,σ.blk q=some k1:=by
   by_cases e1:r=q
   ·subst e1;exact⟨k,hr⟩
   ·rw [if_neg e1] at hq;exact⟨_,hq⟩
  have h2:∃ k1,σ.blk q'=some k1:=by
   by_cases e1:r=q'
   ·subst e1;exact⟨k,hr⟩
   ·rw [if_neg e1] at hq';exact⟨_,hq'⟩
  obtain⟨c1,h1⟩:=h1
  obtain⟨c2,h2⟩:=h2
  exact h.inj q c1 q' c2 h1 h2 hne
 ·exact(h.tok q k1 hq).mono e fun x hx'=>hb x (h.tokblk q k1 r k x hq hr hx')
 ·have h2:∃ k1,σ.blk q'=some k1:=by
   rw [St.blk_setBlk] at hq'
   by_cases e1:r=q'
   ·subst e1;exact⟨k,hr⟩
   ·rw [if_neg e1] at hq';exact⟨_,hq'⟩
  obtain⟨c2,h2⟩:=h2
  exact h.tokblk q k1 q' c2 x hq h2 hx
def zsW (F:Nat->Nat->Prop) (v:Value) (n:Nat):Nat->Nat->Prop:=fun b o=>F b o\/(v.ownBlock=some b/\o<n)
theorem Ok.append (h:Ok A σ g a w) {r m:Nat} {k:Tok} {v':Value} {w':World} {xs:List Value} (hr:σ.tok r=some k) (hex:k.ex=none) (hv:w'.ownsRow A.B k.ty k.st v' (k.len+m) xs) (hg:w.grownBy w' (g.tv r).ownBlock) (hbel:Below A.B w w')
  (hkeep:∀ x o,(g.tv r).ownBlock=some x->o<k.len * k.st->w'.cell? ⟨x,o,none⟩=w.cell? ⟨x,o,none⟩) (hat:v'.ownBlock=(g.tv r).ownBlock\/v'.ownBlock=some w.heap.size) (h0:m=0->v'=g.tv r) :
  Ok A (σ.setTok r (some { k with len:=k.len+m })) { g with tv:=zcZ g.tv r v',F:=zsW g.F v' ((k.len+m) * k.st) } a w' /\
   Ext (fun _=>False) g σ.tk w { g with tv:=zcZ g.tv r v',F:=zsW g.F v' ((k.len+m) * k.st) } (σ.setTok r (some { k with len:=k.len+m })).tk w':=by
 have hs:=hg.size
 have hB:=h.hB
 obtain⟨ys,hown⟩:=(h.tok r k hr).own hex
 have hlen:k.len * k.st<=(k.len+m) * k.st:=Nat.mul_le_mul_right _ (by omega)
 have hFc:∀ b o,g.F b o->w'.cell? ⟨b,o,none⟩=w.cell? ⟨b,o,none⟩:=fun b o hf=>by
  by_cases e1:(g.tv r).ownBlock=some b
  ·exact hkeep b o e1 (h.Ftok r k b hr e1 o hf).2
  ·exact zaZ (hg.block b (h.Fb b o hf) fun e=>e1 e.symm)
 have htk:∀ q n',(σ.setTok r (some { k with len:=k.len+m })).tk q=some n'->∃ n,σ.tk q=some n/\n<=n'/\(n=n'->zcZ g.tv r v' q=g.tv q):=fun q n' hq=>by
  by_cases e1:r=q
  ·subst e1
   simp only [St.tk,St.tok_setTok,if_pos,Option.map_some,Option.some.injEq] at hq
   subst hq
   exact⟨k.len,by simp [St.tk,hr],by omega,fun e=>by rw [zp];exact h0 (by omega)⟩
  ·have:(σ.setTok r (some { k with len:=k.len+m })).tk q=σ.tk q:=by simp [St.tk,St.tok_setTok,e1]
   rw [this] at hq
   exact⟨n',hq,Nat.le_refl _,fun _=>zw (fun e=>e1 e.symm)⟩
 have e:Ext (fun _=>False) g σ.tk w { g with tv:=zcZ g.tv r v',F:=zsW g.F v' ((k.len+m) * k.st) } (σ.setTok r (some { k with len:=k.len+m })).tk w':=⟨fun b o hf=>.inl hf,fun b o u hf hu=>(hFc b o hf).trans hu,fun _ _=>rfl,fun q _ n' hn'=>htk q n' hn',fun b es c hf hu=>by
  by_cases e1:(g.tv r).ownBlock=some b
  ·rcases hown.2 with⟨e2,_⟩ | ⟨gb,cap,cur,e2,_,e3,_⟩
   ·rw [e2] at e1;cases e1
   ·rw [e2] at e1;cases e1;rw [e3] at hu;cases hu
  ·exact(hg.block b (h.Fb b 0 hf) fun e=>e1 e.symm).trans hu⟩
 have hother:∀ q b,σ.blk q=some b->v'.ownBlock≠some (g.m q):=fun q b hq e1=>by
  rcases hat with h1 | h1
  ·exact h.tokblk r k q b _ hr hq (h1.symm.trans e1) rfl
  ·rw [h1] at e1
   have e2:w.heap.size=g.m q:=Option.some.inj e1
   have h2:=(h.blk q b hq).2.lt
   omega
 have hother2:∀ q k1 x,σ.tok q=some k1->q≠r->(g.tv q).ownBlock=some x->v'.ownBlock≠some x:=fun q k1 x hq hne hx e1=>by
  rcases hat with h1 | h1
  ·exact h.toktok q k1 r k x hq hr hne hx (h1.symm.trans e1)
  ·rw [h1] at e1
   have e2:w.heap.size=x:=Option.some.inj e1
   have:=(h.tok q k1 hq).lt hx;omega
 refine⟨⟨h.below.trans (.of hbel),by omega,fun b o hf=>.inl (h.F0 b o hf),fun b o hf=>?_,fun b o hf=>?_,h.defers,h.size,fun t=>(h.env t).mono e (fun _ _=>id),fun q b hq=>⟨(h.blk q b hq).1,(h.blk q b hq).2.mono e (fun _ _=>id) (hg.block _ (h.blk q b hq).2.lt fun e1=>h.tokblk r k q b _ hr hq e1.symm rfl)⟩,fun q b hq o hf=>?_,h.inj,fun q k1 hq=>?_,fun q k1 x hq hx o hf=>?_,fun q k1 q' b x hq hq' hx=>?_,fun q k1 q' k2 x hq hq' hne hx=>?_,h.fix,fun q n0 ht0 n hn=>by
  by_cases e1:q=r
  ·subst e1
   simp only [St.tk,St.tok_setTok,if_pos,Option.map_some,Option.some.injEq] at hn
   have h1:=h.hist q n0 ht0 k.len (by simp [St.tk,hr])
   refine⟨by omega,fun e2=>?_⟩
   simp only [zp]
   rw [h0 (by omega)];exact h1.2 (by omega)
  ·have h2:σ.tk q=some n:=by
    unfold St.tk at hn ⊢
    rwa [St.tok_setTok,if_neg (fun e=>e1 e.symm)] at hn
   simp only [zw e1]
   exact h.hist q n0 ht0 n h2⟩,e⟩
 ·rcases hf with h1 | h1
  ·exact h.Fn b o h1
  ·right;exact(hv.lt b h1.1).1
 ·rcases hf with h1 | h1
  ·have:=h.Fb b o h1;omega
  ·exact(hv.lt b h1.1).2
 ·rcases hf with h1 | h1
  ·exact h.Fblk q b hq o h1
  ·exact hother q b hq h1.1
 ·rw [St.tok_setTok] at hq
  by_cases e1:r=q
  ·rw [if_pos e1] at hq;cases hq;subst e1;simp only [zp];exact .of_own hex ⟨_,hv⟩
  ·rw [if_neg e1] at hq
   simp only [zw (fun e=>e1 e.symm)]
   exact(h.tok q k1 hq).mono e fun x hx=>hg.block x ((h.tok q k1 hq).lt hx) fun e2=>h.toktok q k1 r k x hq hr (fun e=>e1 e.symm) hx e2.symm
 ·rw [St.tok_setTok] at hq
  by_cases e1:r=q
  ·rw [if_pos e1] at hq;cases hq;subst e1
   simp only [zp] at hx
   rcases hf with h1 | h1
   ·rcases hat with h2 | h2
    ·have:=h.Ftok r k x hr (h2.symm.trans hx) o h1
     refine⟨hex,?_⟩
     show o<(k.len+m) * k.st
     omega
    ·rw [h2] at hx;cases hx
     have:=h.Fb _ o h1;omega
   ·exact⟨hex,h1.2⟩
  ·rw [if_neg e1] at hq
   simp only [zw (fun e=>e1 e.symm)] at hx
   rcases hf with h1 | h1
   ·exact h.Ftok q k1 x hq hx o h1
   ·exact absurd h1.1 (hother2 q k1 x hq (fun e=>e1 e.symm) hx)
 ·rw [St.tok_setTok] at hq
  by_cases e1:r=q
  ·subst e1;simp only [zp] at hx
   exact fun e=>hother q' b hq' (by rw [<- e];exact hx)
  ·rw [if_neg e1] at hq
   simp only [zw (fun e=>e1 e.symm)] at hx
   exact h.tokblk q k1 q' b x hq hq' hx
 ·rw [St.tok_setTok] at hq hq'
  by_cases e1:r=q
  ·have e2:¬ r=q':=fun e2=>hne (e1.symm.trans e2)
   rw [if_neg e2] at hq'
   subst e1
   simp only [zp] at hx
   simp only [zw (fun e=>e2 e.symm)]
   exact fun e3=>hother2 q' k2 x hq' (fun e=>e2 e.symm) e3 hx
  ·rw [if_neg e1] at hq
   simp only [zw (fun e=>e1 e.symm)] at hx
   by_cases e2:r=q'
   ·subst e2
    simp only [zp]
    exact hother2 q k1 x hq (fun e=>e1 e.symm) hx
   ·rw [if_neg e2] at hq'
    simp only [zw (fun e=>e2 e.symm)]
    exact h.toktok q k1 q' k2 x hq hq' hne hx
theorem Ok.tokz (h:Ok A σ g a w) (r n:Nat) (hn:σ.tk r=some n):∀ p,(match g.tv r with | .slice pa _ _=>pa | _=>none)=some p->∃ b,p=⟨b,0,none⟩:=fun p hp=>by
 obtain⟨k,hk,_⟩:=St.tk_some hn
 obtain⟨xs,h1,_⟩:=h.tok r k hk
 rcases h1.2 with⟨e,_⟩ | ⟨b,cap,cur,e,_⟩
 ·rw [e] at hp;cases hp
 ·rw [e] at hp;cases hp;exact⟨b,rfl⟩
theorem Ok.restack (h:Ok A σ g a w) {r:Nat} {k k':Tok} {v':Value} {w':World} {xs:List Value} (hr:σ.tok r=some k) (hex:k.ex≠none) (hex':k'.ex≠none) (hver:k.len<k'.len\/(k.len=k'.len/\v'=g.tv r)) (hg:w.grownBy w' (g.tv r).ownBlock)
  (hv:w'.ownsRow 0 k'.ty k'.st v' k'.n xs) (hrows:∀ rows,k'.ex=some rows->(∀ i (h:i<rows.length),rows[i].length=k'.st)/\∀ i (h:i<rows.length) j (hj:j<rows[i].length),∃ u,xs[i * k'.st+j]? = some u/\Reads w g.F rows[i][j] u)
  (hat:v'.ownBlock=(g.tv r).ownBlock\/v'.ownBlock=some w.heap.size\/v'.ownBlock=none) :
  Ok A (σ.setTok r (some k')) { g with tv:=zcZ g.tv r v' } a w':=by
 have hs:=hg.size
 have hB:=h.hB
 obtain⟨ys,hown,hlow,_⟩:=h.tok r k hr
 have hFne:∀ b o,g.F b o->(g.tv r).ownBlock≠some b:=fun b o hf e=>hex (h.Ftok r k b hr e o hf).1
 have hFc:∀ b o,g.F b o->w'.heap[b]? = w.heap[b]?:=fun b o hf=>hg.block b (h.Fb b o hf) fun e=>hFne b o hf e.symm
 have htk:∀ q n',(σ.setTok r (some k')).tk q=some n'->∃ n,σ.tk q=some n/\n<=n'/\(n=n'->zcZ g.tv r v' q=g.tv q):=fun q n' hq=>by
  by_cases e1:r=q
  ·subst e1
   simp only [St.tk,St.tok_setTok,if_pos,Option.map_some,Option.some.injEq] at hq
   subst hq
   refine⟨k.len,by simp [St.tk,hr],by omega,fun e=>?_⟩
   rcases hver with h1 | ⟨_,h1⟩
   ·omega
   ·rw [zp];exact h1
  ·have:(σ.setTok r (some k')).tk q=σ.tk q:=by simp [St.tk,St.tok_setTok,e1]
   rw [this] at hq
   exact⟨n',hq,Nat.le_refl _,fun _=>zw (fun e=>e1 e.symm)⟩
 have e:Ext (fun _=>False) g σ.tk w { g with tv:=zcZ g.tv r v' } (σ.setTok r (some k')).tk w':=⟨fun b o hf=>hf,fun b o u hf hu=>(zaZ (hFc b o hf)).trans hu,fun _ _=>rfl,fun q _ n' hn'=>htk q n' hn',fun b es c hf hu=>(hFc b 0 hf).trans hu⟩
 have hbel:BelowX A.B A.X w w':=⟨hg.os,hg.tape,hg.output,hg.size,fun q hq hx=>hg.block q (by omega) fun e1=>by
  rcases hlow q e1.symm with h1 | h1
  ·omega
  ·exact hx h1.1⟩
 have hother:∀ q b,σ.blk q=some b->v'.ownBlock≠some (g.m q):=fun q b hq e1=>by
  rcases hat with h1 | h1 | h1
  ·exact h.tokblk r k q b _ hr hq (h1.symm.trans e1) rfl
  ·rw [h1] at e1
   have e2:w.heap.size=g.m q:=Option.some.inj e1
   have h2:=(h.blk q b hq).2.lt
   omega
  ·rw [h1] at e1;cases e1
 have hother2:∀ q k1 x,σ.tok q=some k1->q≠r->(g.tv q).ownBlock=some x->v'.ownBlock≠some x:=fun q k1 x hq hne hx e1=>by
  rcases hat with h1 | h1 | h1
  ·exact h.toktok q k1 r k x hq hr hne hx (h1.symm.trans e1)
  ·rw [h1] at e1
   have e2:w.heap.size=x:=Option.some.inj e1
   have:=(h.tok q k1 hq).lt hx;omega
  ·rw [h1] at e1;cases e1
 refine⟨h.below.trans hbel,by omega,h.F0,h.Fn,fun b o hf=>by have:=h.Fb b o hf;omega,h.defers,h.size,fun t=>(h.env t).mono e (fun _ _=>id),fun q b hq=>⟨(h.blk q b hq).1,(h.blk q b hq).2.mono e (fun _ _=>id) (hg.block _ (h.blk q b hq).2.lt fun e1=>h.tokblk r k q b _ hr hq e1.symm rfl)⟩,h.Fblk,h.inj,fun q k1 hq=>?_,fun q k1 x hq hx o hf=>?_,fun q k1 q' b x hq hq' hx=>?_,fun q k1 q' k2 x hq hq' hne hx=>?_,h.fix,fun q n0 ht0 n hn=>by
  by_cases e1:q=r
  ·subst e1
   simp only [St.tk,St.tok_setTok,if_pos,Option.map_some,Option.some.injEq] at hn
   have h1:=h.hist q n0 ht0 k.len (by simp [St.tk,hr])
   refine⟨by omega,fun e2=>?_⟩
   rcases hver with h2 | ⟨h2,h3⟩
   ·omega
   ·simp only [zp];rw [h3];exact h1.2 (by omega)
  ·have h2:σ.tk q=some n:=by
    unfold St.tk at hn ⊢
    rwa [St.tok_setTok,if_neg (fun e=>e1 e.symm)] at hn
   simp only [zw e1]
   exact h.hist q n0 ht0 n h2⟩
 ·rw [St.tok_setTok] at hq
  by_cases e1:r=q
  ·rw [if_pos e1] at hq;cases hq;subst e1
   simp only [zp]
   refine⟨xs,hv,fun x hx=>?_,fun rows hr'=>⟨(hrows rows hr').1,fun i hi j hj=>by
    obtain⟨u,h4,h5⟩:=(hrows rows hr').2 i hi j hj
    exact⟨u,h4,h5.mono e.hF e.hw⟩⟩⟩
   rcases hat with h1 | h1 | h1
   ·exact(hlow x (h1.symm.trans hx)).imp id fun h=>⟨h.1,hex'⟩
   ·rw [h1] at hx;cases hx;exact .inl hB
   ·rw [h1] at hx;cases hx
  ·rw [if_neg e1] at hq
   simp only [zw (fun e=>e1 e.symm)]
   exact(h.tok q k1 hq).mono e fun x hx=>hg.block x ((h.tok q k1 hq).lt hx) fun e2=>h.toktok q k1 r k x hq hr (fun e=>e1 e.symm) hx e2.symm
 ·rw [St.tok_setTok] at hq
  by_cases e1:r=q
  ·rw [if_pos e1] at hq;cases hq;subst e1
   simp only [zp] at hx
   rcases hat with h1 | h1 | h1
   ·exact absurd (h1.symm.trans hx) (hFne x o hf)
   ·rw [h1] at hx;cases hx
    have:=h.Fb _ o hf;omega
   ·rw [h1] at hx;cases hx
  ·rw [if_neg e1] at hq
   simp only [zw (fun e=>e1 e.symm)] at hx
   exact h.Ftok q k1 x hq hx o hf
 ·rw [St.tok_setTok] at hq
  by_cases e1:r=q
  ·subst e1;simp only [zp] at hx
   exact fun e=>hother q' b hq' (by rw [<- e];exact hx)
  ·rw [if_neg e1] at hq
   simp only [zw (fun e=>e1 e.symm)] at hx
   exact h.tokblk q k1 q' b x hq hq' hx
 ·rw [St.tok_setTok] at hq hq'
  by_cases e1:r=q
  ·have e2:¬ r=q':=fun e2=>hne (e1.symm.trans e2)
   rw [if_neg e2] at hq'
   subst e1
   simp only [zp] at hx
   simp only [zw (fun e=>e2 e.symm)]
   exact fun e3=>hother2 q' k2 x hq' (fun e=>e2 e.symm) e3 hx
  ·rw [if_neg e1] at hq
   simp only [zw (fun e=>e1 e.symm)] at hx
   by_cases e2:r=q'
   ·subst e2
    simp only [zp]
    exact hother2 q k1 x hq (fun e=>e1 e.symm) hx
   ·rw [if_neg e2] at hq'
    simp only [zw (fun e=>e2 e.symm)]
    exact h.toktok q k1 q' k2 x hq hq' hne hx
end
end Go.Proofs.YtpnjjmcimjlfkaaGreatDoor
