/- Texts of this proof, part 18: what the proof uses of them. -/
import Derived.Test.YtpnjjmcimjlfkaaGreatDoorRag
import Derived.Lib.BufferMore
import Derived.Test.YtpnjjmcimjlfkaaGreatDoorRaq
import Derived.Test.YtpnjjmcimjlfkaaGreatDoorRao
set_option maxRecDepth 100000
set_option maxHeartbeats 64000000
namespace Go.Proofs.YtpnjjmcimjlfkaaGreatDoor
section
open Go Go.RowKit
variable {P:Program} {A:Base P} {σ:St} {g:Gh} {a:Act} {w:World}
theorem Ok.moreF (h:Ok A σ g a w) (G:Nat->Nat->Prop) (hF:∀ b o,g.F b o->G b o)
  (hN:∀ b o,G b o->g.F b o\/(A.B<=b/\b<w.heap.size/\(∀ r k,σ.blk r=some k->b≠g.m r)/\∀ r k,σ.tok r=some k->(g.tv r).ownBlock≠some b)):Ok A σ { g with F:=G } a w:=by
 have e:Ext (fun _=>False) g σ.tk w { g with F:=G } σ.tk w:=⟨hF,fun _ _ _ _ h=>h,fun _ _=>rfl,fun r _ n' hn'=>⟨n',hn',Nat.le_refl _,fun _=>rfl⟩,fun _ _ _ _ h=>h⟩
 refine⟨h.below,h.hB,fun b o hf=>hF _ _ (h.F0 b o hf),fun b o hf=>?_,fun b o hf=>?_,h.defers,h.size,fun t=>(h.env t).mono e (fun _ _=>id),fun r b hr=>⟨(h.blk r b hr).1,(h.blk r b hr).2.mono e (fun _ _=>id) rfl⟩,fun r b hr o hf=>?_,h.inj,fun r k hr=>?_,fun r k x hr hx o hf=>?_,h.tokblk,h.toktok,h.fix,h.hist⟩
 ·rcases hN b o hf with h1 | h1
  ·exact h.Fn b o h1
  ·exact .inr h1.1
 ·rcases hN b o hf with h1 | h1
  ·exact h.Fb b o h1
  ·exact h1.2.1
 ·rcases hN _ o hf with h1 | h1
  ·exact h.Fblk r b hr o h1
  ·exact h1.2.2.1 r b hr rfl
 ·obtain⟨xs,h1,h2,h3⟩:=h.tok r k hr
  exact⟨xs,h1,h2,fun rows hx=>⟨(h3 rows hx).1,fun i hi j hj=>by
   obtain⟨u,h4,h5⟩:=(h3 rows hx).2 i hi j hj
   exact⟨u,h4,h5.mono hF (fun _ _ _ _ h=>h)⟩⟩⟩
 ·rcases hN _ o hf with h1 | h1
  ·exact h.Ftok r k x hr hx o h1
  ·exact absurd hx (h1.2.2.2 r k hr)
theorem zrP (hX:∀ x,¬ A.X x) (r q j:Nat) {ty e:TypeId} {cs:List AV} {st len ver:Nat} {rows:List (List D)} {c:Code} {K:Exit->St->Prop} (hb:σ.blk q=some (.cell ty cs)) (hj:cs[j]? = some (.stk r st ver 0 len)) (ht:σ.tok r=some ⟨st,e,ver,some rows⟩) (hl:len=rows.length)
  (h:SatC P A c ((σ.setTok r none).setBlk q (some (.cell ty (cs.set j (.d (.sl rows)))))) K):SatC P A c σ K:=by
 refine zen (fun g a w hk=>?_) h
 subst hl
 obtain⟨xs,hown,hlow,hrows⟩:=hk.tok r _ ht
 obtain⟨hr1,hr2⟩:=hrows rows rfl
 have hsub:Ok A (σ.setTok r none) g a w:=hk.sub (fun _=>.inr rfl) (fun _=>.inr rfl) fun q=>by
  rw [St.tok_setTok]
  split
  ·exact .inl rfl
  ·exact .inr rfl
 have hlt:∀ x,(g.tv r).ownBlock=some x->x<w.heap.size:=fun x hx=>(hk.tok r _ ht).lt hx
 let G:Nat->Nat->Prop:=fun b o=>g.F b o\/(g.tv r).ownBlock=some b
 have h1:=hsub.moreF G (fun _ _ h=>.inl h) fun b o hG=>by
  rcases hG with h1 | h1
  ·exact .inl h1
  ·refine .inr ⟨(hlow b h1).resolve_right fun h=>hX _ h.1,hlt b h1,fun r' k' hr'=>?_,fun r' k' hr'=>?_⟩
   ·exact hk.tokblk r _ r' k' b ht hr' h1
   ·rw [St.tok_setTok] at hr'
    split at hr'
    ·cases hr'
    ·rename_i hne
     exact hk.toktok r _ r' k' b ht hr' hne h1
 obtain⟨hB,arr,c1,c2,c3⟩:=h1.blk q _ hb
 obtain⟨hjl,hje⟩:=List.getElem?_eq_some_iff.1 hj
 refine⟨_,(h1.write (k':=.cell ty (cs.set j (.d (.sl rows)))) (w':=w) hb (fun _ _=>rfl) rfl (.of (Below.refl _ _)) ⟨arr,c1,by simpa using c2,fun i hi hi'=>?_⟩).1⟩
 have hi2:i<cs.length:=by simpa using hi
 rw [List.getElem_set]
 split
 ·rename_i e1;subst e1
  obtain⟨_,arr0,d1,d2,d3⟩:=hk.blk q _ hb
  have harr:arr=arr0:=by
   have:=c1.symm.trans d1
   simp only [Option.some.injEq,Obj.cells.injEq] at this
   simpa using this.1
  subst harr
  have h3:=d3 j hjl hi'
  rw [hje] at h3
  obtain⟨p,cap,hv,hc,hp,hvv⟩:=h3.stk_eq
  obtain⟨hcut,_⟩:=(hvv ver (by simp [St.tk,ht])).2 rfl
  rw [hv]
  rcases hown.2 with⟨e1,e2⟩ | ⟨b,cp,cur,e1,_,_,h5,_⟩
  ·have e2':rows.length=0:=e2
   have:rows=[]:=List.eq_nil_of_length_eq_zero e2'
   subst this
   exact .d (.nil _ _)
  ·have e1':g.tv r = .slice (some ⟨b,0,none⟩) rows.length cp:=e1
   have hob:(g.tv r).ownBlock=some b:=by rw [e1'];rfl
   rw [e1'] at hcut
   simp only [zfd,Option.map_some,Addr.add_lit,Nat.zero_mul,Nat.add_zero,Nat.sub_zero] at hcut
   injection hcut with h7 h8 h9
   subst h7 h9
   refine .d (.mk (st:=st) hc hr1 fun i hi j hj=>?_)
   obtain⟨u,hu,hrd⟩:=hr2 i hi j hj
   have hcell:=hown.cells (g:=b) hob (i * st+j) u hu
   rw [Addr.add_lit,Nat.zero_add] at hcell
   exact⟨.inr hob,u,by rw [Nat.zero_add];exact hcell,hrd.mono (fun _ _ h=>.inl h) (fun _ _ _ _ h=>h)⟩
 ·exact c3 i hi2 hi'
theorem zCZ (n:Nat) {all:List Oper} {o:Oper} {rest:List Oper} {i base:Nat} {s:List Itm} {Q:Exit->St->Prop} {t e u:TypeId} {p q:Operand} {rows:List (List D)} (hg:zcX A.N all σ o=some true) (ho:o.op = .binOp .eql t p q u) (ht:P.underlying t=some (.slice e)) (hp:σ.eval p = .d (.sl rows)) (hq:σ.eval q = .d (.raw (.slice none 0 0))) (hd:zaf A.N o=true)
  (h:∀ b:Bool,(b=true->rows=[])->go P A n (.ops all rest (i+1) base) s (σ.put o.dst (.d (.raw (.bool b)))) Q):zbL P A (.ops all (o :: rest) i base) s σ Q:=by
 refine fun g a w hk=>?_
 have hpe:=hk.eval p
 have hqe:=hk.eval q
 rw [hp] at hpe
 rw [hq] at hqe
 obtain⟨ad,cap,hv,hc⟩:=hpe.sl.slice
 have hr:(execOp a.eval o).run P w = .ok (.value (.bool ad.isNone)) w:=by
  simp only [execOp,ho,hv,hqe.raw_eq]
  cases ad with
  | none=>
   have hg:(eqGuard .eql t p q (.slice none rows.length cap) (.slice none 0 0)).run P w = .ok () w:=rfl
   have:=Lib.run_eql_slice_nil_nil (P:=P) w (t:=t) (e:=e) rows.length cap ht
   simp only [Sem.run_bind,hg,this,Result.andThen_ok,Sem.run_pure,Option.isNone]
  | some ad=>
   have hg:(eqGuard .eql t p q (.slice (some ad) rows.length cap) (.slice none 0 0)).run P w = .ok () w:=rfl
   have:=Lib.run_eql_slice_some_nil (P:=P) w (t:=t) (e:=e) ad rows.length cap ht
   simp only [Sem.run_bind,hg,this,Result.andThen_ok,Sem.run_pure,Option.isNone]
 have hb:ad.isNone=true->rows=[]:=fun hn=>by
  have hpe':=hpe.sl
  rw [hv] at hpe'
  generalize hrw:D.sl rows=x at hpe'
  generalize hvw:Value.slice ad rows.length cap=y at hpe'
  cases hpe' with
  | raw v=>cases hrw
  | nil p cap=>injection hrw
  | rows st rows' b off cap' val hcap hpos=>
   injection hvw with h1
   rw [h1] at hn
   cases hn
 have hw:=zhS hk hg
 show wpListIn A.fe 0 P all.toArray _ (o :: rest) a w
 unfold wpListIn
 rw [hw]
 exact zjV hr (fun _ _ h=>by cases h) (zar n _ _ _ _ (h ad.isNone hb) g _ w (hk.put o.dst (zaO hd) (.d (.raw _))))
def zEl (P:Program) (f:FuncId) (args:List AV) (st:Nat) (ty:TypeId) (rows:List (List D)):Prop:=
 zcQ P f/\(∀ i (h:i<rows.length),rows[i].length=st)/\∀ (F:Nat->Nat->Prop) (w:World) (vs:List Value),(∀ b o,F b o->b<w.heap.size)->Glob P w->args.length=vs.length->(∀ i (hi:i<args.length) (hv:i<vs.length),zch w F args[i] vs[i]) ->
  Calls P f vs.toArray w fun e w'=>∃ v xs,e = .returned v/\w'.ownsRow w.heap.size ty st v rows.length xs/\(∀ i (hi:i<rows.length) j (hj:j<rows[i].length),∃ u,xs[i * st+j]? = some u/\Reads w' (fun b o=>F b o\/(w.heap.size<=b/\b<w'.heap.size/\v.ownBlock≠some b)) rows[i][j] u)/\Below w.heap.size w w'
def zGT (rs:List ResultVar) (st:Nat) (ty:TypeId) (rows:List (List D)):Exit->St->Prop
 | .normal,σ | .ret,σ=>∃ t,rs=[.tmp t]/\((∃ r ver,σ.get t = .stk r st ver 0 rows.length/\σ.tok r=some ⟨st,ty,ver,some rows⟩)\/(σ.get t = .d (.raw (.slice none 0 0))/\rows=[]))
 | _,_=>False
theorem zzp {N:Nat} {F:Nat->Nat->Prop} {w:World} {args:List AV} {vs:List Value} (hF:∀ b o,F b o->b<w.heap.size) (hG:Glob P w) (hl:args.length=vs.length) (hv:∀ i (hi:i<args.length) (hv:i<vs.length),zch w F args[i] vs[i]) (hargs:zN args=true) (hle:args.length<=N) :
  ∃ A:Base P,A.N=N/\A.B=w.heap.size/\A.w0=w/\((∀ t,A.kv t=undef)/\A.ds=[])/\A.F0=F/\(∀ x,¬ A.X x)/\A.fe=Fence.wide/\Ok A (St.enter args) (gh0 F) { tmps:=vs.toArray++Array.replicate (N - vs.toArray.size) undef,defers:=[] } w:=by
 have hsz:vs.toArray.size=args.length:=by simp [hl]
 have hk:Ok ⟨w.heap.size,w,F,N,fun _=>False,fun w' hb=>hG.keep hb fun _ h=>h.elim,hG.low,fun _ h=>h.elim,fun _=>false,fun _=>0,fun _ h=>by simp at h,none,fun _=>none,fun _=>undef,(fun _ _ h=>by cases h),[],fun _=>undef,fun _ _=>rfl⟩ (St.enter args) (gh0 F) { tmps:=vs.toArray++Array.replicate (N - vs.toArray.size) undef,defers:=[] } w:=by
  refine⟨.of (Below.refl _ _),Nat.le_refl _,fun _ _ h=>h,fun _ _ h=>.inl h,hF,rfl,by simp;omega,fun t=>?_,fun r b hr=>by simp [St.enter,St.blk,zk] at hr,fun r b hr=>by simp [St.enter,St.blk,zk] at hr,fun r b r' b' hr=>by simp [St.enter,St.blk,zk] at hr,fun r b hr=>by simp [St.enter,St.tok,zk] at hr,fun r b x hr=>by simp [St.enter,St.tok,zk] at hr,fun r b r' b' x hr=>by simp [St.enter,St.tok,zk] at hr,fun r b r' b' x hr=>by simp [St.enter,St.tok,zk] at hr,fun r hr=>by simp at hr,fun _ _ h=>by cases h⟩
  have hget:(St.enter args).get t=(args[t]?).getD .dead:=by
   unfold St.enter St.get
   rw [zcq];simp
  rw [Base.val_of (fun _=>rfl) (by simp;omega),hget]
  by_cases ht:t<args.length
  ·have htv:t<vs.length:=by omega
   have e1:(vs.toArray++Array.replicate (N - vs.toArray.size) undef).getD t undef=vs[t]:=by
    rw [Array.getD_eq_getD_getElem?,Array.getElem?_append_left (by simpa using htv)]
    simp [htv]
   rw [e1]
   simp only [List.getElem?_eq_getElem ht,Option.getD_some]
   exact(hv t ht htv).open (zY ht hargs) (fun _ _ h=>h)
  ·simp only [List.getElem?_eq_none (Nat.le_of_not_lt ht),Option.getD_none]
   exact .dead _
 exact⟨_,rfl,rfl,rfl,⟨fun _=>rfl,rfl⟩,rfl,fun _ h=>h,rfl,hk⟩
theorem zDB {f : FuncId} {fn : Func} {c : Code} {args : List AV} {st : Nat} {ty : TypeId} {rows : List (List D)} (hf : P.funcs[f]? = some fn) (hb : fn.body = some c) (hn : (fn.name == "runtime.NumGoroutine") = false) (hrow : ∀ i (h : i < rows.length),rows[i].length = st) (hargs : zN args = true) (hle : args.length <= fn.ntmps) (hN : fn.ntmps <= 1000000)
  (h:∀ A:Base P,A.N=fn.ntmps->SatC P A c (St.enter args) (stk P A [] (zGT fn.results.toList st ty rows))):zEl P f args st ty rows:=by
 refine⟨⟨fn,hf,hn,by rw [hb];rfl⟩,hrow,fun F w vs hF hG hl hv=>?_⟩
 refine calls_of_wp hf hb ?_
 obtain⟨A,hAN,hAB,hAw,hAF,hA0,hAX,hfe,hk⟩:=zzp (P:=P) (N:=fn.ntmps) hF hG hl hv hargs hle
 have hwp:=h A hAN (gh0 F) _ w hk
 rw [hfe] at hwp
 refine wp_mono (wpIn_wide.1 hwp) fun e a' w' hq=>?_
 obtain⟨σ',g',h1,h2⟩:=hq
 have hret:(∃ t,fn.results.toList=[.tmp t]/\((∃ r ver,σ'.get t = .stk r st ver 0 rows.length/\σ'.tok r=some ⟨st,ty,ver,some rows⟩)\/(σ'.get t = .d (.raw (.slice none 0 0))/\rows=[])))->a'.defers=[]/\∃ v,(results fn a'.tmps).run P w' = .ok v w'/\∃ u xs,Ending.returned v = .returned u/\w'.ownsRow w.heap.size ty st u rows.length xs/\(∀ i (hi:i<rows.length) j (hj:j<rows[i].length),∃ y,xs[i * st+j]? = some y/\Reads w' (fun b o=>F b o\/(w.heap.size<=b/\b<w'.heap.size/\u.ownBlock≠some b)) rows[i][j] y)/\Below w.heap.size w w':=fun⟨t,hrs,hor⟩=>by
  have hbel:Below w.heap.size w w':=by
   have h3:=h2.below
   rw [hAB,hAw] at h3
   exact⟨h3.os,h3.tape,h3.output,h3.size,fun k hk=>h3.block k hk (hAX k)⟩
  have hrun:(results fn a'.tmps).run P w' = .ok (a'.tmps.getD t undef) w':=by
   have:(fn.results.toList.mapM (m:=Go.Sem) (zfs a'.tmps)).run P w' = .ok [a'.tmps.getD t undef] w':=by
    rw [hrs];simp only [List.mapM_cons,List.mapM_nil,zfs,Sem.run_bind,Sem.run_pure,Result.andThen_ok]
   rw [zdN _ this];rfl
  have hds:a'.defers=[]:=by rw [h2.defers];exact hAF.2
  refine⟨hds,_,hrun,a'.tmps.getD t undef,?_⟩
  have hent:Has g' σ'.tk w' (σ'.get t) (a'.tmps.getD t undef):=by
   by_cases ht:t<1000000
   ·exact h2.tmp ht
   ·have hsz:=h2.size
    have e0:a'.tmps.getD t undef=undef:=by
     rw [Array.getD_eq_getD_getElem?,Array.getElem?_eq_none (Nat.le_trans (show a'.tmps.size<=1000000 by omega) (Nat.le_of_not_lt ht))];rfl
    have h5:=h2.env t
    unfold Base.val at h5
    rw [if_neg fun h=>ht (Nat.lt_of_lt_of_le h (by omega))] at h5
    rw [e0,<- hAF.1 t];exact h5
  rcases hor with⟨r,ver,hg,ht⟩ | ⟨hg,rfl⟩
  ·rw [hg] at hent
   obtain⟨p,cap,hv,hc,hp,hvv⟩:=hent.stk_eq
   obtain⟨hcut,_⟩:=(hvv ver (by simp [St.tk,ht])).2 rfl
   obtain⟨xs,hown,hlow,hrows⟩:=h2.tok r _ ht
   obtain⟨hr1,hr2⟩:=hrows rows rfl
   have hve:a'.tmps.getD t undef=g'.tv r:=by
    rw [hv,hcut]
    rcases hown.2 with⟨e1,e2⟩ | ⟨b,cp,cur,e1,_⟩
    ·have e2':rows.length=0:=e2
     rw [e1,e2'];rfl
    ·rw [e1];simp [zfd,Addr.add_lit,Tok.n]
   rw [hve]
   have hown3:w'.ownsRow w.heap.size ty st (g'.tv r) rows.length xs:=⟨hown.1,hown.2.imp id fun⟨b,cap,cur,e,_,r⟩=>⟨b,cap,cur,e,by
    rw [<- hAB]
    exact(hlow b (by rw [e];rfl)).resolve_right fun h=>hAX _ h.1,r⟩⟩
   refine⟨xs,rfl,hown3,fun i hi j hj=>?_,hbel⟩
   ·obtain⟨u,h4,h5⟩:=hr2 i hi j hj
    refine⟨u,h4,h5.mono (fun b o hf=>?_) (fun _ _ _ _ h=>h)⟩
    rcases h2.Fn b o hf with h6 | h6
    ·exact .inl (by rw [<- hA0];exact h6)
    ·refine .inr ⟨by rw [<- hAB];exact h6,h2.Fb b o hf,fun e=>?_⟩
     have:=(h2.Ftok r _ b ht e o hf).1
     cases this
  ·rw [hg] at hent
   rw [hent.raw_eq]
   exact⟨[],rfl,World.ownsRow_nil _ _ _ _,fun i hi=>by simp at hi,hbel⟩
 cases e with
 | normal=>exact hret h1
 | ret=>exact hret h1
 | exit | goto | panic | outgrown=>exact h1.elim
theorem zuT {o:Oper} {f:FuncId} {c:Call} {p:Operand} {asL:List AV} {st me:Nat} {ty:TypeId} {rows:List (List D)} (ho:o.op = .call c) (hp:c.callee = .value p) (hf:σ.eval p = .fn f []) (ha:zU (c.args.toList.map σ.eval)=some asL) (hc:zEl P f asL st ty rows) (hm:σ.free A me) :
  OpOk P A o σ (σ.setTok me (some ⟨st,ty,0,some rows⟩)) (.stk me st 0 0 rows.length):=by
 intro g a w hk K Q hK
 obtain⟨hen,hrow,hcon⟩:=hc
 obtain⟨hl,hg⟩:=zbE ha
 have hpe:=hk.eval p
 rw [hf] at hpe
 obtain⟨vs,hv,hvl,hvs⟩:=hpe.fn_eq
 obtain rfl:vs=[]:=List.eq_nil_of_length_eq_zero hvl.symm
 have hr:(execOp a.eval o).run P w = .ok (.enter f (c.args.toList.map a.eval).toArray) w:=by
  simp only [execOp,ho,resolve,hp,hv,Deferred.ofValue,Sem.run_bind,Sem.run_pure,Result.andThen_ok,invoke]
  rw [zaL hen]
  have he:#[]++c.args.map a.eval++[].toArray=(c.args.toList.map a.eval).toArray:=by
   apply Array.ext';simp
  rw [he]
 refine zcC hr ?_
 refine(hcon g.F w (c.args.toList.map a.eval) hk.Fb (A.glob w hk.below) (by simp only [List.length_map] at hl ⊢;omega) (fun i hi hv=>?_)).mono ?_
 ·simp only [List.length_map] at hl
  have hi':i<c.args.toList.length:=by omega
  have h1:=hg i (by simpa using hi') hi
  rw [List.getElem_map] at h1
  rw [List.getElem_map]
  exact(hk.eval _).close h1
 ·rintro e w' ⟨v,xs,rfl,hown,hcells,hb⟩
  have hbk:∀ x,v.ownBlock=some x->w.heap.size<=x/\x<w'.heap.size:=fun x hx=>hown.lt x hx
  obtain⟨h1,e1⟩:=hk.grown hb (fun b o=>g.F b o\/(w.heap.size<=b/\b<w'.heap.size/\v.ownBlock≠some b)) (fun _ _ h=>.inl h) (fun b o h=>h.imp id fun h=>⟨h.1,h.2.1⟩)
  have hBs:=hk.hB
  have h2:=h1.addTok (r:=me) (k:=⟨st,ty,0,some rows⟩) (v:=v) hm ⟨xs,⟨hown.1,hown.2.imp id fun⟨gb,cap,cur,h2,_,r⟩=>⟨gb,cap,cur,h2,Nat.zero_le _,r⟩⟩,fun x hx=>.inl (by have:=(hbk x hx).1;omega),fun rows' hr'=>by cases hr';exact⟨hrow,fun i hi j hj=>hcells i hi j hj⟩⟩ (fun x hx o hf=>by
   rcases hf with h3 | h3
   ·have:=hk.Fb _ o h3;have:=(hbk x hx).1;omega
   ·exact absurd hx h3.2.2) (fun r k x hr hx e=>by
   have:=(hk.blk r k hr).2.lt;have:=(hbk x hx).1
   have e2:x=g.m r:=e
   omega) (fun r k x hr hx e=>by
   have:=(hk.tok r k hr).lt e;have:=(hbk x hx).1;omega)
  have hvf:∃ p cap,v = .slice p rows.length cap/\rows.length<=cap/\(0<rows.length->∃ b o,p=some ⟨b,o,none⟩)/\zfd v st 0 rows.length=v/\zpV v=rows.length:=by
   rcases hown.2 with⟨e,e0⟩ | ⟨b,cp,cur,e,_,_,h3,_⟩
   ·exact⟨none,0,by rw [e,e0],by omega,fun h=>by omega,by rw [e,e0];rfl,by rw [e,e0];rfl⟩
   ·exact⟨_,cp,e,h3,fun _=>⟨b,0,rfl⟩,by rw [e];simp [zfd,Addr.add_lit],by rw [e];rfl⟩
  obtain⟨p',cap',rfl,h3,h4,h5,h6⟩:=hvf
  refine hK _ _ w' h2 (.stk me st 0 0 _ _ _ h3 h4 fun n' hn'=>?_)
  simp only [St.tk,St.tok_setTok,if_pos,Option.map_some,Option.some.injEq] at hn'
  subst hn'
  refine⟨Nat.le_refl _,fun _=>?_⟩
  simp only [zp]
  exact⟨h5.symm,by rw [h6];omega⟩
theorem zsw {o:Oper} {f:FuncId} {c:Call} {p:Operand} {asL:List AV} {st me:Nat} {ty:TypeId} {rows:List (List D)} (ho:o.op = .call c) (hp:c.callee = .value p) (hf:σ.eval p = .fn f []) (ha:c.args.toList.map σ.eval=asL) (hcl:zN asL=true) (hc:ztJ P f asL st ty rows) (hm:σ.free A me) :
  OpOk P A o σ (σ.setTok me (some ⟨st,ty,rows.length,none⟩)) (.grow me rows):=by
 intro g a w hk K Q hK
 obtain⟨hen,hrow,hcon⟩:=hc
 have hl:(c.args.toList.map σ.eval).length=asL.length:=by rw [ha]
 have hpe:=hk.eval p
 rw [hf] at hpe
 obtain⟨vs,hv,hvl,hvs⟩:=hpe.fn_eq
 obtain rfl:vs=[]:=List.eq_nil_of_length_eq_zero hvl.symm
 have hr:(execOp a.eval o).run P w = .ok (.enter f (c.args.toList.map a.eval).toArray) w:=by
  simp only [execOp,ho,resolve,hp,hv,Deferred.ofValue,Sem.run_bind,Sem.run_pure,Result.andThen_ok,invoke]
  rw [zaL hen]
  have he:#[]++c.args.map a.eval++[].toArray=(c.args.toList.map a.eval).toArray:=by
   apply Array.ext';simp
  rw [he]
 refine zcC hr ?_
 refine(hcon g.F w (c.args.toList.map a.eval) hk.Fb (A.glob w hk.below) (by simp only [List.length_map] at hl ⊢;omega) (fun i hi hv=>?_)).mono ?_
 ·simp only [List.length_map] at hl
  have hi':i<c.args.toList.length:=by omega
  have he:asL[i]=σ.eval c.args.toList[i]:=by subst ha;rw [List.getElem_map]
  rw [List.getElem_map]
  have hh:=hk.eval c.args.toList[i]
  rw [<- he] at hh
  exact hh.shut (zY hi hcl) fun _ _ h=>h
 ·rintro e w' ⟨v,xs,rfl,hown,hcells,hb⟩
  have hbk:∀ x,v.ownBlock=some x->w.heap.size<=x/\x<w'.heap.size:=fun x hx=>hown.lt x hx
  obtain⟨h1,e1⟩:=hk.grown hb (fun b o=>g.F b o\/(v.ownBlock=some b/\o<rows.length * st)) (fun _ _ h=>.inl h) (fun b o h=>h.imp id fun h=>hbk b h.1)
  have hBs:=hk.hB
  have hown':∃ xs,w'.ownsRow A.B ty st v rows.length xs:=⟨xs,hown.1,hown.2.imp id fun⟨gb,cap,cur,h2,h3,r⟩=>⟨gb,cap,cur,h2,by omega,r⟩⟩
  have h2:=h1.addTok (r:=me) (k:=⟨st,ty,rows.length,none⟩) (v:=v) hm (.of_own rfl hown') (fun x hx o hf=>by
   rcases hf with h3 | h3
   ·have:=hk.Fb _ o h3;have:=(hbk x hx).1;omega
   ·exact⟨rfl,h3.2⟩) (fun r k x hr hx e=>by
   have:=(hk.blk r k hr).2.lt;have:=(hbk x hx).1
   have e2:x=g.m r:=e
   omega) (fun r k x hr hx e=>by
   have:=(hk.tok r k hr).lt e;have:=(hbk x hx).1;omega)
  refine hK _ v w' h2 (.grow me rows v ?_ fun n' hn'=>?_)
  ·rcases hown.2 with⟨h3,h4⟩ | ⟨gb,cap,cur,h3,_,_,h5,_⟩
   ·have:rows=[]:=List.eq_nil_of_length_eq_zero h4
    subst this
    rw [h3];exact .nil _ _
   ·have hvb:v.ownBlock=some gb:=by rw [h3];rfl
    have hrd:∀ G:Nat->Nat->Prop,(∀ b o,(g.F b o\/(v.ownBlock=some b/\o<rows.length * st))->G b o)->Reads w' G (.sl rows) (.slice (some ⟨gb,0,none⟩) rows.length cap):=fun G hG=>Reads.mk (st:=st) h5 hrow fun i hi j hj=>by
     obtain⟨u,hu,hrd⟩:=hcells i hi j hj
     have hlt:i * st+j<rows.length * st:=by
      have:=Nat.mul_le_mul_right st (show i+1<=rows.length by omega)
      rw [Nat.add_mul] at this
      have:=hrow i hi
      omega
     have hcell:=hown.cells (g:=gb) hvb (i * st+j) u hu
     rw [Addr.add_lit,Nat.zero_add] at hcell
     exact⟨hG _ _ (.inr ⟨hvb,by rw [Nat.zero_add];exact hlt⟩),u,by rw [Nat.zero_add];exact hcell,hrd.mono (fun b o h=>hG b o (.inl h)) (fun _ _ _ _ h=>h)⟩
    have:=hrd _ fun _ _ h=>h
    rw [<- h3] at this
    exact this
  ·simp only [St.tk,St.tok_setTok,if_pos,Option.map_some,Option.some.injEq] at hn'
   subst hn'
   exact⟨Nat.le_refl _,fun _=>by simp only [zp]⟩
theorem zsZ (n:Nat) {all:List Oper} {f:FuncId} {o:Oper} {rest:List Oper} {i base:Nat} {s:List Itm} {Q:Exit->St->Prop} {c:Call} {p:Operand} {ys:List AV} {st:Nat} {ty:TypeId} {rows:List (List D)} (hc:ztJ P f ys st ty rows) (ho:o.op = .call c) (hp:c.callee = .value p) (hf:σ.eval p = .fn f []) (ha:c.args.toList.map σ.eval=ys) (hcl:zN ys=true) (hd:zaf A.N o=true) (hfr:σ.ment (base+i)=false)
  (hr:go P A n (.ops all rest (i+1) base) s ((σ.setTok (base+i) (some ⟨st,ty,rows.length,none⟩)).put o.dst (.grow (base+i) rows)) Q):zbL P A (.exe (some f) all o rest i base) s σ Q:=zem (zsw ho hp hf ha hcl hc (St.free_of hfr)) hd (zar n _ _ _ _ hr)
theorem znR {σ σ':St} {o:Oper} {c:Call} (ho:o.op = .call c) (h:∀ p ∈ o.op.operands.toList,σ'.eval p=σ.eval p):(∀ p ∈ c.args.toList,σ'.eval p=σ.eval p)/\∀ p,c.callee = .value p->σ'.eval p=σ.eval p:=
 ⟨fun p hpp=>h p (by
  rw [ho]
  simp only [Op.operands,Call.operands,Array.toList_append,List.mem_append]
  exact .inr hpp),fun p hp1=>h p (by rw [ho];simp [Op.operands,Call.operands,hp1])⟩
theorem zAy (n:Nat) {all:List Oper} {f:FuncId} {o:Oper} {rest:List Oper} {i base:Nat} {acc:List RI} {s:List Itm} {Q:Exit->St->Prop} {c:Call} {p:Operand} {ys:List AV} {st:Nat} {ty:TypeId} {rows:List (List D)} (hc:zEl P f ys st ty rows) (ho:o.op = .call c) (hp:c.callee = .value p) (hf:σ.eval p = .fn f []) (ha:zU (c.args.toList.map σ.eval)=some ys) (hd:zaf A.N o=true) (hfr:σ.ment (base+i)=false)
  (hr:go P A n (.dops all rest (i+1) base (acc++[zhd σ o (.stk (base+i) st 0 0 rows.length) (.tok (base+i) ⟨st,ty,0,some rows⟩)])) s ((σ.setTok (base+i) (some ⟨st,ty,0,some rows⟩)).put o.dst (.stk (base+i) st 0 0 rows.length)) Q):zbL P A (.dexe (some f) all o rest i base acc) s σ Q:=fun hg hP=>
 zdL hg (.inr (.inr (.inr (.inr ⟨fun _=>hfr,fun A' σ' he _ hfree=>by
  obtain⟨e1,e2⟩:=znR ho he
  exact zuT ho hp ((e2 p hp).trans hf) (by rw [List.map_congr_left e1];exact ha) hc (hfree rfl)⟩)))) hd (zar n _ _ _ _ hr hP)
def zdh (rows:List (List D)) (i:Nat) (row:List D):List (List D):=rows.take i++row :: rows.drop i
def zru (P:Program) (f:FuncId) (st:Nat) (ty:TypeId) (rows:List (List D)) (row:List D) (i:Nat):Prop:=
 zcQ P f/\∀ (F:Nat->Nat->Prop) (w:World) (v x:Value) (xs:List Value),(∀ b o,F b o->b<w.heap.size)->Glob P w->w.ownsRow 0 ty st v rows.length xs->(∀ b o,F b o->v.ownBlock≠some b)->(∀ i (h:i<rows.length),rows[i].length=st) ->
  (∀ i (hi:i<rows.length) j (hj:j<rows[i].length),∃ u,xs[i * st+j]? = some u/\Reads w F rows[i][j] u)->zam st rows->zam st [row]->Reads w F (.sl [row]) x->(∃ ys,w.ownsRow 0 ty st x 1 ys)->(∀ b,v.ownBlock=some b->x.ownBlock≠some b)->i<=rows.length->rows.length<=1048576 ->
  Calls P f #[v,.int .i64 i,x] w fun e w'=>∃ v' xs',e = .returned v'/\w'.ownsRow 0 ty st v' (zdh rows i row).length xs'/\w.grownBy w' v.ownBlock/\(v'.ownBlock=v.ownBlock\/v'.ownBlock=some w.heap.size\/v'.ownBlock=none) /\
   ∀ q (hq:q<(zdh rows i row).length) j (hj:j<(zdh rows i row)[q].length),∃ u,xs'[q * st+j]? = some u/\Reads w F (zdh rows i row)[q][j] u
theorem zAp {rows:List (List D)} {i st:Nat} {row:List D} (h:∀ i (h:i<rows.length),rows[i].length=st) (hr:row.length=st):∀ q (h:q<(zdh rows i row).length),(zdh rows i row)[q].length=st:=fun q hq=>by
 have hm:=List.getElem_mem hq
 generalize (zdh rows i row)[q]=y at hm
 unfold zdh at hm
 rcases List.mem_append.1 hm with h1 | h1
 ·obtain⟨k,hk,rfl⟩:=List.mem_iff_getElem.1 (List.mem_of_mem_take h1)
  exact h k hk
 ·rcases List.mem_cons.1 h1 with rfl | h1
  ·exact hr
  ·obtain⟨k,hk,rfl⟩:=List.mem_iff_getElem.1 (List.mem_of_mem_drop h1)
   exact h k hk
theorem zsS (rows:List (List D)) {i:Nat} (row:List D) (h:i<=rows.length):(zdh rows i row).length=rows.length+1:=by simp [zdh];omega
theorem zzT {o:Oper} {f:FuncId} {c:Call} {p a1 a2 a3:Operand} {r st ver k:Nat} {ty:TypeId} {rows:List (List D)} {row:List D} (hc:zru P f st ty rows row k) (ho:o.op = .call c) (hp:c.callee = .value p) (hf:σ.eval p = .fn f []) (hargs:c.args.toList=[a1,a2,a3]) (h1:σ.eval a1 = .stk r st ver 0 rows.length) (ht:σ.tok r=some ⟨st,ty,ver,some rows⟩) (h2:σ.eval a2 = .d (.raw (.int .i64 k))) (hk:k<=rows.length) {r2:Nat} (h3:σ.eval a3 = .grow r2 [row]) (ht2:σ.tok r2=some ⟨st,ty,1,none⟩) (hne2:r≠r2) (hfit:zam st rows) (hfit2:zam st [row]) (hb:rows.length<=1048576) :
  OpOk P A o σ (σ.setTok r (some ⟨st,ty,ver+1,some (zdh rows k row)⟩)) (.stk r st (ver+1) 0 (zdh rows k row).length):=by
 intro g a w hk' K Q hK
 obtain⟨hen,hcon⟩:=hc
 have hpe:=hk'.eval p
 rw [hf] at hpe
 obtain⟨vs,hv,hvl,hvs⟩:=hpe.fn_eq
 obtain rfl:vs=[]:=List.eq_nil_of_length_eq_zero hvl.symm
 have h1e:=hk'.eval a1
 rw [h1] at h1e
 have h2e:=hk'.eval a2
 rw [h2] at h2e
 have h3e:=hk'.eval a3
 rw [h3] at h3e
 obtain⟨h3r,h3t⟩:=h3e.grow_eq
 have h3v:a.eval a3=g.tv r2:=(h3t 1 (by simp [St.tk,ht2])).2 rfl
 obtain⟨ys,hown2⟩:=(hk'.tok r2 _ ht2).own rfl
 obtain⟨q,cap,hv1,hcap,_,hvv⟩:=h1e.stk_eq
 obtain⟨hcut,_⟩:=(hvv ver (by simp [St.tk,ht])).2 rfl
 obtain⟨xs,hown,hlow,hrows⟩:=hk'.tok r _ ht
 obtain⟨hr1,hr2⟩:=hrows rows rfl
 have hve:a.eval a1=g.tv r:=by
  rw [hv1,hcut]
  rcases hown.2 with⟨e1,e2⟩ | ⟨b,cp,cur,e1,_⟩
  ·have e2':rows.length=0:=e2
   rw [e1,e2'];rfl
  ·rw [e1];simp [zfd,Addr.add_lit,Tok.n]
 have hr:(execOp a.eval o).run P w = .ok (.enter f #[g.tv r,.int .i64 k,a.eval a3]) w:=by
  simp only [execOp,ho,resolve,hp,hv,Deferred.ofValue,Sem.run_bind,Sem.run_pure,Result.andThen_ok,invoke]
  rw [zaL hen]
  have he:#[]++c.args.map a.eval++[].toArray=#[g.tv r,.int .i64 k,a.eval a3]:=by
   apply Array.ext'
   simp [hargs,hve,h2e.raw_eq]
  rw [he]
 refine zcC hr ((hcon g.F w (g.tv r) (a.eval a3) xs hk'.Fb (A.glob w hk'.below) hown (fun b o hf e=>by have:=(hk'.Ftok r _ b ht e o hf).1;cases this) hr1 hr2 hfit hfit2 h3r ⟨ys,by rw [h3v];exact⟨hown2.1,hown2.2.imp id fun⟨b,cap,cur,e,_,r⟩=>⟨b,cap,cur,e,Nat.zero_le _,r⟩⟩⟩ (fun b hb1 hb2=>hk'.toktok r _ r2 _ b ht ht2 hne2 hb1 (by rw [<- h3v];exact hb2)) hk hb).mono ?_)
 rintro e w' ⟨v',xs',rfl,hown',hgr,hat,hrd⟩
 have hlen:=zsS rows row hk
 have h5:=hk'.restack (k':=⟨st,ty,ver+1,some (zdh rows k row)⟩) ht (by simp) (by simp) (.inl (Nat.lt_succ_self _)) hgr hown' (fun rows' hr'=>by
  cases hr'
  exact⟨zAp hr1 (hfit2 row (by simp)).1,hrd⟩) hat
 have hv2:∃ p' cap',v' = .slice p' (zdh rows k row).length cap'/\(zdh rows k row).length<=cap'/\(0<(zdh rows k row).length->∃ b o,p'=some ⟨b,o,none⟩)/\zfd v' st 0 (zdh rows k row).length=v'/\zpV v'=(zdh rows k row).length:=by
  rcases hown'.2 with⟨e,e0⟩ | ⟨b,cp,cur,e,_,_,h3,_⟩
  ·exact⟨none,0,by rw [e,e0],by omega,fun h=>by omega,by rw [e,e0];rfl,by rw [e,e0];rfl⟩
  ·exact⟨_,cp,e,h3,fun _=>⟨b,0,rfl⟩,by rw [e];simp [zfd,Addr.add_lit],by rw [e];rfl⟩
 obtain⟨p',cap',rfl,h6,h7,h8,h9⟩:=hv2
 refine hK _ _ w' h5 (.stk r st _ 0 _ _ _ h6 h7 fun n' hn'=>?_)
 have e1:(σ.setTok r (some ⟨st,ty,ver+1,some (zdh rows k row)⟩)).tk r=some (ver+1):=by simp [St.tk,St.tok_setTok]
 rw [e1] at hn'
 cases hn'
 refine⟨Nat.le_refl _,fun _=>?_⟩
 simp only [zp]
 exact⟨h8.symm,by rw [h9];omega⟩
theorem zEX (n:Nat) {all:List Oper} {f:FuncId} {o:Oper} {rest:List Oper} {i base:Nat} {acc:List RI} {s:List Itm} {Q:Exit->St->Prop} {c:Call} {p a1 a2 a3:Operand} {r st ver k:Nat} {ty:TypeId} {rows:List (List D)} {row:List D} (hc:zru P f st ty rows row k) (ho:o.op = .call c) (hp:c.callee = .value p) (hf:σ.eval p = .fn f []) (hargs:c.args.toList=[a1,a2,a3]) (h1:σ.eval a1 = .stk r st ver 0 rows.length) (ht:σ.tok r=some ⟨st,ty,ver,some rows⟩) (h2:σ.eval a2 = .d (.raw (.int .i64 k))) (hk:k<=rows.length) {r2:Nat} (h3:σ.eval a3 = .grow r2 [row]) (ht2:σ.tok r2=some ⟨st,ty,1,none⟩) (hne2:r≠r2) (hfit:zam st rows) (hfit2:zam st [row]) (hb:rows.length<=1048576) (hd:zaf A.N o=true) (hne:r≠base+i)
  (hr:go P A n (.dops all rest (i+1) base (acc++[zhd σ o (.stk r st (ver+1) 0 (zdh rows k row).length) (.tok r ⟨st,ty,ver+1,some (zdh rows k row)⟩)])) s ((σ.setTok r (some ⟨st,ty,ver+1,some (zdh rows k row)⟩)).put o.dst (.stk r st (ver+1) 0 (zdh rows k row).length)) Q):zbL P A (.dexe (some f) all o rest i base acc) s σ Q:=by
 have hh:zEk P σ (base+i) o (.stk r st (ver+1) 0 (zdh rows k row).length) (.tok r ⟨st,ty,ver+1,some (zdh rows k row)⟩):=⟨fun e=>absurd (Option.some.inj e) hne,fun A' σ' he hbt _=>by
  obtain⟨e1,e2⟩:=znR ho he
  have m1:=e1 a1 (by rw [hargs];simp)
  have m2:=e1 a2 (by rw [hargs];simp)
  have m3:=e1 a3 (by rw [hargs];simp)
  have hrel:a1 ∈ zag o.op:=by rw [ho];simp [zag,hp,hargs]
  have hrel3:a3 ∈ zag o.op:=by rw [ho];simp [zag,hp,hargs]
  exact zzT hc ho hp ((e2 p hp).trans hf) hargs (m1.trans h1) (((hbt a1 hrel r (by rw [m1,h1];simp [AV.ment])).2).trans ht) (m2.trans h2) hk (m3.trans h3) (((hbt a3 hrel3 r2 (by rw [m3,h3];simp [AV.ment])).2).trans ht2) hne2 hfit hfit2 hb⟩
 exact fun hg hP=>zdL hg (.inr (.inr (.inr (.inr hh)))) hd (zar n _ _ _ _ hr hP)
end
section
open Go Go.RowKit
mutual
def AV.ren (q r:Nat):AV->AV
 | .dead=>.dead
 | .d x=>.d x
 | .at_ cs=>.at_ cs
 | .agg cs=>.agg (zdd q r cs)
 | .tup cs=>.tup (zdd q r cs)
 | .fn f cs=>.fn f (zdd q r cs)
 | .mapd ks cs=>.mapd ks cs
 | .bnd f x=>.bnd f (x.ren q r)
 | .box p j=>.box (if p=q then r else p) j
 | .elem p st i j=>.elem p st i j
 | .own p n=>.own p n
 | .grow p rows=>.grow p rows
 | .mp p=>.mp p
 | .stk p st ver off len=>.stk p st ver off len
 | .selem p st ver i j=>.selem p st ver i j
def zdd (q r:Nat):List AV->List AV
 | []=>[]
 | c :: cs=>c.ren q r :: zdd q r cs
end
theorem zbY (q r:Nat):∀ cs:List AV,(zdd q r cs).length=cs.length
 | []=>rfl
 | c :: cs=>by rw [zdd,List.length_cons,List.length_cons,zbY q r cs]
theorem zqb (q r:Nat):∀ (cs:List AV) (i:Nat) (h:i<(zdd q r cs).length) (h':i<cs.length),(zdd q r cs)[i]=(cs[i]).ren q r
 | c :: cs,0,_,_=>rfl
 | c :: cs,i+1,h,h'=>zqb q r cs i (by rw [zbY];simpa using h') (by simpa using h')
theorem Has.ren {g:Gh} {tk:Nat->Option Nat} {w:World} {q r:Nat} (e:g.m r=g.m q) {x:AV} {v:Value} (h:Has g tk w x v):Has g tk w (x.ren q r) v:=by
 have key:∀ (cs:List AV) (vs:List Value),(∀ i (hi:i<cs.length) (hv:i<vs.length),Has g tk w ((cs[i]).ren q r) vs[i])->∀ i (hi:i<(zdd q r cs).length) (hv:i<vs.length),Has g tk w (zdd q r cs)[i] vs[i]:=fun cs vs ih i hi hv=>by
  have h':i<cs.length:=by rw [zbY] at hi;exact hi
  rw [zqb q r cs i hi h'];exact ih i h' hv
 induction h with
 | dead v=>exact .dead v
 | d h=>exact .d h
 | agg cs vs hl _ ih=>exact .agg _ vs ((zbY q r cs).trans hl) (key cs vs ih)
 | tup cs vs hl _ ih=>exact .tup _ vs ((zbY q r cs).trans hl) (key cs vs ih)
 | fn f cs vs hl _ ih=>exact .fn f _ vs ((zbY q r cs).trans hl) (key cs vs ih)
 | bnd f x v _ ih=>exact .bnd f _ v ih
 | box p j=>
  rw [AV.ren]
  split
  ·rename_i e1;subst e1
   rw [<- e];exact .box r j
  ·exact .box p j
 | elem p st i j=>exact .elem p st i j
 | own p n c h=>exact .own p n c h
 | stk p st ver off len a c hc hp h=>exact .stk p st ver off len a c hc hp h
 | selem p st ver i j b o h=>exact .selem p st ver i j b o h
 | at_ cs b o h=>exact .at_ cs b o h
 | grow p rows v h ht=>exact .grow p rows v h ht
 | mp p=>exact .mp p
 | mapd ks cs b es h1 h2 h3 h4 h5 h6 _=>exact .mapd ks cs b es h1 h2 h3 h4 h5 h6
def Blk.ren (q r:Nat):Blk->Blk
 | .cell ty cs=>.cell ty (zdd q r cs)
 | .row st ty rows=>.row st ty rows
 | .map tag ks cs=>.map tag ks cs
 | .iter p n l=>.iter p n l
 | .obj o=>.obj o
def zhZ (q r:Nat):List (Nat × AV)->List (Nat × AV)
 | []=>[]
 | (t,x) :: l=>(t,x.ren q r) :: zhZ q r l
def zgU (q r:Nat):List (Nat × Option Blk)->List (Nat × Option Blk)
 | []=>[]
 | (t,none) :: l=>(t,none) :: zgU q r l
 | (t,some b) :: l=>(t,some (b.ren q r)) :: zgU q r l
theorem zpc (q r:Nat):∀ (l:List (Nat × AV)) (t:Nat),zk (zhZ q r l) t=(zk l t).map (AV.ren q r)
 | [],t=>rfl
 | (k,x) :: l,t=>by
  simp only [zhZ,zk]
  split
  ·rfl
  ·exact zpc q r l t
theorem zkq (q r:Nat):∀ (l:List (Nat × Option Blk)) (t:Nat),zk (zgU q r l) t=(zk l t).map (Option.map (Blk.ren q r))
 | [],t=>rfl
 | (k,none) :: l,t=>by
  simp only [zgU,zk]
  split
  ·rfl
  ·exact zkq q r l t
 | (k,some b) :: l,t=>by
  simp only [zgU,zk]
  split
  ·rfl
  ·exact zkq q r l t
def St.ren (q r:Nat) (σ:St):St:=⟨zhZ q r σ.env,zgU q r σ.blks,σ.toks⟩
section
variable {P:Program} {A:Base P} {σ:St} {g:Gh} {a:Act} {w:World}
theorem zek.ren {q r:Nat} (e:g.m r=g.m q) {tk:Nat->Option Nat} {b:Nat} {k:Blk} (h:zek g tk w b k):zek g tk w b (k.ren q r):=by
 cases k with
 | cell ty cs=>
  obtain⟨arr,h1,h2,h3⟩:=h
  refine⟨arr,h1,h2.trans (zbY q r cs).symm,fun j hj hj'=>?_⟩
  have h':j<cs.length:=by rw [zbY] at hj;exact hj
  rw [zqb q r cs j hj h']
  exact(h3 j h' hj').ren e
 | _=>exact h
theorem St.blk_ren (q r p:Nat) (b:Blk) (h:(σ.ren q r).blk p=some b):∃ b',σ.blk p=some b'/\b=b'.ren q r:=by
 unfold St.blk St.ren at h
 simp only [zkq] at h
 unfold St.blk
 cases hl:zk σ.blks p with
 | none=>rw [hl] at h;cases h
 | some x=>
  rw [hl] at h
  cases x with
  | none=>cases h
  | some b'=>cases h;exact⟨b',rfl,rfl⟩
theorem Ok.ren (h:Ok A σ g a w) {q r:Nat} (e:g.m r=g.m q):Ok A (σ.ren q r) g a w:=by
 refine⟨h.below,h.hB,h.F0,h.Fn,h.Fb,h.defers,h.size,fun t=>?_,fun p b hp=>?_,fun p b hp=>?_,fun p b p' b' hp hp'=>?_,h.tok,h.Ftok,fun p k p' b x hp hp'=>?_,h.toktok,h.fix,h.hist⟩
 ·have h1:(σ.ren q r).get t=(σ.get t).ren q r:=by
   unfold St.get St.ren
   simp only [zpc]
   cases zk σ.env t <;> rfl
  rw [h1];exact(h.env t).ren e
 ·obtain⟨b',h1,rfl⟩:=St.blk_ren q r p b hp
  have h2:=h.blk p b' h1
  refine⟨h2.1.imp id fun h3=>⟨h3.1,?_⟩,h2.2.ren e⟩
  cases b' <;> exact h3.2
 ·obtain⟨b',h1,rfl⟩:=St.blk_ren q r p b hp
  exact h.Fblk p b' h1
 ·obtain⟨c,h1,rfl⟩:=St.blk_ren q r p b hp
  obtain⟨c',h1',rfl⟩:=St.blk_ren q r p' b' hp'
  exact h.inj p c p' c' h1 h1'
 ·obtain⟨c,h1,rfl⟩:=St.blk_ren q r p' b hp'
  exact h.tokblk p k p' c x hp h1
theorem St.move_ok (q r:Nat) {k:Blk} (hb:σ.blk q=some k) (hf:A.fx r=false/\A.tk0 r=none) (hm:(zai r σ.env || zP r σ.blks)=false) (hl:(q == r || (zdq q || k.lent))=false) (hk:Ok A σ g a w):∃ g',Ok A (((σ.setBlk q none).setBlk r (some k)).ren q r) g' a w:=by
 rw [Bool.or_eq_false_iff] at hl
 have hne:q≠r:=beq_eq_false_iff_ne.1 hl.1
 have hfree:=St.free_as hf.1 hf.2 hm
 have h1:Ok A (σ.setBlk q none) g a w:=hk.sub (fun _=>.inr rfl) (fun p=>by
  rw [St.blk_setBlk]
  split
  ·exact .inl rfl
  ·exact .inr rfl) fun _=>.inr rfl
 have hf1:(σ.setBlk q none).free A r:=⟨hfree.1,fun p b hp=>by
  rw [St.blk_setBlk] at hp
  split at hp
  ·cases hp
  ·exact hfree.2.1 p b hp,hfree.2.2⟩
 have h2:=hk.blk q k hb
 have h3:=h1.addBlk (b:=g.m q) (k:=k) hf1 (h2.1.imp id fun h=>⟨h.1,by
  have h5:=h.2
  unfold zho at h5
  rw [Bool.or_comm,hl.2] at h5
  cases h5⟩) h2.2 (hfree.2.1 q k hb) (hk.Fblk q k hb) (fun p b hp e=>by
  rw [St.blk_setBlk] at hp
  split at hp
  ·cases hp
  ·rename_i hn
   exact hk.inj p b q k hp hb (fun e=>hn e.symm) e) fun p b hp e=>hk.tokblk p b q k _ hp hb e rfl
 exact⟨_,h3.ren (by show zcZ g.m r (g.m q) r=zcZ g.m r (g.m q) q;rw [zp,zw hne])⟩
theorem zan (q r:Nat) {k:Blk} {c:Code} {K:Exit->St->Prop} (hb:σ.blk q=some k) (hf:A.fx r=false/\A.tk0 r=none) (hm:(zai r σ.env || zP r σ.blks)=false) (hl:(q == r || (zdq q || k.lent))=false) (h:SatC P A c (((σ.setBlk q none).setBlk r (some k)).ren q r) K):SatC P A c σ K:=
 zen (fun _g _a _w hk=>St.move_ok q r hb hf hm hl hk) h
theorem zaA (q r:Nat) {f:Option FuncId} {all:List Oper} {o:Oper} {rest:List Oper} {i base:Nat} {s:List Itm} {Q:Exit->St->Prop} {k:Blk} (hb:σ.blk q=some k) (hf:A.fx r=false/\A.tk0 r=none) (hm:(zai r σ.env || zP r σ.blks)=false) (hl:(q == r || (zdq q || k.lent))=false) (σ':St) (hσ:((σ.setBlk q none).setBlk r (some k)).ren q r=σ')
  (h:zbL P A (.exe f all o rest i base) s σ' Q):zbL P A (.exe f all o rest i base) s σ Q:=fun g a w hk=>by
 subst hσ
 obtain⟨g',h1⟩:=St.move_ok q r hb hf hm hl hk
 exact h g' a w h1
theorem zdD (q j:Nat) {ty:TypeId} {cs:List AV} {r:Nat} {rows:List (List D)} {c:Code} {K:Exit->St->Prop} (hb:σ.blk q=some (.cell ty cs)) (hj:cs[j]? = some (.grow r rows)) (h:SatC P A c (σ.setBlk q (some (.cell ty (cs.set j (.d (.sl rows)))))) K):SatC P A c σ K:=by
 refine zen (fun g a w h1=>?_) h
 obtain⟨hB,arr,c1,c2,c3⟩:=h1.blk q _ hb
 obtain⟨hjl,hje⟩:=List.getElem?_eq_some_iff.1 hj
 refine⟨_,(h1.write (k':=.cell ty (cs.set j (.d (.sl rows)))) (w':=w) hb (fun _ _=>rfl) rfl (.of (Below.refl _ _)) ⟨arr,c1,by simpa using c2,fun i hi hi'=>?_⟩).1⟩
 have hi2:i<cs.length:=by simpa using hi
 rw [List.getElem_set]
 split
 ·rename_i e1;subst e1
  have h3:=c3 j hjl hi'
  rw [hje] at h3
  cases h3 with
  | grow _ _ _ h4 _=>exact .d h4
 ·exact c3 i hi2 hi'
theorem Ok.notX {L:Lent} (hA:LentA A L) (hL:∀ r k,¬ L.tok r k) (hk:Ok A σ g a w) {q x:Nat} {k:Tok} (ht:σ.tok q=some k) (hx:(g.tv q).ownBlock=some x) (hall:∀ r,L.has r=true->(σ.blk r).isSome=true):¬ A.X x:=fun h=>by
 rcases hA.X x h with⟨r,h1,h2⟩ | ⟨r,k',h1⟩
 ·have h3:=hall r (by rw [<- hA.fx];exact h1)
  obtain⟨b,hb⟩:=Option.isSome_iff_exists.1 h3
  have h4:=hk.tokblk q k r b x ht hb hx
  rw [hk.fix r h1] at h4
  exact h4 h2
 ·exact hL r k' h1
theorem zdb (hX:∀ x,¬ A.X x) (r q j r2:Nat) {ty e:TypeId} {cs:List AV} {st len ver:Nat} {rows:List (List D)} {c:Code} {K:Exit->St->Prop} (hb:σ.blk q=some (.cell ty cs)) (hj:cs[j]? = some (.stk r st ver 0 len)) (ht:σ.tok r=some ⟨st,e,ver,some rows⟩) (hl:len=rows.length) (h0:rows≠[])
  (hf:A.fx r2=false/\A.tk0 r2=none) (hm:(zai r2 σ.env || zP r2 σ.blks)=false) (h:SatC P A c (((σ.setTok r none).setTok r2 (some ⟨st,e,rows.length,none⟩)).setBlk q (some (.cell ty (cs.set j (.grow r2 rows))))) K):SatC P A c σ K:=by
 refine zen (fun g a w hk=>?_) h
 subst hl
 obtain⟨xs,hown,hlow,hrows⟩:=hk.tok r _ ht
 obtain⟨hr1,hr2⟩:=hrows rows rfl
 have hsub:Ok A (σ.setTok r none) g a w:=hk.sub (fun _=>.inr rfl) (fun _=>.inr rfl) fun q=>by
  rw [St.tok_setTok]
  split
  ·exact .inl rfl
  ·exact .inr rfl
 have hlt:∀ x,(g.tv r).ownBlock=some x->x<w.heap.size:=fun x hx=>(hk.tok r _ ht).lt hx
 have hlo:∀ x,(g.tv r).ownBlock=some x->A.B<=x:=fun x hx=>(hlow x hx).resolve_right fun h=>hX _ h.1
 let G:Nat->Nat->Prop:=fun b o=>g.F b o\/((g.tv r).ownBlock=some b/\o<rows.length * st)
 have h1:=hsub.moreF G (fun _ _ h=>.inl h) fun b o hG=>by
  rcases hG with h1 | ⟨h1,_⟩
  ·exact .inl h1
  ·refine .inr ⟨hlo b h1,hlt b h1,fun r' k' hr'=>?_,fun r' k' hr'=>?_⟩
   ·exact hk.tokblk r _ r' k' b ht hr' h1
   ·rw [St.tok_setTok] at hr'
    split at hr'
    ·cases hr'
    ·rename_i hne
     exact hk.toktok r _ r' k' b ht hr' hne h1
 have hfree:(σ.setTok r none).free A r2:=St.free_as (σ:=σ.setTok r none) hf.1 hf.2 hm
 have h2:=h1.addTok (r:=r2) (k:=⟨st,e,rows.length,none⟩) (v:=g.tv r) hfree ⟨xs,hown,fun x hx=>.inl (hlo x hx),fun rows' hx=>by cases hx⟩ (fun x hx o hG=>by
   rcases hG with h | ⟨_,h⟩
   ·have:=(hk.Ftok r _ x ht hx o h).1;cases this
   ·exact⟨rfl,h⟩) (fun r' k' x hr' hx=>hk.tokblk r _ r' k' x ht hr' hx) fun r' k' x hr' hx=>by
   rw [St.tok_setTok] at hr'
   split at hr'
   ·cases hr'
   ·rename_i hne
    exact hk.toktok r _ r' k' x ht hr' hne hx
 obtain⟨hB,arr,c1,c2,c3⟩:=h2.blk q _ hb
 obtain⟨hjl,hje⟩:=List.getElem?_eq_some_iff.1 hj
 refine⟨_,(h2.write (k':=.cell ty (cs.set j (.grow r2 rows))) (w':=w) hb (fun _ _=>rfl) rfl (.of (Below.refl _ _)) ⟨arr,c1,by simpa using c2,fun i hi hi'=>?_⟩).1⟩
 have hi2:i<cs.length:=by simpa using hi
 rw [List.getElem_set]
 split
 ·rename_i e1;subst e1
  obtain⟨_,arr0,d1,d2,d3⟩:=hk.blk q _ hb
  have harr:arr=arr0:=by
   have:=c1.symm.trans d1
   simp only [Option.some.injEq,Obj.cells.injEq] at this
   simpa using this.1
  subst harr
  have h3:=d3 j hjl hi'
  rw [hje] at h3
  obtain⟨p,cap,hv,hc,hp,hvv⟩:=h3.stk_eq
  obtain⟨hcut,_⟩:=(hvv ver (by simp [St.tk,ht])).2 rfl
  rw [hv]
  rcases hown.2 with⟨e1,e2⟩ | ⟨b,cp,cur,e1,_,_,h5,_⟩
  ·have e2':rows.length=0:=e2
   exact absurd (List.eq_nil_of_length_eq_zero e2') h0
  ·have e1':g.tv r = .slice (some ⟨b,0,none⟩) rows.length cp:=e1
   have hob:(g.tv r).ownBlock=some b:=by rw [e1'];rfl
   have hcut':=hcut
   rw [e1'] at hcut
   simp only [zfd,Option.map_some,Addr.add_lit,Nat.zero_mul,Nat.add_zero,Nat.sub_zero] at hcut
   injection hcut with h7 h8 h9
   subst h7 h9
   refine .grow r2 rows _ (.mk (st:=st) hc hr1 fun i hi j hj=>?_) fun n hn=>?_
   ·obtain⟨u,hu,hrd⟩:=hr2 i hi j hj
    have hcell:=hown.cells (g:=b) hob (i * st+j) u hu
    rw [Addr.add_lit,Nat.zero_add] at hcell
    have hlj:j<st:=Nat.lt_of_lt_of_eq hj (hr1 i hi)
    have hle:i * st+j<rows.length * st:=by
     have h6:(i+1) * st<=rows.length * st:=Nat.mul_le_mul_right st hi
     rw [Nat.add_mul,Nat.one_mul] at h6;omega
    exact⟨.inr ⟨hob,by rw [Nat.zero_add];exact hle⟩,u,by rw [Nat.zero_add];exact hcell,hrd.mono (fun _ _ h=>.inl h) (fun _ _ _ _ h=>h)⟩
   ·have hn':n=rows.length:=by
     have:((σ.setTok r none).setTok r2 (some ⟨st,e,rows.length,none⟩)).tk r2=some rows.length:=by simp [St.tk,St.tok_setTok]
     exact Option.some.inj (hn.symm.trans this)
    subst hn'
    exact⟨Nat.le_refl _,fun _=>by show _=zcZ g.tv r2 (g.tv r) r2;rw [zp,e1']⟩
 ·exact c3 i hi2 hi'
end
end
section
open Go Go.RowKit Go.Shelf
attribute [local go_sem] Oper.semAt_some
def zfz (a b:Int):Int:=if a<b then -1 else if b<a then 1 else 0
def zcI (a b:Int × Int):Int:=if zfz a.1 b.1=0 then zfz a.2 b.2 else zfz a.1 b.1
theorem zwv (a:Int):Con Tryz.prog 207 [.d (.raw (.int .u64 a))] (.d (.raw (.bool false))):=by
 refine kO Tryz.func207 Tryz.ntmps207 fun A hA=>?_
 refine goC 400 ?_
 have k1:(decide ¬ a=a)=false:=decide_eq_false (fun h=>h rfl)
 simp only [go_sem,hA,Tryz.results207]
theorem zBh (a b:Int):Con Tryz.prog 130 [.d (.raw (.int .u64 a)),.d (.raw (.int .u64 b))] (.d (.raw (.int .i64 (zfz a b)))):=by
 refine kO Tryz.func130 Tryz.ntmps130 fun A hA=>?_
 refine goC 400 ?_
 simp only [go_sem,hA]
 refine gC (zwv a) ?_
 simp only [go_sem,hA]
 refine gC (zwv b) ?_
 unfold zfz
 by_cases h1:a<b
 ·simp only [go_sem,hA,decide_eq_true h1,if_pos h1,Tryz.results130]
 by_cases h2:b<a
 ·simp only [go_sem,hA,decide_eq_false h1,decide_eq_true h2,if_neg h1,if_pos h2,Tryz.results130]
 simp only [go_sem,hA,decide_eq_false h1,decide_eq_false h2,if_neg h1,if_neg h2,Tryz.results130]
abbrev zuN (x y:Int) (q:Int):St:=⟨[(0,.d (.sl [[.raw (.int .i64 x)],[.raw (.int .i64 y)]])),(3,.d (.raw (.int .i64 0))),(6,.d (.sl [[.raw (.int .i64 x)],[.raw (.int .i64 y)]])),(7,.d (.raw (.int .i64 2))),(8,.d (.raw (.int .i64 q)))],[],[]⟩
theorem zGV (x y:Int):Con Tryz.prog 129 [.d (.sl [[.raw (.int .i64 x)],[.raw (.int .i64 y)]])] (.d (.raw (.int .i64 (if x=0 then y else x)))):=by
 refine kO Tryz.func129 Tryz.ntmps129 fun A hA=>?_
 refine goC 400 ?_
 simp only [go_sem,hA,List.length_cons,List.length_nil]
 refine zc [0,3,6,7,8] [] [] (fun k σ=>∃ (i:Nat) (j:Int),((i=0/\j=0)\/(i=1/\j=1/\x=0)\/(i=2/\j=2/\x=0/\y=0))/\k=2 - i/\σ=zuN x y j) 2 ⟨0,0,.inl ⟨rfl,rfl⟩,rfl,by simp only [go_sem,zuN]⟩ ?_
 rintro k σ ⟨i,j,hc,rfl,rfl⟩
 refine goC 400 ?_
 rcases hc with⟨rfl,rfl⟩ | ⟨rfl,rfl,rfl⟩ | ⟨rfl,rfl,rfl,rfl⟩
 ·by_cases hx:x=0
  ·subst hx
   have k1:(decide ¬ (0:Int)=0)=false:=by decide
   simp only [go_sem,hA,zuN,List.getD_cons_zero]
   exact⟨by unfold za;omega,1,by omega,1,1,.inr (.inl ⟨rfl,rfl⟩),rfl,rfl⟩
  ·have k1:(decide ¬ x=0)=true:=decide_eq_true hx
   simp only [go_sem,hA,zuN,k1,if_neg hx,List.getD_cons_zero,Tryz.results129]
 ·by_cases hx:y=0
  ·subst hx
   have k1:(decide ¬ (0:Int)=0)=false:=by decide
   simp only [go_sem,hA,zuN,List.getD_cons_zero,List.getD_cons_succ]
   exact⟨by unfold za;omega,0,by omega,2,2,.inr (.inr ⟨rfl,rfl⟩),rfl,rfl⟩
  ·have k1:(decide ¬ y=0)=true:=decide_eq_true hx
   simp only [go_sem,hA,zuN,k1,List.getD_cons_zero,List.getD_cons_succ,Tryz.results129]
 ·simp only [go_sem,hA,zuN,Tryz.results129]
theorem zBi (a b:Int × Int):Con Tryz.prog 61 [zew a,zew b] (.d (.raw (.int .i64 (zcI a b)))):=by
 refine kO Tryz.func61 Tryz.ntmps61 fun A hA=>?_
 refine goC 400 ?_
 by_cases h:a.1=b.1/\a.2=b.2
 ·obtain⟨h1,h2⟩:=h
  have hc:zcI a b=0:=by unfold zcI zfz;rw [h1,h2];simp
  simp only [go_sem,hA,zT,h1,h2,decide_true,Bool.and_self,hc,Tryz.results61]
 ·have k:(decide (a.1=b.1) && decide (a.2=b.2))=false:=by
   rw [<- Bool.not_eq_true];intro hh;exact h (by simpa using hh)
  simp only [go_sem,hA,mixed,zT,k]
  refine gD (zBh a.1 b.1) ?_
  simp only [go_sem,hA]
  refine gD (zBh a.2 b.2) ?_
  simp only [go_sem,hA]
  refine gD (zGV (zfz a.1 b.1) (zfz a.2 b.2)) ?_
  simp only [go_sem,hA,Tryz.results61]
  exact⟨by show chk _ _ _=true;kernel_rfl,rfl⟩
abbrev zjf (a b:Int × Int) (q:Int):St:=⟨[(2,.box 0 0),(3,.box 1 0),(5,.d (.raw (.int .i64 q)))],[(0,some (.cell 42 [.d (.raw (.int .u64 a.1)),.d (.raw (.int .u64 a.2))])),(1,some (.cell 42 [.d (.raw (.int .u64 b.1)),.d (.raw (.int .u64 b.2))]))],[]⟩
theorem zCB (a b:Int × Int):Con Tryz.prog 107 [zew a,zew b] (.d (.raw (.int .i64 (zcI a b)))):=by
 refine kO Tryz.func107 Tryz.ntmps107 fun A hA=>?_
 refine goC 400 ?_
 simp only [go_sem,hA]
 refine zc [2,3,5] [0,1] [] (fun k σ=>∃ (i:Nat) (j:Int),((i=0/\j=0)\/(i=1/\j=1/\a.1=b.1)\/(i=2/\j=2/\a.1=b.1/\a.2=b.2))/\k=2 - i/\σ=zjf a b j) 2 ⟨0,0,.inl ⟨rfl,rfl⟩,rfl,by simp only [go_sem,zjf]⟩ ?_
 rintro k σ ⟨i,j,hc,rfl,rfl⟩
 refine goC 400 ?_
 rcases hc with⟨rfl,rfl⟩ | ⟨rfl,rfl,h1⟩ | ⟨rfl,rfl,h1,h2⟩
 ·by_cases hl:a.1<b.1
  ·have hc:zcI a b = -1:=by unfold zcI zfz;rw [if_pos hl,if_neg (by decide)]
   simp only [go_sem,hA,zjf,mixed,decide_eq_true hl,hc,Tryz.results107]
   show chk _ _ _=true
   kernel_rfl
  by_cases hg:b.1<a.1
  ·have hc:zcI a b=1:=by unfold zcI zfz;rw [if_neg hl,if_pos hg,if_neg (by decide)]
   simp only [go_sem,hA,zjf,mixed,decide_eq_false hl,decide_eq_true hg,hc,Tryz.results107]
   exact⟨by show chk _ _ _=true;kernel_rfl,by show chk _ _ _=true;kernel_rfl⟩
  ·have he:a.1=b.1:=by omega
   simp only [go_sem,hA,zjf,mixed,decide_eq_false hl,decide_eq_false hg]
   exact⟨by show chk _ _ _=true;kernel_rfl,by show chk _ _ _=true;kernel_rfl,by unfold za;omega,1,by omega,1,1,.inr (.inl ⟨rfl,rfl,he⟩),rfl,rfl⟩
 ·have h0:zfz a.1 b.1=0:=by unfold zfz;rw [h1];simp
  by_cases hl:a.2<b.2
  ·have hc:zcI a b = -1:=by unfold zcI;rw [h0,if_pos rfl];unfold zfz;rw [if_pos hl]
   simp only [go_sem,hA,zjf,mixed,decide_eq_true hl,hc,Tryz.results107]
   show chk _ _ _=true
   kernel_rfl
  by_cases hg:b.2<a.2
  ·have hc:zcI a b=1:=by unfold zcI;rw [h0,if_pos rfl];unfold zfz;rw [if_neg hl,if_pos hg]
   simp only [go_sem,hA,zjf,mixed,decide_eq_false hl,decide_eq_true hg,hc,Tryz.results107]
   exact⟨by show chk _ _ _=true;kernel_rfl,by show chk _ _ _=true;kernel_rfl⟩
  ·have he:a.2=b.2:=by omega
   simp only [go_sem,hA,zjf,mixed,decide_eq_false hl,decide_eq_false hg]
   exact⟨by show chk _ _ _=true;kernel_rfl,by show chk _ _ _=true;kernel_rfl,by unfold za;omega,0,by omega,2,2,.inr (.inr ⟨rfl,rfl,h1,he⟩),rfl,rfl⟩
 ·have hc:zcI a b=0:=by unfold zcI zfz;rw [h1,h2];simp
  simp only [go_sem,hA,zjf,hc,Tryz.results107]
end
section
open Go Go.RowKit
abbrev zrR (s:ByteArray) (q:Nat):St:=⟨[(0,.d (.raw (.string s))),(3,.d (.raw (.int .i64 q)))],[],[]⟩
theorem zrW (s:ByteArray):Con Tryz.prog 155 [.d (.raw (.string s))] (.d (.raw (.bool (zaa s.data.toList)))):=by
 refine kO Tryz.func155 Tryz.ntmps155 fun A hA=>?_
 have hsl:s.data.toList.length=s.size:=by simp
 refine goC 400 ?_
 by_cases h1:s.size<1
 ·have g1:decide ((s.size:Int)<1)=true:=decide_eq_true (by omega)
  have hr:zaa s.data.toList=false:=by unfold zaa;rw [hsl,decide_eq_false (by omega:¬ 1<=s.size)];rfl
  simp only [go_sem,hA,g1,hr,undef,Tryz.results155]
 have g1:decide ((s.size:Int)<1)=false:=decide_eq_false (by omega)
 by_cases h2:24<s.size
 ·have g2:decide ((24:Int)<(s.size:Int))=true:=decide_eq_true (by omega)
  have hr:zaa s.data.toList=false:=by unfold zaa;rw [hsl,decide_eq_false (by omega:¬ s.size<=24),Bool.and_false];rfl
  simp only [go_sem,hA,g1,g2,hr,undef,Tryz.results155]
 have g2:decide ((24:Int)<(s.size:Int))=false:=decide_eq_false (by omega)
 have e3:(s=⟨#[46]⟩) ↔ s.data.toList=[46]:=zpT s [46]
 have e4:(s=⟨#[46,46]⟩) ↔ s.data.toList=[46,46]:=zpT s [46,46]
 by_cases h3:s=⟨#[46]⟩
 ·have g3:decide (s=⟨#[46]⟩)=true:=decide_eq_true h3
  have hr:zaa s.data.toList=false:=by rw [e3.1 h3];decide
  simp only [go_sem,hA,g1,g2,g3,hr,undef,Tryz.results155]
 have g3:decide (s=⟨#[46]⟩)=false:=decide_eq_false h3
 by_cases h4:s=⟨#[46,46]⟩
 ·have g4:decide (s=⟨#[46,46]⟩)=true:=decide_eq_true h4
  have hr:zaa s.data.toList=false:=by rw [e4.1 h4];decide
  simp only [go_sem,hA,g1,g2,g3,g4,hr,Tryz.results155]
 have g4:decide (s=⟨#[46,46]⟩)=false:=decide_eq_false h4
 have hv:zaa s.data.toList=s.data.toList.all fun c=>nmC c.toNat:=by
  unfold zaa
  have n3:decide (¬ s.data.toList=[46])=true:=decide_eq_true fun h=>h3 (e3.2 h)
  have n4:decide (¬ s.data.toList=[46,46])=true:=decide_eq_true fun h=>h4 (e4.2 h)
  rw [hsl,decide_eq_true (by omega:1<=s.size),decide_eq_true (by omega:s.size<=24),n3,n4]
  rfl
 simp only [go_sem,hA,g1,g2,g3,g4]
 refine zc [0,3] [] [] (fun y σ=>∃ q:Nat,q<=s.size/\y=s.size - q/\((s.data.toList.take q).all fun c=>nmC c.toNat)=true/\σ=zrR s q) s.size ⟨0,by omega,by omega,rfl,by simp only [go_sem,zrR]⟩ ?_
 rintro y σ ⟨q,hq,rfl,hf,rfl⟩
 refine goC 400 ?_
 by_cases hlt:q<s.size
 ·have k1:decide ((q:Int)<(s.size:Int))=true:=decide_eq_true (by omega)
  have hql:q<s.data.toList.length:=by omega
  have hgd:s.data.toList.getD q 0=s.data.toList[q]:=by simp only [List.getD_eq_getElem?_getD,List.getElem?_eq_getElem hql,Option.getD_some]
  have hstep:nmC ((s.data.toList.getD q 0).toNat:Int)=true->((s.data.toList.take (q+1)).all fun c=>nmC c.toNat)=true:=fun hc=>by
   rw [hgd] at hc
   rw [List.take_succ_eq_append_getElem hql,List.all_append,hf]
   simp only [List.all_cons,List.all_nil,hc,Bool.and_true]
  have hbad:nmC ((s.data.toList.getD q 0).toNat:Int)=false->zaa s.data.toList=false:=fun hc=>by
   rw [hgd] at hc
   rw [hv,List.all_eq_false]
   exact⟨_,List.getElem_mem hql,by rw [hc];decide⟩
  obtain⟨c,hcq⟩:∃ c,((s.data.toList.getD q 0).toNat:Int)=c:=⟨_,rfl⟩
  rw [hcq] at hstep hbad
  clear hf hv hgd hql hsl
  rcases zdB (decide ((97:Int)<=c)) (decide (c<=122)) with⟨l0,u0⟩ | l0 | ⟨l0,u0⟩
  all_goals first | have hn:nmC c=true:=by(unfold nmC;simp only [*,Bool.and_true,Bool.false_and,Bool.and_false,Bool.false_or,Bool.true_or]) | rcases zdB (decide ((65:Int)<=c)) (decide (c<=90)) with⟨l1,u1⟩ | l1 | ⟨l1,u1⟩
  all_goals first | have hn:nmC c=true:=by(unfold nmC;simp only [*,Bool.and_true,Bool.false_and,Bool.and_false,Bool.false_or,Bool.true_or,Bool.or_true]) | rcases zdB (decide ((48:Int)<=c)) (decide (c<=57)) with⟨l2,u2⟩ | l2 | ⟨l2,u2⟩
  all_goals first | have hn:nmC c=true:=by(unfold nmC;simp only [*,Bool.and_true,Bool.false_and,Bool.and_false,Bool.false_or,Bool.true_or,Bool.or_true]) | cases e0:decide (c=46)
  all_goals first | have hn:nmC c=true:=by(unfold nmC;simp only [*,Bool.and_true,Bool.false_and,Bool.and_false,Bool.false_or,Bool.true_or,Bool.or_true]) | cases e1:decide (c=95)
  all_goals first | have hn:nmC c=true:=by(unfold nmC;simp only [*,Bool.and_true,Bool.false_and,Bool.and_false,Bool.false_or,Bool.true_or,Bool.or_true]) | cases e2:decide (c=45)
  all_goals first | have hn:nmC c=true:=by(unfold nmC;simp only [*,Bool.and_true,Bool.false_and,Bool.and_false,Bool.true_or,Bool.or_true,Bool.or_false]) | have hn:nmC c=false:=by(unfold nmC;simp only [*,Bool.false_and,Bool.and_false,Bool.or_false])
  all_goals first | (simp only [go_sem,zrR,Int.toNat_natCast, *,undef];exact⟨⟨by omega,by omega⟩,by unfold za;omega,s.size - (q+1),by omega,q+1,by omega,rfl,hstep hn,rfl⟩) | (simp only [go_sem,zrR,Int.toNat_natCast, *,undef,hbad hn,Tryz.results155];exact⟨by omega,by omega⟩)
 ·have k1:decide ((q:Int)<(s.size:Int))=false:=decide_eq_false (by omega)
  obtain rfl:q=s.size:=by omega
  rw [List.take_of_length_le (by omega)] at hf
  rw [hf] at hv
  simp only [go_sem,hA,zrR,k1,hv,Tryz.results155]
end
end Go.Proofs.YtpnjjmcimjlfkaaGreatDoor
