/- Texts of this proof, part 21: what the proof uses of them. -/
import Derived.Test.YtpnjjmcimjlfkaaGreatDoorDaf
import Derived.Lib.BufferMore
set_option maxRecDepth 100000
set_option maxHeartbeats 64000000
namespace Go.Proofs.YtpnjjmcimjlfkaaGreatDoor
section
open Go Go.RowKit
variable {P:Program} {A:Base P} {σ:St} {g:Gh} {a:Act} {w:World}
theorem Ok.moreF (h:Ok A σ g a w) (G:Nat→Nat→Prop) (hF:∀ b o,g.F b o→G b o)
  (hN:∀ b o,G b o→g.F b o∨(A.B≤b∧b<w.heap.size∧(∀ r k,σ.blk r=some k→b≠g.m r)∧∀ r k,σ.tok r=some k→(g.tv r).ownBlock≠some b)):Ok A σ { g with F:=G } a w:=by
 have e:Ext (fun _=>False) g σ.tk w { g with F:=G } σ.tk w:=⟨hF,fun _ _ _ _ h=>h,fun _ _=>rfl,fun r _ n' hn'=>⟨n',hn',Nat.le_refl _,fun _=>rfl⟩,fun _ _ _ _ h=>h⟩
 refine⟨h.below,h.hB,fun b o hf=>hF _ _ (h.F0 b o hf),fun b o hf=>?_,fun b o hf=>?_,h.defers,h.size,fun t=>(h.env t).mono e (fun _ _=>id),fun r b hr=>⟨(h.blk r b hr).1,(h.blk r b hr).2.mono e (fun _ _=>id) rfl⟩,fun r b hr o hf=>?_,h.inj,fun r k hr=>?_,fun r k x hr hx o hf=>?_,h.tokblk,h.toktok,h.fix,h.hist⟩
 ·rcases hN b o hf with h1 | h1
  ·exact h.Fn b o h1
  ·exact .inr h1.1
 ·rcases hN b o hf with h1 | h1
  ·exact h.Fb b o h1
  ·exact h1.2.1
 ·rcases hN _ o hf with h1 | h1
  ·exact h.Fblk r b hr o h1
  ·exact h1.2.2.1 r b hr rfl
 ·obtain⟨xs,h1,h2,h3⟩:=h.tok r k hr
  exact⟨xs,h1,h2,fun rows hx=>⟨(h3 rows hx).1,fun i hi j hj=>by
   obtain⟨u,h4,h5⟩:=(h3 rows hx).2 i hi j hj
   exact⟨u,h4,h5.mono hF (fun _ _ _ _ h=>h)⟩⟩⟩
 ·rcases hN _ o hf with h1 | h1
  ·exact h.Ftok r k x hr hx o h1
  ·exact absurd hx (h1.2.2.2 r k hr)
theorem zlh (hX:∀ x,¬ A.X x) (r q j:Nat) {ty e:TypeId} {cs:List AV} {st len ver:Nat} {rows:List (List D)} {c:Code} {K:Exit→St→Prop} (hb:σ.blk q=some (.cell ty cs)) (hj:cs[j]? = some (.stk r st ver 0 len)) (ht:σ.tok r=some ⟨st,e,ver,some rows⟩) (hl:len=rows.length)
  (h:zbe P A c ((σ.setTok r none).setBlk q (some (.cell ty (cs.set j (.d (.sl rows)))))) K):zbe P A c σ K:=by
 refine zqV (fun g a w hk=>?_) h
 subst hl
 obtain⟨xs,hown,hlow,hrows⟩:=hk.tok r _ ht
 obtain⟨hr1,hr2⟩:=hrows rows rfl
 have hsub:Ok A (σ.setTok r none) g a w:=hk.sub (fun _=>.inr rfl) (fun _=>.inr rfl) fun q=>by
  rw [St.tok_setTok]
  split
  ·exact .inl rfl
  ·exact .inr rfl
 have hlt:∀ x,(g.tv r).ownBlock=some x→x<w.heap.size:=fun x hx=>(hk.tok r _ ht).lt hx
 let G:Nat→Nat→Prop:=fun b o=>g.F b o∨(g.tv r).ownBlock=some b
 have h1:=hsub.moreF G (fun _ _ h=>.inl h) fun b o hG=>by
  rcases hG with h1 | h1
  ·exact .inl h1
  ·refine .inr ⟨(hlow b h1).resolve_right fun h=>hX _ h.1,hlt b h1,fun r' k' hr'=>?_,fun r' k' hr'=>?_⟩
   ·exact hk.tokblk r _ r' k' b ht hr' h1
   ·rw [St.tok_setTok] at hr'
    split at hr'
    ·cases hr'
    ·rename_i hne
     exact hk.toktok r _ r' k' b ht hr' hne h1
 obtain⟨hB,arr,c1,c2,c3⟩:=h1.blk q _ hb
 obtain⟨hjl,hje⟩:=List.getElem?_eq_some_iff.1 hj
 refine⟨_,(h1.write (k':=.cell ty (cs.set j (.d (.sl rows)))) (w':=w) hb (fun _ _=>rfl) rfl (.of (Below.refl _ _)) ⟨arr,c1,by simpa using c2,fun i hi hi'=>?_⟩).1⟩
 have hi2:i<cs.length:=by simpa using hi
 rw [List.getElem_set]
 split
 ·rename_i e1;subst e1
  obtain⟨_,arr0,d1,d2,d3⟩:=hk.blk q _ hb
  have harr:arr=arr0:=by
   have:=c1.symm.trans d1
   simp only [Option.some.injEq,Obj.cells.injEq] at this
   simpa using this.1
  subst harr
  have h3:=d3 j hjl hi'
  rw [hje] at h3
  obtain⟨p,cap,hv,hc,hp,hvv⟩:=h3.stk_eq
  obtain⟨hcut,_⟩:=(hvv ver (by simp [St.tk,ht])).2 rfl
  rw [hv]
  rcases hown.2 with⟨e1,e2⟩ | ⟨b,cp,cur,e1,_,_,h5,_⟩
  ·have e2':rows.length=0:=e2
   have:rows=[]:=List.eq_nil_of_length_eq_zero e2'
   subst this
   exact .d (.nil _ _)
  ·have e1':g.tv r = .slice (some ⟨b,0,none⟩) rows.length cp:=e1
   have hob:(g.tv r).ownBlock=some b:=by rw [e1'];rfl
   rw [e1'] at hcut
   simp only [zfO,Option.map_some,Addr.add_lit,Nat.zero_mul,Nat.add_zero,Nat.sub_zero] at hcut
   injection hcut with h7 h8 h9
   subst h7 h9
   refine .d (.mk (st:=st) hc hr1 fun i hi j hj=>?_)
   obtain⟨u,hu,hrd⟩:=hr2 i hi j hj
   have hcell:=hown.cells (g:=b) hob (i * st+j) u hu
   rw [Addr.add_lit,Nat.zero_add] at hcell
   exact⟨.inr hob,u,by rw [Nat.zero_add];exact hcell,hrd.mono (fun _ _ h=>.inl h) (fun _ _ _ _ h=>h)⟩
 ·exact c3 i hi2 hi'
theorem zxO (n:Nat) {all:List Oper} {o:Oper} {rest:List Oper} {i base:Nat} {s:List Itm} {Q:Exit→St→Prop} {t e u:TypeId} {p q:Operand} {rows:List (List D)} (hg:zcV A.N all σ o=some true) (ho:o.op = .binOp .eql t p q u) (ht:P.underlying t=some (.slice e)) (hp:σ.eval p = .d (.sl rows)) (hq:σ.eval q = .d (.raw (.slice none 0 0))) (hd:zat A.N o=true)
  (h:∀ b:Bool,(b=true→rows=[])→go P A n (.ops all rest (i+1) base) s (σ.put o.dst (.d (.raw (.bool b)))) Q):zcy P A (.ops all (o :: rest) i base) s σ Q:=by
 refine fun g a w hk=>?_
 have hpe:=hk.eval p
 have hqe:=hk.eval q
 rw [hp] at hpe
 rw [hq] at hqe
 obtain⟨ad,cap,hv,hc⟩:=hpe.sl.slice
 have hr:(execOp a.eval o).run P w = .ok (.value (.bool ad.isNone)) w:=by
  simp only [execOp,ho,hv,hqe.raw_eq]
  cases ad with
  | none=>
   have hg:(eqGuard .eql t p q (.slice none rows.length cap) (.slice none 0 0)).run P w = .ok () w:=rfl
   have:=Lib.run_eql_slice_nil_nil (P:=P) w (t:=t) (e:=e) rows.length cap ht
   simp only [Sem.run_bind,hg,this,Result.andThen_ok,Sem.run_pure,Option.isNone]
  | some ad=>
   have hg:(eqGuard .eql t p q (.slice (some ad) rows.length cap) (.slice none 0 0)).run P w = .ok () w:=rfl
   have:=Lib.run_eql_slice_some_nil (P:=P) w (t:=t) (e:=e) ad rows.length cap ht
   simp only [Sem.run_bind,hg,this,Result.andThen_ok,Sem.run_pure,Option.isNone]
 have hb:ad.isNone=true→rows=[]:=fun hn=>by
  have hpe':=hpe.sl
  rw [hv] at hpe'
  generalize hrw:D.sl rows=x at hpe'
  generalize hvw:Value.slice ad rows.length cap=y at hpe'
  cases hpe' with
  | raw v=>cases hrw
  | nil p cap=>injection hrw
  | rows st rows' b off cap' val hcap hpos=>
   injection hvw with h1
   rw [h1] at hn
   cases hn
 have hw:=zhS hk hg
 show wpListIn A.fe 0 P all.toArray _ (o :: rest) a w
 unfold wpListIn
 rw [hw]
 exact zkd hr (fun _ _ h=>by cases h) (zR n _ _ _ _ (h ad.isNone hb) g _ w (hk.put o.dst (zcn hd) (.d (.raw _))))
def zAi (P:Program) (f:FuncId) (args:List AV) (st:Nat) (ty:TypeId) (rows:List (List D)):Prop:=
 zdm P f∧(∀ i (h:i<rows.length),rows[i].length=st)∧∀ (F:Nat→Nat→Prop) (w:World) (vs:List Value),(∀ b o,F b o→b<w.heap.size)→Glob P w→args.length=vs.length→(∀ i (hi:i<args.length) (hv:i<vs.length),zcw w F args[i] vs[i]) →
  Calls P f vs.toArray w fun e w'=>∃ v xs,e = .returned v∧w'.ownsRow w.heap.size ty st v rows.length xs∧(∀ i (hi:i<rows.length) j (hj:j<rows[i].length),∃ u,xs[i * st+j]? = some u∧Reads w' (fun b o=>F b o∨(w.heap.size≤b∧b<w'.heap.size∧v.ownBlock≠some b)) rows[i][j] u)∧Below w.heap.size w w'
def zGt (rs:List ResultVar) (st:Nat) (ty:TypeId) (rows:List (List D)):Exit→St→Prop
 | .normal,σ | .ret,σ=>∃ t,rs=[.tmp t]∧((∃ r ver,σ.get t = .stk r st ver 0 rows.length∧σ.tok r=some ⟨st,ty,ver,some rows⟩)∨(σ.get t = .d (.raw (.slice none 0 0))∧rows=[]))
 | _,_=>False
theorem zAv {N:Nat} {F:Nat→Nat→Prop} {w:World} {args:List AV} {vs:List Value} (hF:∀ b o,F b o→b<w.heap.size) (hG:Glob P w) (hl:args.length=vs.length) (hv:∀ i (hi:i<args.length) (hv:i<vs.length),zcw w F args[i] vs[i]) (hargs:zt args=true) (hle:args.length≤N) :
  ∃ A:Base P,A.N=N∧A.B=w.heap.size∧A.w0=w∧((∀ t,A.kv t=undef)∧A.ds=[])∧A.F0=F∧(∀ x,¬ A.X x)∧A.fe=Fence.wide∧Ok A (St.enter args) (gh0 F) { tmps:=vs.toArray++Array.replicate (N - vs.toArray.size) undef,defers:=[] } w:=by
 have hsz:vs.toArray.size=args.length:=by simp [hl]
 have hk:Ok ⟨w.heap.size,w,F,N,fun _=>False,fun w' hb=>hG.keep hb fun _ h=>h.elim,hG.low,fun _ h=>h.elim,fun _=>false,fun _=>0,fun _ h=>by simp at h,none,fun _=>none,fun _=>undef,(fun _ _ h=>by cases h),[],fun _=>undef,fun _ _=>rfl⟩ (St.enter args) (gh0 F) { tmps:=vs.toArray++Array.replicate (N - vs.toArray.size) undef,defers:=[] } w:=by
  refine⟨.of (Below.refl _ _),Nat.le_refl _,fun _ _ h=>h,fun _ _ h=>.inl h,hF,rfl,by simp;omega,fun t=>?_,fun r b hr=>by simp [St.enter,St.blk,zQ] at hr,fun r b hr=>by simp [St.enter,St.blk,zQ] at hr,fun r b r' b' hr=>by simp [St.enter,St.blk,zQ] at hr,fun r b hr=>by simp [St.enter,St.tok,zQ] at hr,fun r b x hr=>by simp [St.enter,St.tok,zQ] at hr,fun r b r' b' x hr=>by simp [St.enter,St.tok,zQ] at hr,fun r b r' b' x hr=>by simp [St.enter,St.tok,zQ] at hr,fun r hr=>by simp at hr,fun _ _ h=>by cases h⟩
  have hget:(St.enter args).get t=(args[t]?).getD .dead:=by
   unfold St.enter St.get
   rw [zdD];simp
  rw [Base.val_of (fun _=>rfl) (by simp;omega),hget]
  by_cases ht:t<args.length
  ·have htv:t<vs.length:=by omega
   have e1:(vs.toArray++Array.replicate (N - vs.toArray.size) undef).getD t undef=vs[t]:=by
    rw [Array.getD_eq_getD_getElem?,Array.getElem?_append_left (by simpa using htv)]
    simp [htv]
   rw [e1]
   simp only [List.getElem?_eq_getElem ht,Option.getD_some]
   exact(hv t ht htv).open (zT ht hargs) (fun _ _ h=>h)
  ·simp only [List.getElem?_eq_none (Nat.le_of_not_lt ht),Option.getD_none]
   exact .dead _
 exact⟨_,rfl,rfl,rfl,⟨fun _=>rfl,rfl⟩,rfl,fun _ h=>h,rfl,hk⟩
theorem zxV {f : FuncId} {fn : Func} {c : Code} {args : List AV} {st : Nat} {ty : TypeId} {rows : List (List D)} (hf : P.funcs[f]? = some fn) (hb : fn.body = some c) (hn : (fn.name == "runtime.NumGoroutine") = false) (hrow : ∀ i (h : i < rows.length),rows[i].length = st) (hargs : zt args = true) (hle : args.length ≤ fn.ntmps) (hN : fn.ntmps ≤ 1000000)
  (h:∀ A:Base P,A.N=fn.ntmps→zbe P A c (St.enter args) (stk P A [] (zGt fn.results.toList st ty rows))):zAi P f args st ty rows:=by
 refine⟨⟨fn,hf,hn,by rw [hb];rfl⟩,hrow,fun F w vs hF hG hl hv=>?_⟩
 refine calls_of_wp hf hb ?_
 obtain⟨A,hAN,hAB,hAw,hAF,hA0,hAX,hfe,hk⟩:=zAv (P:=P) (N:=fn.ntmps) hF hG hl hv hargs hle
 have hwp:=h A hAN (gh0 F) _ w hk
 rw [hfe] at hwp
 refine wp_mono (wpIn_wide.1 hwp) fun e a' w' hq=>?_
 obtain⟨σ',g',h1,h2⟩:=hq
 have hret:(∃ t,fn.results.toList=[.tmp t]∧((∃ r ver,σ'.get t = .stk r st ver 0 rows.length∧σ'.tok r=some ⟨st,ty,ver,some rows⟩)∨(σ'.get t = .d (.raw (.slice none 0 0))∧rows=[])))→a'.defers=[]∧∃ v,(results fn a'.tmps).run P w' = .ok v w'∧∃ u xs,Ending.returned v = .returned u∧w'.ownsRow w.heap.size ty st u rows.length xs∧(∀ i (hi:i<rows.length) j (hj:j<rows[i].length),∃ y,xs[i * st+j]? = some y∧Reads w' (fun b o=>F b o∨(w.heap.size≤b∧b<w'.heap.size∧u.ownBlock≠some b)) rows[i][j] y)∧Below w.heap.size w w':=fun⟨t,hrs,hor⟩=>by
  have hbel:Below w.heap.size w w':=by
   have h3:=h2.below
   rw [hAB,hAw] at h3
   exact⟨h3.os,h3.tape,h3.output,h3.size,fun k hk=>h3.block k hk (hAX k)⟩
  have hrun:(results fn a'.tmps).run P w' = .ok (a'.tmps.getD t undef) w':=by
   have:(fn.results.toList.mapM (m:=Go.Sem) (zfe a'.tmps)).run P w' = .ok [a'.tmps.getD t undef] w':=by
    rw [hrs];simp only [List.mapM_cons,List.mapM_nil,zfe,Sem.run_bind,Sem.run_pure,Result.andThen_ok]
   rw [zdv _ this];rfl
  have hds:a'.defers=[]:=by rw [h2.defers];exact hAF.2
  refine⟨hds,_,hrun,a'.tmps.getD t undef,?_⟩
  have hent:Has g' σ'.tk w' (σ'.get t) (a'.tmps.getD t undef):=by
   by_cases ht:t<1000000
   ·exact h2.tmp ht
   ·have hsz:=h2.size
    have e0:a'.tmps.getD t undef=undef:=by
     rw [Array.getD_eq_getD_getElem?,Array.getElem?_eq_none (Nat.le_trans (show a'.tmps.size≤1000000 by omega) (Nat.le_of_not_lt ht))];rfl
    have h5:=h2.env t
    unfold Base.val at h5
    rw [if_neg fun h=>ht (Nat.lt_of_lt_of_le h (by omega))] at h5
    rw [e0,← hAF.1 t];exact h5
  rcases hor with⟨r,ver,hg,ht⟩ | ⟨hg,rfl⟩
  ·rw [hg] at hent
   obtain⟨p,cap,hv,hc,hp,hvv⟩:=hent.stk_eq
   obtain⟨hcut,_⟩:=(hvv ver (by simp [St.tk,ht])).2 rfl
   obtain⟨xs,hown,hlow,hrows⟩:=h2.tok r _ ht
   obtain⟨hr1,hr2⟩:=hrows rows rfl
   have hve:a'.tmps.getD t undef=g'.tv r:=by
    rw [hv,hcut]
    rcases hown.2 with⟨e1,e2⟩ | ⟨b,cp,cur,e1,_⟩
    ·have e2':rows.length=0:=e2
     rw [e1,e2'];rfl
    ·rw [e1];simp [zfO,Addr.add_lit,Tok.n]
   rw [hve]
   have hown3:w'.ownsRow w.heap.size ty st (g'.tv r) rows.length xs:=⟨hown.1,hown.2.imp id fun⟨b,cap,cur,e,_,r⟩=>⟨b,cap,cur,e,by
    rw [← hAB]
    exact(hlow b (by rw [e];rfl)).resolve_right fun h=>hAX _ h.1,r⟩⟩
   refine⟨xs,rfl,hown3,fun i hi j hj=>?_,hbel⟩
   ·obtain⟨u,h4,h5⟩:=hr2 i hi j hj
    refine⟨u,h4,h5.mono (fun b o hf=>?_) (fun _ _ _ _ h=>h)⟩
    rcases h2.Fn b o hf with h6 | h6
    ·exact .inl (by rw [← hA0];exact h6)
    ·refine .inr ⟨by rw [← hAB];exact h6,h2.Fb b o hf,fun e=>?_⟩
     have:=(h2.Ftok r _ b ht e o hf).1
     cases this
  ·rw [hg] at hent
   rw [hent.raw_eq]
   exact⟨[],rfl,World.ownsRow_nil _ _ _ _,fun i hi=>by simp at hi,hbel⟩
 cases e with
 | normal=>exact hret h1
 | ret=>exact hret h1
 | exit | goto | panic | outgrown=>exact h1.elim
theorem znH {o:Oper} {f:FuncId} {c:Call} {p:Operand} {asL:List AV} {st me:Nat} {ty:TypeId} {rows:List (List D)} (ho:o.op = .call c) (hp:c.callee = .value p) (hf:σ.eval p = .fn f []) (ha:zY (c.args.toList.map σ.eval)=some asL) (hc:zAi P f asL st ty rows) (hm:σ.free A me) :
  zO P A o σ (σ.setTok me (some ⟨st,ty,0,some rows⟩)) (.stk me st 0 0 rows.length):=by
 intro g a w hk K Q hK
 obtain⟨hen,hrow,hcon⟩:=hc
 obtain⟨hl,hg⟩:=zbp ha
 have hpe:=hk.eval p
 rw [hf] at hpe
 obtain⟨vs,hv,hvl,hvs⟩:=hpe.fn_eq
 obtain rfl:vs=[]:=List.eq_nil_of_length_eq_zero hvl.symm
 have hr:(execOp a.eval o).run P w = .ok (.enter f (c.args.toList.map a.eval).toArray) w:=by
  simp only [execOp,ho,resolve,hp,hv,Deferred.ofValue,Sem.run_bind,Sem.run_pure,Result.andThen_ok,invoke]
  rw [zbc hen]
  have he:#[]++c.args.map a.eval++[].toArray=(c.args.toList.map a.eval).toArray:=by
   apply Array.ext';simp
  rw [he]
 refine zcN hr ?_
 refine(hcon g.F w (c.args.toList.map a.eval) hk.Fb (A.glob w hk.below) (by simp only [List.length_map] at hl ⊢;omega) (fun i hi hv=>?_)).mono ?_
 ·simp only [List.length_map] at hl
  have hi':i<c.args.toList.length:=by omega
  have h1:=hg i (by simpa using hi') hi
  rw [List.getElem_map] at h1
  rw [List.getElem_map]
  exact(hk.eval _).close h1
 ·rintro e w' ⟨v,xs,rfl,hown,hcells,hb⟩
  have hbk:∀ x,v.ownBlock=some x→w.heap.size≤x∧x<w'.heap.size:=fun x hx=>hown.lt x hx
  obtain⟨h1,e1⟩:=hk.grown hb (fun b o=>g.F b o∨(w.heap.size≤b∧b<w'.heap.size∧v.ownBlock≠some b)) (fun _ _ h=>.inl h) (fun b o h=>h.imp id fun h=>⟨h.1,h.2.1⟩)
  have hBs:=hk.hB
  have h2:=h1.addTok (r:=me) (k:=⟨st,ty,0,some rows⟩) (v:=v) hm ⟨xs,⟨hown.1,hown.2.imp id fun⟨gb,cap,cur,h2,_,r⟩=>⟨gb,cap,cur,h2,Nat.zero_le _,r⟩⟩,fun x hx=>.inl (by have:=(hbk x hx).1;omega),fun rows' hr'=>by cases hr';exact⟨hrow,fun i hi j hj=>hcells i hi j hj⟩⟩ (fun x hx o hf=>by
   rcases hf with h3 | h3
   ·have:=hk.Fb _ o h3;have:=(hbk x hx).1;omega
   ·exact absurd hx h3.2.2) (fun r k x hr hx e=>by
   have:=(hk.blk r k hr).2.lt;have:=(hbk x hx).1
   have e2:x=g.m r:=e
   omega) (fun r k x hr hx e=>by
   have:=(hk.tok r k hr).lt e;have:=(hbk x hx).1;omega)
  have hvf:∃ p cap,v = .slice p rows.length cap∧rows.length≤cap∧(0<rows.length→∃ b o,p=some ⟨b,o,none⟩)∧zfO v st 0 rows.length=v∧zqR v=rows.length:=by
   rcases hown.2 with⟨e,e0⟩ | ⟨b,cp,cur,e,_,_,h3,_⟩
   ·exact⟨none,0,by rw [e,e0],by omega,fun h=>by omega,by rw [e,e0];rfl,by rw [e,e0];rfl⟩
   ·exact⟨_,cp,e,h3,fun _=>⟨b,0,rfl⟩,by rw [e];simp [zfO,Addr.add_lit],by rw [e];rfl⟩
  obtain⟨p',cap',rfl,h3,h4,h5,h6⟩:=hvf
  refine hK _ _ w' h2 (.stk me st 0 0 _ _ _ h3 h4 fun n' hn'=>?_)
  simp only [St.tk,St.tok_setTok,if_pos,Option.map_some,Option.some.injEq] at hn'
  subst hn'
  refine⟨Nat.le_refl _,fun _=>?_⟩
  simp only [zo]
  exact⟨h5.symm,by rw [h6];omega⟩
theorem zEj (n:Nat) {all:List Oper} {f:FuncId} {o:Oper} {rest:List Oper} {i base:Nat} {s:List Itm} {Q:Exit→St→Prop} {c:Call} {p:Operand} {ys:List AV} {st:Nat} {ty:TypeId} {rows:List (List D)} (hc:zAi P f ys st ty rows) (ho:o.op = .call c) (hp:c.callee = .value p) (hf:σ.eval p = .fn f []) (ha:zY (c.args.toList.map σ.eval)=some ys) (hd:zat A.N o=true) (hfr:σ.ment (base+i)=false)
  (hr:go P A n (.ops all rest (i+1) base) s ((σ.setTok (base+i) (some ⟨st,ty,0,some rows⟩)).put o.dst (.stk (base+i) st 0 0 rows.length)) Q):zcy P A (.exe (some f) all o rest i base) s σ Q:=zdn (znH ho hp hf ha hc (St.free_of hfr)) hd (zR n _ _ _ _ hr)
theorem ztv {o:Oper} {f:FuncId} {c:Call} {p:Operand} {asL:List AV} {st me:Nat} {ty:TypeId} {rows:List (List D)} (ho:o.op = .call c) (hp:c.callee = .value p) (hf:σ.eval p = .fn f []) (ha:c.args.toList.map σ.eval=asL) (hcl:zt asL=true) (hc:zuK P f asL st ty rows) (hm:σ.free A me) :
  zO P A o σ (σ.setTok me (some ⟨st,ty,rows.length,none⟩)) (.grow me rows):=by
 intro g a w hk K Q hK
 obtain⟨hen,hrow,hcon⟩:=hc
 have hl:(c.args.toList.map σ.eval).length=asL.length:=by rw [ha]
 have hpe:=hk.eval p
 rw [hf] at hpe
 obtain⟨vs,hv,hvl,hvs⟩:=hpe.fn_eq
 obtain rfl:vs=[]:=List.eq_nil_of_length_eq_zero hvl.symm
 have hr:(execOp a.eval o).run P w = .ok (.enter f (c.args.toList.map a.eval).toArray) w:=by
  simp only [execOp,ho,resolve,hp,hv,Deferred.ofValue,Sem.run_bind,Sem.run_pure,Result.andThen_ok,invoke]
  rw [zbc hen]
  have he:#[]++c.args.map a.eval++[].toArray=(c.args.toList.map a.eval).toArray:=by
   apply Array.ext';simp
  rw [he]
 refine zcN hr ?_
 refine(hcon g.F w (c.args.toList.map a.eval) hk.Fb (A.glob w hk.below) (by simp only [List.length_map] at hl ⊢;omega) (fun i hi hv=>?_)).mono ?_
 ·simp only [List.length_map] at hl
  have hi':i<c.args.toList.length:=by omega
  have he:asL[i]=σ.eval c.args.toList[i]:=by subst ha;rw [List.getElem_map]
  rw [List.getElem_map]
  have hh:=hk.eval c.args.toList[i]
  rw [← he] at hh
  exact hh.shut (zT hi hcl) fun _ _ h=>h
 ·rintro e w' ⟨v,xs,rfl,hown,hcells,hb⟩
  have hbk:∀ x,v.ownBlock=some x→w.heap.size≤x∧x<w'.heap.size:=fun x hx=>hown.lt x hx
  obtain⟨h1,e1⟩:=hk.grown hb (fun b o=>g.F b o∨(v.ownBlock=some b∧o<rows.length * st)) (fun _ _ h=>.inl h) (fun b o h=>h.imp id fun h=>hbk b h.1)
  have hBs:=hk.hB
  have hown':∃ xs,w'.ownsRow A.B ty st v rows.length xs:=⟨xs,hown.1,hown.2.imp id fun⟨gb,cap,cur,h2,h3,r⟩=>⟨gb,cap,cur,h2,by omega,r⟩⟩
  have h2:=h1.addTok (r:=me) (k:=⟨st,ty,rows.length,none⟩) (v:=v) hm (.of_own rfl hown') (fun x hx o hf=>by
   rcases hf with h3 | h3
   ·have:=hk.Fb _ o h3;have:=(hbk x hx).1;omega
   ·exact⟨rfl,h3.2⟩) (fun r k x hr hx e=>by
   have:=(hk.blk r k hr).2.lt;have:=(hbk x hx).1
   have e2:x=g.m r:=e
   omega) (fun r k x hr hx e=>by
   have:=(hk.tok r k hr).lt e;have:=(hbk x hx).1;omega)
  refine hK _ v w' h2 (.grow me rows v ?_ fun n' hn'=>?_)
  ·rcases hown.2 with⟨h3,h4⟩ | ⟨gb,cap,cur,h3,_,_,h5,_⟩
   ·have:rows=[]:=List.eq_nil_of_length_eq_zero h4
    subst this
    rw [h3];exact .nil _ _
   ·have hvb:v.ownBlock=some gb:=by rw [h3];rfl
    have hrd:∀ G:Nat→Nat→Prop,(∀ b o,(g.F b o∨(v.ownBlock=some b∧o<rows.length * st))→G b o)→Reads w' G (.sl rows) (.slice (some ⟨gb,0,none⟩) rows.length cap):=fun G hG=>Reads.mk (st:=st) h5 hrow fun i hi j hj=>by
     obtain⟨u,hu,hrd⟩:=hcells i hi j hj
     have hlt:i * st+j<rows.length * st:=by
      have:=Nat.mul_le_mul_right st (show i+1≤rows.length by omega)
      rw [Nat.add_mul] at this
      have:=hrow i hi
      omega
     have hcell:=hown.cells (g:=gb) hvb (i * st+j) u hu
     rw [Addr.add_lit,Nat.zero_add] at hcell
     exact⟨hG _ _ (.inr ⟨hvb,by rw [Nat.zero_add];exact hlt⟩),u,by rw [Nat.zero_add];exact hcell,hrd.mono (fun b o h=>hG b o (.inl h)) (fun _ _ _ _ h=>h)⟩
    have:=hrd _ fun _ _ h=>h
    rw [← h3] at this
    exact this
  ·simp only [St.tk,St.tok_setTok,if_pos,Option.map_some,Option.some.injEq] at hn'
   subst hn'
   exact⟨Nat.le_refl _,fun _=>by simp only [zo]⟩
theorem ztZ (n:Nat) {all:List Oper} {f:FuncId} {o:Oper} {rest:List Oper} {i base:Nat} {s:List Itm} {Q:Exit→St→Prop} {c:Call} {p:Operand} {ys:List AV} {st:Nat} {ty:TypeId} {rows:List (List D)} (hc:zuK P f ys st ty rows) (ho:o.op = .call c) (hp:c.callee = .value p) (hf:σ.eval p = .fn f []) (ha:c.args.toList.map σ.eval=ys) (hcl:zt ys=true) (hd:zat A.N o=true) (hfr:σ.ment (base+i)=false)
  (hr:go P A n (.ops all rest (i+1) base) s ((σ.setTok (base+i) (some ⟨st,ty,rows.length,none⟩)).put o.dst (.grow (base+i) rows)) Q):zcy P A (.exe (some f) all o rest i base) s σ Q:=zdn (ztv ho hp hf ha hcl hc (St.free_of hfr)) hd (zR n _ _ _ _ hr)
theorem zoJ {σ σ':St} {o:Oper} {c:Call} (ho:o.op = .call c) (h:∀ p ∈ o.op.operands.toList,σ'.eval p=σ.eval p):(∀ p ∈ c.args.toList,σ'.eval p=σ.eval p)∧∀ p,c.callee = .value p→σ'.eval p=σ.eval p:=
 ⟨fun p hpp=>h p (by
  rw [ho]
  simp only [Op.operands,Call.operands,Array.toList_append,List.mem_append]
  exact .inr hpp),fun p hp1=>h p (by rw [ho];simp [Op.operands,Call.operands,hp1])⟩
theorem zBO (n:Nat) {all:List Oper} {f:FuncId} {o:Oper} {rest:List Oper} {i base:Nat} {acc:List RI} {s:List Itm} {Q:Exit→St→Prop} {c:Call} {p:Operand} {ys:List AV} {st:Nat} {ty:TypeId} {rows:List (List D)} (hc:zAi P f ys st ty rows) (ho:o.op = .call c) (hp:c.callee = .value p) (hf:σ.eval p = .fn f []) (ha:zY (c.args.toList.map σ.eval)=some ys) (hd:zat A.N o=true) (hfr:σ.ment (base+i)=false)
  (hr:go P A n (.dops all rest (i+1) base (acc++[ziH σ o (.stk (base+i) st 0 0 rows.length) (.tok (base+i) ⟨st,ty,0,some rows⟩)])) s ((σ.setTok (base+i) (some ⟨st,ty,0,some rows⟩)).put o.dst (.stk (base+i) st 0 0 rows.length)) Q):zcy P A (.dexe (some f) all o rest i base acc) s σ Q:=fun hg hP=>
 zeh hg (.inr (.inr (.inr (.inr ⟨fun _=>hfr,fun A' σ' he _ hfree=>by
  obtain⟨e1,e2⟩:=zoJ ho he
  exact znH ho hp ((e2 p hp).trans hf) (by rw [List.map_congr_left e1];exact ha) hc (hfree rfl)⟩)))) hd (zR n _ _ _ _ hr hP)
def zbC (rows:List (List D)) (i:Nat) (row:List D):List (List D):=rows.take i++row :: rows.drop i
def zGe (P:Program) (f:FuncId) (st:Nat) (ty:TypeId):Prop:=
 zdm P f∧∀ (F:Nat→Nat→Prop) (w:World) (v x:Value) (rows:List (List D)) (row:List D) (i:Nat) (xs:List Value),(∀ b o,F b o→b<w.heap.size)→Glob P w→w.ownsRow 0 ty st v rows.length xs→(∀ b o,F b o→v.ownBlock≠some b)→(∀ i (h:i<rows.length),rows[i].length=st) →
  (∀ i (hi:i<rows.length) j (hj:j<rows[i].length),∃ u,xs[i * st+j]? = some u∧Reads w F rows[i][j] u)→zD st rows→zD st [row]→Reads w F (.sl [row]) x→(∃ ys,w.ownsRow 0 ty st x 1 ys)→(∀ b,v.ownBlock=some b→x.ownBlock≠some b)→i≤rows.length→rows.length≤1048576 →
  Calls P f #[v,.int .i64 i,x] w fun e w'=>∃ v' xs',e = .returned v'∧w'.ownsRow 0 ty st v' (zbC rows i row).length xs'∧w.grownBy w' v.ownBlock∧(v'.ownBlock=v.ownBlock∨v'.ownBlock=some w.heap.size∨v'.ownBlock=none) ∧
   ∀ q (hq:q<(zbC rows i row).length) j (hj:j<(zbC rows i row)[q].length),∃ u,xs'[q * st+j]? = some u∧Reads w F (zbC rows i row)[q][j] u
theorem ztS {rows:List (List D)} {i st:Nat} {row:List D} (h:∀ i (h:i<rows.length),rows[i].length=st) (hr:row.length=st):∀ q (h:q<(zbC rows i row).length),(zbC rows i row)[q].length=st:=fun q hq=>by
 have hm:=List.getElem_mem hq
 generalize (zbC rows i row)[q]=y at hm
 unfold zbC at hm
 rcases List.mem_append.1 hm with h1 | h1
 ·obtain⟨k,hk,rfl⟩:=List.mem_iff_getElem.1 (List.mem_of_mem_take h1)
  exact h k hk
 ·rcases List.mem_cons.1 h1 with rfl | h1
  ·exact hr
  ·obtain⟨k,hk,rfl⟩:=List.mem_iff_getElem.1 (List.mem_of_mem_drop h1)
   exact h k hk
theorem zhh (rows:List (List D)) {i:Nat} (row:List D) (h:i≤rows.length):(zbC rows i row).length=rows.length+1:=by simp [zbC];omega
theorem zBk {o:Oper} {f:FuncId} {c:Call} {p a1 a2 a3:Operand} {r st ver k:Nat} {ty:TypeId} {rows:List (List D)} {row:List D} (hc:zGe P f st ty) (ho:o.op = .call c) (hp:c.callee = .value p) (hf:σ.eval p = .fn f []) (hargs:c.args.toList=[a1,a2,a3]) (h1:σ.eval a1 = .stk r st ver 0 rows.length) (ht:σ.tok r=some ⟨st,ty,ver,some rows⟩) (h2:σ.eval a2 = .d (.raw (.int .i64 k))) (hk:k≤rows.length) {r2:Nat} (h3:σ.eval a3 = .grow r2 [row]) (ht2:σ.tok r2=some ⟨st,ty,1,none⟩) (hne2:r≠r2) (hfit:zD st rows) (hfit2:zD st [row]) (hb:rows.length≤1048576) :
  zO P A o σ (σ.setTok r (some ⟨st,ty,ver+1,some (zbC rows k row)⟩)) (.stk r st (ver+1) 0 (zbC rows k row).length):=by
 intro g a w hk' K Q hK
 obtain⟨hen,hcon⟩:=hc
 have hpe:=hk'.eval p
 rw [hf] at hpe
 obtain⟨vs,hv,hvl,hvs⟩:=hpe.fn_eq
 obtain rfl:vs=[]:=List.eq_nil_of_length_eq_zero hvl.symm
 have h1e:=hk'.eval a1
 rw [h1] at h1e
 have h2e:=hk'.eval a2
 rw [h2] at h2e
 have h3e:=hk'.eval a3
 rw [h3] at h3e
 obtain⟨h3r,h3t⟩:=h3e.grow_eq
 have h3v:a.eval a3=g.tv r2:=(h3t 1 (by simp [St.tk,ht2])).2 rfl
 obtain⟨ys,hown2⟩:=(hk'.tok r2 _ ht2).own rfl
 obtain⟨q,cap,hv1,hcap,_,hvv⟩:=h1e.stk_eq
 obtain⟨hcut,_⟩:=(hvv ver (by simp [St.tk,ht])).2 rfl
 obtain⟨xs,hown,hlow,hrows⟩:=hk'.tok r _ ht
 obtain⟨hr1,hr2⟩:=hrows rows rfl
 have hve:a.eval a1=g.tv r:=by
  rw [hv1,hcut]
  rcases hown.2 with⟨e1,e2⟩ | ⟨b,cp,cur,e1,_⟩
  ·have e2':rows.length=0:=e2
   rw [e1,e2'];rfl
  ·rw [e1];simp [zfO,Addr.add_lit,Tok.n]
 have hr:(execOp a.eval o).run P w = .ok (.enter f #[g.tv r,.int .i64 k,a.eval a3]) w:=by
  simp only [execOp,ho,resolve,hp,hv,Deferred.ofValue,Sem.run_bind,Sem.run_pure,Result.andThen_ok,invoke]
  rw [zbc hen]
  have he:#[]++c.args.map a.eval++[].toArray=#[g.tv r,.int .i64 k,a.eval a3]:=by
   apply Array.ext'
   simp [hargs,hve,h2e.raw_eq]
  rw [he]
 refine zcN hr ((hcon g.F w (g.tv r) (a.eval a3) rows row k xs hk'.Fb (A.glob w hk'.below) hown (fun b o hf e=>by have:=(hk'.Ftok r _ b ht e o hf).1;cases this) hr1 hr2 hfit hfit2 h3r ⟨ys,by rw [h3v];exact⟨hown2.1,hown2.2.imp id fun⟨b,cap,cur,e,_,r⟩=>⟨b,cap,cur,e,Nat.zero_le _,r⟩⟩⟩ (fun b hb1 hb2=>hk'.toktok r _ r2 _ b ht ht2 hne2 hb1 (by rw [← h3v];exact hb2)) hk hb).mono ?_)
 rintro e w' ⟨v',xs',rfl,hown',hgr,hat,hrd⟩
 have hlen:=zhh rows row hk
 have h5:=hk'.restack (k':=⟨st,ty,ver+1,some (zbC rows k row)⟩) ht (by simp) (by simp) (.inl (Nat.lt_succ_self _)) hgr hown' (fun rows' hr'=>by
  cases hr'
  exact⟨ztS hr1 (hfit2 row (by simp)).1,hrd⟩) hat
 have hv2:∃ p' cap',v' = .slice p' (zbC rows k row).length cap'∧(zbC rows k row).length≤cap'∧(0<(zbC rows k row).length→∃ b o,p'=some ⟨b,o,none⟩)∧zfO v' st 0 (zbC rows k row).length=v'∧zqR v'=(zbC rows k row).length:=by
  rcases hown'.2 with⟨e,e0⟩ | ⟨b,cp,cur,e,_,_,h3,_⟩
  ·exact⟨none,0,by rw [e,e0],by omega,fun h=>by omega,by rw [e,e0];rfl,by rw [e,e0];rfl⟩
  ·exact⟨_,cp,e,h3,fun _=>⟨b,0,rfl⟩,by rw [e];simp [zfO,Addr.add_lit],by rw [e];rfl⟩
 obtain⟨p',cap',rfl,h6,h7,h8,h9⟩:=hv2
 refine hK _ _ w' h5 (.stk r st _ 0 _ _ _ h6 h7 fun n' hn'=>?_)
 have e1:(σ.setTok r (some ⟨st,ty,ver+1,some (zbC rows k row)⟩)).tk r=some (ver+1):=by simp [St.tk,St.tok_setTok]
 rw [e1] at hn'
 cases hn'
 refine⟨Nat.le_refl _,fun _=>?_⟩
 simp only [zo]
 exact⟨h8.symm,by rw [h9];omega⟩
theorem zFz (n:Nat) {all:List Oper} {f:FuncId} {o:Oper} {rest:List Oper} {i base:Nat} {acc:List RI} {s:List Itm} {Q:Exit→St→Prop} {c:Call} {p a1 a2 a3:Operand} {r st ver k:Nat} {ty:TypeId} {rows:List (List D)} {row:List D} (hc:zGe P f st ty) (ho:o.op = .call c) (hp:c.callee = .value p) (hf:σ.eval p = .fn f []) (hargs:c.args.toList=[a1,a2,a3]) (h1:σ.eval a1 = .stk r st ver 0 rows.length) (ht:σ.tok r=some ⟨st,ty,ver,some rows⟩) (h2:σ.eval a2 = .d (.raw (.int .i64 k))) (hk:k≤rows.length) {r2:Nat} (h3:σ.eval a3 = .grow r2 [row]) (ht2:σ.tok r2=some ⟨st,ty,1,none⟩) (hne2:r≠r2) (hfit:zD st rows) (hfit2:zD st [row]) (hb:rows.length≤1048576) (hd:zat A.N o=true) (hne:r≠base+i)
  (hr:go P A n (.dops all rest (i+1) base (acc++[ziH σ o (.stk r st (ver+1) 0 (zbC rows k row).length) (.tok r ⟨st,ty,ver+1,some (zbC rows k row)⟩)])) s ((σ.setTok r (some ⟨st,ty,ver+1,some (zbC rows k row)⟩)).put o.dst (.stk r st (ver+1) 0 (zbC rows k row).length)) Q):zcy P A (.dexe (some f) all o rest i base acc) s σ Q:=by
 have hh:zGd P σ (base+i) o (.stk r st (ver+1) 0 (zbC rows k row).length) (.tok r ⟨st,ty,ver+1,some (zbC rows k row)⟩):=⟨fun e=>absurd (Option.some.inj e) hne,fun A' σ' he hbt _=>by
  obtain⟨e1,e2⟩:=zoJ ho he
  have m1:=e1 a1 (by rw [hargs];simp)
  have m2:=e1 a2 (by rw [hargs];simp)
  have m3:=e1 a3 (by rw [hargs];simp)
  have hrel:a1 ∈ zV o.op:=by rw [ho];simp [zV,hp,hargs]
  have hrel3:a3 ∈ zV o.op:=by rw [ho];simp [zV,hp,hargs]
  exact zBk hc ho hp ((e2 p hp).trans hf) hargs (m1.trans h1) (((hbt a1 hrel r (by rw [m1,h1];simp [AV.ment])).2).trans ht) (m2.trans h2) hk (m3.trans h3) (((hbt a3 hrel3 r2 (by rw [m3,h3];simp [AV.ment])).2).trans ht2) hne2 hfit hfit2 hb⟩
 exact fun hg hP=>zeh hg (.inr (.inr (.inr (.inr hh)))) hd (zR n _ _ _ _ hr hP)
end
end Go.Proofs.YtpnjjmcimjlfkaaGreatDoor
