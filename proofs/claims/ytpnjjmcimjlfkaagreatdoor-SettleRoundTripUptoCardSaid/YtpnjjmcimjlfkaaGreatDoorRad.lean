/- Texts of this proof, part 4: what the proof uses of them. -/
import Derived.Test.YtpnjjmcimjlfkaaGreatDoorRac
set_option maxRecDepth 100000
set_option maxHeartbeats 64000000
namespace Go.Proofs.YtpnjjmcimjlfkaaGreatDoor
section
open Go Go.RowKit Go.MapKept
variable {P:Program} {A:Base P} {σ:St} {g:Gh} {a:Act} {w:World}
theorem Has.shut {tk tk':Nat->Option Nat} {g':Gh} {x:AV} {v:Value} (h:Has g tk w x v) (hc:x.closed=true) (hF:∀ b o,g.F b o->g'.F b o):Has g' tk' w x v:=by
 induction h with
 | dead | box | bnd | elem | own | grow | mp | stk | selem=>simp [AV.closed] at hc
 | at_ cs b o h=>exact .at_ cs b o fun k hk=>⟨hF _ _ (h k hk).1,by obtain⟨_,u,h2,h3⟩:=h k hk;exact⟨u,h2,h3.mono hF (fun _ _ _ _ h=>h)⟩⟩
 | mapd ks cs b es hF2 hh hl hl2 hk _ ih=>exact .mapd ks cs b es (hF _ _ hF2) hh hl hl2 hk fun i hi hv=>ih i hi hv (zY hi (by simpa [AV.closed] using hc))
 | fn f cs vs hl _ ih=>exact .fn f cs vs hl fun i hi hv=>ih i hi hv (zY hi (by simpa [AV.closed] using hc))
 | d h=>exact .d (h.mono hF (fun _ _ _ _ h=>h))
 | agg cs vs hl _ ih=>exact .agg cs vs hl fun i hi hv=>ih i hi hv (zY hi (by simpa [AV.closed] using hc))
 | tup cs vs hl _ ih=>exact .tup cs vs hl fun i hi hv=>ih i hi hv (zY hi (by simpa [AV.closed] using hc))
def zFI (w:World) (F:Nat->Nat->Prop) (b:Nat) (ks:List Value) (cs:List AV):Prop:=zek (gh0 F) (fun _=>none) w b (.map none ks cs)
def ConM (P:Program) (f:FuncId) (args:List AV) (ks:List Value) (cs:List AV) (ks':List Value) (cs':List AV) (res:AV):Prop:=
 zcQ P f/\res.closed=true/\zN cs'=true/\∀ (F:Nat->Nat->Prop) (w:World) (vs:List Value) (b:Nat),(∀ b o,F b o->b<w.heap.size)->Glob P w->P.globals.size<=b->(∀ o,¬ F b o)->args.length=vs.length->(∀ i (hi:i<args.length) (hv:i<vs.length),zch w F args[i] vs[i])->zFI w F b ks cs ->
  Calls P f (vs++[Value.map (some b)]).toArray w fun e w'=>∃ v,e = .returned v/\zch w' (fun b o=>F b o\/(w.heap.size<=b/\b<w'.heap.size)) res v/\zFI w' (fun b o=>F b o\/(w.heap.size<=b/\b<w'.heap.size)) b ks' cs'/\BelowX w.heap.size (fun x=>x=b) w w'
theorem zmK {o:Oper} {f:FuncId} {c:Call} {p m:Operand} {args:List Operand} {asL:List AV} {res:AV} {r:Nat} {tag:Option Nat} {ks ks':List Value} {cs cs':List AV} (ho:o.op = .call c) (hp:c.callee = .value p) (hf:σ.eval p = .fn f []) (hargs:c.args.toList=args++[m]) (hm:σ.eval m = .mp r) (hb:σ.blk r=some (.map tag ks cs)) (hcl:zN cs=true)
  (ha:zU (args.map σ.eval)=some asL) (hc:ConM P f asL ks cs ks' cs' res):OpOk P A o σ (σ.setBlk r (some (.map tag ks' cs'))) res:=by
 intro g a w hk K Q hK
 obtain⟨hen,hres,hcl',hcon⟩:=hc
 obtain⟨hl,hg⟩:=zbE ha
 have hpe:=hk.eval p
 rw [hf] at hpe
 obtain⟨vs,hv,hvl,hvs⟩:=hpe.fn_eq
 obtain rfl:vs=[]:=List.eq_nil_of_length_eq_zero hvl.symm
 have hme:=hk.eval m
 rw [hm] at hme
 have hr:(execOp a.eval o).run P w = .ok (.enter f (args.map a.eval++[Value.map (some (g.m r))]).toArray) w:=by
  simp only [execOp,ho,resolve,hp,hv,Deferred.ofValue,Sem.run_bind,Sem.run_pure,Result.andThen_ok,invoke]
  rw [zaL hen]
  have he:#[]++c.args.map a.eval++[].toArray=(args.map a.eval++[Value.map (some (g.m r))]).toArray:=by
   apply Array.ext'
   have h0:(c.args.map a.eval).toList=args.map a.eval++[a.eval m]:=by rw [Array.toList_map,hargs,List.map_append];rfl
   have h1:=hme.mp_eq
   rw [Array.toList_append,Array.toList_append,h0,h1];simp
  rw [he]
 obtain⟨hBr,htag,es,c1,c2,c3,c4,c5⟩:=hk.blk r _ hb
 have hblt:g.m r<w.heap.size:=(hk.blk r _ hb).2.lt
 refine zcC hr ?_
 refine(hcon g.F w (args.map a.eval) (g.m r) hk.Fb (A.glob w hk.below) (hBr.elim (fun h=>Nat.le_trans A.loB h) fun h=>A.loX _ h.1) (hk.Fblk r _ hb) (by simp only [List.length_map] at hl ⊢;omega) (fun i hi hv=>?_) ⟨(fun b0 h=>by cases h),es,c1,c2,c3,c4,fun i hi hv=>(c5 i hi hv).shut (zY hi hcl) fun _ _ h=>h⟩).mono ?_
 ·simp only [List.length_map] at hl
  have hi':i<args.length:=by omega
  have h1:=hg i (by simpa using hi') hi
  rw [List.getElem_map] at h1
  rw [List.getElem_map]
  exact(hk.eval _).close h1
 ·rintro e w' ⟨v,rfl,hv,hmc,hbx⟩
  obtain⟨_,es',d1,d2,d3,d4,d5⟩:=hmc
  -- first all but the map,then the map
  have hlt':g.m r<w'.heap.size:=Nat.lt_of_lt_of_le hblt hbx.size
  obtain⟨o0,ho0⟩:∃ o0,w.heap[g.m r]? = some o0:=⟨_,c1⟩
  have hB2:Below w.heap.size w { w' with heap:=w'.heap.setIfInBounds (g.m r) o0 }:=⟨hbx.os,hbx.tape,hbx.output,by simp [hbx.size],fun k hk'=>by
   by_cases e1:k=g.m r
   ·subst e1
    show(w'.heap.setIfInBounds (g.m r) o0)[g.m r]? = _
    rw [Array.getElem?_setIfInBounds_self_of_lt hlt',ho0]
   ·show(w'.heap.setIfInBounds (g.m r) o0)[k]? = _
    rw [Array.getElem?_setIfInBounds_ne (fun e=>e1 e.symm)]
    exact hbx.block k hk' e1⟩
  have h1:=(hk.grown hB2 (fun b o=>g.F b o\/(w.heap.size<=b/\b<w'.heap.size)) (fun _ _ h=>.inl h) (fun b o h=>h.imp id fun h=>by simpa using h)).1
  have hother:∀ b,b≠g.m r->w'.heap[b]? = ({ w' with heap:=w'.heap.setIfInBounds (g.m r) o0 }:World).heap[b]?:=fun b hne=>by
   show _=(w'.heap.setIfInBounds (g.m r) o0)[b]?
   rw [Array.getElem?_setIfInBounds_ne (fun e=>hne e.symm)]
  have h2:=(h1.write (w':=w') (k':=.map tag ks' cs') hb hother (by simp) (.one (hBr.imp id And.left) rfl rfl rfl (by simp) hother) ⟨htag,es',d1,d2,d3,d4,fun i hi hv=>(d5 i hi hv).shut (zY hi hcl') fun _ _ h=>h⟩ (by cases tag <;> rfl)).1
  exact hK _ v w' h2 (hv.open hres (fun _ _ h=>h))
def ztJ (P:Program) (f:FuncId) (args:List AV) (st:Nat) (ty:TypeId) (rows:List (List D)):Prop:=
 zcQ P f/\(∀ i (h:i<rows.length),rows[i].length=st)/\∀ (F:Nat->Nat->Prop) (w:World) (vs:List Value),(∀ b o,F b o->b<w.heap.size)->Glob P w->args.length=vs.length->(∀ i (hi:i<args.length) (hv:i<vs.length),zch w F args[i] vs[i]) ->
  Calls P f vs.toArray w fun e w'=>∃ v xs,e = .returned v/\w'.ownsRow w.heap.size ty st v rows.length xs/\(∀ i (hi:i<rows.length) j (hj:j<rows[i].length),∃ u,xs[i * st+j]? = some u/\Reads w' F rows[i][j] u)/\Below w.heap.size w w'
theorem zuS {o:Oper} {f:FuncId} {c:Call} {p:Operand} {asL:List AV} {st me:Nat} {ty:TypeId} {rows:List (List D)} (ho:o.op = .call c) (hp:c.callee = .value p) (hf:σ.eval p = .fn f []) (ha:zU (c.args.toList.map σ.eval)=some asL) (hc:ztJ P f asL st ty rows) (hm:σ.free A me) :
  OpOk P A o σ (σ.setTok me (some ⟨st,ty,rows.length,none⟩)) (.grow me rows):=by
 intro g a w hk K Q hK
 obtain⟨hen,hrow,hcon⟩:=hc
 obtain⟨hl,hg⟩:=zbE ha
 have hpe:=hk.eval p
 rw [hf] at hpe
 obtain⟨vs,hv,hvl,hvs⟩:=hpe.fn_eq
 obtain rfl:vs=[]:=List.eq_nil_of_length_eq_zero hvl.symm
 have hr:(execOp a.eval o).run P w = .ok (.enter f (c.args.toList.map a.eval).toArray) w:=by
  simp only [execOp,ho,resolve,hp,hv,Deferred.ofValue,Sem.run_bind,Sem.run_pure,Result.andThen_ok,invoke]
  rw [zaL hen]
  have he:#[]++c.args.map a.eval++[].toArray=(c.args.toList.map a.eval).toArray:=by
   apply Array.ext';simp
  rw [he]
 refine zcC hr ?_
 refine(hcon g.F w (c.args.toList.map a.eval) hk.Fb (A.glob w hk.below) (by simp only [List.length_map] at hl ⊢;omega) (fun i hi hv=>?_)).mono ?_
 ·simp only [List.length_map] at hl
  have hi':i<c.args.toList.length:=by omega
  have h1:=hg i (by simpa using hi') hi
  rw [List.getElem_map] at h1
  rw [List.getElem_map]
  exact(hk.eval _).close h1
 ·rintro e w' ⟨v,xs,rfl,hown,hcells,hb⟩
  have hbk:∀ x,v.ownBlock=some x->w.heap.size<=x/\x<w'.heap.size:=fun x hx=>hown.lt x hx
  obtain⟨h1,e1⟩:=hk.grown hb (fun b o=>g.F b o\/(v.ownBlock=some b/\o<rows.length * st)) (fun _ _ h=>.inl h) (fun b o h=>h.imp id fun h=>hbk b h.1)
  have hBs:=hk.hB
  have hown':∃ xs,w'.ownsRow A.B ty st v rows.length xs:=⟨xs,hown.1,hown.2.imp id fun⟨gb,cap,cur,h2,h3,r⟩=>⟨gb,cap,cur,h2,by omega,r⟩⟩
  have h2:=h1.addTok (r:=me) (k:=⟨st,ty,rows.length,none⟩) (v:=v) hm (.of_own rfl hown') (fun x hx o hf=>by
   rcases hf with h3 | h3
   ·have:=hk.Fb _ o h3;have:=(hbk x hx).1;omega
   ·exact⟨rfl,h3.2⟩) (fun r k x hr hx e=>by
   have:=(hk.blk r k hr).2.lt;have:=(hbk x hx).1
   have e2:x=g.m r:=e
   omega) (fun r k x hr hx e=>by
   have:=(hk.tok r k hr).lt e;have:=(hbk x hx).1;omega)
  refine hK _ v w' h2 (.grow me rows v ?_ fun n' hn'=>?_)
  ·rcases hown.2 with⟨h3,h4⟩ | ⟨gb,cap,cur,h3,_,_,h5,_⟩
   ·have:rows=[]:=List.eq_nil_of_length_eq_zero h4
    subst this
    rw [h3];exact .nil _ _
   ·have hvb:v.ownBlock=some gb:=by rw [h3];rfl
    have hrd:∀ G:Nat->Nat->Prop,(∀ b o,(g.F b o\/(v.ownBlock=some b/\o<rows.length * st))->G b o)->Reads w' G (.sl rows) (.slice (some ⟨gb,0,none⟩) rows.length cap):=fun G hG=>Reads.mk (st:=st) h5 hrow fun i hi j hj=>by
     obtain⟨u,hu,hrd⟩:=hcells i hi j hj
     have hlt:i * st+j<rows.length * st:=by
      have:=Nat.mul_le_mul_right st (show i+1<=rows.length by omega)
      rw [Nat.add_mul] at this
      have:=hrow i hi
      omega
     have hcell:=hown.cells (g:=gb) hvb (i * st+j) u hu
     rw [Addr.add_lit,Nat.zero_add] at hcell
     exact⟨hG _ _ (.inr ⟨hvb,by rw [Nat.zero_add];exact hlt⟩),u,by rw [Nat.zero_add];exact hcell,hrd.mono (fun b o h=>hG b o (.inl h)) (fun _ _ _ _ h=>h)⟩
    have:=hrd _ fun _ _ h=>h
    rw [<- h3] at this
    exact this
  ·simp only [St.tk,St.tok_setTok,if_pos,Option.map_some,Option.some.injEq] at hn'
   subst hn'
   exact⟨Nat.le_refl _,fun _=>by simp only [zp]⟩
end
section
open Go Go.RowKit
def lst {V:Type} (wr:Nat->Option V) (X:Nat->Bool) (v0:V):Nat->V
 | 0=>v0
 | m+1=>if X m then (wr m).getD (lst wr X v0 m) else lst wr X v0 m
structure AncOk (n:Nat) (anc:Nat->Nat->Prop) (X:Nat->Bool):Prop where
 lt:∀ j i,anc j i->j<i
 down:∀ i,i<n->X i=true->∀ j,anc j i->X j=true
theorem zkp {V:Type} {wr:Nat->Option V} {X:Nat->Bool} {v0:V} {n i:Nat} {anc:Nat->Nat->Prop} (ha:AncOk n anc X) (hi:i<n) (hXi:X i=false) (hb:∀ j,anc j i->X j=true) (hc:∀ m,m<n->m≠i->(wr m).isSome=true->anc m i\/anc i m) :
  lst wr X v0 n=lst wr (fun _=>true) v0 i:=by
 have key:∀ m,m<=n->lst wr X v0 m=lst wr (fun _=>true) v0 (min m i):=by
  intro m
  induction m with
  | zero=>intro _;simp [lst]
  | succ m ih=>
   intro hm
   have ih':=ih (by omega)
   rw [lst]
   by_cases hlt:m<i
   ·rw [show min (m+1) i=m+1 by omega,lst,<- show min m i=m by omega,<- ih',show min m i=m by omega]
    simp only [if_true]
    cases hw:(wr m).isSome with
    | false=>
     have:wr m=none:=by simpa using hw
     rw [this];simp
    | true=>
     have hX:X m=true:=by
      rcases hc m (by omega) (by omega) hw with h | h
      ·exact hb m h
      ·have:=ha.lt _ _ h;omega
     rw [hX];simp
   ·rw [show min (m+1) i=i by omega]
    rw [show min m i=i by omega] at ih'
    by_cases hmi:m=i
    ·subst hmi;rw [hXi];exact ih'
    ·cases hX:X m with
     | false=>exact ih'
     | true=>
      have hw:wr m=none:=by
       cases hw:wr m with
       | none=>rfl
       | some v=>
        exfalso
        rcases hc m (by omega) hmi (by rw [hw];rfl) with h | h
        ·have:=ha.lt _ _ h;omega
        ·have:=ha.down m (by omega) hX i h
         rw [hXi] at this;cases this
      rw [hw];exact ih'
 have:=key n (Nat.le_refl _)
 rw [show min n i=i by omega] at this
 exact this
theorem zqC {V:Type} {wr:Nat->Option V} {X:Nat->Bool} {v0:V} {n i:Nat} {anc:Nat->Nat->Prop} (ha:AncOk n anc X) (hi:i<n) (hXi:X i=false) (hc:(wr i).isSome=true->∀ m,m<n->m≠i->(wr m).isSome=true->anc m i\/anc i m) :
  lst wr (fun j=>if j=i then true else X j) v0 n=(wr i).getD (lst wr X v0 n):=by
 have key:∀ m,m<=n->lst wr (fun j=>if j=i then true else X j) v0 m=if i<m then (wr i).getD (lst wr X v0 m) else lst wr X v0 m:=by
  intro m
  induction m with
  | zero=>intro _;simp [lst]
  | succ m ih=>
   intro hm
   have ih':=ih (by omega)
   have e1:lst wr (fun j=>if j=i then true else X j) v0 (m+1)=if (if m=i then true else X m)=true then (wr m).getD (lst wr (fun j=>if j=i then true else X j) v0 m) else lst wr (fun j=>if j=i then true else X j) v0 m:=rfl
   have e2:lst wr X v0 (m+1)=if X m=true then (wr m).getD (lst wr X v0 m) else lst wr X v0 m:=rfl
   rw [e1,e2]
   by_cases hmi:m=i
   ·subst hmi
    rw [if_neg (show ¬ m<m by omega)] at ih'
    rw [if_pos rfl,if_pos rfl,if_pos (show m<m+1 by omega),if_neg (by rw [hXi];simp),ih']
   ·rw [if_neg hmi]
    by_cases hlt:m<i
    ·rw [if_neg (show ¬ i<m by omega)] at ih'
     rw [if_neg (show ¬ i<m+1 by omega),ih']
    ·rw [if_pos (show i<m by omega)] at ih'
     rw [if_pos (show i<m+1 by omega),ih']
     cases hX:X m with
     | false=>simp
     | true=>
      simp only [if_true]
      cases hw:wr i with
      | none=>simp
      | some v=>
       have hwm:wr m=none:=by
        cases hwm:wr m with
        | none=>rfl
        | some u=>
         exfalso
         rcases hc (by rw [hw];rfl) m (by omega) hmi (by rw [hwm];rfl) with h | h
         ·have:=ha.lt _ _ h;omega
         ·have:=ha.down m (by omega) hX i h
          rw [hXi] at this;cases this
       rw [hwm];simp
 have:=key n (Nat.le_refl _)
 rw [if_pos hi] at this
 exact this
def zag:Op->List Operand
 | .load _ p | .store _ p _=>[p]
 | .mapUpdate _ m _ _ | .insert _ m _ _ | .lookup _ m _ _=>[m]
 | .range _ x=>[x]
 | .call c=>match c.callee with
  | .builtin .len=>[]
  | .builtin _=>c.args.toList.take 1
  | _=>c.args.toList
 | _=>[]
theorem zuy:∀ (op:Op) (p:Operand),p ∈ zag op->p ∈ op.operands.toList:=fun op p h=>by
 have ha:∀ c:Call,∀ p ∈ c.args.toList,p ∈ (Op.call c).operands.toList:=fun c p hp=>by
  simp only [Op.operands,Call.operands,Array.toList_append,List.mem_append]
  exact .inr hp
 cases op with
 | load t q=>simpa [zag,Op.operands] using h
 | store t q x=>simp [zag] at h;simp [Op.operands,h]
 | mapUpdate t m k x=>simp [zag] at h;simp [Op.operands,h]
 | insert t m k x=>simp [zag] at h;simp [Op.operands,h]
 | lookup t m k x=>simp [zag] at h;simp [Op.operands,h]
 | range t x=>simpa [zag,Op.operands] using h
 | call c=>
  rw [zag] at h
  split at h
  ·cases h
  ·exact ha c p (List.mem_of_mem_take h)
  ·exact ha c p h
 | _=>simp [zag] at h
structure RI where
 x:AV
 e:Eff
 vs:List AV
def Eff.ref:Eff->Option Nat
 | .none=>Option.none
 | .blk r _=>some r
 | .tok r _=>some r
def Eff.ment (q:Nat):Eff->Bool
 | .blk _ b=>b.ment q
 | _=>false
def zEk (P:Program) (σ:St) (me:Nat) (o:Oper) (x:AV) (e:Eff):Prop:=
 (e.ref=some me->σ.ment me=false)/\∀ (A:Base P) (σ':St),(∀ p ∈ o.op.operands.toList,σ'.eval p=σ.eval p)->(∀ p ∈ zag o.op,∀ q,(σ'.eval p).ment q=true->σ'.blk q=σ.blk q/\σ'.tok q=σ.tok q)->(e.ref=some me->σ'.free A me)->OpOk P A o σ' (σ'.app e) x
def Rob (P:Program) (σ:St) (me:Nat) (o:Oper) (x:AV) (e:Eff):Prop:=
 (∃ need,zO P σ me o.op=some (x,e,need)/\need/\(zfQ o.op=true->σ.ment me=false)) \/
 (e = .none/\∃ f c p cs ys,o.op = .call c/\c.callee = .value p/\σ.eval p = .fn f cs/\zU (c.args.toList.map σ.eval++cs)=some ys/\Con P f ys x) \/
 (∃ f c p m args ys r tag ks cs ks' cs',e = .blk r (.map tag ks' cs')/\o.op = .call c/\c.callee = .value p/\σ.eval p = .fn f []/\c.args.toList=args++[m]/\σ.eval m = .mp r/\σ.blk r=some (.map tag ks cs)/\zN cs=true/\zU (args.map σ.eval)=some ys/\ConM P f ys ks cs ks' cs' x) \/
 (∃ f c p ys st ty rows,e = .tok me ⟨st,ty,rows.length,none⟩/\x = .grow me rows/\o.op = .call c/\c.callee = .value p/\σ.eval p = .fn f []/\zU (c.args.toList.map σ.eval)=some ys/\ztJ P f ys st ty rows/\σ.ment me=false)\/zEk P σ me o x e
def zcX (N:Nat) (all:List Oper) (σ:St) (o:Oper):Option Bool:=
 match o.guard with
 | none=>some true
 | some (j,want)=>match (all[j]?).bind Oper.dst with
  | some t=>if t<N then match σ.get t with
   | .d (.raw (.bool b))=>some (b == want)
   | .d (.raw (.tuple _))=>some false
   | _=>none else none
  | none=>none
def zaf (N:Nat) (o:Oper):Bool:=
 match o.dst with
 | some t=>decide (t<N)
 | none=>true
inductive Runs (P:Program) (N:Nat) (all:List Oper) (base:Nat):List Oper->Nat->St->List RI->St->Prop
 | nil (i:Nat) (σ:St):Runs P N all base [] i σ [] σ
 | skip {o:Oper} {rest:List Oper} {i:Nat} {σ σ':St} {rs:List RI} (hg:zcX N all σ o=some false) (hd:zaf N o=true) (h:Runs P N all base rest (i+1) (σ.put o.dst (.d (.raw undef))) rs σ') :
   Runs P N all base (o :: rest) i σ (⟨.d (.raw undef),.none,(zag o.op).map σ.eval⟩ :: rs) σ'
 | op {o:Oper} {rest:List Oper} {i:Nat} {σ σ':St} {rs:List RI} {x:AV} {e:Eff} (hg:zcX N all σ o=some true) (hr:Rob P σ (base+i) o x e) (hd:zaf N o=true) (h:Runs P N all base rest (i+1) ((σ.app e).put o.dst x) rs σ') :
   Runs P N all base (o :: rest) i σ (⟨x,e,(zag o.op).map σ.eval⟩ :: rs) σ'
def zct (o:Oper):List Nat:=(o.after.toList.filter (Region.binds .any)).map (·.on)
def zdm:List Oper->List (List Nat)->List (List Nat)
 | [],acc=>acc
 | o :: l,acc=>zdm l (acc++[zct o++(zct o).flatMap fun j=>acc.getD j []])
def zlA (all:List Oper):List (List Nat):=zdm all []
def zfS (an:List (List Nat)) (j i:Nat):Bool:=(an.getD i []).contains j
def zlV (all:List Oper) (o:Oper):List Tmp:=
 (o.op.operands.toList.filterMap fun p=>match p with | .tmp t=>some t | _=>none) ++
 match o.guard with
 | some (j,_)=>((all[j]?).bind Oper.dst).toList
 | none=>[]
def zie (all:List Oper) (oi:Oper) (ri:RI) (oj:Oper) (rj:RI):Bool:=
 (match oi.dst with
  | some t=>(zlV all oj).contains t || oj.dst == some t
  | none=>false) ||
 (match ri.e.ref with
  | some r=>rj.vs.any (AV.ment r) || rj.e.ref == some r
  | none=>false)
def zkg (all:List Oper) (base:Nat) (an:List (List Nat)) (i:Nat) (oi:Oper) (ri:RI) (j:Nat) (oj:Oper) (rj:RI):Bool:=
 i == j || ((!zie all oi ri oj rj || zfS an i j || zfS an j i) && (!(zfQ oi.op || ri.e.ref == some (base+i)) || !(rj.x.ment (base+i) || rj.e.ment (base+i)) || zfS an i j))
def chk (all:List Oper) (base:Nat) (rs:List RI):Bool:=
 let an:=zlA all
 let l:=(all.zip rs).zipIdx
 (all.zipIdx.all fun x=>(zct x.1).all (· < x.2)) &&
 l.all fun a=>l.all fun b=>zkg all base an a.2 a.1.1 a.1.2 b.2 b.1.1 b.1.2
end
section
open Go Go.RowKit
variable {P:Program} {A:Base P}
theorem zsr {σ1 σ2:St} {me:Nat} {op:Op} (he:∀ p ∈ op.operands.toList,σ1.eval p=σ2.eval p) (hb:∀ p ∈ zag op,∀ r,(σ1.eval p).ment r=true->σ1.blk r=σ2.blk r) (ht:∀ p ∈ zag op,∀ r,(σ1.eval p).ment r=true->σ1.tok r=σ2.tok r) :
  zO P σ1 me op=zO P σ2 me op:=by
 have load:∀ t p,p ∈ zag op->zbi P σ1 t (σ1.eval p)=zbi P σ2 t (σ1.eval p):=fun t p hp=>by
  cases hx:σ1.eval p with
  | box r j=>simp only [zbi];rw [hb p hp r (by rw [hx];simp [AV.ment])]
  | elem r st i j=>simp only [zbi];rw [hb p hp r (by rw [hx];simp [AV.ment])]
  | selem r st ver i j=>simp only [zbi];rw [ht p hp r (by rw [hx];simp [AV.ment])]
  | dead | d | agg | tup | own | at_ | grow | fn | bnd | mp | mapd | stk=>rfl
 have store:∀ t p y,p ∈ zag op->zaW P σ1 t y (σ1.eval p)=zaW P σ2 t y (σ1.eval p):=fun t p y hp=>by
  cases hx:σ1.eval p with
  | box r j=>simp only [zaW];rw [hb p hp r (by rw [hx];simp [AV.ment])]
  | elem r st i j=>simp only [zaW];rw [hb p hp r (by rw [hx];simp [AV.ment])]
  | selem r st ver i j=>simp only [zaW];rw [ht p hp r (by rw [hx];simp [AV.ment])]
  | dead | d | agg | tup | own | at_ | grow | fn | bnd | mp | mapd | stk=>rfl
 have app:∀ p,p ∈ zag op->ziR σ1 (σ1.eval p)=ziR σ2 (σ1.eval p):=fun p hp=>by
  cases hx:σ1.eval p with
  | grow r rows=>exact ht p hp r (by rw [hx];simp [AV.ment])
  | stk r st ver off len=>exact ht p hp r (by rw [hx];simp [AV.ment])
  | dead | d | agg | tup | own | at_ | box | elem | fn | bnd | mp | mapd | selem=>rfl
 have cop:∀ p,p ∈ zag op->zwO σ1 (σ1.eval p)=zwO σ2 (σ1.eval p):=fun p hp=>by
  cases hx:σ1.eval p with
  | own r len=>exact hb p hp r (by rw [hx];simp [AV.ment])
  | dead | d | agg | tup | grow | at_ | box | elem | fn | bnd | mp | mapd | stk | selem=>rfl
 have mpo:∀ p,p ∈ zag op->zik σ1 (σ1.eval p)=zik σ2 (σ1.eval p):=fun p hp=>by
  cases hx:σ1.eval p with
  | mp r=>exact hb p hp r (by rw [hx];simp [AV.ment])
  | dead | d | agg | tup | own | grow | at_ | box | elem | fn | bnd | mapd | stk | selem=>rfl
 cases op with
 | mapUpdate t m k x=>simp only [zO];rw [mpo m (by simp [zag]),he m (by simp [Op.operands]),he k (by simp [Op.operands]),he x (by simp [Op.operands])]
 | insert t m k x=>simp only [zO];rw [mpo m (by simp [zag]),he m (by simp [Op.operands]),he k (by simp [Op.operands]),he x (by simp [Op.operands])]
 | lookup t m k ok=>simp only [zO];rw [mpo m (by simp [zag]),he m (by simp [Op.operands]),he k (by simp [Op.operands])]
 | range t x=>simp only [zO];rw [mpo x (by simp [zag]),he x (by simp [Op.operands])]
 | makeMap t r=>cases r <;> rfl
 | load t p=>simp only [zO];rw [load t p (by simp [zag]),he p (by simp [Op.operands])]
 | store t p q=>simp only [zO];rw [he q (by simp [Op.operands]),store t p _ (by simp [zag]),he p (by simp [Op.operands])]
 | call c=>
  simp only [zO]
  have hargs:∀ p ∈ c.args.toList,p ∈ (Op.call c).operands.toList:=fun p hp=>by
   simp only [Op.operands,Call.operands,Array.toList_append,List.mem_append]
   exact .inr hp
  unfold zgv
  split
  ·rename_i p t h1 h2 h3
   rw [he p (hargs p (by rw [h2];simp))]
  ·rename_i p q t t' h1 h2 h3
   rw [app p (by simp [zag,h1,h2]),he p (hargs p (by rw [h2];simp)),he q (hargs q (by rw [h2];simp))]
  ·rename_i p q t t' h1 h2 h3
   rw [cop p (by simp [zag,h1,h2]),he p (hargs p (by rw [h2];simp)),he q (hargs q (by rw [h2];simp))]
  ·rename_i p q t t' h1 h2 h3
   rw [he p (hargs p (by rw [h2];simp)),he q (hargs q (by rw [h2];simp))]
  ·rfl
 | buildSlice t n ps=>
  have hps:∀ x ∈ ps.toList,σ1.eval x.2=σ2.eval x.2:=fun x hx=>he x.2 (by simp only [Op.operands];simp;exact⟨x.1,by simpa using hx⟩)
  have e1:(ps.toList.map fun x=>σ1.eval x.2)=ps.toList.map fun x=>σ2.eval x.2:=List.map_congr_left hps
  simp only [zO,e1]
  have e3:∀ c:Nat,(ps.toList.all fun x=>(σ1.eval x.2).cells.all AV.one && decide ((σ1.eval x.2).cells.length=c))=(ps.toList.all fun x=>(σ2.eval x.2).cells.all AV.one && decide ((σ2.eval x.2).cells.length=c)):=fun c=>by
   rw [Bool.eq_iff_iff,List.all_eq_true,List.all_eq_true]
   exact⟨fun h x hx=>by rw [<- hps x hx];exact h x hx,fun h x hx=>by rw [hps x hx];exact h x hx⟩
  simp only [e3]
 | build t ps=>
  have hps:∀ x ∈ ps.toList,σ1.eval x.2=σ2.eval x.2:=fun x hx=>he x.2 (by simp only [Op.operands];simp;exact⟨x.1,by simpa using hx⟩)
  have e1:(ps.toList.map fun x=>(x.1,σ1.eval x.2))=ps.toList.map fun x=>(x.1,σ2.eval x.2):=List.map_congr_left fun x hx=>by rw [hps x hx]
  simp only [zO,e1]
 | slice t p lo hi mx=>
  have hp:=he p (by simp [Op.operands])
  have hlo:lo.map σ1.eval=lo.map σ2.eval:=by
   cases lo with
   | none=>rfl
   | some q=>simp only [Option.map_some];rw [he q (by simp [Op.operands])]
  have hhi:hi.map σ1.eval=hi.map σ2.eval:=by
   cases hi with
   | none=>rfl
   | some q=>simp only [Option.map_some];rw [he q (by simp [Op.operands])]
  cases mx with
  | none=>simp only [zO,hp,hlo,hhi]
  | some m=>rfl
 | move p=>simp only [zO];rw [he p (by simp [Op.operands])]
 | assign p=>simp only [zO];rw [he p (by simp [Op.operands])]
 | pick c p q=>simp only [zO];rw [he c (by simp [Op.operands]),he p (by simp [Op.operands]),he q (by simp [Op.operands])]
 | box t p=>simp only [zO];rw [he p (by simp [Op.operands])]
 | binOp op t p q t'=>simp only [zO];rw [he p (by simp [Op.operands]),he q (by simp [Op.operands])]
 | unOp op t p=>cases op <;> simp only [zO] <;> rw [he p (by simp [Op.operands])]
 | convert s t p=>simp only [zO];rw [he p (by simp [Op.operands])]
 | extract p k=>simp only [zO];rw [he p (by simp [Op.operands])]
 | field s p k=>simp only [zO];rw [he p (by simp [Op.operands])]
 | fieldAddr s p k=>simp only [zO];rw [he p (by simp [Op.operands])]
 | indexAddr t p q=>simp only [zO];rw [he p (by simp [Op.operands]),he q (by simp [Op.operands])]
 | index t p q=>simp only [zO];rw [he p (by simp [Op.operands]),he q (by simp [Op.operands])]
 | makeSlice t p q=>simp only [zO];rw [he p (by simp [Op.operands]),he q (by simp [Op.operands])]
 | makeFunc f fs cs=>
  cases f with
  | func f=>
   have e1:cs.toList.map σ1.eval=cs.toList.map σ2.eval:=List.map_congr_left fun p hp=>he p (by simp only [Op.operands,Array.toList_append,List.mem_append];exact .inr hp)
   have e2:∀ p ∈ fs.toList,σ1.eval p=σ2.eval p:=fun p hp=>he p (by simp only [Op.operands,Array.toList_append,List.mem_append];exact .inl hp)
   simp only [zO,e1]
   generalize fs.toList=l at e2
   match l,e2 with
   | [],_=>rfl
   | [p],e2=>simp only [e2 p (by simp)]
   | _ :: _ :: _,_=>rfl
  | method | methodOf | via | yield=>rfl
 | nilCheck p=>simp only [zO];rw [he p (by simp [Op.operands])]
 | makeInterface t p=>simp only [zO];rw [he p (by simp [Op.operands])]
 | alloc | ready | waits | sliceToArrayPointer | makeChan | mapEntry | entryStore | next | entry | typeAssert | go | defer | panic | send | recv | select=>rfl
theorem znT:∀ (l:List Oper) (acc:List (List Nat)),(∀ k (h:k<l.length),∀ d ∈ zct l[k],d<acc.length+k) ->
  (∀ k,k<acc.length->(zdm l acc).getD k []=acc.getD k [])/\∀ k (h:k<l.length),(zdm l acc).getD (acc.length+k) []=zct l[k]++(zct l[k]).flatMap fun j=>(zdm l acc).getD j []
 | [],acc,_=>⟨fun k _=>by rw [zdm],fun k h=>by simp at h⟩
 | o :: l,acc,hd=>by
  obtain⟨h1,h2⟩:=znT l (acc++[zct o++(zct o).flatMap fun j=>acc.getD j []]) (fun k h d hdd=>by
   have:=hd (k+1) (by simpa using h) d (by simpa using hdd)
   simp only [List.length_append,List.length_cons,List.length_nil];omega)
  have hold:∀ k,k<acc.length->(zdm (o :: l) acc).getD k []=acc.getD k []:=fun k hk=>by
   rw [zdm,h1 k (by simp;omega)]
   simp [List.getD_eq_getElem?_getD,List.getElem?_append_left hk]
  refine⟨hold,fun k hk=>?_⟩
  cases k with
  | zero=>
   have hnew:(zdm (o :: l) acc).getD acc.length []=zct o++(zct o).flatMap fun j=>acc.getD j []:=by
    rw [zdm,h1 acc.length (by simp)]
    simp [List.getD_eq_getElem?_getD]
   simp only [Nat.add_zero,List.getElem_cons_zero]
   rw [hnew]
   have hc:∀ ds:List Nat,(∀ j ∈ ds,j<acc.length)->(ds.flatMap fun j=>acc.getD j [])=ds.flatMap fun j=>(zdm (o :: l) acc).getD j []:=by
    intro ds
    induction ds with
    | nil=>intro _;rfl
    | cons j ds ih=>
     intro hj
     simp only [List.flatMap_cons]
     rw [hold j (hj j (by simp)),ih (fun k hk=>hj k (by simp [hk]))]
   rw [hc _ (fun j hj=>by have:=hd 0 (by simp) j (by simpa using hj);omega)]
  | succ k=>
   have:=h2 k (by simpa using hk)
   simp only [List.length_append,List.length_cons,List.length_nil,List.getElem_cons_succ] at this ⊢
   rw [show acc.length+(k+1)=acc.length+(0+1)+k by omega]
   rw [zdm]
   exact this
theorem znS:∀ (l:List Oper) (acc:List (List Nat)),(zdm l acc).length=acc.length+l.length
 | [],acc=>rfl
 | o :: l,acc=>by rw [zdm,znS l];simp;omega
def zGQ (all:List Oper):Prop:=∀ k (h:k<all.length),∀ d ∈ zct all[k],d<k
def zkK (all:List Oper) (X:Nat->Bool):Prop:=∀ k (h:k<all.length),X k=true->∀ d ∈ zct all[k],X d=true
theorem zBT {all:List Oper} {X:Nat->Bool} (hd:zGQ all) (hX:zkK all X):AncOk all.length (fun j i=>zfS (zlA all) j i=true) X:=by
 have hg:=(znT all [] (fun k h d hdd=>by have:=hd k h d hdd;simpa using this)).2
 simp only [List.length_nil,Nat.zero_add] at hg
 have key:∀ i,∀ j,zfS (zlA all) j i=true->j<i/\((∃ h:i<all.length,X i=true)->X j=true):=by
  intro i
  induction i using Nat.strongRecOn with
  | _ i ih=>
   intro j hj
   by_cases hi:i<all.length
   ·unfold zfS zlA at hj
    rw [hg i hi] at hj
    simp only [List.contains_eq_mem,List.mem_append,List.mem_flatMap,decide_eq_true_eq] at hj
    rcases hj with h | ⟨k,hk,h⟩
    ·exact⟨hd i hi j h,fun⟨_,hx⟩=>hX i hi hx j h⟩
    ·have hki:=hd i hi k hk
     have:=ih k hki j (by unfold zfS zlA;simpa using h)
     exact⟨by omega,fun⟨_,hx⟩=>this.2 ⟨by omega,hX i hi hx k hk⟩⟩
   ·exfalso
    unfold zfS zlA at hj
    rw [List.getD_eq_getElem?_getD,List.getElem?_eq_none (by rw [znS];simp;omega)] at hj
    simp at hj
 exact⟨fun j i h=>(key i j h).1,fun i hi hx j h=>(key i j h).2 ⟨hi,hx⟩⟩
def wT (all:List Oper) (rs:List RI) (t m:Nat):Option AV:=
 match all[m]?,rs[m]? with
 | some o,some r=>if o.dst=some t then some r.x else none
 | _,_=>none
def wB (rs:List RI) (r m:Nat):Option (Option Blk):=
 match rs[m]? with
 | some ⟨_,.blk r' b,_⟩=>if r'=r then some (some b) else none
 | _=>none
def wK (rs:List RI) (r m:Nat):Option (Option Tok):=
 match rs[m]? with
 | some ⟨_,.tok r' b,_⟩=>if r'=r then some (some b) else none
 | _=>none
structure Rep (all:List Oper) (rs:List RI) (σ0:St) (X:Nat->Bool) (n:Nat) (σ:St):Prop where
 get:∀ t,σ.get t=lst (wT all rs t) X (σ0.get t) n
 blk:∀ r,σ.blk r=lst (wB rs r) X (σ0.blk r) n
 tok:∀ r,σ.tok r=lst (wK rs r) X (σ0.tok r) n
structure Fact (P:Program) (N:Nat) (all:List Oper) (base:Nat) (rs:List RI) (σ0:St) (i:Nat) (o:Oper) (r:RI):Prop where
 ex:∃ σ,Rep all rs σ0 (fun _=>true) i σ/\(∀ q,σ.ment q=false->σ0.ment q=false)/\r.vs=(zag o.op).map σ.eval/\zaf N o=true /\
  ((zcX N all σ o=some false/\r.x = .d (.raw undef)/\r.e = .none)\/(zcX N all σ o=some true/\Rob P σ (base+i) o r.x r.e))
theorem St.get_app (σ:St) (e:Eff):(σ.app e).get=σ.get:=by cases e <;> rfl
theorem St.blk_app (σ:St) (e:Eff) (r:Nat):(σ.app e).blk r=match e with | .blk r' b=>if r'=r then some b else σ.blk r | _=>σ.blk r:=by
 cases e with
 | none=>rfl
 | blk r' b=>simp only [St.app,St.blk_setBlk]
 | tok r' b=>rfl
theorem St.tok_app (σ:St) (e:Eff) (r:Nat):(σ.app e).tok r=match e with | .tok r' b=>if r'=r then some b else σ.tok r | _=>σ.tok r:=by
 cases e with
 | none=>rfl
 | blk r' b=>rfl
 | tok r' b=>simp only [St.app,St.tok_setTok]
theorem St.ment_app_put {σ:St} {e:Eff} {t:Option Tmp} {x:AV} {q:Nat} (h:((σ.app e).put t x).ment q=false):σ.ment q=false:=by
 cases t <;> cases e <;> simp_all [St.put,St.app,St.setBlk,St.setTok,St.ment,zai,zP]
theorem Rep.step {all:List Oper} {rs:List RI} {σ0 σ:St} {i:Nat} {o:Oper} {r:RI} (h:Rep all rs σ0 (fun _=>true) i σ) (ho:all[i]? = some o) (hr:rs[i]? = some r):Rep all rs σ0 (fun _=>true) (i+1) ((σ.app r.e).put o.dst r.x):=by
 obtain⟨x,e,vs⟩:=r
 refine⟨fun t=>?_,fun q=>?_,fun q=>?_⟩
 ·rw [St.get_put,St.get_app,lst,if_pos rfl,wT,ho,hr]
  simp only
  split
  ·rfl
  ·simp only [Option.getD_none];exact h.get t
 ·rw [St.blk_put,St.blk_app,lst,if_pos rfl,wB,hr,h.blk]
  cases e with
  | blk r' b=>
   simp only
   split <;> rfl
  | none | tok=>rfl
 ·rw [St.tok_put,St.tok_app,lst,if_pos rfl,wK,hr,h.tok]
  cases e with
  | tok r' b=>
   simp only
   split <;> rfl
  | none | blk=>rfl
theorem zur {N:Nat} {all:List Oper} {base:Nat} {rsAll:List RI} {σ0:St} {rest:List Oper} {i:Nat} {σ σ':St} {rs:List RI} (h:Runs P N all base rest i σ rs σ') :
  all.drop i=rest->rsAll.drop i=rs->Rep all rsAll σ0 (fun _=>true) i σ->(∀ q,σ.ment q=false->σ0.ment q=false) ->
  (∀ k o r,i<=k->all[k]? = some o->rsAll[k]? = some r->Fact P N all base rsAll σ0 k o r)/\Rep all rsAll σ0 (fun _=>true) (i+rest.length) σ'/\rs.length=rest.length:=by
 have hd:∀ {α:Type} {l:List α} {i:Nat} {x:α} {xs:List α},l.drop i=x :: xs->l[i]? = some x/\l.drop (i+1)=xs:=fun {α l i x xs} h=>by
  have h1:(l.drop i)[0]? = some x:=by rw [h];rfl
  rw [List.getElem?_drop] at h1
  refine⟨h1,?_⟩
  rw [<- List.drop_drop,h];rfl
 induction h with
 | nil i σ=>
  intro h1 h2 h3 _
  refine⟨fun k o r hk ho _=>?_,h3,rfl⟩
  have:=List.drop_eq_nil_iff.1 h1
  have:=(List.getElem?_eq_some_iff.1 ho).1
  omega
 | @skip o rest i σ σ' rs hg hdd _ ih=>
  intro h1 h2 h3 h4
  obtain⟨ho,h1'⟩:=hd h1
  obtain⟨hr,h2'⟩:=hd h2
  obtain⟨h5,h6,h7⟩:=ih h1' h2' (h3.step ho hr) (fun q hq=>h4 q (St.ment_app_put (e:=.none) hq))
  refine⟨fun k o' r' hk ho' hr'=>?_,by rw [List.length_cons,show i+(rest.length+1)=i+1+rest.length by omega];exact h6,by simp [h7]⟩
  by_cases hik:k=i
  ·subst hik
   rw [ho] at ho';cases ho'
   rw [hr] at hr';cases hr'
   exact⟨σ,h3,h4,rfl,hdd,.inl ⟨hg,rfl,rfl⟩⟩
  ·exact h5 k o' r' (by omega) ho' hr'
 | @op o rest i σ σ' rs x e hg hro hdd _ ih=>
  intro h1 h2 h3 h4
  obtain⟨ho,h1'⟩:=hd h1
  obtain⟨hr,h2'⟩:=hd h2
  obtain⟨h5,h6,h7⟩:=ih h1' h2' (h3.step ho hr) (fun q hq=>h4 q (St.ment_app_put hq))
  refine⟨fun k o' r' hk ho' hr'=>?_,by rw [List.length_cons,show i+(rest.length+1)=i+1+rest.length by omega];exact h6,by simp [h7]⟩
  by_cases hik:k=i
  ·subst hik
   rw [ho] at ho';cases ho'
   rw [hr] at hr';cases hr'
   exact⟨σ,h3,h4,rfl,hdd,.inr ⟨hg,hro⟩⟩
  ·exact h5 k o' r' (by omega) ho' hr'
end
section
open Go Go.RowKit
variable {P:Program} {A:Base P}
theorem zaO {N:Nat} {o:Oper} (h:zaf N o=true):∀ n:Nat,o.dst=some n->n<N:=fun n hn=>by
 unfold zaf at h
 rw [hn] at h
 simpa using h
theorem zhS {σ:St} {g:Gh} {a:Act} {w:World} {all:List Oper} {o:Oper} {b:Bool} (hk:Ok A σ g a w) (h:zcX A.N all σ o=some b):Region.wanted o (yielded all.toArray a.tmps)=b:=by
 unfold zcX at h
 unfold Region.wanted
 cases hg:o.guard with
 | none=>rw [hg] at h;cases h;rfl
 | some x=>
  obtain⟨j,want⟩:=x
  rw [hg] at h
  simp only at h ⊢
  split at h
  ·rename_i t ht
   split at h
   rotate_left
   ·cases h
   rename_i htl0
   have htl:(t:Nat)<A.N:=htl0
   have he:Has g σ.tk w (σ.get t) (a.tmps.getD t undef):=by
    have h1:=hk.env t
    unfold Base.val at h1
    rwa [if_pos htl] at h1
   have hs:=hk.size
   have hlt:t<a.tmps.size:=by rw [hs];exact htl
   have hy:(((all.toArray[j]?).bind Oper.dst).bind (a.tmps[·]?))=some a.tmps[t]:=by
    have:all.toArray[j]? = all[j]?:=by simp
    rw [this,ht]
    simp [hlt]
   have hgd:a.tmps.getD t undef=a.tmps[t]:=by simp [Array.getD_eq_getD_getElem?,hlt]
   rw [hgd] at he
   unfold yielded
   rw [hy]
   split at h
   ·rename_i c hc
    rw [hc] at he
    cases h
    rw [he.raw_eq]
    cases c <;> cases want <;> rfl
   ·rename_i vs hc
    rw [hc] at he
    cases h
    rw [he.raw_eq]
    rfl
   ·cases h
  ·cases h
theorem zjO {all:List Oper} {base:Nat} {rs:List RI} (h:chk all base rs=true) :
  zGQ all/\∀ i oi ri j oj rj,all[i]? = some oi->rs[i]? = some ri->all[j]? = some oj->rs[j]? = some rj->zkg all base (zlA all) i oi ri j oj rj=true:=by
 unfold chk at h
 simp only [Bool.and_eq_true] at h
 obtain⟨h1,h2⟩:=h
 rw [List.all_eq_true] at h1 h2
 refine⟨fun k hk d hd=>?_,fun i oi ri j oj rj hi hri hj hrj=>?_⟩
 ·have:=h1 (all[k],k) (List.mem_of_getElem? (i:=k) (by simp [hk]))
  rw [List.all_eq_true] at this
  simpa using this d hd
 ·have m:∀ k o r,all[k]? = some o->rs[k]? = some r->((o,r),k) ∈ (all.zip rs).zipIdx:=fun k o r ho hr=>by
   refine List.mem_of_getElem? (i:=k) ?_
   have:(all.zip rs)[k]? = some (o,r):=by rw [List.getElem?_zip_eq_some];exact⟨ho,hr⟩
   rw [List.getElem?_zipIdx,this];simp
  have h3:=h2 _ (m i oi ri hi hri)
  rw [List.all_eq_true] at h3
  exact h3 _ (m j oj rj hj hrj)
theorem znb {V:Type} {wr:Nat->Option V} {X:Nat->Bool} {v0:V} {f:V->Bool} (h0:f v0=false):∀ n,(∀ m v,m<n->X m=true->wr m=some v->f v=false)->f (lst wr X v0 n)=false
 | 0,_=>h0
 | n+1,h=>by
  have ih:=znb (wr:=wr) (X:=X) h0 n fun m v hm=>h m v (by omega)
  rw [lst]
  split
  ·rename_i hX
   cases hw:wr n with
   | none=>exact ih
   | some v=>exact h n v (by omega) hX hw
  ·exact ih
theorem zvt {N:Nat} {all:List Oper} {σ1 σ2:St} {o:Oper} (h:∀ t ∈ zlV all o,σ1.get t=σ2.get t):zcX N all σ1 o=zcX N all σ2 o:=by
 unfold zcX
 cases hg:o.guard with
 | none=>rfl
 | some x=>
  obtain⟨j,want⟩:=x
  simp only
  cases ht:(all[j]?).bind Oper.dst with
  | none=>rfl
  | some t=>simp only;rw [h t (by simp [zlV,hg,ht])]
theorem zpM {rs:List RI} {r m:Nat} {ri:RI} (h:rs[m]? = some ri) (hw:(wB rs r m).isSome=true):ri.e.ref=some r:=by
 unfold wB at hw
 rw [h] at hw
 obtain⟨x,e,vs⟩:=ri
 cases e with
 | blk r' b=>
  simp only at hw
  by_cases hr:r'=r
  ·subst hr;rfl
  ·simp [hr] at hw
 | none | tok=>simp at hw
theorem zpL {rs:List RI} {r m:Nat} {ri:RI} (h:rs[m]? = some ri) (hw:(wK rs r m).isSome=true):ri.e.ref=some r:=by
 unfold wK at hw
 rw [h] at hw
 obtain⟨x,e,vs⟩:=ri
 cases e with
 | tok r' b=>
  simp only at hw
  by_cases hr:r'=r
  ·subst hr;rfl
  ·simp [hr] at hw
 | none | blk=>simp at hw
section
variable {all:List Oper} {base:Nat} {rs:List RI} {σ0:St} {X:Nat->Bool} {σ:St} {i:Nat} {o:Oper} {r:RI}
theorem Rep.more (hR:Rep all rs σ0 X all.length σ) (hlen:rs.length=all.length) (hch:chk all base rs=true) (hX:zkK all X) (hXi:X i=false) (ho:all[i]? = some o) (hr:rs[i]? = some r) :
  Rep all rs σ0 (fun j=>if j=i then true else X j) all.length ((σ.app r.e).put o.dst r.x):=by
 obtain⟨hd,hp⟩:=zjO hch
 have hA:=zBT hd hX
 have hi:i<all.length:=(List.getElem?_eq_some_iff.1 ho).1
 have hpair:∀ m,m<all.length->m≠i->∀ om rm,all[m]? = some om->rs[m]? = some rm->zie all o r om rm=true->zfS (zlA all) m i=true\/zfS (zlA all) i m=true:=fun m hm hmi om rm hom hrm ht=>by
  have:=hp i o r m om rm ho hr hom hrm
  unfold zkg at this
  rw [ht] at this
  simp only [Bool.not_true,Bool.false_or,Bool.or_eq_true,Bool.and_eq_true,beq_iff_eq] at this
  rcases this with h | h
  ·exact absurd h.symm hmi
  ·rcases h.1 with h | h
   ·exact .inr h
   ·exact .inl h
 have hget:∀ m,m<all.length->∃ om rm,all[m]? = some om/\rs[m]? = some rm:=fun m hm=>⟨all[m],rs[m]'(by omega),by simp [hm],by simp [hlen,hm]⟩
 refine⟨fun t=>?_,fun q=>?_,fun q=>?_⟩
 ·rw [zqC hA hi hXi (fun hw m hm hmi hwm=>?_),St.get_put,St.get_app,hR.get,wT,ho,hr]
  ·simp only;split <;> rfl
  ·obtain⟨om,rm,hom,hrm⟩:=hget m hm
   refine hpair m hm hmi om rm hom hrm ?_
   have e1:o.dst=some t:=by
    unfold wT at hw;rw [ho,hr] at hw;simp only at hw
    by_cases h:o.dst=some t
    ·exact h
    ·simp [h] at hw
   have e2:om.dst=some t:=by
    unfold wT at hwm;rw [hom,hrm] at hwm;simp only at hwm
    by_cases h:om.dst=some t
    ·exact h
    ·simp [h] at hwm
   simp [zie,e1,e2]
 ·rw [zqC hA hi hXi (fun hw m hm hmi hwm=>?_),St.blk_put,St.blk_app,hR.blk,wB,hr]
  ·obtain⟨x,e,vs⟩:=r
   cases e with
   | blk r' b=>simp only;split <;> rfl
   | none | tok=>rfl
  ·obtain⟨om,rm,hom,hrm⟩:=hget m hm
   refine hpair m hm hmi om rm hom hrm ?_
   simp [zie,zpM hr hw,zpM hrm hwm]
 ·rw [zqC hA hi hXi (fun hw m hm hmi hwm=>?_),St.tok_put,St.tok_app,hR.tok,wK,hr]
  ·obtain⟨x,e,vs⟩:=r
   cases e with
   | tok r' b=>simp only;split <;> rfl
   | none | blk=>rfl
  ·obtain⟨om,rm,hom,hrm⟩:=hget m hm
   refine hpair m hm hmi om rm hom hrm ?_
   simp [zie,zpL hr hw,zpL hrm hwm]
theorem Rep.once (hR:Rep all rs σ0 X all.length σ) (hlen:rs.length=all.length) (hch:chk all base rs=true) (hX:zkK all X) (hXi:X i=false) (hdeps:∀ d ∈ zct o,X d=true) (ho:all[i]? = some o) (hr:rs[i]? = some r) (hF:Fact P A.N all base rs σ0 i o r) :
  zaf A.N o=true/\((zcX A.N all σ o=some false/\r.x = .d (.raw undef)/\r.e = .none)\/(zcX A.N all σ o=some true/\OpOk P A o σ (σ.app r.e) r.x)):=by
 obtain⟨hd,hp⟩:=zjO hch
 have hA:=zBT hd hX
 have hi:i<all.length:=(List.getElem?_eq_some_iff.1 ho).1
 have hoi:all[i]=o:=(List.getElem?_eq_some_iff.1 ho).2
 have hX2:zkK all (fun j=>if j=i then true else X j):=fun k hk hx d hdd=>by
  by_cases hki:k=i
  ·subst hki
   rw [hoi] at hdd
   have:=hdeps d hdd
   by_cases hdi:d=k
   ·simp [hdi]
   ·simp [hdi,this]
  ·simp only [hki,if_false] at hx
   have:=hX k hk hx d hdd
   by_cases hdi:d=i
   ·simp [hdi]
   ·simp [hdi,this]
 have hA2:=zBT hd hX2
 have hanc:∀ j,zfS (zlA all) j i=true->X j=true:=fun j hj=>by
  have h1:=hA2.down i hi (by simp) j hj
  have h2:=hA.lt j i hj
  rw [if_neg (by omega)] at h1
  exact h1
 obtain⟨σi,hRi,hmi,hvs,hdst,hcase⟩:=hF.ex
 have hget:∀ m,m<all.length->∃ om rm,all[m]? = some om/\rs[m]? = some rm:=fun m hm=>⟨all[m],rs[m]'(by omega),by simp [hm],by simp [hlen,hm]⟩
 have hpair:∀ m,m<all.length->m≠i->∀ om rm,all[m]? = some om->rs[m]? = some rm->zie all om rm o r=true->zfS (zlA all) m i=true\/zfS (zlA all) i m=true:=fun m hm hmi om rm hom hrm ht=>by
  have:=hp m om rm i o r hom hrm ho hr
  unfold zkg at this
  rw [ht] at this
  simp only [Bool.not_true,Bool.false_or,Bool.or_eq_true,Bool.and_eq_true,beq_iff_eq] at this
  rcases this with h | h
  ·exact absurd h hmi
  ·exact h.1
 have htmp:∀ t ∈ zlV all o,σ.get t=σi.get t:=fun t ht=>by
  rw [hR.get,hRi.get]
  refine zkp hA hi hXi hanc fun m hm hmi hw=>?_
  obtain⟨om,rm,hom,hrm⟩:=hget m hm
  refine hpair m hm hmi om rm hom hrm ?_
  have e2:om.dst=some t:=by
   unfold wT at hw;rw [hom,hrm] at hw;simp only at hw
   by_cases h:om.dst=some t
   ·exact h
   ·simp [h] at hw
  simp [zie,e2,ht]
 have heval:∀ p ∈ o.op.operands.toList,σ.eval p=σi.eval p:=fun p hpp=>by
  cases p with
  | tmp t=>exact St.eval_tmp <| htmp t (by
    unfold zlV
    rw [List.mem_append]
    left
    rw [List.mem_filterMap]
    exact⟨.tmp t,hpp,rfl⟩)
  | const | global | func=>rfl
 have hvsm:∀ p ∈ zag o.op,∀ q,(σ.eval p).ment q=true->r.vs.any (AV.ment q)=true:=fun p hpp q hq=>by
  rw [hvs,List.any_eq_true]
  exact⟨σi.eval p,List.mem_map.2 ⟨p,hpp,rfl⟩,by rw [<- heval p (zuy _ _ hpp)];exact hq⟩
 have hblk:∀ p ∈ zag o.op,∀ q,(σ.eval p).ment q=true->σ.blk q=σi.blk q:=fun p hpp q hq=>by
  rw [hR.blk,hRi.blk]
  refine zkp hA hi hXi hanc fun m hm hmi hw=>?_
  obtain⟨om,rm,hom,hrm⟩:=hget m hm
  refine hpair m hm hmi om rm hom hrm ?_
  simp [zie,zpM hrm hw,hvsm p hpp q hq]
 have htok:∀ p ∈ zag o.op,∀ q,(σ.eval p).ment q=true->σ.tok q=σi.tok q:=fun p hpp q hq=>by
  rw [hR.tok,hRi.tok]
  refine zkp hA hi hXi hanc fun m hm hmi hw=>?_
  obtain⟨om,rm,hom,hrm⟩:=hget m hm
  refine hpair m hm hmi om rm hom hrm ?_
  simp [zie,zpL hrm hw,hvsm p hpp q hq]
 have hgd:zcX A.N all σ o=zcX A.N all σi o:=zvt htmp
 refine⟨hdst,?_⟩
 rw [hgd]
 rcases hcase with h | ⟨h1,h2⟩
 ·exact .inl h
 refine .inr ⟨h1,?_⟩
 have hfree:(zfQ o.op || r.e.ref == some (base+i))=true->σi.ment (base+i)=false->σ.free A (base+i):=fun hmk hfi=>by
  have h0:=hmi _ hfi
  have hno:∀ m om rm,m<all.length->X m=true->all[m]? = some om->rs[m]? = some rm->(rm.x.ment (base+i) || rm.e.ment (base+i))=false:=fun m om rm hm hXm hom hrm=>by
   cases hc:(rm.x.ment (base+i) || rm.e.ment (base+i)) with
   | false=>rfl
   | true=>
    exfalso
    have:=hp i o r m om rm ho hr hom hrm
    unfold zkg at this
    rw [hmk,hc] at this
    simp only [Bool.not_true,Bool.false_or,Bool.or_eq_true,Bool.and_eq_true,beq_iff_eq] at this
    rcases this with h | h
    ·subst h;rw [hXi] at hXm;cases hXm
    ·have:=hA.down m hm hXm i h.2
     rw [hXi] at this;cases this
  refine⟨fun t=>?_,fun q b hb=>?_,(St.free_of (A:=A) h0).2.2⟩
  ·rw [hR.get]
   refine znb (f:=AV.ment (base+i)) ((St.free_of (A:=A) h0).1 t) _ fun m v hm hXm hw=>?_
   obtain⟨om,rm,hom,hrm⟩:=hget m hm
   have h7:=hno m om rm hm hXm hom hrm
   unfold wT at hw
   rw [hom,hrm] at hw
   simp only at hw
   split at hw
   ·cases hw;simp only [Bool.or_eq_false_iff] at h7;exact h7.1
   ·cases hw
  ·rw [hR.blk] at hb
   have:=znb (wr:=wB rs q) (X:=X) (v0:=σ0.blk q) (f:=fun x=>match x with | some b=>Blk.ment (base+i) b | none=>false) (by
    cases hq:σ0.blk q with
    | none=>rfl
    | some b'=>exact(St.free_of (A:=A) h0).2.1 q b' hq) all.length fun m v hm hXm hw=>by
     obtain⟨om,rm,hom,hrm⟩:=hget m hm
     have h7:=hno m om rm hm hXm hom hrm
     unfold wB at hw
     rw [hrm] at hw
     obtain⟨x,e,vs⟩:=rm
     cases e with
     | blk r' b'=>
      simp only at hw
      split at hw
      ·cases hw;simp only [Bool.or_eq_false_iff,Eff.ment] at h7;exact h7.2
      ·cases hw
     | none | tok=>cases hw
   rw [hb] at this
   exact this
 have hopd:∀ (c:Call),o.op = .call c->(∀ p ∈ c.args.toList,p ∈ o.op.operands.toList)/\∀ p,c.callee = .value p->p ∈ o.op.operands.toList:=fun c h3=>⟨fun p hpp=>by
   rw [h3]
   simp only [Op.operands,Call.operands,Array.toList_append,List.mem_append]
   exact .inr hpp,fun p hp1=>by
   rw [h3]
   simp [Op.operands,Call.operands,hp1]⟩
 rcases h2 with⟨need,h3,h4,h5⟩ | ⟨he,f,c,p,cs,ys,h3,hp1,hp2,h4,h5⟩ | ⟨f,c,p,m,args,ys,r',tag,ks,cs,ks',cs',he,h3,hp1,hp2,hargs,hm,hb,hcl,h4,h5⟩ | ⟨f,c,p,ys,st,ty,rows,he,hx,h3,hp1,hp2,h4,h5,hfi⟩ | ⟨h3,h4⟩
 ·have h6:zO P σ (base+i) o.op=some (r.x,r.e,need):=by rw [zsr heval hblk htok];exact h3
  exact zjo h6 h4 fun hmk=>hfree (by rw [hmk,Bool.true_or]) (h5 hmk)
 ·obtain⟨o1,o2⟩:=hopd c h3
  have hargs:c.args.toList.map σ.eval=c.args.toList.map σi.eval:=List.map_congr_left fun p hpp=>heval p (o1 p hpp)
  have hpe:σ.eval p=σi.eval p:=heval p (o2 p hp1)
  rw [he]
  exact zmM h3 hp1 (hpe.trans hp2) (by rw [hargs];exact h4) h5
 ·obtain⟨o1,o2⟩:=hopd c h3
  have hmr:m ∈ zag o.op:=by rw [h3];simp [zag,hp1,hargs]
  have ha2:args.map σ.eval=args.map σi.eval:=List.map_congr_left fun p hpp=>heval p (o1 p (by rw [hargs];simp [hpp]))
  have hmo:=o1 m (by rw [hargs];simp)
  have hme:σ.eval m = .mp r':=(heval m hmo).trans hm
  have hbe:σ.blk r'=some (.map tag ks cs):=(hblk m hmr r' (by rw [hme];simp [AV.ment])).trans hb
  rw [he]
  exact zmK h3 hp1 ((heval p (o2 p hp1)).trans hp2) hargs hme hbe hcl (by rw [ha2];exact h4) h5
 ·obtain⟨o1,o2⟩:=hopd c h3
  have ha2:c.args.toList.map σ.eval=c.args.toList.map σi.eval:=List.map_congr_left fun p hpp=>heval p (o1 p hpp)
  rw [he,hx]
  exact zuS h3 hp1 ((heval p (o2 p hp1)).trans hp2) (by rw [ha2];exact h4) h5 (hfree (by rw [he];simp [Eff.ref]) hfi)
 ·exact h4 A σ heval (fun p hp q hq=>⟨hblk p hp q hq,htok p hp q hq⟩) fun he=>hfree (by rw [he];simp) (h3 he)
end
theorem Rep.all {all:List Oper} {rs:List RI} {σ0 σ σ':St} {X:Nat->Bool} (h:Rep all rs σ0 X all.length σ) (hX:∀ j,j<all.length->X j=true) (h':Rep all rs σ0 (fun _=>true) all.length σ'):σ'.get=σ.get/\σ'.blk=σ.blk/\σ'.tok=σ.tok:=by
 have key:∀ {V:Type} (wr:Nat->Option V) (v0:V) n,n<=all.length->lst wr X v0 n=lst wr (fun _=>true) v0 n:=by
  intro V wr v0 n
  induction n with
  | zero=>intro _;rfl
  | succ n ih=>intro hn;rw [lst,lst,hX n (by omega),ih (by omega)]
 refine⟨funext fun t=>?_,funext fun t=>?_,funext fun t=>?_⟩
 ·rw [h.get,h'.get,key _ _ _ (Nat.le_refl _)]
 ·rw [h.blk,h'.blk,key _ _ _ (Nat.le_refl _)]
 ·rw [h.tok,h'.tok,key _ _ _ (Nat.le_refl _)]
theorem zFp {all:List Oper} {base:Nat} {rs:List RI} {σ0 σn:St} {Q:Exit->Act->World->Prop} (hr:Runs P A.N all base all 0 σ0 rs σn) (hch:chk all base rs=true) (hQ:∀ g a w,Ok A σn g a w->Q .normal a w) :
  ∀ (fuel:Nat) (listed:Array Bool) (σ:St) (g:Gh) (a:Act) (w:World),listed.size=all.length->(listed.toList.count false<=fuel)->zkK all (fun j=>listed.getD j false)->Rep all rs σ0 (fun j=>listed.getD j false) all.length σ->Ok A σ g a w ->
   wpAnyIn A.fe 0 P .any all.toArray Q fuel listed a w:=by
 have hR0:Rep all rs σ0 (fun _=>true) 0 σ0:=⟨fun _=>rfl,fun _=>rfl,fun _=>rfl⟩
 obtain⟨hfacts,hRn,hlen⟩:=zur (rsAll:=rs) (σ0:=σ0) hr rfl rfl hR0 (fun _ h=>h)
 rw [Nat.zero_add] at hRn
 obtain⟨hd,_⟩:=zjO hch
 have hdone:∀ (listed:Array Bool) (σ:St) (g:Gh) (a:Act) (w:World),listed.size=all.length->Region.ready .any all.toArray listed=[]->Rep all rs σ0 (fun j=>listed.getD j false) all.length σ->Ok A σ g a w->Q .normal a w:=fun listed σ g a w hsz hnil hR hk=>by
  have hallX:∀ j,j<all.length->listed.getD j false=true:=by
   intro j
   induction j using Nat.strongRecOn with
   | _ j ih=>
    intro hj
    cases hc:listed.getD j false with
    | true=>rfl
    | false=>
     exfalso
     have hmem:j ∈ Region.ready .any all.toArray listed:=by
      rw [mem_ready]
      refine⟨?_,all[j],by simp [hj],fun e he hb=>?_⟩
      ·simp only [Array.getD_eq_getD_getElem?] at hc ⊢
       rw [Array.getElem?_eq_getElem (by omega)] at hc ⊢
       simpa using hc
      ·have hde:e.on ∈ zct all[j]:=by
        unfold zct
        exact List.mem_map.2 ⟨e,List.mem_filter.2 ⟨by simpa using he,hb⟩,rfl⟩
       have:=hd j hj _ hde
       exact ih _ this (by omega)
     rw [hnil] at hmem
     cases hmem
  obtain⟨e1,e2,e3⟩:=hR.all hallX hRn
  exact hQ g a w (hk.sub (fun t=>.inr (by rw [e1])) (fun t=>.inr (by rw [e2])) (fun t=>.inr (by rw [e3])))
 intro fuel
 induction fuel with
 | zero=>
  intro listed σ g a w hsz hcount hX hR hk
  have hnil:Region.ready .any all.toArray listed=[]:=by
   cases hrd:Region.ready .any all.toArray listed with
   | nil=>rfl
   | cons j js=>
    exfalso
    have hj:j ∈ Region.ready .any all.toArray listed:=by rw [hrd];simp
    rw [mem_ready] at hj
    obtain⟨h1,o,ho,_⟩:=hj
    have hjl:j<listed.size:=by rw [hsz];simpa using(Array.getElem?_eq_some_iff.1 ho).1
    have h2:listed[j]=false:=by
     rw [Array.getD_eq_getD_getElem?,Array.getElem?_eq_getElem hjl] at h1
     simpa using h1
    have:0<listed.toList.count false:=List.count_pos_iff.2 (by rw [<- h2];simp)
    omega
  exact⟨hnil,hdone listed σ g a w hsz hnil hR hk⟩
 | succ fuel ih=>
  intro listed σ g a w hsz hcount hX hR hk
  refine⟨fun hnil=>hdone listed σ g a w hsz hnil hR hk,fun i hi=>?_⟩
  rw [mem_ready] at hi
  obtain⟨h1,o,ho,hdep⟩:=hi
  have ho':all[i]? = some o:=by simpa using ho
  have hil:i<all.length:=(List.getElem?_eq_some_iff.1 ho').1
  have hjl:i<listed.size:=by rw [hsz];exact hil
  have h2:listed[i]=false:=by
   rw [Array.getD_eq_getD_getElem?,Array.getElem?_eq_getElem hjl] at h1
   simpa using h1
  have hXi:listed.getD i false=false:=by
   rw [Array.getD_eq_getD_getElem?,Array.getElem?_eq_getElem hjl]
   simpa using h2
  obtain⟨r,hri⟩:∃ r,rs[i]? = some r:=⟨rs[i]'(by omega),by simp [hlen,hil]⟩
  have hdeps:∀ d ∈ zct o,listed.getD d false=true:=fun d hdd=>by
   unfold zct at hdd
   obtain⟨e,he,rfl⟩:=List.mem_map.1 hdd
   obtain⟨he1,he2⟩:=List.mem_filter.1 he
   exact hdep e (by simpa using he1) he2
  obtain⟨hdst,hcase⟩:=hR.once hlen hch hX hXi hdeps ho' hri (hfacts i o r (by omega) ho' hri)
  have hR2:=hR.more hlen hch hX hXi ho' hri
  have hset:(fun j=>(listed.setIfInBounds i true).getD j false)=fun j=>if j=i then true else listed.getD j false:=funext fun j=>by
   by_cases hji:j=i
   ·subst hji
    simp [Array.getD_eq_getD_getElem?,hjl]
   ·rw [if_neg hji,getD_set_ne false (fun e=>hji e.symm)]
  have hsz2:(listed.setIfInBounds i true).size=all.length:=by simp [hsz]
  have hcount2:(listed.setIfInBounds i true).toList.count false<=fuel:=by
   rw [Array.toList_setIfInBounds]
   have hl2:i<listed.toList.length:=by simpa using hjl
   rw [List.count_set hl2]
   have e1:listed.toList[i]=false:=by simpa using h2
   rw [e1]
   have e3:(if (false == false)=true then 1 else 0)=1:=rfl
   have e4:(if (true == false)=true then 1 else 0)=0:=rfl
   rw [e3,e4]
   omega
  have hX2:zkK all (fun j=>(listed.setIfInBounds i true).getD j false):=by
   rw [hset]
   intro k hk' hx d hdd
   by_cases hki:k=i
   ·subst hki
    have hoi:all[k]=o:=(List.getElem?_eq_some_iff.1 ho').2
    rw [hoi] at hdd
    by_cases hdi:d=k
    ·simp [hdi]
    ·simp only [hdi,if_false];exact hdeps d hdd
   ·simp only [hki,if_false] at hx
    by_cases hdi:d=i
    ·simp [hdi]
    ·simp only [hdi,if_false];exact hX k hk' hx d hdd
  rw [<- hset] at hR2
  unfold wpOpIn
  rw [ho]
  simp only
  have hnext:∀ g' v w',Ok A (σ.app r.e) g' a w'->Has g' (σ.app r.e).tk w' r.x v->wpAnyIn A.fe 0 P .any all.toArray Q fuel (listed.setIfInBounds i true) (a.put o.dst v) w':=fun g' v w' h3 h4=>
   ih _ _ g' _ w' hsz2 hcount2 hX2 hR2 (h3.put o.dst (zaO hdst) h4)
  rcases hcase with⟨h3,h4,h5⟩ | ⟨h3,h4⟩
  ·rw [zhS hk h3]
   simp only [Bool.false_eq_true,if_false]
   refine⟨fun _ _=>trivial,hnext g undef w ?_ ?_⟩
   ·rw [h5];exact hk
   ·rw [h4];exact .d (.raw _)
  ·rw [zhS hk h3]
   simp only [if_true]
   exact h4 g a w hk _ _ hnext
end
end Go.Proofs.YtpnjjmcimjlfkaaGreatDoor
