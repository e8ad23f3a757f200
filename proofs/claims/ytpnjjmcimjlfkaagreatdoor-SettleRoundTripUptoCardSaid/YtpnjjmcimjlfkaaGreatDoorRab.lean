/- Texts of this proof, part 2: what the proof uses of them. -/
import Derived.Test.YtpnjjmcimjlfkaaGreatDoorRaa
import Derived.Laws.CopyRow
import Derived.Maps.AppendAt
import Derived.Laws.Slices
import Derived.IntWalk
set_option maxRecDepth 100000
set_option maxHeartbeats 64000000
namespace Go.Proofs.YtpnjjmcimjlfkaaGreatDoor
section
open Go Go.RowKit
def OpOk (P:Program) (A:Base P) (o:Oper) (σ σ':St) (x:AV):Prop:=
 ∀ g a w,Ok A σ g a w->∀ (K:Act->World->Prop) (Q:Exit->Act->World->Prop),(∀ g' v w',Ok A σ' g' a w'->Has g' σ'.tk w' x v->K (a.put o.dst v) w')->wpE A o a w K Q
theorem zaI {P:Program} {A:Base P} {o:Oper} {σ σ':St} {x:AV} (h:∀ g a w,Ok A σ g a w->∃ g' v w',(execOp a.eval o).run P w = .ok (.value v) w'/\Ok A σ' g' a w'/\Has g' σ'.tk w' x v):OpOk P A o σ σ' x:=by
 intro g a w hk K Q hK
 obtain⟨g',v,w',hr,h1,h2⟩:=h g a w hk
 exact zjV hr (fun _ _ h=>by cases h) (hK g' v w' h1 h2)
theorem zhN {P:Program} {A:Base P} {o:Oper} {σ σ':St} (h:∀ g a w,Ok A σ g a w->∃ g' w',(execOp a.eval o).run P w = .ok .skip w'/\Ok A σ' g' a w'):OpOk P A o σ σ' .dead:=by
 intro g a w hk K Q hK
 obtain⟨g',w',hr,h1⟩:=h g a w hk
 exact zjV hr (fun _ _ h=>by cases h) (hK g' undef w' h1 (.dead _))
def zeh (v:Value):AV:=.d (.raw v)
def zhi:Value->AV
 | .agg cs=>.agg (cs.toList.map zeh)
 | v=>zeh v
def St.eval (σ:St):Operand->AV
 | .tmp t=>if t<1000000 then σ.get t else .dead
 | .const v=>zhi v
 | .global _=>.dead
 | .func f=>.fn f []
variable {P:Program} {A:Base P} {σ:St} {g:Gh} {a:Act} {w:World}
theorem St.eval_tmp {σ σ':St} {t:Nat} (h:σ.get t=σ'.get t):σ.eval (.tmp t)=σ'.eval (.tmp t):=by
 show(if t<1000000 then σ.get t else .dead)=if t<1000000 then σ'.get t else .dead
 rw [h]
theorem St.free_tmp {me:Nat} (hm:σ.free A me) (t:Nat):(σ.eval (.tmp t)).ment me=false:=by
 show AV.ment me (if t<1000000 then σ.get t else .dead)=false
 split
 ·exact hm.1 t
 ·rfl
theorem zeV (g:Gh) (tk:Nat->Option Nat) (w:World) (v:Value):Has g tk w (zeh v) v:=by
 exact .d (.raw _)
theorem zkv (g:Gh) (tk:Nat->Option Nat) (w:World) (v:Value):Has g tk w (zhi v) v:=by
 unfold zhi
 split
 ·rename_i cs
  have h:=Has.agg (g:=g) (tk:=tk) (w:=w) (cs.toList.map zeh) cs.toList (by simp) fun i hi hv=>by
   rw [List.getElem_map];exact zeV _ _ _ _
  simpa using h
 ·exact zeV _ _ _ _
theorem Ok.eval (h:Ok A σ g a w) (x:Operand):Has g σ.tk w (σ.eval x) (a.eval x):=by
 cases x with
 | tmp t=>
  show Has g σ.tk w (if t<1000000 then σ.get t else .dead) _
  by_cases ht:t<1000000
  ·rw [if_pos ht];exact h.tmp ht
  ·rw [if_neg ht];exact .dead _
 | const v=>exact zkv _ _ _ _
 | global q=>exact .dead _
 | func f=>exact .fn f [] [] rfl fun i hi=>by simp at hi
theorem Has.raw_eq {tk:Nat->Option Nat} {x v:Value} (h:Has g tk w (.d (.raw x)) v):v=x:=by
 cases h with
 | d h=>exact h.raw_eq
theorem Has.sl {tk:Nat->Option Nat} {rows:List (List D)} {v:Value} (h:Has g tk w (.d (.sl rows)) v):Reads w g.F (.sl rows) v:=by
 cases h with
 | d h=>exact h
theorem Has.box_eq {tk:Nat->Option Nat} {r j:Nat} {v:Value} (h:Has g tk w (.box r j) v):v = .pointer (some ⟨g.m r,j,none⟩):=by cases h;rfl
theorem Has.elem_eq {tk:Nat->Option Nat} {r st i j:Nat} {v:Value} (h:Has g tk w (.elem r st i j) v):v = .pointer (some ⟨g.m r,i * st+j,none⟩):=by cases h;rfl
theorem Has.agg_eq {tk:Nat->Option Nat} {cs:List AV} {v:Value} (h:Has g tk w (.agg cs) v):∃ vs:List Value,v = .agg vs.toArray/\cs.length=vs.length/\∀ i (hi:i<cs.length) (hv:i<vs.length),Has g tk w cs[i] vs[i]:=by
 cases h with
 | agg cs vs hl h=>exact⟨vs,rfl,hl,h⟩
theorem Has.tup_eq {tk:Nat->Option Nat} {cs:List AV} {v:Value} (h:Has g tk w (.tup cs) v):∃ vs:List Value,v = .tuple vs.toArray/\cs.length=vs.length/\∀ i (hi:i<cs.length) (hv:i<vs.length),Has g tk w cs[i] vs[i]:=by
 cases h with
 | tup cs vs hl h=>exact⟨vs,rfl,hl,h⟩
theorem Has.at_eq {tk:Nat->Option Nat} {cs:List D} {v:Value} (h:Has g tk w (.at_ cs) v):∃ b o,v = .pointer (some ⟨b,o,none⟩)/\∀ k (hk:k<cs.length),g.F b (o+k)/\∃ u,w.cell? ⟨b,o+k,none⟩=some u/\Reads w g.F cs[k] u:=by
 cases h with
 | at_ cs b o h=>exact⟨b,o,rfl,h⟩
theorem Has.bnd_eq {tk:Nat->Option Nat} {f:FuncId} {x:AV} {v:Value} (h:Has g tk w (.bnd f x) v):∃ u,v = .func (.func f) #[u] #[]/\Has g tk w x u:=by
 cases h with
 | bnd f x u h=>exact⟨u,rfl,h⟩
theorem Has.fn_eq {tk:Nat->Option Nat} {f:FuncId} {cs:List AV} {v:Value} (h:Has g tk w (.fn f cs) v):∃ vs:List Value,v = .func (.func f) #[] vs.toArray/\cs.length=vs.length/\∀ i (hi:i<cs.length) (hv:i<vs.length),Has g tk w cs[i] vs[i]:=by
 cases h with
 | fn f cs vs hl h=>exact⟨vs,rfl,hl,h⟩
theorem Has.mp_eq {tk:Nat->Option Nat} {r:Nat} {v:Value} (h:Has g tk w (.mp r) v):v = .map (some (g.m r)):=by cases h;rfl
theorem Has.mapd_eq {tk:Nat->Option Nat} {ks:List Value} {cs:List AV} {v:Value} (h:Has g tk w (.mapd ks cs) v):∃ (b:Nat) (es:List MapEntry),v = .map (some b)/\g.F b 0/\w.heap[b]? = some (.map es.toArray es.length)/\ks.length=es.length/\cs.length=es.length/\(∀ i (hi:i<ks.length) (hv:i<es.length),ks[i]=es[i].key)/\∀ i (hi:i<cs.length) (hv:i<es.length),Has g tk w cs[i] es[i].val:=by
 cases h with
 | mapd ks cs b es hF hh hl hl2 hk h=>exact⟨b,es,rfl,hF,hh,hl,hl2,hk,h⟩
theorem Has.own_eq {tk:Nat->Option Nat} {r len:Nat} {v:Value} (h:Has g tk w (.own r len) v):∃ cap,v = .slice (some ⟨g.m r,0,none⟩) len cap/\len<=cap:=by
 cases h with
 | own r len cap h=>exact⟨cap,rfl,h⟩
theorem Has.stk_eq {tk:Nat->Option Nat} {r st ver off len:Nat} {v:Value} (h:Has g tk w (.stk r st ver off len) v):∃ p cap,v = .slice p len cap/\len<=cap/\(0<len->∃ b o,p=some ⟨b,o,none⟩)/\∀ n,tk r=some n->ver<=n/\(ver=n -> .slice p len cap=zfd (g.tv r) st off len/\off+len<=zpV (g.tv r)):=by
 cases h with
 | stk _ _ _ _ _ p cap hc hp h=>exact⟨p,cap,rfl,hc,hp,h⟩
theorem Has.selem_eq {tk:Nat->Option Nat} {r st ver i j:Nat} {v:Value} (h:Has g tk w (.selem r st ver i j) v):∃ b o,v = .pointer (some ⟨b,o,none⟩)/\∀ n,tk r=some n->ver<=n/\(ver=n->(g.tv r).ownBlock=some b/\o=i * st+j):=by
 cases h with
 | selem _ _ _ _ _ b o h=>exact⟨b,o,rfl,h⟩
theorem Has.grow_eq {tk:Nat->Option Nat} {r:Nat} {rows:List (List D)} {v:Value} (h:Has g tk w (.grow r rows) v):Reads w g.F (.sl rows) v/\∀ n,tk r=some n->rows.length<=n/\(rows.length=n->v=g.tv r):=by
 cases h with
 | grow r rows v h ht=>exact⟨h,ht⟩
def AV.cells:AV->List AV
 | .agg cs=>cs
 | x=>[x]
def AV.one:AV->Bool
 | .d (.raw v)=>v.oneCell'
 | .d (.sl _) | .box _ _ | .elem _ _ _ _ | .own _ _ | .at_ _ | .grow _ _ | .fn _ _ | .bnd _ _ | .mp _ | .mapd _ _ | .stk _ _ _ _ _ | .selem _ _ _ _ _=>true
 | _=>false
theorem Has.one {tk:Nat->Option Nat} {x:AV} {v:Value} (h:Has g tk w x v) (h1:x.one=true):v.oneCell'=true:=by
 cases h with
 | dead=>simp [AV.one] at h1
 | d h=>
  cases h with
  | raw v=>simpa [AV.one] using h1
  | nil=>rfl
  | rows=>rfl
 | agg=>simp [AV.one] at h1
 | tup=>simp [AV.one] at h1
 | box=>rfl
 | elem=>rfl
 | own=>rfl
 | stk=>rfl
 | selem=>rfl
 | at_=>rfl
 | fn=>rfl
 | bnd=>rfl
 | mp=>rfl
 | mapd=>rfl
 | grow r rows v h _=>obtain⟨p,cap,rfl,_⟩:=h.slice;rfl
theorem Value.cells_one {v:Value} (h:v.oneCell'=true):v.cells=#[v]:=by cases v <;> simp_all [Value.cells,Value.oneCell']
theorem Has.cells {tk:Nat->Option Nat} {x:AV} {v:Value} (h:Has g tk w x v) (h1:x.cells.all AV.one=true):x.cells.length=v.cells.toList.length/\(∀ u ∈ v.cells.toList,u.oneCell'=true)/\∀ i (hi:i<x.cells.length) (hv:i<v.cells.toList.length),Has g tk w x.cells[i] v.cells.toList[i]:=by
 have single:x.cells=[x]->x.cells.length=v.cells.toList.length/\(∀ u ∈ v.cells.toList,u.oneCell'=true)/\∀ i (hi:i<x.cells.length) (hv:i<v.cells.toList.length),Has g tk w x.cells[i] v.cells.toList[i]:=fun e=>by
  rw [e] at h1
  have ho:=h.one (by simpa using h1)
  have hc:=Value.cells_one ho
  refine⟨by rw [e,hc];rfl,fun u hu=>by rw [hc] at hu;simp at hu;rw [hu];exact ho,fun i hi hv=>?_⟩
  simp only [e,hc] at hi hv ⊢
  have hi0:i=0:=by simpa using hi
  subst hi0
  simpa using h
 cases x with
 | agg cs=>
  obtain⟨vs,rfl,hl,hh⟩:=h.agg_eq
  simp only [AV.cells,Value.cells] at h1 ⊢
  refine⟨by simpa using hl,fun u hu=>?_,fun i hi hv=>by simpa using hh i hi (by simpa using hv)⟩
  obtain⟨i,hi,rfl⟩:=List.getElem_of_mem (by simpa using hu:u ∈ vs)
  have hi':i<cs.length:=by omega
  exact(hh i hi' hi).one (List.all_eq_true.1 h1 _ (List.getElem_mem hi'))
 | dead=>exact single rfl
 | d=>exact single rfl
 | tup=>exact single rfl
 | box=>exact single rfl
 | elem=>exact single rfl
 | own=>exact single rfl
 | stk=>exact single rfl
 | selem=>exact single rfl
 | at_=>exact single rfl
 | fn=>exact single rfl
 | bnd=>exact single rfl
 | mp=>exact single rfl
 | mapd=>exact single rfl
 | grow=>exact single rfl
def zx (P:Program) (t:TypeId):Option Value:=(P.info? t).bind (·.zero)
def zaC (P:Program) (t:TypeId):Option Bool:=
 match P.underlying t with
 | some (.struct _) | some (.array _ _)=>some true
 | some _=>some false
 | none=>none
theorem zlp {t:TypeId} {d:TypeDesc} (h:P.underlying t=some d):∃ i,P.info? t=some i:=by
 unfold Program.underlying at h
 cases hi:P.info? t with
 | none=>simp [hi] at h
 | some i=>exact⟨i,rfl⟩
theorem zey {t:TypeId} {b:Bool} (h:zaC P t=some b) (w:World):(isAgg t).run P w = .ok b w/\∃ i,P.info? t=some i:=by
 unfold zaC at h
 cases hu:P.underlying t with
 | none=>simp [hu] at h
 | some d=>
  rw [hu] at h
  refine⟨?_,zlp hu⟩
  unfold isAgg
  rw [Sem.run_bind,run_underlying hu w]
  cases d <;> simp_all
theorem zfi {t:TypeId} {b:Bool} {q o:Nat} (hb:zaC P t=some b) (vs:List Value) (hl:vs.length=if b then P.cellsOf t else 1) (h:∀ j (hj:j<vs.length),w.cell? ⟨q,o+j,none⟩=some vs[j]) :
  (loadVar t ⟨q,o,none⟩).run P w = .ok (if b then .agg vs.toArray else vs.getD 0 undef) w:=by
 obtain⟨h1,i,hi⟩:=zey (P:=P) hb w
 cases b with
 | true=>
  have hs:i.size=vs.length:=by simp only [if_pos] at hl;rw [hl];simp [Program.cellsOf,hi]
  have hc:=run_loadCells_list (P:=P) w ⟨q,o,none⟩ vs (fun j v hv=>by
   rw [Addr.add_lit]
   obtain⟨hj,rfl⟩:=List.getElem?_eq_some_iff.1 hv
   exact h j hj)
  simp [loadVar,Sem.run_bind,h1,sizeOf,typeInfo,hi,hs,hc]
 | false=>
  have h0:0<vs.length:=by simp at hl;omega
  have hc:=h 0 h0
  simp only [Nat.add_zero] at hc
  have hg:vs[0]?.getD undef=vs[0]:=by simp [h0]
  simp [loadVar,Sem.run_bind,h1,hc,hg,List.getD_eq_getElem?_getD]
def zah (P:Program) (t:TypeId) (cs:List AV):Option AV:=
 match zaC P t with
 | some true=>if P.cellsOf t<=cs.length then some (.agg (cs.take (P.cellsOf t))) else none
 | some false=>cs[0]?
 | none=>none
theorem zdR {o:Oper} {t:TypeId} {p:Operand} {cs:List AV} {x:AV} (ho:o.op = .load t p) (hx:zah P t cs=some x)
  (h:∀ g a w,Ok A σ g a w->∃ q off,a.eval p = .pointer (some ⟨q,off,none⟩)/\∀ j (hj:j<cs.length),∃ u,w.cell? ⟨q,off+j,none⟩=some u/\Has g σ.tk w cs[j] u):OpOk P A o σ σ x:=by
 refine zaI fun g a w hk=>?_
 obtain⟨q,off,hp,hc⟩:=h g a w hk
 unfold zah at hx
 split at hx
 ·rename_i hb
  split at hx
  ·rename_i hn
   cases hx
   have hlen:((List.range (P.cellsOf t)).map fun j=>(w.cell? ⟨q,off+j,none⟩).getD undef).length=if true=true then P.cellsOf t else 1:=by simp
   have hr:=zfi (P:=P) (w:=w) (q:=q) (o:=off) hb ((List.range (P.cellsOf t)).map fun j=>(w.cell? ⟨q,off+j,none⟩).getD undef) hlen (fun j hj=>by
    simp only [List.length_map,List.length_range] at hj
    obtain⟨u,hu,_⟩:=hc j (by omega)
    simp [hu])
   rw [if_pos rfl] at hr
   refine⟨g,_,w,by simp only [execOp,ho,hp,Instr.loadAt,Instr.sureAddr,Sem.run_bind,Sem.run_pure,Result.andThen_ok,hr];rfl,hk,?_⟩
   refine .agg _ _ (by simp;omega) fun i hi hv=>?_
   simp only [List.length_take] at hi
   obtain⟨u,hu,hh⟩:=hc i (by omega)
   simpa [hu] using hh
  ·cases hx
 ·rename_i hb
  obtain⟨h0,rfl⟩:=List.getElem?_eq_some_iff.1 hx
  obtain⟨u,hu,hh⟩:=hc 0 h0
  have hr:=zfi (P:=P) (w:=w) (o:=off) (q:=q) hb [u] (by simp) (fun j hj=>by
   have:j=0:=by simpa using hj
   subst this
   simpa using hu)
  exact⟨g,u,w,by simp only [execOp,ho,hp,Instr.loadAt,Instr.sureAddr,Sem.run_bind,Sem.run_pure,Result.andThen_ok,hr];rfl,hk,hh⟩
 ·cases hx
theorem zoo {o:Oper} {t:TypeId} {p:Operand} {r j:Nat} {ty:TypeId} {cs:List AV} {x:AV} (ho:o.op = .load t p) (hp:σ.eval p = .box r j) (hb:σ.blk r=some (.cell ty cs)) (hx:zah P t (cs.drop j)=some x):OpOk P A o σ σ x:=by
 refine zdR ho hx fun g a w hk=>?_
 have he:=hk.eval p
 rw [hp] at he
 obtain⟨arr,h1,h2,h3⟩:=(hk.blk r _ hb).2
 refine⟨g.m r,j,he.box_eq,fun i hi=>?_⟩
 simp only [List.length_drop] at hi
 have hj:j+i<arr.length:=by omega
 refine⟨arr[j+i],by simp [World.cell?,h1,hj],?_⟩
 rw [List.getElem_drop]
 exact h3 (j+i) (by omega) hj
theorem zqp {o:Oper} {t:TypeId} {p:Operand} {cs:List D} {x:AV} (ho:o.op = .load t p) (hp:σ.eval p = .at_ cs) (hx:zah P t (cs.map .d)=some x):OpOk P A o σ σ x:=by
 refine zdR ho hx fun g a w hk=>?_
 have he:=hk.eval p
 rw [hp] at he
 obtain⟨b,o,hv,h⟩:=he.at_eq
 refine⟨b,o,hv,fun i hi=>?_⟩
 simp only [List.length_map] at hi
 obtain⟨_,u,h1,h2⟩:=h i hi
 exact⟨u,h1,by rw [List.getElem_map];exact .d h2⟩
theorem zmF {o:Oper} {t:TypeId} {p:Operand} {r st i j:Nat} {ty:TypeId} {rows:List (List D)} {x:AV} (ho:o.op = .load t p) (hp:σ.eval p = .elem r st i j) (hb:σ.blk r=some (.row st ty rows)) (hi:i<rows.length) (hx:zah P t (((rows.getD i []).drop j).map .d)=some x):OpOk P A o σ σ x:=by
 refine zdR ho hx fun g a w hk=>?_
 have he:=hk.eval p
 rw [hp] at he
 obtain⟨arr,h1,h2,h3⟩:=(hk.blk r _ hb).2
 refine⟨g.m r,_,he.elem_eq,fun k hk'=>?_⟩
 have hrow:rows.getD i []=rows[i]:=by simp [List.getD_eq_getElem?_getD,hi]
 simp only [hrow,List.length_map,List.length_drop] at hk' ⊢
 obtain⟨u,h4,h5⟩:=h3 i hi (j+k) (by omega)
 refine⟨u,by simp [World.cell?,h1,Nat.add_assoc,h4],?_⟩
 rw [List.getElem_map,List.getElem_drop]
 exact .d h5
theorem zlt {o:Oper} {t:TypeId} {p:Operand} {r st ver i j:Nat} {k:Tok} {rows:List (List D)} {x:AV} (ho:o.op = .load t p) (hp:σ.eval p = .selem r st ver i j) (hb:σ.tok r=some k) (hex:k.ex=some rows) (hst:st=k.st) (hver:k.len=ver) (hi:i<rows.length) (hx:zah P t (((rows.getD i []).drop j).map .d)=some x):OpOk P A o σ σ x:=by
 refine zdR ho hx fun g a w hk=>?_
 have he:=hk.eval p
 rw [hp] at he
 obtain⟨b',o',hv,hb'⟩:=he.selem_eq
 obtain⟨hown,rfl⟩:=(hb' k.len (by simp [St.tk,hb])).2 hver.symm
 obtain⟨xs,h1,h2,h3⟩:=hk.tok r k hb
 obtain⟨h4,h5⟩:=h3 rows hex
 refine⟨b',_,hv,fun q hq=>?_⟩
 have hrow:rows.getD i []=rows[i]:=by simp [List.getD_eq_getElem?_getD,hi]
 simp only [hrow,List.length_map,List.length_drop] at hq ⊢
 obtain⟨u,h6,h7⟩:=h5 i hi (j+q) (by omega)
 refine⟨u,?_,?_⟩
 ·have h8:=h1.cells (g:=b') hown _ u h6
  rw [Addr.add_lit,Nat.zero_add] at h8
  rw [hst,Nat.add_assoc];exact h8
 ·rw [List.getElem_map,List.getElem_drop]
  exact .d h7
theorem zuX {g:Gh} {tk:Nat->Option Nat} {cs:List AV} {vs:List Value} (w:World) (ty:TypeId) (hl:cs.length=vs.length) (h:∀ i (hi:i<cs.length) (hv:i<vs.length),Has g tk (w.alloc (.cells vs.toArray ty)) cs[i] vs[i]):zek g tk (w.alloc (.cells vs.toArray ty)) w.heap.size (.cell ty cs):=
 ⟨vs,heap_alloc_new w _,hl.symm,fun j hj hj'=>h j hj hj'⟩
theorem zsu {o:Oper} {ty:TypeId} {me:Nat} {cs:List AV} (hm:σ.free A me) (hmc:zbq me cs=false)
  (h:∀ g a w,Ok A σ g a w->∃ vs:List Value,(execOp a.eval o).run P w = .ok (.value (.pointer (some ⟨w.heap.size,0,none⟩))) (w.alloc (.cells vs.toArray ty))/\cs.length=vs.length/\∀ i (hi:i<cs.length) (hv:i<vs.length),Has g σ.tk w cs[i] vs[i]) :
  OpOk P A o σ (σ.setBlk me (some (.cell ty cs))) (.box me 0):=by
 refine zaI fun g a w hk=>?_
 obtain⟨vs,hr,hl,hc⟩:=h g a w hk
 have e:=(hk.grown (w':=w.alloc (.cells vs.toArray ty)) ((Below.refl _ _).alloc (Nat.le_refl _) _) g.F (fun _ _ h=>h) (fun _ _ h=>.inl h)).2
 refine⟨_,_,_,hr,hk.newBlk hm (by rw [Blk.ment];exact hmc) (zuX w ty hl fun i hi hv=>(hc i hi hv).mono e fun _ _=>id),?_⟩
 have h0:=Has.box (g:={ g with m:=zcZ g.m me w.heap.size }) (tk:=(σ.setBlk me (some (.cell ty cs))).tk) (w:=w.alloc (.cells vs.toArray ty)) me 0
 simpa only [zp] using h0
theorem zuW {o:Oper} {ty:TypeId} {me:Nat} {z:Value} (ho:o.op = .alloc ty) (hz:zx P ty=some z) (hm:σ.free A me) :
  OpOk P A o σ (σ.setBlk me (some (.cell ty (z.cells.toList.map zeh)))) (.box me 0):=by
 have hmc:∀ l:List Value,zbq me (l.map zeh)=false:=fun l=>by
  induction l with
  | nil=>rfl
  | cons v l ih=>
   simp only [List.map_cons,zbq,ih,Bool.or_false]
   rfl
 refine zsu hm (hmc _) fun g a w hk=>⟨z.cells.toList,?_,by simp,fun i hi hv=>by rw [List.getElem_map];exact zeV _ _ _ _⟩
 obtain⟨i,hi,hzi⟩:∃ i,P.info? ty=some i/\i.zero=some z:=by
  unfold zx at hz
  cases hi:P.info? ty with
  | none=>simp [hi] at hz
  | some i=>exact⟨i,rfl,by simpa [hi] using hz⟩
 simp [execOp,ho,Instr.alloc,zeroValue,typeInfo,hi,hzi,newVar,newRow]
theorem zzU {o:Oper} {ty:TypeId} {me:Nat} {p:Operand} (ho:o.op = .box ty p) (hm:σ.free A me) (hmc:zbq me (σ.eval p).cells=false) (h1:(σ.eval p).cells.all AV.one=true) :
  OpOk P A o σ (σ.setBlk me (some (.cell ty (σ.eval p).cells))) (.box me 0):=by
 refine zsu hm hmc fun g a w hk=>?_
 obtain⟨hl,_,hc⟩:=(hk.eval p).cells h1
 exact⟨(a.eval p).cells.toList,by simp [execOp,ho,Instr.box,newVar,newRow],hl,hc⟩
def zv {α:Type} (cs:List α) (j:Nat) (xs:List α):List α:=cs.take j++xs++cs.drop (j+xs.length)
theorem zaj {α:Type} {cs xs:List α} {j:Nat} (h:j+xs.length<=cs.length):(zv cs j xs).length=cs.length:=by simp [zv];omega
theorem zbX {α:Type} {cs xs:List α} {j i:Nat} (h:j+xs.length<=cs.length):(zv cs j xs)[i]? = if i<j then cs[i]? else if i<j+xs.length then xs[i - j]? else cs[i]?:=by
 unfold zv
 rw [List.append_assoc,List.getElem?_append]
 simp only [List.length_take]
 by_cases h1:i<j
 ·rw [if_pos (by omega),if_pos h1,List.getElem?_take_of_lt h1]
 ·rw [if_neg (by omega),if_neg h1,List.getElem?_append]
  by_cases h2:i<j+xs.length
  ·rw [if_pos (by omega),if_pos h2];congr 1;omega
  ·rw [if_neg (by omega),if_neg h2,List.getElem?_drop];congr 1;omega
theorem zhc {t:TypeId} {q off:Nat} {v:Value} {arr:List Value} {ty:TypeId} (hq:w.heap[q]? = some (.cells arr.toArray ty (0,0))) (hn:v.cells.toList.length=P.cellsOf t) (hi:P.cellsOf t≠0) (h1:∀ u ∈ v.cells.toList,u.oneCell'=true) (hfit:off+v.cells.toList.length<=arr.length) :
  (Instr.storeAt t (.pointer (some ⟨q,off,none⟩)) v).run P w = .ok () (w.setRow q (zv arr off v.cells.toList).toArray):=by
 obtain⟨i,hii⟩:∃ i,P.info? t=some i:=by
  cases h:P.info? t with
  | none=>simp [Program.cellsOf,h] at hi
  | some i=>exact⟨i,rfl⟩
 have hs:i.size=P.cellsOf t:=by simp [Program.cellsOf,hii]
 have hst:=run_storeCells_at P q off ty v.cells.toList 0 arr.toArray w hq (by simpa using hfit) h1
 simp only [Nat.add_zero] at hst
 have hsz:v.cells.size=i.size:=by rw [hs,<- hn];simp
 simp only [Instr.storeAt,Instr.sureAddr,Sem.run_bind,Sem.run_pure,Result.andThen_ok,storeVar,sizeOf,typeInfo,run_program,hii,hsz,ne_eq,not_true_eq_false,if_false]
 exact hst
theorem zmB {o:Oper} {t:TypeId} {p q:Operand} {r j:Nat} {ty:TypeId} {cs:List AV} (ho:o.op = .store t p q) (hp:σ.eval p = .box r j) (hb:σ.blk r=some (.cell ty cs)) (h1:(σ.eval q).cells.all AV.one=true) (hn:(σ.eval q).cells.length=P.cellsOf t) (h0:P.cellsOf t≠0) (hfit:j+(σ.eval q).cells.length<=cs.length) :
  OpOk P A o σ (σ.setBlk r (some (.cell ty (zv cs j (σ.eval q).cells)))) .dead:=by
 refine zhN fun g a w hk=>?_
 obtain⟨hl,hone,hc⟩:=(hk.eval q).cells h1
 have hpe:=hk.eval p
 rw [hp] at hpe
 obtain⟨hB,arr,h2,h3,h4⟩:=hk.blk r _ hb
 have hfit':j+(a.eval q).cells.toList.length<=arr.length:=by omega
 have hr:=zhc (P:=P) (t:=t) h2 (by rw [<- hl];exact hn) h0 hone hfit'
 refine⟨g,w.setRow (g.m r) (zv arr j (a.eval q).cells.toList).toArray,?_,?_⟩
 ·simp only [execOp,ho,hpe.box_eq,Sem.run_bind,hr,Result.andThen_ok,Sem.run_pure]
 ·have hb':∀ b,b≠g.m r->(w.setRow (g.m r) (zv arr j (a.eval q).cells.toList).toArray).heap[b]? = w.heap[b]?:=fun b hne=>setRow_other w _ _ _ hne
  have hbel:BelowX A.B A.X w (w.setRow (g.m r) (zv arr j (a.eval q).cells.toList).toArray):=.one (hB.imp id And.left) rfl rfl rfl (by simp) hb'
  have e:Ext (fun _=>False) g σ.tk w g σ.tk (w.setRow (g.m r) (zv arr j (a.eval q).cells.toList).toArray):=⟨fun _ _ h=>h,fun b o u hf hu=>(zaZ (hb' b fun e=>hk.Fblk r _ hb o (e ▸ hf))).trans hu,fun _ _=>rfl,fun q _ n' hn'=>⟨n',hn',Nat.le_refl _,fun _=>rfl⟩,fun b es c hf hu=>(hb' b fun e=>hk.Fblk r _ hb 0 (e ▸ hf)).trans hu⟩
  refine(hk.write (k':=.cell ty (zv cs j (σ.eval q).cells)) hb hb' (by simp) hbel ⟨_,setRow_heap w _ _ _ _ _ h2,by rw [zaj hfit',zaj hfit];exact h3,fun i hi hi'=>?_⟩).1
  have g1:=zbX (i:=i) hfit
  have g2:=zbX (i:=i) hfit'
  rw [List.getElem?_eq_getElem hi] at g1
  rw [List.getElem?_eq_getElem hi'] at g2
  rw [zaj hfit] at hi
  by_cases c1:i<j
  ·rw [if_pos c1,List.getElem?_eq_getElem hi] at g1
   rw [if_pos c1,List.getElem?_eq_getElem (by omega)] at g2
   rw [Option.some.inj g1,Option.some.inj g2]
   exact(h4 i hi (by omega)).mono e fun _ _=>id
  ·rw [if_neg c1] at g1 g2
   by_cases c2:i<j+(σ.eval q).cells.length
   ·rw [if_pos c2,List.getElem?_eq_getElem (by omega)] at g1
    rw [if_pos (by omega),List.getElem?_eq_getElem (by omega)] at g2
    rw [Option.some.inj g1,Option.some.inj g2]
    exact(hc (i - j) (by omega) (by omega)).mono e fun _ _=>id
   ·rw [if_neg c2,List.getElem?_eq_getElem hi] at g1
    rw [if_neg (by omega),List.getElem?_eq_getElem (by omega)] at g2
    rw [Option.some.inj g1,Option.some.inj g2]
    exact(h4 i hi (by omega)).mono e fun _ _=>id
end
section
open Go Go.RowKit
variable {P:Program} {A:Base P} {σ:St} {g:Gh} {a:Act} {w:World}
def Value.toD:Value->D
 | .slice none 0 0=>.sl []
 | v=>.raw v
def AV.toD:AV->Option D
 | .d (.raw v)=>some (Value.toD v)
 | .d (.sl rows)=>some (.sl rows)
 | .grow _ rows=>some (.sl rows)
 | _=>none
theorem zhI (w:World) (F:Nat->Nat->Prop) (v:Value):Reads w F (Value.toD v) v:=by
 unfold Value.toD
 split
 ·exact .nil _ _
 ·exact .raw _
theorem Has.toD {tk:Nat->Option Nat} {x:AV} {y:D} {v:Value} (h:Has g tk w x v) (hx:x.toD=some y):Reads w g.F y v:=by
 cases h with
 | d h=>
  cases h with
  | raw v=>cases hx;exact zhI _ _ _
  | nil p cap=>cases hx;exact .nil _ _
  | rows st rows b off cap val h1 h2 h3 h4 h5=>cases hx;exact .rows st rows b off cap val h1 h2 h3 h4 h5
 | grow r rows v h _=>cases hx;exact h
 | dead | agg | tup | box | elem | own | at_ | fn | bnd | mp | mapd | stk | selem=>cases hx
def zlU:List AV->Option (List D)
 | []=>some []
 | x :: xs=>match x.toD,zlU xs with
  | some y,some ys=>some (y :: ys)
  | _,_=>none
theorem zex:∀ {xs:List AV} {ys:List D},zlU xs=some ys->xs.length=ys.length/\∀ i (hi:i<xs.length) (hy:i<ys.length),xs[i].toD=some ys[i]
 | [],ys,h=>by cases h;simp
 | x :: xs,ys,h=>by
  unfold zlU at h
  split at h
  ·rename_i y ys' h1 h2
   cases h
   obtain⟨h3,h4⟩:=zex h2
   refine⟨by simp [h3],fun i hi hy=>?_⟩
   cases i with
   | zero=>simpa using h1
   | succ i=>simpa using h4 i (by simpa using hi) (by simpa using hy)
  ·cases h
theorem zls {o:Oper} {t:TypeId} {p q:Operand} {r st i j:Nat} {ty:TypeId} {rows:List (List D)} {ds:List D} (ho:o.op = .store t p q) (hp:σ.eval p = .elem r st i j) (hb:σ.blk r=some (.row st ty rows)) (hi:i<rows.length) (hds:zlU (σ.eval q).cells=some ds)
  (h1:(σ.eval q).cells.all AV.one=true) (hn:(σ.eval q).cells.length=P.cellsOf t) (h0:P.cellsOf t≠0) (hfit:j+ds.length<=st) :
  OpOk P A o σ (σ.setBlk r (some (.row st ty (rows.set i (zv (rows.getD i []) j ds))))) .dead:=by
 refine zhN fun g a w hk=>?_
 obtain⟨hl,hone,hc⟩:=(hk.eval q).cells h1
 obtain⟨hdl,hdg⟩:=zex hds
 have hpe:=hk.eval p
 rw [hp] at hpe
 obtain⟨hB,arr,h2,h3,h4⟩:=hk.blk r _ hb
 have hrow:rows.getD i []=rows[i]:=by simp [List.getD_eq_getElem?_getD,hi]
 have hst:rows[i].length=st:=h3 i hi
 rw [hrow]
 have hend:i * st+st<=arr.length:=by
  by_cases hs:st=0
  ·subst hs;simp
  ·obtain⟨u,hu,_⟩:=h4 i hi (st - 1) (by omega)
   have:=(List.getElem?_eq_some_iff.1 hu).1
   omega
 have hfit':i * st+j+(a.eval q).cells.toList.length<=arr.length:=by omega
 have hr:=zhc (P:=P) (t:=t) h2 (by rw [<- hl];exact hn) h0 hone hfit'
 refine⟨g,w.setRow (g.m r) (zv arr (i * st+j) (a.eval q).cells.toList).toArray,?_,?_⟩
 ·simp only [execOp,ho,hpe.elem_eq,Sem.run_bind,hr,Result.andThen_ok,Sem.run_pure]
 ·have hb':∀ b,b≠g.m r->(w.setRow (g.m r) (zv arr (i * st+j) (a.eval q).cells.toList).toArray).heap[b]? = w.heap[b]?:=fun b hne=>setRow_other w _ _ _ hne
  have hbel:BelowX A.B A.X w (w.setRow (g.m r) (zv arr (i * st+j) (a.eval q).cells.toList).toArray):=.one (hB.imp id And.left) rfl rfl rfl (by simp) hb'
  have hF:∀ b o,g.F b o->∀ u,w.cell? ⟨b,o,none⟩=some u->(w.setRow (g.m r) (zv arr (i * st+j) (a.eval q).cells.toList).toArray).cell? ⟨b,o,none⟩=some u:=fun b o hf u hu=>(zaZ (hb' b fun e=>hk.Fblk r _ hb o (e ▸ hf))).trans hu
  refine(hk.write (k':=.row st ty (rows.set i (zv rows[i] j ds))) hb hb' (by simp) hbel ⟨_,setRow_heap w _ _ _ _ _ h2,fun k hk1=>?_,fun k hk1 l hl1=>?_⟩).1
  ·rw [List.getElem_set]
   split
   ·rw [zaj (by omega)];exact hst
   ·exact h3 k (by simpa using hk1)
  ·have hk2:k<rows.length:=by simpa using hk1
   have g2:=zbX (i:=k * st+l) hfit'
   have hl2:l<st:=by
    have:(rows.set i (zv rows[i] j ds))[k].length=st:=by
     rw [List.getElem_set]
     split
     ·rw [zaj (by omega)];exact hst
     ·exact h3 k hk2
    omega
   rw [g2]
   by_cases e:i=k
   ·subst e
    have hset:(rows.set i (zv rows[i] j ds))[i]=zv rows[i] j ds:=by simp
    have g1:=zbX (cs:=rows[i]) (xs:=ds) (j:=j) (i:=l) (by omega)
    have hlt:l<(zv rows[i] j ds).length:=by rw [zaj (by omega)];omega
    have hx:(rows.set i (zv rows[i] j ds))[i][l]=(zv rows[i] j ds)[l]:=by congr 1
    rw [hx]
    rw [List.getElem?_eq_getElem hlt] at g1
    by_cases c1:l<j
    ·rw [if_pos c1,List.getElem?_eq_getElem (by omega)] at g1
     rw [if_pos (by omega),Option.some.inj g1]
     obtain⟨u,h5,h6⟩:=h4 i hi l (by omega)
     exact⟨u,h5,h6.mono (fun _ _ h=>h) (fun b o u hf hu=>hF b o hf u hu)⟩
    ·rw [if_neg c1] at g1
     rw [if_neg (by omega)]
     by_cases c2:l<j+ds.length
     ·rw [if_pos c2,List.getElem?_eq_getElem (by omega)] at g1
      rw [if_pos (by omega),Option.some.inj g1]
      have e2:i * st+l - (i * st+j)=l - j:=by omega
      rw [e2,List.getElem?_eq_getElem (by omega)]
      exact⟨_,rfl,((hc (l - j) (by omega) (by omega)).toD (hdg (l - j) (by omega) (by omega))).mono (fun _ _ h=>h) (fun b o u hf hu=>hF b o hf u hu)⟩
     ·rw [if_neg c2,List.getElem?_eq_getElem (by omega)] at g1
      rw [if_neg (by omega),Option.some.inj g1]
      obtain⟨u,h5,h6⟩:=h4 i hi l (by omega)
      exact⟨u,h5,h6.mono (fun _ _ h=>h) (fun b o u hf hu=>hF b o hf u hu)⟩
   ·have hx:(rows.set i (zv rows[i] j ds))[k]=rows[k]:=by rw [List.getElem_set,if_neg e]
    have hlk:l<rows[k].length:=by rw [h3 k hk2];exact hl2
    have hx2:(rows.set i (zv rows[i] j ds))[k][l]=rows[k][l]:=by congr 1
    rw [hx2]
    obtain⟨u,h5,h6⟩:=h4 k hk2 l hlk
    have hne:¬ (i * st+j<=k * st+l/\k * st+l<i * st+j+(a.eval q).cells.toList.length):=by
     rintro⟨b1,b2⟩
     rcases Nat.lt_or_gt_of_ne e with h | h
     ·have:=Nat.mul_le_mul_right st (show i+1<=k from h)
      rw [Nat.add_mul] at this;omega
     ·have:=Nat.mul_le_mul_right st (show k+1<=i from h)
      rw [Nat.add_mul] at this;omega
    refine⟨u,?_,h6.mono (fun _ _ h=>h) (fun b o u hf hu=>hF b o hf u hu)⟩
    by_cases c1:k * st+l<i * st+j
    ·rw [if_pos c1];exact h5
    ·rw [if_neg c1,if_neg (by omega)];exact h5
theorem zqa {w w':World} {F:Nat->Nat->Prop} {arr vs:List Value} {rows:List (List D)} {ds:List D} {st i j:Nat} (hi:i<rows.length) (h3:∀ k (h:k<rows.length),rows[k].length=st)
  (h4:∀ k (h:k<rows.length) l (hl:l<rows[k].length),∃ u,arr[k * st+l]? = some u/\Reads w F rows[k][l] u) (hfit:j+ds.length<=st) (hlen:vs.length=ds.length) (hfit':i * st+j+vs.length<=arr.length)
  (hds:∀ q (h:q<ds.length) (h':q<vs.length),Reads w F ds[q] vs[q]) (hF:∀ b o,F b o->∀ u,w.cell? ⟨b,o,none⟩=some u->w'.cell? ⟨b,o,none⟩=some u) :
  (∀ k (h:k<(rows.set i (zv rows[i] j ds)).length),(rows.set i (zv rows[i] j ds))[k].length=st) /\
   ∀ k (h:k<(rows.set i (zv rows[i] j ds)).length) l (hl:l<(rows.set i (zv rows[i] j ds))[k].length),∃ u,(zv arr (i * st+j) vs)[k * st+l]? = some u/\Reads w' F (rows.set i (zv rows[i] j ds))[k][l] u:=by
 have hst:=h3 i hi
 have hrow:∀ k (h:k<(rows.set i (zv rows[i] j ds)).length),(rows.set i (zv rows[i] j ds))[k].length=st:=fun k hk1=>by
  rw [List.getElem_set]
  split
  ·rw [zaj (by omega)];exact hst
  ·exact h3 k (by simpa using hk1)
 refine⟨hrow,fun k hk1 l hl1=>?_⟩
 have hl2:l<st:=by rw [hrow k hk1] at hl1;exact hl1
 have hk2:k<rows.length:=by simpa using hk1
 have g2:=zbX (i:=k * st+l) hfit'
 rw [g2]
 by_cases e:i=k
 ·subst e
  have hset:(rows.set i (zv rows[i] j ds))[i]=zv rows[i] j ds:=by simp
  have g1:=zbX (cs:=rows[i]) (xs:=ds) (j:=j) (i:=l) (by omega)
  have hlt:l<(zv rows[i] j ds).length:=by rw [zaj (by omega)];omega
  have hx:(rows.set i (zv rows[i] j ds))[i][l]=(zv rows[i] j ds)[l]:=by congr 1
  rw [hx]
  rw [List.getElem?_eq_getElem hlt] at g1
  by_cases c1:l<j
  ·rw [if_pos c1,List.getElem?_eq_getElem (by omega)] at g1
   rw [if_pos (by omega),Option.some.inj g1]
   obtain⟨u,h5,h6⟩:=h4 i hi l (by omega)
   exact⟨u,h5,h6.mono (fun _ _ h=>h) (fun b o u hf hu=>hF b o hf u hu)⟩
  ·rw [if_neg c1] at g1
   rw [if_neg (by omega)]
   by_cases c2:l<j+ds.length
   ·rw [if_pos c2,List.getElem?_eq_getElem (by omega)] at g1
    rw [if_pos (by omega),Option.some.inj g1]
    have e2:i * st+l - (i * st+j)=l - j:=by omega
    rw [e2,List.getElem?_eq_getElem (by omega)]
    exact⟨_,rfl,(hds (l - j) (by omega) (by omega)).mono (fun _ _ h=>h) (fun b o u hf hu=>hF b o hf u hu)⟩
   ·rw [if_neg c2,List.getElem?_eq_getElem (by omega)] at g1
    rw [if_neg (by omega),Option.some.inj g1]
    obtain⟨u,h5,h6⟩:=h4 i hi l (by omega)
    exact⟨u,h5,h6.mono (fun _ _ h=>h) (fun b o u hf hu=>hF b o hf u hu)⟩
 ·have hx:(rows.set i (zv rows[i] j ds))[k]=rows[k]:=by rw [List.getElem_set,if_neg e]
  have hlk:l<rows[k].length:=by rw [h3 k hk2];exact hl2
  have hx2:(rows.set i (zv rows[i] j ds))[k][l]=rows[k][l]:=by congr 1
  rw [hx2]
  obtain⟨u,h5,h6⟩:=h4 k hk2 l hlk
  have hne:¬ (i * st+j<=k * st+l/\k * st+l<i * st+j+vs.length):=by
   rintro⟨b1,b2⟩
   rcases Nat.lt_or_gt_of_ne e with h | h
   ·have:=Nat.mul_le_mul_right st (show i+1<=k from h)
    rw [Nat.add_mul] at this;omega
   ·have:=Nat.mul_le_mul_right st (show k+1<=i from h)
    rw [Nat.add_mul] at this;omega
  refine⟨u,?_,h6.mono (fun _ _ h=>h) (fun b o u hf hu=>hF b o hf u hu)⟩
  by_cases c1:k * st+l<i * st+j
  ·rw [if_pos c1];exact h5
  ·rw [if_neg c1,if_neg (by omega)];exact h5
theorem zkj {o:Oper} {t:TypeId} {p q:Operand} {r st ver i j:Nat} {k:Tok} {rows:List (List D)} {ds:List D} (ho:o.op = .store t p q) (hp:σ.eval p = .selem r st ver i j) (hb:σ.tok r=some k) (hex:k.ex=some rows) (hst:st=k.st) (hver:k.len=ver) (hi:i<rows.length) (hds:zlU (σ.eval q).cells=some ds)
  (h1:(σ.eval q).cells.all AV.one=true) (hn:(σ.eval q).cells.length=P.cellsOf t) (h0:P.cellsOf t≠0) (hfit:j+ds.length<=st) :
  OpOk P A o σ (σ.setTok r (some ⟨k.st,k.ty,k.len,some (rows.set i (zv (rows.getD i []) j ds))⟩)) .dead:=by
 refine zhN fun g a w hk=>?_
 obtain⟨hl,hone,hc⟩:=(hk.eval q).cells h1
 obtain⟨hdl,hdg⟩:=zex hds
 have hpe:=hk.eval p
 rw [hp] at hpe
 obtain⟨b',o',hv,hb'⟩:=hpe.selem_eq
 obtain⟨hown,rfl⟩:=(hb' k.len (by simp [St.tk,hb])).2 hver.symm
 obtain⟨xs,h2,h3,h4⟩:=hk.tok r k hb
 obtain⟨h5,h6⟩:=h4 rows hex
 have hkn:k.n=rows.length:=by unfold Tok.n;rw [hex]
 have hrow:rows.getD i []=rows[i]:=by simp [List.getD_eq_getElem?_getD,hi]
 rw [hrow]
 subst hst
 rcases h2.2 with⟨e,_⟩ | ⟨gb,cap,cur,e,_,hgh,hcap,hmax,hsz,htake⟩
 ·rw [e] at hown;cases hown
 have egb:gb=b':=by
  rw [e] at hown;exact Option.some.inj hown
 subst egb
 have hend:i * k.st+k.st<=rows.length * k.st:=by
  have:=Nat.mul_le_mul_right k.st (show i+1<=rows.length from hi)
  rw [Nat.add_mul] at this;omega
 have hcs:rows.length * k.st<=cap * k.st:=Nat.mul_le_mul_right _ (by omega)
 have hcl:cur.toList.length=cap * k.st:=by simpa using hsz
 have hfit':i * k.st+j+(a.eval q).cells.toList.length<=cur.toList.length:=by omega
 have hgh':w.heap[gb]? = some (.cells cur.toList.toArray k.ty (0,0)):=by rw [Array.toArray_toList];exact hgh
 have hr:=zhc (P:=P) (t:=t) hgh' (by rw [<- hl];exact hn) h0 hone hfit'
 have hoth:∀ b,b≠gb->(w.setRow gb (zv cur.toList (i * k.st+j) (a.eval q).cells.toList).toArray).heap[b]? = w.heap[b]?:=fun b hne=>setRow_other w _ _ _ hne
 have hFne:∀ b o,g.F b o->b≠gb:=fun b o hf e=>by
  subst e
  have:=(hk.Ftok r k b hb hown o hf).1
  rw [hex] at this;cases this
 have hF:∀ b o,g.F b o->∀ u,w.cell? ⟨b,o,none⟩=some u->(w.setRow gb (zv cur.toList (i * k.st+j) (a.eval q).cells.toList).toArray).cell? ⟨b,o,none⟩=some u:=fun b o hf u hu=>(zaZ (hoth b (hFne b o hf))).trans hu
 have hxs:∀ m u,xs[m]? = some u->cur.toList[m]? = some u:=fun m u hm=>by
  rw [<- htake,List.getElem?_take] at hm
  split at hm
  ·exact hm
  ·cases hm
 have hrs:=zqa (w:=w) (w':=w) (F:=g.F) (arr:=cur.toList) (vs:=(a.eval q).cells.toList) (ds:=ds) (st:=k.st) (j:=j) hi h5 (fun k' hk' l hl'=>by
  obtain⟨u,h7,h8⟩:=h6 k' hk' l hl'
  exact⟨u,hxs _ u h7,h8⟩) hfit (by omega) hfit' (fun m hm hm'=>((hc m (by omega) (by omega)).toD (hdg m (by omega) (by omega)))) (fun _ _ _ _ h=>h)
 refine⟨_,w.setRow gb (zv cur.toList (i * k.st+j) (a.eval q).cells.toList).toArray,?_,hk.restack (k':=⟨k.st,k.ty,k.len,some (rows.set i (zv rows[i] j ds))⟩) (v':=g.tv r) (xs:=(zv cur.toList (i * k.st+j) (a.eval q).cells.toList).take (rows.length * k.st)) hb (by rw [hex];simp) (by simp) (.inr ⟨rfl,rfl⟩)
  ⟨rfl,rfl,rfl,by simp,fun b _ hne=>hoth b fun e=>hne (by rw [hown,e])⟩ ?_ (fun rows' hr'=>?_) (.inl rfl)⟩
 ·simp only [execOp,ho,hv,Sem.run_bind,hr,Result.andThen_ok,Sem.run_pure]
 ·refine⟨?_,.inr ⟨gb,cap,_,?_,Nat.zero_le _,setRow_heap w _ _ _ _ _ hgh',?_,hmax,?_,?_⟩⟩
  ·rw [List.length_take,zaj hfit'];simp [Tok.n];omega
  ·rw [e,hkn];simp [Tok.n]
  ·simp only [Tok.n,List.length_set];omega
  ·simp only [List.size_toArray,zaj hfit'];exact hcl
  ·simp [Tok.n]
 ·cases hr'
  refine⟨hrs.1,fun k' hk' l hl'=>?_⟩
  obtain⟨u,h7,h8⟩:=hrs.2 k' hk' l hl'
  refine⟨u,?_,h8⟩
  have hkl:k'<rows.length:=by simpa using hk'
  have hll:l<k.st:=by rw [hrs.1 k' hk'] at hl';exact hl'
  have:k' * k.st+l<rows.length * k.st:=by
   have:=Nat.mul_le_mul_right k.st (show k'+1<=rows.length from hkl)
   rw [Nat.add_mul] at this;omega
  rw [List.getElem?_take_of_lt this];exact h7
theorem zA {o:Oper} {x:AV} (h:∀ g a w,Ok A σ g a w->∃ v,(execOp a.eval o).run P w = .ok (.value v) w/\Has g σ.tk w x v):OpOk P A o σ σ x:=
 zaI fun g a w hk=>by
  obtain⟨v,h1,h2⟩:=h g a w hk
  exact⟨g,v,w,h1,hk,h2⟩
theorem zoV {o:Oper} {p:Operand} (ho:o.op = .move p\/o.op = .assign p):OpOk P A o σ σ (σ.eval p):=
 zA fun g a w hk=>⟨a.eval p,by rcases ho with ho | ho <;> simp [execOp,ho],hk.eval p⟩
def AV.ptr:AV->Bool
 | .box _ _ | .elem _ _ _ _ | .at_ _ | .selem _ _ _ _ _=>true
 | _=>false
theorem zom {o:Oper} {p:Operand} (ho:o.op = .nilCheck p) (hp:(σ.eval p).ptr=true):OpOk P A o σ σ (σ.eval p):=
 zA fun g a w hk=>by
  have h:=hk.eval p
  refine⟨a.eval p,?_,h⟩
  have hv:∃ b o,a.eval p = .pointer (some ⟨b,o,none⟩):=by
   cases hx:σ.eval p with
   | box r j=>rw [hx] at h;exact⟨_,_,h.box_eq⟩
   | elem r st i j=>rw [hx] at h;exact⟨_,_,h.elem_eq⟩
   | at_ cs=>rw [hx] at h;obtain⟨b,o,h1,_⟩:=h.at_eq;exact⟨b,o,h1⟩
   | selem r st ver i j=>rw [hx] at h;obtain⟨b,o,h1,_⟩:=h.selem_eq;exact⟨b,o,h1⟩
   | _=>rw [hx] at hp;cases hp
  obtain⟨b,o',hv⟩:=hv
  simp [execOp,ho,hv]
def AV.rawOf:AV->Option Value
 | .d (.raw v)=>some v
 | .agg [.d (.raw v)]=>some (.agg #[v])
 | _=>none
theorem Has.rawOf_eq {tk:Nat->Option Nat} {x:AV} {u v:Value} (h:Has g tk w x v) (hx:x.rawOf=some u):v=u:=by
 unfold AV.rawOf at hx
 split at hx
 ·cases hx;exact h.raw_eq
 ·cases hx
  obtain⟨vs,rfl,hl,hh⟩:=h.agg_eq
  match vs,hl with
  | [v'],_=>have h1:=(hh 0 (by simp) (by simp)).raw_eq;simp only [List.getElem_cons_zero] at h1;rw [h1]
 ·cases hx
theorem zmE {o:Oper} {t:TypeId} {p:Operand} {v:Value} {fs:Array Field} (ho:o.op = .makeInterface t p) (ht:P.underlying t=some (.struct fs)) (hp:(σ.eval p).rawOf=some v):OpOk P A o σ σ (.d (.raw (.iface t v))):=
 zA fun g a w hk=>⟨.iface t v,by
  have h:=run_makeInterface (P:=P) w t v (by simp [Program.concrete,ht])
  simp only [execOp,ho,(hk.eval p).rawOf_eq hp,Sem.run_bind,h,Result.andThen_ok,Sem.run_pure],.d (.raw _)⟩
theorem zon {o:Oper} {f:FuncId} {fs cs:Array Operand} (ho:o.op = .makeFunc (.func f) fs cs) (hf:fs.toList=[]):OpOk P A o σ σ (.fn f (cs.toList.map σ.eval)):=
 zA fun g a w hk=>⟨.func (.func f) #[] (cs.toList.map a.eval).toArray,by
  have e1:fs=#[]:=Array.ext' hf
  have e2:(cs.toList.map a.eval).toArray=cs.map a.eval:=by apply Array.ext';simp
  simp [execOp,ho,Instr.makeFunc,e1,e2],.fn f _ _ (by simp) fun i hi hv=>by
  rw [List.getElem_map,List.getElem_map];exact hk.eval _⟩
theorem zqo {o:Oper} {f:FuncId} {p:Operand} {fs cs:Array Operand} (ho:o.op = .makeFunc (.func f) fs cs) (hf:fs.toList=[p]) (hc:cs.toList=[]):OpOk P A o σ σ (.bnd f (σ.eval p)):=
 zA fun g a w hk=>⟨.func (.func f) #[a.eval p] #[],by
  have e1:fs=#[p]:=Array.ext' hf
  have e2:cs=#[]:=Array.ext' hc
  simp [execOp,ho,Instr.makeFunc,e1,e2],.bnd f _ _ (hk.eval p)⟩
theorem zqq {o:Oper} {p:Operand} {k:Nat} {cs:List AV} {x:AV} (ho:o.op = .extract p k) (hp:σ.eval p = .tup cs) (hx:cs[k]? = some x):OpOk P A o σ σ x:=
 zA fun g a w hk=>by
  have h1:=hk.eval p
  rw [hp] at h1
  obtain⟨vs,hv,hl,hh⟩:=h1.tup_eq
  obtain⟨hi,rfl⟩:=List.getElem?_eq_some_iff.1 hx
  refine⟨vs[k],?_,hh k hi (by omega)⟩
  have:vs[k]? = some (vs[k]'(by omega)):=List.getElem?_eq_getElem (by omega)
  simp [execOp,ho,hv,Instr.extract,this]
end
section
open Go Go.RowKit
variable {P:Program} {A:Base P} {σ:St} {g:Gh} {a:Act} {w:World}
theorem zab {t:TypeId} (h:P.cellsOf t≠0) (w:World):(sizeOf t).run P w = .ok (P.cellsOf t) w:=by
 unfold Program.cellsOf at h ⊢
 cases hi:P.info? t with
 | none=>simp [hi] at h
 | some i=>simp [sizeOf,typeInfo,hi]
def shifted (x:AV) (n:Nat):Option AV:=
 match x with
 | .box r j=>some (.box r (j+n))
 | .elem r st i j=>some (.elem r st i (j+n))
 | .selem r st ver i j=>some (.selem r st ver i (j+n))
 | .at_ cs=>some (.at_ (cs.drop n))
 | _=>none
theorem Has.shifted {tk:Nat->Option Nat} {x y:AV} {n:Nat} {v:Value} (h:Has g tk w x v) (hx:shifted x n=some y):∃ q o,v = .pointer (some ⟨q,o,none⟩)/\Has g tk w y (.pointer (some ⟨q,o+n,none⟩)):=by
 unfold Go.Proofs.YtpnjjmcimjlfkaaGreatDoor.shifted at hx
 split at hx
 ·rename_i r j;cases hx
  exact⟨_,_,h.box_eq,.box r (j+n)⟩
 ·rename_i r st i j;cases hx
  refine⟨_,_,h.elem_eq,?_⟩
  rw [Nat.add_assoc];exact .elem r st i (j+n)
 ·rename_i r st ver i j;cases hx
  obtain⟨b,o,hv,hh⟩:=h.selem_eq
  refine⟨b,o,hv,.selem r st ver i (j+n) _ _ fun m hm=>?_⟩
  obtain⟨h1,h2⟩:=hh m hm
  exact⟨h1,fun e=>⟨(h2 e).1,by rw [(h2 e).2,Nat.add_assoc]⟩⟩
 ·rename_i cs;cases hx
  obtain⟨b,o,hv,hh⟩:=h.at_eq
  refine⟨b,o,hv,.at_ _ _ _ fun k hk=>?_⟩
  simp only [List.length_drop] at hk
  have h1:=hh (n+k) (by omega)
  rw [List.getElem_drop,Nat.add_assoc];exact h1
 ·cases hx
theorem zmJ {o:Oper} {s:TypeId} {p:Operand} {k:Nat} {fs:Array Field} {f:Field} {x:AV} (ho:o.op = .fieldAddr s p k) (hs:P.underlying s=some (.struct fs)) (hf:fs[k]? = some f) (h0:P.cellsOf f.type≠0) (hx:shifted (σ.eval p) f.offset=some x):OpOk P A o σ σ x:=
 zA fun g a w hk=>by
  obtain⟨q,off,hv,hh⟩:=(hk.eval p).shifted hx
  refine⟨_,?_,hh⟩
  simp [execOp,ho,hv,Instr.fieldAt,run_underlying hs,hf,Instr.sureAddr,fieldPlace,zab h0,h0,Addr.add_lit]
theorem zuQ {o:Oper} {s:TypeId} {p:Operand} {k:Nat} {fs:Array Field} {f:Field} {cs:List AV} {x:AV} (ho:o.op = .field s p k) (hs:P.underlying s=some (.struct fs)) (hf:fs[k]? = some f) (hp:σ.eval p = .agg cs) (hx:zah P f.type (cs.drop f.offset)=some x):OpOk P A o σ σ x:=
 zA fun g a w hk=>by
  have h1:=hk.eval p
  rw [hp] at h1
  obtain⟨vs,hv,hl,hh⟩:=h1.agg_eq
  unfold zah at hx
  split at hx
  ·rename_i hb
   split at hx
   ·rename_i hn
    cases hx
    simp only [List.length_drop] at hn
    obtain⟨h2,i,hi⟩:=zey (P:=P) hb w
    refine⟨.agg ((vs.drop f.offset).take (P.cellsOf f.type)).toArray,?_,.agg _ _ (by simp;omega) fun i hi hv=>?_⟩
    ·have hsz:i.size=P.cellsOf f.type:=by simp [Program.cellsOf,hi]
     simp only [execOp,ho,hv,Instr.field,Sem.run_bind,run_underlying hs,Result.andThen_ok,hf,asAgg,Sem.run_pure,part,h2,if_pos,sizeOf,typeInfo,run_program,hi,hsz]
     simp [List.extract_toArray,List.extract_eq_take_drop]
    ·simp only [List.length_take,List.length_drop] at hi hv
     rw [List.getElem_take,List.getElem_take,List.getElem_drop,List.getElem_drop]
     exact hh _ (by omega) (by omega)
   ·cases hx
  ·rename_i hb
   obtain⟨h2,i,hi⟩:=zey (P:=P) hb w
   obtain⟨h3,rfl⟩:=List.getElem?_eq_some_iff.1 hx
   simp only [List.length_drop] at h3
   have hlt:f.offset<vs.length:=by omega
   refine⟨vs[f.offset],?_,?_⟩
   ·simp only [execOp,ho,hv,Instr.field,Sem.run_bind,run_underlying hs,Result.andThen_ok,hf,asAgg,Sem.run_pure,part,h2]
    simp [hlt]
   ·rw [List.getElem_drop];exact hh (f.offset+0) (by omega) (by omega)
  ·cases hx
def AV.rows:AV->Option (List (List D))
 | .d (.sl rows)=>some rows
 | .grow _ rows=>some rows
 | .d (.raw (.slice none 0 0))=>some []
 | _=>none
theorem Has.rows {tk:Nat->Option Nat} {x:AV} {rows:List (List D)} {v:Value} (h:Has g tk w x v) (hx:x.rows=some rows):Reads w g.F (.sl rows) v:=by
 unfold AV.rows at hx
 split at hx
 ·cases hx;exact h.sl
 ·cases hx;exact h.grow_eq.1
 ·cases hx;rw [h.raw_eq];exact .nil _ _
 ·cases hx
theorem zkb {t e:TypeId} {k:IntKind} {i:Int} {b off len cap:Nat} (ht:P.underlying t=some (.slice e)) (h0:P.cellsOf e≠0) (h1:0<=i) (h2:i<len) (w:World) :
  (Instr.indexAt t (.slice (some ⟨b,off,none⟩) len cap) (.int k i)).run P w = .ok (.pointer (some ⟨b,off+i.toNat * P.cellsOf e,none⟩)) w:=by
 simp [Instr.indexAt,run_underlying ht,asIntOf,zab h0,h1,h2,Addr.add_lit]
theorem zlu {o:Oper} {t e:TypeId} {p q:Operand} {k:IntKind} {i:Int} {rows:List (List D)} (ho:o.op = .indexAddr t p q) (ht:P.underlying t=some (.slice e)) (h0:P.cellsOf e≠0) (hp:(σ.eval p).rows=some rows) (hq:σ.eval q = .d (.raw (.int k i)))
  (h1:0<=i) (h2:i<(rows.length:Nat)) (h3:(rows.getD i.toNat []).length=P.cellsOf e):OpOk P A o σ σ (.at_ (rows.getD i.toNat [])):=
 zA fun g a w hk=>by
  have hr:=(hk.eval p).rows hp
  have hi:=hk.eval q
  rw [hq] at hi
  have hlt:i.toNat<rows.length:=by omega
  have hrow:rows.getD i.toNat []=rows[i.toNat]:=by simp [List.getD_eq_getElem?_getD,hlt]
  rw [hrow] at h3 ⊢
  obtain⟨p',cap,hv,_⟩:=hr.slice
  rw [hv] at hr
  obtain⟨b,off,rfl,hc⟩:=hr.row i.toNat hlt h3
  refine⟨_,by simp only [execOp,ho,hv,hi.raw_eq,Sem.run_bind,zkb ht h0 h1 h2,Result.andThen_ok,Sem.run_pure],.at_ _ _ _ fun j hj=>hc j hj⟩
theorem zpY {t e:TypeId} {m:Nat} {k:IntKind} {i:Int} {b off:Nat} (ht:P.underlying t=some (.array m e)) (h0:P.cellsOf e≠0) (h1:0<=i) (h2:i<m) (w:World) :
  (Instr.indexAt t (.pointer (some ⟨b,off,none⟩)) (.int k i)).run P w = .ok (.pointer (some ⟨b,off+i.toNat * P.cellsOf e,none⟩)) w:=by
 simp [Instr.indexAt,Instr.sureAddr,run_underlying ht,asIntOf,zab h0,h1,h2,Addr.add_lit]
theorem zmI {o:Oper} {t e:TypeId} {m:Nat} {p q:Operand} {k:IntKind} {i:Int} {r j:Nat} (ho:o.op = .indexAddr t p q) (ht:P.underlying t=some (.array m e)) (h0:P.cellsOf e≠0) (hp:σ.eval p = .box r j) (hq:σ.eval q = .d (.raw (.int k i))) (h1:0<=i) (h2:i<m) :
  OpOk P A o σ σ (.box r (j+i.toNat * P.cellsOf e)):=
 zA fun g a w hk=>by
  have e1:=hk.eval p
  have e2:=hk.eval q
  rw [hp] at e1
  rw [hq] at e2
  have hb:=e1.box_eq
  refine⟨_,?_,.box r _⟩
  simp only [execOp,ho,hb,e2.raw_eq,Sem.run_bind,zpY ht h0 h1 h2,Result.andThen_ok,Sem.run_pure]
theorem zmH {o:Oper} {t e:TypeId} {p q:Operand} {k:IntKind} {i:Int} {r len:Nat} (ho:o.op = .indexAddr t p q) (ht:P.underlying t=some (.slice e)) (h0:P.cellsOf e≠0) (hp:σ.eval p = .own r len) (hq:σ.eval q = .d (.raw (.int k i)))
  (h1:0<=i) (h2:i<(len:Nat)):OpOk P A o σ σ (.elem r (P.cellsOf e) i.toNat 0):=
 zA fun g a w hk=>by
  have hr:=hk.eval p
  have hi:=hk.eval q
  rw [hp] at hr
  rw [hq] at hi
  obtain⟨cap,hv,_⟩:=hr.own_eq
  have hh:=Has.elem (g:=g) (tk:=σ.tk) (w:=w) r (P.cellsOf e) i.toNat 0
  refine⟨.pointer (some ⟨g.m r,0+i.toNat * P.cellsOf e,none⟩),by simp only [execOp,ho,hv,hi.raw_eq,Sem.run_bind,zkb ht h0 h1 h2,Result.andThen_ok,Sem.run_pure],?_⟩
  rw [Nat.zero_add];exact hh
theorem zmG {o:Oper} {t e:TypeId} {p q:Operand} {k:IntKind} {i:Int} {r st ver off len:Nat} (ho:o.op = .indexAddr t p q) (ht:P.underlying t=some (.slice e)) (h0:P.cellsOf e≠0) (hst:st=P.cellsOf e) (hp:σ.eval p = .stk r st ver off len) (hq:σ.eval q = .d (.raw (.int k i)))
  (h1:0<=i) (h2:i<(len:Nat)):OpOk P A o σ σ (.selem r st ver (off+i.toNat) 0):=
 zA fun g a w hk=>by
  subst hst
  have hr:=hk.eval p
  have hi:=hk.eval q
  rw [hp] at hr
  rw [hq] at hi
  obtain⟨pp,cap,hv,_,hpp,hver⟩:=hr.stk_eq
  obtain⟨b,o',rfl⟩:=hpp (by omega)
  refine⟨.pointer (some ⟨b,o'+i.toNat * P.cellsOf e,none⟩),by simp only [execOp,ho,hv,hi.raw_eq,Sem.run_bind,zkb ht h0 h1 h2,Result.andThen_ok,Sem.run_pure],?_⟩
  refine .selem r _ ver _ 0 _ _ fun n hn=>?_
  obtain⟨h3,h4⟩:=hver n hn
  refine⟨h3,fun he=>?_⟩
  obtain⟨h5,h6⟩:=h4 he
  cases htv:g.tv r with
  | slice pa n' c'=>
   rw [htv] at h5
   cases pa with
   | none=>simp only [zfd,Option.map_none] at h5;injection h5 with h7;cases h7
   | some aa=>
    simp only [zfd,Option.map_some] at h5
    injection h5 with h7
    injection h7 with h7
    have hown:=(hk.tokz r n hn)
    rw [htv] at hown
    obtain⟨b2,rfl⟩:=hown aa rfl
    rw [Addr.add_lit] at h7
    injection h7 with h8 h9
    subst h8
    refine⟨rfl,?_⟩
    rw [h9,Nat.zero_add,Nat.add_mul,Nat.add_zero]
  | _=>rw [htv] at h5;cases h5
def AV.len:AV->Option Nat
 | .d (.raw (.string s))=>some s.size
 | .own _ len=>some len
 | .stk _ _ _ _ len=>some len
 | x=>x.rows.map (·.length)
theorem zjs {o:Oper} {t:TypeId} {p:Operand} {n:Nat} (ho:o.op = .call { callee:=.builtin .len,args:=#[p],argTypes:=#[t] }) (hx:(σ.eval p).len=some n) (ht:(P.underlying t=some .string/\∃ s,σ.eval p = .d (.raw (.string s)))\/((∃ e,P.underlying t=some (.slice e))/\∀ s,σ.eval p ≠ .d (.raw (.string s)))):OpOk P A o σ σ (.d (.raw (.int .i64 n))):=
 zA fun g a w hk=>by
  have hp:=hk.eval p
  rcases ht with⟨ht,s,hs⟩ | ⟨⟨e,ht⟩,hs⟩
  ·rw [hs] at hp hx
   cases hx
   refine⟨_,?_,.d (.raw _)⟩
   simp [execOp,ho,resolve,invoke,builtin,Builtin.len_,run_underlying ht,hp.raw_eq,goInt]
  ·have key:∃ q cap,a.eval p = .slice q n cap:=by
    unfold AV.len at hx
    split at hx
    ·rename_i s hs';exact absurd hs' (hs s)
    ·rename_i r len hs'
     cases hx
     rw [hs'] at hp
     obtain⟨cap,hv,_⟩:=hp.own_eq
     exact⟨_,cap,hv⟩
    ·rename_i r st ver off len hs'
     cases hx
     rw [hs'] at hp
     obtain⟨p',cap,hv,_⟩:=hp.stk_eq
     exact⟨_,cap,hv⟩
    ·cases hr:(σ.eval p).rows with
     | none=>simp [hr] at hx
     | some rows=>
      simp only [hr,Option.map_some,Option.some.injEq] at hx
      obtain⟨q,cap,hv,_⟩:=(hp.rows hr).slice
      exact⟨q,cap,by rw [hv,hx]⟩
   obtain⟨q,cap,hv⟩:=key
   refine⟨_,?_,.d (.raw _)⟩
   simp [execOp,ho,resolve,invoke,builtin,Builtin.len_,run_underlying ht,hv,goInt]
def za (n:Int):Prop:=-9223372036854775808<=n/\n<=9223372036854775807
def znP (op:BinOp) (x y:Value):Option (Value × Prop):=
 match x,y with
 | .int .i64 a,.int .i64 b=>
  match op with
  | .add=>some (.int .i64 (a+b),za (a+b))
  | .sub=>some (.int .i64 (a - b),za (a - b))
  | .mul=>some (.int .i64 (a * b),za (a * b))
  | .quo=>some (.int .i64 (a.tdiv b),b≠0/\za (a.tdiv b))
  | .rem=>some (.int .i64 (a.tmod b),b≠0)
  | .eql=>some (.bool (decide (a=b)),True)
  | .neq=>some (.bool (decide (¬ a=b)),True)
  | .lss=>some (.bool (decide (a<b)),True)
  | .leq=>some (.bool (decide (a<=b)),True)
  | .gtr=>some (.bool (decide (b<a)),True)
  | .geq=>some (.bool (decide (b<=a)),True)
  | _=>none
 | .int k a,.int k' b=>
  if k=k' then
   match op with
   | .add=>some (.int k (k.wrap (a+b)),True)
   | .sub=>some (.int k (k.wrap (a - b)),True)
   | .mul=>some (.int k (k.wrap (a * b)),True)
   | .quo=>some (.int k (k.wrap (a.tdiv b)),b≠0)
   | .rem=>some (.int k (a.tmod b),b≠0)
   | .eql=>some (.bool (decide (a=b)),True)
   | .neq=>some (.bool (decide (¬ a=b)),True)
   | .lss=>some (.bool (decide (a<b)),True)
   | .leq=>some (.bool (decide (a<=b)),True)
   | .gtr=>some (.bool (decide (b<a)),True)
   | .geq=>some (.bool (decide (b<=a)),True)
   | _=>none
  else none
 | .string a,.string b=>
  match op with
  | .add=>some (.string (a++b),((a.size+b.size:Nat):Int)<=9223372036854775807)
  | .eql=>some (.bool (decide (a=b)),True)
  | .neq=>some (.bool (decide (¬ a=b)),True)
  | .lss=>some (.bool (Op.bytesLess a.data.toList b.data.toList),True)
  | .geq=>some (.bool (!Op.bytesLess a.data.toList b.data.toList),True)
  | .leq=>some (.bool (Op.bytesLess a.data.toList b.data.toList || decide (a=b)),True)
  | .gtr=>some (.bool !(Op.bytesLess a.data.toList b.data.toList || decide (a=b)),True)
  | _=>none
 | _,_=>none
theorem zff {n:Int} (h:za n):IntKind.i64.wrap n=n:=by
 rw [IntKind.wrap_i64];unfold za at h;omega
theorem zEn (a b:ByteArray):(a.toList == b.toList)=decide (a=b):=by
 rw [ByteArray.toList_eq,ByteArray.toList_eq,Bool.eq_iff_iff]
 simp only [beq_iff_eq,decide_eq_true_eq]
 constructor
 ·intro h
  cases a;cases b
  congr 1
  exact Array.ext' h
 ·rintro rfl;rfl
theorem zzw {op:BinOp} {t:TypeId} {x y v:Value} {n:Prop} (h:znP op x y=some (v,n)) (hn:n) (w:World):(binOp op t x y).run P w = .ok v w:=by
 unfold znP at h
 split at h
 ·split at h <;> (first | cases h) <;> simp only [binOp,ne_eq,not_true_eq_false,if_false,Op.intArith,Op.intDiv,Op.intCmp]
  all_goals first
   | (rw [zff hn];rfl)
   | (rw [if_neg hn.1,zff hn.2];rfl)
   | (rw [if_neg hn];rfl)
   | rfl
   | (rw [decide_not];rfl)
 ·split at h
  ·rename_i hk
   subst hk
   split at h <;> (first | cases h) <;> simp only [binOp,ne_eq,not_true_eq_false,if_false,Op.intArith,Op.intDiv,Op.intCmp]
   all_goals first
    | rfl
    | (rw [if_neg hn];rfl)
    | (rw [decide_not];rfl)
  ·cases h
 ·split at h <;> (first | cases h) <;> simp only [binOp,Op.stringOp,zEn,<- ByteArray.toList_eq]
  all_goals first
   | rfl
   | (rw [if_neg (by have h1:IntKind.i64.max=9223372036854775807:=rfl;rw [h1];omega)];rfl)
   | (rw [decide_not];rfl)
 ·cases h
theorem zuV {o:Oper} {op:BinOp} {t t':TypeId} {p q:Operand} {x y v:Value} {n:Prop} (ho:o.op = .binOp op t p q t') (hp:σ.eval p = .d (.raw x)) (hq:σ.eval q = .d (.raw y)) (h:znP op x y=some (v,n)) (hn:n):OpOk P A o σ σ (.d (.raw v)):=
 zA fun g a w hk=>by
  have h1:=hk.eval p
  have h2:=hk.eval q
  rw [hp] at h1
  rw [hq] at h2
  refine⟨v,?_,.d (.raw v)⟩
  have hg:(eqGuard op t p q x y).run P w = .ok () w:=by
   unfold eqGuard
   unfold znP at h
   split at h
   ·cases op <;> first | rfl | (simp at h;done)
   ·cases op <;> first | rfl | (simp at h;done)
   ·cases op <;> first | rfl | (simp at h;done)
   ·cases h
  simp only [execOp,ho,h1.raw_eq,h2.raw_eq,Sem.run_bind,hg,Result.andThen_ok,zzw (P:=P) h hn,Sem.run_pure]
theorem zzR {o:Oper} {t:TypeId} {p:Operand} {b:Bool} (ho:o.op = .unOp .not t p) (hp:σ.eval p = .d (.raw (.bool b))):OpOk P A o σ σ (.d (.raw (.bool !b))):=
 zA fun g a w hk=>by
  have h1:=hk.eval p
  rw [hp] at h1
  exact⟨_,by simp only [execOp,ho,h1.raw_eq,Op.unary,Sem.run_bind,Sem.run_pure,Result.andThen_ok],.d (.raw _)⟩
theorem zzS {o:Oper} {t:TypeId} {p:Operand} {n:Int} (ho:o.op = .unOp .neg t p) (hp:σ.eval p = .d (.raw (.int .i64 n))) (hn:za (-n)):OpOk P A o σ σ (.d (.raw (.int .i64 (-n)))):=
 zA fun g a w hk=>by
  have h1:=hk.eval p
  rw [hp] at h1
  have hw:IntKind.i64.wrap (0 - n) = -n:=by rw [Int.zero_sub];exact zff hn
  exact⟨_,by simp only [execOp,ho,h1.raw_eq,Op.unary,Op.intArith,Sem.run_bind,Sem.run_pure,Result.andThen_ok,hw],.d (.raw _)⟩
theorem zqr {o:Oper} {s t:TypeId} {p:Operand} {k k':IntKind} {n:Int} (ho:o.op = .convert s t p) (hs:P.underlying s=some (.int k')) (ht:P.underlying t=some (.int k)) (hp:σ.eval p = .d (.raw (.int k' n))):OpOk P A o σ σ (.d (.raw (.int k (k.wrap n)))):=
 zA fun g a w hk=>by
  have h1:=hk.eval p
  rw [hp] at h1
  exact⟨_,by simp [execOp,ho,h1.raw_eq,convert,run_underlying hs,run_underlying ht,Conv.intToInt],.d (.raw _)⟩
theorem zop {o:Oper} {t:TypeId} {p q:Operand} {s:ByteArray} {k:IntKind} {i:Int} (ho:o.op = .index t p q) (ht:P.underlying t=some .string) (hp:σ.eval p = .d (.raw (.string s))) (hq:σ.eval q = .d (.raw (.int k i))) (h1:0<=i) (h2:i<(s.size:Nat)) :
  OpOk P A o σ σ (.d (.raw (.int .u8 (s.data.toList.getD i.toNat 0).toNat))):=
 zA fun g a w hk=>by
  have e1:=hk.eval p
  have e2:=hk.eval q
  rw [hp] at e1
  rw [hq] at e2
  have hlt:i.toNat<s.size:=by omega
  have hb:s[i.toNat]? = some (s.data.toList.getD i.toNat 0):=by
   have:i.toNat<s.data.size:=hlt
   simp [getElem?_pos,hlt,List.getD_eq_getElem?_getD]
   rfl
  refine⟨_,?_,.d (.raw _)⟩
  simp [execOp,ho,e1.raw_eq,e2.raw_eq,Instr.index,asIntOf,run_underlying ht,h1,hb]
end
section
open Go Go.RowKit
variable {P:Program} {A:Base P} {σ:St} {g:Gh} {a:Act} {w:World}
theorem zwr {st i j:Nat} (h:j<st):(i * st+j) % st=j:=by rw [Nat.add_comm,Nat.add_mul_mod_self_right,Nat.mod_eq_of_lt h]
theorem zxK {o:Oper} {t e:TypeId} {p q:Operand} {n:Nat} {k k':IntKind} {z:Value} {me:Nat} (ho:o.op = .makeSlice t p q) (ht:P.underlying t=some (.slice e)) (hz:zx P e=some z) (hst:z.cells.toList.length=P.cellsOf e)
  (hp:σ.eval p = .d (.raw (.int k n))) (hq:σ.eval q = .d (.raw (.int k' n))) (hb:P.bytesOf e * n<=281474976710656) (h63:n<=9223372036854775807) (hm:σ.free A me) :
  OpOk P A o σ (σ.setBlk me (some (.row (P.cellsOf e) e (List.replicate n (z.cells.toList.map Value.toD))))) (.own me n):=by
 refine zaI fun g a w hk=>?_
 have e1:=hk.eval p
 have e2:=hk.eval q
 rw [hp] at e1
 rw [hq] at e2
 obtain⟨i,hi,hzi⟩:∃ i,P.info? e=some i/\i.zero=some z:=by
  unfold zx at hz
  cases hi:P.info? e with
  | none=>simp [hi] at hz
  | some i=>exact⟨i,rfl,by simpa [hi] using hz⟩
 have hsz:i.size=P.cellsOf e:=by simp [Program.cellsOf,hi]
 have hby:i.bytes=P.bytesOf e:=by simp [Program.bytesOf,hi]
 have hb':(i.bytes:Int) * (n:Int)<=281474976710656:=by
  have h:((P.bytesOf e * n:Nat):Int)<=281474976710656:=by omega
  rw [hby];rwa [Int.natCast_mul] at h
 have hr:=run_make (P:=P) w t e i z ht hi hzi k k' n n (by omega) (by omega) hb' (by omega)
 simp only [Int.toNat_natCast,hsz] at hr
 have hx:=(hk.grown (w':=w.alloc (.cells (madeCells z.cells (n * P.cellsOf e)) e)) ((Below.refl _ _).alloc (Nat.le_refl _) _) g.F (fun _ _ h=>h) (fun _ _ h=>.inl h)).2
 refine⟨_,_,_,by simp only [execOp,ho,e1.raw_eq,e2.raw_eq,Sem.run_bind,hr,Result.andThen_ok,Sem.run_pure];rfl,hk.newBlk (k:=.row (P.cellsOf e) e (List.replicate n (z.cells.toList.map Value.toD))) hm rfl ⟨(madeCells z.cells (n * P.cellsOf e)).toList,heap_alloc_new w _,fun i hi=>by simpa using hst,fun i hi j hj=>?_⟩,?_⟩
 ·simp only [List.length_replicate] at hi
  simp only [List.getElem_replicate,List.length_map] at hj ⊢
  have hlt:i * P.cellsOf e+j<n * P.cellsOf e:=by
   have:=Nat.mul_le_mul_right (P.cellsOf e) (show i+1<=n from hi)
   rw [Nat.add_mul] at this;omega
  have hzs:z.cells.size=P.cellsOf e:=by simpa using hst
  refine⟨z.cells.toList[j],?_,?_⟩
  ·have hms:i * P.cellsOf e+j<(madeCells z.cells (n * P.cellsOf e)).toList.length:=by simpa [madeCells] using hlt
   rw [List.getElem?_eq_getElem hms]
   simp only [madeCells,Array.getElem_toList,Array.getElem_map,Array.getElem_range,hzs,zwr (show j<P.cellsOf e by omega),Option.some.injEq]
   exact getElem!_pos z.cells j (by omega)
  ·rw [List.getElem_map];exact zhI _ _ _
 ·have h0:=Has.own (g:={ g with m:=zcZ g.m me w.heap.size }) (tk:=(σ.setBlk me (some (.row (P.cellsOf e) e (List.replicate n (z.cells.toList.map Value.toD))))).tk) (w:=w.alloc (.cells (madeCells z.cells (n * P.cellsOf e)) e)) me n n (Nat.le_refl _)
  simpa only [zp] using h0
theorem Ok.newTok (h:Ok A σ g a w) {me st n cap:Nat} {ty:TypeId} {arr:Array Value} {rows:List (List D)} (hm:σ.free A me) (hn:rows.length=n) (hcap:n<=cap) (hml:cap<=maxLen) (hsz:arr.size=cap * st) (hrow:∀ i (h:i<rows.length),rows[i].length=st)
  (hc:∀ i (hi:i<rows.length) j (hj:j<rows[i].length),∃ u,arr[i * st+j]? = some u/\Reads w g.F rows[i][j] u) :
  ∃ g',Ok A (σ.setTok me (some ⟨st,ty,n,none⟩)) g' a (w.alloc (.cells arr ty))/\Has g' (σ.setTok me (some ⟨st,ty,n,none⟩)).tk (w.alloc (.cells arr ty)) (.grow me rows) (.slice (some ⟨w.heap.size,0,none⟩) n cap):=by
 subst hn
 have hb:Below w.heap.size w (w.alloc (.cells arr ty)):=(Below.refl _ _).alloc (Nat.le_refl _) _
 obtain⟨h1,e1⟩:=h.grown hb (fun b o=>g.F b o\/(b=w.heap.size/\o<rows.length * st)) (fun _ _ h=>.inl h) (fun b o hf=>by
  rcases hf with h1 | h1
  ·exact .inl h1
  ·right;simp;omega)
 have hlt:rows.length * st<=arr.size:=by rw [hsz];exact Nat.mul_le_mul_right _ hcap
 have hown:∃ xs,(w.alloc (.cells arr ty)).ownsRow A.B ty st (.slice (some ⟨w.heap.size,0,none⟩) rows.length cap) rows.length xs:=
  ⟨arr.toList.take (rows.length * st),by simp;omega,.inr ⟨_,cap,arr,rfl,h.hB,heap_alloc_new w _,hcap,hml,hsz,rfl⟩⟩
 have h2:=h1.addTok (k:=⟨st,ty,rows.length,none⟩) (v:=.slice (some ⟨w.heap.size,0,none⟩) rows.length cap) hm (.of_own rfl hown) (fun x hx o hf=>by
  have e:w.heap.size=x:=Option.some.inj hx
  subst e
  rcases hf with h3 | h3
  ·have:=h.Fb _ o h3;omega
  ·exact⟨rfl,h3.2⟩) (fun r k x hr hx e=>by
  have e1:w.heap.size=x:=Option.some.inj hx
  have e2:x=g.m r:=e
  have:=(h.blk r k hr).2.lt;omega) (fun r k x hr hx e=>by
  have e1:w.heap.size=x:=Option.some.inj hx
  have:=(h.tok r k hr).lt e;omega)
 refine⟨_,h2,.grow me rows _ ?_ fun n' hn'=>?_⟩
 ·refine Reads.mk hcap hrow fun i hi j hj=>?_
  obtain⟨u,hu,hr⟩:=hc i hi j hj
  have hlt2:i * st+j<rows.length * st:=by
   have h3:=hrow i hi
   have:=Nat.mul_le_mul_right st (show i+1<=rows.length from hi)
   rw [Nat.add_mul] at this;omega
  refine⟨.inr ⟨rfl,by omega⟩,u,?_,hr.mono (fun _ _ h=>.inl h) e1.hw⟩
  rw [Nat.zero_add]
  exact(cell_of_row _ _ _ _ _ _ (heap_alloc_new w (.cells arr ty))).trans hu
 ·have:(σ.setTok me (some ⟨st,ty,rows.length,none⟩)).tk me=some rows.length:=by simp [St.tk,St.tok_setTok]
  rw [this] at hn'
  cases hn'
  exact⟨Nat.le_refl _,fun _=>by simp only [zp]⟩
def D.one:D->Bool
 | .raw v=>v.oneCell'
 | .sl _=>true
theorem Reads.one {x:D} {v:Value} {F:Nat->Nat->Prop} (h:Reads w F x v) (h1:x.one=true):v.oneCell'=true:=by
 cases h with
 | raw v=>exact h1
 | nil=>rfl
 | rows=>rfl
theorem Reads.news {rows:List (List D)} {v:Value} {F:Nat->Nat->Prop} {st:Nat} (h:Reads w F (.sl rows) v) (hst:∀ r ∈ rows,r.length=st) (h1:∀ r ∈ rows,∀ x ∈ r,D.one x=true) (hne:rows≠[]) :
  ∃ (b off cap:Nat) (news:List Value),v = .slice (some ⟨b,off,none⟩) rows.length cap/\news.length=rows.length * st/\(∀ j u,news[j]? = some u->w.cell? ((⟨b,off,none⟩:Addr).add j)=some u)/\(∀ u ∈ news,u.oneCell'=true) /\
   ∀ i (hi:i<rows.length) j (hj:j<rows[i].length),∃ u,news[i * st+j]? = some u/\Reads w F rows[i][j] u:=by
 cases h with
 | nil=>exact absurd rfl hne
 | rows st' rows b off cap val hcap hpos hrow hcell hsub=>
  obtain rfl:st'=st:=(hrow 0 hpos).symm.trans (hst _ (List.getElem_mem hpos))
  have hval:∀ m,m<rows.length * st'->m / st'<rows.length/\m % st'<st'/\m / st' * st'+m % st'=m:=fun m hm=>by
   have h0:0<st':=by
    rcases Nat.eq_zero_or_pos st' with h | h
    ·subst h;simp at hm
    ·exact h
   refine⟨(Nat.div_lt_iff_lt_mul h0).2 hm,Nat.mod_lt _ h0,?_⟩
   rw [Nat.mul_comm];exact Nat.div_add_mod m st'
  refine⟨b,off,cap,(List.range (rows.length * st')).map fun m=>val (m / st') (m % st'),rfl,by simp,fun j u hu=>?_,fun u hu=>?_,fun i hi j hj=>?_⟩
  ·obtain⟨hj,rfl⟩:=List.getElem?_eq_some_iff.1 hu
   simp only [List.length_map,List.length_range] at hj
   obtain⟨c1,c2,c3⟩:=hval j hj
   rw [Addr.add_lit,List.getElem_map,List.getElem_range]
   have:=(hcell _ _ c1 c2).2
   rw [Nat.add_assoc,c3] at this
   exact this
  ·obtain⟨m,hm,rfl⟩:=List.mem_map.1 hu
   simp only [List.mem_range] at hm
   obtain⟨c1,c2,c3⟩:=hval m hm
   exact(hsub (m / st') c1 (m % st') (by rw [hrow _ c1];exact c2)).one (h1 _ (List.getElem_mem c1) _ (List.getElem_mem _))
  ·have hj':j<st':=by rw [hrow i hi] at hj;exact hj
   have hlt:i * st'+j<rows.length * st':=by
    have:=Nat.mul_le_mul_right st' (show i+1<=rows.length from hi)
    rw [Nat.add_mul] at this;omega
   refine⟨val i j,?_,hsub i hi j hj⟩
   rw [List.getElem?_map,List.getElem?_range hlt]
   simp only [Option.map_some,Option.some.injEq]
   have h0:0<st':=by omega
   rw [zwr hj',Nat.add_comm,Nat.add_mul_div_right _ _ h0,Nat.div_eq_of_lt hj',Nat.zero_add]
end
end Go.Proofs.YtpnjjmcimjlfkaaGreatDoor
