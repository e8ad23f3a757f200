/- Texts of this proof, part 5: what the proof uses of them. -/
import Derived.Test.YtpnjjmcimjlfkaaGreatDoorRad
set_option maxRecDepth 100000
set_option maxHeartbeats 64000000
namespace Go.Proofs.YtpnjjmcimjlfkaaGreatDoor
section
open Go Go.RowKit
def zeg {P:Program} (A:Base P) (K:Exit->St->Prop):Exit->Act->World->Prop:=fun e a w=>∃ σ g,K e σ/\Ok A σ g a w
def SatC (P:Program) (A:Base P) (c:Code) (σ:St) (K:Exit->St->Prop):Prop:=∀ g a w,Ok A σ g a w->c.wpIn A.fe 0 P (zeg A K) a w
def zgV (P:Program) (A:Base P) (all l:List Oper) (σ:St) (K:Exit->St->Prop):Prop:=∀ g a w,Ok A σ g a w->wpListIn A.fe 0 P all.toArray (zeg A K) l a w
def zkI (P:Program) (A:Base P) (all:List Oper) (o:Oper) (rest:List Oper) (σ:St) (K:Exit->St->Prop):Prop:=∀ g a w,Ok A σ g a w->wpE A o a w (wpListIn A.fe 0 P all.toArray (zeg A K) rest) (zeg A K)
inductive Itm where
 | code (c:Code)
 | blk (id:Nat)
 | inv (R:St->Prop)
 | off (k:Nat)
def stk (P:Program) (A:Base P):List Itm->(Exit->St->Prop)->Exit->St->Prop
 | [],Q,e,σ=>Q e σ
 | .code c :: s,Q,.normal,σ=>SatC P A c σ (stk P A s Q)
 | .code _ :: s,Q,e,σ=>stk P A s Q e σ
 | .blk id :: s,Q,.exit id',σ=>if id'=id then stk P A s Q .normal σ else stk P A s Q (.exit id') σ
 | .blk _ :: s,Q,e,σ=>stk P A s Q e σ
 | .inv R :: _,_,.normal,σ=>R σ
 | .inv _ :: s,Q,e,σ=>stk P A s Q e σ
 | .off _ :: s,Q,e,σ=>stk P A s Q e σ
def zoX:List Itm->Nat
 | []=>0
 | .off k :: _=>k
 | .code _ :: s=>zoX s
 | .blk _ :: s=>zoX s
 | .inv _ :: s=>zoX s
inductive Md where
 | code (c:Code)
 | cond (b:Bool) (x y:Code)
 | ops (all rest:List Oper) (i base:Nat)
 | gop (b:Option Bool) (all:List Oper) (o:Oper) (rest:List Oper) (i base:Nat)
 | exe (f:Option FuncId) (all:List Oper) (o:Oper) (rest:List Oper) (i base:Nat)
 | res (r:Option (AV × Eff × Prop)) (all:List Oper) (o:Oper) (rest:List Oper) (i base:Nat)
 | dops (all rest:List Oper) (i base:Nat) (acc:List RI)
 | dgop (b:Option Bool) (all:List Oper) (o:Oper) (rest:List Oper) (i base:Nat) (acc:List RI)
 | dexe (f:Option FuncId) (all:List Oper) (o:Oper) (rest:List Oper) (i base:Nat) (acc:List RI)
 | dres (r:Option (AV × Eff × Prop)) (all:List Oper) (o:Oper) (rest:List Oper) (i base:Nat) (acc:List RI)
 | norm
 | exit (id:Nat)
def znI (σ:St):Op->Option FuncId
 | .call c=>match c.callee with
  | .value p=>match σ.eval p with
   | .fn f _=>some f
   | .bnd f _=>some f
   | _=>none
  | _=>none
 | .next _ _=>some 0
 | .panic _=>some 0
 | _=>none
def znZ (P:Program) (A:Base P) (all rest:List Oper) (i base:Nat) (acc:List RI) (s:List Itm) (σ:St) (Q:Exit->St->Prop):Prop:=
 P.follows .mixedOrders=true/\∃ rs σn,Runs P A.N all base rest i σ rs σn/\chk all base (acc++rs)=true/\stk P A s Q .normal σn
def zhd (σ:St) (o:Oper) (x:AV) (e:Eff):RI:=⟨x,e,(zag o.op).map σ.eval⟩
def zbL (P:Program) (A:Base P):Md->List Itm->St->(Exit->St->Prop)->Prop
 | .code c,s,σ,Q=>SatC P A c σ (stk P A s Q)
 | .cond b x y,s,σ,Q=>(b=true->SatC P A x σ (stk P A s Q))/\(b=false->SatC P A y σ (stk P A s Q))
 | .ops all rest _ _,s,σ,Q=>zgV P A all rest σ (stk P A s Q)
 | .gop b all o rest _ _,s,σ,Q=>∃ c,b=some c/\(c=true->zkI P A all o rest σ (stk P A s Q))/\(c=false->zgV P A all rest (σ.put o.dst (.d (.raw undef))) (stk P A s Q))/\(c=false->zaf A.N o=true)
 | .exe _ all o rest _ _,s,σ,Q=>zkI P A all o rest σ (stk P A s Q)
 | .res r all o rest i base,s,σ,Q=>r=zO P σ (base+i) o.op->zkI P A all o rest σ (stk P A s Q)
 | .dops all rest i base acc,s,σ,Q=>P.follows .mixedOrders=true->znZ P A all rest i base acc s σ Q
 | .dgop b all o rest i base acc,s,σ,Q=>b=zcX A.N all σ o->P.follows .mixedOrders=true->znZ P A all (o :: rest) i base acc s σ Q
 | .dexe _ all o rest i base acc,s,σ,Q=>zcX A.N all σ o=some true->P.follows .mixedOrders=true->znZ P A all (o :: rest) i base acc s σ Q
 | .dres r all o rest i base acc,s,σ,Q=>r=zO P σ (base+i) o.op->zcX A.N all σ o=some true->P.follows .mixedOrders=true->znZ P A all (o :: rest) i base acc s σ Q
 | .norm,s,σ,Q=>stk P A s Q .normal σ
 | .exit id,s,σ,Q=>stk P A s Q (.exit id) σ
def go (P:Program) (A:Base P):Nat->Md->List Itm->St->(Exit->St->Prop)->Prop
 | 0,m,s,σ,Q=>zbL P A m s σ Q
 | n+1,.code .skip,s,σ,Q=>go P A n .norm s σ Q
 | n+1,.code (.region id ops false),s,σ,Q=>go P A n (.ops ops.toList ops.toList 0 (id * 1000+zoX s)) s σ Q
 | n+1,.code (.region id ops true),s,σ,Q=>if n<100000 then P.follows .mixedOrders=true/\go P A n (.dops ops.toList ops.toList 0 (id * 1000+zoX s) []) s σ Q else zbL P A (.code (.region id ops true)) s σ Q
 | n+1,.code (.seq x y),s,σ,Q=>go P A n (.code x) (.code y :: s) σ Q
 | n+1,.code (.cond c x y),s,σ,Q=>match σ.eval c with
  | .d (.raw (.bool b))=>go P A n (.cond b x y) s σ Q
  | _=>False
 | n+1,.code (.block id c),s,σ,Q=>go P A n (.code c) (.blk id :: s) σ Q
 | _+1,.code (.loop c),s,σ,Q=>zbL P A (.code (.loop c)) s σ Q
 | _+1,.code (.rangeFunc f ps x y),s,σ,Q=>zbL P A (.code (.rangeFunc f ps x y)) s σ Q
 | n+1,.code (.exit id),s,σ,Q=>go P A n (.exit id) s σ Q
 | _+1,.code (.scope c),s,σ,Q=>zbL P A (.code (.scope c)) s σ Q
 | _+1,.code (.label l),s,σ,Q=>zbL P A (.code (.label l)) s σ Q
 | _+1,.code (.goto l),s,σ,Q=>zbL P A (.code (.goto l)) s σ Q
 | _+1,.code .ret,_,σ,Q=>Q .ret σ
 | _+1,.code (.refuse y),s,σ,Q=>zbL P A (.code (.refuse y)) s σ Q
 | n+1,.cond true x _,s,σ,Q=>go P A n (.code x) s σ Q
 | n+1,.cond false _ y,s,σ,Q=>go P A n (.code y) s σ Q
 | n+1,.ops _ [] _ _,s,σ,Q=>go P A n .norm s σ Q
 | n+1,.ops all (o :: rest) i base,s,σ,Q=>go P A n (.gop (zcX A.N all σ o) all o rest i base) s σ Q
 | _+1,.gop none _ _ _ _ _,_,_,_=>False
 | n+1,.gop (some true) all o rest i base,s,σ,Q=>go P A n (.exe (znI σ o.op) all o rest i base) s σ Q
 | n+1,.gop (some false) all o rest i base,s,σ,Q=>zaf A.N o=true/\go P A n (.ops all rest (i+1) base) s (σ.put o.dst (.d (.raw undef))) Q
 | _+1,.exe (some f) all o rest i base,s,σ,Q=>zbL P A (.exe (some f) all o rest i base) s σ Q
 | n+1,.exe none all o rest i base,s,σ,Q=>go P A n (.res (zO P σ (base+i) o.op) all o rest i base) s σ Q
 | _+1,.res none _ _ _ _ _,_,_,_=>False
 | n+1,.res (some (x,e,need)) all o rest i base,s,σ,Q=>need/\(zfQ o.op=true->σ.ment (base+i)=false)/\zaf A.N o=true/\go P A n (.ops all rest (i+1) base) s ((σ.app e).put o.dst x) Q
 | n+1,.dops all [] _ base acc,s,σ,Q=>chk all base acc=true/\go P A n .norm s σ Q
 | n+1,.dops all (o :: rest) i base acc,s,σ,Q=>go P A n (.dgop (zcX A.N all σ o) all o rest i base acc) s σ Q
 | _+1,.dgop none _ _ _ _ _ _,_,_,_=>False
 | n+1,.dgop (some true) all o rest i base acc,s,σ,Q=>go P A n (.dexe (znI σ o.op) all o rest i base acc) s σ Q
 | n+1,.dgop (some false) all o rest i base acc,s,σ,Q=>zaf A.N o=true/\go P A n (.dops all rest (i+1) base (acc++[zhd σ o (.d (.raw undef)) .none])) s (σ.put o.dst (.d (.raw undef))) Q
 | _+1,.dexe (some f) all o rest i base acc,s,σ,Q=>zbL P A (.dexe (some f) all o rest i base acc) s σ Q
 | n+1,.dexe none all o rest i base acc,s,σ,Q=>go P A n (.dres (zO P σ (base+i) o.op) all o rest i base acc) s σ Q
 | _+1,.dres none _ _ _ _ _ _,_,_,_=>False
 | n+1,.dres (some (x,e,need)) all o rest i base acc,s,σ,Q=>need/\(zfQ o.op=true->σ.ment (base+i)=false)/\zaf A.N o=true/\go P A n (.dops all rest (i+1) base (acc++[zhd σ o x e])) s ((σ.app e).put o.dst x) Q
 | _+1,.norm,[],σ,Q=>Q .normal σ
 | n+1,.norm,.code c :: s,σ,Q=>go P A n (.code c) s σ Q
 | n+1,.norm,.blk _ :: s,σ,Q=>go P A n .norm s σ Q
 | _+1,.norm,.inv R :: _,σ,_=>R σ
 | n+1,.norm,.off _ :: s,σ,Q=>go P A n .norm s σ Q
 | _+1,.exit id,[],σ,Q=>Q (.exit id) σ
 | n+1,.exit id,.code _ :: s,σ,Q=>go P A n (.exit id) s σ Q
 | n+1,.exit id,.inv _ :: s,σ,Q=>go P A n (.exit id) s σ Q
 | n+1,.exit id,.off _ :: s,σ,Q=>go P A n (.exit id) s σ Q
 | n+1,.exit id,.blk id' :: s,σ,Q=>if id=id' then go P A n .norm s σ Q else go P A n (.exit id) s σ Q
variable {P:Program} {A:Base P} {σ:St} {g:Gh} {a:Act} {w:World}
theorem ziT (Q:Exit->St->Prop):∀ s:List Itm,stk P A s Q .ret σ=Q .ret σ
 | []=>rfl
 | .code _ :: s=>ziT Q s
 | .blk _ :: s=>ziT Q s
 | .inv _ :: s=>ziT Q s
 | .off _ :: s=>ziT Q s
theorem zkO {id:Nat} {ops:Array Oper} {K:Exit->St->Prop} (h:zgV P A ops.toList ops.toList σ K):SatC P A (.region id ops false) σ K:=by
 intro g a w hk
 refine wpIn_region_list ?_
 have:=h g a w hk
 simpa using this
theorem zrO {x y:Code} {K:Exit->St->Prop} (h:SatC P A x σ (fun e σ'=>match e with | .normal=>SatC P A y σ' K | e=>K e σ')):SatC P A (.seq x y) σ K:=by
 intro g a w hk
 refine wpIn_seq (wpIn_mono (h g a w hk) fun e a' w' hq=>?_)
 obtain⟨σ',g',h1,h2⟩:=hq
 cases e with
 | normal=>exact h1 g' a' w' h2
 | exit | goto | ret | panic | outgrown=>exact⟨σ',g',h1,h2⟩
theorem zmc {id:Nat} {c:Code} {K:Exit->St->Prop} (h:SatC P A c σ (fun e σ'=>match e with | .exit id'=>if id'=id then K .normal σ' else K (.exit id') σ' | e=>K e σ')):SatC P A (.block id c) σ K:=by
 intro g a w hk
 refine wpIn_block (wpIn_mono (h g a w hk) fun e a' w' hq=>?_)
 obtain⟨σ',g',h1,h2⟩:=hq
 cases e with
 | exit id'=>
  simp only [Exit.inBlock]
  by_cases hid:id'=id
  ·rw [if_pos hid];simp only [hid,if_true] at h1;exact⟨σ',g',h1,h2⟩
  ·rw [if_neg hid];simp only [hid,if_false] at h1;exact⟨σ',g',h1,h2⟩
 | normal | goto | ret | panic | outgrown=>exact⟨σ',g',h1,h2⟩
theorem SatC.mono {c:Code} {K K':Exit->St->Prop} (h:SatC P A c σ K) (hq:∀ e σ,K e σ->K' e σ):SatC P A c σ K':=fun g a w hk=>
 wpIn_mono (h g a w hk) fun _ _ _ ⟨σ',g',h1,h2⟩=>⟨σ',g',hq _ _ h1,h2⟩
theorem zfH {all:List Oper} {o:Oper} {rest:List Oper} {K:Exit->St->Prop} {b:Bool} (hg:zcX A.N all σ o=some b) (ht:b=true->zkI P A all o rest σ K) (hf:b=false->zgV P A all rest (σ.put o.dst (.d (.raw undef))) K) (hd:b=false->zaf A.N o=true):zgV P A all (o :: rest) σ K:=by
 intro g a w hk
 have hw:=zhS hk hg
 unfold wpListIn
 rw [hw]
 cases b with
 | true=>exact ht rfl g a w hk
 | false=>exact⟨fun _ _=>trivial,hf rfl g _ w (hk.put o.dst (zaO (hd rfl)) (.d (.raw _)))⟩
theorem zem {all:List Oper} {o:Oper} {rest:List Oper} {σ':St} {x:AV} {K:Exit->St->Prop} (h:OpOk P A o σ σ' x) (hd:zaf A.N o=true) (hr:zgV P A all rest (σ'.put o.dst x) K):zkI P A all o rest σ K:=
 fun g a w hk=>h g a w hk _ _ fun g' _v w' h1 h2=>hr g' _ w' (h1.put o.dst (zaO hd) h2)
theorem zoH {all:List Oper} {o:Oper} {rest:List Oper} {f:FuncId} {c:Call} {p:Operand} {cs asL:List AV} {res:AV} {K:Exit->St->Prop} (ho:o.op = .call c) (hp:c.callee = .value p) (hf:σ.eval p = .fn f cs) (ha:zU (c.args.toList.map σ.eval++cs)=some asL) (hc:Con P f asL res) (hd:zaf A.N o=true)
  (hr:zgV P A all rest (σ.put o.dst res) K):zkI P A all o rest σ K:=zem (zmM ho hp hf ha hc) hd hr
theorem zmb {id:Nat} {ops:Array Oper} {base:Nat} {s:List Itm} {Q:Exit->St->Prop} (h:znZ P A ops.toList ops.toList 0 base [] s σ Q):SatC P A (.region id ops true) σ (stk P A s Q):=by
 obtain⟨hP,rs,σn,hr,hch,hn⟩:=h
 rw [List.nil_append] at hch
 intro g a w hk
 refine wpIn_region_any hP ?_
 have:=zFp (Q:=zeg A (stk P A s Q)) hr hch (fun g a w hk=>⟨σn,g,hn,hk⟩) ops.size (Array.replicate ops.size false) σ g a { w with drawn:=w.drawn+1 } (by simp) (by simp) (fun k _ hx=>by simp [Array.getD_eq_getD_getElem?,Array.getElem?_replicate] at hx;split at hx <;> simp at hx) ?_ hk.drew
 ·simpa using this
 ·have e:(fun j=>(Array.replicate ops.size false).getD j false)=fun _=>false:=funext fun j=>by
   simp only [Array.getD_eq_getD_getElem?,Array.getElem?_replicate];split <;> rfl
  rw [e]
  have e2:∀ {V:Type} (wr:Nat->Option V) (v0:V) n,lst wr (fun _=>false) v0 n=v0:=fun wr v0 n=>by
   induction n with
   | zero=>rfl
   | succ n ih=>rw [lst];simpa using ih
  exact⟨fun t=>(e2 _ _ _).symm,fun t=>(e2 _ _ _).symm,fun t=>(e2 _ _ _).symm⟩
theorem zpv {all:List Oper} {o:Oper} {rest:List Oper} {i base:Nat} {acc:List RI} {s:List Itm} {Q:Exit->St->Prop} (hg:zcX A.N all σ o=some false) (hd:zaf A.N o=true) (h:znZ P A all rest (i+1) base (acc++[zhd σ o (.d (.raw undef)) .none]) s (σ.put o.dst (.d (.raw undef))) Q):znZ P A all (o :: rest) i base acc s σ Q:=by
 obtain⟨hP,rs,σn,h1,h2,h3⟩:=h
 exact⟨hP,_,σn,.skip hg hd h1,by rw [List.append_assoc] at h2;exact h2,h3⟩
theorem zdL {all:List Oper} {o:Oper} {rest:List Oper} {i base:Nat} {acc:List RI} {s:List Itm} {Q:Exit->St->Prop} {x:AV} {e:Eff} (hg:zcX A.N all σ o=some true) (hr:Rob P σ (base+i) o x e) (hd:zaf A.N o=true) (h:znZ P A all rest (i+1) base (acc++[zhd σ o x e]) s ((σ.app e).put o.dst x) Q):znZ P A all (o :: rest) i base acc s σ Q:=by
 obtain⟨hP,rs,σn,h1,h2,h3⟩:=h
 exact⟨hP,_,σn,.op hg hr hd h1,by rw [List.append_assoc] at h2;exact h2,h3⟩
theorem zar:∀ (n:Nat) (m:Md) (s:List Itm) (σ:St) (Q:Exit->St->Prop),go P A n m s σ Q->zbL P A m s σ Q
 | 0,_,_,_,_,h=>by rw [go] at h;exact h
 | n+1,.code c,s,σ,Q,h=>by
  cases c with
  | skip=>rw [go] at h;exact fun g a w hk=>wpIn_skip ⟨σ,g,zar n _ _ _ _ h,hk⟩
  | region id ops draw=>
   cases draw with
   | false=>rw [go] at h;exact zkO (zar n _ _ _ _ h)
   | true=>
    rw [go] at h
    split at h
    ·exact zmb (zar n _ _ _ _ h.2 h.1)
    ·exact h
  | seq x y=>
   rw [go] at h
   refine zrO ((zar n _ _ _ _ h).mono fun e σ' hq=>?_)
   cases e <;> exact hq
  | cond c x y=>
   rw [go] at h
   split at h
   ·rename_i b hc
    have h1:=zar n _ _ _ _ h
    intro g a w hk
    have he:=hk.eval c
    rw [hc] at he
    exact wpIn_cond_split he.raw_eq (fun hb=>h1.1 hb g a w hk) (fun hb=>h1.2 hb g a w hk)
   ·cases h
  | block id c=>
   rw [go] at h
   refine zmc ((zar n _ _ _ _ h).mono fun e σ' hq=>?_)
   cases e <;> exact hq
  | loop c=>rw [go] at h;exact h
  | rangeFunc f ps x y=>rw [go] at h;exact h
  | exit id=>rw [go] at h;exact fun g a w hk=>wpIn_exit ⟨σ,g,zar n _ _ _ _ h,hk⟩
  | scope c=>rw [go] at h;exact h
  | label l=>rw [go] at h;exact h
  | goto l=>rw [go] at h;exact h
  | ret=>rw [go] at h;exact fun g a w hk=>wpIn_ret ⟨σ,g,by rw [ziT];exact h,hk⟩
  | refuse y=>rw [go] at h;exact h
 | n+1,.cond true x y,s,σ,Q,h=>by rw [go] at h;exact⟨fun _=>zar n _ _ _ _ h,(fun e=>by cases e)⟩
 | n+1,.cond false x y,s,σ,Q,h=>by rw [go] at h;exact⟨(fun e=>by cases e),fun _=>zar n _ _ _ _ h⟩
 | n+1,.ops all [] i base,s,σ,Q,h=>by rw [go] at h;exact fun g a w hk=>wpListIn_nil ⟨σ,g,zar n _ _ _ _ h,hk⟩
 | n+1,.ops all (o :: rest) i base,s,σ,Q,h=>by
  rw [go] at h
  obtain⟨c,h1,h2,h3,h4⟩:=zar n _ _ _ _ h
  exact zfH h1 h2 h3 h4
 | n+1,.gop none all o rest i base,s,σ,Q,h=>by rw [go] at h;cases h
 | n+1,.gop (some true) all o rest i base,s,σ,Q,h=>by
  rw [go] at h
  exact⟨true,rfl,fun _=>zar n _ _ _ _ h,(fun e=>by cases e),(fun e=>by cases e)⟩
 | n+1,.gop (some false) all o rest i base,s,σ,Q,h=>by
  rw [go] at h
  exact⟨false,rfl,fun e=>(by cases e),fun _=>zar n _ _ _ _ h.2,fun _=>h.1⟩
 | n+1,.exe (some f) all o rest i base,s,σ,Q,h=>by rw [go] at h;exact h
 | n+1,.exe none all o rest i base,s,σ,Q,h=>by rw [go] at h;exact zar n _ _ _ _ h rfl
 | n+1,.res none all o rest i base,s,σ,Q,h=>by rw [go] at h;cases h
 | n+1,.res (some (x,e,need)) all o rest i base,s,σ,Q,h=>by
  rw [go] at h
  obtain⟨h1,h2,h3,h4⟩:=h
  exact fun hr=>zem (zjo hr.symm h1 (fun hm=>St.free_of (h2 hm))) h3 (zar n _ _ _ _ h4)
 | n+1,.dops all [] i base acc,s,σ,Q,h=>by
  rw [go] at h
  exact fun hP=>⟨hP,[],σ,.nil _ _,by rw [List.append_nil];exact h.1,zar n _ _ _ _ h.2⟩
 | n+1,.dops all (o :: rest) i base acc,s,σ,Q,h=>by rw [go] at h;exact zar n _ _ _ _ h rfl
 | n+1,.dgop none all o rest i base acc,s,σ,Q,h=>by rw [go] at h;cases h
 | n+1,.dgop (some true) all o rest i base acc,s,σ,Q,h=>by rw [go] at h;exact fun hb=>zar n _ _ _ _ h hb.symm
 | n+1,.dgop (some false) all o rest i base acc,s,σ,Q,h=>by rw [go] at h;exact fun hb hP=>zpv hb.symm h.1 (zar n _ _ _ _ h.2 hP)
 | n+1,.dexe (some f) all o rest i base acc,s,σ,Q,h=>by rw [go] at h;exact h
 | n+1,.dexe none all o rest i base acc,s,σ,Q,h=>by rw [go] at h;exact zar n _ _ _ _ h rfl
 | n+1,.dres none all o rest i base acc,s,σ,Q,h=>by rw [go] at h;cases h
 | n+1,.dres (some (x,e,need)) all o rest i base acc,s,σ,Q,h=>by
  rw [go] at h
  exact fun hr hg hP=>zdL hg (.inl ⟨need,hr.symm,h.1,h.2.1⟩) h.2.2.1 (zar n _ _ _ _ h.2.2.2 hP)
 | n+1,.norm,[],σ,Q,h=>by rw [go] at h;exact h
 | n+1,.norm,.code c :: s,σ,Q,h=>by rw [go] at h;exact zar n (.code c) s σ Q h
 | n+1,.norm,.blk id :: s,σ,Q,h=>by rw [go] at h;exact zar n .norm s σ Q h
 | n+1,.norm,.inv R :: s,σ,Q,h=>by rw [go] at h;exact h
 | n+1,.norm,.off k :: s,σ,Q,h=>by rw [go] at h;exact zar n .norm s σ Q h
 | n+1,.exit id,[],σ,Q,h=>by rw [go] at h;exact h
 | n+1,.exit id,.inv R :: s,σ,Q,h=>by rw [go] at h;exact zar n (.exit id) s σ Q h
 | n+1,.exit id,.off k :: s,σ,Q,h=>by rw [go] at h;exact zar n (.exit id) s σ Q h
 | n+1,.exit id,.code c :: s,σ,Q,h=>by rw [go] at h;exact zar n (.exit id) s σ Q h
 | n+1,.exit id,.blk id' :: s,σ,Q,h=>by
  rw [go] at h
  show if id=id' then stk P A s Q .normal σ else stk P A s Q (.exit id) σ
  split at h
  ·rename_i hid;rw [if_pos hid];exact zar n .norm s σ Q h
  ·rename_i hid;rw [if_neg hid];exact zar n (.exit id) s σ Q h
end
section
open Go Go.RowKit
variable {P:Program} {A:Base P} {σ:St} {g:Gh} {a:Act} {w:World}
def zgP {α:Type} (f:Nat->α):List Nat->List (Nat × α)
 | []=>[]
 | t :: ts=>(t,f t) :: zgP f ts
def St.keep (σ:St) (ts bs ks:List Nat):St:=⟨zgP σ.get ts,zgP σ.blk bs,zgP σ.tok ks⟩
theorem zgy {α:Type} (f:Nat->α):∀ (ts:List Nat) (t:Nat),zk (zgP f ts) t=none\/zk (zgP f ts) t=some (f t)
 | [],_=>.inl rfl
 | u :: ts,t=>by
  unfold zgP zk
  by_cases h:u=t
  ·subst h;simp
  ·simp only [h,if_false];exact zgy f ts t
theorem Ok.keep (h:Ok A σ g a w) (ts bs ks:List Nat):Ok A (σ.keep ts bs ks) g a w:=by
 refine h.sub (fun t=>?_) (fun r=>?_) (fun r=>?_)
 ·unfold St.keep
  rcases zgy σ.get ts t with h1 | h1
  ·left;simp [St.get,h1]
  ·right;rw [St.get];simp [h1]
 ·unfold St.keep
  rcases zgy σ.blk bs r with h1 | h1
  ·left;simp [St.blk,h1]
  ·right;rw [St.blk];simp [h1]
 ·unfold St.keep
  rcases zgy σ.tok ks r with h1 | h1
  ·left;simp [St.tok,h1]
  ·right;rw [St.tok];simp [h1]
theorem zc {c:Code} {s:List Itm} {Q:Exit->St->Prop} (ts bs ks:List Nat) (I:Nat->St->Prop) (n0:Nat) (h0:I n0 (σ.keep ts bs ks))
  (round:∀ n σ,I n σ->SatC P A c σ (stk P A (.inv (fun σ'=>∃ n',n'<n/\I n' (σ'.keep ts bs ks)) :: s) Q)):SatC P A (.loop c) σ (stk P A s Q):=by
 intro g a w hk b k cs hro hb hr
 have key:∀ n a w,(∃ σ g,I n σ/\Ok A σ g a w) ->
   ∃ e a' w',zeg A (stk P A s Q) e a' w'/\ArrivesIn (Machine.fenced P A.fe) P (lone (b.atR a (.code c :: .inLoop c :: k)) cs w) b k cs e a' w':=by
  intro n
  induction n using Nat.strongRecOn with
  | _ n ih=>
   rintro a w ⟨σ1,g1,hI,hk1⟩
   obtain⟨e,a₁,w₁,⟨σ2,g2,hq,hk2⟩,harr⟩:=round n σ1 hI g1 a w hk1 b (.inLoop c :: k) cs hro hb hr
   cases e with
   | normal=>
    obtain⟨n',hlt,hI'⟩:=hq
    obtain⟨e₂,a₂,w₂,hq₂,harr₂⟩:=ih n' hlt a₁ w₁ ⟨_,g2,hI',hk2.keep ts bs ks⟩
    exact⟨e₂,a₂,w₂,hq₂,.of_steps (StepsIn.trans harr (.one (fenced_calm hb hr rfl) stepR_inLoop)) harr₂⟩
   | exit id=>exact⟨_,a₁,w₁,⟨σ2,g2,hq,hk2⟩,.pass (x:=.inLoop c) rfl (fun _ _=>.inl (by simp)) harr⟩
   | goto l=>exact⟨_,a₁,w₁,⟨σ2,g2,hq,hk2⟩,.pass (x:=.inLoop c) rfl (fun _ _=>.inl (by simp)) harr⟩
   | ret=>exact⟨_,a₁,w₁,⟨σ2,g2,hq,hk2⟩,.pass (x:=.inLoop c) rfl (fun _ _=>.inl (by simp)) harr⟩
   | panic ch=>exact⟨_,a₁,w₁,⟨σ2,g2,hq,hk2⟩,.pass (x:=.inLoop c) rfl (fun _ _=>.inl (by simp)) harr⟩
   | outgrown=>exact⟨_,a₁,w₁,⟨σ2,g2,hq,hk2⟩,.pass (x:=.inLoop c) rfl (fun _ _=>.inl (by simp)) harr⟩
 obtain⟨e,a',w',hq,harr⟩:=key n0 a w ⟨_,g,h0,hk.keep ts bs ks⟩
 exact⟨e,a',w',hq,.of_steps (.one (fenced_calm hb hr rfl) stepR_loop) harr⟩
theorem zen {σ':St} {c:Code} {K:Exit->St->Prop} (hs:∀ g a w,Ok A σ g a w->∃ g',Ok A σ' g' a w) (h:SatC P A c σ' K):SatC P A c σ K:=fun g a w hk=>by
 obtain⟨g',hk'⟩:=hs g a w hk
 exact h g' a w hk'
theorem Ok.nilTok (h:Ok A σ g a w) {q st:Nat} {e:TypeId} (hq:σ.ment q=false):Ok A (σ.setTok q (some ⟨st,e,0,none⟩)) { g with tv:=zcZ g.tv q (.slice none 0 0) } a w /\
  Has { g with tv:=zcZ g.tv q (.slice none 0 0) } (σ.setTok q (some ⟨st,e,0,none⟩)).tk w (.grow q []) (.slice none 0 0):=by
 refine⟨h.addTok (k:=⟨st,e,0,none⟩) (St.free_of hq) (.of_own rfl ⟨[],World.ownsRow_nil _ _ _ _⟩) (fun x hx=>by cases hx) (fun _ _ x _ hx=>by cases hx) (fun _ _ x _ hx=>by cases hx),.grow q [] _ (.nil _ _) fun n hn=>?_⟩
 simp only [St.tk,St.tok_setTok,if_pos,Option.map_some,Option.some.injEq] at hn
 subst hn
 exact⟨by simp,fun _=>by simp only [zp]⟩
theorem zbG (q r j st:Nat) (e:TypeId) {ty:TypeId} {cs:List AV} {c:Code} {K:Exit->St->Prop} (hq:σ.ment q=false) (hb:σ.blk r=some (.cell ty cs)) (hj:cs[j]? = some (.d (.raw (.slice none 0 0))))
  (h:SatC P A c ((σ.setTok q (some ⟨st,e,0,none⟩)).setBlk r (some (.cell ty (cs.set j (.grow q []))))) K):SatC P A c σ K:=by
 refine zen (fun g a w hk=>?_) h
 obtain⟨h1,h2⟩:=hk.nilTok (st:=st) (e:=e) hq
 obtain⟨hB,arr,c1,c2,c3⟩:=h1.blk r _ hb
 obtain⟨hjl,hje⟩:=List.getElem?_eq_some_iff.1 hj
 refine⟨_,(h1.write (k':=.cell ty (cs.set j (.grow q []))) (w':=w) hb (fun _ _=>rfl) rfl (.of (Below.refl _ _)) ⟨arr,c1,by simpa using c2,fun i hi hi'=>?_⟩).1⟩
 have hi2:i<cs.length:=by simpa using hi
 rw [List.getElem_set]
 split
 ·rename_i e1;subst e1
  have h3:=c3 j hjl hi'
  rw [hje] at h3
  rw [h3.raw_eq];exact h2
 ·exact c3 i hi2 hi'
theorem zgp (q t st:Nat) (e:TypeId) {c:Code} {K:Exit->St->Prop} (hq:σ.ment q=false) (ht:σ.get t = .d (.raw (.slice none 0 0)))
  (h:SatC P A c ((σ.setTok q (some ⟨st,e,0,none⟩)).put (some t) (.grow q [])) K):SatC P A c σ K:=by
 refine zen (fun g a w hk=>?_) h
 obtain⟨h1,h2⟩:=hk.nilTok (st:=st) (e:=e) hq
 have he:=h1.env t
 have hg:(σ.setTok q (some ⟨st,e,0,none⟩)).get t = .d (.raw (.slice none 0 0)):=ht
 rw [hg] at he
 refine⟨_,h1.below,h1.hB,h1.F0,h1.Fn,h1.Fb,h1.defers,h1.size,fun n=>?_,h1.blk,h1.Fblk,h1.inj,h1.tok,h1.Ftok,h1.tokblk,h1.toktok,h1.fix,h1.hist⟩
 rw [St.get_put]
 split
 ·rename_i e1
  have e2:t=n:=Option.some.inj e1
  subst e2
  rw [he.raw_eq];exact h2
 ·exact h1.env n
mutual
def fin (σ:St):AV->Option AV
 | .d (.raw v)=>some (.d (Value.toD v))
 | .d (.sl rows)=>some (.d (.sl rows))
 | .grow _ rows=>some (.d (.sl rows))
 | .agg cs=>(zlx σ cs).map .agg
 | .tup cs=>(zlx σ cs).map .tup
 | .fn f cs=>(zlx σ cs).map (.fn f)
 | .mapd ks cs=>(zlx σ cs).map (.mapd ks)
 | .at_ cs=>some (.at_ cs)
 | .own r len=>match σ.blk r with
  | some (.row _ _ rows)=>if zdq r=true then none else if rows.length=len then some (.d (.sl rows)) else none
  | _=>none
 | _=>none
def zlx (σ:St):List AV->Option (List AV)
 | []=>some []
 | x :: xs=>match fin σ x,zlx σ xs with
  | some y,some ys=>some (y :: ys)
  | _,_=>none
end
theorem zfU:∀ {xs ys:List AV},zlx σ xs=some ys->xs.length=ys.length/\∀ i (hi:i<xs.length) (hy:i<ys.length),fin σ xs[i]=some ys[i]
 | [],ys,h=>by cases h;simp
 | x :: xs,ys,h=>by
  unfold zlx at h
  split at h
  ·rename_i y ys' h1 h2
   cases h
   obtain⟨h3,h4⟩:=zfU h2
   refine⟨by simp [h3],fun i hi hy=>?_⟩
   cases i with
   | zero=>simpa using h1
   | succ i=>simpa using h4 i (by simpa using hi) (by simpa using hy)
  ·cases h
def finF {P:Program} (A:Base P) (σ:St) (g:Gh) (w:World):Nat->Nat->Prop:=fun b o=>A.F0 b o\/(A.B<=b/\b<w.heap.size/\(∀ r bl,σ.blk r=some bl->zdq r=true->b≠g.m r)/\∀ r k,σ.tok r=some k->k.ex≠none->(g.tv r).ownBlock≠some b)
theorem zlH {b o:Nat} (h:finF A σ g w b o):A.F0 b o\/(A.B<=b/\b<w.heap.size):=h.imp id fun h=>⟨h.1,h.2.1⟩
theorem zch.mono {F F':Nat->Nat->Prop} {x:AV} {v:Value} (h:zch w F x v) (hF:∀ b o,F b o->F' b o):zch w F' x v:=
 Has.mono (New:=fun _=>False) (g:=gh0 F) (g':=gh0 F') ⟨hF,fun _ _ _ _ h=>h,fun _ _=>rfl,(fun _ _ n' hn'=>by cases hn'),fun _ _ _ _ h=>h⟩ h fun _ _=>id
theorem Ok.finF (hk:Ok A σ g a w):∀ b o,g.F b o->Go.Proofs.YtpnjjmcimjlfkaaGreatDoor.finF A σ g w b o:=fun b o hf=>by
 rcases hk.Fn b o hf with h | h
 ·exact .inl h
 ·exact .inr ⟨h,hk.Fb b o hf,fun r bl hr _ e=>hk.Fblk r bl hr o (e ▸ hf),fun r k hr hx e=>hx (hk.Ftok r k b hr e o hf).1⟩
theorem Ok.fin (hk:Ok A σ g a w) {x y:AV} {v:Value} (h:Has g σ.tk w x v) (hx:Go.Proofs.YtpnjjmcimjlfkaaGreatDoor.fin σ x=some y):zch w (Go.Proofs.YtpnjjmcimjlfkaaGreatDoor.finF A σ g w) y v:=by
 generalize htk:σ.tk=tk at h
 induction h generalizing y with
 | dead | box | bnd | elem | mp | stk | selem=>simp [Go.Proofs.YtpnjjmcimjlfkaaGreatDoor.fin] at hx
 | at_ cs b o h=>
  simp only [Go.Proofs.YtpnjjmcimjlfkaaGreatDoor.fin,Option.some.injEq] at hx
  subst hx
  exact .at_ cs b o fun k hk'=>⟨hk.finF _ _ (h k hk').1,by
   obtain⟨_,u,h2,h3⟩:=h k hk'
   exact⟨u,h2,h3.mono hk.finF (fun _ _ _ _ h=>h)⟩⟩
 | fn f cs vs hl _ ih=>
  rw [Go.Proofs.YtpnjjmcimjlfkaaGreatDoor.fin] at hx
  cases hc:zlx σ cs with
  | none=>simp [hc] at hx
  | some ys=>
   simp only [hc,Option.map_some,Option.some.injEq] at hx
   subst hx
   obtain⟨h1,h2⟩:=zfU hc
   exact .fn f ys vs (by omega) fun i hi hv=>ih i (by omega) hv (h2 i (by omega) hi)
 | mapd ks cs b es hF hh hl hl2 hkk _ ih=>
  rw [Go.Proofs.YtpnjjmcimjlfkaaGreatDoor.fin] at hx
  cases hc:zlx σ cs with
  | none=>simp [hc] at hx
  | some ys=>
   simp only [hc,Option.map_some,Option.some.injEq] at hx
   subst hx
   obtain⟨h1,h2⟩:=zfU hc
   exact .mapd ks ys b es (hk.finF _ _ hF) hh hl (by omega) hkk fun i hi hv=>ih i (by omega) hv (h2 i (by omega) hi)
 | d h=>
  have h':=h.mono (F':=Go.Proofs.YtpnjjmcimjlfkaaGreatDoor.finF A σ g w) hk.finF (fun _ _ _ _ h=>h)
  cases h' with
  | raw v=>simp only [Go.Proofs.YtpnjjmcimjlfkaaGreatDoor.fin,Option.some.injEq] at hx;subst hx;exact .d (zhI _ _ _)
  | nil p cap=>simp only [Go.Proofs.YtpnjjmcimjlfkaaGreatDoor.fin,Option.some.injEq] at hx;subst hx;exact .d (.nil _ _)
  | rows st rows b off cap val h1 h2 h3 h4 h5=>simp only [Go.Proofs.YtpnjjmcimjlfkaaGreatDoor.fin,Option.some.injEq] at hx;subst hx;exact .d (.rows st rows b off cap val h1 h2 h3 h4 h5)
 | grow r rows v h _=>simp only [Go.Proofs.YtpnjjmcimjlfkaaGreatDoor.fin,Option.some.injEq] at hx;subst hx;exact .d (h.mono hk.finF (fun _ _ _ _ h=>h))
 | own r len cap hc=>
  rw [Go.Proofs.YtpnjjmcimjlfkaaGreatDoor.fin] at hx
  split at hx
  ·rename_i st ty rows hb
   split at hx
   ·cases hx
   rename_i hln
   split at hx
   ·rename_i hl
    cases hx
    obtain⟨hB,arr,c1,c2,c3⟩:=hk.blk r _ hb
    replace hB:=hB.resolve_right fun h=>hln (by have h2:=h.2;unfold zho at h2;rw [Bool.or_eq_true] at h2;exact h2.resolve_left fun h3=>by cases h3)
    refine .d ?_
    rw [<- hl]
    refine Reads.mk (st:=st) (by omega) c2 fun i hi j hj=>?_
    obtain⟨u,h1,h2⟩:=c3 i hi j hj
    refine⟨.inr ⟨hB,(hk.blk r _ hb).2.lt,fun r' bl hr' hl' e=>hk.inj r _ r' bl hb hr' (fun e2=>hln (e2 ▸ hl')) e,fun r' k hr' _ e=>hk.tokblk r' k r _ _ hr' hb e rfl⟩,u,?_,h2.mono hk.finF (fun _ _ _ _ h=>h)⟩
    simp [World.cell?,c1,h1]
   ·cases hx
  ·cases hx
 | agg cs vs hl _ ih=>
  rw [Go.Proofs.YtpnjjmcimjlfkaaGreatDoor.fin] at hx
  cases hc:zlx σ cs with
  | none=>simp [hc] at hx
  | some ys=>
   simp only [hc,Option.map_some,Option.some.injEq] at hx
   subst hx
   obtain⟨h1,h2⟩:=zfU hc
   exact .agg ys vs (by omega) fun i hi hv=>ih i (by omega) hv (h2 i (by omega) hi)
 | tup cs vs hl _ ih=>
  rw [Go.Proofs.YtpnjjmcimjlfkaaGreatDoor.fin] at hx
  cases hc:zlx σ cs with
  | none=>simp [hc] at hx
  | some ys=>
   simp only [hc,Option.map_some,Option.some.injEq] at hx
   subst hx
   obtain⟨h1,h2⟩:=zfU hc
   exact .tup ys vs (by omega) fun i hi hv=>ih i (by omega) hv (h2 i (by omega) hi)
def resAV (P:Program) (σ:St):ResultVar->Option AV
 | .tmp t=>fin σ (σ.eval (.tmp t))
 | .cell p ty=>match σ.eval (.tmp p) with
  | .box r j=>match σ.blk r with
   | some (.cell _ cs)=>match zah P ty (cs.drop j) with
    | some x=>fin σ x
    | none=>none
   | _=>none
  | _=>none
def zmk (P:Program) (σ:St):List ResultVar->Option (List AV)
 | []=>some []
 | r :: rs=>match resAV P σ r,zmk P σ rs with
  | some y,some ys=>some (y :: ys)
  | _,_=>none
def zeY (P:Program) (σ:St) (rs:List ResultVar):Option AV:=
 match zmk P σ rs with
 | some [x]=>some x
 | some xs=>some (.tup xs)
 | none=>none
theorem zmf {t:TypeId} {cs:List AV} {x:AV} {q off:Nat} (hx:zah P t cs=some x) (hc:∀ j (hj:j<cs.length),∃ u,w.cell? ⟨q,off+j,none⟩=some u/\Has g σ.tk w cs[j] u):∃ v,(loadVar t ⟨q,off,none⟩).run P w = .ok v w/\Has g σ.tk w x v:=by
 unfold zah at hx
 split at hx
 ·rename_i hb
  split at hx
  ·rename_i hn
   cases hx
   have hlen:((List.range (P.cellsOf t)).map fun j=>(w.cell? ⟨q,off+j,none⟩).getD undef).length=if true=true then P.cellsOf t else 1:=by simp
   have hr:=zfi (P:=P) (w:=w) (q:=q) (o:=off) hb ((List.range (P.cellsOf t)).map fun j=>(w.cell? ⟨q,off+j,none⟩).getD undef) hlen (fun j hj=>by
    simp only [List.length_map,List.length_range] at hj
    obtain⟨u,hu,_⟩:=hc j (by omega)
    simp [hu])
   rw [if_pos rfl] at hr
   refine⟨_,hr,.agg _ _ (by simp;omega) fun i hi hv=>?_⟩
   simp only [List.length_take] at hi
   obtain⟨u,hu,hh⟩:=hc i (by omega)
   simpa [hu] using hh
  ·cases hx
 ·rename_i hb
  obtain⟨h0,rfl⟩:=List.getElem?_eq_some_iff.1 hx
  obtain⟨u,hu,hh⟩:=hc 0 h0
  have hr:=zfi (P:=P) (w:=w) (o:=off) (q:=q) hb [u] (by simp) (fun j hj=>by
   have:j=0:=by simpa using hj
   subst this
   simpa using hu)
  exact⟨u,hr,hh⟩
 ·cases hx
def zfs (tmps:Array Value):ResultVar->Go.Sem Value
 | .tmp t=>pure (tmps.getD t undef)
 | .cell p t=>do loadVar t (<- asAddr (tmps.getD p undef))
theorem Ok.resAV (hk:Ok A σ g a w) {r:ResultVar} {y:AV} (h:Go.Proofs.YtpnjjmcimjlfkaaGreatDoor.resAV P σ r=some y) :
  ∃ v,(zfs a.tmps r).run P w = .ok v w/\zch w (Go.Proofs.YtpnjjmcimjlfkaaGreatDoor.finF A σ g w) y v:=by
 cases r with
 | tmp t=>exact⟨_,rfl,hk.fin (hk.eval (.tmp t)) h⟩
 | cell p ty=>
  unfold Go.Proofs.YtpnjjmcimjlfkaaGreatDoor.resAV at h
  simp only at h
  split at h
  ·rename_i r j hp
   split at h
   ·rename_i ty' cs hb
    split at h
    ·rename_i x hx
     have he:Has g σ.tk w (σ.eval (.tmp p)) (a.tmps.getD p undef):=hk.eval (.tmp p)
     rw [hp] at he
     obtain⟨hB,arr,c1,c2,c3⟩:=hk.blk r _ hb
     obtain⟨v,hv,hh⟩:=zmf (P:=P) (g:=g) (σ:=σ) (w:=w) (q:=g.m r) (off:=j) hx (fun i hi=>by
      simp only [List.length_drop] at hi
      have hj:j+i<arr.length:=by omega
      refine⟨arr[j+i],by simp [World.cell?,c1,hj],?_⟩
      rw [List.getElem_drop]
      exact c3 (j+i) (by omega) hj)
     exact⟨v,by simp only [zfs,he.box_eq,asAddr,Sem.run_bind,Sem.run_pure,Result.andThen_ok];exact hv,hk.fin hh h⟩
    ·cases h
   ·cases h
  ·cases h
theorem zdN (fn:Func) {tmps:Array Value} {vs:List Value} (hvs:(fn.results.toList.mapM (m:=Go.Sem) (zfs tmps)).run P w = .ok vs w):(Go.results fn tmps).run P w = .ok (if h:vs.toArray.size=1 then vs.toArray[0] else .tuple vs.toArray) w:=by
 unfold Go.results
 rw [Array.mapM_eq_mapM_toList]
 simp only [Sem.run_bind,Sem.run_map,Sem.run_pure]
 have e:∀ f:ResultVar->Go.Sem Value,(∀ r,f r=zfs tmps r)->(List.mapM f fn.results.toList).run P w = .ok vs w:=fun f hf=>by
  rw [funext hf];exact hvs
 rw [e _ (fun r=>by cases r <;> rfl)]
 rfl
theorem Ok.results (hk:Ok A σ g a w) {fn:Func} {y:AV} (h:zeY P σ fn.results.toList=some y):∃ v,(results fn a.tmps).run P w = .ok v w/\zch w (Go.Proofs.YtpnjjmcimjlfkaaGreatDoor.finF A σ g w) y v:=by
 have key:∀ (rs:List ResultVar) (ys:List AV),zmk P σ rs=some ys->∃ vs:List Value,(rs.mapM (m:=Go.Sem) (zfs a.tmps)).run P w = .ok vs w/\ys.length=vs.length/\∀ i (hi:i<ys.length) (hv:i<vs.length),zch w (Go.Proofs.YtpnjjmcimjlfkaaGreatDoor.finF A σ g w) ys[i] vs[i]:=by
  intro rs
  induction rs with
  | nil=>intro ys h;cases h;exact⟨[],rfl,rfl,fun i hi=>by simp at hi⟩
  | cons r rs ih=>
   intro ys h
   unfold zmk at h
   split at h
   ·rename_i y1 ys1 h1 h2
    cases h
    obtain⟨vs,h3,h4,h5⟩:=ih ys1 h2
    obtain⟨v,h6,h7⟩:=hk.resAV h1
    refine⟨v :: vs,?_,by simp [h4],fun i hi hv=>?_⟩
    ·simp only [List.mapM_cons,Sem.run_bind,h6,Result.andThen_ok,h3,Sem.run_pure]
    ·cases i with
     | zero=>simpa using h7
     | succ i=>simpa using h5 i (by simpa using hi) (by simpa using hv)
   ·cases h
 unfold zeY at h
 split at h
 ·rename_i x hx
  cases h
  obtain⟨vs,h1,h2,h3⟩:=key _ _ hx
  obtain⟨v,rfl⟩:∃ v,vs=[v]:=by
   cases vs with
   | nil=>simp at h2
   | cons v vs=>cases vs with
    | nil=>exact⟨v,rfl⟩
    | cons u us=>simp at h2
  refine⟨v,?_,by simpa using h3 0 (by simp) (by simp)⟩
  rw [zdN _ h1];rfl
 ·rename_i xs hne hx
  cases h
  obtain⟨vs,h1,h2,h3⟩:=key _ _ hx
  refine⟨.tuple vs.toArray,?_,.tup xs vs h2 h3⟩
  rw [zdN _ h1,dif_neg]
  intro hs
  obtain⟨x,rfl⟩:∃ x,xs=[x]:=by
   have hl:xs.length=1:=by rw [h2];simpa using hs
   cases xs with
   | nil=>simp at hl
   | cons x xs=>cases xs with
    | nil=>exact⟨x,rfl⟩
    | cons y ys=>simp at hl
  exact hne x rfl
 ·cases h
def zuw (P:Program) (rs:List ResultVar) (res:AV):Exit->St->Prop
 | .normal,σ | .ret,σ=>zeY P σ rs=some res
 | _,_=>False
def St.enter (args:List AV):St:=⟨args.zipIdx.map fun x=>(x.2,x.1),[],[]⟩
theorem zcq:∀ (l:List AV) (k t:Nat),zk ((l.zipIdx k).map fun x=>(x.2,x.1)) t=if k<=t then l[t - k]? else none
 | [],k,t=>by simp [zk]
 | x :: l,k,t=>by
  simp only [List.zipIdx_cons,List.map_cons,zk,zcq l (k+1) t]
  by_cases h1:k=t
  ·subst h1;simp
  ·rw [if_neg h1]
   by_cases h2:k<=t
   ·rw [if_pos (by omega),if_pos h2]
    have:t - k=(t - (k+1))+1:=by omega
    rw [this,List.getElem?_cons_succ]
   ·rw [if_neg (by omega),if_neg h2]
theorem zwL {f : FuncId} {fn : Func} {c : Code} {args : List AV} {res : AV} (hf : P.funcs[f]? = some fn) (hb : fn.body = some c) (hn : (fn.name == "runtime.NumGoroutine") = false) (hres : res.closed = true) (hargs : zN args = true) (hle : args.length <= fn.ntmps)
  (h:∀ A:Base P,A.N=fn.ntmps->((∀ r,A.fx r=false/\A.tk0 r=none)/\∀ x,¬ A.X x)->SatC P A c (St.enter args) (stk P A [] (zuw P fn.results.toList res))):Con P f args res:=by
 refine⟨⟨fn,hf,hn,by rw [hb];rfl⟩,hres,fun F w vs hF hG hl hv=>?_⟩
 refine calls_of_wp hf hb ?_
 have hsz:vs.toArray.size=args.length:=by simp [hl]
 have hk:Ok ⟨w.heap.size,w,F,fn.ntmps,fun _=>False,fun w' hb=>hG.keep hb fun _ h=>h.elim,hG.low,fun _ h=>h.elim,fun _=>false,fun _=>0,fun _ h=>by simp at h,none,fun _=>none,fun _=>undef,(fun _ _ h=>by cases h),[],fun _=>undef,fun _ _=>rfl⟩ (St.enter args) (gh0 F) { tmps:=vs.toArray++Array.replicate (fn.ntmps - vs.toArray.size) undef,defers:=[] } w:=by
  refine⟨.of (Below.refl _ _),Nat.le_refl _,fun _ _ h=>h,fun _ _ h=>.inl h,hF,rfl,by simp;omega,fun t=>?_,fun r b hr=>by simp [St.enter,St.blk,zk] at hr,fun r b hr=>by simp [St.enter,St.blk,zk] at hr,fun r b r' b' hr=>by simp [St.enter,St.blk,zk] at hr,fun r b hr=>by simp [St.enter,St.tok,zk] at hr,fun r b x hr=>by simp [St.enter,St.tok,zk] at hr,fun r b r' b' x hr=>by simp [St.enter,St.tok,zk] at hr,fun r b r' b' x hr=>by simp [St.enter,St.tok,zk] at hr,fun r hr=>by simp at hr,fun _ _ h=>by cases h⟩
  have hget:(St.enter args).get t=(args[t]?).getD .dead:=by
   unfold St.enter St.get
   rw [zcq];simp
  rw [Base.val_of (fun _=>rfl) (by simp;omega),hget]
  by_cases ht:t<args.length
  ·have htv:t<vs.length:=by omega
   have e1:(vs.toArray++Array.replicate (fn.ntmps - vs.toArray.size) undef).getD t undef=vs[t]:=by
    rw [Array.getD_eq_getD_getElem?,Array.getElem?_append_left (by simpa using htv)]
    simp [htv]
   rw [e1]
   simp only [List.getElem?_eq_getElem ht,Option.getD_some]
   exact(hv t ht htv).open (zY ht hargs) (fun _ _ h=>h)
  ·simp only [List.getElem?_eq_none (Nat.le_of_not_lt ht),Option.getD_none]
   exact .dead _
 refine wp_mono (wpIn_wide.1 (h _ rfl ⟨fun _=>⟨rfl,rfl⟩,fun _ h=>h⟩ (gh0 F) _ w hk)) fun e a' w' hq=>?_
 obtain⟨σ',g',h1,h2⟩:=hq
 have hret:zeY P σ' fn.results.toList=some res->a'.defers=[]/\∃ v,(results fn a'.tmps).run P w' = .ok v w'/\∃ u,Ending.returned v = .returned u/\zch w' (fun b o=>F b o\/(w.heap.size<=b/\b<w'.heap.size)) res u/\Below w.heap.size w w':=fun hr=>by
  obtain⟨v,h3,h4⟩:=h2.results hr
  exact⟨h2.defers,v,h3,v,rfl,h4.mono fun _ _=>zlH,⟨h2.below.os,h2.below.tape,h2.below.output,h2.below.size,fun k hk=>h2.below.block k hk id⟩⟩
 cases e with
 | normal=>exact hret h1
 | ret=>exact hret h1
 | exit | goto | panic | outgrown=>exact h1.elim
theorem zDy {f : FuncId} {fn : Func} {c : Code} {args : List AV} {res : AV} (hf : P.funcs[f]? = some fn) (hb : fn.body = some c) (hn : (fn.name == "runtime.NumGoroutine") = false) (hres : res.closed = true) (hargs : zN args = true) (hle : args.length <= fn.ntmps)
  (h:∀ A:Base P,A.N=fn.ntmps->(∀ r,A.fx r=false/\A.tk0 r=none)->SatC P A c (St.enter args) (stk P A [] (zuw P fn.results.toList res))):Con P f args res:=zwL hf hb hn hres hargs hle fun A hA hX=>h A hA hX.1
theorem zei {f : FuncId} {fn : Func} {c : Code} {args : List AV} {res : AV} (hf : P.funcs[f]? = some fn) (hb : fn.body = some c) (hn : (fn.name == "runtime.NumGoroutine") = false) (hres : res.closed = true) (hargs : zN args = true) (hle : args.length <= fn.ntmps)
  (h:∀ A:Base P,A.N=fn.ntmps->SatC P A c (St.enter args) (stk P A [] (zuw P fn.results.toList res))):Con P f args res:=zDy hf hb hn hres hargs hle fun A hA _=>h A hA
theorem kO {f:FuncId} {fn:Func} {c:Code} {args:List AV} {res:AV} {n:Nat} (hf:P.funcs[f]? = some fn) (hm:fn.ntmps=n) (h:∀ A:Base P,A.N=n->SatC P A c (St.enter args) (stk P A [] (zuw P fn.results.toList res)))
  (hb : fn.body = some c := by rfl) (hn : (fn.name == "runtime.NumGoroutine") = false := by decide +kernel) (hres : res.closed = true := by rfl) (hargs : zN args = true := by rfl) (hle : args.length <= n := by simp) : Con P f args res :=
 zei hf hb hn hres hargs (by rw [hm];exact hle) fun A hA=>h A (hA.trans hm)
theorem kY {f:FuncId} {fn:Func} {c:Code} {args:List AV} {res:AV} {n:Nat} (hf:P.funcs[f]? = some fn) (hm:fn.ntmps=n) (h:∀ A:Base P,A.N=n->((∀ r,A.fx r=false/\A.tk0 r=none)/\∀ x,¬ A.X x)->SatC P A c (St.enter args) (stk P A [] (zuw P fn.results.toList res)))
  (hb : fn.body = some c := by rfl) (hn : (fn.name == "runtime.NumGoroutine") = false := by decide +kernel) (hres : res.closed = true := by rfl) (hargs : zN args = true := by rfl) (hle : args.length <= n := by simp) : Con P f args res :=
 zwL hf hb hn hres hargs (by rw [hm];exact hle) fun A hA=>h A (hA.trans hm)
end
section
open Go Go.RowKit
variable {P:Program} {A:Base P} {σ:St} {g:Gh} {a:Act} {w:World}
def zvv (b:Blk) (j:Nat):AV:=
 match b with
 | .cell _ cs=>match zlU cs with
  | some ds=>.at_ (ds.drop j)
  | none=>.dead
 | _=>.dead
def zqN (b:Blk) (st i j:Nat):AV:=
 match b with
 | .row st' _ rows=>if st'=st then match rows[i]? with
  | some row=>.at_ (row.drop j)
  | none=>.dead else .dead
 | _=>.dead
def zqM (b:Blk) (len:Nat):AV:=
 match b with
 | .row _ _ rows=>if len=rows.length then .d (.sl rows) else .dead
 | _=>.dead
def zvu (b:Blk):AV:=
 match b with
 | .map none ks cs=>.mapd ks cs
 | _=>.dead
mutual
def AV.frz (r:Nat) (b:Blk):AV->AV
 | .dead=>.dead
 | .d x=>.d x
 | .agg cs=>.agg (ziK r b cs)
 | .tup cs=>.tup (ziK r b cs)
 | .fn f cs=>.fn f (ziK r b cs)
 | .bnd f x=>.bnd f (x.frz r b)
 | .box q j=>if q=r then zvv b j else .box q j
 | .elem q st i j=>if q=r then zqN b st i j else .elem q st i j
 | .own q len=>if q=r then zqM b len else .own q len
 | .stk q st ver off len=>.stk q st ver off len
 | .selem q st ver i j=>.selem q st ver i j
 | .at_ cs=>.at_ cs
 | .grow q rows=>.grow q rows
 | .mp q=>if q=r then zvu b else .mp q
 | .mapd ks cs=>.mapd ks (ziK r b cs)
def ziK (r:Nat) (b:Blk):List AV->List AV
 | []=>[]
 | c :: cs=>c.frz r b :: ziK r b cs
end
def ziL (r:Nat) (b:Blk):List (Nat × AV)->List (Nat × AV)
 | []=>[]
 | x :: l=>(x.1,x.2.frz r b) :: ziL r b l
def Blk.frz (r:Nat) (b:Blk):Blk->Blk
 | .cell ty cs=>.cell ty (ziK r b cs)
 | .row st ty rows=>.row st ty rows
 | .map tag ks cs=>.map tag ks (ziK r b cs)
 | .iter q n seen=>.iter q n seen
 | .obj o=>.obj o
def zfo (r:Nat) (b:Blk):List (Nat × Option Blk)->List (Nat × Option Blk)
 | []=>[]
 | x :: l=>(if x.1=r then (x.1,none) else (x.1,x.2.map (Blk.frz r b))) :: zfo r b l
def St.frz (σ:St) (r:Nat):St:=
 match σ.blk r with
 | some b=>if zho r b=true then σ else ⟨ziL r b σ.env,zfo r b σ.blks,σ.toks⟩
 | none=>σ
theorem zaJ (r:Nat) (b:Blk):∀ l:List AV,(ziK r b l).length=l.length
 | []=>rfl
 | c :: cs=>by rw [ziK,List.length_cons,List.length_cons,zaJ r b cs]
theorem zeX (r:Nat) (b:Blk):∀ (l:List AV) (i:Nat) (h:i<l.length) (h':i<(ziK r b l).length),(ziK r b l)[i]=l[i].frz r b
 | c :: cs,0,_,_=>by simp only [ziK,List.getElem_cons_zero]
 | c :: cs,i+1,h,h'=>by
  simp only [ziK,List.getElem_cons_succ]
  exact zeX r b cs i (by simpa using h) _
theorem zkZ (r:Nat) (b:Blk):∀ (l:List (Nat × AV)) (t:Nat),zk (ziL r b l) t=(zk l t).map (AV.frz r b)
 | [],_=>rfl
 | (k,v) :: l,t=>by
  simp only [ziL,zk]
  by_cases h:k=t
  ·rw [if_pos h,if_pos h];rfl
  ·rw [if_neg h,if_neg h];exact zkZ r b l t
theorem zgz (r:Nat) (b:Blk):∀ (l:List (Nat × Option Blk)) (q:Nat),(zk (zfo r b l) q).getD none=if q=r then none else ((zk l q).getD none).map (Blk.frz r b)
 | [],q=>by simp [zfo,zk]
 | (k,v) :: l,q=>by
  simp only [zfo]
  by_cases hk:k=r
  ·rw [if_pos hk]
   simp only [zk]
   by_cases h:k=q
   ·rw [if_pos h,if_pos (h.symm.trans hk)];rfl
   ·rw [if_neg h,if_neg h];exact zgz r b l q
  ·rw [if_neg hk]
   simp only [zk]
   by_cases h:k=q
   ·rw [if_pos h,if_pos h,if_neg (fun e=>hk (h.trans e))];rfl
   ·rw [if_neg h,if_neg h];exact zgz r b l q
theorem Has.frz {tk:Nat->Option Nat} {F':Nat->Nat->Prop} {r:Nat} {b:Blk} (hF:∀ x o,g.F x o->F' x o) (hr:∀ o,F' (g.m r) o) (hb:zek g tk w (g.m r) b) {x:AV} {v:Value} (h:Has g tk w x v):Has { g with F:=F' } tk w (x.frz r b) v:=by
 have hmono:∀ {y:D} {u:Value},Reads w g.F y u->Reads w F' y u:=fun h=>h.mono hF (fun _ _ _ _ h=>h)
 induction h with
 | dead v=>exact .dead v
 | d h=>exact .d (hmono h)
 | agg cs vs hl _ ih=>
  rw [AV.frz]
  exact .agg _ vs (by rw [zaJ];exact hl) fun i hi hv=>by
   rw [zeX r b cs i (by rw [zaJ] at hi;exact hi)];exact ih i _ hv
 | tup cs vs hl _ ih=>
  rw [AV.frz]
  exact .tup _ vs (by rw [zaJ];exact hl) fun i hi hv=>by
   rw [zeX r b cs i (by rw [zaJ] at hi;exact hi)];exact ih i _ hv
 | fn f cs vs hl _ ih=>
  rw [AV.frz]
  exact .fn f _ vs (by rw [zaJ];exact hl) fun i hi hv=>by
   rw [zeX r b cs i (by rw [zaJ] at hi;exact hi)];exact ih i _ hv
 | bnd f x v _ ih=>
  rw [AV.frz]
  exact .bnd f _ v ih
 | box q j=>
  rw [AV.frz]
  split
  ·rename_i hq
   subst hq
   unfold zvv
   split
   ·rename_i ty cs
    split
    ·rename_i ds hds
     obtain⟨arr,h1,h2,h3⟩:=hb
     obtain⟨hl,hd⟩:=zex hds
     refine .at_ _ _ _ fun k hk=>⟨hr _,?_⟩
     simp only [List.length_drop] at hk
     have hj:j+k<arr.length:=by omega
     refine⟨arr[j+k],by simp [World.cell?,h1,hj],?_⟩
     rw [List.getElem_drop]
     exact hmono ((h3 (j+k) (by omega) hj).toD (hd (j+k) (by omega) (by omega)))
    ·exact .dead _
   ·exact .dead _
  ·exact Has.box (g:={ g with F:=F' }) q j
 | elem q st i j=>
  rw [AV.frz]
  split
  ·rename_i hq
   subst hq
   unfold zqN
   split
   ·rename_i st' ty rows
    split
    ·rename_i hst
     subst hst
     split
     ·rename_i row hrow
      obtain⟨hi,rfl⟩:=List.getElem?_eq_some_iff.1 hrow
      obtain⟨arr,h1,h2,h3⟩:=hb
      refine .at_ _ _ _ fun k hk=>⟨hr _,?_⟩
      simp only [List.length_drop] at hk
      obtain⟨u,h4,h5⟩:=h3 i hi (j+k) (by omega)
      refine⟨u,by simp [World.cell?,h1,Nat.add_assoc,h4],?_⟩
      rw [List.getElem_drop]
      exact hmono h5
     ·exact .dead _
    ·exact .dead _
   ·exact .dead _
  ·exact Has.elem (g:={ g with F:=F' }) q st i j
 | own q len cap hc=>
  rw [AV.frz]
  split
  ·rename_i hq
   subst hq
   unfold zqM
   split
   ·rename_i st ty rows
    split
    ·rename_i hl
     subst hl
     obtain⟨arr,h1,h2,h3⟩:=hb
     refine .d (Reads.mk (st:=st) hc h2 fun i hi j hj=>⟨hr _,?_⟩)
     obtain⟨u,h4,h5⟩:=h3 i hi j hj
     exact⟨u,by simp [World.cell?,h1,h4],hmono h5⟩
    ·exact .dead _
   ·exact .dead _
  ·exact Has.own (g:={ g with F:=F' }) q len cap hc
 | stk q st ver off len p cap hc hp h=>exact Has.stk (g:={ g with F:=F' }) q st ver off len p cap hc hp h
 | selem q st ver i j b o h=>exact Has.selem (g:={ g with F:=F' }) q st ver i j b o h
 | at_ cs b o h=>exact .at_ cs b o fun k hk=>⟨hF _ _ (h k hk).1,by
   obtain⟨h1,u,h2,h3⟩:=h k hk
   exact⟨u,h2,hmono h3⟩⟩
 | mp q=>
  rw [AV.frz]
  split
  ·rename_i hq
   subst hq
   unfold zvu
   split
   ·rename_i ks cs
    obtain⟨_,es,c1,c2,c3,c4,c5⟩:=hb
    have e:Ext (fun _=>False) g tk w { g with F:=F' } tk w:=⟨hF,fun _ _ _ _ h=>h,fun _ _=>rfl,fun r _ n hn=>⟨n,hn,Nat.le_refl _,fun _=>rfl⟩,fun _ _ _ _ h=>h⟩
    exact .mapd ks cs _ es (hr 0) c1 c2 c3 (fun i hi hv=>(c4 i hi hv).1) fun i hi hv=>(c5 i hi hv).mono e fun _ _=>id
   ·exact .dead _
  ·exact Has.mp (g:={ g with F:=F' }) q
 | mapd ks cs b es hF2 hh hl hl2 hk _ ih=>
  rw [AV.frz]
  exact .mapd ks _ b es (hF _ _ hF2) hh hl (by rw [zaJ];exact hl2) hk fun i hi hv=>by
   rw [zeX r _ cs i (by rw [zaJ] at hi;exact hi)];exact ih i _ hv
 | grow q rows v h ht=>exact Has.grow (g:={ g with F:=F' }) q rows v (hmono h) ht
theorem Ok.frz (hk:Ok A σ g a w) (r:Nat):∃ g',Ok A (σ.frz r) g' a w:=by
 unfold St.frz
 cases hb:σ.blk r with
 | none=>exact⟨g,hk⟩
 | some b=>
  simp only
  by_cases hlent:zho r b=true
  ·rw [if_pos hlent];exact⟨g,hk⟩
  rw [if_neg hlent]
  obtain⟨hB,hbl⟩:=hk.blk r b hb
  replace hB:=hB.resolve_right fun h=>hlent h.2
  have hF:∀ x o,g.F x o->(g.F x o\/x=g.m r):=fun _ _ h=>.inl h
  have hr:∀ o:Nat,(g.F (g.m r) o\/g.m r=g.m r):=fun _=>.inr rfl
  have key:∀ {x:AV} {v:Value},Has g σ.tk w x v->Has { g with F:=fun x o=>g.F x o\/x=g.m r } σ.tk w (x.frz r b) v:=fun h=>h.frz hF hr hbl
  have hblk:∀ q k,(St.mk (ziL r b σ.env) (zfo r b σ.blks) σ.toks).blk q=some k->q≠r/\∃ k',σ.blk q=some k'/\k=Blk.frz r b k':=fun q k hq=>by
   unfold St.blk at hq
   rw [zgz] at hq
   by_cases hqr:q=r
   ·rw [if_pos hqr] at hq;cases hq
   ·rw [if_neg hqr] at hq
    refine⟨hqr,?_⟩
    unfold St.blk
    cases hl:(zk σ.blks q).getD none with
    | none=>rw [hl] at hq;cases hq
    | some k'=>rw [hl] at hq;exact⟨k',rfl,by simpa using hq.symm⟩
  refine⟨{ g with F:=fun x o=>g.F x o\/x=g.m r },hk.below,hk.hB,fun b o h=>.inl (hk.F0 b o h),fun x o h=>?_,fun x o h=>?_,hk.defers,hk.size,fun t=>?_,fun q k hq=>?_,fun q k hq o h=>?_,fun q k q' k' hq hq'=>?_,fun q k hq=>by
   obtain⟨xs,t1,t2,t3⟩:=hk.tok q k hq
   exact⟨xs,t1,t2,fun rows hr=>⟨(t3 rows hr).1,fun i hi j hj=>by
    obtain⟨u,h4,h5⟩:=(t3 rows hr).2 i hi j hj
    exact⟨u,h4,h5.mono hF (fun _ _ _ _ h=>h)⟩⟩⟩,fun q k x hq hx o h=>?_,fun q k q' k' x hq hq'=>?_,hk.toktok,hk.fix,hk.hist⟩
  ·rcases h with h | rfl
   ·exact hk.Fn x o h
   ·exact .inr hB
  ·rcases h with h | rfl
   ·exact hk.Fb x o h
   ·exact hbl.lt
  ·have he:=key (hk.env t)
   unfold St.get at he ⊢
   rw [zkZ]
   cases hl:zk σ.env t with
   | none=>exact .dead _
   | some x=>rw [hl] at he;exact he
  ·obtain⟨hqr,k',hk',rfl⟩:=hblk q k hq
   obtain⟨h1,h2⟩:=hk.blk q k' hk'
   refine⟨by
    cases k' with
    | map tag _ _=>cases tag <;> exact h1
    | _=>exact h1,?_⟩
   cases k' with
   | cell ty cs=>
    obtain⟨arr,c1,c2,c3⟩:=h2
    exact⟨arr,c1,by rw [zaJ];exact c2,fun j hj hj'=>by
     rw [zeX r b cs j (by rw [zaJ] at hj;exact hj)]
     exact key (c3 j _ hj')⟩
   | row st ty rows=>
    obtain⟨arr,c1,c2,c3⟩:=h2
    exact⟨arr,c1,c2,fun i hi j hj=>by
     obtain⟨u,h4,h5⟩:=c3 i hi j hj
     exact⟨u,h4,h5.mono hF (fun _ _ _ _ h=>h)⟩⟩
   | map tag ks cs=>
    obtain⟨c0,es,c1,c2,c3,c4,c5⟩:=h2
    exact⟨c0,es,c1,c2,by rw [zaJ];exact c3,c4,fun i hi hv=>by
     rw [zeX r b cs i (by rw [zaJ] at hi;exact hi)]
     exact key (c5 i _ hv)⟩
   | iter q' n seen=>exact h2
   | obj o=>exact h2
  ·obtain⟨hqr,k',hk',rfl⟩:=hblk q k hq
   rcases h with h | h
   ·exact hk.Fblk q k' hk' o h
   ·exact hk.inj q k' r b hk' hb hqr h
  ·obtain⟨_,k1,h1,_⟩:=hblk q k hq
   obtain⟨_,k2,h2,_⟩:=hblk q' k' hq'
   exact hk.inj q k1 q' k2 h1 h2
  ·rcases h with h | h
   ·exact hk.Ftok q k x hq hx o h
   ·exact absurd h (hk.tokblk q k r b x hq hb hx)
  ·obtain⟨_,k2,h2,_⟩:=hblk q' k' hq'
   exact hk.tokblk q k q' k2 x hq h2
theorem zzu (r:Nat) {c:Code} {K:Exit->St->Prop} (h:SatC P A c (σ.frz r) K):SatC P A c σ K:=zen (fun _ _ _ hk=>hk.frz r) h
theorem zEr (r:Nat) {f:Option FuncId} {all:List Oper} {o:Oper} {rest:List Oper} {i base:Nat} {s:List Itm} {Q:Exit->St->Prop} (h:zbL P A (.exe f all o rest i base) s (σ.frz r) Q):zbL P A (.exe f all o rest i base) s σ Q:=fun g a w hk=>by
 obtain⟨g',hk'⟩:=hk.frz r
 exact h g' a w hk'
end
section
open Go Go.RowKit Go.MapKept
variable {P:Program} {A:Base P} {σ:St} {g:Gh} {a:Act} {w:World}
theorem zxd {all:List Oper} {o:Oper} {rest:List Oper} {it:Operand} {q r n:Nat} {seen:List Nat} {tag:Option Nat} {ks:List Value} {cs:List AV} {K:Exit->St->Prop} (ho:o.op = .next it false) (hit:σ.eval it = .box q 0) (hq:σ.blk q=some (.iter r n seen)) (hr:σ.blk r=some (.map tag ks cs)) (hn:n=ks.length) (hd:zaf A.N o=true)
  (hdone:(∀ j,j<n->j ∈ seen)->zgV P A all rest (σ.put o.dst (.tup [.d (.raw (.bool false))])) K)
  (hstep:∀ j (h:j<ks.length) (h':j<cs.length),¬ j ∈ seen->zgV P A all rest ((σ.setBlk q (some (.iter r n (seen++[j])))).put o.dst (.tup [.d (.raw (.bool true)),.d (.raw ks[j]),cs[j]])) K):zkI P A all o rest σ K:=by
 intro g a w hk
 have hie:=hk.eval it
 rw [hit] at hie
 obtain⟨hBq,c0⟩:=hk.blk q _ hq
 have c0:w.heap[g.m q]? = some (.mapIter (some (g.m r)) n seen.toArray n):=c0
 obtain⟨_,_,es,c1,c2,c3,c4,c5⟩:=hk.blk r _ hr
 have hborn:∀ j (hj:j<es.length),es[j].born=j:=fun j hj=>(c4 j (by omega) hj).2
 have hold:∀ x ∈ es.toArray.toList,x.born<n:=fun x hx=>by
  obtain⟨j,hj,rfl⟩:=List.getElem_of_mem (by simpa using hx:x ∈ es)
  rw [hborn j hj];omega
 have hex:∀ v w',(Instr.next (.pointer (some ⟨g.m q,0,none⟩)) false o.type).run P w = .ok v w'->(execOp a.eval o).run P w = .ok (.value v) w':=fun v w' h=>by
  simp only [execOp,ho,hie.box_eq,Sem.run_bind,h,Result.andThen_ok,Sem.run_pure]
 rcases run_next_at (P:=P) w o.type (g.m q) (g.m r) n n seen.toArray es.toArray es.length c0 c1 hold (Nat.le_refl _) with⟨h1,h2⟩ | ⟨e,he,w1,hw1,h2⟩
 ·refine zjV (hex _ _ h2) (fun _ _ h=>by cases h) ?_
  refine hdone (fun j hj=>?_) g _ w (hk.put o.dst (zaO hd) (.tup [.d (.raw (.bool false))] [.bool false] rfl fun i hi hv=>by
   match i,hi with
   | 0,_=>exact .d (.raw _)))
  have hj':j<es.length:=by omega
  cases hc:seen.contains j with
  | true=>simpa using hc
  | false=>
   exfalso
   have:es[j] ∈ (leftOf es.toArray seen.toArray).toList:=by
    unfold leftOf
    simp only [Array.toList_filter,List.mem_filter,List.getElem_mem,true_and]
    rw [hborn j hj']
    simpa using hc
   have hs:(leftOf es.toArray seen.toArray).toList.length=0:=by simpa using h1
   rw [List.length_eq_zero_iff.1 hs] at this
   cases this
 ·refine zjV (hex _ _ h2) (fun _ _ h=>by cases h) ?_
  unfold leftOf at he
  simp only [Array.toList_filter,List.mem_filter] at he
  obtain⟨j,hj,rfl⟩:=List.getElem_of_mem he.1
  have hns:¬ j ∈ seen:=by
   have:=he.2
   rw [hborn j hj] at this
   simpa using this
  have hk1:Ok A σ g a w1:=by
   rcases hw1 with rfl | rfl
   ·exact hk
   ·exact hk.drew
  have c0':w1.heap[g.m q]? = some (.mapIter (some (g.m r)) n seen.toArray n):=by
   rcases hw1 with rfl | rfl
   ·exact c0
   ·exact c0
  have c1':w1.heap[g.m r]? = some (.map es.toArray es.length):=by
   rcases hw1 with rfl | rfl
   ·exact c1
   ·exact c1
  have hset:=heap_set (o':=.mapIter (some (g.m r)) n (seen.toArray.push es[j].born) es.length) c0'
  have hother:∀ b,b≠g.m q->(ChangeMaps.setBlock w1 (g.m q) (.mapIter (some (g.m r)) n (seen.toArray.push es[j].born) es.length)).heap[b]? = w1.heap[b]?:=fun b hne=>hset.2 b hne
  have hnew:(ChangeMaps.setBlock w1 (g.m q) (.mapIter (some (g.m r)) n (seen.toArray.push es[j].born) es.length)).heap[g.m q]? = some (.mapIter (some (g.m r)) n (seen++[j]).toArray n):=by
   have:=hset.1
   rw [hborn j hj] at this
   have e1:seen.toArray.push j=(seen++[j]).toArray:=by simp
   have e2:es.length=n:=by omega
   rw [e1,e2] at this
   rw [hborn j hj,e1,e2]
   exact this
  obtain⟨hk2,e2⟩:=hk1.write (k':=.iter r n (seen++[j])) hq hother (by simp [ChangeMaps.setBlock]) (.one (hBq.imp id And.left) rfl rfl rfl (by simp [ChangeMaps.setBlock]) hother) hnew
  have hjk:j<ks.length:=by omega
  have hjc:j<cs.length:=by omega
  have hval:Has g σ.tk w1 cs[j] es[j].val:=by
   obtain⟨_,_,es',d1,d2,d3,d4,d5⟩:=hk1.blk r _ hr
   rw [c1'] at d1
   injection d1 with d1
   injection d1 with d1 _
   have:es=es':=congrArg Array.toList d1
   subst this
   exact d5 j hjc hj
  refine hstep j hjk hjc hns g _ _ (hk2.put o.dst (zaO hd) (.tup [.d (.raw (.bool true)),.d (.raw ks[j]),cs[j]] [.bool true,es[j].key,es[j].val] rfl fun i hi hv=>?_))
  match i,hi with
  | 0,_=>exact .d (.raw _)
  | 1,_=>
   have:=(c4 j hjk hj).1
   simp only [List.getElem_cons_succ,List.getElem_cons_zero]
   rw [this]
   exact .d (.raw _)
  | 2,_=>exact hval.mono e2 fun _ _=>id
theorem zEW {all:List Oper} (n':Nat) {f:Option FuncId} {o:Oper} {rest:List Oper} {i base:Nat} {s:List Itm} {Q:Exit->St->Prop} {it:Operand} {q r n:Nat} {seen:List Nat} {tag:Option Nat} {ks:List Value} {cs:List AV} (ho:o.op = .next it false) (hit:σ.eval it = .box q 0) (hq:σ.blk q=some (.iter r n seen)) (hr:σ.blk r=some (.map tag ks cs)) (hn:n=ks.length) (hd:zaf A.N o=true)
  (hdone:(∀ j,j<n->j ∈ seen)->go P A n' (.ops all rest (i+1) base) s (σ.put o.dst (.tup [.d (.raw (.bool false))])) Q)
  (hstep:∀ j (h:j<ks.length) (h':j<cs.length),¬ j ∈ seen->go P A n' (.ops all rest (i+1) base) s ((σ.setBlk q (some (.iter r n (seen++[j])))).put o.dst (.tup [.d (.raw (.bool true)),.d (.raw ks[j]),cs[j]])) Q):zbL P A (.exe f all o rest i base) s σ Q:=
 zxd ho hit hq hr hn hd (fun h=>zar n' _ _ _ _ (hdone h)) (fun j h h' hs=>zar n' _ _ _ _ (hstep j h h' hs))
theorem zjA (n:Nat) {all:List Oper} {f:FuncId} {o:Oper} {rest:List Oper} {i base:Nat} {s:List Itm} {Q:Exit->St->Prop} {c:Call} {p m:Operand} {args:List Operand} {asL:List AV} {res:AV} {r:Nat} {tag:Option Nat} {ks ks':List Value} {cs cs':List AV} (hc:ConM P f asL ks cs ks' cs' res) (ho:o.op = .call c) (hp:c.callee = .value p) (hf:σ.eval p = .fn f []) (hargs:c.args.toList=args++[m]) (hm:σ.eval m = .mp r) (hb:σ.blk r=some (.map tag ks cs)) (hcl:zN cs=true)
  (ha:zU (args.map σ.eval)=some asL) (hd:zaf A.N o=true) (hr:go P A n (.ops all rest (i+1) base) s ((σ.setBlk r (some (.map tag ks' cs'))).put o.dst res) Q):zbL P A (.exe (some f) all o rest i base) s σ Q:=
 zem (zmK ho hp hf hargs hm hb hcl ha hc) hd (zar n _ _ _ _ hr)
abbrev zbQ:Nat:=7700077
def zFN (P:Program) (rs:List ResultVar) (b:Nat) (ks':List Value) (cs':List AV) (res:AV):Exit->St->Prop
 | .normal,σ | .ret,σ=>zeY P σ rs=some res/\σ.blk zbQ=some (.map (some b) ks' cs')
 | _,_=>False
def St.enterM (args:List AV) (b:Nat) (ks:List Value) (cs:List AV):St:=⟨(args++[AV.mp zbQ]).zipIdx.map fun x=>(x.2,x.1),[(zbQ,some (.map (some b) ks cs))],[]⟩
theorem zDz {f : FuncId} {fn : Func} {c : Code} {args : List AV} {res : AV} {ks ks' : List Value} {cs cs' : List AV} (hf : P.funcs[f]? = some fn) (hb : fn.body = some c) (hn : (fn.name == "runtime.NumGoroutine") = false) (hres : res.closed = true) (hargs : zN args = true) (hcs : zN cs = true) (hcs' : zN cs' = true) (hle : args.length + 1 <= fn.ntmps)
  (h:∀ A:Base P,A.N=fn.ntmps->∀ b:Nat,SatC P A c (St.enterM args b ks cs) (stk P A [] (zFN P fn.results.toList b ks' cs' res))):ConM P f args ks cs ks' cs' res:=by
 refine⟨⟨fn,hf,hn,by rw [hb];rfl⟩,hres,hcs',fun F w vs b hF hG hlow hFb hl hv hmc=>?_⟩
 refine calls_of_wp hf hb ?_
 obtain⟨_,es,c1,c2,c3,c4,c5⟩:=hmc
 have hblt:b<w.heap.size:=(Array.getElem?_eq_some_iff.1 c1).1
 have hsz:(vs++[Value.map (some b)]).toArray.size=args.length+1:=by simp [hl]
 have hbk:∀ r k,(St.enterM args b ks cs).blk r=some k->r=zbQ/\k = .map (some b) ks cs:=fun r k hr=>by
  unfold St.enterM St.blk at hr
  simp only [zk] at hr
  by_cases e:zbQ=r
  ·rw [if_pos e] at hr
   exact⟨e.symm,by simpa using hr.symm⟩
  ·rw [if_neg e] at hr;cases hr
 have hk:Ok ⟨w.heap.size,w,F,fn.ntmps,fun x=>x=b,fun w' hb=>hG.keep hb fun x hx=>hx ▸ hlow,hG.low,fun x hx=>hx ▸ hlow,fun _=>false,fun _=>0,fun _ h=>by simp at h,none,fun _=>none,fun _=>undef,(fun _ _ h=>by cases h),[],fun _=>undef,fun _ _=>rfl⟩ (St.enterM args b ks cs) ⟨fun _=>b,fun _=>undef,F⟩ { tmps:=(vs++[Value.map (some b)]).toArray++Array.replicate (fn.ntmps - (vs++[Value.map (some b)]).toArray.size) undef,defers:=[] } w:=by
  refine⟨.of (Below.refl _ _),Nat.le_refl _,fun _ _ h=>h,fun _ _ h=>.inl h,hF,rfl,by simp only [Array.size_append,Array.size_replicate,hsz];omega,fun t=>?_,fun r k hr=>?_,fun r k hr=>?_,fun r k r' k' hr hr' hne=>?_,fun r k hr=>by simp [St.enterM,St.tok,zk] at hr,fun r k x hr=>by simp [St.enterM,St.tok,zk] at hr,fun r k r' k' x hr=>by simp [St.enterM,St.tok,zk] at hr,fun r k r' k' x hr=>by simp [St.enterM,St.tok,zk] at hr,fun r hr=>by simp at hr,fun _ _ h=>by cases h⟩
  ·have hget:(St.enterM args b ks cs).get t=((args++[.mp zbQ])[t]?).getD .dead:=by
    unfold St.enterM St.get
    rw [zcq];simp
   rw [Base.val_of (fun _=>rfl) (by simp only [Array.size_append,Array.size_replicate,hsz];omega),hget]
   by_cases ht:t<args.length+1
   ·have htv:t<(vs++[Value.map (some b)]).length:=by simp;omega
    have e1:((vs++[Value.map (some b)]).toArray++Array.replicate (fn.ntmps - (vs++[Value.map (some b)]).toArray.size) undef).getD t undef=(vs++[Value.map (some b)])[t]:=by
     rw [Array.getD_eq_getD_getElem?,Array.getElem?_append_left (by simpa using htv)]
     simp only [List.getElem?_toArray,List.getElem?_eq_getElem htv,Option.getD_some]
    have ht2:t<(args++[AV.mp zbQ]).length:=by simp;omega
    rw [e1]
    simp only [List.getElem?_eq_getElem ht2,Option.getD_some]
    by_cases hlt:t<args.length
    ·rw [List.getElem_append_left hlt,List.getElem_append_left (by omega)]
     exact(hv t hlt (by omega)).open (zY hlt hargs) (fun _ _ h=>h)
    ·have:t=args.length:=by omega
     subst this
     rw [List.getElem_append_right (by omega),List.getElem_append_right (by omega)]
     simp only [Nat.sub_self,List.getElem_singleton]
     exact Has.mp (g:=⟨fun _=>b,fun _=>undef,F⟩) zbQ
   ·simp only [List.getElem?_eq_none (show(args++[AV.mp zbQ]).length<=t by simp;omega),Option.getD_none]
    exact .dead _
  ·obtain⟨rfl,rfl⟩:=hbk r k hr
   exact⟨.inr ⟨rfl,rfl⟩,fun b0 h=>Option.some.inj h,es,c1,c2,c3,c4,fun i hi hv=>(c5 i hi hv).shut (zY hi hcs) fun _ _ h=>h⟩
  ·exact hFb
  ·obtain⟨rfl,_⟩:=hbk r k hr
   obtain⟨rfl,_⟩:=hbk r' k' hr'
   exact absurd rfl hne
 refine wp_mono (wpIn_wide.1 (h _ rfl b _ _ w hk)) fun e a' w' hq=>?_
 obtain⟨σ',g',h1,h2⟩:=hq
 have hret:zeY P σ' fn.results.toList=some res/\σ'.blk zbQ=some (.map (some b) ks' cs')->a'.defers=[]/\∃ v,(results fn a'.tmps).run P w' = .ok v w'/\∃ u,Ending.returned v = .returned u/\zch w' (fun b o=>F b o\/(w.heap.size<=b/\b<w'.heap.size)) res u/\zFI w' (fun b o=>F b o\/(w.heap.size<=b/\b<w'.heap.size)) b ks' cs'/\BelowX w.heap.size (fun x=>x=b) w w':=fun⟨hr,hbl⟩=>by
  obtain⟨v,h3,h4⟩:=h2.results hr
  obtain⟨_,ht,es',d1,d2,d3,d4,d5⟩:=h2.blk zbQ _ hbl
  have hm:g'.m zbQ=b:=ht b rfl
  rw [hm] at d1
  refine⟨h2.defers,v,h3,v,rfl,h4.mono fun _ _=>zlH,⟨(fun b0 h=>by cases h),es',d1,d2,d3,d4,fun i hi hv=>(d5 i hi hv).shut (zY hi hcs') fun b o hf=>zlH (h2.finF b o hf)⟩,h2.below⟩
 cases e with
 | normal=>exact hret h1
 | ret=>exact hret h1
 | exit | goto | panic | outgrown=>exact h1.elim
end
end Go.Proofs.YtpnjjmcimjlfkaaGreatDoor
