/- Texts of this proof, part 21: what the proof uses of them. -/
import Derived.Test.YtpnjjmcimjlfkaaGreatDoorRar
import Derived.Test.YtpnjjmcimjlfkaaGreatDoorRas
set_option maxRecDepth 100000
set_option maxHeartbeats 64000000
namespace Go.Proofs.YtpnjjmcimjlfkaaGreatDoor
section
open Go Go.RowKit
section
variable {P:Program} {A:Base P}
def zGG (ops:Array Oper):Bool:=
 decide (ops.size=5) && Region.noSelect ops && decide (Region.ready .any ops (Array.replicate ops.size false)=[0,1]) &&
 decide (Region.ready .any ops ((Array.replicate ops.size false).setIfInBounds 0 true)=[1]) &&
 Region.free .any ops (((Array.replicate ops.size false).setIfInBounds 0 true).setIfInBounds 1 true) 2 && (Region.ready .any ops (((Array.replicate ops.size false).setIfInBounds 0 true).setIfInBounds 1 true)).contains 2 &&
 Region.free .any ops ((((Array.replicate ops.size false).setIfInBounds 0 true).setIfInBounds 1 true).setIfInBounds 2 true) 3 && (Region.ready .any ops ((((Array.replicate ops.size false).setIfInBounds 0 true).setIfInBounds 1 true).setIfInBounds 2 true)).contains 3 &&
 decide (Region.ready .any ops (((((Array.replicate ops.size false).setIfInBounds 0 true).setIfInBounds 1 true).setIfInBounds 2 true).setIfInBounds 3 true)=[4]) &&
 decide (Region.ready .any ops ((((((Array.replicate ops.size false).setIfInBounds 0 true).setIfInBounds 1 true).setIfInBounds 2 true).setIfInBounds 3 true).setIfInBounds 4 true)=[]) &&
 Region.free .any ops ((Array.replicate ops.size false).setIfInBounds 1 true) 2 && (Region.ready .any ops ((Array.replicate ops.size false).setIfInBounds 1 true)).contains 2 &&
 Region.free .any ops (((Array.replicate ops.size false).setIfInBounds 1 true).setIfInBounds 2 true) 3 && (Region.ready .any ops (((Array.replicate ops.size false).setIfInBounds 1 true).setIfInBounds 2 true)).contains 3 &&
 decide (Region.ready .any ops ((((Array.replicate ops.size false).setIfInBounds 1 true).setIfInBounds 2 true).setIfInBounds 3 true)=[0]) &&
 decide (Region.ready .any ops (((((Array.replicate ops.size false).setIfInBounds 1 true).setIfInBounds 2 true).setIfInBounds 3 true).setIfInBounds 0 true)=[4]) &&
 decide (Region.ready .any ops ((((((Array.replicate ops.size false).setIfInBounds 1 true).setIfInBounds 2 true).setIfInBounds 3 true).setIfInBounds 0 true).setIfInBounds 4 true)=[])
def fieldAt (P:Program) (S:TypeId) (k:Nat):Option Nat:=match P.underlying S with
 | some (.struct fs)=>match fs[k]? with
  | some f=>if P.cellsOf f.type=0 then none else some f.offset
  | none=>none
 | _=>none
theorem zjk {σ:St} {S t:TypeId} {k d:Nat} {q:Operand} {s:String} {a:Array Edge}:zgt P σ ⟨some d,.fieldAddr S q k,t,s,a,none⟩=(fieldAt P S k).bind (shifted (σ.eval q)):=by
 unfold zgt fieldAt
 simp only
 cases P.underlying S with
 | none=>rfl
 | some u=>
  cases u with
  | struct fs=>
   simp only
   cases fs[k]? with
   | none=>rfl
   | some f=>
    simp only
    split <;> rfl
  | _=>rfl
theorem zdF {σ:St} {me r:Nat} {ta tc:TypeId} {q:Operand} {x:AV} (hq:σ.eval q = .box r 0) (hb:zk σ.blks r=some (some (.cell tc [x]))) (hl:zah P ta [x]=some x):zO P σ me (.load ta q)=some (x,.none,True):=by
 have h1:σ.blk r=some (.cell tc [x]):=by unfold St.blk;rw [hb];rfl
 rw [zO,hq,zbi,h1]
 show(zah P ta [x]).map _=_
 rw [hl];rfl
theorem zev {ops:Array Oper} {id:Nat} {ta tb S t0 t1 t2 t3 t4:TypeId} {s0 s1 s2 s3 s4:String} {a0 a1 a2 a3 a4:Array Edge} {k:Nat} {d4:Option Tmp} {c:Call} {g:FuncId} {K:Exit->St->Prop} {env0:List (Nat × AV)} {bl:List (Nat × Option Blk)} {tk:List (Nat × Option Tok)} {x p p':AV} {tc te:TypeId} {ags vx:List AV} {cx:List Operand} {post:Out->Prop} (off:Nat) (bs ks:List Nat)
  (hops:ops=#[⟨some 2,.load ta (.tmp 0),t0,s0,a0,none⟩,⟨some 3,.load tb (.tmp 1),t1,s1,a1,none⟩,⟨some 4,.nilCheck (.tmp 3),t2,s2,a2,none⟩,⟨some 5,.fieldAddr S (.tmp 4) k,t3,s3,a3,none⟩,⟨d4,.call c,t4,s4,a4,none⟩])
  (hcl:c.callee = .value (.func g)) (hP:P.follows .mixedOrders=true) (hro:A.ro=none) (hN:5<A.N) (hd4:zaf A.N ⟨d4,.call c,t4,s4,a4,none⟩=true) (hR:zGG ops=true)
  (h0:zk env0 0=some (.box 904 0)) (h1:zk env0 1=some (.box 905 0)) (h904:zk bl 904=some (some (.cell tc [x]))) (h905:zk bl 905=some (some (.cell te [p]))) (hl0:zah P ta [x]=some x) (hl1:zah P tb [p]=some p) (hpp:p.ptr=true)
  (hfk:fieldAt P S k=some off) (hsh:shifted p off=some p') (hargs:c.args.toList = .tmp 2 :: .tmp 5 :: cx) (hcx:∀ σ:St,cx.map σ.eval=vx) (ha:zbk (x :: p' :: (vx++[]))=some ags)
  (hc:zI P g ags (St.lends ⟨[],bl,tk⟩ bs ks) post) (hL:zcy ⟨[],bl,tk⟩ bs ks=true) (hK:∀ c σ,K (.panic c) σ->K (.panic c) ⟨[],[],[]⟩)
  (hr:∀ env res L',post (.ret res L')->K .normal ⟨env,L'.blks++bl.map (zku (St.lends ⟨[],bl,tk⟩ bs ks)),L'.toks++tk.map zkt⟩) (hpn:∀ pv,post (.pan pv)->K (.panic [{ v:=pv,recovered:=false }]) ⟨[],[],[]⟩) :
  SatC P A (.region id ops true) ⟨env0,bl,tk⟩ K:=by
 simp only [zGG,Bool.and_eq_true,decide_eq_true_eq] at hR
 obtain⟨⟨⟨⟨⟨⟨⟨⟨⟨⟨⟨⟨⟨⟨⟨⟨hsz,hns⟩,r0⟩,r1⟩,f2⟩,c2⟩,f3⟩,c3⟩,r4⟩,r5⟩,f2'⟩,c2'⟩,f3'⟩,c3'⟩,r0'⟩,r4'⟩,r5'⟩:=hR
 have e0:ops[0]? = some ⟨some 2,.load ta (.tmp 0),t0,s0,a0,none⟩:=by rw [hops];rfl
 have e1:ops[1]? = some ⟨some 3,.load tb (.tmp 1),t1,s1,a1,none⟩:=by rw [hops];rfl
 have e2:ops[2]? = some ⟨some 4,.nilCheck (.tmp 3),t2,s2,a2,none⟩:=by rw [hops];rfl
 have e3:ops[3]? = some ⟨some 5,.fieldAddr S (.tmp 4) k,t3,s3,a3,none⟩:=by rw [hops];rfl
 have e4:ops[4]? = some ⟨d4,.call c,t4,s4,a4,none⟩:=by rw [hops];rfl
 have dk:∀ n,n<6->decide (n<A.N)=true:=fun n hn=>decide_eq_true (by omega)
 have hnil:∀ σ:St,σ.get 3=p->zgt P σ ⟨some 4,.nilCheck (.tmp 3),t2,s2,a2,none⟩=some p:=fun σ h=>by
  show(if (σ.get 3).ptr=true then some (σ.get 3) else none)=some p
  rw [h,if_pos hpp]
 have hfa:∀ σ:St,σ.eval (.tmp 4)=p->zgt P σ ⟨some 5,.fieldAddr S (.tmp 4) k,t3,s3,a3,none⟩=some p':=fun σ h=>by
  rw [zjk,hfk,h];exact hsh
 have ha':∀ σ:St,σ.get 2=x->σ.get 5=p'->zbk (c.args.toList.map σ.eval++[])=some ags:=fun σ h h'=>by
  rw [hargs,List.map_cons,List.map_cons,hcx]
  show zbk (σ.get 2 :: σ.get 5 :: (vx++[]))=_
  rw [h,h'];exact ha
 have call:∀ (fuel:Nat) (listed:Array Bool) (env:List (Nat × AV)),(⟨env,bl,tk⟩:St).get 2=x->(⟨env,bl,tk⟩:St).get 5=p'->Region.ready .any ops listed=[4]->Region.ready .any ops (listed.setIfInBounds 4 true)=[]->zfC P A ops (fuel+1) listed ⟨env,bl,tk⟩ K:=fun fuel listed env h2 h5 hr4 hr5=>by
  refine zao 4 hr4 (zfg bs ks e4 rfl hc rfl hcl rfl (ha' _ h2 h5) hL hd4 (fun res L' hp=>?_) hpn)
  refine zdt hr5 ?_
  have:=hr (match d4 with
   | some t=>(t,res) :: env.map fun x=>(x.1,x.2.killS)
   | none=>env.map fun x=>(x.1,x.2.killS)) res L' hp
  cases d4 <;> exact this
 refine zgn hP ?_
 rw [show zfC P A ops ops.size (Array.replicate ops.size false) ⟨env0,bl,tk⟩ K=zfC P A ops 5 (Array.replicate ops.size false) ⟨env0,bl,tk⟩ K by rw [hsz]]
 have g0:∀ (env:List (Nat × AV)),zk env 0=some (.box 904 0)->(⟨env,bl,tk⟩:St).eval (.tmp 0) = .box 904 0:=fun env h=>by
  show(zk env 0).getD .dead=_;rw [h];rfl
 have g1:∀ (env:List (Nat × AV)),zk env 1=some (.box 905 0)->(⟨env,bl,tk⟩:St).eval (.tmp 1) = .box 905 0:=fun env h=>by
  show(zk env 1).getD .dead=_;rw [h];rfl
 refine zhb 0 1 r0 ?_ ?_
 ·refine zbu 0 0 e0 rfl (zdF (g0 env0 h0) h904 hl0) trivial (fun h=>by cases h) (dk 2 (by omega)) ?_
  refine zao 1 r1 (zbu 0 1 e1 rfl (zdF (σ:=⟨(2,x) :: env0,bl,tk⟩) (g1 _ (by rw [zk,if_neg (by decide)];exact h1)) h905 hl1) trivial (fun h=>by cases h) (dk 3 (by omega)) ?_)
  refine zci 2 e2 hro hns f2 c2 hK (hnil _ rfl) (dk 4 (by omega)) ?_
  refine zci 3 e3 hro hns f3 c3 hK (hfa _ rfl) (dk 5 (by omega)) ?_
  exact call 0 _ ((5,p') :: (4,p) :: (3,p) :: (2,x) :: env0) rfl rfl r4 r5
 ·refine zbu 0 1 e1 rfl (zdF (g1 env0 h1) h905 hl1) trivial (fun h=>by cases h) (dk 3 (by omega)) ?_
  refine zci 2 e2 hro hns f2' c2' hK (hnil _ rfl) (dk 4 (by omega)) ?_
  refine zci 3 e3 hro hns f3' c3' hK (hfa _ rfl) (dk 5 (by omega)) ?_
  refine zao 0 r0' (zbu 0 0 e0 rfl (zdF (σ:=⟨(5,p') :: (4,p) :: (3,p) :: env0,bl,tk⟩) (g0 _ (by rw [zk,if_neg (by decide),zk,if_neg (by decide),zk,if_neg (by decide)];exact h0)) h904 hl0) trivial (fun h=>by cases h) (dk 2 (by omega)) ?_)
  exact call 0 _ ((2,x) :: (5,p') :: (4,p) :: (3,p) :: env0) rfl rfl r4' r5'
theorem zun {fuel:Nat} {ops:Array Oper} {listed:Array Bool} {σ:St} {K:Exit->St->Prop} (i:Nat) {o:Oper} {x:AV} (ho:ops[i]? = some o) (hro:A.ro=none) (hs:Region.noSelect ops=true) (hf:Region.free .any ops listed i=true) (hr:(Region.ready .any ops listed).contains i=true) (hK:∀ c σ,K (.panic c) σ->K (.panic c) ⟨[],[],[]⟩) (hp:∀ g a w,Ok A σ g a w->∃ v,YieldsFenced P ops o v a/\Has g σ.tk w x v) (hd:zaf A.N o=true) (h:zfC P A ops fuel (listed.setIfInBounds i true) (σ.put o.dst x) K):zfC P A ops (fuel+1) listed σ K:=fun g a w hk=>by
 obtain⟨v,hy,hh⟩:=hp g a w hk
 refine wpAnyIn_take hro ho hs hf hr (fun c a' w' hq=>?_) hy (h g _ w (hk.put o.dst (zaO hd) hh))
 obtain⟨σ',g',h1,h2⟩:=hq
 have e1:(a'.put o.dst v).defers=a'.defers:=by cases o.dst <;> rfl
 have e2:(a'.put o.dst v).tmps.size=a'.tmps.size:=by cases o.dst <;> simp [Act.put]
 refine⟨⟨[],[],[]⟩,⟨g'.m,g'.tv,A.F0⟩,hK c σ' h1,h2.below,h2.hB,fun _ _ h=>h,fun _ _ h=>.inl h,fun b o hf=>h2.Fb b o (h2.F0 b o hf),by rw [<- e1];exact h2.defers,by rw [<- e2];exact h2.size,fun t=>.dead _,fun r b h=>by simp [St.blk,zk] at h,fun r b h=>by simp [St.blk,zk] at h,fun r b r' b' h=>by simp [St.blk,zk] at h,fun r k h=>by simp [St.tok,zk] at h,fun r k x h=>by simp [St.tok,zk] at h,fun r k r' b x h=>by simp [St.tok,zk] at h,fun r k r' k' x h=>by simp [St.tok,zk] at h,h2.fix,fun r n0 _ n hn=>by simp [St.tk,St.tok,zk] at hn⟩
theorem zot {ops:Array Oper} {σ:St} {o:Oper} {f:FuncId} {p q:Operand} (ho:o.op = .makeFunc (.func f) #[] #[p,q]) (hg:o.guard=none) (g:Gh) (a:Act) (w:World) (hk:Ok A σ g a w):∃ v,YieldsFenced P ops o v a/\Has g σ.tk w (.fn f [σ.eval p,σ.eval q]) v:=
 ⟨.func (.func f) #[] #[a.eval p,a.eval q],⟨.inl ⟨zco hg _ _,fun w=>by simp [execOp,ho,Instr.makeFunc]⟩,fun w=>by simp [Oper.about,ho]⟩,.fn f _ [a.eval p,a.eval q] rfl fun i hi hv=>by
  match i,hi with
  | 0,_=>exact hk.eval p
  | 1,_=>exact hk.eval q⟩
def zEz (ops:Array Oper):Bool:=
 decide (ops.size=6) && Region.noSelect ops && Region.free .any ops (Array.replicate ops.size false) 4 && (Region.ready .any ops (Array.replicate ops.size false)).contains 4 &&
 decide (Region.ready .any ops (((Array.replicate ops.size false).setIfInBounds 4 true))=[0,1]) &&
 decide (Region.ready .any ops (((Array.replicate ops.size false).setIfInBounds 4 true).setIfInBounds 0 true)=[1]) &&
 Region.free .any ops ((((Array.replicate ops.size false).setIfInBounds 4 true).setIfInBounds 0 true).setIfInBounds 1 true) 2 && (Region.ready .any ops ((((Array.replicate ops.size false).setIfInBounds 4 true).setIfInBounds 0 true).setIfInBounds 1 true)).contains 2 &&
 Region.free .any ops (((((Array.replicate ops.size false).setIfInBounds 4 true).setIfInBounds 0 true).setIfInBounds 1 true).setIfInBounds 2 true) 3 && (Region.ready .any ops (((((Array.replicate ops.size false).setIfInBounds 4 true).setIfInBounds 0 true).setIfInBounds 1 true).setIfInBounds 2 true)).contains 3 &&
 decide (Region.ready .any ops ((((((Array.replicate ops.size false).setIfInBounds 4 true).setIfInBounds 0 true).setIfInBounds 1 true).setIfInBounds 2 true).setIfInBounds 3 true)=[5]) &&
 decide (Region.ready .any ops (((((((Array.replicate ops.size false).setIfInBounds 4 true).setIfInBounds 0 true).setIfInBounds 1 true).setIfInBounds 2 true).setIfInBounds 3 true).setIfInBounds 5 true)=[]) &&
 Region.free .any ops (((Array.replicate ops.size false).setIfInBounds 4 true).setIfInBounds 1 true) 2 && (Region.ready .any ops (((Array.replicate ops.size false).setIfInBounds 4 true).setIfInBounds 1 true)).contains 2 &&
 Region.free .any ops ((((Array.replicate ops.size false).setIfInBounds 4 true).setIfInBounds 1 true).setIfInBounds 2 true) 3 && (Region.ready .any ops ((((Array.replicate ops.size false).setIfInBounds 4 true).setIfInBounds 1 true).setIfInBounds 2 true)).contains 3 &&
 decide (Region.ready .any ops (((((Array.replicate ops.size false).setIfInBounds 4 true).setIfInBounds 1 true).setIfInBounds 2 true).setIfInBounds 3 true)=[0]) &&
 decide (Region.ready .any ops ((((((Array.replicate ops.size false).setIfInBounds 4 true).setIfInBounds 1 true).setIfInBounds 2 true).setIfInBounds 3 true).setIfInBounds 0 true)=[5]) &&
 decide (Region.ready .any ops (((((((Array.replicate ops.size false).setIfInBounds 4 true).setIfInBounds 1 true).setIfInBounds 2 true).setIfInBounds 3 true).setIfInBounds 0 true).setIfInBounds 5 true)=[])
theorem zFj {ops:Array Oper} {id:Nat} {ta tb S t0 t1 t2 t3 t4 t5:TypeId} {s0 s1 s2 s3 s4 s5:String} {a0 a1 a2 a3 a4 a5:Array Edge} {fm:FuncId} {k:Nat} {d4:Option Tmp} {c:Call} {g:FuncId} {K:Exit->St->Prop} {env0:List (Nat × AV)} {bl:List (Nat × Option Blk)} {tk:List (Nat × Option Tok)} {x p p':AV} {tc te:TypeId} {ags:List AV} {post:Out->Prop} (off:Nat) (bs ks:List Nat)
  (hops:ops=#[⟨some 3,.load ta (.tmp 0),t0,s0,a0,none⟩,⟨some 4,.load tb (.tmp 1),t1,s1,a1,none⟩,⟨some 5,.nilCheck (.tmp 4),t2,s2,a2,none⟩,⟨some 6,.fieldAddr S (.tmp 5) k,t3,s3,a3,none⟩,⟨some 7,.makeFunc (.func fm) #[] #[.tmp 0,.tmp 2],t5,s5,a5,none⟩,⟨d4,.call c,t4,s4,a4,none⟩])
  (hcl:c.callee = .value (.func g)) (hP:P.follows .mixedOrders=true) (hro:A.ro=none) (hN:7<A.N) (hd4:zaf A.N ⟨d4,.call c,t4,s4,a4,none⟩=true) (hR:zEz ops=true)
  (h0:zk env0 0=some (.box 904 0)) (h1:zk env0 1=some (.box 905 0)) (h2:zk env0 2=some (.box 906 0)) (h904:zk bl 904=some (some (.cell tc [x]))) (h905:zk bl 905=some (some (.cell te [p]))) (hl0:zah P ta [x]=some x) (hl1:zah P tb [p]=some p) (hpp:p.ptr=true)
  (hfk:fieldAt P S k=some off) (hsh:shifted p off=some p') (hargs:c.args.toList=[.tmp 3,.tmp 6,.tmp 7]) (ha:zbk [x,p',.fn fm [.box 904 0,.box 906 0]]=some ags)
  (hc:zI P g ags (St.lends ⟨[],bl,tk⟩ bs ks) post) (hL:zcy ⟨[],bl,tk⟩ bs ks=true) (hK:∀ c σ,K (.panic c) σ->K (.panic c) ⟨[],[],[]⟩)
  (hr:∀ env res L',post (.ret res L')->K .normal ⟨env,L'.blks++bl.map (zku (St.lends ⟨[],bl,tk⟩ bs ks)),L'.toks++tk.map zkt⟩) (hpn:∀ pv,post (.pan pv)->K (.panic [{ v:=pv,recovered:=false }]) ⟨[],[],[]⟩) :
  SatC P A (.region id ops true) ⟨env0,bl,tk⟩ K:=by
 simp only [zEz,Bool.and_eq_true,decide_eq_true_eq] at hR
 obtain⟨⟨⟨⟨⟨⟨⟨⟨⟨⟨⟨⟨⟨⟨⟨⟨⟨⟨hsz,hns⟩,fm4⟩,cm4⟩,r0⟩,r1⟩,f2⟩,c2⟩,f3⟩,c3⟩,r4⟩,r5⟩,f2'⟩,c2'⟩,f3'⟩,c3'⟩,r0'⟩,r4'⟩,r5'⟩:=hR
 have e0:ops[0]? = some ⟨some 3,.load ta (.tmp 0),t0,s0,a0,none⟩:=by rw [hops];rfl
 have e1:ops[1]? = some ⟨some 4,.load tb (.tmp 1),t1,s1,a1,none⟩:=by rw [hops];rfl
 have e2:ops[2]? = some ⟨some 5,.nilCheck (.tmp 4),t2,s2,a2,none⟩:=by rw [hops];rfl
 have e3:ops[3]? = some ⟨some 6,.fieldAddr S (.tmp 5) k,t3,s3,a3,none⟩:=by rw [hops];rfl
 have em:ops[4]? = some ⟨some 7,.makeFunc (.func fm) #[] #[.tmp 0,.tmp 2],t5,s5,a5,none⟩:=by rw [hops];rfl
 have e4:ops[5]? = some ⟨d4,.call c,t4,s4,a4,none⟩:=by rw [hops];rfl
 have dk:∀ n,n<8->decide (n<A.N)=true:=fun n hn=>decide_eq_true (by omega)
 have hnil:∀ σ:St,σ.get 4=p->zgt P σ ⟨some 5,.nilCheck (.tmp 4),t2,s2,a2,none⟩=some p:=fun σ h=>by
  show(if (σ.get 4).ptr=true then some (σ.get 4) else none)=some p
  rw [h,if_pos hpp]
 have hfa:∀ σ:St,σ.eval (.tmp 5)=p->zgt P σ ⟨some 6,.fieldAddr S (.tmp 5) k,t3,s3,a3,none⟩=some p':=fun σ h=>by
  rw [zjk,hfk,h];exact hsh
 have ha':∀ σ:St,σ.get 3=x->σ.get 6=p'->σ.get 7 = .fn fm [.box 904 0,.box 906 0]->zbk (c.args.toList.map σ.eval++[])=some ags:=fun σ h h' h7=>by
  rw [hargs]
  show zbk [σ.get 3,σ.get 6,σ.get 7]=_
  rw [h,h',h7];exact ha
 have call:∀ (fuel:Nat) (listed:Array Bool) (env:List (Nat × AV)),(⟨env,bl,tk⟩:St).get 3=x->(⟨env,bl,tk⟩:St).get 6=p'->(⟨env,bl,tk⟩:St).get 7 = .fn fm [.box 904 0,.box 906 0]->Region.ready .any ops listed=[5]->Region.ready .any ops (listed.setIfInBounds 5 true)=[]->zfC P A ops (fuel+1) listed ⟨env,bl,tk⟩ K:=fun fuel listed env h2 h5 h7 hr4 hr5=>by
  refine zao 5 hr4 (zfg bs ks e4 rfl hc rfl hcl rfl (ha' _ h2 h5 h7) hL hd4 (fun res L' hp=>?_) hpn)
  refine zdt hr5 ?_
  have:=hr (match d4 with
   | some t=>(t,res) :: env.map fun x=>(x.1,x.2.killS)
   | none=>env.map fun x=>(x.1,x.2.killS)) res L' hp
  cases d4 <;> exact this
 refine zgn hP ?_
 rw [show zfC P A ops ops.size (Array.replicate ops.size false) ⟨env0,bl,tk⟩ K=zfC P A ops 6 (Array.replicate ops.size false) ⟨env0,bl,tk⟩ K by rw [hsz]]
 have g0:∀ (env:List (Nat × AV)),zk env 0=some (.box 904 0)->(⟨env,bl,tk⟩:St).eval (.tmp 0) = .box 904 0:=fun env h=>by
  show(zk env 0).getD .dead=_;rw [h];rfl
 have g1:∀ (env:List (Nat × AV)),zk env 1=some (.box 905 0)->(⟨env,bl,tk⟩:St).eval (.tmp 1) = .box 905 0:=fun env h=>by
  show(zk env 1).getD .dead=_;rw [h];rfl
 have e0':(⟨env0,bl,tk⟩:St).eval (.tmp 2) = .box 906 0:=by show(zk env0 2).getD .dead=_;rw [h2];rfl
 refine zun 4 em hro hns fm4 cm4 hK (zot rfl rfl) (dk 7 (by omega)) ?_
 rw [g0 env0 h0,e0']
 refine zhb 0 1 r0 ?_ ?_
 ·refine zbu 0 0 e0 rfl (zdF (σ:=⟨(7,.fn fm [.box 904 0,.box 906 0]) :: env0,bl,tk⟩) (g0 _ (by rw [zk,if_neg (by decide)];exact h0)) h904 hl0) trivial (fun h=>by cases h) (dk 3 (by omega)) ?_
  refine zao 1 r1 (zbu 0 1 e1 rfl (zdF (σ:=⟨(3,x) :: (7,.fn fm [.box 904 0,.box 906 0]) :: env0,bl,tk⟩) (g1 _ (by rw [zk,if_neg (by decide),zk,if_neg (by decide)];exact h1)) h905 hl1) trivial (fun h=>by cases h) (dk 4 (by omega)) ?_)
  refine zci 2 e2 hro hns f2 c2 hK (hnil _ rfl) (dk 5 (by omega)) ?_
  refine zci 3 e3 hro hns f3 c3 hK (hfa _ rfl) (dk 6 (by omega)) ?_
  exact call 0 _ ((6,p') :: (5,p) :: (4,p) :: (3,x) :: (7,.fn fm [.box 904 0,.box 906 0]) :: env0) rfl rfl rfl r4 r5
 ·refine zbu 0 1 e1 rfl (zdF (σ:=⟨(7,.fn fm [.box 904 0,.box 906 0]) :: env0,bl,tk⟩) (g1 _ (by rw [zk,if_neg (by decide)];exact h1)) h905 hl1) trivial (fun h=>by cases h) (dk 4 (by omega)) ?_
  refine zci 2 e2 hro hns f2' c2' hK (hnil _ rfl) (dk 5 (by omega)) ?_
  refine zci 3 e3 hro hns f3' c3' hK (hfa _ rfl) (dk 6 (by omega)) ?_
  refine zao 0 r0' (zbu 0 0 e0 rfl (zdF (σ:=⟨(6,p') :: (5,p) :: (4,p) :: (7,.fn fm [.box 904 0,.box 906 0]) :: env0,bl,tk⟩) (g0 _ (by rw [zk,if_neg (by decide),zk,if_neg (by decide),zk,if_neg (by decide),zk,if_neg (by decide)];exact h0)) h904 hl0) trivial (fun h=>by cases h) (dk 3 (by omega)) ?_)
  exact call 0 _ ((3,x) :: (6,p') :: (5,p) :: (4,p) :: (7,.fn fm [.box 904 0,.box 906 0]) :: env0) rfl rfl rfl r4' r5'
theorem zEY (n:Nat) {all:List Oper} {o:Oper} {rest:List Oper} {i base:Nat} {acc:List RI} {s:List Itm} {σ:St} {Q:Exit->St->Prop} {t:TypeId} {p q:Operand} {r r2:Nat} {rows rows2:List (List D)} {k:Tok} {z:Value} (hg:zcX A.N all σ o=some true) (ho:o.op = .call { callee:=.builtin .append,args:=#[p,q],argTypes:=#[t,t] }) (hp:σ.eval p = .grow r rows) (hq:σ.eval q = .grow r2 rows2) (hr:σ.tok r=some k) (hex:k.ex=none)
  (ht:P.underlying t=some (.slice k.ty)) (hz:zx P k.ty=some z) (hzs:z.cells.size=P.cellsOf k.ty) (h0:P.cellsOf k.ty≠0) (hst:P.cellsOf k.ty=k.st) (hby:P.bytesOf k.ty<=1024) (hlen:rows.length=k.len) (hfit:zam k.st rows2) (hfit0:∀ r ∈ rows,r.length=k.st) (hbd:rows.length+rows2.length<=137438953472) (hd:zaf A.N o=true) (hne:r≠base+i)
  (h:go P A n (.dops all rest (i+1) base (acc++[zhd σ o (.grow r (rows++rows2)) (.tok r { k with len:=k.len+rows2.length })])) s ((σ.setTok r (some { k with len:=k.len+rows2.length })).put o.dst (.grow r (rows++rows2))) Q):zbL P A (.dops all (o :: rest) i base acc) s σ Q:=by
 have hh:zEk P σ (base+i) o (.grow r (rows++rows2)) (.tok r { k with len:=k.len+rows2.length }):=⟨fun e=>absurd (Option.some.inj e) hne,fun A' σ' he hbt _=>by
  have m1:σ'.eval p = .grow r rows:=(he p (by rw [ho];simp [Op.operands,Call.operands])).trans hp
  have m2:σ'.eval q = .grow r2 rows2:=(he q (by rw [ho];simp [Op.operands,Call.operands])).trans hq
  have m3:=(hbt p (by rw [ho];simp [zag]) r (by rw [m1];simp [AV.ment])).2.trans hr
  exact zqs ho m1 (by rw [m2];rfl) m3 hex ht hz hzs h0 hst hby hlen hfit hfit0 hbd⟩
 exact fun hP=>zdL hg (.inr (.inr (.inr (.inr hh)))) hd (zar n _ _ _ _ h hP)
end
end
section
open Go Go.RowKit Go.Shelf
attribute [local go_sem] Oper.semAt_some St.ren zhZ zgU AV.ren zdd Blk.ren St.setBlk List.getD_cons_zero
theorem zdk (l:List UInt8):(zC l).take l.length=zC l:=by
 rw [<- zh l,List.take_length]
abbrev zso (ver:Nat) (l:List UInt8):Blk:=.cell 202 [.stk 910 1 ver 0 l.length,.d (.raw (.bool false))]
abbrev owL (ver:Nat) (l:List UInt8):Lent:=⟨[(901,some (zso ver l))],[(910,some ⟨1,5,ver,some (zC l)⟩)]⟩
def zmN (l t:List UInt8) (o:Out):Prop:=∃ ver,o = .ret (.tup []) (owL ver (l++t))
theorem zav {l t:List UInt8} {res:AV} {L':Lent} (h:zmN l t (.ret res L')):res = .tup []/\∃ ver,L'=owL ver (l++t):=by
 obtain⟨ver,h⟩:=h
 cases h;exact⟨rfl,ver,rfl⟩
theorem zaw {l t:List UInt8} {v:Value} (h:zmN l t (.pan v)):False:=by
 obtain⟨ver,h⟩:=h;cases h
theorem zdS (ver:Nat) (l:List UInt8) (n:Nat) (hn:n<=1099511627776) (hb:l.length+(zb n).length<=1099511627776):zI Tryz.prog 172 [.box 901 0,.d (.raw (.int .i64 n))] (owL ver l) (zmN l (zb n)):=by
 refine kL [901] [910] Tryz.func172 Tryz.ntmps172 fun A hA hX=>?_
 have z0:(decide ¬ (0:Int)=0)=false:=by decide
 refine goC 400 ?_
 simp only [go_sem,hA]
 refine gC (zhg n hn) ?_
 simp only [go_sem,hA,zh,zdk,zck,zbm,<- List.length_append,Tryz.results172]
 exact⟨⟨Nat.le_refl _,by rw [List.length_append];exact hb⟩,_,rfl,rfl,_,rfl⟩
theorem zjX (ver:Nat) (l:List UInt8) (s:ByteArray) (hs:s.size<=65536) (hb:l.length+(zi s).length<=1099511627776):zI Tryz.prog 173 [.box 901 0,.d (.raw (.string s))] (owL ver l) (zmN l (zi s)):=by
 refine kL [901] [910] Tryz.func173 Tryz.ntmps173 fun A hA hX=>?_
 have z0:(decide ¬ (0:Int)=0)=false:=by decide
 refine goC 400 ?_
 simp only [go_sem,hA]
 refine gC (zhK s hs) ?_
 simp only [go_sem,hA,zh,zdk,zck,zbm,<- List.length_append,Tryz.results173]
 exact⟨⟨Nat.le_refl _,by rw [List.length_append];exact hb⟩,_,rfl,rfl,_,rfl⟩
theorem zFM (n:Int) (h:0<=n) (s:Nat):[[D.raw (.int .u8 (IntKind.u8.wrap (n.fdiv (2 ^ s))))]]=zC [(n.toNat / 2 ^ s).toUInt8]:=by
 have e:n.fdiv (2 ^ s)=((n.toNat / 2 ^ s:Nat):Int):=by
  rw [Int.fdiv_eq_ediv_of_nonneg _ (Int.le_of_lt (Int.pow_pos (by decide)))]
  have h1:n=(n.toNat:Int):=(Int.toNat_of_nonneg h).symm
  conv=>lhs;rw [h1]
  rw [show((2:Int) ^ s)=((2 ^ s:Nat):Int) by simp]
  exact(Int.natCast_ediv _ _).symm
 rw [e]
 have hw:∀ m:Nat,IntKind.u8.wrap (m:Int)=((m.toUInt8).toNat:Nat):=fun m=>by
  have h2:IntKind.u8.wrap (m:Int)=(m:Int) % 256:=rfl
  rw [h2,Nat.toUInt8,UInt8.toNat_ofNat'];omega
 rw [hw];rfl
theorem zvR (n:Int) (k:Nat) (hk:k<8):(zaD n).take (k+1)=(zaD n).take k++[(n.toNat / 2 ^ (56 - 8 * k)).toUInt8]:=by
 have hc:k=0\/k=1\/k=2\/k=3\/k=4\/k=5\/k=6\/k=7:=by omega
 rcases hc with rfl | rfl | rfl | rfl | rfl | rfl | rfl | rfl <;> rfl
theorem zEo (n:Int) (h:0<=n) (k:Nat) (hk:k<8):[[D.raw (.int .u8 (IntKind.u8.wrap (n.fdiv (2 ^ min (56 - 8 * (k:Int)).toNat 64))))]]=zC [(n.toNat / 2 ^ (56 - 8 * k)).toUInt8]:=by
 have e:min (56 - 8 * (k:Int)).toNat 64=56 - 8 * k:=by omega
 rw [e];exact zFM n h _
theorem zE (n:Int):(zaD n).length=8:=rfl
abbrev zzW (d:Int × Int) (ver:Nat) (l:List UInt8) (i:Int):St:=⟨[(0,.box 901 0),(7,zew d),(8,.d (.raw (.int .i64 i)))],[(901,some (zso ver l))],[(910,some ⟨1,5,ver,some (zC l)⟩)]⟩
abbrev zsB (d:Int × Int) (ver:Nat) (l:List UInt8) (i:Int) (n s:Int):St:=⟨[(0,.box 901 0),(5,.d (.raw (.int .u64 n))),(6,.d (.raw (.int .i64 s))),(7,zew d),(8,.d (.raw (.int .i64 i)))],[(901,some (zso ver l))],[(910,some ⟨1,5,ver,some (zC l)⟩)]⟩
theorem znw (ver:Nat) (l:List UInt8) (d:Int × Int) (h1:0<=d.1/\d.1<18446744073709551616) (h2:0<=d.2/\d.2<18446744073709551616) (hb:l.length+16<=1099511627776):zI Tryz.prog 174 [.box 901 0,zew d] (owL ver l) (zmN l (dgL d)):=by
 refine kL [901] [910] Tryz.func174 Tryz.ntmps174 fun A hA hX=>?_
 refine goC 400 ?_
 simp only [go_sem,hA]
 refine zc [0,7,8] [901] [910] (fun y σ=>∃ (i:Nat) (j:Int) (p:List UInt8) (ver:Nat),((i=0/\j=0/\p=[])\/(i=1/\j=1/\p=zaD d.1)\/(i=2/\j=2/\p=dgL d))/\y=2 - i/\σ=zzW d ver (l++p) j) 2 ⟨0,0,[],ver,.inl ⟨rfl,rfl,rfl⟩,rfl,by simp only [go_sem,zzW,List.append_nil]⟩ ?_
 rintro y σ ⟨i,j,p,ver,hi,rfl,rfl⟩
 rcases hi with⟨rfl,rfl,rfl⟩ | ⟨rfl,rfl,rfl⟩ | ⟨rfl,rfl,rfl⟩
 ·refine goC 400 ?_
  simp only [go_sem,hA,zzW,List.append_nil,List.getElem?_cons_zero]
  refine zc [0,5,6,7,8] [901] [910] (fun y σ=>∃ (k:Nat) (s:Int) (ver:Nat),k<=8/\s=56 - 8 * (k:Int)/\y=8 - k/\σ=zsB d ver (l++(zaD d.1).take k) 0 d.1 s) 8 ⟨0,56,ver,by omega,by omega,rfl,by simp only [go_sem,zsB,List.take_zero,List.append_nil]⟩ ?_
  rintro y σ ⟨k,s,ver,hk,rfl,rfl,rfl⟩
  by_cases hlt:k<8
  ·have k1:decide ((0:Int)<=56 - 8 * (k:Int))=true:=decide_eq_true (by omega)
   have hr:=zEo d.1 h1.1 k hlt
   have hlen:(l++(zaD d.1).take k).length<=1099511627775:=by rw [List.length_append,List.length_take];omega
   refine goC 400 ?_
   simp only [go_sem,hA,zsB,k1,mixed,hr,zdk,zh,zck,List.append_assoc]
   refine⟨by omega,⟨(fun r hr=>by obtain⟨c,_,rfl⟩:=List.mem_map.1 hr;exact⟨rfl,fun x hx=>by simp at hx;subst hx;rfl⟩),by omega,by first | exact hlen | (simp only [List.append_assoc] at hlen;exact hlen)⟩,by show chk _ _ _=true;kernel_rfl,by unfold za;omega,8 - (k+1),by omega,k+1,_,ver+1,by omega,rfl,rfl,?_⟩
   have hs:(56:Int) - 8 * (k:Int) - 8=56 - 8 * ((k+1:Nat):Int):=by omega
   rw [zvR d.1 k hlt,hs]
   have hl2:(l++(zaD d.1).take k).length+1=(l++((zaD d.1).take k++[(d.1.toNat / 2 ^ (56 - 8 * k)).toUInt8])).length:=by simp only [List.length_append,List.length_singleton];omega
   rw [hl2]
  ·have k1:decide ((0:Int)<=56 - 8 * (k:Int))=false:=decide_eq_false (by omega)
   have hk8:k=8:=by omega
   have ht:(zaD d.1).take k=zaD d.1:=by rw [hk8];rfl
   refine goC 400 ?_
   simp only [go_sem,hA,zsB,k1,ht]
   exact⟨by unfold za;omega,1,by omega,1,1,_,_,.inr (.inl ⟨rfl,rfl,rfl⟩),rfl,by rfl⟩
 ·refine goC 400 ?_
  simp only [go_sem,hA,zzW,List.getElem?_cons_zero,List.getElem?_cons_succ]
  refine zc [0,5,6,7,8] [901] [910] (fun y σ=>∃ (k:Nat) (s:Int) (ver:Nat),k<=8/\s=56 - 8 * (k:Int)/\y=8 - k/\σ=zsB d ver ((l++zaD d.1)++(zaD d.2).take k) 1 d.2 s) 8 ⟨0,56,ver,by omega,by omega,rfl,by simp only [go_sem,zsB,List.take_zero,List.append_nil]⟩ ?_
  rintro y σ ⟨k,s,ver,hk,rfl,rfl,rfl⟩
  by_cases hlt:k<8
  ·have k1:decide ((0:Int)<=56 - 8 * (k:Int))=true:=decide_eq_true (by omega)
   have hr:=zEo d.2 h2.1 k hlt
   have hlen:((l++zaD d.1)++(zaD d.2).take k).length<=1099511627775:=by rw [List.length_append,List.length_take,List.length_append,zE];omega
   refine goC 400 ?_
   simp only [go_sem,hA,zsB,k1,mixed,hr,zdk,zh,zck,List.append_assoc]
   refine⟨by omega,⟨(fun r hr=>by obtain⟨c,_,rfl⟩:=List.mem_map.1 hr;exact⟨rfl,fun x hx=>by simp at hx;subst hx;rfl⟩),by omega,by first | exact hlen | (simp only [List.append_assoc] at hlen;exact hlen)⟩,by show chk _ _ _=true;kernel_rfl,by unfold za;omega,8 - (k+1),by omega,k+1,_,ver+1,by omega,rfl,rfl,?_⟩
   have hs:(56:Int) - 8 * (k:Int) - 8=56 - 8 * ((k+1:Nat):Int):=by omega
   rw [zvR d.2 k hlt,hs]
   have hl2:((l++zaD d.1)++(zaD d.2).take k).length+1=((l++zaD d.1)++((zaD d.2).take k++[(d.2.toNat / 2 ^ (56 - 8 * k)).toUInt8])).length:=by simp only [List.length_append,List.length_singleton];omega
   simp only [List.append_assoc] at hl2 ⊢
   rw [hl2]
  ·have k1:decide ((0:Int)<=56 - 8 * (k:Int))=false:=decide_eq_false (by omega)
   have hk8:k=8:=by omega
   have ht:(zaD d.2).take k=zaD d.2:=by rw [hk8];rfl
   refine goC 400 ?_
   simp only [go_sem,hA,zsB,k1,ht]
   exact⟨by unfold za;omega,0,by omega,2,2,_,_,.inr (.inr ⟨rfl,rfl,rfl⟩),rfl,by simp only [dgL,List.append_assoc];rfl⟩
 ·refine goC 400 ?_
  simp only [go_sem,hA,zzW,Tryz.results174]
  exact⟨_,rfl,rfl,ver,rfl⟩
end
section
open Go Go.RowKit
variable {P:Program} {A:Base P} {σ:St} {g:Gh} {a:Act} {w:World}
theorem ziY (r q j:Nat) {ty e:TypeId} {cs:List AV} {st len ver:Nat} {rows:List (List D)} {c:Code} {K:Exit->St->Prop} (hb:σ.blk q=some (.cell ty cs)) (hj:cs[j]? = some (.stk r st ver 0 len)) (ht:σ.tok r=some ⟨st,e,ver,some rows⟩) (hl:len=rows.length) (hX:∀ g a w x,Ok A σ g a w->(g.tv r).ownBlock=some x->¬ A.X x)
  (h:SatC P A c ((σ.setTok r none).setBlk q (some (.cell ty (cs.set j (.d (.sl rows)))))) K):SatC P A c σ K:=by
 refine zen (fun g a w hk=>?_) h
 subst hl
 obtain⟨xs,hown,hlow,hrows⟩:=hk.tok r _ ht
 obtain⟨hr1,hr2⟩:=hrows rows rfl
 have hsub:Ok A (σ.setTok r none) g a w:=hk.sub (fun _=>.inr rfl) (fun _=>.inr rfl) fun q=>by
  rw [St.tok_setTok]
  split
  ·exact .inl rfl
  ·exact .inr rfl
 have hlt:∀ x,(g.tv r).ownBlock=some x->x<w.heap.size:=fun x hx=>(hk.tok r _ ht).lt hx
 let G:Nat->Nat->Prop:=fun b o=>g.F b o\/(g.tv r).ownBlock=some b
 have h1:=hsub.moreF G (fun _ _ h=>.inl h) fun b o hG=>by
  rcases hG with h1 | h1
  ·exact .inl h1
  ·refine .inr ⟨(hlow b h1).resolve_right fun h=>hX g a w b hk h1 h.1,hlt b h1,fun r' k' hr'=>?_,fun r' k' hr'=>?_⟩
   ·exact hk.tokblk r _ r' k' b ht hr' h1
   ·rw [St.tok_setTok] at hr'
    split at hr'
    ·cases hr'
    ·rename_i hne
     exact hk.toktok r _ r' k' b ht hr' hne h1
 obtain⟨hB,arr,c1,c2,c3⟩:=h1.blk q _ hb
 obtain⟨hjl,hje⟩:=List.getElem?_eq_some_iff.1 hj
 refine⟨_,(h1.write (k':=.cell ty (cs.set j (.d (.sl rows)))) (w':=w) hb (fun _ _=>rfl) rfl (.of (Below.refl _ _)) ⟨arr,c1,by simpa using c2,fun i hi hi'=>?_⟩).1⟩
 have hi2:i<cs.length:=by simpa using hi
 rw [List.getElem_set]
 split
 ·rename_i e1;subst e1
  obtain⟨_,arr0,d1,d2,d3⟩:=hk.blk q _ hb
  have harr:arr=arr0:=by
   have:=c1.symm.trans d1
   simp only [Option.some.injEq,Obj.cells.injEq] at this
   simpa using this.1
  subst harr
  have h3:=d3 j hjl hi'
  rw [hje] at h3
  obtain⟨p,cap,hv,hc,hp,hvv⟩:=h3.stk_eq
  obtain⟨hcut,_⟩:=(hvv ver (by simp [St.tk,ht])).2 rfl
  rw [hv]
  rcases hown.2 with⟨e1,e2⟩ | ⟨b,cp,cur,e1,_,_,h5,_⟩
  ·have e2':rows.length=0:=e2
   have:rows=[]:=List.eq_nil_of_length_eq_zero e2'
   subst this
   exact .d (.nil _ _)
  ·have e1':g.tv r = .slice (some ⟨b,0,none⟩) rows.length cp:=e1
   have hob:(g.tv r).ownBlock=some b:=by rw [e1'];rfl
   rw [e1'] at hcut
   simp only [zfd,Option.map_some,Addr.add_lit,Nat.zero_mul,Nat.add_zero,Nat.sub_zero] at hcut
   injection hcut with h7 h8 h9
   subst h7 h9
   refine .d (.mk (st:=st) hc hr1 fun i hi j hj=>?_)
   obtain⟨u,hu,hrd⟩:=hr2 i hi j hj
   have hcell:=hown.cells (g:=b) hob (i * st+j) u hu
   rw [Addr.add_lit,Nat.zero_add] at hcell
   exact⟨.inr hob,u,by rw [Nat.zero_add];exact hcell,hrd.mono (fun _ _ h=>.inl h) (fun _ _ _ _ h=>h)⟩
 ·exact c3 i hi2 hi'
theorem Lent.has_mem {L:Lent} {r:Nat} (h:L.has r=true):r ∈ L.blks.map (·.1):=by
 have key:∀ (l:List (Nat × Option Blk)) (x:Option Blk),zk l r=some x->r ∈ l.map (·.1):=fun l=>by
  induction l with
  | nil=>intro x h;cases h
  | cons y l ih=>
   intro x h
   rw [List.map_cons]
   by_cases e:y.1=r
   ·rw [e];exact .head _
   ·rw [zk,if_neg e] at h
    exact .tail _ (ih x h)
 obtain⟨b,hb⟩:=Lent.has_blk h
 exact key _ _ hb
def zEy (ops:Array Oper):Bool:=
 decide (ops.size=4) && decide (Region.ready .any ops (Array.replicate ops.size false)=[0]) && decide (Region.ready .any ops ((Array.replicate ops.size false).setIfInBounds 0 true)=[1,2]) &&
 decide (Region.ready .any ops (((Array.replicate ops.size false).setIfInBounds 0 true).setIfInBounds 1 true)=[2]) && decide (Region.ready .any ops ((((Array.replicate ops.size false).setIfInBounds 0 true).setIfInBounds 1 true).setIfInBounds 2 true)=[3]) && decide (Region.ready .any ops (((((Array.replicate ops.size false).setIfInBounds 0 true).setIfInBounds 1 true).setIfInBounds 2 true).setIfInBounds 3 true)=[]) &&
 decide (Region.ready .any ops (((Array.replicate ops.size false).setIfInBounds 0 true).setIfInBounds 2 true)=[1]) && decide (Region.ready .any ops ((((Array.replicate ops.size false).setIfInBounds 0 true).setIfInBounds 2 true).setIfInBounds 1 true)=[3]) && decide (Region.ready .any ops (((((Array.replicate ops.size false).setIfInBounds 0 true).setIfInBounds 2 true).setIfInBounds 1 true).setIfInBounds 3 true)=[])
theorem ziS {me r:Nat} {tb ty:TypeId} {p:Operand} {x:AV} {b:Bool} (hp:σ.eval p = .box r 0) (hb:σ.blk r=some (.cell ty [x])) (hc:P.cellsOf tb=1):zO P σ me (.store tb p (.const (.bool b)))=some (.dead,.blk r (.cell ty [.d (.raw (.bool b))]),True):=by
 rw [zO,hp,zaW,hb]
 simp only [hc]
 rfl
theorem zoI {id:Nat} {ops:Array Oper} {tb t0 t1 t2 t3:TypeId} {s0 s1 s2 s3:String} {a0 a1 a2 a3:Array Edge} {d1 d2:Nat} {env:List (Nat × AV)} {bl:List (Nat × Option Blk)} {tk:List (Nat × Option Tok)} {K:Exit->St->Prop} (me:Nat)
  (hops:ops=#[⟨some d1,.alloc tb,t0,s0,a0,none⟩,⟨none,.store tb (.tmp d1) (.const (.bool true)),t1,s1,a1,none⟩,⟨none,.store tb (.tmp d1) (.const (.bool false)),t2,s2,a2,none⟩,⟨some d2,.load tb (.tmp d1),t3,s3,a3,none⟩])
  (hP:P.follows .mixedOrders=true) (hR:zEy ops=true) (hz:zx P tb=some (.bool false)) (hc:P.cellsOf tb=1) (hag:zaC P tb=some false) (hm:(⟨env,bl,tk⟩:St).ment me=false) (hd1:d1<A.N) (hd2:d2<A.N) (hd6:d1<1000000)
  (h:∀ b:Bool,K .normal ⟨(d2,.d (.raw (.bool b))) :: (d1,.box me 0) :: env,(me,some (.cell tb [.d (.raw (.bool b))])) :: (me,some (.cell tb [.d (.raw (.bool !b))])) :: (me,some (.cell tb [.d (.raw (.bool false))])) :: bl,tk⟩):SatC P A (.region id ops true) ⟨env,bl,tk⟩ K:=by
 simp only [zEy,Bool.and_eq_true,decide_eq_true_eq] at hR
 obtain⟨⟨⟨⟨⟨⟨⟨⟨hsz,r0⟩,r1⟩,r2⟩,r3⟩,r4⟩,r2'⟩,r3'⟩,r4'⟩:=hR
 have e0:ops[0]? = some ⟨some d1,.alloc tb,t0,s0,a0,none⟩:=by rw [hops];rfl
 have e1:ops[1]? = some ⟨none,.store tb (.tmp d1) (.const (.bool true)),t1,s1,a1,none⟩:=by rw [hops];rfl
 have e2:ops[2]? = some ⟨none,.store tb (.tmp d1) (.const (.bool false)),t2,s2,a2,none⟩:=by rw [hops];rfl
 have e3:ops[3]? = some ⟨some d2,.load tb (.tmp d1),t3,s3,a3,none⟩:=by rw [hops];rfl
 have ev:∀ (b:List (Nat × Option Blk)),(⟨(d1,.box me 0) :: env,b,tk⟩:St).eval (.tmp d1) = .box me 0:=fun b=>by
  show(if d1<1000000 then (⟨(d1,.box me 0) :: env,b,tk⟩:St).get d1 else .dead)=_
  rw [if_pos hd6]
  show(zk ((d1,.box me 0) :: env) d1).getD .dead=_
  rw [zk,if_pos rfl];rfl
 have bk:∀ (x:AV) (b:List (Nat × Option Blk)) (en:List (Nat × AV)),(⟨en,(me,some (.cell tb [x])) :: b,tk⟩:St).blk me=some (.cell tb [x]):=fun x b en=>by
  show(zk _ me).getD none=_
  rw [zk,if_pos rfl];rfl
 have ld:∀ (x:AV),zah P tb [x]=some x:=fun x=>by unfold zah;rw [hag];rfl
 refine zgn hP ?_
 rw [show zfC P A ops ops.size (Array.replicate ops.size false) ⟨env,bl,tk⟩ K=zfC P A ops 4 (Array.replicate ops.size false) ⟨env,bl,tk⟩ K by rw [hsz]]
 refine zao 0 r0 (zbu me 0 (x:=.box me 0) (e:=.blk me (.cell tb [.d (.raw (.bool false))])) (need:=True) e0 rfl (by rw [zO,hz];rfl) trivial (fun _=>hm) (decide_eq_true hd1) ?_)
 refine zhb 1 2 r1 ?_ ?_
 ·refine zbu 0 1 e1 rfl (ziS (ev _) (bk _ _ _) hc) trivial (fun h=>by cases h) rfl ?_
  refine zao 2 r2 (zbu 0 2 e2 rfl (ziS (ev _) (bk _ _ _) hc) trivial (fun h=>by cases h) rfl ?_)
  refine zao 3 r3 (zbu 0 3 e3 rfl (zdF (ev _) (by show zk ((me,_) :: _) me=_;rw [zk,if_pos rfl]) (ld _)) trivial (fun h=>by cases h) (decide_eq_true hd2) ?_)
  exact zdt r4 (h false)
 ·refine zbu 0 2 e2 rfl (ziS (ev _) (bk _ _ _) hc) trivial (fun h=>by cases h) rfl ?_
  refine zao 1 r2' (zbu 0 1 e1 rfl (ziS (ev _) (bk _ _ _) hc) trivial (fun h=>by cases h) rfl ?_)
  refine zao 3 r3' (zbu 0 3 e3 rfl (zdF (ev _) (by show zk ((me,_) :: _) me=_;rw [zk,if_pos rfl]) (ld _)) trivial (fun h=>by cases h) (decide_eq_true hd2) ?_)
  exact zdt r4' (h true)
end
section
open Go Go.RowKit Go.Shelf
attribute [local go_sem] Oper.semAt_some St.ren zhZ zgU AV.ren zdd Blk.ren St.setBlk List.getD_cons_zero
section
variable {P:Program} {A:Base P} {σ:St}
theorem St.stkCell_ok (q r j st n:Nat) (e:TypeId) {ty:TypeId} {cs:List AV} (hf:A.fx q=false/\A.tk0 q=Option.none) (hk:(match σ.tok q with | some k=>k.ex.isSome && decide (k.len<n) | Option.none=>!(zai q σ.env || zP q σ.blks))=true) (hb:σ.blk r=some (.cell ty cs)) (hj:cs[j]? = some (.d (.raw (.slice Option.none 0 0)))) {g:Gh} {a:Act} {w:World} (hok:Ok A σ g a w):∃ g',Ok A ((σ.setTok q (some ⟨st,e,n,some []⟩)).setBlk r (some (.cell ty (cs.set j (.stk q st n 0 0))))) g' a w:=by
 obtain⟨g',h1,h2,_⟩:=hok.nilStk (q:=q) (st:=st) (n:=n) (e:=e) (by
  cases hk1:σ.tok q with
  | none=>
   rw [hk1] at hk
   exact .inr ⟨rfl,by simpa using hk,hf⟩
  | some k=>
   rw [hk1] at hk
   simp only [Bool.and_eq_true,decide_eq_true_eq] at hk
   exact .inl ⟨k,rfl,(fun e=>by rw [e] at hk;cases hk.1),hk.2⟩)
 obtain⟨hB,arr,c1,c2,c3⟩:=h1.blk r _ hb
 obtain⟨hjl,hje⟩:=List.getElem?_eq_some_iff.1 hj
 refine⟨_,(h1.write (k':=.cell ty (cs.set j (.stk q st n 0 0))) (w':=w) hb (fun _ _=>rfl) rfl (.of (Below.refl _ _)) ⟨arr,c1,by simpa using c2,fun i hi hi'=>?_⟩).1⟩
 have hi2:i<cs.length:=by simpa using hi
 rw [List.getElem_set]
 split
 ·rename_i e1;subst e1
  have h3:=c3 j hjl hi'
  rw [hje] at h3
  rw [h3.raw_eq];exact h2
 ·exact c3 i hi2 hi'
theorem zjy (σ':St) {f:Option FuncId} {all:List Oper} {o:Oper} {rest:List Oper} {i base:Nat} {s:List Itm} {Q:Exit->St->Prop} (hs:∀ g a w,Ok A σ g a w->∃ g',Ok A σ' g' a w) (h:zbL P A (.exe f all o rest i base) s σ' Q):zbL P A (.exe f all o rest i base) s σ Q:=fun g a w hk=>by
 obtain⟨g',h1⟩:=hs g a w hk
 exact h g' a w h1
end
def zds (d:Int × Int):Prop:=(0<=d.1/\d.1<18446744073709551616)/\0<=d.2/\d.2<18446744073709551616
structure Ob.Rng (o:Ob):Prop where
 ents:∀ e ∈ o.ents,zds e.dg
 tree:zds o.tree
 pars:∀ p ∈ o.pars,zds p
theorem zpo (k:Int) (d:ByteArray) (hk:k=1\/k=4) (hd:d.size<=65536) (hf:zaV ⟨k,d,[],(0,0),[],⟨#[]⟩,0,⟨#[]⟩⟩=0) (hg:(obL ⟨k,d,[],(0,0),[],⟨#[]⟩,0,⟨#[]⟩⟩).length<=65536):Con Tryz.prog 108 [zcY ⟨k,d,[],(0,0),[],⟨#[]⟩,0,⟨#[]⟩⟩] (.tup [.d (.raw (.string ⟨(obL ⟨k,d,[],(0,0),[],⟨#[]⟩,0,⟨#[]⟩⟩).toArray⟩)),.d (.raw (.int .i64 0))]):=by
 have hob:obL ⟨k,d,[],(0,0),[],⟨#[]⟩,0,⟨#[]⟩⟩=zb k.toNat++zi d:=by rcases hk with rfl | rfl <;> rfl
 rw [hob] at hg ⊢
 have hc:=zmx _ hf
 refine kY Tryz.func108 Tryz.ntmps108 fun A hA hY=>?_
 have z0:(decide ¬ (0:Int)=0)=false:=by decide
 have z11:decide ((1:Int)=1)=true:=by decide
 have z41:decide ((4:Int)=1)=false:=by decide
 have z44:decide ((4:Int)=4)=true:=by decide
 have hlen:=hg
 rw [List.length_append] at hlen
 refine goC 400 ?_
 simp only [go_sem,hA]
 refine gC hc ?_
 simp only [go_sem,hA]
 refine zaA 4000 901 rfl (hY.1 _) rfl rfl _ (by simp only [go_sem];rfl) ?_
 refine zjy _ (fun g a w hk=>St.stkCell_ok 910 901 0 1 1 5 (hY.1 _) rfl rfl rfl hk) ?_
 simp only [go_sem,List.set]
 have hk0:k=(k.toNat:Int):=by rcases hk with rfl | rfl <;> rfl
 have hn:=zdS 1 [] k.toNat (by rcases hk with rfl | rfl <;> decide) (by simp only [List.length_nil];omega)
 rw [<- hk0] at hn
 refine gL [901] [910] hn (fun pv h=>(zaw h).elim) fun res L' h=>?_
 obtain⟨rfl,ver,rfl⟩:=zav h
 rcases hk with rfl | rfl
 ·have hlen1:(zb 1).length+(zi d).length<=65536:=hlen
  have hgl:decide ((65536:Int)<(((zb 1++zi d).length:Nat):Int))=false:=decide_eq_false (by rw [List.length_append];omega)
  simp only [go_sem,hA]
  refine zae [901] [910] 9 (zjX ver (zb 1) d hd (by omega)) rfl rfl rfl rfl rfl (by simp only [go_sem,hA]) (fun res L' h=>?_) (fun pv h=>(zaw h).elim)
  obtain⟨rfl,ver2,rfl⟩:=zav h
  simp only [go_sem]
  refine zdb hY.2 910 901 0 99 rfl rfl rfl (zh _).symm (fun h0=>by
   have h1:=congrArg List.length h0
   rw [zh] at h1
   have h2:=zhf d.size
   simp only [zi,List.length_append,List.length_nil] at h1;omega) (hY.1 _) rfl ?_
  simp only [go_sem,List.set,zh]
  refine goC 400 ?_
  simp only [go_sem,hA,zh,hgl,zcx,Option.map_some,Tryz.results108]
 ·have hlen1:(zb 4).length+(zi d).length<=65536:=hlen
  have hgl:decide ((65536:Int)<(((zb 4++zi d).length:Nat):Int))=false:=decide_eq_false (by rw [List.length_append];omega)
  simp only [go_sem,hA,z41]
  refine zae [901] [910] 9 (zjX ver (zb 4) d hd (by omega)) rfl rfl rfl rfl rfl (by simp only [go_sem,hA]) (fun res L' h=>?_) (fun pv h=>(zaw h).elim)
  obtain⟨rfl,ver2,rfl⟩:=zav h
  simp only [go_sem]
  refine zdb hY.2 910 901 0 99 rfl rfl rfl (zh _).symm (fun h0=>by
   have h1:=congrArg List.length h0
   rw [zh] at h1
   have h2:=zhf d.size
   simp only [zi,List.length_append,List.length_nil] at h1;omega) (hY.1 _) rfl ?_
  simp only [go_sem,List.set,zh]
  refine goC 400 ?_
  simp only [go_sem,hA,zh,hgl,zcx,Option.map_some,Tryz.results108]
abbrev zEP (l:List En) (ver:Nat) (p:List UInt8) (q:Nat):St:=⟨[(5,.box 901 0),(37,.d (.sl (zbv l))),(38,.d (.raw (.int .i64 l.length))),(39,.d (.raw (.int .i64 q)))],[(901,some (zso ver p))],[(910,some ⟨1,5,ver,some (zC p)⟩)]⟩
theorem zhj {α:Type} (f:α->List UInt8) (l:List α) (q:Nat) (h:q<l.length):(l.take (q+1)).flatMap f=(l.take q).flatMap f++f l[q]:=by
 rw [List.take_succ_eq_append_getElem h,List.flatMap_append];simp
theorem zzY {α:Type} (f:α->List UInt8) (l:List α) (q:Nat) (h:q<l.length):((l.take q).flatMap f).length+(f l[q]).length<=(l.flatMap f).length:=by
 have h1:(l.take (q+1)).flatMap f++(l.drop (q+1)).flatMap f=l.flatMap f:=by rw [<- List.flatMap_append,List.take_append_drop]
 rw [<- h1,zhj f l q h,List.length_append,List.length_append];omega
theorem zyl (l:List En) (hx:zdr l=0) (hr:∀ e ∈ l,zds e.dg) (hf:zaV ⟨2,⟨#[]⟩,l,(0,0),[],⟨#[]⟩,0,⟨#[]⟩⟩=0) (hg:(obL ⟨2,⟨#[]⟩,l,(0,0),[],⟨#[]⟩,0,⟨#[]⟩⟩).length<=65536):Con Tryz.prog 108 [zcY ⟨2,⟨#[]⟩,l,(0,0),[],⟨#[]⟩,0,⟨#[]⟩⟩] (.tup [.d (.raw (.string ⟨(obL ⟨2,⟨#[]⟩,l,(0,0),[],⟨#[]⟩,0,⟨#[]⟩⟩).toArray⟩)),.d (.raw (.int .i64 0))]):=by
 have hob:obL ⟨2,⟨#[]⟩,l,(0,0),[],⟨#[]⟩,0,⟨#[]⟩⟩=zb 2++(zb l.length++l.flatMap zcr):=rfl
 rw [hob] at hg ⊢
 have hc:=zmx _ hf
 have hl200:¬ 200<l.length:=fun h1=>by unfold zdr at hx;rw [if_pos h1] at hx;cases hx
 have hz:zH (zkF l) l.length=0:=by unfold zdr at hx;rwa [if_neg hl200] at hx
 refine kY Tryz.func108 Tryz.ntmps108 fun A hA hY=>?_
 have z0:(decide ¬ (0:Int)=0)=false:=by decide
 have z21:decide ((2:Int)=1)=false:=by decide
 have z24:decide ((2:Int)=4)=false:=by decide
 have z22:decide ((2:Int)=2)=true:=by decide
 have hlen:=hg
 simp only [List.length_append] at hlen
 refine goC 400 ?_
 simp only [go_sem,hA]
 refine gC hc ?_
 simp only [go_sem,hA]
 refine zaA 4000 901 rfl (hY.1 _) rfl rfl _ (by simp only [go_sem];rfl) ?_
 refine zjy _ (fun g a w hk=>St.stkCell_ok 910 901 0 1 1 5 (hY.1 _) rfl rfl rfl hk) ?_
 simp only [go_sem,List.set]
 refine gL [901] [910] (zdS 1 [] 2 (by decide) (by simp only [List.length_nil];omega)) (fun pv h=>(zaw h).elim) fun res L' h=>?_
 obtain⟨rfl,ver,rfl⟩:=zav h
 simp only [go_sem,hA,z21,z24,zJ]
 refine gL [901] [910] (zdS ver (zb 2) l.length (by omega) (by omega)) (fun pv h=>(zaw h).elim) fun res L' h=>?_
 obtain⟨rfl,ver,rfl⟩:=zav h
 simp only [go_sem,hA,zJ]
 refine zc [5,37,38,39] [901] [910] (fun y σ=>∃ (q ver:Nat),q<=l.length/\y=l.length - q/\σ=zEP l ver ((zb 2++zb l.length)++(l.take q).flatMap zcr) q) l.length ⟨0,ver,by omega,by omega,by simp only [List.take_zero,List.flatMap_nil,List.append_nil,go_sem];rfl⟩ ?_
 rintro y σ ⟨q,ver,hq,rfl,rfl⟩
 by_cases hlt:q<l.length
 ·have k1:decide ((q:Int)<(l.length:Int))=true:=decide_eq_true (by omega)
  have hle:=zzY zcr l q hlt
  obtain⟨e1,_,_⟩:=zhT hlt (zbn hz q hlt)
  have hsz:l[q].name.size<=65536:=by
   have h24:l[q].name.data.toList.length<=24:=by
    unfold zaa at e1
    simp only [Bool.and_eq_true,decide_eq_true_eq] at e1
    exact e1.1.1.1.2
   rw [zas] at h24;omega
  have hent:(zcr l[q]).length=(zi l[q].name).length+((zb (if l[q].dir then 1 else 0)).length+16):=by unfold zcr;rw [List.length_append,List.length_append,zad]
  have hdg:=hr _ (List.getElem_mem hlt)
  refine goC 400 ?_
  simp only [go_sem,hA,zEP,zJ,k1,Int.toNat_natCast,zcg l q hlt]
  refine⟨⟨by omega,by omega⟩,?_⟩
  refine gL [901] [910] (zjX ver _ l[q].name hsz (by simp only [List.length_append];omega)) (fun pv h=>(zaw h).elim) fun res L' h=>?_
  obtain⟨rfl,ver,rfl⟩:=zav h
  have hstep:=zhj zcr l q hlt
  have hde:zcr l[q]=zi l[q].name++(zb (if l[q].dir then 1 else 0)++dgL l[q].dg):=rfl
  rw [hde] at hstep
  cases hdir:l[q].dir
  all_goals
   rw [hdir] at hent hstep
   simp only [go_sem,hA]
   refine zae [901] [910] 400 (zdS ver _ _ (by decide) (by simp only [List.length_append,if_true] at hent ⊢;first | omega | (simp only [Bool.false_eq_true,if_false] at hent;omega))) rfl rfl rfl rfl rfl (by simp only [go_sem,hA]) (fun res L' h=>?_) (fun pv h=>(zaw h).elim)
   obtain⟨rfl,ver,rfl⟩:=zav h
   simp only [go_sem,hA]
   refine gL [901] [910] (znw ver _ l[q].dg hdg.1 hdg.2 (by simp only [List.length_append] at hent ⊢;first | omega | (simp only [if_true] at hent;omega) | (simp only [Bool.false_eq_true,if_false] at hent;omega))) (fun pv h=>(zaw h).elim) fun res L' h=>?_
   obtain⟨rfl,ver,rfl⟩:=zav h
   simp only [go_sem,hA]
   exact⟨by unfold za;omega,l.length - (q+1),by omega,q+1,ver,by omega,rfl,by rw [hstep];simp only [List.append_assoc];rfl⟩
 ·have k1:decide ((q:Int)<(l.length:Int))=false:=decide_eq_false (by omega)
  have hql:q=l.length:=by omega
  have ht:l.take q=l:=by rw [hql,List.take_length]
  have hgl:decide ((65536:Int)<(((zb 2++(zb l.length++l.flatMap zcr)).length:Nat):Int))=false:=decide_eq_false (by simp only [List.length_append];omega)
  have hne:zC (zb 2++zb l.length++l.flatMap zcr)≠[]:=fun h0=>by
   have h1:=congrArg List.length h0
   rw [zh] at h1
   have h2:=zhf 2
   simp only [List.length_append,List.length_nil] at h1;omega
  rw [zEP,ht]
  refine zdb hY.2 910 901 0 99 rfl rfl rfl (zh _).symm hne (hY.1 _) rfl ?_
  simp only [go_sem,List.set,zh]
  refine goC 400 ?_
  simp only [go_sem,hA,k1,zh,hgl,zcx,Option.map_some,Tryz.results108,List.append_assoc]
abbrev zEQ (o:Ob) (ver:Nat) (p:List UInt8) (q:Nat):St:=⟨[(1,.box 0 0),(5,.box 901 0),(62,.d (.sl (zbw o.pars))),(63,.d (.raw (.int .i64 o.pars.length))),(64,.d (.raw (.int .i64 q)))],[(0,some (obC o)),(901,some (zso ver p))],[(910,some ⟨1,5,ver,some (zC p)⟩)]⟩
theorem zym (o:Ob) (hk:o.kind=3) (hc:ziO o=0) (hr:o.Rng) (hf:zaV o=0) (hg:(obL o).length<=65536):Con Tryz.prog 108 [zcY o] (.tup [.d (.raw (.string ⟨(obL o).toArray⟩)),.d (.raw (.int .i64 0))]):=by
 have hob:obL o=zb 3++(dgL o.tree++(zb o.pars.length++(o.pars.flatMap dgL++(zi o.author++(zb o.time.toNat++zi o.msg))))):=by unfold obL;rw [hk];rfl
 rw [hob] at hg ⊢
 have hp:=zmx _ hf
 obtain⟨_,c2,_,c4,c5,c6,c7⟩:=zgf hc
 refine kY Tryz.func108 Tryz.ntmps108 fun A hA hY=>?_
 have z0:(decide ¬ (0:Int)=0)=false:=by decide
 have z31:decide (o.kind=1)=false:=by rw [hk];decide
 have z34:decide (o.kind=4)=false:=by rw [hk];decide
 have z32:decide (o.kind=2)=false:=by rw [hk];decide
 have z33:decide (o.kind=3)=true:=by rw [hk];decide
 have hlen:=hg
 simp only [List.length_append,zad] at hlen
 refine goC 400 ?_
 simp only [go_sem,hA]
 refine gC hp ?_
 simp only [go_sem,hA]
 refine zaA 4000 901 rfl (hY.1 _) rfl rfl _ (by simp only [go_sem];rfl) ?_
 refine zjy _ (fun g a w hk=>St.stkCell_ok 910 901 0 1 1 5 (hY.1 _) rfl rfl rfl hk) ?_
 simp only [go_sem,List.set]
 have hn3:=zdS 1 [] 3 (by decide) (by simp only [List.length_nil];omega)
 rw [show((3:Nat):Int)=o.kind by rw [hk];rfl] at hn3
 refine gL [901] [910] hn3 (fun pv h=>(zaw h).elim) fun res L' h=>?_
 obtain⟨rfl,ver,rfl⟩:=zav h
 simp only [go_sem,hA,z31,z34,z32,z33]
 refine gL [901] [910] (znw ver (zb 3) o.tree hr.tree.1 hr.tree.2 (by omega)) (fun pv h=>(zaw h).elim) fun res L' h=>?_
 obtain⟨rfl,ver,rfl⟩:=zav h
 simp only [go_sem,hA,zF]
 refine gL [901] [910] (zdS ver _ o.pars.length (by omega) (by simp only [List.length_append,zad];omega)) (fun pv h=>(zaw h).elim) fun res L' h=>?_
 obtain⟨rfl,ver,rfl⟩:=zav h
 simp only [go_sem,hA,zF]
 refine zc [1,5,62,63,64] [0,901] [910] (fun y σ=>∃ (q ver:Nat),q<=o.pars.length/\y=o.pars.length - q/\σ=zEQ o ver ((zb 3++dgL o.tree++zb o.pars.length)++(o.pars.take q).flatMap dgL) q) o.pars.length ⟨0,ver,by omega,by omega,by simp only [List.take_zero,List.flatMap_nil,List.append_nil,go_sem];rfl⟩ ?_
 rintro y σ ⟨q,ver,hq,rfl,rfl⟩
 by_cases hlt:q<o.pars.length
 ·have k1:decide ((q:Int)<(o.pars.length:Int))=true:=decide_eq_true (by omega)
  have hle:=zzY dgL o.pars q hlt
  have hdg:=hr.pars _ (List.getElem_mem hlt)
  have hstep:=zhj dgL o.pars q hlt
  refine goC 400 ?_
  simp only [go_sem,hA,zEQ,zF,k1,Int.toNat_natCast,zdj o.pars q hlt]
  refine⟨⟨by omega,by omega⟩,?_⟩
  refine gL [901] [910] (znw ver _ o.pars[q] hdg.1 hdg.2 (by simp only [List.length_append,zad] at hle ⊢;omega)) (fun pv h=>(zaw h).elim) fun res L' h=>?_
  obtain⟨rfl,ver,rfl⟩:=zav h
  simp only [go_sem,hA]
  exact⟨by unfold za;omega,o.pars.length - (q+1),by omega,q+1,ver,by omega,rfl,by rw [hstep];simp only [List.append_assoc];rfl⟩
 ·have k1:decide ((q:Int)<(o.pars.length:Int))=false:=decide_eq_false (by omega)
  have hql:q=o.pars.length:=by omega
  have ht:o.pars.take q=o.pars:=by rw [hql,List.take_length]
  have h24:o.author.size<=65536:=by
   unfold zaa at c4
   simp only [Bool.and_eq_true,decide_eq_true_eq] at c4
   have:=c4.1.1.1.2
   rw [zas] at this;omega
  rw [zEQ,ht]
  refine goC 400 ?_
  simp only [go_sem,hA,k1]
  refine gL [901] [910] (zjX ver _ o.author h24 (by simp only [List.length_append,zad];omega)) (fun pv h=>(zaw h).elim) fun res L' h=>?_
  obtain⟨rfl,ver,rfl⟩:=zav h
  simp only [go_sem,hA]
  have hnt:=zdS ver ((zb 3++dgL o.tree++zb o.pars.length++o.pars.flatMap dgL)++zi o.author) o.time.toNat (by omega) (by simp only [List.length_append,zad];omega)
  rw [Int.toNat_of_nonneg c5] at hnt
  refine gL [901] [910] hnt (fun pv h=>(zaw h).elim) fun res L' h=>?_
  obtain⟨rfl,ver,rfl⟩:=zav h
  simp only [go_sem,hA]
  refine zae [901] [910] 7 (zjX ver _ o.msg (by omega) (by simp only [List.length_append,zad];omega)) rfl rfl rfl rfl rfl (by simp only [go_sem,hA]) (fun res L' h=>?_) (fun pv h=>(zaw h).elim)
  obtain⟨rfl,ver,rfl⟩:=zav h
  have hgl:decide ((65536:Int)<(((zb 3++(dgL o.tree++(zb o.pars.length++(o.pars.flatMap dgL++(zi o.author++(zb o.time.toNat++zi o.msg)))))).length:Nat):Int))=false:=decide_eq_false (by omega)
  have hne:zC (zb 3++(dgL o.tree++(zb o.pars.length++(o.pars.flatMap dgL++(zi o.author++(zb o.time.toNat++zi o.msg))))))≠[]:=fun h0=>by
   have h1:=congrArg List.length h0
   rw [zh] at h1
   have h2:=zhf 3
   simp only [List.length_append,List.length_nil] at h1;omega
  simp only [go_sem,List.append_assoc]
  refine zdb hY.2 910 901 0 99 rfl rfl rfl (zh _).symm hne (hY.1 _) rfl ?_
  simp only [go_sem,List.set,zh]
  refine goC 400 ?_
  simp only [go_sem,hA,zh,hgl,zcx,Option.map_some,Tryz.results108]
theorem zxF (o:Ob) (h:o.Good) (hr:o.Rng):Con Tryz.prog 108 [zcY o] (.tup [.d (.raw (.string ⟨(obL o).toArray⟩)),.d (.raw (.int .i64 0))]):=by
 obtain⟨hf,hg⟩:=h
 rcases zgC hf with⟨k,d,hk,hd,rfl⟩ | ⟨l,hl,rfl⟩ | ⟨t,p,a,i,m,ho,hc⟩
 ·exact zpo k d hk hd hf hg
 ·exact zyl l hl hr.ents hf hg
 ·exact zym o (by rw [ho]) hc hr hf hg
theorem zkh (o:Ob) (h:o.Good) (hr:o.Rng):Con Tryz.prog 72 [zcY o] (.d (.raw (.int .i64 0))):=by
 refine kO Tryz.func72 Tryz.ntmps72 fun A hA=>?_
 refine goC 400 ?_
 simp only [go_sem,hA]
 refine gC (zxF o h hr) ?_
 simp only [go_sem,hA,Tryz.results72]
end
end Go.Proofs.YtpnjjmcimjlfkaaGreatDoor
