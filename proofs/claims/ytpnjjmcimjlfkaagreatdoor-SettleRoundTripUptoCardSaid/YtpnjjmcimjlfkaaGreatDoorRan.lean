/- Texts of this proof, part 14: what the proof uses of them. -/
import Derived.Test.YtpnjjmcimjlfkaaGreatDoorRam
import Derived.Shelf.Strings.Builder1
import Derived.Shelf.Small.Strs
import Derived.Shelf.Small.Wraps
import Derived.Shelf.Strings.BuilderF
import Derived.Shelf.Strings.BuilderK
import Derived.Shelf.Strconv.Itoa0
import Derived.Shelf.Strconv.Itoa1
import Derived.Shelf.LaysM
import Derived.Shelf.Strconv.Itoa2
import Derived.Shelf.Strconv.Itoa3
import Derived.Shelf.Strings.Search1
import Derived.Shelf.Strings.Search2
import Derived.Shelf.Strings.Search3
import Derived.Shelf.Strings.Shaped
import Derived.Shelf.Sort.Plain
import Derived.Shelf.Strings.LastIndex
import Derived.Shelf.Strings.Prefix
import Derived.Shelf.Unicode.DecodeSlow
import Derived.Shelf.Strings.BuilderCap
import Derived.Shelf.Slices.Turned
import Derived.Ground.Names2Prog
import Derived.Shelf.Slices.Clone
import Derived.Shelf.Slices.In.SortNone
import Derived.Ground.SlgnProg
import Derived.Shelf.SlicesE.Clone
import Derived.Test.YtpnjjmcimjlfkaaGreatDoorProg
import Derived.Test.YtpnjjmcimjlfkaaGreatDoorRal
set_option maxRecDepth 100000
set_option maxHeartbeats 64000000
namespace Go.Proofs.YtpnjjmcimjlfkaaGreatDoor
section
open Go Go.RowKit
mutual
def zid (p:Ex->Bool):Ex->Bool
 | .mk k n m i d s=>p (.mk k n m i d s) || zic p s
def zic (p:Ex->Bool):List Ex->Bool
 | []=>false
 | e :: es=>zid p e || zic p es
end
theorem zDQ (p:Ex->Bool) (t:Ex):zid p t=(p t || zic p t.sub):=by cases t;rw [zid];rfl
theorem zhz (p:Ex->Bool):∀ a b:List Ex,zic p (a++b)=(zic p a || zic p b)
 | [],b=>by rw [zic];rfl
 | e :: a,b=>by rw [List.cons_append,zic,zic,zhz p a b,Bool.or_assoc]
mutual
theorem ztw (r:Nat):∀ x:AV,x.closed=true->x.ment r=false
 | .d _,_=>rfl
 | .at_ _,_=>rfl
 | .agg cs,h=>by rw [AV.ment];exact zcA r cs h
 | .tup cs,h=>by rw [AV.ment];exact zcA r cs h
 | .fn _ cs,h=>by rw [AV.ment];exact zcA r cs h
 | .mapd _ cs,h=>by rw [AV.ment];exact zcA r cs h
theorem zcA (r:Nat):∀ cs:List AV,zN cs=true->zbq r cs=false
 | [],_=>rfl
 | x :: cs,h=>by
  rw [zN,Bool.and_eq_true] at h
  rw [zbq,ztw r x h.1,zcA r cs h.2];rfl
end
abbrev zCk (f:FuncId) (cs:List AV) (ver n:Nat) (rows:List (List D)):St:=⟨[(1,.fn 218 [.box 1 0,.box 1000 0]),(4,.stk 99 6 ver 0 n),(1000005,.box 1000 0)],[(1,some (.cell 171 [.fn f cs])),(1000,some (.cell 4 [.d (.raw (.bool false))]))],[(99,some ⟨6,105,ver,some rows⟩)]⟩
theorem zlk (e:Ex) (f:FuncId) (cs:List AV) (p:Ex->Bool) (hcs:zN cs=true) (hcl:zU cs=some cs) (hsz:nodesE e<=1048576) (hp:∀ x,nodesE x<=nodesE e->Con Tryz.prog f (avE x :: cs) (.d (.raw (.bool (p x))))):Con Tryz.prog 138 [avE e,.fn f cs] (.d (.raw (.bool (zid p e)))):=by
 refine zei Tryz.func138 rfl (by decide +kernel) rfl (by simp only [go_sem,zaB,hcs]) (by simp [Tryz.ntmps138]) fun A hA=>?_
 rw [Tryz.ntmps138] at hA
 refine goC 400 ?_
 have hm:=fun r=>zcA r cs hcs
 simp only [go_sem,hA,zaB,hm]
 refine zjz 100000 400 rfl rfl rfl Tryz.func217 rfl (by decide +kernel) (by simp [Tryz.ntmps217]) (by simp [Tryz.ntmps217]) (by simp only [go_sem,hA]) fun B hB hBf=>?_
 rw [Tryz.ntmps217] at hB
 refine goC 14 ?_
 simp only [go_sem,hB,hm]
 refine zEq 99 400 (by simp only [go_sem]) rfl (by simp only [go_sem];rfl) (by simp only [go_sem,hm]) (by simp only [go_sem,hB]) ?_
 simp only [go_sem,hB,hm]
 refine zc [1,4,1000005] [1,1000] [99] (fun y σ=>∃ (l:List Ex) (ver:Nat) (rows:List (List D)),rows.take l.length=zaF l/\y=nodesL l/\nodesL l<=nodesE e/\zid p e=zic p l/\σ=zCk f cs ver l.length rows) (nodesE e) ⟨[e],0,[zbj e],rfl,by simp [nodesL],by simp [nodesL],by simp [zic],by simp only [go_sem,zax,zCk]⟩ ?_
 rintro y σ ⟨l,ver,rows,hrows,rfl,hn,hany,rfl⟩
 refine goC 400 ?_
 rcases List.eq_nil_or_concat l with rfl | ⟨l',x,rfl⟩
 ·have hr:zid p e=false:=hany
  simp only [go_sem,hA,hB,zCk,hr,Tryz.results217,Tryz.results138]
 ·rw [List.concat_eq_append] at *
  have hl:(l'++[x]).length=l'.length+1:=by simp
  rw [hl] at hrows ⊢
  have hrl:l'.length<rows.length:=by
   have:=congrArg List.length hrows
   rw [zK,hl,List.length_take] at this
   omega
  have hrow:rows.getD l'.length []=[.raw (.int .i64 x.kind),.raw (.string x.name),.raw (.string x.more),.raw (.int .i64 x.int),.raw (.int .i64 x.den),.sl (zaF x.sub)]:=by
   have h1:(rows.take (l'.length+1)).getD l'.length []=rows.getD l'.length []:=by simp [List.getD_eq_getElem?_getD]
   rw [<- h1,hrows,zjJ _ _ (by simp)]
   simp
  have k1:decide ((0:Int)<((l'.length+1:Nat):Int))=true:=decide_eq_true (by omega)
  have k2:(((l'.length+1:Nat):Int) - 1).toNat=l'.length:=by omega
  have hll:l'.length+1<=1048576:=by have:=zaY (l'++[x]);omega
  have hx:nodesE x<=nodesE e:=by rw [zbH,nodesL] at hn;omega
  simp only [go_sem,hB,zCk,k1,k2,Nat.zero_add,hrow,hm]
  refine⟨by unfold za;omega,⟨by omega,by omega⟩,by omega,by unfold za;omega,⟨by omega,by omega⟩,?_⟩
  refine zjz 200000 400 (cs:=[.box 1 0,.box 1000 0]) rfl rfl (by simp only [go_sem]) Tryz.func218 rfl (by decide +kernel) (by simp [Tryz.ntmps218]) (by simp [Tryz.ntmps218]) (by simp only [go_sem,hB]) fun C hC hCf=>?_
  rw [Tryz.ntmps218] at hC
  refine goC 400 ?_
  simp only [go_sem,hC,hm]
  refine zeu 400 (cs:=cs) (hp x hx) rfl rfl (by simp only [go_sem]) (by simp only [go_sem,hcl,zaB]) (by simp only [go_sem,hC]) ?_
  have hex:zid p e=(p x || (zic p l' || zic p x.sub)):=by
   rw [hany,zhz,zic,zDQ,zic,Bool.or_false]
   cases zic p l' <;> cases p x <;> rfl
  cases hpx:p x with
  | true=>
   have hr:zid p e=true:=by rw [hex,hpx];rfl
   simp only [go_sem,hA,hB,hC,hm,hr,Tryz.results217,Tryz.results138,Tryz.results218]
  | false=>
   have h0:rows.take l'.length=zaF l':=by
    have:=congrArg (List.take l'.length) hrows
    rwa [List.take_take,Nat.min_eq_left (by omega),<- zlf,List.take_append_of_le_length (by rw [zK];omega),List.take_of_length_le (l:=zaF l') (by rw [zK];omega)] at this
   have h1:=zaY x.sub
   have h2:nodesE x=1+nodesL x.sub:=by cases x;rw [nodesE];simp only [Ex.sub];omega
   have h3:nodesL (l'++[x])=nodesL l'+nodesE x:=by rw [zbH,nodesL,nodesL];omega
   simp only [go_sem,hB,hC,hm,Nat.sub_zero,zK,Tryz.results217,Tryz.results138,Tryz.results218]
   refine⟨⟨zjI x.sub,by omega,by omega⟩,nodesL (l'++x.sub),by rw [h3,zbH];omega,l'++x.sub,ver+1,rows.take l'.length++zaF x.sub,?_,rfl,by rw [h3] at hn;rw [zbH];omega,?_,by rw [List.length_append]⟩
   ·rw [h0,zlf];exact List.take_of_length_le (by rw [zK];exact Nat.le_refl _)
   ·rw [hex,hpx,zhz];rfl
end
end Go.Proofs.YtpnjjmcimjlfkaaGreatDoor
namespace Go.Proofs
open Go.Shelf
def Tryz.lays190_ren:Go.Shelf.Ren:=⟨fun | 190=>220 | 125=>265 | 258=>264 | 128=>300 | 129=>301 | 302=>291 | 303=>292 | 304=>293 | 305=>294 | 306=>295 | 307=>296 | 308=>297 | 309=>298 | 310=>299 | 333=>328 | 329=>329 | 330=>330 | 334=>331 | 335=>332 | 336=>333 | 344=>342 | n=>n,fun | 31=>53 | 9=>9 | 3=>3 | 46=>180 | 0=>0 | 51=>323 | 53=>40 | 4=>4 | 183=>317 | 182=>316 | 131=>69 | 5=>5 | 218=>349 | 222=>268 | 228=>361 | 229=>362 | n=>n,fun | n=>n⟩
theorem Tryz.lays190:Go.Proofs.Lays.n190 Tryz.prog Tryz.lays190_ren:={
 mixed:=by kernel_rfl
 f125:=Tryz.func265.trans (congrArg some (by kernel_rfl))
 f128:=Tryz.func300.trans (congrArg some (by kernel_rfl))
 f129:=Tryz.func301.trans (congrArg some (by kernel_rfl))
 f190:=Tryz.func220.trans (congrArg some (by kernel_rfl))
 f258:=Tryz.func264.trans (congrArg some (by kernel_rfl))
 f302:=Tryz.func291.trans (congrArg some (by kernel_rfl))
 f303:=Tryz.func292.trans (congrArg some (by kernel_rfl))
 f304:=Tryz.func293.trans (congrArg some (by kernel_rfl))
 f305:=Tryz.func294.trans (congrArg some (by kernel_rfl))
 f306:=Tryz.func295.trans (congrArg some (by kernel_rfl))
 f307:=Tryz.func296.trans (congrArg some (by kernel_rfl))
 f308:=Tryz.func297.trans (congrArg some (by kernel_rfl))
 f309:=Tryz.func298.trans (congrArg some (by kernel_rfl))
 f310:=Tryz.func299.trans (congrArg some (by kernel_rfl))
 f329:=Tryz.func329.trans (congrArg some (by kernel_rfl))
 f330:=Tryz.func330.trans (congrArg some (by kernel_rfl))
 f333:=Tryz.func328.trans (congrArg some (by kernel_rfl))
 f334:=Tryz.func331.trans (congrArg some (by kernel_rfl))
 f335:=Tryz.func332.trans (congrArg some (by kernel_rfl))
 f336:=Tryz.func333.trans (congrArg some (by kernel_rfl))
 f344:=Tryz.func342.trans (congrArg some (by kernel_rfl))
 t0:=Tryz.underlying0
 a0:=Tryz.isAgg0
 z0:=Tryz.sizeOf0
 v0:=Tryz.zeroValue0
 t3:=Tryz.underlying3
 a3:=Tryz.isAgg3
 z3:=Tryz.sizeOf3
 v3:=Tryz.zeroValue3
 t4:=Tryz.underlying4
 a4:=Tryz.isAgg4
 z4:=Tryz.sizeOf4
 v4:=Tryz.zeroValue4
 t5:=Tryz.underlying5
 a5:=Tryz.isAgg5
 z5:=Tryz.sizeOf5
 v5:=Tryz.zeroValue5
 t9:=Tryz.underlying9
 a9:=Tryz.isAgg9
 z9:=Tryz.sizeOf9
 v9:=Tryz.zeroValue9
 t31:=Tryz.underlying53
 a31:=Tryz.isAgg53
 z31:=Tryz.sizeOf53
 v31:=Tryz.zeroValue53
 t46:=Tryz.underlying180
 a46:=Tryz.isAgg180
 z46:=Tryz.sizeOf180
 v46:=Tryz.zeroValue180
 t51:=Tryz.underlying323
 a51:=Tryz.isAgg323
 z51:=Tryz.sizeOf323
 v51:=Tryz.zeroValue323
 t53:=Tryz.underlying40
 a53:=Tryz.isAgg40
 z53:=Tryz.sizeOf40
 v53:=Tryz.zeroValue40
 t131:=Tryz.underlying69
 a131:=Tryz.isAgg69
 z131:=Tryz.sizeOf69
 v131:=Tryz.zeroValue69
 t182:=Tryz.underlying316
 a182:=Tryz.isAgg316
 z182:=Tryz.sizeOf316
 v182:=Tryz.zeroValue316
 t183:=Tryz.underlying317
 a183:=Tryz.isAgg317
 z183:=Tryz.sizeOf317
 v183:=Tryz.zeroValue317
 t218:=Tryz.underlying349
 a218:=Tryz.isAgg349
 z218:=Tryz.sizeOf349
 v218:=Tryz.zeroValue349
 t222:=Tryz.underlying268
 a222:=Tryz.isAgg268
 z222:=Tryz.sizeOf268
 v222:=Tryz.zeroValue268
 t228:=Tryz.underlying361
 a228:=Tryz.isAgg361
 z228:=Tryz.sizeOf361
 v228:=Tryz.zeroValue361
 t229:=Tryz.underlying362
 a229:=Tryz.isAgg362
 z229:=Tryz.sizeOf362
 v229:=Tryz.zeroValue362 }
open Go.Sort Go.RowKit in
theorem Tryz.slices_Sort_string (blk off cap:Nat) (ss:List (List UInt8)) (w:World) (hH:Holds encStr w blk off ss.toArray) (hblk:blk<w.heap.size) (hsz:ss.length<4611686018427387904) :
  Calls Tryz.prog 220 #[.slice (some ⟨blk,off,none⟩) ss.length cap] w fun e w'=>
   e = .returned (.tuple #[])/\∃ n os,w'=grow (putRow encStr (Sort.ahead w n) blk off (ss.mergeSort fun x y=>decide (x<=y)).toArray) os:=Any.slices_Sort_string Tryz.lays190 blk off cap ss w hH hblk hsz
open Go.RowKit Go.Sort in
theorem Tryz.slices_Sort_string_none (p:Option Addr) (cap:Nat) (w:World) :
  Calls Tryz.prog 220 #[.slice p 0 cap] w fun e w'=>e = .returned (.tuple #[])/\w'=w:=Any.slices_Sort_string_none Tryz.lays190 p cap w
end Go.Proofs
namespace Go.Proofs.YtpnjjmcimjlfkaaGreatDoor
section
open Go Go.RowKit
end
section
open Go Go.RowKit
end
section
open Go Go.RowKit Go.MapKept
def zdn (l:List ByteArray):List ByteArray:=((l.map fun s=>s.data.toList).mergeSort fun x y=>decide (x<=y)).map fun x=>⟨x.toArray⟩
theorem ziW (l:List ByteArray):(zdn l).length=l.length:=by simp [zdn]
variable {A:Base Tryz.prog} {σ:St} {g:Gh} {a:Act} {w:World}
theorem zEV (t:Nat) (l:List ByteArray) {q:Nat} (n:Nat) {all:List Oper} {f:FuncId} {o:Oper} {rest:List Oper} {i base:Nat} {st:List Itm} {Q:Exit->St->Prop} {c:Call} {p m:Operand} (ho:o.op = .call c) (hp:c.callee = .value p) (hf:σ.eval p = .fn 220 []) (hargs:c.args.toList=[m]) (hm:σ.eval m = .grow q (zQ l)) (hv:σ.get t = .grow q (zQ l))
  (ht:σ.tok q=some ⟨1,9,l.length,none⟩) (hlen:l.length<4611686018427387904) (hd:zaf A.N o=true) (_hdt:o.dst≠some t)
  (hr:go Tryz.prog A n (.ops all rest (i+1) base) st (St.put ⟨[(t,.d (.sl (zQ (zdn l))))],[],[]⟩ o.dst (.tup [])) Q):zbL Tryz.prog A (.exe (some f) all o rest i base) st σ Q:=by
 intro g a w hk
 have hrun:=zoJ hk ho hp hf ⟨_,Tryz.func220,by decide +kernel,rfl⟩
 have hme:=hk.eval m
 rw [hm] at hme
 have hte:Has g σ.tk w (σ.get t) (A.val a t):=hk.env t
 rw [hv] at hte
 have htk:σ.tk q=some l.length:=by simp [St.tk,ht]
 obtain⟨hrd,hv1⟩:=hme.grow_eq
 obtain⟨_,hv2⟩:=hte.grow_eq
 have e1:a.eval m=g.tv q:=(hv1 _ htk).2 (zg l)
 have e2:A.val a t=g.tv q:=(hv2 _ htk).2 (zg l)
 obtain⟨xs,hown⟩:=(hk.tok q _ ht).own rfl
 refine zcC hrun ?_
 rw [hargs]
 simp only [List.map_cons,List.map_nil,e1]
 rw [e1] at hrd
 have fin:∀ (F':Nat->Nat->Prop) (w':World),Below A.B w w'->(∀ b o,A.F0 b o->F' b o)->(∀ b o,F' b o->A.F0 b o\/(A.B<=b/\b<w'.heap.size))->Reads w' F' (.sl (zQ (zdn l))) (g.tv q)->wpListIn A.fe 0 Tryz.prog all.toArray (zeg A (stk Tryz.prog A st Q)) rest (a.put o.dst (.tuple #[])) w':=fun F' w' hbel hF0 hFn hR=>by
  have hs:=hbel.size
  have hB:=hk.hB
  have hk2:Ok A ⟨[(t,.d (.sl (zQ (zdn l))))],[],[]⟩ ⟨g.m,g.tv,F'⟩ a w':=by
   refine⟨hk.below.trans (.of hbel),by omega,hF0,fun b o hf=>(hFn b o hf).imp id And.left,fun b o hf=>?_,hk.defers,hk.size,fun t'=>?_,fun r b h=>by simp [St.blk,zk] at h,fun r b h=>by simp [St.blk,zk] at h,fun r b r' b' h=>by simp [St.blk,zk] at h,fun r k h=>by simp [St.tok,zk] at h,fun r k x h=>by simp [St.tok,zk] at h,fun r k r' b x h=>by simp [St.tok,zk] at h,fun r k r' k' x h=>by simp [St.tok,zk] at h,hk.fix,fun r n0 _ n hn=>by simp [St.tk,St.tok,zk] at hn⟩
   ·rcases hFn b o hf with h | h
    ·have:=hk.Fb b o (hk.F0 b o h);omega
    ·exact h.2
   ·unfold St.get
    simp only [zk]
    by_cases e:t=t'
    ·subst e
     rw [if_pos rfl,e2]
     exact .d hR
    ·rw [if_neg e];exact .dead _
  exact zar n _ _ _ _ hr _ _ _ (hk2.put o.dst (zaO hd) (.tup [] [] rfl fun i hi=>by simp at hi))
 rcases hown.2 with⟨h1,h0⟩ | ⟨gb,cap,cur,h1,hgB,hgh,hcap,_⟩
 ·have hl0:l=[]:=List.eq_nil_of_length_eq_zero h0
  subst hl0
  rw [h1]
  refine(Tryz.slices_Sort_string_none none 0 w).mono ?_
  rintro e w' ⟨rfl,rfl⟩
  exact fin A.F0 _ (Below.refl _ _) (fun _ _ h=>h) (fun _ _ h=>.inl h) (by rw [h1,show zdn []=[] by simp [zdn]];exact .nil _ _)
 ·rw [h1] at hrd ⊢
  have hstr:∀ j (hj:j<l.length),w.cell? ⟨gb,0+j,none⟩=some (.string l[j]):=fun j hj=>by
   rcases zix hrd with⟨rfl,_⟩ | ⟨_,b,off,cap',hb,_,_,hc⟩
   ·simp at hj
   ·injection hb with hb _ _
    injection hb with hb
    have e3:gb=b:=congrArg Addr.block hb
    have e4:0=off:=congrArg Addr.off hb
    subst e3 e4
    rw [hc j hj]
    simp [List.getD_eq_getElem?_getD,hj]
  have hlt:gb<w.heap.size:=(Array.getElem?_eq_some_iff.1 hgh).1
  have hH:Go.Sort.Holds encStr w gb 0 (l.map fun s=>s.data.toList).toArray:=fun j hj=>by
   have hj':j<l.length:=by simpa using hj
   refine⟨?_,Lib.frozen_of_heap hgh _⟩
   rw [hstr j hj',getElem!_pos _ j hj]
   simp [encStr]
  have hs:=Tryz.slices_Sort_string gb 0 cap (l.map fun s=>s.data.toList) w hH hlt (by simpa using hlen)
  rw [List.length_map] at hs
  refine hs.mono ?_
  rintro e w' ⟨rfl,k,os,rfl⟩
  have hsize:∀ k,(Go.Sort.putRow encStr (Go.Sort.ahead w k) gb 0 ((l.map fun s=>s.data.toList).mergeSort fun x y=>decide (x<=y)).toArray).heap.size=w.heap.size:=fun k=>by simp
  refine fin (fun b o=>A.F0 b o\/(b=gb/\o<l.length)) _ ⟨rfl,rfl,rfl,by simp,fun b hb=>?_⟩ (fun _ _ h=>.inl h) (fun b o h=>h.imp id fun h=>⟨by omega,by rw [h.1];simp;omega⟩) ?_
  ·have hBs:=hk.hB
   rw [Go.Sort.heap_grow_old _ _ (by rw [hsize];omega)]
   simp only [Go.Sort.putRow,Go.Sort.mapBlock,Array.getElem?_modify]
   rw [if_neg (by omega)]
   rfl
  ·rw [h1]
   have hll:(zQ (zdn l)).length=l.length:=by rw [zg,ziW]
   rw [<- hll]
   refine Reads.mk (st:=1) (by rw [hll];exact hcap) (fun i hi=>zdY _ _ (List.getElem_mem hi)) fun i hi j hj=>?_
   have hil:i<(zdn l).length:=by rw [zg] at hi;exact hi
   have hrow:(zQ (zdn l))[i]=[.raw (.string (zdn l)[i])]:=by simp [zQ]
   have hj0:j=0:=by rw [hrow] at hj;simpa using hj
   subst hj0
   rw [ziW] at hil
   have hsi:i<((l.map fun s=>s.data.toList).mergeSort fun x y=>decide (x<=y)).length:=by simpa using hil
   refine⟨.inr ⟨rfl,by omega⟩,.string (zdn l)[i],?_,?_⟩
   ·rw [Go.Sort.cell?_grow _ _ _ (by rw [hsize];exact hlt),show 0+i * 1+0=0+i by omega,Go.Sort.cell?_putRow _ _ gb 0 _ _ (Go.Sort.holds_ahead _ w k gb 0 _ hH) (by simp) i (by simpa using hil),getElem!_pos _ i (by simpa using hsi)]
    simp [zdn,encStr]
   ·simp only [hrow,List.getElem_cons_zero]
    exact .raw _
end
section
open Go Go.RowKit
theorem zAP (s:ByteArray):[[D.raw (Value.string s)]]=zQ [s]:=rfl
end
section
open Go Go.RowKit
def zgI (k:Int) (n m:ByteArray) (i:Nat) (bd:List ByteArray):List ByteArray:=
 if k=6 then bd++[n] else if k=8 then (if i=1 then bd++[n] else bd) else if k=13 then (if i=2 then bd++[n,m] else bd) else bd
end
section
open Go Go.RowKit
end
section
open Go Go.RowKit
theorem zvz (l:List ByteArray) (s:ByteArray) (hl:l.length<=1048576):Con Tryz.prog 262 [.d (.sl (zQ l)),.d (.raw (.string s))] (.d (.raw (.bool (zia l s)))):=by
 refine⟨⟨_,Tryz.func262,by decide +kernel,rfl⟩,rfl,fun F w vs hF _ hlen hv=>?_⟩
 match vs,hlen with
 | [v,v'],_=>
  have h0:=hv 0 (by simp) (by simp)
  have h1:=hv 1 (by simp) (by simp)
  simp only [List.getElem_cons_zero,List.getElem_cons_succ] at h0 h1
  unfold zch at h0 h1
  rw [h1.raw_eq]
  rcases zix h0.sl with⟨rfl,p,cap,rfl⟩ | ⟨hpos,b,off,cap,rfl,_,_,hc⟩
  ·refine(Tryz.slices_Contains_string_empty p cap s w).mono ?_
   rintro e w' ⟨rfl,rfl⟩
   exact⟨_,rfl,.d (.raw _),Below.refl _ _⟩
  ·refine(Tryz.slices_Contains_string b off l.length cap l s w (Nat.le_refl _) (by omega) hc).mono ?_
   rintro e w' ⟨rfl,rfl⟩
   refine⟨_,rfl,?_,Below.refl _ _⟩
   have he:Lib.containsS (l.take l.length) s=zia l s:=by
    rw [List.take_length,Bool.eq_iff_iff,Lib.containsS_iff,zia,List.any_eq_true]
    simp
   rw [he]
   exact .d (.raw _)
theorem zDC (l:List ByteArray) (hl:l.length<=1048576):ztJ Tryz.prog 263 [.d (.sl (zQ l))] 1 9 (zQ l):=by
 refine⟨⟨_,Tryz.func263,by decide +kernel,rfl⟩,fun i h=>zdY l _ (List.getElem_mem h),fun F w vs hF _ hlen hv=>?_⟩
 match vs,hlen with
 | [v],_=>
  have h0:=hv 0 (by simp) (by simp)
  simp only [List.getElem_cons_zero] at h0
  unfold zch at h0
  rcases zix h0.sl with⟨rfl,p,cap,rfl⟩ | ⟨hpos,b,off,cap,rfl,_,_,hc⟩
  ·cases p with
   | none=>
    refine(Tryz.slices_Clone_string_nil 0 cap w).mono ?_
    rintro e w' ⟨rfl,rfl⟩
    exact⟨_,[],rfl,World.ownsRow_nil _ _ _ _,fun i hi=>by simp [zQ] at hi,Below.refl _ _⟩
   | some a=>
    refine(Tryz.slices_Clone_string_zero a cap w).mono ?_
    rintro e w' ⟨v',rfl,ho,_,hb⟩
    exact⟨_,[],rfl,ho,fun i hi=>by simp [zQ] at hi,hb⟩
  ·refine(Tryz.slices_Clone_string b off l.length cap l w (Nat.le_refl _) (by omega) hc).mono ?_
   rintro e w' ⟨v',rfl,ho,_,hb⟩
   refine⟨v',_,rfl,by rw [zg];exact ho,fun i hi j hj=>?_,hb⟩
   have hi':i<l.length:=by rw [zg] at hi;exact hi
   have hrow:(zQ l)[i]=[.raw (.string l[i])]:=by simp [zQ]
   have hj0:j=0:=by
    rw [hrow] at hj
    simpa using hj
   subst hj0
   have e:(zQ l)[i][0] = .raw (.string l[i]):=by simp only [hrow,List.getElem_cons_zero]
   rw [e]
   exact⟨.string l[i],by simp [hi'],.raw _⟩
mutual
/-- the free names of an expression, in the order in which they are met -/
def zcn:Ex->List ByteArray->List ByteArray->List ByteArray
 | .mk k n m _ _ s,bd,fs=>if k=3 then (if zia bd n then fs else zox fs n) else zfB k n m 0 s bd fs
def zfB (k:Int) (n m:ByteArray):Nat->List Ex->List ByteArray->List ByteArray->List ByteArray
 | _,[],_,fs=>fs
 | i,e :: es,bd,fs=>zfB k n m (i+1) es bd (zcn e (zgI k n m i bd) fs)
end
mutual
/-- parts asL the kind has them -/
def zlY:Ex->Bool
 | .mk k _ _ _ _ s=>(decide (k≠6) || decide (s.length=1)) && (decide (k≠8) || decide (s.length=2)) && (decide (k≠13) || decide (s.length=3)) && zod s
def zod:List Ex->Bool
 | []=>true
 | e :: es=>zlY e && zod es
end
theorem zrJ:∀ {l:List Ex} (i:Nat) (h:i<l.length),zod l=true->zlY l[i]=true
 | e :: es,0,_,h=>by simp only [zod,Bool.and_eq_true] at h;simpa using h.1
 | e :: es,i+1,hi,h=>by
  simp only [zod,Bool.and_eq_true] at h
  simpa using zrJ i (by simpa using hi) h.2
end
section
open Go Go.RowKit
def RI.strip (r:RI):RI:=⟨r.x,match r.e with
 | .blk q (.map tag _ _)=>.blk q (.map tag [] [])
 | e=>e,r.vs⟩
def zzo (rs:List RI):List RI:=
 match rs.getLast? with
 | some r=>rs.dropLast++[r.strip]
 | none=>rs
theorem zFk {all:List Oper} {base:Nat} {rs rs':List RI} (hl:rs.length=rs'.length) (he:∀ (i:Nat) (r r':RI),rs[i]? = some r->rs'[i]? = some r'->r.x=r'.x/\r.vs=r'.vs/\r.e.ref=r'.e.ref/\∀ q,r.e.ment q=r'.e.ment q) (h:chk all base rs'=true):chk all base rs=true:=by
 obtain⟨h1,h2⟩:=zjO h
 unfold chk
 simp only [Bool.and_eq_true]
 refine⟨?_,?_⟩
 ·rw [List.all_eq_true]
  intro x hx
  obtain⟨k,hk⟩:=List.mem_iff_getElem?.1 hx
  rw [List.getElem?_zipIdx] at hk
  cases ha:all[k]? with
  | none=>rw [ha] at hk;cases hk
  | some o=>
   rw [ha] at hk
   simp only [Option.map_some,Option.some.injEq,Nat.zero_add] at hk
   subst hk
   obtain⟨hkl,hko⟩:=List.getElem?_eq_some_iff.1 ha
   rw [List.all_eq_true]
   intro d hd
   simp only [decide_eq_true_eq]
   exact h1 k hkl d (by rw [hko];exact hd)
 ·have get:∀ a ∈ (all.zip rs).zipIdx,∃ k o r r',a=((o,r),k)/\all[k]? = some o/\rs[k]? = some r/\rs'[k]? = some r':=fun a ha=>by
   obtain⟨k,hk⟩:=List.mem_iff_getElem?.1 ha
   rw [List.getElem?_zipIdx] at hk
   cases hz:(all.zip rs)[k]? with
   | none=>rw [hz] at hk;cases hk
   | some p=>
    rw [hz] at hk
    simp only [Option.map_some,Option.some.injEq,Nat.zero_add] at hk
    obtain⟨o,r⟩:=p
    obtain⟨z1,z2⟩:=List.getElem?_zip_eq_some.1 hz
    have hlt:=(List.getElem?_eq_some_iff.1 z2).1
    exact⟨k,o,r,rs'[k]'(by omega),hk.symm,z1,z2,by simp [show k<rs'.length by omega]⟩
  rw [List.all_eq_true]
  intro a ha
  rw [List.all_eq_true]
  intro b hb
  obtain⟨i,oi,ri,ri',rfl,a1,a2,a3⟩:=get a ha
  obtain⟨j,oj,rj,rj',rfl,b1,b2,b3⟩:=get b hb
  have h3:=h2 i oi ri' j oj rj' a1 a3 b1 b3
  obtain⟨e1,e2,e3,e4⟩:=he i ri ri' a2 a3
  obtain⟨f1,f2,f3,f4⟩:=he j rj rj' b2 b3
  simp only [zkg,zie,e3,f1,f2,f3,f4] at h3 ⊢
  exact h3
theorem znG {all:List Oper} {base:Nat} {rs:List RI} (hf:∀ r:RI,rs.getLast? = some r->∀ q,r.e.ment q=false) (h:chk all base (zzo rs)=true):chk all base rs=true:=by
 unfold zzo at h
 cases hg:rs.getLast? with
 | none=>rw [hg] at h;exact h
 | some r0=>
  rw [hg] at h
  simp only at h
  have hne:rs≠[]:=fun e=>by rw [e] at hg;cases hg
  have hdl:rs=rs.dropLast++[r0]:=by
   have h1:=List.dropLast_concat_getLast hne
   rw [List.getLast?_eq_some_getLast hne] at hg
   rw [<- Option.some.inj hg]
   exact h1.symm
  have hlen:rs.length=(rs.dropLast++[r0.strip]).length:=by
   have:=congrArg List.length hdl
   simpa using this
  refine zFk hlen (fun i r r' h1 h2=>?_) h
  rw [hdl] at h1
  by_cases hlt:i<rs.dropLast.length
  ·rw [List.getElem?_append_left hlt] at h1 h2
   rw [h1] at h2
   cases h2
   exact⟨rfl,rfl,rfl,fun _=>rfl⟩
  ·rw [List.getElem?_append_right (by omega)] at h1 h2
   have hi0:i - rs.dropLast.length=0:=by
    have:=(List.getElem?_eq_some_iff.1 h1).1
    simp only [List.length_cons,List.length_nil] at this
    omega
   rw [hi0] at h1 h2
   simp only [List.getElem?_cons_zero,Option.some.injEq] at h1 h2
   subst h1 h2
   have hm:=hf r0 hg
   obtain⟨x,e,vs⟩:=r0
   refine⟨rfl,rfl,?_,fun q=>?_⟩
   ·cases e with
    | none | tok=>rfl
    | blk q b=>cases b <;> rfl
   ·have:=hm q
    cases e with
    | none | tok=>rfl
    | blk q' b=>cases b with
     | cell | row | iter | obj=>rfl
     | map tag ks cs=>rw [this];rfl
abbrev zEd (k:Int) (n m:ByteArray) (i d:Int) (s:List Ex) (bd fs:List ByteArray) (b:Nat) (q:Nat):St:=⟨[(1,.d (.sl (zQ bd))),(2,.mp zbQ),(3,.box 0 0),(86,.d (.sl (zaF s))),(87,.d (.raw (.int .i64 s.length))),(88,.d (.raw (.int .i64 q)))],[(0,some (.cell 105 (zrg k n m i d s))),(zbQ,some (.map (some b) (zaX (zfB k n m 0 (s.take q) bd fs)) (zbh (zfB k n m 0 (s.take q) bd fs))))],[]⟩
theorem zlm (k:Int) (n m:ByteArray):∀ (i:Nat) (a b:List Ex) (bd l:List ByteArray),zfB k n m i (a++b) bd l=zfB k n m (i+a.length) b bd (zfB k n m i a bd l)
 | i,[],b,bd,l=>by simp [zfB]
 | i,e :: es,b,bd,l=>by
  simp only [List.cons_append,zfB,zlm k n m (i+1) es b,List.length_cons]
  rw [show i+1+es.length=i+(es.length+1) by omega]
theorem znW (k:Int) (n m:ByteArray) (s:List Ex) (bd l:List ByteArray) (q:Nat) (h:q<s.length):zfB k n m 0 (s.take (q+1)) bd l=zcn s[q] (zgI k n m q bd) (zfB k n m 0 (s.take q) bd l):=by
 rw [List.take_succ_eq_append_getElem h,zlm]
 simp only [zfB,List.length_take,Nat.zero_add]
 rw [Nat.min_eq_left (by omega)]
theorem addFree_step (N:Nat) (ih:∀ (t:Ex) (bd fs:List ByteArray),nodesE t<N->2 * nodesE t+bd.length<=1048576->zlY t=true->ConM Tryz.prog 219 [avE t,.d (.sl (zQ bd))] (zaX fs) (zbh fs) (zaX (zcn t bd fs)) (zbh (zcn t bd fs)) (.tup []))
  (k:Int) (n m:ByteArray) (i d:Int) (s:List Ex) (bd fs:List ByteArray) (hN:nodesE (.mk k n m i d s)<N+1) (hb:2 * nodesE (.mk k n m i d s)+bd.length<=1048576) (hs:zlY (.mk k n m i d s)=true) :
  ConM Tryz.prog 219 [avE (.mk k n m i d s),.d (.sl (zQ bd))] (zaX fs) (zbh fs) (zaX (zcn (.mk k n m i d s) bd fs)) (zbh (zcn (.mk k n m i d s) bd fs)) (.tup []):=by
 rw [nodesE] at hN hb
 have hlen:=zaY s
 simp only [zlY,Bool.and_eq_true,Bool.or_eq_true,decide_eq_true_eq] at hs
 obtain⟨⟨⟨hs6,hs8⟩,hs13⟩,hsL⟩:=hs
 have cC:=zvz bd n (by omega)
 have cK:=zDC bd (by omega)
 refine zDz Tryz.func219 rfl (by decide +kernel) rfl (by simp only [AV.closed,zN,avE,zgg,Bool.and_self]) (zaK _) (zaK _) (by simp [Tryz.ntmps219]) fun A hA b=>?_
 rw [Tryz.ntmps219] at hA
 refine goC 300 ?_
 by_cases h3:k=3
 ·subst h3
  simp only [go_sem,hA,avE,zbj,zbQ,zV]
  cases hh:zia bd n with
  | true=>
   rw [hh] at cC
   have he:zcn (.mk 3 n m i d s) bd fs=fs:=by rw [zcn,if_pos rfl,hh];rfl
   refine zaU 300 cC rfl (by simp only [go_sem]) (by simp only [go_sem,hA]) ?_
   simp only [go_sem,hA,he,zbQ,Tryz.results219]
  | false=>
   rw [hh] at cC
   have he:zcn (.mk 3 n m i d s) bd fs=zox fs n:=by rw [zcn,if_pos rfl,hh];rfl
   refine zaU 300 cC rfl (by simp only [go_sem]) (by simp only [go_sem,hA]) ?_
   simp only [go_sem,hA,he,zbQ,Tryz.results219]
   exact⟨zcV fs,by rw [<- zmv,<- zmw];rfl⟩
 by_cases h6:k=6
 ·subst h6
  obtain⟨e0,rfl⟩:∃ e0,s=[e0]:=by
   rcases hs6 with h | h
   ·exact absurd rfl h
   ·match s,h with
    | [e0],_=>exact⟨e0,rfl⟩
  simp only [zod,Bool.and_true] at hsL
  simp only [nodesL] at hN hb
  have hc:=ih e0 (bd++[n]) fs (by omega) (by simp;omega) hsL
  have he:zcn (.mk 6 n m i d [e0]) bd fs=zcn e0 (bd++[n]) fs:=by rw [zcn,if_neg (by decide)];simp [zfB,zgI]
  have hin:zQ (bd++[n])=zQ bd++[[.raw (.string n)]]:=by simp [zQ]
  simp only [go_sem,hA,avE,zbj,zaF,zax,zbQ,Int.reduceEq,zV,mixed,List.getD_cons_zero]
  refine znk 300 cK rfl rfl rfl (by simp only [go_sem]) (by simp only [go_sem,hA]) (by simp only [go_sem,zV]) ?_
  simp only [go_sem,hA,zV]
  refine⟨⟨zgb [n],zdY _,by rw [zg];omega⟩,znl 300 (args:=[.tmp 25,.tmp 31]) (m:=.tmp 32) hc rfl rfl rfl rfl rfl rfl (zaK _) (by simp only [go_sem,zaB,hin]) (by simp only [go_sem,hA]) ?_⟩
  simp only [go_sem,he,zbQ,Tryz.results219,and_true]
  exact znG (fun r h q=>by rw [<- Option.some.inj h];exact zV q _) (by kernel_rfl)
 by_cases h8:k=8
 ·subst h8
  obtain⟨e0,e1,rfl⟩:∃ e0 e1,s=[e0,e1]:=by
   rcases hs8 with h | h
   ·exact absurd rfl h
   ·match s,h with
    | [e0,e1],_=>exact⟨e0,e1,rfl⟩
  simp only [zod,Bool.and_true,Bool.and_eq_true] at hsL
  simp only [nodesL] at hN hb
  have hc0:=ih e0 bd fs (by omega) (by omega) hsL.1
  have hc1:=ih e1 (bd++[n]) (zcn e0 bd fs) (by omega) (by simp;omega) hsL.2
  have he:zcn (.mk 8 n m i d [e0,e1]) bd fs=zcn e1 (bd++[n]) (zcn e0 bd fs):=by rw [zcn,if_neg (by decide)];simp [zfB,zgI]
  have hin:zQ (bd++[n])=zQ bd++[[.raw (.string n)]]:=by simp [zQ]
  simp only [go_sem,hA,avE,zbj,zaF,zax,zbQ,Int.reduceEq,zV,List.getD_cons_zero]
  refine zjA 300 (args:=[.tmp 39,.tmp 40]) (m:=.tmp 41) hc0 rfl rfl rfl rfl rfl rfl (zaK _) (by simp only [go_sem,zaB]) (by simp only [go_sem,hA]) ?_
  simp only [go_sem,hA,zV,mixed,List.getD_cons_zero,List.getD_cons_succ]
  refine znk 300 cK rfl rfl rfl (by simp only [go_sem]) (by simp only [go_sem,hA]) (by simp only [go_sem,zV]) ?_
  simp only [go_sem,hA,zV]
  refine⟨⟨zgb [n],zdY _,by rw [zg];omega⟩,znl 300 (args:=[.tmp 46,.tmp 52]) (m:=.tmp 53) hc1 rfl rfl rfl rfl rfl rfl (zaK _) (by simp only [go_sem,zaB,hin]) (by simp only [go_sem,hA]) ?_⟩
  simp only [go_sem,he,zbQ,Tryz.results219,and_true]
  exact znG (fun r h q=>by rw [<- Option.some.inj h];exact zV q _) (by kernel_rfl)
 by_cases h13:k=13
 ·subst h13
  obtain⟨e0,e1,e2,rfl⟩:∃ e0 e1 e2,s=[e0,e1,e2]:=by
   rcases hs13 with h | h
   ·exact absurd rfl h
   ·match s,h with
    | [e0,e1,e2],_=>exact⟨e0,e1,e2,rfl⟩
  simp only [zod,Bool.and_true,Bool.and_eq_true] at hsL
  simp only [nodesL] at hN hb
  have hc0:=ih e0 bd fs (by omega) (by omega) hsL.1
  have hc1:=ih e1 bd (zcn e0 bd fs) (by omega) (by omega) hsL.2.1
  have hc2:=ih e2 (bd++[n,m]) (zcn e1 bd (zcn e0 bd fs)) (by omega) (by simp;omega) hsL.2.2
  have he:zcn (.mk 13 n m i d [e0,e1,e2]) bd fs=zcn e2 (bd++[n,m]) (zcn e1 bd (zcn e0 bd fs)):=by rw [zcn,if_neg (by decide)];simp [zfB,zgI]
  have hin:zQ (bd++[n,m])=zQ bd++[[.raw (.string n)],[.raw (.string m)]]:=by simp [zQ]
  simp only [go_sem,hA,avE,zbj,zaF,zax,zbQ,Int.reduceEq,zV,List.getD_cons_zero]
  refine zjA 300 (args:=[.tmp 60,.tmp 61]) (m:=.tmp 62) hc0 rfl rfl rfl rfl rfl rfl (zaK _) (by simp only [go_sem,zaB]) (by simp only [go_sem,hA]) ?_
  simp only [go_sem,hA,zV,List.getD_cons_zero,List.getD_cons_succ]
  refine zjA 300 (args:=[.tmp 67,.tmp 68]) (m:=.tmp 69) hc1 rfl rfl rfl rfl rfl rfl (zaK _) (by simp only [go_sem,zaB]) (by simp only [go_sem,hA]) ?_
  simp only [go_sem,hA,zV,mixed,List.getD_cons_zero,List.getD_cons_succ]
  refine znk 300 cK rfl rfl rfl (by simp only [go_sem]) (by simp only [go_sem,hA]) (by simp only [go_sem,zV]) ?_
  simp only [go_sem,hA,zV]
  refine⟨⟨zgb [n,m],zdY _,by rw [zg];omega⟩,znl 300 (args:=[.tmp 74,.tmp 82]) (m:=.tmp 83) hc2 rfl rfl rfl rfl rfl rfl (zaK _) (by simp only [go_sem,zaB,hin]) (by simp only [go_sem,hA]) ?_⟩
  simp only [go_sem,he,zbQ,Tryz.results219,and_true]
  exact znG (fun r h q=>by rw [<- Option.some.inj h];exact zV q _) (by kernel_rfl)
 have he:zcn (.mk k n m i d s) bd fs=zfB k n m 0 s bd fs:=by rw [zcn,if_neg h3]
 have g3:decide (k=3)=false:=decide_eq_false h3
 have g6:decide (k=6)=false:=decide_eq_false h6
 have g8:decide (k=8)=false:=decide_eq_false h8
 have g13:decide (k=13)=false:=decide_eq_false h13
 simp only [go_sem,hA,avE,zbj,zbQ,g3,g6,g8,g13,zV,zK]
 refine zc [1,2,3,86,87,88] [0,7700077] [] (fun x σ=>∃ q:Nat,q<=s.length/\x=s.length - q/\σ=zEd k n m i d s bd fs b q) s.length ⟨0,by omega,by omega,by simp only [go_sem,zEd,zbQ,List.take_zero,zfB]⟩ ?_
 rintro x σ ⟨q,hq,rfl,rfl⟩
 refine goC 300 ?_
 by_cases hlt:q<s.length
 ·have g1:decide ((q:Int)<(s.length:Int))=true:=decide_eq_true (by omega)
  have hn1:=zeS s q hlt
  have hbd:zgI k n m q bd=bd:=by simp [zgI,h6,h8,h13]
  have hc:=ih s[q] bd (zfB k n m 0 (s.take q) bd fs) (by omega) (by omega) (zrJ q hlt hsL)
  have hts:=znW k n m s bd fs q hlt
  rw [hbd] at hts
  rw [<- hts] at hc
  simp only [go_sem,hA,zEd,zbQ,g1,Int.toNat_natCast,zK,zjJ s q hlt,zV]
  refine⟨⟨by omega,by omega⟩,zjA 300 (args:=[.tmp 92,.tmp 93]) (m:=.tmp 94) hc rfl rfl rfl rfl rfl rfl (zaK _) (by simp only [go_sem,zaB]) (by simp only [go_sem,hA]) ?_⟩
  simp only [go_sem,hA]
  exact⟨by unfold za;omega,s.length - (q+1),by omega,q+1,by omega,rfl,rfl⟩
 ·have g1:decide ((q:Int)<(s.length:Int))=false:=decide_eq_false (by omega)
  obtain rfl:q=s.length:=by omega
  simp only [go_sem,hA,zEd,zbQ,g1,he,List.take_length,Tryz.results219]
theorem zyU (N:Nat):∀ (t:Ex) (bd fs:List ByteArray),nodesE t<N->2 * nodesE t+bd.length<=1048576->zlY t=true->ConM Tryz.prog 219 [avE t,.d (.sl (zQ bd))] (zaX fs) (zbh fs) (zaX (zcn t bd fs)) (zbh (zcn t bd fs)) (.tup []):=by
 induction N with
 | zero=>intro t bd fs h;omega
 | succ N ih=>intro t bd fs h hb hs;cases t;exact addFree_step N ih _ _ _ _ _ _ bd fs h hb hs
end
section
open Go Go.RowKit
def zgm (t:Ex):List ByteArray:=if zal t=0 then zdn (zcn t [] []) else []
mutual
theorem zln:∀ (t:Ex) (bd fs:List ByteArray),(zcn t bd fs).length<=fs.length+nodesE t
 | .mk k n m i d s,bd,fs=>by
  rw [zcn,nodesE]
  have h:=zll k n m 0 s bd fs
  split
  ·split
   ·omega
   ·unfold zox
    split
    ·omega
    ·simp
  ·omega
theorem zll (k:Int) (n m:ByteArray):∀ (i:Nat) (s:List Ex) (bd fs:List ByteArray),(zfB k n m i s bd fs).length<=fs.length+nodesL s
 | i,[],bd,fs=>by simp [zfB]
 | i,e :: es,bd,fs=>by
  rw [zfB,nodesL]
  have h1:=zln e (zgI k n m i bd) fs
  have h2:=zll k n m (i+1) es bd (zcn e (zgI k n m i bd) fs)
  omega
end
def zqy (fs:List ByteArray) (seen:List Nat):List ByteArray:=seen.map fun j=>atB fs j
theorem zul {a b:List ByteArray} (h:a.Perm b):zdn a=zdn b:=by
 unfold zdn
 congr 1
 have hp:((a.map fun s=>s.data.toList).mergeSort fun x y=>decide (x<=y)).Perm ((b.map fun s=>s.data.toList).mergeSort fun x y=>decide (x<=y)):=
  (List.mergeSort_perm _ _).trans ((h.map _).trans (List.mergeSort_perm _ _).symm)
 have hs:∀ l:List (List UInt8),(l.mergeSort fun x y=>decide (x<=y)).Pairwise fun x y=>decide (x<=y)=true:=fun l=>
  List.pairwise_mergeSort (fun a b c h1 h2=>by
   simp only [decide_eq_true_eq] at h1 h2 ⊢
   exact List.le_trans h1 h2) (fun a b=>by
   simp only [Bool.or_eq_true,decide_eq_true_eq]
   exact List.le_total a b) l
 refine List.Perm.eq_of_pairwise (fun x y _ _ h1 h2=>?_) (hs _) (hs _) hp
 simp only [decide_eq_true_eq] at h1 h2
 exact List.le_antisymm h1 h2
theorem zAd {fs:List ByteArray} {seen:List Nat} (hn:seen.Nodup) (hl:∀ j ∈ seen,j<fs.length) (ha:∀ j,j<fs.length->j ∈ seen):(zqy fs seen).Perm fs:=by
 have hp:seen.Perm (List.range fs.length):=(List.perm_ext_iff_of_nodup hn List.nodup_range).2 fun j=>by
  rw [List.mem_range]
  exact⟨hl j,ha j⟩
 have h1:((List.range fs.length).map fun j=>atB fs j)=fs:=by
  apply List.ext_getElem
  ·simp
  ·intro i h1 h2
   simp [atB,h2]
 have h2:=hp.map fun j=>atB fs j
 rw [h1] at h2
 exact h2
abbrev zAD (fs:List ByteArray) (seen:List Nat):St:=⟨[(3,.mp 3000),(4,.grow 5002 (zQ (zqy fs seen))),(17,.box 6001 0)],[(3000,some (.map none (zaX fs) (zbh fs))),(6001,some (.iter 3000 (zaX fs).length seen))],[(5002,some ⟨1,9,(zqy fs seen).length,none⟩)]⟩
theorem zCw (t:Ex) (hb:nodesE t<=524288) (hok:zal t=0->zlY t=true):Con Tryz.prog 140 [avE t] (.d (.sl (zQ (zgm t)))):=by
 have cc:=zeo t (by omega)
 refine zei Tryz.func140 rfl (by decide +kernel) rfl (by simp only [AV.closed,zN,avE,zgg,Bool.and_self]) (by simp [Tryz.ntmps140]) fun A hA=>?_
 rw [Tryz.ntmps140] at hA
 refine goC 300 ?_
 simp only [go_sem,hA,zaB]
 refine zaU 300 cc rfl (by simp only [go_sem,zaB]) (by simp only [go_sem,hA]) ?_
 by_cases h:zal t=0
 ·have g0:(decide ¬ zal t=0)=false:=by simpa using h
  have hx:zgm t=zdn (zcn t [] []):=if_pos h
  have ca:=zyU (nodesE t+1) t [] [] (by omega) (by simp;omega) (hok h)
  simp only [go_sem,hA,g0]
  refine zjA 8 (args:=[.tmp 10,.const (.slice none 0 0)]) (m:=.tmp 11) ca rfl rfl rfl rfl rfl rfl (zaK _) (by simp only [go_sem,zaB];rfl) (by simp only [go_sem,hA]) ?_
  simp only [go_sem,hA]
  obtain⟨fs,hfs⟩:∃ fs,zcn t [] []=fs:=⟨_,rfl⟩
  have hfl:fs.length<=524288:=by rw [<- hfs];have:=zln t [] [];simp at this;omega
  rw [hfs] at hx ⊢
  have hkl:(zaX fs).length=fs.length:=by simp [zaX]
  refine ziJ 0 (by simp only [go_sem]) (zsv (kt:=9) (et:=4) rfl (by kernel_rfl) rfl rfl) (by simp only [go_sem,hA]) ?_
  show zbL _ _ _ _ _ _
  simp only [go_sem,hkl]
  have hby16:Tryz.prog.bytesOf 9=16:=by kernel_rfl
  refine ziJ 300 (by simp only [go_sem]) (zqn (n:=fs.length) (z:=.string ⟨#[]⟩) (e:=9) (by rfl) (by kernel_rfl) (by kernel_rfl) (by kernel_rfl) (by rfl) (by rfl) (by rw [hby16];omega) (by unfold maxLen;omega) (St.free_of (r:=5002) (by simp only [go_sem,zV]))) (by simp only [go_sem,hA]) ?_
  simp only [go_sem,hA,zV]
  refine zc [3,4,17] [3000,6001] [5002] (fun y σ=>∃ seen:List Nat,seen.Nodup/\(∀ j ∈ seen,j<fs.length)/\y=fs.length - seen.length/\σ=zAD fs seen) fs.length ⟨[],List.nodup_nil,(fun j hj=>by cases hj),rfl,by simp only [go_sem,zAD];rfl⟩ ?_
  rintro y σ ⟨seen,hnd,hlt,rfl,rfl⟩
  have hsl:seen.length<=fs.length:=by
   have:=List.Nodup.length_le_of_subset hnd (l₂:=List.range fs.length) (fun j hj=>List.mem_range.2 (hlt j hj))
   simpa using this
  have hml:(zqy fs seen).length=seen.length:=by simp [zqy]
  refine goC 300 ?_
  simp only [go_sem,zAD]
  refine zEW 6 rfl rfl rfl rfl rfl (by simp only [go_sem,hA]) (fun hall=>?_) (fun j hj hj' hns=>?_)
  ·simp only [go_sem,hA]
   refine goC 300 ?_
   simp only [go_sem,hA]
   refine zEV 4 (zqy fs seen) 300 rfl rfl rfl rfl rfl rfl rfl (by omega) (by simp only [go_sem,hA]) (by decide) ?_
   rw [hx,<- zul (zAd hnd hlt fun j hj=>hall j (by rw [hkl];exact hj))]
   simp only [go_sem,hA,Tryz.results140]
  ·simp only [go_sem,hA]
   refine goC 8 ?_
   simp only [go_sem]
   refine ziJ 300 (by simp only [go_sem]) (zuR (j:=j) (q:=6001) (r:=3000) (by rfl) (by rfl) (by rfl) (by rfl) (by rfl) hj hj') (by simp only [go_sem,hA]) ?_
   have hjl:j<fs.length:=by rw [hkl] at hj;exact hj
   have hkj:(zaX fs)[j] = .string fs[j]:=by simp [zaX]
   have htj:(zbh fs)[j] = .d (.raw (.bool true)):=by simp [zbh]
   rw [hkj,htj]
   simp only [go_sem,hA,zg,zV]
   have hmet:zqy fs (seen++[j])=zqy fs seen++[fs[j]]:=by simp [zqy,atB,hjl]
   have hnd2:(seen++[j]).Nodup:=List.nodup_append.2 ⟨hnd,by simp,fun a ha b hb=>by
    have:b=j:=by simpa using hb
    subst this
    intro e;subst e;exact hns ha⟩
   have hlt2:∀ i ∈ seen++[j],i<fs.length:=fun i hi=>by
    rcases List.mem_append.1 hi with h | h
    ·exact hlt i h
    ·have:i=j:=by simpa using h
     omega
   have hsl2:(seen++[j]).length<=fs.length:=by
    have:=List.Nodup.length_le_of_subset hnd2 (l₂:=List.range fs.length) (fun j hj=>List.mem_range.2 (hlt2 j hj))
    simpa using this
   have hsl3:(seen++[j]).length=seen.length+1:=by simp
   refine⟨⟨zgb [fs[j]],zdY _,by omega⟩,fs.length - (seen++[j]).length,by omega,seen++[j],hnd2,hlt2,rfl,?_⟩
   rw [hmet,List.length_append,<- zle]
   rfl
 ·have g0:(decide ¬ zal t=0)=true:=by simpa using h
  have hx:zgm t=[]:=if_neg h
  simp only [go_sem,hA,g0,hx,Tryz.results140]
  rfl
end
section
open Go Go.RowKit
mutual
theorem znH:∀ t:Ex,zbI t=0->zlY t=true
 | .mk k n m i d s,h=>by
  obtain⟨h1,h2⟩:=zyF h
  obtain⟨e6,e8,e13,_⟩:=zvG h1
  simp only [zlY,Bool.and_eq_true,Bool.or_eq_true,decide_eq_true_eq]
  exact⟨⟨⟨(Decidable.em (k=6)).elim (fun e=>.inr (e6 e)) .inl,(Decidable.em (k=8)).elim (fun e=>.inr (e8 e)) .inl⟩,(Decidable.em (k=13)).elim (fun e=>.inr (e13 e)) .inl⟩,zli s h2⟩
theorem zli:∀ l:List Ex,zcm l=0->zod l=true
 | [],_=>rfl
 | e :: es,h=>by
  obtain⟨h1,h2⟩:=ztz h
  simp only [zod,Bool.and_eq_true]
  exact⟨znH e h1,zli es h2⟩
end
theorem zvE {t:Ex} (h:zal t=0):zlY t=true:=znH t (zBn h).1
theorem zfA:∀ a b:List UInt8,Op.bytesLess a b=true ↔ a<b
 | [],[]=>by simp [Op.bytesLess]
 | x :: a,[]=>by simp [Op.bytesLess]
 | [],y :: b=>by simp [Op.bytesLess]
 | x :: a,y :: b=>by
  rw [Op.bytesLess,Bool.or_eq_true,Bool.and_eq_true,List.cons_lt_cons_iff,zfA a b]
  simp
def ltL (a b:ByteArray):Prop:=a.data.toList<b.data.toList
theorem zqB (a b:ByteArray):ltS a b=true ↔ ltL a b:=zfA _ _
theorem zxQ {a b c:ByteArray} (h1:ltL a b) (h2:ltL b c):ltL a c:=List.lt_trans h1 h2
theorem zna (a:ByteArray):¬ ltL a a:=List.lt_irrefl _
theorem zES {a b:ByteArray} (h:¬ ltL a b) (hne:a≠b):ltL b a:=by
 have h1:b.data.toList<=a.data.toList:=List.not_lt.1 h
 rcases List.le_iff_lt_or_eq.1 h1 with h2 | h2
 ·exact h2
 ·exact absurd (zFn h2).symm hne
end
section
open Go Go.RowKit
theorem zBQ (l:List ByteArray):Con Tryz.prog 136 [.d (.sl (zQ l))] (.d (.raw (.int .i64 (zaT l)))):=by
 refine kO Tryz.func136 Tryz.ntmps136 fun A hA=>?_
 refine goC 400 ?_
 by_cases h5:¬ l.length=1/\¬ l.length=3
 ·have g5:(decide ¬ (l.length:Int)=1)=true:=decide_eq_true (by omega)
  have g6:(decide ¬ (l.length:Int)=3)=true:=decide_eq_true (by omega)
  have he:zaT l=1:=by unfold zaT;rw [if_pos h5]
  simp only [go_sem,hA,g5,g6,zg,he,Tryz.results136]
 have h6:l.length=1\/(¬ l.length=1/\l.length=3):=by omega
 have he:zaT l=if l.any (zbl l) then 6 else 0:=by unfold zaT;rw [if_neg h5]
 rcases h6 with h6 | ⟨h6,h7⟩
 case' inl=>
  have g5:(decide ¬ (l.length:Int)=1)=false:=decide_eq_false (by omega)
  have g7:decide ((l.length:Int)=1)=true:=decide_eq_true (by omega)
  simp only [go_sem,hA,g5,undef,zg]
 case' inr=>
  have g5:(decide ¬ (l.length:Int)=1)=true:=decide_eq_true (by omega)
  have g6:(decide ¬ (l.length:Int)=3)=false:=decide_eq_false (by omega)
  have g7:decide ((l.length:Int)=1)=false:=decide_eq_false (by omega)
  simp only [go_sem,hA,g5,g6,zg]
 all_goals
  refine zc [0,13,14,15] [] [] (fun y σ=>∃ q:Nat,q<=l.length/\y=l.length - q/\(l.take q).any (zbl l)=false/\σ=ztq l q) l.length ⟨0,by omega,by omega,rfl,by simp only [go_sem,ztq]⟩ ?_
  rintro y σ ⟨q,hq,rfl,hf,rfl⟩
  refine goC 400 ?_
  by_cases hlt:q<l.length
  ·have k1:decide ((q:Int)<(l.length:Int))=true:=decide_eq_true (by omega)
   have hc:=zwS l[q]
   simp only [go_sem,hA,ztq,zg,k1,Int.toNat_natCast,zbC l q hlt]
   refine⟨⟨by omega,by omega⟩,?_⟩
   have hbad:zbl l l[q]=true->zaT l=6:=fun h=>by
    rw [he,if_pos]
    rw [List.any_eq_true]
    exact⟨_,List.getElem_mem hlt,h⟩
   have hgood:zbl l l[q]=false->(l.take (q+1)).any (zbl l)=false:=fun h=>by
    rw [List.take_succ_eq_append_getElem hlt,List.any_append,hf]
    simp [h]
   have g7':decide (l.length=1)=decide ((l.length:Int)=1):=decide_eq_decide.2 (by omega)
   obtain⟨one,g8⟩:∃ one,decide ((l.length:Int)=1)=one:=⟨_,rfl⟩
   rw [g8] at g7'
   cases hn:zcd l[q] with
   | true=>
    rw [hn] at hc
    have hb:=hgood (by unfold zbl;rw [hn];rfl)
    refine zaU 300 hc rfl (by simp only [go_sem]) (by simp only [go_sem,hA]) ?_
    simp only [go_sem,hA,undef]
    exact⟨by unfold za;omega,l.length - (q+1),by omega,q+1,by omega,rfl,hb,rfl⟩
   | false=>
    rw [hn] at hc
    refine zaU 300 hc rfl (by simp only [go_sem]) (by simp only [go_sem,hA]) ?_
    cases one with
    | true=>
     have hb:=hbad (by unfold zbl;rw [hn,g7'];rfl)
     simp only [go_sem,hA,zg,g8,hb,undef,Tryz.results136]
    | false=>
     by_cases hz:l[q]=⟨#[]⟩
     ·have hb:=hgood (by unfold zbl;rw [hn,g7',hz];rfl)
      have k2:decide (¬ l[q]=⟨#[]⟩)=false:=decide_eq_false (fun h=>h hz)
      simp only [go_sem,hA,zg,g8,k2]
      exact⟨by unfold za;omega,l.length - (q+1),by omega,q+1,by omega,rfl,hb,rfl⟩
     ·have hb:=hbad (by unfold zbl;rw [hn,g7'];simp [hz])
      have k2:decide (¬ l[q]=⟨#[]⟩)=true:=decide_eq_true hz
      simp only [go_sem,hA,zg,g8,k2,hb,Tryz.results136]
  ·have k1:decide ((q:Int)<(l.length:Int))=false:=decide_eq_false (by omega)
   obtain rfl:q=l.length:=by omega
   rw [List.take_length] at hf
   rw [hf] at he
   simp only [go_sem,hA,ztq,k1,he,Tryz.results136]
theorem zCS (x:Ex):Con Tryz.prog 139 [avE x] (.d (.raw (.bool (decide (x.kind=4))))):=by
 refine zei Tryz.func139 rfl (by decide +kernel) rfl (by simp only [go_sem,zaB]) (by simp [Tryz.ntmps139]) fun A hA=>?_
 rw [Tryz.ntmps139] at hA
 refine goC 400 ?_
 simp only [go_sem,hA,zaB,Tryz.results139]
def ziB (label:ByteArray) (x:Ex):Bool:=decide (x.kind=5) && decide (x.name=label)
theorem zzP (label:ByteArray) (x:Ex):Con Tryz.prog 141 [avE x,.at_ [.raw (.string label)]] (.d (.raw (.bool (ziB label x)))):=by
 refine zei Tryz.func141 rfl (by decide +kernel) rfl (by simp only [go_sem,zaB]) (by simp [Tryz.ntmps141]) fun A hA=>?_
 rw [Tryz.ntmps141] at hA
 refine goC 400 ?_
 unfold ziB
 cases h:decide (x.kind=5) <;> simp only [go_sem,hA,zaB,h,undef,Bool.false_and,Tryz.results141]
def zcu (label:ByteArray) (d:Dc):Int:=
 if d.id<1\/999999<d.id then 2 else if ¬ d.kind=1/\¬ d.kind=2/\¬ d.kind=3 then 9 else if ¬ zaT d.names=0 then zaT d.names else if ¬ zal d.body=0 then zal d.body
 else if zid (fun x=>decide (x.kind=4)) d.body then 9 else if 0<(zgm d.body).length then 21 else if zid (ziB label) d.body then 1 else 0
theorem zDO (label:ByteArray) (d:Dc) (hb:nodesE d.body<=524288) (hok:zal d.body=0->zlY d.body=true):Con Tryz.prog 70 [.d (.raw (.string label)),avD d] (.d (.raw (.int .i64 (zcu label d)))):=by
 refine kO Tryz.func70 Tryz.ntmps70 fun A hA=>?_
 refine goC 400 ?_
 by_cases h1:d.id<1
 ·have g1:decide (d.id<1)=true:=decide_eq_true h1
  have hr:zcu label d=2:=if_pos (.inl h1)
  simp only [go_sem,hA,avD,g1,hr,undef,Tryz.results70]
 have g1:decide (d.id<1)=false:=decide_eq_false h1
 by_cases h2:999999<d.id
 ·have g2:decide (999999<d.id)=true:=decide_eq_true h2
  have hr:zcu label d=2:=if_pos (.inr h2)
  simp only [go_sem,hA,avD,g1,g2,hr,Tryz.results70]
 have g2:decide (999999<d.id)=false:=decide_eq_false h2
 have hr0:zcu label d=if ¬ d.kind=1/\¬ d.kind=2/\¬ d.kind=3 then 9 else if ¬ zaT d.names=0 then zaT d.names else if ¬ zal d.body=0 then zal d.body
   else if zid (fun x=>decide (x.kind=4)) d.body then 9 else if 0<(zgm d.body).length then 21 else if zid (ziB label) d.body then 1 else 0:=if_neg (by omega)
 by_cases hk:¬ d.kind=1/\¬ d.kind=2/\¬ d.kind=3
 ·rw [if_pos hk] at hr0
  simp only [go_sem,hA,avD,g1,g2,hk.1,hk.2.1,hk.2.2,hr0,Tryz.results70]
 rw [if_neg hk] at hr0
 have hk3:d.kind=1\/(¬ d.kind=1/\d.kind=2)\/(¬ d.kind=1/\¬ d.kind=2/\d.kind=3):=by omega
 rcases hk3 with hk | ⟨hk,hk'⟩ | ⟨hk,hk',hk''⟩
 case' inl=>simp only [go_sem,hA,avD,g1,g2,hk,undef]
 case' inr.inl=>simp only [go_sem,hA,avD,g1,g2,hk',undef,Int.reduceEq]
 case' inr.inr=>simp only [go_sem,hA,avD,g1,g2,hk'',Int.reduceEq]
 all_goals
  refine gC (zBQ d.names) ?_
  by_cases hn:zaT d.names=0
  case neg=>
   have g3:(decide ¬ zaT d.names=0)=true:=decide_eq_true hn
   rw [if_pos hn] at hr0
   simp only [go_sem,hA,g3,hr0,Tryz.results70]
  have g3:(decide ¬ zaT d.names=0)=false:=by simp [hn]
  rw [if_neg (by simp [hn])] at hr0
  simp only [go_sem,hA,g3]
  refine gC (zeo d.body (by omega)) ?_ rfl (by simp only [go_sem,zaB])
  by_cases hx:zal d.body=0
  case neg=>
   have g4:(decide ¬ zal d.body=0)=true:=decide_eq_true hx
   rw [if_pos hx] at hr0
   simp only [go_sem,hA,g4,hr0,Tryz.results70]
  have g4:(decide ¬ zal d.body=0)=false:=by simp [hx]
  rw [if_neg (by simp [hx])] at hr0
  simp only [go_sem,hA,g4]
  refine gC (zlk d.body 139 [] (fun x=>decide (x.kind=4)) rfl rfl (by omega) fun x _=>zCS x) ?_ rfl (by simp only [go_sem,zaB])
  cases hd:zid (fun x=>decide (x.kind=4)) d.body with
  | true=>
   rw [if_pos hd] at hr0
   simp only [go_sem,hA,hr0,Tryz.results70]
  | false=>
  rw [if_neg (by simp [hd])] at hr0
  simp only [go_sem,hA]
  refine gC (zCw d.body hb hok) ?_ rfl (by simp only [go_sem,zaB])
  by_cases hf:0<(zgm d.body).length
  ·have g5:decide ((0:Int)<((zgm d.body).length:Int))=true:=decide_eq_true (by omega)
   rw [if_pos hf] at hr0
   simp only [go_sem,hA,zg,g5,hr0,Tryz.results70]
  have g5:decide ((0:Int)<((zgm d.body).length:Int))=false:=decide_eq_false (by omega)
  rw [if_neg hf] at hr0
  simp only [go_sem,hA,zg,g5]
  refine zEr 0 ?_
  simp only [go_sem]
  refine gC (zlk d.body 141 [.at_ [.raw (.string label)]] (ziB label) rfl rfl (by omega) fun x _=>zzP label x) ?_ rfl (by simp only [go_sem,zaB])
  cases hd2:zid (ziB label) d.body with
  | true=>
   rw [if_pos hd2] at hr0
   simp only [go_sem,hA,hr0,Tryz.results70]
  | false=>
   rw [if_neg (by simp [hd2])] at hr0
   simp only [go_sem,hA,hr0,Tryz.results70]
end
end Go.Proofs.YtpnjjmcimjlfkaaGreatDoor
