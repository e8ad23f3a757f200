/- Texts of this proof, part 19: what the proof uses of them. -/
import Derived.Test.YtpnjjmcimjlfkaaGreatDoorDar
import Derived.Test.YtpnjjmcimjlfkaaGreatDoorDal
import Derived.Test.YtpnjjmcimjlfkaaGreatDoorDam
set_option maxRecDepth 100000
set_option maxHeartbeats 64000000
namespace Go.Proofs.YtpnjjmcimjlfkaaGreatDoor
section
open Go Go.RowKit
def spR (s:ByteArray) (k i j:Int):List D:=[.raw (.string s),.raw (.int .i64 k),.raw (.int .i64 i),.raw (.int .i64 j)]
def zlV (b:Bool) (s:ByteArray) (i:Int) (k:Int) (rows:List (List D)):List (List D):=if b then rows++[spR s k i 0] else rows
def zmc (s:ByteArray) (i:Int) (n:Nat) (rows:List (List D)):List (List D):=rows++(List.range n).map fun(j:Nat)=>spR s 2 i (j:Int)
def ziM (d:Dc):ByteArray:=d.names.getD 0 ⟨#[]⟩
def zmN (s:ByteArray) (a:List (List D) × List ByteArray) (d:Dc):List (List D) × List ByteArray:=
 (zlV (decide (d.names.length=1) && zbT a.2 (ziM d)) s d.id 4 (zlV d.doubt s d.id 3 (zmc s d.id (confE d.body) (zlV (decide (d.names.length=3)) s d.id 1 a.1))),
  if d.names.length=1 then zeN a.2 (ziM d) else a.2)
def zfc (x:Mo) (n:Nat):List (List D) × List ByteArray:=(x.decls.take n).foldl (zmN x.label) ([],[])
abbrev zxH (x:Mo) (rows:List (List D)) (fs:List ByteArray) (q:Nat):St:=⟨[(1,.box 0 0),(3,.grow 99 rows),(4,.mp 2000),(10,.d (.sl (zak x.decls))),(11,.d (.raw (.int .i64 x.decls.length))),(12,.d (.raw (.int .i64 q)))],[(0,some (.cell 56 [.d (.raw (.string x.label)),.d (.sl (zv x.uses)),.d (.sl (zak x.decls))])),(2000,some (.map none (zax fs) (zar fs)))],[(99,some ⟨4,60,rows.length,none⟩)]⟩
abbrev zxG (x:Mo) (d:Dc) (rows:List (List D)) (fs:List ByteArray) (q j:Nat):St:=⟨[(1,.box 0 0),(3,.grow 99 rows),(4,.mp 2000),(6,.box 5002 0),(10,.d (.sl (zak x.decls))),(11,.d (.raw (.int .i64 x.decls.length))),(12,.d (.raw (.int .i64 q))),(30,.d (.raw (.int .i64 (confE d.body)))),(31,.d (.raw (.int .i64 j)))],
 [(0,some (.cell 56 [.d (.raw (.string x.label)),.d (.sl (zv x.uses)),.d (.sl (zak x.decls))])),(2000,some (.map none (zax fs) (zar fs))),
  (5002,some (.cell 107 [.d (.raw (.int .i64 d.id)),.d (.raw (.int .i64 d.kind)),.d (.raw (.bool d.pub)),.d (.sl (zv d.names)),.d (.raw (.bool d.doubt)),.d (.raw (.int .i64 d.body.kind)),.d (.raw (.string d.body.name)),.d (.raw (.string d.body.more)),.d (.raw (.int .i64 d.body.int)),.d (.raw (.int .i64 d.body.den)),.d (.sl (zaz d.body.sub))]))],[(99,some ⟨4,60,rows.length,none⟩)]⟩
def Sp4 (rows:List (List D)) (n:Nat):Prop:=(∀ r ∈ rows,r.length=4)∧rows.length≤n
theorem Sp4.le {rows:List (List D)} {n m:Nat} (h:Sp4 rows n) (hm:n≤m):Sp4 rows m:=⟨h.1,Nat.le_trans h.2 hm⟩
theorem zyp (fs:List ByteArray) (j:Nat):(zar fs).set j (.d (.raw (.bool true)))=zar fs:=by simp [zar]
theorem zDu (n:Nat):Sp4 [] n:=⟨fun _ h=>(by cases h),by simp⟩
theorem zrr (s:ByteArray) (i k:Int) (rows:List (List D)):zlV true s i k rows=rows++[[.raw (.string s),.raw (.int .i64 k),.raw (.int .i64 i),.raw (.int .i64 0)]]:=rfl
theorem zns (s:ByteArray) (i k:Int) (rows:List (List D)):zlV false s i k rows=rows:=rfl
theorem zzp (s:ByteArray) (i:Int) (rows:List (List D)):zmc s i 0 rows=rows:=by simp [zmc]
theorem zcJ (r:Nat) (fs:List ByteArray):zcm r (zar fs)=false:=zH _ _
theorem zcQ (s:ByteArray) (k i j:Int):zD 4 [[D.raw (Value.string s),D.raw (Value.int IntKind.i64 k),D.raw (Value.int IntKind.i64 i),D.raw (Value.int IntKind.i64 j)]]:=by
 intro r hr
 simp at hr
 subst hr
 exact⟨rfl,fun x hx=>by simp at hx;rcases hx with rfl | rfl | rfl | rfl <;> rfl⟩
theorem Sp4.pre {rows:List (List D)} {n:Nat} (h:Sp4 rows n) (b:Bool) (s:ByteArray) (i k:Int):Sp4 (zlV b s i k rows) (n+1):=by
 cases b
 ·exact⟨h.1,Nat.le_succ_of_le h.2⟩
 ·refine⟨fun r hr=>?_,by have:=h.2;simp [zlV];omega⟩
  rcases List.mem_append.1 (show r ∈ rows++[_] from hr) with h1 | h1
  ·exact h.1 r h1
  ·simp at h1;subst h1;rfl
theorem zqc (s:ByteArray) (i:Int) (n:Nat) (rows:List (List D)):zmc s i (n+1) rows=zmc s i n rows++[spR s 2 i n]:=by simp [zmc,List.range_succ]
theorem Sp4.mid {rows:List (List D)} {n:Nat} (h:Sp4 rows n) (s:ByteArray) (i:Int):∀ m,Sp4 (zmc s i m rows) (n+m)
 | 0=>by simpa [zmc] using h
 | m+1=>by
  have ih:=Sp4.mid h s i m
  rw [zqc]
  refine⟨fun r hr=>?_,by have:=ih.2;simp;omega⟩
  rcases List.mem_append.1 hr with h1 | h1
  ·exact ih.1 r h1
  ·simp at h1;subst h1;rfl
theorem ztJ (x:Mo) (hl:x.decls.length≤1048576) (hb:∀ d ∈ x.decls,nodesE d.body≤524288):Con Tryz.prog 100 [avM x] (.d (.sl (zfc x x.decls.length).1)):=by
 refine zh Tryz.func100 rfl (by decide +kernel) rfl rfl (by simp [Tryz.ntmps100]) fun A hA=>?_
 rw [Tryz.ntmps100] at hA
 refine goC 20 ?_
 simp only [go_sem,hA,avM]
 refine zjk 99 3 4 60 (by simp only [go_sem]) rfl ?_
 refine goC 400 ?_
 simp only [go_sem,hA,zf]
 refine zd [1,3,4,10,11,12] [0,2000] [99] (fun y σ=>∃ (q:Nat) (rows:List (List D)) (fs:List ByteArray),q≤x.decls.length∧y=x.decls.length - q∧zfc x q=(rows,fs)∧Sp4 rows (q * 524292)∧σ=zxH x rows fs q) x.decls.length ⟨0,[],[],by omega,by omega,rfl,zDu _,by simp only [go_sem,zxH];rfl⟩ ?_
 rintro y σ ⟨q,rows,fs,hq,rfl,hf,hs,rfl⟩
 by_cases hlt:q<x.decls.length
 ·have k1:decide ((q:Int)<(x.decls.length:Int))=true:=decide_eq_true (by omega)
  have hd:=hb _ (List.getElem_mem hlt)
  refine goC 400 ?_
  simp only [go_sem,hA,zxH,k1,zf,Int.toNat_natCast,zS x.decls q hlt,zcW,zH,za]
  refine⟨⟨by omega,by omega⟩,?_⟩
  have hn:=zjR x.decls[q].body
  have hs3:=hs.pre (decide (x.decls[q].names.length=3)) x.label x.decls[q].id 1
  have kn:decide (x.decls[q].names.length=3)=decide (((x.decls[q].names.length:Nat):Int)=3):=decide_eq_decide.2 (by omega)
  have hcf:=zio x.decls[q].body (by omega)
  rw [kn] at hs3
  cases k3:decide (((x.decls[q].names.length:Nat):Int)=3)
  all_goals
   rw [k3] at kn hs3
   simp only [go_sem,hA,zcJ]
  rotate_left
  refine⟨⟨zcQ _ _ _ _,hs.1,by have:=hs.2;omega⟩,?_⟩
  all_goals
   refine zb 400 hcf rfl (by simp only [go_sem,zl]) (by simp only [go_sem,hA]) ?_
   simp only [go_sem,hA]
   refine zd [1,3,4,6,10,11,12,30,31] [0,2000,5002] [99] (fun y σ=>∃ j:Nat,j≤confE x.decls[q].body∧y=confE x.decls[q].body - j∧σ=zxG x x.decls[q] (zmc x.label x.decls[q].id j (zlV (decide (((x.decls[q].names.length:Nat):Int)=3)) x.label x.decls[q].id 1 rows)) fs q j) (confE x.decls[q].body) ⟨0,by omega,by omega,by(simp only [go_sem,zxG,zzp,k3,zrr,zns,List.length_append,List.length_cons,List.length_nil]) <;> rfl⟩ ?_
   rintro y σ ⟨j,hj,rfl,rfl⟩
   rw [k3]
   generalize hr3:zlV _ x.label x.decls[q].id 1 rows=r3 at hs3 ⊢
   have hsm:=hs3.mid x.label x.decls[q].id j
   refine goC 400 ?_
   by_cases hj1:j<confE x.decls[q].body
   ·have k4:decide ((j:Int)<(confE x.decls[q].body:Int))=true:=decide_eq_true (by omega)
    simp only [go_sem,hA,zxG,k4,zcJ]
    exact⟨⟨zcQ _ _ _ _,hsm.1,by have:=hsm.2;omega⟩,by unfold zc;omega,confE x.decls[q].body - (j+1),by omega,j+1,by omega,rfl,by rw [zqc];simp only [List.length_append,List.length_cons,List.length_nil];rfl⟩
   ·have k4:decide ((j:Int)<(confE x.decls[q].body:Int))=false:=decide_eq_false (by omega)
    obtain rfl:j=confE x.decls[q].body:=by omega
    have hsp:zfc x (q+1)=zmN x.label (rows,fs) x.decls[q]:=by unfold zfc at hf ⊢;rw [List.take_succ_eq_append_getElem hlt,List.foldl_append,hf];rfl
    unfold zmN at hsp
    simp only at hsp
    rw [kn,hr3] at hsp
    generalize zmc x.label x.decls[q].id (confE x.decls[q].body) r3=r4 at hsm hsp ⊢
    have hs5:=hsm.pre x.decls[q].doubt x.label x.decls[q].id 3
    simp only [go_sem,hA,zxG,k4,zcJ]
    cases k5:x.decls[q].doubt
    all_goals
     rw [k5] at hs5 hsp
     simp only [go_sem,hA,za,zcJ]
    rotate_left
    refine⟨⟨zcQ _ _ _ _,hsm.1,by have:=hsm.2;omega⟩,?_⟩
    all_goals
     cases k6:decide (((x.decls[q].names.length:Nat):Int)=1)
     ·have k6':¬ x.decls[q].names.length=1:=by have:=of_decide_eq_false k6;omega
      rw [if_neg k6',decide_eq_false k6',Bool.false_and,zns] at hsp
      simp only [go_sem,hA]
      exact⟨by unfold zc;omega,x.decls.length - (q+1),by omega,q+1,_,_,by omega,rfl,hsp,hs5.le (by omega),by(simp only [zrr,zns,List.length_append,List.length_cons,List.length_nil]) <;> rfl⟩
     ·have k6':x.decls[q].names.length=1:=by have:=of_decide_eq_true k6;omega
      rw [if_pos k6',decide_eq_true k6',Bool.true_and] at hsp
      have h0:0<x.decls[q].names.length:=by omega
      have h1:ziM x.decls[q]=x.decls[q].names[0]:=by simp [ziM,List.getD_eq_getElem?_getD,h0]
      rw [h1] at hsp
      have hs6:=hs5.pre (zbT fs x.decls[q].names[0]) x.label x.decls[q].id 4
      cases k7:zbT fs x.decls[q].names[0] with
      | true=>
       obtain⟨j',hj1',hj2'⟩:=zkI k7
       rw [k7] at hsp hs6
       have ha:zeN fs x.decls[q].names[0]=fs:=by simp [zeN,k7]
       rw [ha] at hsp
       simp only [go_sem,hA,za,zF _ 0 h0,hj1',hj2',zbY,zcJ,zyp]
       refine⟨by omega,?_,by omega,by unfold zc;omega,x.decls.length - (q+1),by omega,q+1,_,_,by omega,rfl,hsp,hs6.le (by omega),by(simp only [zrr,zns,List.length_append,List.length_cons,List.length_nil]) <;> rfl⟩
       have hl5:=hs5.2
       first | exact⟨zcQ _ _ _ _,hs5.1,by have:r4.length=(zlV false x.label x.decls[q].id 3 r4).length:=rfl;omega⟩ | exact⟨by simp,zcQ _ _ _ _,hs5.1,Nat.le_trans hl5 (by omega)⟩
      | false=>
       have hj':=zkJ k7
       rw [k7] at hsp hs6
       have ha:zeN fs x.decls[q].names[0]=fs++[x.decls[q].names[0]]:=by simp [zeN,k7]
       rw [ha] at hsp
       simp only [go_sem,hA,za,zF _ 0 h0,hj',zbY,zcJ,← zqg]
       refine⟨by omega,by omega,by unfold zc;omega,x.decls.length - (q+1),by omega,q+1,_,_,by omega,rfl,hsp,hs6.le (by omega),by(simp only [zrr,zns,zmz,List.length_append,List.length_cons,List.length_nil]) <;> rfl⟩
 ·have k1:decide ((q:Int)<(x.decls.length:Int))=false:=decide_eq_false (by omega)
  obtain rfl:q=x.decls.length:=by omega
  rw [hf]
  refine goC 400 ?_
  simp only [go_sem,hA,zxH,k1,Tryz.results100]
end
section
open Go Go.RowKit
def zeK (x:Mo):List (List D):=if zN x=0 then (zfc x x.decls.length).1 else []
theorem zBu (x:Mo) (hl:x.decls.length≤1048576) (hb:∀ d ∈ x.decls,nodesE d.body≤524288):Con Tryz.prog 91 [avM x] (.d (.sl (zeK x))):=by
 refine zh Tryz.func91 rfl (by decide +kernel) rfl rfl (by simp [Tryz.ntmps91]) fun A hA=>?_
 rw [Tryz.ntmps91] at hA
 refine goC 400 ?_
 simp only [go_sem,hA,avM]
 refine zb 400 (zwP x hb) rfl (by simp only [go_sem,avM]) (by simp only [go_sem,hA]) ?_
 by_cases hx:zN x=0
 ·have g:(decide ¬ zN x=0)=false:=by simp [hx]
  have hr:zeK x=(zfc x x.decls.length).1:=if_pos hx
  simp only [go_sem,hA,g,hr]
  refine zb 400 (ztJ x hl hb) rfl (by simp only [go_sem,avM]) (by simp only [go_sem,hA]) ?_
  simp only [go_sem,hA,Tryz.results91]
 ·have g:(decide ¬ zN x=0)=true:=by simp [hx]
  have hr:zeK x=[]:=if_neg hx
  simp only [go_sem,hA,g,hr,Tryz.results91]
end
section
open Go Go.RowKit
def zeC (m:Mg) (q:Nat):List (List D):=(m.ms.take q).flatMap zeK
def zcO (m:Mg) (q:Nat):List (List D):=zeC m m.ms.length++(m.ts.take q).map fun x=>spR x.path 5 0 0
def znZ (m:Mg):List (List D):=zcO m m.ts.length
abbrev zxL (m:Mg) (q:Nat):St:=⟨[(1,.box 0 0),(3,.grow 99 (zeC m q)),(9,.d (.sl (zab m.ms))),(10,.d (.raw (.int .i64 m.ms.length))),(11,.d (.raw (.int .i64 q)))],[(0,some (.cell 26 [.d (.sl (zab m.ms)),.d (.sl (zy m.fs)),.d (.sl (zac m.ts))]))],[(99,some ⟨4,60,(zeC m q).length,none⟩)]⟩
abbrev zxK (m:Mg) (q:Nat):St:=⟨[(1,.box 0 0),(3,.grow 99 (zcO m q)),(21,.d (.sl (zac m.ts))),(22,.d (.raw (.int .i64 m.ts.length))),(23,.d (.raw (.int .i64 q)))],[(0,some (.cell 26 [.d (.sl (zab m.ms)),.d (.sl (zy m.fs)),.d (.sl (zac m.ts))]))],[(99,some ⟨4,60,(zcO m q).length,none⟩)]⟩
theorem zkz {m:Mg} (h:∀ x ∈ m.ms,zD 4 (zeK x)) (q:Nat):∀ r ∈ zeC m q,r.length=4:=fun r hr=>by
 obtain⟨x,hx,hr⟩:=List.mem_flatMap.1 hr
 exact(h x (List.mem_of_mem_take hx) r hr).1
theorem zmD {m:Mg} (h:∀ x ∈ m.ms,zD 4 (zeK x)) (q:Nat):∀ r ∈ zcO m q,r.length=4:=fun r hr=>by
 rcases List.mem_append.1 hr with h1 | h1
 ·exact zkz h _ r h1
 ·obtain⟨x,_,rfl⟩:=List.mem_map.1 h1;rfl
theorem zgm (m:Mg) (q:Nat) (h:q<m.ms.length):zeC m (q+1)=zeC m q++zeK m.ms[q]:=by unfold zeC;rw [List.take_succ_eq_append_getElem h,List.flatMap_append];simp only [List.flatMap_cons,List.flatMap_nil,List.append_nil]
theorem zlb (m:Mg) (q:Nat) (h:q<m.ts.length):zcO m (q+1)=zcO m q++[spR m.ts[q].path 5 0 0]:=by unfold zcO;rw [List.take_succ_eq_append_getElem h,List.map_append,List.map_cons,List.map_nil,List.append_assoc]
theorem zla (m:Mg):zcO m 0=zeC m m.ms.length:=by simp [zcO]
theorem zif (m:Mg) (q:Nat):(zcO m q).length≤(zeC m m.ms.length).length+m.ts.length:=by simp [zcO];omega
theorem zDw (m:Mg) (hl:m.ms.length≤1048576) (ht:m.ts.length≤1048576) (hd:∀ x ∈ m.ms,x.decls.length≤1048576∧∀ d ∈ x.decls,nodesE d.body≤524288) (hr4:∀ x ∈ m.ms,zD 4 (zeK x)) (hT:∀ q,(zeC m q).length≤1099500000000) :
  Con Tryz.prog 38 [avG m] (.d (.sl (znZ m))):=by
 refine zh Tryz.func38 rfl (by decide +kernel) rfl rfl (by simp [Tryz.ntmps38]) fun A hA=>?_
 rw [Tryz.ntmps38] at hA
 refine goC 20 ?_
 simp only [go_sem,hA,avG]
 refine zjk 99 3 4 60 (by simp only [go_sem]) rfl ?_
 refine goC 400 ?_
 simp only [go_sem,hA,zm]
 refine zd [1,3,9,10,11] [0] [99] (fun y σ=>∃ q:Nat,q≤m.ms.length∧y=m.ms.length - q∧σ=zxL m q) m.ms.length ⟨0,by omega,by omega,by(simp only [go_sem,zxL]) <;> rfl⟩ ?_
 rintro y σ ⟨q,hq,rfl,rfl⟩
 refine goC 400 ?_
 have hT0:=hT q
 by_cases hlt:q<m.ms.length
 ·have k1:decide ((q:Int)<(m.ms.length:Int))=true:=decide_eq_true (by omega)
  have hdx:=hd _ (List.getElem_mem hlt)
  simp only [go_sem,hA,zxL,k1,zm,Int.toNat_natCast,zaN m.ms q hlt,zeJ]
  refine⟨⟨by omega,by omega⟩,?_⟩
  refine zb 400 (zBu m.ms[q] hdx.1 hdx.2) rfl (by simp only [go_sem,avM]) (by simp only [go_sem,hA]) ?_
  simp only [go_sem,hA]
  have hT1:=hT (q+1)
  rw [zgm m q hlt,List.length_append] at hT1
  exact⟨⟨hr4 _ (List.getElem_mem hlt),zkz hr4 q,by omega⟩,by unfold zc;omega,m.ms.length - (q+1),by omega,q+1,by omega,rfl,by rw [zgm m q hlt,List.length_append];rfl⟩
 have k1:decide ((q:Int)<(m.ms.length:Int))=false:=decide_eq_false (by omega)
 obtain rfl:q=m.ms.length:=by omega
 simp only [go_sem,hA,zxL,k1,zn]
 refine zd [1,3,21,22,23] [0] [99] (fun y σ=>∃ q:Nat,q≤m.ts.length∧y=m.ts.length - q∧σ=zxK m q) m.ts.length ⟨0,by omega,by omega,by(simp only [go_sem,zxK,zla]) <;> rfl⟩ ?_
 clear hlt k1 hq
 rintro y σ ⟨q,hq,rfl,rfl⟩
 refine goC 400 ?_
 by_cases hlt:q<m.ts.length
 ·have k1:decide ((q:Int)<(m.ts.length:Int))=true:=decide_eq_true (by omega)
  have hTl:=zif m q
  simp only [go_sem,hA,zxK,k1,zn,Int.toNat_natCast,zaO m.ts q hlt,zfj]
  exact⟨⟨by omega,by omega⟩,⟨zcQ _ _ _ _,zmD hr4 q,by omega⟩,by unfold zc;omega,m.ts.length - (q+1),by omega,q+1,by omega,rfl,by rw [zlb m q hlt,List.length_append];rfl⟩
 have k1:decide ((q:Int)<(m.ts.length:Int))=false:=decide_eq_false (by omega)
 obtain rfl:q=m.ts.length:=by omega
 simp only [go_sem,hA,zxK,k1,znZ,Tryz.results38]
end
section
open Go Go.RowKit
def ztL (m:Mg):List (List D):=if zw m=0 then znZ m else []
end
section
open Go Go.RowKit
end
section
open Go Go.RowKit
structure Sq where
 label:ByteArray
 kind:Int
 id:Int
 pos:Int
def zic (x:Sq):List D:=spR x.label x.kind x.id x.pos
def zaI (l:List Sq):List (List D):=l.map zic
def avQ (x:Sq):AV:=.agg [.d (.raw (.string x.label)),.d (.raw (.int .i64 x.kind)),.d (.raw (.int .i64 x.id)),.d (.raw (.int .i64 x.pos))]
def eqQ (x y:Sq):Bool:=decide (x.label=y.label) && (decide (x.kind=y.kind) && (decide (x.id=y.id) && decide (x.pos=y.pos)))
theorem zr (l:List Sq):(zaI l).length=l.length:=by simp [zaI]
theorem zhs (l:List Sq) (i:Nat) (h:i<l.length):(zaI l).getD i []=zic l[i]:=by simp [zaI,List.getD_eq_getElem?_getD,h]
abbrev zBB (l:List Sq) (x:Sq) (q:Nat):St:=⟨[(0,.d (.sl (zaI l))),(3,.box 0 0),(7,.d (.raw (.int .i64 l.length))),(8,.d (.raw (.int .i64 q)))],[(0,some (.cell 60 [.d (.raw (.string x.label)),.d (.raw (.int .i64 x.kind)),.d (.raw (.int .i64 x.id)),.d (.raw (.int .i64 x.pos))]))],[]⟩
theorem zGh (l:List Sq) (x:Sq) (hl:l.length≤1048576):Con Tryz.prog 160 [.d (.sl (zaI l)),avQ x] (.d (.raw (.int .i64 (ixF (eqQ x) l)))):=by
 refine zh Tryz.func160 rfl (by decide +kernel) rfl rfl (by simp [Tryz.ntmps160]) fun A hA=>?_
 rw [Tryz.ntmps160] at hA
 refine goC 400 ?_
 simp only [go_sem,hA,avQ,zr]
 refine zd [0,3,7,8] [0] [] (fun y σ=>∃ q:Nat,q≤l.length∧y=l.length - q∧((l.take q).any (eqQ x))=false∧σ=zBB l x q) l.length ⟨0,by omega,by omega,rfl,by simp only [go_sem,zBB]⟩ ?_
 rintro y σ ⟨q,hq,rfl,hf,rfl⟩
 refine goC 400 ?_
 by_cases hlt:q<l.length
 ·have k1:decide ((q:Int)<(l.length:Int))=true:=decide_eq_true (by omega)
  have he:((decide (x.label=l[q].label)) && ((decide (x.kind=l[q].kind)) && ((decide (x.id=l[q].id)) && (decide (x.pos=l[q].pos)))))=eqQ x l[q]:=rfl
  cases hx:eqQ x l[q] with
  | true=>
   rw [hx] at he
   simp only [go_sem,hA,zBB,zr,k1,Int.toNat_natCast,zhs l q hlt,zic,spR,String.reduceEq,he,zms hlt hf hx,Tryz.results160]
   exact⟨⟨by omega,by omega⟩,⟨by kernel_rfl,by kernel_rfl⟩,by show chk _ _ _=true;kernel_rfl⟩
  | false=>
   rw [hx] at he
   simp only [go_sem,hA,zBB,zr,k1,Int.toNat_natCast,zhs l q hlt,zic,spR,String.reduceEq,he]
   exact⟨⟨by omega,by omega⟩,⟨by kernel_rfl,by kernel_rfl⟩,by show chk _ _ _=true;kernel_rfl,by unfold zc;omega,l.length - (q+1),by omega,q+1,by omega,rfl,zbr hlt hf hx,rfl⟩
 ·have k1:decide ((q:Int)<(l.length:Int))=false:=decide_eq_false (by omega)
  obtain rfl:q=l.length:=by omega
  rw [List.take_length] at hf
  have hr:ixF (eqQ x) l = -1:=by unfold ixF;rw [hf];rfl
  simp only [go_sem,hA,zBB,k1,hr,Tryz.results160]
theorem zFw (l:List Sq) (x:Sq) (hl:l.length≤1048576):Con Tryz.prog 99 [.d (.sl (zaI l)),avQ x] (.d (.raw (.bool (l.any (eqQ x))))):=by
 refine zh Tryz.func99 rfl (by decide +kernel) rfl rfl (by simp [Tryz.ntmps99]) fun A hA=>?_
 rw [Tryz.ntmps99] at hA
 refine goC 400 ?_
 simp only [go_sem,hA,avQ]
 refine zb 400 (zGh l x hl) rfl (by simp only [go_sem,avQ]) (by simp only [go_sem,hA]) ?_
 simp only [go_sem,hA,zof,Tryz.results99]
end
section
open Go Go.RowKit
theorem zxI (s:ByteArray):Con Tryz.prog 164 [.d (.raw (.string s))] (.d (.raw (.bool (zI s)))):=by
 refine zh Tryz.func164 rfl (by decide +kernel) rfl rfl (by simp [Tryz.ntmps164]) fun A hA=>?_
 rw [Tryz.ntmps164] at hA
 have hx:decide (zB (.mk 3 s ⟨#[]⟩ 0 0 [])=0)=zI s:=by
  cases h:zI s with
  | true=>exact decide_eq_true ((zgl s).2 h)
  | false=>exact decide_eq_false fun h'=>by rw [(zgl s).1 h'] at h;cases h
 refine goC 400 ?_
 simp only [go_sem,hA]
 refine zb 400 (zcr (.mk 3 s ⟨#[]⟩ 0 0 []) (by simp [nodesE,nodesL])) rfl (by simp only [go_sem,zl,Ex.kind,Ex.name,Ex.more,Ex.int,Ex.den,Ex.sub,zaz]) (by simp only [go_sem,hA]) ?_
 simp only [go_sem,hA,hx,Tryz.results164]
def zmw:Dc:=⟨0,0,false,[],false,zfb⟩
def nmX (d:Dc) (nm:ByteArray):Dc × Bool × Int:=if zI nm=true then ({ d with names:=[nm] },true,0) else (zmw,false,6)
def zde (d:Dc) (s:Sq) (k:Nat):Dc × Bool × Int:=
 if s.kind=1 then nmX d (d.names.getD k ⟨#[]⟩)
 else if s.kind=2 then (if (zbf d.body s.pos k).2=0 then ({ d with body:=(zbf d.body s.pos k).1 },true,0) else (zmw,false,(zbf d.body s.pos k).2))
 else if k=2 then (zmw,false,0)
 else if s.kind=3 then ({ d with doubt:=false },true,0)
 else nmX d (d.names.getD 0 ⟨#[]⟩++zbm d.id)
theorem zqU (d:Dc) (s:Sq) (k:Nat) (hk:k<3) (hb:nodesE d.body≤1048576) (hid:zc d.id) (h1:s.kind=1→k<d.names.length) (h4:0<d.names.length∨s.kind=2∨s.kind=3) (hns:∀ nm ∈ d.names,nm.size≤1099511627776) :
  Con Tryz.prog 101 [avD d,avQ s,.d (.raw (.int .i64 k))] (.tup [avD (zde d s k).1,.d (.raw (.bool (zde d s k).2.1)),.d (.raw (.int .i64 (zde d s k).2.2))]):=by
 refine zh Tryz.func101 rfl (by decide +kernel) rfl rfl (by simp [Tryz.ntmps101]) fun A hA=>?_
 rw [Tryz.ntmps101] at hA
 have e21:decide ((2:Int)=1)=false:=by decide
 have e31:decide ((3:Int)=1)=false:=by decide
 have e32:decide ((3:Int)=2)=false:=by decide
 have hg0:∀ x:D,([[x]]:List (List D)).getD 0 []=[x]:=fun _=>rfl
 refine goC 400 ?_
 by_cases g1:s.kind=1
 ·have hr:zde d s k=nmX d (d.names.getD k ⟨#[]⟩):=if_pos g1
  have hk1:=h1 g1
  have hn:d.names.getD k ⟨#[]⟩=d.names[k]:=by simp [List.getD_eq_getElem?_getD,hk1]
  rw [hn] at hr
  simp only [go_sem,hA,avD,avQ,g1,za,Int.toNat_natCast,zF d.names k hk1,hg0]
  refine⟨⟨by omega,by omega⟩,?_⟩
  refine zb 400 (zxI d.names[k]) rfl (by simp only [go_sem]) (by simp only [go_sem,hA]) ?_
  cases hb2:zI d.names[k] with
  | true=>
   rw [nmX,if_pos hb2] at hr
   simp only [go_sem,hA,hr,Tryz.results101]
   rfl
  | false=>
   rw [nmX,if_neg (by simp [hb2])] at hr
   simp only [go_sem,hA,hr,Tryz.results101]
   rfl
 by_cases g2:s.kind=2
 ·have hr:zde d s k=if (zbf d.body s.pos k).2=0 then ({ d with body:=(zbf d.body s.pos k).1 },true,0) else (zmw,false,(zbf d.body s.pos k).2):=by
   unfold zde;rw [if_neg g1,if_pos g2]
  have hc:=zzP d.body s.pos k hb
  simp only [go_sem,hA,avD,avQ,g2,e21]
  refine zb 400 hc rfl (by simp only [go_sem,zl]) (by simp only [go_sem,hA]) ?_
  generalize zbf d.body s.pos k=r at hr
  obtain⟨e,er⟩:=r
  simp only [go_sem,hA,zl]
  by_cases he:er=0
  ·subst he
   rw [if_pos rfl] at hr
   simp only [go_sem,hA,hr,Tryz.results101]
  ·rw [if_neg he] at hr
   simp only [go_sem,hA,he,hr,Tryz.results101]
   rfl
 by_cases gk:k=2
 ·have hr:zde d s k=(zmw,false,0):=by unfold zde;rw [if_neg g1,if_neg g2,if_pos gk]
  subst gk
  simp only [go_sem,hA,avD,avQ,g1,g2,hr,Tryz.results101]
  rfl
 have gk':decide ((k:Int)=2)=false:=decide_eq_false (by omega)
 by_cases g3:s.kind=3
 ·have hr:zde d s k=({ d with doubt:=false },true,0):=by unfold zde;rw [if_neg g1,if_neg g2,if_neg gk,if_pos g3]
  simp only [go_sem,hA,avD,avQ,g3,gk',e31,e32,hr,Tryz.results101]
 ·have hr:zde d s k=nmX d (d.names.getD 0 ⟨#[]⟩++zbm d.id):=by unfold zde;rw [if_neg g1,if_neg g2,if_neg gk,if_neg g3]
  have h0:0<d.names.length:=by
   rcases h4 with h | h | h
   ·exact h
   ·exact absurd h g2
   ·exact absurd h g3
  have hn:d.names.getD 0 ⟨#[]⟩=d.names[0]:=by simp [List.getD_eq_getElem?_getD,h0]
  have hne:(zv d.names).getD 0 []=[.raw (.string d.names[0])]:=zF d.names 0 h0
  rw [hn] at hr
  simp only [go_sem,hA,avD,avQ,g1,g2,g3,gk',za,hne,mixed]
  refine⟨by omega,?_⟩
  refine zbO 400 (zFu d.id hid) rfl (by simp only [go_sem]) (by simp only [go_sem,hA]) ?_
  simp only [go_sem,hA,hg0]
  have hsz:=hns _ (List.getElem_mem h0)
  have hil:(zbm d.id).size≤21:=by unfold zc at hid;exact Lib.itoa_length_le d.id (by omega) (by omega)
  refine⟨by omega,by show chk _ _ _=true;kernel_rfl,?_⟩
  refine zb 400 (zxI (d.names[0]++zbm d.id)) rfl (by simp only [go_sem]) (by simp only [go_sem,hA]) ?_
  cases hb2:zI (d.names[0]++zbm d.id) with
  | true=>
   rw [nmX,if_pos hb2] at hr
   simp only [go_sem,hA,hr,Tryz.results101]
   rfl
  | false=>
   rw [nmX,if_neg (by simp [hb2])] at hr
   simp only [go_sem,hA,hr,Tryz.results101]
   rfl
end
section
open Go Go.RowKit
theorem zgI {x:Mo} (h:zN x=0):zX x.label.data.toList=true∧x.decls.length≤100∧∀ i,i<x.decls.length→bdE x.label x.decls i=0:=by
 unfold zN at h
 split at h
 ·rename_i hl
  refine⟨hl,?_⟩
  split at h
  ·exact absurd h (by assumption)
  split at h
  ·exact absurd h (by assumption)
  split at h
  ·cases h
  ·exact⟨by omega,zbH h⟩
 ·cases h
theorem zFe {x:Mo} (h:zN x=0) (i:Nat) (hi:i<x.decls.length):zbj x.label x.decls[i]=0∧(0<i→∀ hj:i - 1<x.decls.length,x.decls[i - 1].id<x.decls[i].id):=by
 have h1:=(zgI h).2.2 i hi
 have e0:=zce x.decls i hi
 unfold bdE at h1
 split at h1
 ·exact absurd h1 (by assumption)
 ·rename_i h2
  have h3:zbj x.label x.decls[i]=0:=by rw [← e0];exact Classical.not_not.1 h2
  refine⟨h3,fun h0 hj=>?_⟩
  have e1:=zce x.decls (i - 1) hj
  split at h1
  ·cases h1
  ·rename_i h4
   rw [e0,e1] at h4
   have:¬ x.decls[i].id≤x.decls[i - 1].id:=fun hle=>h4 ⟨h0,hle⟩
   omega
theorem zBF {x:Mo} (h:zN x=0):∀ (j i:Nat) (hj:j<x.decls.length) (hi:i<j),x.decls[i].id<x.decls[j].id:=by
 intro j
 induction j with
 | zero=>intro i hj hi;omega
 | succ j ih=>
  intro i hj hi
  have h1:=(zFe h (j+1) hj).2 (by omega) (by omega)
  have e:j+1 - 1=j:=by omega
  simp only [e] at h1
  by_cases hij:i=j
  ·subst hij;exact h1
  ·have:=ih i (by omega) (by omega);omega
theorem zrQ {x:Mo} (h:zN x=0) {d e:Dc} (hd:d ∈ x.decls) (he:e ∈ x.decls) (hi:d.id=e.id):d=e:=by
 obtain⟨i,hi1,rfl⟩:=List.mem_iff_getElem.1 hd
 obtain⟨j,hj1,rfl⟩:=List.mem_iff_getElem.1 he
 rcases Nat.lt_trichotomy i j with h1 | h1 | h1
 ·have:=zBF h j i hj1 h1;omega
 ·subst h1;rfl
 ·have:=zBF h i j hi1 h1;omega
theorem zkS {x:Mo} (h:zN x=0) {d:Dc} (hd:d ∈ x.decls):zbj x.label d=0:=by
 obtain⟨i,hi,rfl⟩:=List.mem_iff_getElem.1 hd
 exact(zFe h i hi).1
theorem zfS {l:ByteArray} {d:Dc} (h:zbj l d=0):1≤d.id∧d.id≤999999∧(d.kind=1∨d.kind=2∨d.kind=3)∧zaf d.names=0∧zB d.body=0∧zcZ (fun x=>decide (x.kind=4)) d.body=false∧(zet d.body).length=0∧zcZ (zck l) d.body=false:=by
 unfold zbj at h
 split at h
 ·cases h
 split at h
 ·cases h
 split at h
 ·exact absurd h (by assumption)
 split at h
 ·exact absurd h (by assumption)
 split at h
 ·cases h
 split at h
 ·cases h
 split at h
 ·cases h
 rename_i h1 h2 h3 h4 h5 h6 h7
 refine⟨by omega,by omega,?_,Classical.not_not.1 h3,Classical.not_not.1 h4,by simpa using h5,by omega,by simpa using h7⟩
 by_cases k1:d.kind=1
 ·exact .inl k1
 ·by_cases k2:d.kind=2
  ·exact .inr (.inl k2)
  ·by_cases k3:d.kind=3
   ·exact .inr (.inr k3)
   ·exact absurd ⟨k1,k2,k3⟩ h2
end
section
open Go Go.RowKit
def zcj (b:Bool) (q:Sq) (l:List Sq):List Sq:=if b then l++[q] else l
def zeb (s:ByteArray) (i:Int) (n:Nat) (l:List Sq):List Sq:=l++(List.range n).map fun(j:Nat)=>⟨s,2,i,(j:Int)⟩
def zbL (s:ByteArray) (a:List Sq × List ByteArray) (d:Dc):List Sq × List ByteArray:=
 (zcj (decide (d.names.length=1) && zbT a.2 (ziM d)) ⟨s,4,d.id,0⟩ (zcj d.doubt ⟨s,3,d.id,0⟩ (zeb s d.id (confE d.body) (zcj (decide (d.names.length=3)) ⟨s,1,d.id,0⟩ a.1))),
  if d.names.length=1 then zeN a.2 (ziM d) else a.2)
def zE (x:Mo) (n:Nat):List Sq × List ByteArray:=(x.decls.take n).foldl (zbL x.label) ([],[])
def zaB (x:Mo):List Sq:=(zE x x.decls.length).1
theorem zBd (b:Bool) (s:ByteArray) (k i:Int) (l:List Sq):zlV b s i k (zaI l)=zaI (zcj b ⟨s,k,i,0⟩ l):=by cases b <;> simp [zlV,zcj,zaI,zic]
theorem zBs (s:ByteArray) (i:Int) (n:Nat) (l:List Sq):zmc s i n (zaI l)=zaI (zeb s i n l):=by simp [zmc,zeb,zaI,zic,Function.comp_def]
theorem zsH (s:ByteArray) (l:List Sq) (fs:List ByteArray) (d:Dc):zmN s (zaI l,fs) d=(zaI (zbL s (l,fs) d).1,(zbL s (l,fs) d).2):=by
 unfold zmN zbL
 simp only [zBd,zBs]
theorem ziA (x:Mo):∀ n,zfc x n=(zaI (zE x n).1,(zE x n).2)
 | 0=>rfl
 | n+1=>by
  by_cases h:n<x.decls.length
  ·have ih:=ziA x n
   unfold zfc zE at ih ⊢
   rw [List.take_succ_eq_append_getElem h,List.foldl_append,List.foldl_append,ih]
   exact zsH _ _ _ _
  ·have e:∀ m,x.decls.length≤m→x.decls.take m=x.decls:=fun m hm=>List.take_of_length_le hm
   have ih:=ziA x n
   unfold zfc zE at ih ⊢
   rw [e _ (by omega)] at ih ⊢
   exact ih
theorem zut (x:Mo):(zfc x x.decls.length).1=zaI (zaB x):=by rw [ziA];rfl
def Spot.At (x:Mo) (d:Dc) (q:Sq):Prop:=q.label=x.label∧q.id=d.id∧((q.kind=1∧d.names.length=3)∨(q.kind=2∧0≤q.pos∧q.pos<confE d.body)∨(q.kind=3∧d.doubt=true)∨(q.kind=4∧d.names.length=1))
theorem znU {b:Bool} {q r:Sq} {l:List Sq} (h:r ∈ zcj b q l):r ∈ l∨(b=true∧r=q):=by
 cases b
 ·exact .inl h
 ·rcases List.mem_append.1 (show r ∈ l++[q] from h) with h1 | h1
  ·exact .inl h1
  ·exact .inr ⟨rfl,by simpa using h1⟩
theorem zsG {x:Mo} {a:List Sq × List ByteArray} {d:Dc} {q:Sq} (h:q ∈ (zbL x.label a d).1):q ∈ a.1∨Spot.At x d q:=by
 unfold zbL at h
 rcases znU h with h | ⟨hb,rfl⟩
 ·rcases znU h with h | ⟨hb,rfl⟩
  ·unfold zeb at h
   rcases List.mem_append.1 h with h | h
   ·rcases znU h with h | ⟨hb,rfl⟩
    ·exact .inl h
    ·exact .inr ⟨rfl,rfl,.inl ⟨rfl,by simpa using hb⟩⟩
   ·obtain⟨j,hj,rfl⟩:=List.mem_map.1 h
    have:=List.mem_range.1 hj
    exact .inr ⟨rfl,rfl,.inr (.inl ⟨rfl,by simp,by simpa using this⟩)⟩
  ·exact .inr ⟨rfl,rfl,.inr (.inr (.inl ⟨rfl,hb⟩))⟩
 ·simp only [Bool.and_eq_true,decide_eq_true_eq] at hb
  exact .inr ⟨rfl,rfl,.inr (.inr (.inr ⟨rfl,hb.1⟩))⟩
theorem ziz {x:Mo} {q:Sq}:∀ n,q ∈ (zE x n).1→∃ d ∈ x.decls,Spot.At x d q
 | 0,h=>by cases h
 | n+1,h=>by
  by_cases hn:n<x.decls.length
  ·have e:zE x (n+1)=zbL x.label (zE x n) x.decls[n]:=by
    unfold zE
    rw [List.take_succ_eq_append_getElem hn,List.foldl_append];rfl
   rw [e] at h
   rcases zsG h with h | h
   ·exact ziz n h
   ·exact⟨_,List.getElem_mem hn,h⟩
  ·have e:zE x (n+1)=zE x n:=by
    unfold zE
    rw [List.take_of_length_le (by omega),List.take_of_length_le (by omega)]
   rw [e] at h
   exact ziz n h
theorem zfP {x:Mo} {q:Sq} (h:q ∈ zaB x):∃ d ∈ x.decls,Spot.At x d q:=ziz _ h
theorem zqs (l:List Sq):zD 4 (zaI l):=by
 intro r hr
 obtain⟨x,_,rfl⟩:=List.mem_map.1 hr
 exact⟨rfl,fun x hx=>by simp [zic,spR] at hx;rcases hx with rfl | rfl | rfl | rfl <;> rfl⟩
theorem zmM (x:Mo) (hb:∀ d ∈ x.decls,nodesE d.body≤524288):∀ n,(zE x n).1.length≤n * 524292
 | 0=>by simp [zE]
 | n+1=>by
  have ih:=zmM x hb n
  by_cases hn:n<x.decls.length
  ·have e:zE x (n+1)=zbL x.label (zE x n) x.decls[n]:=by
    unfold zE
    rw [List.take_succ_eq_append_getElem hn,List.foldl_append];rfl
   have h1:=hb _ (List.getElem_mem hn)
   have h2:=zbI x.decls[n].body
   have hp:∀ (b:Bool) (q:Sq) (l:List Sq),(zcj b q l).length≤l.length+1:=fun b q l=>by cases b <;> simp [zcj]
   have h3:=hp (decide (x.decls[n].names.length=1) && zbT (zE x n).2 (ziM x.decls[n])) ⟨x.label,4,x.decls[n].id,0⟩ (zcj x.decls[n].doubt ⟨x.label,3,x.decls[n].id,0⟩ (zeb x.label x.decls[n].id (confE x.decls[n].body) (zcj (decide (x.decls[n].names.length=3)) ⟨x.label,1,x.decls[n].id,0⟩ (zE x n).1)))
   have h4:=hp x.decls[n].doubt ⟨x.label,3,x.decls[n].id,0⟩ (zeb x.label x.decls[n].id (confE x.decls[n].body) (zcj (decide (x.decls[n].names.length=3)) ⟨x.label,1,x.decls[n].id,0⟩ (zE x n).1))
   have h5:=hp (decide (x.decls[n].names.length=3)) ⟨x.label,1,x.decls[n].id,0⟩ (zE x n).1
   have h6:(zeb x.label x.decls[n].id (confE x.decls[n].body) (zcj (decide (x.decls[n].names.length=3)) ⟨x.label,1,x.decls[n].id,0⟩ (zE x n).1)).length=(zcj (decide (x.decls[n].names.length=3)) ⟨x.label,1,x.decls[n].id,0⟩ (zE x n).1).length+confE x.decls[n].body:=by simp [zeb]
   rw [e]
   unfold zbL
   simp only
   generalize zcj (decide (x.decls[n].names.length=3)) _ _=l1 at h3 h4 h5 h6 ⊢
   generalize zeb _ _ _ l1=l2 at h3 h4 h6 ⊢
   generalize zcj x.decls[n].doubt _ l2=l3 at h3 h4 ⊢
   generalize zcj _ _ l3=l4 at h3 ⊢
   generalize confE x.decls[n].body=c at h2 h6
   generalize nodesE x.decls[n].body=c2 at h1 h2
   rw [Nat.succ_mul]
   generalize n * 524292=m at ih ⊢
   generalize (zE x n).1.length=k0 at ih h5
   clear hp e hb hn
   omega
  ·have e:zE x (n+1)=zE x n:=by
    unfold zE
    rw [List.take_of_length_le (by omega),List.take_of_length_le (by omega)]
   rw [e];exact Nat.le_trans ih (Nat.mul_le_mul_right _ (Nat.le_succ n))
end
section
open Go Go.RowKit
def zki (x y:Dc):Bool:=decide (x.id=y.id) && (decide (x.kind=y.kind) && ((x.pub == y.pub) && ((x.doubt == y.doubt) && (zcR x.names y.names && zeS x.body y.body))))
theorem ziC (x y:Dc):zki x y=true ↔ x=y:=by
 obtain⟨a1,a2,a3,a4,a5,a6⟩:=x
 obtain⟨b1,b2,b3,b4,b5,b6⟩:=y
 simp only [zki,Bool.and_eq_true,decide_eq_true_eq,beq_iff_eq,zel,zkh,Dc.mk.injEq]
 exact⟨fun⟨h1,h2,h3,h4,h5,h6⟩=>⟨h1,h2,h3,h5,h4,h6⟩,fun⟨h1,h2,h3,h5,h4,h6⟩=>⟨h1,h2,h3,h4,h5,h6⟩⟩
def zcS:List Dc→List Dc→Bool
 | [],[]=>true
 | x :: xs,y :: ys=>zki x y && zcS xs ys
 | _,_=>false
theorem zga:∀ a b:List Dc,zcS a b=true ↔ a=b
 | [],[]=>by simp [zcS]
 | x :: xs,y :: ys=>by simp only [zcS,Bool.and_eq_true,ziC,zga xs ys,List.cons.injEq]
 | [],y :: ys=>by simp [zcS]
 | x :: xs,[]=>by simp [zcS]
theorem zjm {a b:List Dc} (h:a≠b):zcS a b=false:=by
 cases hc:zcS a b
 ·rfl
 ·exact absurd ((zga a b).1 hc) h
theorem ztb (x y:Dc) (hb:nodesE x.body≤1048576) (hn:x.names.length≤1048576):Con Tryz.prog 237 [avD x,avD y] (.d (.raw (.bool (zki x y)))):=by
 have cs:=zez x.names y.names hn
 have ce:=zDO x.body y.body (by omega)
 refine zh Tryz.func237 rfl (by decide +kernel) rfl rfl (by simp [Tryz.ntmps237]) fun A hA=>?_
 rw [Tryz.ntmps237] at hA
 refine goC 400 ?_
 have he:zki x y=(decide (x.id=y.id) && (decide (x.kind=y.kind) && ((x.pub == y.pub) && ((x.doubt == y.doubt) && (zcR x.names y.names && zeS x.body y.body))))):=rfl
 cases g1:decide (x.id=y.id) with
 | false=>
  rw [g1] at he
  simp only [Bool.false_and] at he
  simp only [go_sem,hA,avD,g1,undef,he,Tryz.results237]
 | true=>
 cases g2:decide (x.kind=y.kind) with
 | false=>
  rw [g1,g2] at he
  simp only [Bool.false_and,Bool.true_and] at he
  simp only [go_sem,hA,avD,g1,g2,undef,he,Tryz.results237]
 | true=>
 cases g3:(x.pub == y.pub) with
 | false=>
  rw [g1,g2,g3] at he
  simp only [Bool.false_and,Bool.true_and] at he
  simp only [go_sem,hA,avD,g1,g2,g3,undef,he,Tryz.results237]
 | true=>
 cases g4:(x.doubt == y.doubt) with
 | false=>
  rw [g1,g2,g3,g4] at he
  simp only [Bool.false_and,Bool.true_and] at he
  simp only [go_sem,hA,avD,g1,g2,g3,g4,undef,he,Tryz.results237]
 | true=>
 rw [g1,g2,g3,g4] at he
 simp only [Bool.true_and] at he
 simp only [go_sem,hA,avD,g1,g2,g3,g4]
 refine zb 300 cs rfl (by simp only [go_sem]) (by simp only [go_sem,hA]) ?_
 cases g5:zcR x.names y.names with
 | false=>
  rw [g5] at he
  simp only [Bool.false_and] at he
  simp only [go_sem,hA,undef,he,Tryz.results237]
 | true=>
  rw [g5] at he
  simp only [Bool.true_and] at he
  simp only [go_sem,hA]
  refine zb 300 ce rfl (by simp only [go_sem,zl]) (by simp only [go_sem,hA]) ?_
  cases g6:zeS x.body y.body <;> rw [g6] at he <;> simp only [go_sem,hA,he,Tryz.results237]
abbrev zxb (l m:List Dc) (q:Nat):St:=⟨[(0,.d (.sl (zak l))),(1,.d (.sl (zak m))),(5,.d (.raw (.int .i64 q)))],[],[]⟩
theorem zrj (l m:List Dc) (hl:l.length≤1048576) (hb:∀ d ∈ l,nodesE d.body≤1048576∧d.names.length≤1048576):Con Tryz.prog 167 [.d (.sl (zak l)),.d (.sl (zak m))] (.d (.raw (.bool (zcS l m)))):=by
 refine zh Tryz.func167 rfl (by decide +kernel) rfl rfl (by simp [Tryz.ntmps167]) fun A hA=>?_
 rw [Tryz.ntmps167] at hA
 refine goC 300 ?_
 by_cases hlm:l.length=m.length
 ·have g0:(decide ¬ (l.length:Int)=(m.length:Int))=false:=decide_eq_false (by omega)
  simp only [go_sem,hA,zf,g0]
  refine zd [0,1,5] [] [] (fun x σ=>∃ q:Nat,q≤l.length∧x=l.length - q∧l.take q=m.take q∧σ=zxb l m q) l.length ⟨0,by omega,by omega,rfl,by simp only [go_sem,zxb]⟩ ?_
  rintro x σ ⟨q,hq,rfl,hf,rfl⟩
  refine goC 400 ?_
  by_cases hlt:q<l.length
  ·have g1:decide ((q:Int)<(l.length:Int))=true:=decide_eq_true (by omega)
   have hq2:q<m.length:=by omega
   obtain⟨hb1,hb2⟩:=hb l[q] (List.getElem_mem hlt)
   have cs:=ztb l[q] m[q] hb1 hb2
   obtain⟨d,hd⟩:∃ d,l[q]=d:=⟨_,rfl⟩
   obtain⟨e,he⟩:∃ e,m[q]=e:=⟨_,rfl⟩
   rw [hd,he] at cs
   simp only [go_sem,hA,zxb,zf,g1,Int.toNat_natCast,zS l q hlt,zS m q hq2,hd,he,zcW,mixed]
   refine⟨⟨by omega,by omega⟩,⟨by omega,by omega⟩,?_⟩
   refine zbO 300 cs rfl (by simp only [go_sem,avD]) (by simp only [go_sem,hA]) ?_
   cases hs:zki d e with
   | true=>
    have hde:=(ziC d e).1 hs
    simp only [go_sem,hA]
    exact⟨by show chk _ _ _=true;kernel_rfl,by unfold zc;omega,l.length - (q+1),by omega,q+1,by omega,rfl,by rw [List.take_succ_eq_append_getElem hlt,List.take_succ_eq_append_getElem hq2,hf,hd,he,hde],rfl⟩
   | false=>
    have hne:zcS l m=false:=zjm fun e'=>by
     subst e'
     rw [hd] at he
     rw [(ziC d e).2 he] at hs
     cases hs
    simp only [go_sem,hA,hne,Tryz.results167]
    exact by show chk _ _ _=true;kernel_rfl
  ·have g1:decide ((q:Int)<(l.length:Int))=false:=decide_eq_false (by omega)
   obtain rfl:q=l.length:=by omega
   have he:l=m:=by rw [List.take_length,List.take_of_length_le (by omega)] at hf;exact hf
   have hs:zcS l m=true:=(zga _ _).2 he
   simp only [go_sem,hA,zxb,zf,g1,Tryz.results167,hs]
 ·have g0:(decide ¬ (l.length:Int)=(m.length:Int))=true:=decide_eq_true (by omega)
  have hne:zcS l m=false:=zjm fun e=>hlm (by rw [e])
  simp only [go_sem,hA,zf,g0,Tryz.results167,hne]
end
section
open Go Go.RowKit
def zdL {α:Type} (p:α→α→Bool):List α→List α→Bool
 | [],[]=>true
 | x :: xs,y :: ys=>p x y && zdL p xs ys
 | _,_=>false
theorem zdK {α:Type} {p:α→α→Bool} (hp:∀ x y,p x y=true ↔ x=y):∀ a b:List α,zdL p a b=true ↔ a=b
 | [],[]=>by simp [zdL]
 | x :: xs,y :: ys=>by simp only [zdL,Bool.and_eq_true,hp,zdK hp xs ys,List.cons.injEq]
 | [],y :: ys=>by simp [zdL]
 | x :: xs,[]=>by simp [zdL]
theorem zdl {α:Type} {p:α→α→Bool} (hp:∀ x y,p x y=true ↔ x=y) {a b:List α} (h:a≠b):zdL p a b=false:=by
 cases hc:zdL p a b
 ·rfl
 ·exact absurd ((zdK hp a b).1 hc) h
theorem zjM (x y:Sq):eqQ x y=true ↔ x=y:=by
 obtain⟨a1,a2,a3,a4⟩:=x
 obtain⟨b1,b2,b3,b4⟩:=y
 simp [eqQ]
def zos (x y:Fl):Bool:=decide (x.path=y.path) && decide (x.data=y.data)
theorem zfK (x y:Fl):zos x y=true ↔ x=y:=by
 obtain⟨a1,a2⟩:=x
 obtain⟨b1,b2⟩:=y
 simp [zos]
def zmf (x y:Mo):Bool:=decide (x.label=y.label) && (zcR x.uses y.uses && zcS x.decls y.decls)
theorem zfJ (x y:Mo):zmf x y=true ↔ x=y:=by
 obtain⟨a1,a2,a3⟩:=x
 obtain⟨b1,b2,b3⟩:=y
 simp only [zmf,Bool.and_eq_true,decide_eq_true_eq,zel,zga,Mo.mk.injEq]
def zuh (x y:Tc):Bool:=decide (x.path=y.path) && ((x.inB == y.inB) && ((x.inL == y.inL) && ((x.inR == y.inR) && (decide (x.base=y.base) && (decide (x.left=y.left) && decide (x.right=y.right))))))
theorem zfI (x y:Tc):zuh x y=true ↔ x=y:=by
 obtain⟨a1,a2,a3,a4,a5,a6,a7⟩:=x
 obtain⟨b1,b2,b3,b4,b5,b6,b7⟩:=y
 simp [zuh]
def eqG (x y:Mg):Bool:=zdL zmf x.ms y.ms && (zdL zos x.fs y.fs && zdL zuh x.ts y.ts)
theorem zEn (x y:Mg):eqG x y=true ↔ x=y:=by
 obtain⟨a1,a2,a3⟩:=x
 obtain⟨b1,b2,b3⟩:=y
 simp only [eqG,Bool.and_eq_true,zdK zfJ,zdK zfK,zdK zfI,Mg.mk.injEq]
abbrev zAz (l m:List Fl) (q:Nat):St:=⟨[(0,.d (.sl (zy l))),(1,.d (.sl (zy m))),(5,.d (.raw (.int .i64 q)))],[],[]⟩
theorem zri (l m:List Fl) (hl:l.length≤1048576):Con Tryz.prog 48 [.d (.sl (zy l)),.d (.sl (zy m))] (.d (.raw (.bool (zdL zos l m)))):=by
 refine zh Tryz.func48 rfl (by decide +kernel) rfl rfl (by simp [Tryz.ntmps48]) fun A hA=>?_
 rw [Tryz.ntmps48] at hA
 refine goC 300 ?_
 by_cases hlm:l.length=m.length
 ·have g0:(decide ¬ (l.length:Int)=(m.length:Int))=false:=decide_eq_false (by omega)
  simp only [go_sem,hA,ze,g0]
  refine zd [0,1,5] [] [] (fun x σ=>∃ q:Nat,q≤l.length∧x=l.length - q∧l.take q=m.take q∧σ=zAz l m q) l.length ⟨0,by omega,by omega,rfl,by simp only [go_sem,zAz]⟩ ?_
  rintro x σ ⟨q,hq,rfl,hf,rfl⟩
  refine goC 400 ?_
  by_cases hlt:q<l.length
  ·have g1:decide ((q:Int)<(l.length:Int))=true:=decide_eq_true (by omega)
   have hq2:q<m.length:=by omega
   obtain⟨d,hd⟩:∃ d,l[q]=d:=⟨_,rfl⟩
   obtain⟨e,he⟩:∃ e,m[q]=e:=⟨_,rfl⟩
   have hr:(decide (d.path=e.path) && decide (d.data=e.data))=zos d e:=rfl
   cases hs:zos d e with
   | true=>
    have hde:=(zfK d e).1 hs
    rw [hs] at hr
    simp only [go_sem,hA,zAz,ze,g1,Int.toNat_natCast,zL l q hlt,zL m q hq2,hd,he,String.reduceEq,hr,Bool.not_true,mixed]
    exact⟨⟨by omega,by omega⟩,⟨by omega,by omega⟩,⟨by kernel_rfl,by kernel_rfl⟩,by show chk _ _ _=true;kernel_rfl,by unfold zc;omega,l.length - (q+1),by omega,q+1,by omega,rfl,by rw [List.take_succ_eq_append_getElem hlt,List.take_succ_eq_append_getElem hq2,hf,hd,he,hde],rfl⟩
   | false=>
    rw [hs] at hr
    have hne:zdL zos l m=false:=zdl zfK fun e'=>by
     subst e'
     rw [hd] at he
     rw [(zfK d e).2 he] at hs
     cases hs
    simp only [go_sem,hA,zAz,ze,g1,Int.toNat_natCast,zL l q hlt,zL m q hq2,hd,he,String.reduceEq,hr,Bool.not_false,hne,mixed,Tryz.results48]
    exact⟨⟨by omega,by omega⟩,⟨by omega,by omega⟩,⟨by kernel_rfl,by kernel_rfl⟩,by show chk _ _ _=true;kernel_rfl⟩
  ·have g1:decide ((q:Int)<(l.length:Int))=false:=decide_eq_false (by omega)
   obtain rfl:q=l.length:=by omega
   have he:l=m:=by rw [List.take_length,List.take_of_length_le (by omega)] at hf;exact hf
   have hs:zdL zos l m=true:=(zdK zfK _ _).2 he
   simp only [go_sem,hA,zAz,ze,g1,Tryz.results48,hs]
 ·have g0:(decide ¬ (l.length:Int)=(m.length:Int))=true:=decide_eq_true (by omega)
  have hne:zdL zos l m=false:=zdl zfK fun e=>hlm (by rw [e])
  simp only [go_sem,hA,ze,g0,Tryz.results48,hne]
theorem zyQ (x y:Mo) (hu:x.uses.length≤1048576) (hl:x.decls.length≤1048576) (hb:∀ d ∈ x.decls,nodesE d.body≤1048576∧d.names.length≤1048576):Con Tryz.prog 104 [avM x,avM y] (.d (.raw (.bool (zmf x y)))):=by
 refine zh Tryz.func104 rfl (by decide +kernel) rfl rfl (by simp [Tryz.ntmps104]) fun A hA=>?_
 rw [Tryz.ntmps104] at hA
 refine goC 400 ?_
 have hr:zmf x y=(decide (x.label=y.label) && (zcR x.uses y.uses && zcS x.decls y.decls)):=rfl
 cases g:decide (x.label=y.label) with
 | false=>
  rw [g,Bool.false_and] at hr
  simp only [go_sem,hA,avM,g,undef,hr,Tryz.results104]
 | true=>
 rw [g,Bool.true_and] at hr
 simp only [go_sem,hA,avM,g]
 refine zb 300 (zez x.uses y.uses hu) rfl (by simp only [go_sem]) (by simp only [go_sem,hA]) ?_
 cases h:zcR x.uses y.uses with
 | false=>
  rw [h,Bool.false_and] at hr
  simp only [go_sem,hA,undef,hr,Tryz.results104]
 | true=>
  rw [h,Bool.true_and] at hr
  simp only [go_sem,hA]
  refine zb 300 (zrj x.decls y.decls hl hb) rfl (by simp only [go_sem]) (by simp only [go_sem,hA]) ?_
  simp only [go_sem,hA,hr,Tryz.results104]
abbrev zDv (l m:List Mo) (q:Nat):St:=⟨[(0,.d (.sl (zab l))),(1,.d (.sl (zab m))),(5,.d (.raw (.int .i64 q)))],[],[]⟩
theorem zta (l m:List Mo) (hl:l.length≤1048576) (hb:∀ x ∈ l,x.uses.length≤1048576∧x.decls.length≤1048576∧∀ d ∈ x.decls,nodesE d.body≤1048576∧d.names.length≤1048576):Con Tryz.prog 47 [.d (.sl (zab l)),.d (.sl (zab m))] (.d (.raw (.bool (zdL zmf l m)))):=by
 refine zh Tryz.func47 rfl (by decide +kernel) rfl rfl (by simp [Tryz.ntmps47]) fun A hA=>?_
 rw [Tryz.ntmps47] at hA
 refine goC 300 ?_
 by_cases hlm:l.length=m.length
 ·have g0:(decide ¬ (l.length:Int)=(m.length:Int))=false:=decide_eq_false (by omega)
  simp only [go_sem,hA,zm,g0]
  refine zd [0,1,5] [] [] (fun x σ=>∃ q:Nat,q≤l.length∧x=l.length - q∧l.take q=m.take q∧σ=zDv l m q) l.length ⟨0,by omega,by omega,rfl,by simp only [go_sem,zDv]⟩ ?_
  rintro x σ ⟨q,hq,rfl,hf,rfl⟩
  refine goC 400 ?_
  by_cases hlt:q<l.length
  ·have g1:decide ((q:Int)<(l.length:Int))=true:=decide_eq_true (by omega)
   have hq2:q<m.length:=by omega
   obtain⟨d,hd⟩:∃ d,l[q]=d:=⟨_,rfl⟩
   obtain⟨e,he⟩:∃ e,m[q]=e:=⟨_,rfl⟩
   have hx:=hb l[q] (List.getElem_mem hlt)
   have cs:=zyQ l[q] m[q] hx.1 hx.2.1 hx.2.2
   rw [hd,he] at cs
   simp only [go_sem,hA,zDv,zm,g1,Int.toNat_natCast,zaN l q hlt,zaN m q hq2,hd,he,zeJ,mixed]
   refine⟨⟨by omega,by omega⟩,⟨by omega,by omega⟩,?_⟩
   refine zbO 300 cs rfl (by simp only [go_sem,avM]) (by simp only [go_sem,hA]) ?_
   cases hs:zmf d e with
   | true=>
    have hde:=(zfJ d e).1 hs
    simp only [go_sem,hA]
    exact⟨by show chk _ _ _=true;kernel_rfl,by unfold zc;omega,l.length - (q+1),by omega,q+1,by omega,rfl,by rw [List.take_succ_eq_append_getElem hlt,List.take_succ_eq_append_getElem hq2,hf,hd,he,hde],rfl⟩
   | false=>
    have hne:zdL zmf l m=false:=zdl zfJ fun e'=>by
     subst e'
     rw [hd] at he
     rw [(zfJ d e).2 he] at hs
     cases hs
    simp only [go_sem,hA,hne,Tryz.results47]
    exact by show chk _ _ _=true;kernel_rfl
  ·have g1:decide ((q:Int)<(l.length:Int))=false:=decide_eq_false (by omega)
   obtain rfl:q=l.length:=by omega
   have he:l=m:=by rw [List.take_length,List.take_of_length_le (by omega)] at hf;exact hf
   have hs:zdL zmf l m=true:=(zdK zfJ _ _).2 he
   simp only [go_sem,hA,zDv,zm,g1,Tryz.results47,hs]
 ·have g0:(decide ¬ (l.length:Int)=(m.length:Int))=true:=decide_eq_true (by omega)
  have hne:zdL zmf l m=false:=zdl zfJ fun e=>hlm (by rw [e])
  simp only [go_sem,hA,zm,g0,Tryz.results47,hne]
end
end Go.Proofs.YtpnjjmcimjlfkaaGreatDoor
