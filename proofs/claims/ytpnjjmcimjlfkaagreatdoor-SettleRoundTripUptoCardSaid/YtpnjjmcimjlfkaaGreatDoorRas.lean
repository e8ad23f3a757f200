/- Texts of this proof, part 19: what the proof uses of them. -/
import Derived.Test.YtpnjjmcimjlfkaaGreatDoorRaq
import Derived.Test.YtpnjjmcimjlfkaaGreatDoorRar
import Derived.Test.YtpnjjmcimjlfkaaGreatDoorRap
import Derived.Test.YtpnjjmcimjlfkaaGreatDoorRaj
import Derived.Test.YtpnjjmcimjlfkaaGreatDoorRah
import Derived.BigGuardIn
import Derived.Test.YtpnjjmcimjlfkaaGreatDoorRak
import Derived.Test.YtpnjjmcimjlfkaaGreatDoorRai
import Derived.Test.YtpnjjmcimjlfkaaGreatDoorRal
import Derived.Test.YtpnjjmcimjlfkaaGreatDoorRan
import Derived.Test.YtpnjjmcimjlfkaaGreatDoorRam
import Derived.Test.YtpnjjmcimjlfkaaGreatDoorRag
import Derived.Test.YtpnjjmcimjlfkaaGreatDoorProg
import Derived.WalkKit
import Derived.Lib.Walk
import Derived.Lib.Hide
import Derived.Shelf.RegionOpenPlain
import Derived.Lib.AppendZerosOnto
import Derived.Lib.Overlaps
import Derived.Laws.IdiomCopy
import Derived.Laws.Externs
import Derived.Lib.SliceRun
set_option maxRecDepth 100000
set_option maxHeartbeats 64000000
namespace Go.Proofs.YtpnjjmcimjlfkaaGreatDoor
section
open Go Go.RowKit Go.Shelf
structure En where
 name:ByteArray
 dir:Bool
 dg:Int × Int
structure Ob where
 kind:Int
 data:ByteArray
 ents:List En
 tree:Int × Int
 pars:List (Int × Int)
 author:ByteArray
 time:Int
 msg:ByteArray
def zAQ (x:En):List D:=[.raw (.string x.name),.raw (.bool x.dir),.raw (.int .u64 x.dg.1),.raw (.int .u64 x.dg.2)]
def zbv (l:List En):List (List D):=l.map zAQ
def zbw (l:List (Int × Int)):List (List D):=l.map fun d=>[.raw (.int .u64 d.1),.raw (.int .u64 d.2)]
abbrev zcY (o:Ob):AV:=.agg [.d (.raw (.int .i64 o.kind)),.d (.raw (.string o.data)),.d (.sl (zbv o.ents)),.d (.raw (.int .u64 o.tree.1)),.d (.raw (.int .u64 o.tree.2)),.d (.sl (zbw o.pars)),.d (.raw (.string o.author)),.d (.raw (.int .i64 o.time)),.d (.raw (.string o.msg))]
def atN (l:List En) (i:Nat):En:=l.getD i ⟨⟨#[]⟩,false,(0,0)⟩
theorem zlP (l:List En) (i:Nat) (h:i<l.length):atN l i=l[i]:=by simp [atN,List.getD_eq_getElem?_getD,h]
def atG (l:List (Int × Int)) (i:Nat):Int × Int:=l.getD i (0,0)
theorem zwT (l:List (Int × Int)) (i:Nat) (h:i<l.length):atG l i=l[i]:=by simp [atG,List.getD_eq_getElem?_getD,h]
theorem zJ (l:List En):(zbv l).length=l.length:=List.length_map ..
theorem zF (l:List (Int × Int)):(zbw l).length=l.length:=List.length_map ..
theorem zjH (a b:List En):zbv a++zbv b=zbv (a++b):=(List.map_append ..).symm
theorem zjK (a b:List (Int × Int)):zbw a++zbw b=zbw (a++b):=(List.map_append ..).symm
theorem zcg (l:List En) (i:Nat) (h:i<l.length):(zbv l).getD i []=[.raw (.string l[i].name),.raw (.bool l[i].dir),.raw (.int .u64 l[i].dg.1),.raw (.int .u64 l[i].dg.2)]:=by
 simp [zbv,zAQ,List.getD_eq_getElem?_getD,h]
theorem zdj (l:List (Int × Int)) (i:Nat) (h:i<l.length):(zbw l).getD i []=[.raw (.int .u64 l[i].1),.raw (.int .u64 l[i].2)]:=by
 simp [zbw,List.getD_eq_getElem?_getD,h]
theorem zhV (l:List En):zam 4 (zbv l):=by
 intro r hr
 obtain⟨t,_,rfl⟩:=List.mem_map.1 hr
 refine⟨rfl,fun x hx=>?_⟩
 simp only [zAQ,List.mem_cons,List.not_mem_nil,or_false] at hx
 rcases hx with rfl | rfl | rfl | rfl <;> rfl
theorem zcz (l:List (Int × Int)):zam 2 (zbw l):=by
 intro r hr
 obtain⟨t,_,rfl⟩:=List.mem_map.1 hr
 refine⟨rfl,fun x hx=>?_⟩
 simp only [List.mem_cons,List.not_mem_nil,or_false] at hx
 rcases hx with rfl | rfl <;> rfl
def zbd (d:Int × Int):Bool:=decide (d.1=0) && decide (d.2=0)
def zkF (l:List En) (q:Nat):Int:=if zaa (atN l q).name.data.toList=false then 6 else if 0<q/\leS (atN l q).name (atN l (q - 1)).name=true then 10 else if zbd (atN l q).dg=true then 1 else 0
def zdr (l:List En):Int:=if 200<l.length then 4 else zH (zkF l) l.length
def zoi (l:List (Int × Int)) (q:Nat):Int:=if zbd (atG l q)=true then 1 else if (l.take q).any (fun d=>decide (d=atG l q))=true then 7 else 0
def ziO (o:Ob):Int:=
 if zbd o.tree=true then 1 else if 8<o.pars.length then 4 else if ¬ zH (zoi o.pars) o.pars.length=0 then zH (zoi o.pars) o.pars.length else
  if zaa o.author.data.toList=false then 6 else if o.time<0\/1099511627776<o.time then 2 else if 200<o.msg.size then 4 else 0
def zwR (o:Ob):Bool:=zbd o.tree && decide (o.pars=[]) && decide (o.author=⟨#[]⟩) && decide (o.time=0) && decide (o.msg=⟨#[]⟩)
def zjt (o:Ob):Bool:=!((decide (o.kind=2) || decide (o.kind=3)) && !decide (o.data=⟨#[]⟩) || !decide (o.kind=2) && decide (0<o.ents.length)) && (decide (o.kind=3) || zwR o)
def zaV (o:Ob):Int:=
 if o.kind<1\/4<o.kind then 9 else if zjt o=false then 1 else if o.kind=2 then zdr o.ents else if o.kind=3 then ziO o else if 65536<o.data.size then 4 else 0
def zaD (n:Int):List UInt8:=[56,48,40,32,24,16,8,0].map fun s=>(n.toNat / 2 ^ s).toUInt8
def dgL (d:Int × Int):List UInt8:=zaD d.1++zaD d.2
theorem zad (d:Int × Int):(dgL d).length=16:=by simp [dgL,zaD]
def zcr (e:En):List UInt8:=zi e.name++(zb (if e.dir then 1 else 0)++dgL e.dg)
def obL (o:Ob):List UInt8:=
 zb o.kind.toNat++if o.kind=2 then zb o.ents.length++o.ents.flatMap zcr else if o.kind=3 then dgL o.tree++(zb o.pars.length++(o.pars.flatMap dgL++(zi o.author++(zb o.time.toNat++zi o.msg)))) else zi o.data
def Ob.Good (o:Ob):Prop:=zaV o=0/\(obL o).length<=65536
structure It where
 dg:Int × Int
 data:ByteArray
def zpp (x:It):List D:=[.raw (.int .u64 x.dg.1),.raw (.int .u64 x.dg.2),.raw (.string x.data)]
def zaR (l:List It):List (List D):=l.map zpp
def zgJ (l:List It) (i:Nat):It:=l.getD i ⟨(0,0),⟨#[]⟩⟩
theorem zeb (l:List It) (i:Nat) (h:i<l.length):zgJ l i=l[i]:=by simp [zgJ,List.getD_eq_getElem?_getD,h]
theorem zy (l:List It):(zaR l).length=l.length:=List.length_map ..
theorem zbt (l:List It) (i:Nat) (h:i<l.length):(zaR l).getD i []=[.raw (.int .u64 l[i].dg.1),.raw (.int .u64 l[i].dg.2),.raw (.string l[i].data)]:=by
 simp [zaR,zpp,List.getD_eq_getElem?_getD,h]
theorem zhU (l:List It):zam 3 (zaR l):=by
 intro r hr
 obtain⟨t,_,rfl⟩:=List.mem_map.1 hr
 refine⟨rfl,fun x hx=>?_⟩
 simp only [zpp,List.mem_cons,List.not_mem_nil,or_false] at hx
 rcases hx with rfl | rfl | rfl <;> rfl
abbrev RdS:=ByteArray × Bool
def rdI (r:RdS):Nat × RdS:=if r.2=true\/(zbx r.1).2.2≠0 then (0,r.1,true) else ((zbx r.1).1,r.1.extract (zbx r.1).2.1 r.1.size,false)
def rdT (r:RdS):ByteArray × RdS:=if r.2=true\/(zcO r.1).2.2≠0 then (⟨#[]⟩,r.1,true) else ((zcO r.1).1,r.1.extract (zcO r.1).2.1 r.1.size,false)
def zhw (l:List UInt8):Int:=l.foldl (fun a c=>IntKind.u64.wrap (IntKind.u64.wrap (a * 256)+(c.toNat:Nat))) 0
def rdG (r:RdS):(Int × Int) × RdS:=if r.2=true\/r.1.size<16 then ((0,0),r.1,true) else ((zhw (r.1.data.toList.take 8),zhw ((r.1.data.toList.drop 8).take 8)),r.1.extract 16 r.1.size,false)
def rdN (r:RdS):En × RdS:=(⟨(rdT r).1,decide ((rdI (rdT r).2).1=1),(rdG (rdI (rdT r).2).2).1⟩,(rdG (rdI (rdT r).2).2).2)
def zdO {α:Type} (f:RdS->α × RdS):Nat->RdS->List α->List α × RdS
 | 0,r,acc=>(acc,r)
 | k+1,r,acc=>if r.2=true then (acc,r) else zdO f k (f r).2 (acc++[(f r).1])
def zgs (s:ByteArray):Ob × RdS:=
 let k:=rdI (s,false)
 if k.1=2 then let n:=rdI k.2;let e:=zdO rdN n.1 n.2 [];(⟨2,⟨#[]⟩,e.1,(0,0),[],⟨#[]⟩,0,⟨#[]⟩⟩,e.2)
 else if k.1=3 then let t:=rdG k.2;let n:=rdI t.2;let p:=zdO rdG n.1 n.2 [];let a:=rdT p.2;let i:=rdI a.2;let m:=rdT i.2;(⟨3,⟨#[]⟩,[],t.1,p.1,a.1,i.1,m.1⟩,m.2)
 else let d:=rdT k.2;(⟨k.1,d.1,[],(0,0),[],⟨#[]⟩,0,⟨#[]⟩⟩,d.2)
def zak (o:Ob):List UInt8 × Int:=if ¬ zaV o=0 then ([],zaV o) else if 65536<(obL o).length then ([],4) else (obL o,0)
def ziN (s:ByteArray):Int:=if (zgs s).2.2=true\/¬ (zak (zgs s).1).2=0\/¬ s=⟨(zak (zgs s).1).1.toArray⟩ then 13 else 0
def itE (p:List It) (q:Nat):Int:=if ¬ ziN (zgJ p q).data=0 then 13 else if ¬ ofD (zgJ p q).data.data.toList=(zgJ p q).dg then 15 else if 0<q/\0<=zcI (zgJ p (q - 1)).dg (zgJ p q).dg then 10 else 0
def zsh (p:List It):Int:=zH (itE p) p.length
end
section
open Go Go.RowKit
theorem zpR {ds:List D} (h:Typed Tryz.prog 42 ds):∃ d:Int × Int,ds=[.raw (.int .u64 d.1),.raw (.int .u64 d.2)]:=by
 obtain⟨parts,rfl,hl,hp⟩:=zrz h Tryz.underlying42
 match parts,hl with
 | [p0,p1],_=>
  obtain⟨a,e0,_⟩:=zcR (hp 0 (by simp)) Tryz.underlying40
  obtain⟨b,e1,_⟩:=zcR (hp 1 (by simp)) Tryz.underlying40
  have e0:p0=[.raw (.int .u64 a)]:=e0
  have e1:p1=[.raw (.int .u64 b)]:=e1
  subst e0 e1
  exact⟨(a,b),rfl⟩
theorem ztT {ds:List D} (h:Typed Tryz.prog 93 ds):∃ x:It,ds=zpp x/\1<=zaH ds:=by
 obtain⟨parts,rfl,hl,hp⟩:=zby h Tryz.underlying93
 match parts,hl with
 | [p0,p1],_=>
  obtain⟨d,e0⟩:=zpR (hp 0 (by decide) (by simp))
  obtain⟨s,e1,_⟩:=zbN (hp 1 (by decide) (by simp)) Tryz.underlying9
  have e0:p0=[.raw (.int .u64 d.1),.raw (.int .u64 d.2)]:=e0
  have e1:p1=[.raw (.string s)]:=e1
  subst e0 e1
  refine⟨⟨d,s⟩,rfl,?_⟩
  simp only [List.flatten_cons,List.flatten_nil,List.append_nil,List.cons_append,List.nil_append,zaH,D.size]
  omega
theorem ztS {ds:List D} (h:Typed Tryz.prog 39 ds):∃ p:List It,ds=[.sl (zaR p)]/\p.length<=zaH ds:=by
 obtain⟨rows,e0,hr⟩:=zbW h Tryz.underlying39
 obtain⟨p,e1,hn⟩:=zcL (enc:=zpp) (sz:=fun _:It=>1) (szL:=List.length) rfl (fun a l=>by simp [Nat.add_comm]) _ (fun ds _ h=>ztT h) rows (Nat.le_refl _) hr
 subst e0 e1
 refine⟨p,rfl,?_⟩
 simp only [zaH,D.size]
 omega
def zoP:List TypeId:=zkf++[40,42,93,39]
theorem zxu:zoP.all (zjl Tryz.prog zoP)=true:=by kernel_rfl
end
section
open Go.ChangeShapes Go.WideShapes Go.ChangeAt Go.RowKit
section
variable {H:Type} {enc:TypeId × Value->H} {W:World} {base:Nat} {spare:Nat->Bool} {held:Bool}
theorem zCT {v:Value} {d:DataW H} {p:List MemPlace} (h:DataW.Trod enc Tryz.prog W 0 (fun _=>true) true 39 v d p) (hlt:∀ x ∈ p,x.block<W.heap.size) (hval:Value.okWide Tryz.prog W .any base 39 v):∃ q:List It,zch W (below W) (.d (.sl (zaR q))) v/\q.length<=Rows.uptoBulk d:=by
 obtain⟨fuel,hf⟩:=h
 obtain⟨ds,hT,hR,hS⟩:=zmA zxu _ fuel 39 v.cells.toList (d,p) (Nat.le_refl _) (by decide) hf hlt
 obtain⟨q,rfl,hn⟩:=ztS hT
 have hS:zaH [.sl (zaR q)]<=Rows.uptoBulk d:=hS
 obtain⟨a,l,c,rfl⟩:=okWide_slice Tryz.underlying39 hval
 exact⟨q,zBV hR,by omega⟩
end
end
section
open Go Go.RowKit Go.Shelf
attribute [local go_sem] Oper.semAt_some
theorem zhT {l:List En} {q:Nat} (hlt:q<l.length) (h:zkF l q=0):zaa l[q].name.data.toList=true/\(0<q->leS l[q].name (atN l (q - 1)).name=false)/\zbd l[q].dg=false:=by
 unfold zkF at h
 rw [zlP l q hlt] at h
 split at h
 ·cases h
 ·rename_i h1
  split at h
  ·cases h
  ·rename_i h2
   split at h
   ·cases h
   ·rename_i h3
    exact⟨by simpa using h1,fun h0=>by simpa [h0] using h2,by simpa using h3⟩
abbrev zCH (l:List En) (q:Nat):St:=⟨[(0,.d (.sl (zbv l))),(8,.d (.sl (zbv l))),(9,.d (.raw (.int .i64 l.length))),(10,.d (.raw (.int .i64 q)))],[],[]⟩
theorem zCL (l:List En) (h:zdr l=0):Con Tryz.prog 238 [.d (.sl (zbv l))] (.d (.raw (.int .i64 0))):=by
 have hl:¬ 200<l.length:=fun h1=>by unfold zdr at h;rw [if_pos h1] at h;cases h
 have hz:zH (zkF l) l.length=0:=by unfold zdr at h;rwa [if_neg hl] at h
 refine kO Tryz.func238 Tryz.ntmps238 fun A hA=>?_
 have g1:decide ((200:Int)<(l.length:Int))=false:=decide_eq_false (by omega)
 refine goC 400 ?_
 simp only [go_sem,hA,zJ,g1]
 refine zc [0,8,9,10] [] [] (fun y σ=>∃ q:Nat,q<=l.length/\y=l.length - q/\σ=zCH l q) l.length ⟨0,by omega,by omega,by simp only [go_sem,zCH]⟩ ?_
 rintro y σ ⟨q,hq,rfl,rfl⟩
 refine goC 400 ?_
 by_cases hlt:q<l.length
 ·have k1:decide ((q:Int)<(l.length:Int))=true:=decide_eq_true (by omega)
  obtain⟨e1,e2,e3⟩:=zhT hlt (zbn hz q hlt)
  have hv:=zpN l[q].name
  rw [e1] at hv
  have e3':(decide (l[q].dg.1=0) && decide (l[q].dg.2=0))=false:=e3
  simp only [go_sem,hA,zCH,zJ,k1,Int.toNat_natCast,zcg l q hlt]
  refine⟨⟨by omega,by omega⟩,?_⟩
  refine gC hv ?_
  by_cases hq0:0<q
  ·have k2:decide ((0:Int)<(q:Int))=true:=decide_eq_true (by omega)
   have hq1:((q:Int) - 1).toNat=q - 1:=by omega
   have hin:za ((q:Int) - 1):=by unfold za;omega
   have hle:=e2 hq0
   rw [zlP l (q - 1) (by omega)] at hle
   have hle':(Op.bytesLess l[q].name.data.toList l[q - 1].name.data.toList || decide (l[q].name=l[q - 1].name))=false:=hle
   simp only [go_sem,hA,k2,zJ,hq1,zcg l (q - 1) (by omega),hle',mixed,zT,e3']
   exact⟨hin,⟨by omega,by omega⟩,by show chk _ _ _=true;kernel_rfl,by unfold za;omega,l.length - (q+1),by omega,q+1,by omega,rfl,rfl⟩
  ·have k2:decide ((0:Int)<(q:Int))=false:=decide_eq_false (by omega)
   simp only [go_sem,hA,k2,undef,mixed,zT,e3']
   exact⟨by show chk _ _ _=true;kernel_rfl,by unfold za;omega,l.length - (q+1),by omega,q+1,by omega,rfl,rfl⟩
 ·have k1:decide ((q:Int)<(l.length:Int))=false:=decide_eq_false (by omega)
  simp only [go_sem,hA,zCH,k1,Tryz.results238]
abbrev zCG (l:List (Int × Int)) (d:Int × Int) (q:Nat):St:=⟨[(0,.d (.sl (zbw l))),(3,.box 0 0),(7,.d (.raw (.int .i64 l.length))),(8,.d (.raw (.int .i64 q)))],[(0,some (.cell 42 [.d (.raw (.int .u64 d.1)),.d (.raw (.int .u64 d.2))]))],[]⟩
theorem zEM (l:List (Int × Int)) (d:Int × Int) (hl:l.length<=1048576) (h:l.any (fun x=>decide (x=d))=false):Con Tryz.prog 309 [.d (.sl (zbw l)),zew d] (.d (.raw (.int .i64 (-1)))):=by
 refine kO Tryz.func309 Tryz.ntmps309 fun A hA=>?_
 refine goC 400 ?_
 simp only [go_sem,hA,zF]
 refine zc [0,3,7,8] [0] [] (fun y σ=>∃ q:Nat,q<=l.length/\y=l.length - q/\σ=zCG l d q) l.length ⟨0,by omega,by omega,by simp only [go_sem,zCG]⟩ ?_
 rintro y σ ⟨q,hq,rfl,rfl⟩
 refine goC 400 ?_
 by_cases hlt:q<l.length
 ·have k1:decide ((q:Int)<(l.length:Int))=true:=decide_eq_true (by omega)
  have hne:¬ l[q]=d:=fun e=>by
   rw [List.any_eq_false] at h
   exact h l[q] (List.getElem_mem hlt) (decide_eq_true e)
  have k2:(decide (d.1=l[q].1) && decide (d.2=l[q].2))=false:=by
   rw [<- Bool.not_eq_true];intro hh
   simp only [Bool.and_eq_true,decide_eq_true_eq] at hh
   exact hne (Prod.ext hh.1.symm hh.2.symm)
  simp only [go_sem,hA,zCG,zF,k1,Int.toNat_natCast,zdj l q hlt,mixed,zT,k2]
  exact⟨⟨by omega,by omega⟩,by show chk _ _ _=true;kernel_rfl,by unfold za;omega,l.length - (q+1),by omega,q+1,by omega,rfl,rfl⟩
 ·have k1:decide ((q:Int)<(l.length:Int))=false:=decide_eq_false (by omega)
  simp only [go_sem,hA,zCG,k1,Tryz.results309]
theorem zEN (l:List (Int × Int)) (d:Int × Int) (hl:l.length<=1048576) (h:l.any (fun x=>decide (x=d))=false):Con Tryz.prog 273 [.d (.sl (zbw l)),zew d] (.d (.raw (.bool false))):=by
 refine kO Tryz.func273 Tryz.ntmps273 fun A hA=>?_
 refine goC 400 ?_
 simp only [go_sem,hA]
 refine gC (zEM l d hl h) ?_
 simp only [go_sem,hA,Tryz.results273]
theorem zvy (l:List (Int × Int)) (q:Nat):(zbw l).take q=zbw (l.take q):=(List.map_take ..).symm
theorem zxD {l:List (Int × Int)} {q:Nat} (hlt:q<l.length) (h:zoi l q=0):zbd l[q]=false/\(l.take q).any (fun d=>decide (d=l[q]))=false:=by
 unfold zoi at h
 rw [zwT l q hlt] at h
 split at h
 ·cases h
 ·rename_i h1
  split at h
  ·cases h
  ·rename_i h2
   exact⟨by simpa using h1,by rw [<- Bool.not_eq_true];exact h2⟩
theorem zgf {o:Ob} (h:ziO o=0):zbd o.tree=false/\o.pars.length<=8/\zH (zoi o.pars) o.pars.length=0/\zaa o.author.data.toList=true/\0<=o.time/\o.time<=1099511627776/\o.msg.size<=200:=by
 unfold ziO at h
 split at h
 ·cases h
 ·rename_i h1
  split at h
  ·cases h
  ·rename_i h2
   split at h
   ·rename_i h3;exact absurd h h3
   ·rename_i h3
    split at h
    ·cases h
    ·rename_i h4
     split at h
     ·cases h
     ·rename_i h5
      split at h
      ·cases h
      ·rename_i h6
       exact⟨by simpa using h1,by omega,Decidable.not_not.1 h3,by simpa using h4,by omega,by omega,by omega⟩
abbrev obC (o:Ob):Blk:=.cell 85 [.d (.raw (.int .i64 o.kind)),.d (.raw (.string o.data)),.d (.sl (zbv o.ents)),.d (.raw (.int .u64 o.tree.1)),.d (.raw (.int .u64 o.tree.2)),.d (.sl (zbw o.pars)),.d (.raw (.string o.author)),.d (.raw (.int .i64 o.time)),.d (.raw (.string o.msg))]
abbrev zCI (o:Ob) (q:Nat):St:=⟨[(1,.box 0 0),(14,.d (.sl (zbw o.pars))),(15,.d (.raw (.int .i64 o.pars.length))),(16,.d (.raw (.int .i64 q)))],[(0,some (obC o))],[]⟩
theorem zxG (o:Ob) (h:ziO o=0):Con Tryz.prog 239 [zcY o] (.d (.raw (.int .i64 0))):=by
 obtain⟨h1,h2,h3,h4,h5,h6,h7⟩:=zgf h
 have g1:(decide (o.tree.1=0) && decide (o.tree.2=0))=false:=h1
 have g2:decide ((8:Int)<(o.pars.length:Int))=false:=decide_eq_false (by omega)
 have hv:=zpN o.author
 rw [h4] at hv
 have g5:decide (o.time<0)=false:=decide_eq_false (by omega)
 have g6:decide ((1099511627776:Int)<o.time)=false:=decide_eq_false (by omega)
 have g7:decide ((200:Int)<(o.msg.size:Int))=false:=decide_eq_false (by omega)
 refine kO Tryz.func239 Tryz.ntmps239 fun A hA=>?_
 refine goC 400 ?_
 simp only [go_sem,hA,zT,g1,g2,zF]
 refine zc [1,14,15,16] [0] [] (fun y σ=>∃ q:Nat,q<=o.pars.length/\y=o.pars.length - q/\σ=zCI o q) o.pars.length ⟨0,by omega,by omega,by simp only [go_sem,zCI]⟩ ?_
 rintro y σ ⟨q,hq,rfl,rfl⟩
 refine goC 400 ?_
 by_cases hlt:q<o.pars.length
 ·have k1:decide ((q:Int)<(o.pars.length:Int))=true:=decide_eq_true (by omega)
  obtain⟨e1,e2⟩:=zxD hlt (zbn h3 q hlt)
  have e1':(decide (o.pars[q].1=0) && decide (o.pars[q].2=0))=false:=e1
  simp only [go_sem,hA,zCI,zF,k1,Int.toNat_natCast,zdj o.pars q hlt,mixed,zT,e1',zvy]
  refine⟨⟨by omega,by omega⟩,⟨fun r hr=>(zcz _ r hr).1,by omega,by omega⟩,?_⟩
  refine gD (zEN (o.pars.take q) o.pars[q] (by rw [List.length_take];omega) e2) ?_
  simp only [go_sem,hA]
  exact⟨by show chk _ _ _=true;kernel_rfl,by unfold za;omega,o.pars.length - (q+1),by omega,q+1,by omega,rfl,rfl⟩
 ·have k1:decide ((q:Int)<(o.pars.length:Int))=false:=decide_eq_false (by omega)
  simp only [go_sem,hA,zCI,k1]
  refine gC hv ?_
  simp only [go_sem,hA,g5,g6,g7,Tryz.results239]
theorem zgC {o:Ob} (h:zaV o=0):(∃ k d,(k=1\/k=4)/\d.size<=65536/\o=⟨k,d,[],(0,0),[],⟨#[]⟩,0,⟨#[]⟩⟩)\/(∃ l,zdr l=0/\o=⟨2,⟨#[]⟩,l,(0,0),[],⟨#[]⟩,0,⟨#[]⟩⟩)\/(∃ t p a i m,o=⟨3,⟨#[]⟩,[],t,p,a,i,m⟩/\ziO o=0):=by
 obtain⟨k,d,l,t,p,a,i,m⟩:=o
 unfold zaV at h
 split at h
 ·cases h
 ·rename_i h1
  split at h
  ·cases h
  ·rename_i h2
   simp only at h1 h2 h
   have h2':zjt ⟨k,d,l,t,p,a,i,m⟩=true:=by simpa using h2
   unfold zjt zwR zbd at h2'
   simp only [Bool.and_eq_true,Bool.or_eq_true,Bool.not_eq_true',Bool.or_eq_false_iff,Bool.and_eq_false_iff,Bool.not_eq_false',decide_eq_true_eq,decide_eq_false_iff_not] at h2'
   have hk:k=1\/k=2\/k=3\/k=4:=by omega
   obtain⟨⟨q1,q2⟩,q3⟩:=h2'
   have hlz:¬ 0<l.length->l=[]:=fun h=>List.eq_nil_of_length_eq_zero (by omega)
   by_cases k3:k=3
   ·subst k3
    have hd:d=⟨#[]⟩:=by rcases q1 with q | q <;> simp_all
    have hl:l=[]:=by rcases q2 with q | q <;> simp_all
    subst hd hl
    simp only [if_neg (show ¬ (3:Int)=2 by decide),if_true] at h
    exact .inr (.inr ⟨t,p,a,i,m,rfl,h⟩)
   ·have q3':(((t.1=0/\t.2=0)/\p=[])/\a=⟨#[]⟩)/\i=0:=by rcases q3 with q | q <;> simp_all
    have q4:m=⟨#[]⟩:=by rcases q3 with q | q <;> simp_all
    obtain⟨⟨⟨⟨t1,t2⟩,rfl⟩,rfl⟩,rfl⟩:=q3'
    obtain⟨ta,tb⟩:=t
    simp only at t1 t2
    subst t1 t2 q4
    by_cases k2:k=2
    ·subst k2
     have hd:d=⟨#[]⟩:=by rcases q1 with q | q <;> simp_all
     subst hd
     simp only [if_true] at h
     exact .inr (.inl ⟨l,h,rfl⟩)
    ·have hl:l=[]:=by rcases q2 with q | q <;> simp_all
     subst hl
     rw [if_neg k2,if_neg k3] at h
     refine .inl ⟨k,d,by omega,?_,rfl⟩
     by_cases hs:65536<d.size
     ·rw [if_pos hs] at h;cases h
     ·omega
theorem zmx (o:Ob) (h:zaV o=0):Con Tryz.prog 171 [zcY o] (.d (.raw (.int .i64 0))):=by
 refine kO Tryz.func171 Tryz.ntmps171 fun A hA=>?_
 have z11:decide ((1:Int)=1)=true:=by decide
 have z41:decide ((4:Int)=1)=false:=by decide
 have z44:decide ((4:Int)=4)=true:=by decide
 have z21:decide ((2:Int)=1)=false:=by decide
 have z24:decide ((2:Int)=4)=false:=by decide
 have z22:decide ((2:Int)=2)=true:=by decide
 have z31:decide ((3:Int)=1)=false:=by decide
 have z34:decide ((3:Int)=4)=false:=by decide
 have z32:decide ((3:Int)=2)=false:=by decide
 have z33:decide ((3:Int)=3)=true:=by decide
 have zl:decide ((0:Int)<((0:Nat):Int))=false:=by decide
 have ze:(decide ¬ (⟨#[]⟩:ByteArray)=⟨#[]⟩)=false:=by decide
 have z0:(decide ¬ (0:Int)=0)=false:=by decide
 have zd:(decide ((0:Int)=0) && decide ((0:Int)=0))=true:=by decide
 refine goC 400 ?_
 rcases zgC h with⟨k,d,hk,hd,rfl⟩ | ⟨l,hl,rfl⟩ | ⟨t,p,a,i,m,ho,hc⟩
 ·rcases hk with rfl | rfl
  ·simp only [go_sem,hA,zT,zbv,zbw,List.map_nil,List.length_nil,Tryz.results171]
  ·simp only [go_sem,hA,zT,zbv,zbw,List.map_nil,List.length_nil,z41,Tryz.results171]
 ·simp only [go_sem,hA,zT,zbw,List.map_nil,List.length_nil,z21,z24]
  refine gC (zCL l hl) ?_
  simp only [go_sem,hA,Tryz.results171]
 ·have hf:o.kind=3/\o.data=⟨#[]⟩/\o.ents=[]:=by rw [ho];exact⟨rfl,rfl,rfl⟩
  obtain⟨f1,f2,f3⟩:=hf
  have g1:(decide (o.tree.1=0) && decide (o.tree.2=0))=false:=(zgf hc).1
  simp only [go_sem,hA,zT,f1,f2,f3,zbv,List.map_nil,List.length_nil,z31,z34,z32,g1,undef]
  have hp:=zxG o hc
  simp only [zcY,f1,f2,f3,zbv,List.map_nil] at hp
  refine gC hp ?_
  simp only [go_sem,hA,Tryz.results171]
end
section
open Go.RowKit Go.Shelf
end
section
open Go.RowKit Go.Shelf
attribute [local go_sem] Oper.semAt_some
end
section
open Go Go.RowKit
theorem zyD {t:Ex} (h:zal t=0):nodesE t<=400/\zbU t<=40/\zbI t=0:=by
 unfold zal at h
 split at h
 ·cases h
 ·exact⟨by omega,by omega,h⟩
theorem zvL {x:Mo} (h:zdl x=0):zbR x.label.data.toList=true/\x.decls.length<=100/\∀ i,i<x.decls.length->bdE x.label x.decls i=0:=by
 unfold zdl at h
 split at h
 ·rename_i hl
  refine⟨hl,?_⟩
  split at h
  ·exact absurd h (by assumption)
  split at h
  ·exact absurd h (by assumption)
  split at h
  ·cases h
  ·exact⟨by omega,zbn h⟩
 ·cases h
theorem zGI {x:Mo} (h:zdl x=0) (i:Nat) (hi:i<x.decls.length):zcu x.label x.decls[i]=0/\(0<i->∀ hj:i - 1<x.decls.length,x.decls[i - 1].id<x.decls[i].id):=by
 have h1:=(zvL h).2.2 i hi
 have e0:=zfp x.decls i hi
 unfold bdE at h1
 split at h1
 ·exact absurd h1 (by assumption)
 ·rename_i h2
  have h3:zcu x.label x.decls[i]=0:=by rw [<- e0];exact Classical.not_not.1 h2
  refine⟨h3,fun h0 hj=>?_⟩
  have e1:=zfp x.decls (i - 1) hj
  split at h1
  ·cases h1
  ·rename_i h4
   rw [e0,e1] at h4
   have:¬ x.decls[i].id<=x.decls[i - 1].id:=fun hle=>h4 ⟨h0,hle⟩
   omega
theorem zBP {x:Mo} (h:zdl x=0) {d:Dc} (hd:d ∈ x.decls):zcu x.label d=0:=by
 obtain⟨i,hi,rfl⟩:=List.mem_iff_getElem.1 hd
 exact(zGI h i hi).1
theorem ztF {l:ByteArray} {d:Dc} (h:zcu l d=0):1<=d.id/\d.id<=999999/\(d.kind=1\/d.kind=2\/d.kind=3)/\zaT d.names=0/\zal d.body=0/\zid (fun x=>decide (x.kind=4)) d.body=false/\(zgm d.body).length=0/\zid (ziB l) d.body=false:=by
 unfold zcu at h
 split at h
 ·cases h
 split at h
 ·cases h
 split at h
 ·exact absurd h (by assumption)
 split at h
 ·exact absurd h (by assumption)
 split at h
 ·cases h
 split at h
 ·cases h
 split at h
 ·cases h
 rename_i h1 h2 h3 h4 h5 h6 h7
 refine⟨by omega,by omega,?_,Classical.not_not.1 h3,Classical.not_not.1 h4,by simpa using h5,by omega,by simpa using h7⟩
 by_cases k1:d.kind=1
 ·exact .inl k1
 ·by_cases k2:d.kind=2
  ·exact .inr (.inl k2)
  ·by_cases k3:d.kind=3
   ·exact .inr (.inr k3)
   ·exact absurd ⟨k1,k2,k3⟩ h2
def zka (x y:Dc):Bool:=decide (x.id=y.id) && (decide (x.kind=y.kind) && ((x.pub == y.pub) && ((x.doubt == y.doubt) && (zdo x.names y.names && zfh x.body y.body))))
theorem ziv (x y:Dc):zka x y=true ↔ x=y:=by
 obtain⟨a1,a2,a3,a4,a5,a6⟩:=x
 obtain⟨b1,b2,b3,b4,b5,b6⟩:=y
 simp only [zka,Bool.and_eq_true,decide_eq_true_eq,beq_iff_eq,zfI,zjZ,Dc.mk.injEq]
 exact⟨fun⟨h1,h2,h3,h4,h5,h6⟩=>⟨h1,h2,h3,h5,h4,h6⟩,fun⟨h1,h2,h3,h5,h4,h6⟩=>⟨h1,h2,h3,h4,h5,h6⟩⟩
def zdc:List Dc->List Dc->Bool
 | [],[]=>true
 | x :: xs,y :: ys=>zka x y && zdc xs ys
 | _,_=>false
theorem zgq:∀ a b:List Dc,zdc a b=true ↔ a=b
 | [],[]=>by simp [zdc]
 | x :: xs,y :: ys=>by simp only [zdc,Bool.and_eq_true,ziv,zgq xs ys,List.cons.injEq]
 | [],y :: ys=>by simp [zdc]
 | x :: xs,[]=>by simp [zdc]
theorem zja {a b:List Dc} (h:a≠b):zdc a b=false:=by
 cases hc:zdc a b
 ·rfl
 ·exact absurd ((zgq a b).1 hc) h
theorem zrY (x y:Dc) (hb:nodesE x.body<=1048576) (hn:x.names.length<=1048576):Con Tryz.prog 237 [avD x,avD y] (.d (.raw (.bool (zka x y)))):=by
 have cs:=zhe x.names y.names hn
 have ce:=zCz x.body y.body (by omega)
 refine kO Tryz.func237 Tryz.ntmps237 fun A hA=>?_
 refine goC 400 ?_
 have he:zka x y=(decide (x.id=y.id) && (decide (x.kind=y.kind) && ((x.pub == y.pub) && ((x.doubt == y.doubt) && (zdo x.names y.names && zfh x.body y.body))))):=rfl
 cases g1:decide (x.id=y.id) with
 | false=>
  rw [g1] at he
  simp only [Bool.false_and] at he
  simp only [go_sem,hA,avD,g1,undef,he,Tryz.results237]
 | true=>
 cases g2:decide (x.kind=y.kind) with
 | false=>
  rw [g1,g2] at he
  simp only [Bool.false_and,Bool.true_and] at he
  simp only [go_sem,hA,avD,g1,g2,undef,he,Tryz.results237]
 | true=>
 cases g3:(x.pub == y.pub) with
 | false=>
  rw [g1,g2,g3] at he
  simp only [Bool.false_and,Bool.true_and] at he
  simp only [go_sem,hA,avD,g1,g2,g3,undef,he,Tryz.results237]
 | true=>
 cases g4:(x.doubt == y.doubt) with
 | false=>
  rw [g1,g2,g3,g4] at he
  simp only [Bool.false_and,Bool.true_and] at he
  simp only [go_sem,hA,avD,g1,g2,g3,g4,undef,he,Tryz.results237]
 | true=>
 rw [g1,g2,g3,g4] at he
 simp only [Bool.true_and] at he
 simp only [go_sem,hA,avD,g1,g2,g3,g4]
 refine zaU 300 cs rfl (by simp only [go_sem]) (by simp only [go_sem,hA]) ?_
 cases g5:zdo x.names y.names with
 | false=>
  rw [g5] at he
  simp only [Bool.false_and] at he
  simp only [go_sem,hA,undef,he,Tryz.results237]
 | true=>
  rw [g5] at he
  simp only [Bool.true_and] at he
  simp only [go_sem,hA]
  refine zaU 300 ce rfl (by simp only [go_sem,zaB]) (by simp only [go_sem,hA]) ?_
  cases g6:zfh x.body y.body <;> rw [g6] at he <;> simp only [go_sem,hA,he,Tryz.results237]
abbrev zvX (l m:List Dc) (q:Nat):St:=⟨[(0,.d (.sl (zbf l))),(1,.d (.sl (zbf m))),(5,.d (.raw (.int .i64 q)))],[],[]⟩
theorem zqd (l m:List Dc) (hl:l.length<=1048576) (hb:∀ d ∈ l,nodesE d.body<=1048576/\d.names.length<=1048576):Con Tryz.prog 167 [.d (.sl (zbf l)),.d (.sl (zbf m))] (.d (.raw (.bool (zdc l m)))):=by
 refine kO Tryz.func167 Tryz.ntmps167 fun A hA=>?_
 refine goC 300 ?_
 by_cases hlm:l.length=m.length
 ·have g0:(decide ¬ (l.length:Int)=(m.length:Int))=false:=decide_eq_false (by omega)
  simp only [go_sem,hA,zr,g0]
  refine zc [0,1,5] [] [] (fun x σ=>∃ q:Nat,q<=l.length/\x=l.length - q/\l.take q=m.take q/\σ=zvX l m q) l.length ⟨0,by omega,by omega,rfl,by simp only [go_sem,zvX]⟩ ?_
  rintro x σ ⟨q,hq,rfl,hf,rfl⟩
  refine goC 400 ?_
  by_cases hlt:q<l.length
  ·have g1:decide ((q:Int)<(l.length:Int))=true:=decide_eq_true (by omega)
   have hq2:q<m.length:=by omega
   obtain⟨hb1,hb2⟩:=hb l[q] (List.getElem_mem hlt)
   have cs:=zrY l[q] m[q] hb1 hb2
   obtain⟨d,hd⟩:∃ d,l[q]=d:=⟨_,rfl⟩
   obtain⟨e,he⟩:∃ e,m[q]=e:=⟨_,rfl⟩
   rw [hd,he] at cs
   simp only [go_sem,hA,zvX,zr,g1,Int.toNat_natCast,zbD l q hlt,zbD m q hq2,hd,he,zcb,mixed]
   refine⟨⟨by omega,by omega⟩,⟨by omega,by omega⟩,?_⟩
   refine zlG 300 cs rfl (by simp only [go_sem,avD]) (by simp only [go_sem,hA]) ?_
   cases hs:zka d e with
   | true=>
    have hde:=(ziv d e).1 hs
    simp only [go_sem,hA]
    exact⟨by show chk _ _ _=true;kernel_rfl,by unfold za;omega,l.length - (q+1),by omega,q+1,by omega,rfl,by rw [List.take_succ_eq_append_getElem hlt,List.take_succ_eq_append_getElem hq2,hf,hd,he,hde],rfl⟩
   | false=>
    have hne:zdc l m=false:=zja fun e'=>by
     subst e'
     rw [hd] at he
     rw [(ziv d e).2 he] at hs
     cases hs
    simp only [go_sem,hA,hne,Tryz.results167]
    exact by show chk _ _ _=true;kernel_rfl
  ·have g1:decide ((q:Int)<(l.length:Int))=false:=decide_eq_false (by omega)
   obtain rfl:q=l.length:=by omega
   have he:l=m:=by rw [List.take_length,List.take_of_length_le (by omega)] at hf;exact hf
   have hs:zdc l m=true:=(zgq _ _).2 he
   simp only [go_sem,hA,zvX,zr,g1,Tryz.results167,hs]
 ·have g0:(decide ¬ (l.length:Int)=(m.length:Int))=true:=decide_eq_true (by omega)
  have hne:zdc l m=false:=zja fun e=>hlm (by rw [e])
  simp only [go_sem,hA,zr,g0,Tryz.results167,hne]
def zed {α:Type} (p:α->α->Bool):List α->List α->Bool
 | [],[]=>true
 | x :: xs,y :: ys=>p x y && zed p xs ys
 | _,_=>false
theorem zec {α:Type} {p:α->α->Bool} (hp:∀ x y,p x y=true ↔ x=y):∀ a b:List α,zed p a b=true ↔ a=b
 | [],[]=>by simp [zed]
 | x :: xs,y :: ys=>by simp only [zed,Bool.and_eq_true,hp,zec hp xs ys,List.cons.injEq]
 | [],y :: ys=>by simp [zed]
 | x :: xs,[]=>by simp [zed]
theorem zdC {α:Type} {p:α->α->Bool} (hp:∀ x y,p x y=true ↔ x=y) {a b:List α} (h:a≠b):zed p a b=false:=by
 cases hc:zed p a b
 ·rfl
 ·exact absurd ((zec hp a b).1 hc) h
def znt (x y:Fl):Bool:=decide (x.path=y.path) && decide (x.data=y.data)
theorem zfZ (x y:Fl):znt x y=true ↔ x=y:=by
 obtain⟨a1,a2⟩:=x
 obtain⟨b1,b2⟩:=y
 simp [znt]
def zly (x y:Mo):Bool:=decide (x.label=y.label) && (zdo x.uses y.uses && zdc x.decls y.decls)
theorem zfY (x y:Mo):zly x y=true ↔ x=y:=by
 obtain⟨a1,a2,a3⟩:=x
 obtain⟨b1,b2,b3⟩:=y
 simp only [zly,Bool.and_eq_true,decide_eq_true_eq,zfI,zgq,Mo.mk.injEq]
def ztk (x y:Tc):Bool:=decide (x.path=y.path) && ((x.inB == y.inB) && ((x.inL == y.inL) && ((x.inR == y.inR) && (decide (x.base=y.base) && (decide (x.left=y.left) && decide (x.right=y.right))))))
theorem zfX (x y:Tc):ztk x y=true ↔ x=y:=by
 obtain⟨a1,a2,a3,a4,a5,a6,a7⟩:=x
 obtain⟨b1,b2,b3,b4,b5,b6,b7⟩:=y
 simp [ztk]
def eqG (x y:Mg):Bool:=zed zly x.ms y.ms && (zed znt x.fs y.fs && zed ztk x.ts y.ts)
theorem zwF (x y:Mg):eqG x y=true ↔ x=y:=by
 obtain⟨a1,a2,a3⟩:=x
 obtain⟨b1,b2,b3⟩:=y
 simp only [eqG,Bool.and_eq_true,zec zfY,zec zfZ,zec zfX,Mg.mk.injEq]
abbrev zzs (l m:List Fl) (q:Nat):St:=⟨[(0,.d (.sl (zap l))),(1,.d (.sl (zap m))),(5,.d (.raw (.int .i64 q)))],[],[]⟩
theorem zqc (l m:List Fl) (hl:l.length<=1048576):Con Tryz.prog 48 [.d (.sl (zap l)),.d (.sl (zap m))] (.d (.raw (.bool (zed znt l m)))):=by
 refine kO Tryz.func48 Tryz.ntmps48 fun A hA=>?_
 refine goC 300 ?_
 by_cases hlm:l.length=m.length
 ·have g0:(decide ¬ (l.length:Int)=(m.length:Int))=false:=decide_eq_false (by omega)
  simp only [go_sem,hA,zq,g0]
  refine zc [0,1,5] [] [] (fun x σ=>∃ q:Nat,q<=l.length/\x=l.length - q/\l.take q=m.take q/\σ=zzs l m q) l.length ⟨0,by omega,by omega,rfl,by simp only [go_sem,zzs]⟩ ?_
  rintro x σ ⟨q,hq,rfl,hf,rfl⟩
  refine goC 400 ?_
  by_cases hlt:q<l.length
  ·have g1:decide ((q:Int)<(l.length:Int))=true:=decide_eq_true (by omega)
   have hq2:q<m.length:=by omega
   obtain⟨d,hd⟩:∃ d,l[q]=d:=⟨_,rfl⟩
   obtain⟨e,he⟩:∃ e,m[q]=e:=⟨_,rfl⟩
   have hr:(decide (d.path=e.path) && decide (d.data=e.data))=znt d e:=rfl
   cases hs:znt d e with
   | true=>
    have hde:=(zfZ d e).1 hs
    rw [hs] at hr
    simp only [go_sem,hA,zzs,zq,g1,Int.toNat_natCast,zbT l q hlt,zbT m q hq2,hd,he,String.reduceEq,hr,Bool.not_true,mixed]
    exact⟨⟨by omega,by omega⟩,⟨by omega,by omega⟩,⟨by kernel_rfl,by kernel_rfl⟩,by show chk _ _ _=true;kernel_rfl,by unfold za;omega,l.length - (q+1),by omega,q+1,by omega,rfl,by rw [List.take_succ_eq_append_getElem hlt,List.take_succ_eq_append_getElem hq2,hf,hd,he,hde],rfl⟩
   | false=>
    rw [hs] at hr
    have hne:zed znt l m=false:=zdC zfZ fun e'=>by
     subst e'
     rw [hd] at he
     rw [(zfZ d e).2 he] at hs
     cases hs
    simp only [go_sem,hA,zzs,zq,g1,Int.toNat_natCast,zbT l q hlt,zbT m q hq2,hd,he,String.reduceEq,hr,Bool.not_false,hne,mixed,Tryz.results48]
    exact⟨⟨by omega,by omega⟩,⟨by omega,by omega⟩,⟨by kernel_rfl,by kernel_rfl⟩,by show chk _ _ _=true;kernel_rfl⟩
  ·have g1:decide ((q:Int)<(l.length:Int))=false:=decide_eq_false (by omega)
   obtain rfl:q=l.length:=by omega
   have he:l=m:=by rw [List.take_length,List.take_of_length_le (by omega)] at hf;exact hf
   have hs:zed znt l m=true:=(zec zfZ _ _).2 he
   simp only [go_sem,hA,zzs,zq,g1,Tryz.results48,hs]
 ·have g0:(decide ¬ (l.length:Int)=(m.length:Int))=true:=decide_eq_true (by omega)
  have hne:zed znt l m=false:=zdC zfZ fun e=>hlm (by rw [e])
  simp only [go_sem,hA,zq,g0,Tryz.results48,hne]
theorem zxk (x y:Mo) (hu:x.uses.length<=1048576) (hl:x.decls.length<=1048576) (hb:∀ d ∈ x.decls,nodesE d.body<=1048576/\d.names.length<=1048576):Con Tryz.prog 104 [avM x,avM y] (.d (.raw (.bool (zly x y)))):=by
 refine kO Tryz.func104 Tryz.ntmps104 fun A hA=>?_
 refine goC 400 ?_
 have hr:zly x y=(decide (x.label=y.label) && (zdo x.uses y.uses && zdc x.decls y.decls)):=rfl
 cases g:decide (x.label=y.label) with
 | false=>
  rw [g,Bool.false_and] at hr
  simp only [go_sem,hA,avM,g,undef,hr,Tryz.results104]
 | true=>
 rw [g,Bool.true_and] at hr
 simp only [go_sem,hA,avM,g]
 refine zaU 300 (zhe x.uses y.uses hu) rfl (by simp only [go_sem]) (by simp only [go_sem,hA]) ?_
 cases h:zdo x.uses y.uses with
 | false=>
  rw [h,Bool.false_and] at hr
  simp only [go_sem,hA,undef,hr,Tryz.results104]
 | true=>
  rw [h,Bool.true_and] at hr
  simp only [go_sem,hA]
  refine zaU 300 (zqd x.decls y.decls hl hb) rfl (by simp only [go_sem]) (by simp only [go_sem,hA]) ?_
  simp only [go_sem,hA,hr,Tryz.results104]
abbrev zCr (l m:List Mo) (q:Nat):St:=⟨[(0,.d (.sl (zbS l))),(1,.d (.sl (zbS m))),(5,.d (.raw (.int .i64 q)))],[],[]⟩
theorem zrX (l m:List Mo) (hl:l.length<=1048576) (hb:∀ x ∈ l,x.uses.length<=1048576/\x.decls.length<=1048576/\∀ d ∈ x.decls,nodesE d.body<=1048576/\d.names.length<=1048576):Con Tryz.prog 47 [.d (.sl (zbS l)),.d (.sl (zbS m))] (.d (.raw (.bool (zed zly l m)))):=by
 refine kO Tryz.func47 Tryz.ntmps47 fun A hA=>?_
 refine goC 300 ?_
 by_cases hlm:l.length=m.length
 ·have g0:(decide ¬ (l.length:Int)=(m.length:Int))=false:=decide_eq_false (by omega)
  simp only [go_sem,hA,zZ,g0]
  refine zc [0,1,5] [] [] (fun x σ=>∃ q:Nat,q<=l.length/\x=l.length - q/\l.take q=m.take q/\σ=zCr l m q) l.length ⟨0,by omega,by omega,rfl,by simp only [go_sem,zCr]⟩ ?_
  rintro x σ ⟨q,hq,rfl,hf,rfl⟩
  refine goC 400 ?_
  by_cases hlt:q<l.length
  ·have g1:decide ((q:Int)<(l.length:Int))=true:=decide_eq_true (by omega)
   have hq2:q<m.length:=by omega
   obtain⟨d,hd⟩:∃ d,l[q]=d:=⟨_,rfl⟩
   obtain⟨e,he⟩:∃ e,m[q]=e:=⟨_,rfl⟩
   have hx:=hb l[q] (List.getElem_mem hlt)
   have cs:=zxk l[q] m[q] hx.1 hx.2.1 hx.2.2
   rw [hd,he] at cs
   simp only [go_sem,hA,zCr,zZ,g1,Int.toNat_natCast,zgc l q hlt,zgc m q hq2,hd,he,zhu,mixed]
   refine⟨⟨by omega,by omega⟩,⟨by omega,by omega⟩,?_⟩
   refine zlG 300 cs rfl (by simp only [go_sem,avM]) (by simp only [go_sem,hA]) ?_
   cases hs:zly d e with
   | true=>
    have hde:=(zfY d e).1 hs
    simp only [go_sem,hA]
    exact⟨by show chk _ _ _=true;kernel_rfl,by unfold za;omega,l.length - (q+1),by omega,q+1,by omega,rfl,by rw [List.take_succ_eq_append_getElem hlt,List.take_succ_eq_append_getElem hq2,hf,hd,he,hde],rfl⟩
   | false=>
    have hne:zed zly l m=false:=zdC zfY fun e'=>by
     subst e'
     rw [hd] at he
     rw [(zfY d e).2 he] at hs
     cases hs
    simp only [go_sem,hA,hne,Tryz.results47]
    exact by show chk _ _ _=true;kernel_rfl
  ·have g1:decide ((q:Int)<(l.length:Int))=false:=decide_eq_false (by omega)
   obtain rfl:q=l.length:=by omega
   have he:l=m:=by rw [List.take_length,List.take_of_length_le (by omega)] at hf;exact hf
   have hs:zed zly l m=true:=(zec zfY _ _).2 he
   simp only [go_sem,hA,zCr,zZ,g1,Tryz.results47,hs]
 ·have g0:(decide ¬ (l.length:Int)=(m.length:Int))=true:=decide_eq_true (by omega)
  have hne:zed zly l m=false:=zdC zfY fun e=>hlm (by rw [e])
  simp only [go_sem,hA,zZ,g0,Tryz.results47,hne]
end
section
open Go Go.RowKit
variable {P:Program} {A:Base P} {σ:St} {g:Gh} {a:Act} {w:World}
theorem Ok.appendedW (hk:Ok A σ g a w) {r:Nat} {k:Tok} {rows rows2:List (List D)} {v x:Value} {t ty:TypeId} {z:Value} (hr:σ.tok r=some k) (hex:k.ex=none) (hv:Has g σ.tk w (.grow r rows) v) (hlen:rows.length=k.len) (hx:Reads w g.F (.sl rows2) x)
  (ht:P.underlying t=some (.slice k.ty)) (hz:zx P k.ty=some z) (hzs:z.cells.size=P.cellsOf k.ty) (h0:P.cellsOf k.ty≠0) (hst:P.cellsOf k.ty=k.st) (hby:P.bytesOf k.ty<=1024) (hfit:zam k.st rows2) (hfit0:∀ r ∈ rows,r.length=k.st) (hbd:rows.length+rows2.length<=137438953472) :
  ∃ g' v' w',(Builtin.append_ #[t,t] ty #[v,x]).run P w = .ok v' w'/\Ok A (σ.setTok r (some { k with len:=k.len+rows2.length })) g' a w'/\Has g' (σ.setTok r (some { k with len:=k.len+rows2.length })).tk w' (.grow r (rows++rows2)) v':=by
 obtain⟨hrd,htv⟩:=hv.grow_eq
 have hve:v=g.tv r:=(htv k.len (by simp [St.tk,hr])).2 hlen
 obtain⟨xs,hown⟩:=(hk.tok r k hr).own hex
 have htk:(σ.setTok r (some { k with len:=k.len+rows2.length })).tk r=some (k.len+rows2.length):=by simp [St.tk,St.tok_setTok]
 by_cases hm:rows2=[]
 ·subst hm
  obtain⟨q,c,hxe,_⟩:=hx.slice
  have hr0:=zef (P:=P) (w:=w) (t:=t) (ty:=ty) (v:=v) (x:=x) (n:=k.len) ht h0 (by
   rw [hve]
   rcases hown.2 with h1 | ⟨b,cap,cur,h1,_,_,h2,_⟩
   ·exact .inl h1
   ·exact .inr ⟨b,cap,h1,h2⟩) ⟨q,c,hxe⟩
  have hg:w.grownBy w (g.tv r).ownBlock:=⟨rfl,rfl,rfl,Nat.le_refl _,fun _ _ _=>rfl⟩
  obtain⟨h1,e1⟩:=hk.append (m:=0) (v':=g.tv r) (w':=w) (xs:=xs) hr hex (by simpa using hown) hg (Below.refl _ _) (fun _ _ _ _=>rfl) (.inl rfl) (fun _=>rfl)
  refine⟨_,v,w,hr0,h1,.grow r _ _ ?_ fun n' hn'=>?_⟩
  ·rw [List.append_nil];exact hrd.mono e1.hF e1.hw
  ·simp only [List.append_nil,List.length_nil,Nat.add_zero] at hn' ⊢
   simp only [St.tk,St.tok_setTok,if_pos,Option.map_some,Option.some.injEq] at hn'
   subst hn'
   exact⟨by omega,fun _=>by simp only [zp];exact hve⟩
 ·obtain⟨b,off,c,news,hxe,hnl,hnews,hone,hnr⟩:=hx.news (st:=k.st) (fun q hq=>(hfit q hq).1) (fun q hq=>(hfit q hq).2) hm
  obtain⟨i,hi,hzi⟩:∃ i,P.info? k.ty=some i/\i.zero=some z:=by
   unfold zx at hz
   cases hi:P.info? k.ty with
   | none=>simp [hi] at hz
   | some i=>exact⟨i,rfl,by simpa [hi] using hz⟩
  have hsz:i.size=k.st:=by rw [<- hst];simp [Program.cellsOf,hi]
  have hbi:i.bytes=P.bytesOf k.ty:=by simp [Program.bytesOf,hi]
  have hbb:(k.len+rows2.length) * P.bytesOf k.ty<=140737488355328:=by
   have h1:=Nat.mul_le_mul (show k.len+rows2.length<=137438953472 by omega) hby
   omega
  obtain⟨v',w',hr',hown',hg,_,hat⟩:=run_append_own_at (P:=P) w A.B t ty k.ty i z k.st (P.bytesOf k.ty) ht hi hzi hsz hbi (by rw [hzs,hst]) (by omega) (g.tv r) k.len xs hown ⟨b,off,none⟩ rows2.length c news hnl hnews hone (by unfold maxLen;omega) hbb hk.hB
  have hbel:Below A.B w w':=⟨hg.os,hg.tape,hg.output,hg.size,fun q hq=>hg.block q (by have:=hk.hB;omega) (fun e=>by have:=(hown.lt q e.symm).1;omega)⟩
  have hxs:xs.length=k.len * k.st:=hown.1
  have hpos2:0<rows2.length:=by
   cases rows2 with
   | nil=>exact absurd rfl hm
   | cons=>simp
  -- either the same block,or a new one,and the elder block is asL it was
  have hat2:v'.ownBlock=(g.tv r).ownBlock\/∀ q,q<w.heap.size->w'.heap[q]? = w.heap[q]?:=by
   rcases hown.2 with⟨h1,h2⟩ | ⟨gb,cap,cur,h1,_,h3,h4,_⟩
   ·have hr2:=run_append_nil (P:=P) (w:=w) t ty k.ty i z ht hi hzi ⟨b,off,none⟩ rows2.length c news (by rw [hnl,hsz]) hnews hpos2 (by omega) (by rw [hbi];have:=Nat.mul_le_mul (show rows2.length<=137438953472 by omega) hby;omega)
    rw [h1] at hr'
    rw [hr'] at hr2
    injection hr2 with _ hw2
    right
    intro q hq
    rw [hw2]
    exact Below.heap_alloc w.drew _ q hq
   ·by_cases hroom:k.len+rows2.length<=cap
    ·have hcs:k.len * i.size+news.length<=cur.size:=by
      rename_i _ h6
      obtain⟨_,h6,_⟩:=h6
      rw [hnl,hsz,h6,<- Nat.add_mul]
      exact Nat.mul_le_mul_right _ hroom
     have hr2:=run_append_room (P:=P) w t ty k.ty i ht hi gb k.len cap cur h3 ⟨b,off,none⟩ rows2.length c news (by rw [hnl,hsz]) hnews hone hroom hcs
     rw [h1] at hr'
     rw [hr'] at hr2
     injection hr2 with hv2 _
     left
     rw [hv2,h1];rfl
    ·have holds:=hown.cells (g:=gb) (by rw [h1];rfl)
     have hr2:=run_append_grow (P:=P) w t ty k.ty i z ht hi hzi ⟨gb,0,none⟩ k.len cap xs (by rw [hown.1,hsz]) holds ⟨b,off,none⟩ rows2.length c news (by rw [hnl,hsz]) hnews (by omega) (by omega) (growslice_fits_wide (by omega) (by
      rw [hbi]
      have:=Nat.mul_le_mul (show k.len+rows2.length+(k.len+rows2.length) / 4+192<=274877906944 by omega) hby
      omega))
     rw [h1] at hr'
     rw [hr'] at hr2
     injection hr2 with _ hw2
     right
     intro q hq
     rw [hw2]
     exact Below.heap_alloc w.drew _ q hq
  have hkeep:∀ q o,(g.tv r).ownBlock=some q->o<k.len * k.st->w'.cell? ⟨q,o,none⟩=w.cell? ⟨q,o,none⟩:=fun q o hq ho=>by
   rcases hat2 with h2 | h2
   ·have h1:=hown.cells (g:=q) hq o xs[o] (List.getElem?_eq_getElem (by omega))
    rw [Addr.add_lit,Nat.zero_add] at h1
    rw [h1]
    have h3:=hown'.cells (g:=q) (h2.trans hq) o xs[o] (by rw [List.getElem?_append_left (by omega)];exact List.getElem?_eq_getElem (by omega))
    rw [Addr.add_lit,Nat.zero_add] at h3
    exact h3
   ·exact zaZ (h2 q (hown.lt q hq).2)
  obtain⟨h1,e1⟩:=hk.append (m:=rows2.length) (v':=v') (w':=w') (xs:=xs++news) hr hex hown' hg hbel hkeep hat (fun h=>absurd (List.eq_nil_of_length_eq_zero h) hm)
  refine⟨_,v',w',by rw [hve,hxe];exact hr',h1,.grow r _ _ ?_ fun n' hn'=>?_⟩
  ·suffices key:∀ G:Nat->Nat->Prop,(∀ b o,zsW g.F v' ((k.len+rows2.length) * k.st) b o->G b o)->Reads w' G (.sl (rows++rows2)) v' from key _ (fun _ _ h=>h)
   intro G hG
   rcases hown'.2 with⟨_,h2⟩ | ⟨gb2,cap2,cur,hv2,_,_,hcap,_⟩
   ·omega
   ·have hll:(rows++rows2).length=k.len+rows2.length:=by rw [List.length_append,hlen]
    rw [hv2,<- hll]
    have hcell':=hown'.cells (g:=gb2) (by rw [hv2];rfl)
    refine Reads.mk (st:=k.st) (by omega) (fun i hi=>?_) fun i hi j hj=>?_
    ·rcases List.mem_append.1 (List.getElem_mem hi) with h3 | h3
     ·exact hfit0 _ h3
     ·exact(hfit _ h3).1
    ·have hF:zsW g.F v' ((k.len+rows2.length) * k.st) gb2 (0+i * k.st+j):=by
      right
      refine⟨by rw [hv2];rfl,?_⟩
      have hjs:j<k.st:=by
       rcases List.mem_append.1 (List.getElem_mem hi) with h3 | h3
       ·rw [hfit0 _ h3] at hj;exact hj
       ·rw [(hfit _ h3).1] at hj;exact hj
      have:=Nat.mul_le_mul_right k.st (show i+1<=k.len+rows2.length by omega)
      rw [Nat.add_mul] at this;omega
     refine⟨hG _ _ hF,?_⟩
     by_cases hlt:i<rows.length
     ·have hrow:(rows++rows2)[i]=rows[i]:=List.getElem_append_left hlt
      have hj1:j<rows[i].length:=by rw [<- hrow];exact hj
      have hel:(rows++rows2)[i][j]=rows[i][j]:=by congr 1
      have hst1:rows[i].length=k.st:=hfit0 _ (List.getElem_mem hlt)
      obtain⟨q,cc,hve2,_⟩:=hrd.slice
      have hrd2:=hrd
      rw [hve2] at hrd2
      obtain⟨b1,off1,rfl,hc1⟩:=hrd2.row i hlt hst1
      obtain⟨_,u,hu,hru⟩:=hc1 j hj1
      rcases hown.2 with⟨h5,h6⟩ | ⟨gb,cap,cur1,h5,_⟩
      ·omega
      ·rw [<- hve,hve2] at h5
       injection h5 with h7 _ _
       injection h7 with h8
       have hb1:b1=gb:=congrArg Addr.block h8
       have ho1:off1=0:=congrArg Addr.off h8
       subst hb1 ho1
       have hm1:i * k.st+j<xs.length:=by
        rw [hown.1]
        have:=Nat.mul_le_mul_right k.st (show i+1<=k.len by omega)
        rw [Nat.add_mul] at this;omega
       have h9:=hown.cells (g:=b1) (by rw [<- hve,hve2];rfl) (i * k.st+j) xs[i * k.st+j] (List.getElem?_eq_getElem hm1)
       rw [Addr.add_lit] at h9
       have hu':xs[i * k.st+j]=u:=by
        rw [Nat.add_assoc] at hu
        exact Option.some.inj (h9.symm.trans hu)
       have h10:=hcell' (i * k.st+j) u (by rw [List.getElem?_append_left hm1,List.getElem?_eq_getElem hm1,hu'])
       rw [Addr.add_lit] at h10
       rw [hel]
       exact⟨u,by rw [Nat.add_assoc];exact h10,hru.mono (fun b o hf=>hG b o (e1.hF b o hf)) e1.hw⟩
     ·have hi2:i - rows.length<rows2.length:=by rw [List.length_append] at hi;omega
      have hrow:(rows++rows2)[i]=rows2[i - rows.length]:=List.getElem_append_right (by omega)
      have hj1:j<rows2[i - rows.length].length:=by rw [<- hrow];exact hj
      have hel:(rows++rows2)[i][j]=rows2[i - rows.length][j]:=by congr 1
      obtain⟨u,hu,hru⟩:=hnr _ hi2 j hj1
      have hidx:i * k.st+j - xs.length=(i - rows.length) * k.st+j:=by
       rw [hown.1,<- hlen,Nat.sub_mul]
       have:=Nat.mul_le_mul_right k.st (show rows.length<=i by omega)
       omega
      have hge:xs.length<=i * k.st+j:=by
       rw [hown.1,<- hlen]
       have:=Nat.mul_le_mul_right k.st (show rows.length<=i by omega)
       omega
      have h10:=hcell' (i * k.st+j) u (by rw [List.getElem?_append_right hge,hidx];exact hu)
      rw [Addr.add_lit] at h10
      rw [hel]
      exact⟨u,by rw [Nat.add_assoc];exact h10,hru.mono (fun b o hf=>hG b o (e1.hF b o hf)) e1.hw⟩
  ·rw [htk] at hn'
   cases hn'
   exact⟨by rw [List.length_append];omega,fun _=>by simp only [zp]⟩
theorem zqs {o:Oper} {t:TypeId} {p q:Operand} {r:Nat} {rows rows2:List (List D)} {k:Tok} {z:Value} (ho:o.op = .call { callee:=.builtin .append,args:=#[p,q],argTypes:=#[t,t] }) (hp:σ.eval p = .grow r rows) (hq:(σ.eval q).rows=some rows2) (hr:σ.tok r=some k) (hex:k.ex=none)
  (ht:P.underlying t=some (.slice k.ty)) (hz:zx P k.ty=some z) (hzs:z.cells.size=P.cellsOf k.ty) (h0:P.cellsOf k.ty≠0) (hst:P.cellsOf k.ty=k.st) (hby:P.bytesOf k.ty<=1024) (hlen:rows.length=k.len) (hfit:zam k.st rows2) (hfit0:∀ r ∈ rows,r.length=k.st) (hbd:rows.length+rows2.length<=137438953472) :
  OpOk P A o σ (σ.setTok r (some { k with len:=k.len+rows2.length })) (.grow r (rows++rows2)):=by
 refine zaI fun g a w hk=>?_
 have hpe:=hk.eval p
 rw [hp] at hpe
 obtain⟨g',v',w',h1,h2,h3⟩:=hk.appendedW (P:=P) (t:=t) (ty:=o.type) hr hex hpe hlen ((hk.eval q).rows hq) ht hz hzs h0 hst hby hfit hfit0 hbd
 exact⟨g',v',w',by simp only [execOp,ho,resolve,invoke,builtin,List.map_toArray,List.map_cons,List.map_nil,Sem.run_bind,Sem.run_pure,Result.andThen_ok,h1],h2,h3⟩
end
section
open Go Go.RowKit
theorem zAs (v:Value) (n vb vc:Nat) (w w':World) (v':Value) (hv:(v = .slice none 0 0/\n=0)\/∃ b c,v = .slice (some ⟨b,0,none⟩) n c/\n<=c) (hrun:(Builtin.append_ #[23,23] 23 #[v,.slice (some ⟨vb,0,none⟩) 1 vc]).run Tryz.prog w = .ok v' w') :
  Calls Tryz.prog 97 #[v,.int .i64 n,.slice (some ⟨vb,0,none⟩) 1 vc] w fun e w''=>e = .returned v'/\w''=w':=by
 rcases hv with⟨rfl,rfl⟩ | ⟨b,c,rfl,hnc⟩
 ·go_enter Tryz.func97,Tryz.ntmps97
  go_wp2_with (at_builtin;refine Lib.wpList_append_run _ rfl _ _ _ _ rfl _ _ rfl rfl _ _ hrun ?_)
  go_ret
  exact⟨rfl,rfl⟩
 ·by_cases hcn:c=n
  ·subst hcn
   go_enter Tryz.func97,Tryz.ntmps97
   go_wp2_with (at_builtin;refine Lib.wpList_append_run _ rfl _ _ _ _ rfl _ _ rfl rfl _ _ hrun ?_)
   go_ret
   exact⟨rfl,rfl⟩
  ·go_enter Tryz.func97,Tryz.ntmps97
   go_wp2_with (at_builtin;refine Lib.wpList_append_run _ rfl _ _ _ _ rfl _ _ rfl rfl _ _ hrun ?_)
   go_ret
   exact⟨rfl,rfl⟩
theorem zEU (rows:List (List D)) (row:List D) (i:Nat) (hin:i=rows.length):zru Tryz.prog 97 2 62 rows row i:=by
 refine⟨⟨_,Tryz.func97,by decide +kernel,rfl⟩,fun F w v x xs hF hG hown hvF hr hrd hfit hfit2 hx hown2 hne hi hbig=>?_⟩
 obtain⟨ys,hown2⟩:=hown2
 obtain⟨hyl,⟨_,h0⟩ | ⟨vb,vc,cur2,rfl,_,hv,hvc,_,hvs,hyt⟩⟩:=hown2
 ·cases h0
 obtain⟨v',w',xs',h1,h2,h3,h4,h5,h6⟩:=zrS (P:=Tryz.prog) (u:=23) hown rfl hr hrd hx (by simp) Tryz.underlying23 (z:=.agg #[.string ⟨#[]⟩,.string ⟨#[]⟩]) (by kernel_rfl) rfl (by omega) (by kernel_rfl) (by decide +kernel) hfit2 (by simp;omega)
 have hir:zdh rows i row=rows++[row]:=by subst hin;simp [zdh]
 rw [hin]
 refine(zAs v rows.length vb vc w w' v' (hown.2.imp id fun⟨b,cap,cur,e,_,_,h,_⟩=>⟨b,cap,e,h⟩) h1).mono ?_
 rintro e w'' ⟨rfl,rfl⟩
 rw [<- hin,hir]
 exact⟨v',xs',rfl,by simpa using h2,h3,h4,h6⟩
theorem zBj (l:List Fl) (hl:l.length<=1048576):zEl Tryz.prog 98 [.d (.sl (zap l))] 2 62 (zap l):=by
 refine zDB Tryz.func98 rfl (by decide +kernel) (fun i hi=>(zeH l _ (List.getElem_mem hi)).1) rfl (by simp [Tryz.ntmps98]) (by simp [Tryz.ntmps98]) fun A hA=>?_
 rw [Tryz.ntmps98] at hA
 refine goC 15 ?_
 simp only [go_sem,hA]
 refine zCZ 3 (rows:=zap l) (by simp only [go_sem]) rfl Tryz.underlying23 (by simp only [go_sem]) (by simp only [go_sem]) (by simp only [go_sem,hA]) fun b hb=>?_
 simp only [go_sem]
 refine⟨fun h=>?_,fun h=>?_⟩
 ·refine goC 400 ?_
  simp only [go_sem,hA,Tryz.results98]
  exact⟨2,rfl,.inr ⟨rfl,hb h⟩⟩
 ·subst h
  refine goC 4 ?_
  simp only [go_sem]
  refine zEq 99 400 (by simp only [go_sem]) rfl (by simp only [go_sem];rfl) (by simp only [go_sem]) (by simp only [go_sem,hA]) ?_
  simp only [go_sem,hA,zq,Tryz.results98]
  exact⟨⟨zeH l,by omega⟩,2,rfl,.inl ⟨99,1,by simp only [go_sem,zq,Nat.zero_add],by simp only [go_sem] <;> rfl⟩⟩
end
end Go.Proofs.YtpnjjmcimjlfkaaGreatDoor
