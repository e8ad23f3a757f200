/- Texts of this proof, part 15: what the proof uses of them. -/
import Derived.Test.YtpnjjmcimjlfkaaGreatDoorRan
import Derived.WalkKit
import Derived.Test.YtpnjjmcimjlfkaaGreatDoorRai
set_option maxRecDepth 100000
set_option maxHeartbeats 64000000
namespace Go.Proofs.YtpnjjmcimjlfkaaGreatDoor
section
open Go Go.RowKit
structure Mo where
 label:ByteArray
 uses:List ByteArray
 decls:List Dc
def zhu (x:Mo):List D:=[.raw (.string x.label),.sl (zQ x.uses),.sl (zbf x.decls)]
def avM (x:Mo):AV:=.agg [.d (.raw (.string x.label)),.d (.sl (zQ x.uses)),.d (.sl (zbf x.decls))]
def bdE (label:ByteArray) (l:List Dc) (q:Nat):Int:=
 if ¬ zcu label (atD l q)=0 then zcu label (atD l q) else if 0<q/\(atD l q).id<=(atD l (q - 1)).id then 10 else 0
def zdl (x:Mo):Int:=
 if zbR x.label.data.toList then
  (if ¬ zhY zaS ⟨x.uses,[]⟩=0 then zhY zaS ⟨x.uses,[]⟩ else if ¬ zH (zgT x.label x.uses) x.uses.length=0 then zH (zgT x.label x.uses) x.uses.length
   else if 100<x.decls.length then 4 else zH (bdE x.label x.decls) x.decls.length) else 6
abbrev ztE (x:Mo) (q:Nat):St:=⟨[(1,.box 0 0),(22,.d (.raw (.int .i64 x.uses.length))),(23,.d (.raw (.int .i64 q)))],[(0,some (.cell 56 [.d (.raw (.string x.label)),.d (.sl (zQ x.uses)),.d (.sl (zbf x.decls))]))],[]⟩
abbrev zwP (x:Mo) (q:Nat):St:=⟨[(1,.box 0 0),(41,.d (.sl (zbf x.decls))),(42,.d (.raw (.int .i64 x.decls.length))),(43,.d (.raw (.int .i64 q)))],[(0,some (.cell 56 [.d (.raw (.string x.label)),.d (.sl (zQ x.uses)),.d (.sl (zbf x.decls))]))],[]⟩
theorem ziU {u:List ByteArray} (h:zhY zaS ⟨u,[]⟩=0):u.length<=20:=by
 unfold zhY at h
 split at h
 ·cases h
 ·simp only at *;omega
theorem zFm (x:Mo) (hb:∀ d ∈ x.decls,nodesE d.body<=524288):Con Tryz.prog 27 [avM x] (.d (.raw (.int .i64 (zdl x)))):=by
 refine kO Tryz.func27 Tryz.ntmps27 fun A hA=>?_
 refine goC 400 ?_
 simp only [go_sem,hA,avM]
 refine gC (zmd x.label) ?_
 cases hl:zbR x.label.data.toList with
 | false=>
  have hr:zdl x=6:=by unfold zdl;rw [hl];rfl
  simp only [go_sem,hA,hr,Tryz.results27]
 | true=>
 have hr0:zdl x=if ¬ zhY zaS ⟨x.uses,[]⟩=0 then zhY zaS ⟨x.uses,[]⟩ else if ¬ zH (zgT x.label x.uses) x.uses.length=0 then zH (zgT x.label x.uses) x.uses.length
   else if 100<x.decls.length then 4 else zH (bdE x.label x.decls) x.decls.length:=by unfold zdl;rw [hl];rfl
 simp only [go_sem,hA]
 refine gC (zxb ⟨x.uses,[]⟩ (fun d h=>by cases h)) ?_ rfl (by simp only [go_sem,avS];rfl)
 by_cases hs:zhY zaS ⟨x.uses,[]⟩=0
 case neg=>
  have g4:(decide ¬ zhY zaS ⟨x.uses,[]⟩=0)=true:=decide_eq_true hs
  rw [if_pos hs] at hr0
  simp only [go_sem,hA,g4,hr0,Tryz.results27]
 have g4:(decide ¬ zhY zaS ⟨x.uses,[]⟩=0)=false:=by simp [hs]
 have hul:=ziU hs
 rw [if_neg (by simp [hs])] at hr0
 simp only [go_sem,hA,g4,zg]
 refine zc [1,22,23] [0] [] (fun y σ=>∃ q:Nat,q<=x.uses.length/\y=x.uses.length - q/\zH (zgT x.label x.uses) q=0/\σ=ztE x q) x.uses.length ⟨0,by omega,by omega,rfl,by simp only [go_sem,ztE]⟩ ?_
 rintro y σ ⟨q,hq,rfl,hf,rfl⟩
 refine goC 400 ?_
 by_cases hlt:q<x.uses.length
 ·have k1:decide ((q:Int)<(x.uses.length:Int))=true:=decide_eq_true (by omega)
  simp only [go_sem,hA,ztE,k1]
  refine gC (zvF x.label x.uses q hlt (by omega)) ?_
  by_cases hu:zgT x.label x.uses q=0
  ·have g5:(decide ¬ zgT x.label x.uses q=0)=false:=by simp [hu]
   simp only [go_sem,hA,g5]
   exact⟨by unfold za;omega,x.uses.length - (q+1),by omega,q+1,by omega,rfl,zX hf hu,rfl⟩
  ·have g5:(decide ¬ zgT x.label x.uses q=0)=true:=decide_eq_true hu
   have hn:zH (zgT x.label x.uses) x.uses.length=zgT x.label x.uses q:=zS hf hlt hu
   rw [hn,if_pos hu] at hr0
   simp only [go_sem,hA,g5,hr0,Tryz.results27]
 have k1:decide ((q:Int)<(x.uses.length:Int))=false:=decide_eq_false (by omega)
 obtain rfl:q=x.uses.length:=by omega
 rw [if_neg (by simp [hf])] at hr0
 by_cases h2:100<x.decls.length
 ·have g2:decide ((100:Int)<(x.decls.length:Int))=true:=decide_eq_true (by omega)
  rw [if_pos h2] at hr0
  simp only [go_sem,hA,ztE,zr,k1,g2,hr0,Tryz.results27]
 have g2:decide ((100:Int)<(x.decls.length:Int))=false:=decide_eq_false (by omega)
 rw [if_neg h2] at hr0
 simp only [go_sem,hA,ztE,zr,k1,g2]
 refine zc [1,41,42,43] [0] [] (fun y σ=>∃ q:Nat,q<=x.decls.length/\y=x.decls.length - q/\zH (bdE x.label x.decls) q=0/\σ=zwP x q) x.decls.length ⟨0,by omega,by omega,rfl,by simp only [go_sem,zwP]⟩ ?_
 rintro y σ ⟨q,hq,rfl,hf2,rfl⟩
 refine goC 400 ?_
 by_cases hlt:q<x.decls.length
 case neg=>
  have k1:decide ((q:Int)<(x.decls.length:Int))=false:=decide_eq_false (by omega)
  obtain rfl:q=x.decls.length:=by omega
  rw [hf2] at hr0
  simp only [go_sem,hA,zwP,k1,hr0,Tryz.results27]
 have k1:decide ((q:Int)<(x.decls.length:Int))=true:=decide_eq_true (by omega)
 have hat:=zfp x.decls q hlt
 obtain⟨d,hd⟩:∃ d,x.decls[q]=d:=⟨_,rfl⟩
 rw [hd] at hat
 have hc:=zDO x.label d (hb d (by rw [<- hd];exact List.getElem_mem hlt)) zvE
 simp only [go_sem,hA,zwP,zr,k1,Int.toNat_natCast,zbD x.decls q hlt,hd,zcb]
 refine⟨⟨by omega,by omega⟩,?_⟩
 refine gC hc ?_ rfl (by simp only [go_sem,avD])
 have hbe:bdE x.label x.decls q=if ¬ zcu x.label d=0 then zcu x.label d else if 0<q/\d.id<=(atD x.decls (q - 1)).id then 10 else 0:=by unfold bdE;rw [hat]
 by_cases he:zcu x.label d=0
 case neg=>
  have g5:(decide ¬ zcu x.label d=0)=true:=decide_eq_true he
  rw [if_pos he] at hbe
  rw [zS hf2 hlt (by rw [hbe];exact he),hbe] at hr0
  simp only [go_sem,hA,g5,hr0,Tryz.results27]
 have g5:(decide ¬ zcu x.label d=0)=false:=by simp [he]
 rw [if_neg (by simp [he])] at hbe
 by_cases hq0:0<q
 ·have k2:decide ((0:Int)<(q:Int))=true:=decide_eq_true (by omega)
  have hq1:((q:Int) - 1).toNat=q - 1:=by omega
  have hat1:=zfp x.decls (q - 1) (by omega)
  have hin:za ((q:Int) - 1):=by unfold za;omega
  rw [hat1] at hbe
  by_cases hi:d.id<=x.decls[q - 1].id
  ·have k3:decide (d.id<=x.decls[q - 1].id)=true:=decide_eq_true hi
   rw [if_pos ⟨hq0,hi⟩] at hbe
   rw [zS hf2 hlt (by rw [hbe];decide),hbe] at hr0
   simp only [go_sem,hA,g5,k2,zr,hq1,zbD x.decls (q - 1) (by omega),zcb,k3,hr0,mixed,Tryz.results27]
   exact⟨hin,⟨by omega,by omega⟩,by show chk _ _ _=true;kernel_rfl⟩
  ·have k3:decide (d.id<=x.decls[q - 1].id)=false:=decide_eq_false hi
   rw [if_neg fun h=>hi h.2] at hbe
   simp only [go_sem,hA,g5,k2,zr,hq1,zbD x.decls (q - 1) (by omega),zcb,k3,mixed]
   exact⟨hin,⟨by omega,by omega⟩,by show chk _ _ _=true;kernel_rfl,by unfold za;omega,x.decls.length - (q+1),by omega,q+1,by omega,rfl,zX hf2 hbe,rfl⟩
 ·have k2:decide ((0:Int)<(q:Int))=false:=decide_eq_false (by omega)
  rw [if_neg fun h=>hq0 h.1] at hbe
  simp only [go_sem,hA,g5,k2,undef,mixed]
  exact⟨by show chk _ _ _=true;kernel_rfl,by unfold za;omega,x.decls.length - (q+1),by omega,q+1,by omega,rfl,zX hf2 hbe,rfl⟩
structure Fl where
 path:ByteArray
 data:ByteArray
def zib (x:Fl):List D:=[.raw (.string x.path),.raw (.string x.data)]
def avF (x:Fl):AV:=.agg [.d (.raw (.string x.path)),.d (.raw (.string x.data))]
def zap (l:List Fl):List (List D):=l.map zib
theorem zq (l:List Fl):(zap l).length=l.length:=by simp [zap]
theorem zbT (l:List Fl) (i:Nat) (h:i<l.length):(zap l).getD i []=[.raw (.string l[i].path),.raw (.string l[i].data)]:=by
 simp [zap,List.getD_eq_getElem?_getD,h,zib]
theorem zeH (l:List Fl):zam 2 (zap l):=by
 intro r hr
 obtain⟨x,_,rfl⟩:=List.mem_map.1 hr
 refine⟨rfl,fun y hy=>?_⟩
 simp only [zib,List.mem_cons,List.not_mem_nil,or_false] at hy
 rcases hy with rfl | rfl <;> rfl
theorem ztu (s:ByteArray) (hs:s.size<=9223372036854775807):Con Tryz.prog 75 [.d (.raw (.string s)),.d (.raw (.string ⟨#[46,112,107]⟩))] (.tup [.d (.raw (.string ⟨(Lib.trimSuffix s.data.toList [46,112,107]).toArray⟩)),.d (.raw (.bool (Lib.hasSuffix s.data.toList [46,112,107])))]):=
 con_raw (vs:=[.string s,.string ⟨#[46,112,107]⟩]) ⟨_,Tryz.func75,by decide +kernel,rfl⟩ rfl (fun _ _=>.tup [_,_] [_,_] rfl fun i hi _=>by
  match i,hi with
  | 0,_=>exact .d (.raw _)
  | 1,_=>exact .d (.raw _)) fun w=>(Tryz.strings_CutSuffix s ⟨#[46,112,107]⟩ w hs).mono fun e w' h=>⟨h.1,h.2 ▸ Below.refl _ _⟩
def zgQ (s:ByteArray):Bool:=Lib.hasSuffix s.data.toList [46,112,107] && decide (¬ zcc ⟨(Lib.trimSuffix s.data.toList [46,112,107]).toArray⟩=⟨#[]⟩)
theorem znf (s:ByteArray) (hs:s.size<=9223372036854775807):Con Tryz.prog 31 [.d (.raw (.string s))] (.d (.raw (.bool (zgQ s)))):=by
 refine kO Tryz.func31 Tryz.ntmps31 fun A hA=>?_
 refine goC 400 ?_
 simp only [go_sem,hA]
 refine gC (ztu s hs) ?_
 cases hh:Lib.hasSuffix s.data.toList [46,112,107] with
 | false=>
  have hr:zgQ s=false:=by unfold zgQ;rw [hh];rfl
  simp only [go_sem,hA,hr,undef,Tryz.results31]
 | true=>
  have hr:zgQ s=decide (¬ zcc ⟨(Lib.trimSuffix s.data.toList [46,112,107]).toArray⟩=⟨#[]⟩):=by unfold zgQ;rw [hh];rfl
  simp only [go_sem,hA]
  refine gC (zrs ⟨(Lib.trimSuffix s.data.toList [46,112,107]).toArray⟩) ?_
  simp only [go_sem,hA,hr,Tryz.results31]
def zvD (a b:ByteArray):Int:=Lib.compareBytes a.data.toList b.data.toList
theorem zyC (a b:ByteArray):Con Tryz.prog 81 [.d (.raw (.string a)),.d (.raw (.string b))] (.d (.raw (.int .i64 (zvD a b)))):=
 con_raw (vs:=[.string a,.string b]) ⟨_,Tryz.func81,by decide +kernel,rfl⟩ rfl (fun _ _=>.d (.raw _)) fun w=>(Tryz.strings_Compare a b w).mono fun e w' h=>⟨h.1,h.2 ▸ Below.refl _ _⟩
theorem zpn (x:Fl) (s:ByteArray):Con Tryz.prog 80 [avF x,.d (.raw (.string s))] (.d (.raw (.int .i64 (zvD x.path s)))):=by
 refine kO Tryz.func80 Tryz.ntmps80 fun A hA=>?_
 refine goC 400 ?_
 simp only [go_sem,hA,avF]
 refine gC (zyC x.path s) ?_
 simp only [go_sem,hA,Tryz.results80]
theorem zcJ {α:Type} {p:α->Bool} {l:List α} {q:Nat} (hq:q<l.length) (h:(l.take q).any p=false) (h1:p l[q]=false):(l.take (q+1)).any p=false:=by
 rw [List.take_succ_eq_append_getElem hq,List.any_append,h]
 simp [h1]
theorem zgK {α:Type} {p:α->Bool} {l:List α} {q:Nat} (hq:q<l.length) (h1:p l[q]=true):l.any p=true:=List.any_eq_true.2 ⟨l[q],List.getElem_mem hq,h1⟩
structure Tc where
 path:ByteArray
 inB:Bool
 inL:Bool
 inR:Bool
 base:ByteArray
 left:ByteArray
 right:ByteArray
def zea (x:Tc):List D:=[.raw (.string x.path),.raw (.bool x.inB),.raw (.bool x.inL),.raw (.bool x.inR),.raw (.string x.base),.raw (.string x.left),.raw (.string x.right)]
def avC (x:Tc):AV:=.agg [.d (.raw (.string x.path)),.d (.raw (.bool x.inB)),.d (.raw (.bool x.inL)),.d (.raw (.bool x.inR)),.d (.raw (.string x.base)),.d (.raw (.string x.left)),.d (.raw (.string x.right))]
def zbc (l:List Tc):List (List D):=l.map zea
theorem zD (l:List Tc):(zbc l).length=l.length:=by simp [zbc]
theorem zcs (l:List Tc) (i:Nat) (h:i<l.length):(zbc l).getD i []=zea l[i]:=by simp [zbc,List.getD_eq_getElem?_getD,h]
theorem zgd (l:List Tc):zam 7 (zbc l):=by
 intro r hr
 obtain⟨x,_,rfl⟩:=List.mem_map.1 hr
 refine⟨rfl,fun y hy=>?_⟩
 simp only [zea,List.mem_cons,List.not_mem_nil,or_false] at hy
 rcases hy with rfl | rfl | rfl | rfl | rfl | rfl | rfl <;> rfl
def zbS (l:List Mo):List (List D):=l.map zhu
theorem zZ (l:List Mo):(zbS l).length=l.length:=by simp [zbS]
theorem zgc (l:List Mo) (i:Nat) (h:i<l.length):(zbS l).getD i []=zhu l[i]:=by simp [zbS,List.getD_eq_getElem?_getD,h]
theorem zpq (l:List Mo):zam 3 (zbS l):=by
 intro r hr
 obtain⟨x,_,rfl⟩:=List.mem_map.1 hr
 refine⟨rfl,fun y hy=>?_⟩
 simp only [zhu,List.mem_cons,List.not_mem_nil,or_false] at hy
 rcases hy with rfl | rfl | rfl <;> rfl
def ixF {α:Type} (p:α->Bool) (l:List α):Int:=if l.any p then (l.findIdx p:Int) else -1
theorem zwu {α:Type} {p:α->Bool} {l:List α} {q:Nat} (hq:q<l.length) (hf:(l.take q).any p=false) (h:p l[q]=true):ixF p l=q:=by
 unfold ixF
 rw [if_pos (List.any_eq_true.2 ⟨_,List.getElem_mem hq,h⟩),(List.findIdx_eq hq).2 ⟨h,fun j hj=>?_⟩]
 rw [List.any_eq_false] at hf
 have:=hf l[j] (List.mem_take_iff_getElem.2 ⟨j,by omega,rfl⟩)
 simpa using this
theorem zvq {α:Type} (p:α->Bool) (l:List α):decide (0<=ixF p l)=l.any p:=by
 unfold ixF
 cases l.any p with
 | true=>exact decide_eq_true (by simp only [if_true];omega)
 | false=>rfl
abbrev zjv (f:FuncId) (cs:List AV) (l:List Fl) (q:Nat):St:=⟨[(0,.d (.sl (zap l))),(1,.fn f cs),(7,.d (.raw (.int .i64 l.length))),(8,.d (.raw (.int .i64 q)))],[],[]⟩
theorem zAn (l:List Fl) (f:FuncId) (cs:List AV) (p:Fl->Bool) (hcs:zN cs=true) (hcl:zU cs=some cs) (hl:l.length<=1048576) (hp:∀ x ∈ l,Con Tryz.prog f (avF x :: cs) (.d (.raw (.bool (p x))))):Con Tryz.prog 74 [.d (.sl (zap l)),.fn f cs] (.d (.raw (.int .i64 (ixF p l)))):=by
 refine zei Tryz.func74 rfl (by decide +kernel) rfl (by simp only [go_sem,hcs]) (by simp [Tryz.ntmps74]) fun A hA=>?_
 rw [Tryz.ntmps74] at hA
 refine goC 400 ?_
 simp only [go_sem,hA,zq]
 refine zc [0,1,7,8] [] [] (fun y σ=>∃ q:Nat,q<=l.length/\y=l.length - q/\(l.take q).any p=false/\σ=zjv f cs l q) l.length ⟨0,by omega,by omega,rfl,by simp only [go_sem,zjv]⟩ ?_
 rintro y σ ⟨q,hq,rfl,hf,rfl⟩
 refine goC 400 ?_
 by_cases hlt:q<l.length
 ·have k1:decide ((q:Int)<(l.length:Int))=true:=decide_eq_true (by omega)
  have hc:=hp l[q] (List.getElem_mem hlt)
  simp only [go_sem,hA,zjv,zq,k1,Int.toNat_natCast,zbT l q hlt]
  refine⟨⟨by omega,by omega⟩,?_⟩
  refine zeu 400 (cs:=cs) hc rfl rfl (by simp only [go_sem]) (by simp only [go_sem,hcl,avF]) (by simp only [go_sem,hA]) ?_
  cases hx:p l[q] with
  | true=>simp only [go_sem,hA,zwu hlt hf hx,Tryz.results74]
  | false=>
   simp only [go_sem,hA]
   exact⟨by unfold za;omega,l.length - (q+1),by omega,q+1,by omega,rfl,zcJ hlt hf hx,rfl⟩
 ·have k1:decide ((q:Int)<(l.length:Int))=false:=decide_eq_false (by omega)
  obtain rfl:q=l.length:=by omega
  rw [List.take_length] at hf
  have hr:ixF p l = -1:=by unfold ixF;rw [hf];rfl
  simp only [go_sem,hA,zjv,k1,hr,Tryz.results74]
theorem zsO (l:List Fl) (f:FuncId) (cs:List AV) (p:Fl->Bool) (hcs:zN cs=true) (hcl:zU cs=some cs) (hl:l.length<=1048576) (hp:∀ x ∈ l,Con Tryz.prog f (avF x :: cs) (.d (.raw (.bool (p x))))):Con Tryz.prog 29 [.d (.sl (zap l)),.fn f cs] (.d (.raw (.bool (l.any p)))):=by
 refine zei Tryz.func29 rfl (by decide +kernel) rfl (by simp only [go_sem,hcs]) (by simp [Tryz.ntmps29]) fun A hA=>?_
 rw [Tryz.ntmps29] at hA
 refine goC 400 ?_
 simp only [go_sem,hA]
 refine gC (zAn l f cs p hcs hcl hl hp) ?_ rfl (by simp only [go_sem,hcl])
 simp only [go_sem,hA,zvq,Tryz.results29]
abbrev zju (f:FuncId) (cs:List AV) (l:List Tc) (q:Nat):St:=⟨[(0,.d (.sl (zbc l))),(1,.fn f cs),(7,.d (.raw (.int .i64 l.length))),(8,.d (.raw (.int .i64 q)))],[],[]⟩
theorem zAm (l:List Tc) (f:FuncId) (cs:List AV) (p:Tc->Bool) (hcs:zN cs=true) (hcl:zU cs=some cs) (hl:l.length<=1048576) (hp:∀ x ∈ l,Con Tryz.prog f (avC x :: cs) (.d (.raw (.bool (p x))))):Con Tryz.prog 94 [.d (.sl (zbc l)),.fn f cs] (.d (.raw (.int .i64 (ixF p l)))):=by
 refine zei Tryz.func94 rfl (by decide +kernel) rfl (by simp only [go_sem,hcs]) (by simp [Tryz.ntmps94]) fun A hA=>?_
 rw [Tryz.ntmps94] at hA
 refine goC 400 ?_
 simp only [go_sem,hA,zD]
 refine zc [0,1,7,8] [] [] (fun y σ=>∃ q:Nat,q<=l.length/\y=l.length - q/\(l.take q).any p=false/\σ=zju f cs l q) l.length ⟨0,by omega,by omega,rfl,by simp only [go_sem,zju]⟩ ?_
 rintro y σ ⟨q,hq,rfl,hf,rfl⟩
 refine goC 400 ?_
 by_cases hlt:q<l.length
 ·have k1:decide ((q:Int)<(l.length:Int))=true:=decide_eq_true (by omega)
  have hc:=hp l[q] (List.getElem_mem hlt)
  simp only [go_sem,hA,zju,zD,k1,Int.toNat_natCast,zcs l q hlt,zea]
  refine⟨⟨by omega,by omega⟩,?_⟩
  refine zeu 400 (cs:=cs) hc rfl rfl (by simp only [go_sem]) (by simp only [go_sem,hcl,avC]) (by simp only [go_sem,hA]) ?_
  cases hx:p l[q] with
  | true=>simp only [go_sem,hA,zwu hlt hf hx,Tryz.results94]
  | false=>
   simp only [go_sem,hA]
   exact⟨by unfold za;omega,l.length - (q+1),by omega,q+1,by omega,rfl,zcJ hlt hf hx,rfl⟩
 ·have k1:decide ((q:Int)<(l.length:Int))=false:=decide_eq_false (by omega)
  obtain rfl:q=l.length:=by omega
  rw [List.take_length] at hf
  have hr:ixF p l = -1:=by unfold ixF;rw [hf];rfl
  simp only [go_sem,hA,zju,k1,hr,Tryz.results94]
def bsR (lt:Nat->Bool):Nat->Nat->Nat->Nat
 | 0,i,_=>i
 | k+1,i,j=>if i<j then (if lt ((i+j) / 2) then bsR lt k ((i+j) / 2+1) j else bsR lt k i ((i+j) / 2)) else i
theorem zrl (lt:Nat->Bool):∀ k i j,i<=j->i<=bsR lt k i j/\bsR lt k i j<=j
 | 0,i,j,h=>⟨Nat.le_refl _,h⟩
 | k+1,i,j,h=>by
  rw [bsR]
  split
  ·split
   ·have:=zrl lt k ((i+j) / 2+1) j (by omega);omega
   ·have:=zrl lt k i ((i+j) / 2) (by omega);omega
  ·omega
theorem zjT (lt:Nat->Bool) (k:Nat) {i j:Nat} (h:¬ i<j):bsR lt k i j=i:=by
 cases k with
 | zero=>rfl
 | succ k=>rw [bsR,if_neg h]
theorem zgh (lt:Nat->Bool):∀ k k' i j,j - i<=k->j - i<=k'->bsR lt k i j=bsR lt k' i j
 | 0,k',i,j,h,_=>by rw [zjT lt 0 (by omega),zjT lt k' (by omega)]
 | k+1,0,i,j,_,h=>by rw [zjT lt 0 (by omega),zjT lt (k+1) (by omega)]
 | k+1,k'+1,i,j,h,h'=>by
  rw [bsR,bsR]
  by_cases hlt:i<j
  ·rw [if_pos hlt,if_pos hlt,zgh lt k k' ((i+j) / 2+1) j (by omega) (by omega),zgh lt k k' i ((i+j) / 2) (by omega) (by omega)]
  ·rw [if_neg hlt,if_neg hlt]
theorem ztC (lt:Nat->Bool) {i j R:Nat} (hij:i<j) (hR:∀ k,j - i<=k->bsR lt k i j=R):if lt ((i+j) / 2) then ∀ k,j - ((i+j) / 2+1)<=k->bsR lt k ((i+j) / 2+1) j=R else ∀ k,(i+j) / 2 - i<=k->bsR lt k i ((i+j) / 2)=R:=by
 have h:=hR (j - i+1) (by omega)
 rw [bsR,if_pos hij] at h
 split
 ·rename_i hl
  rw [if_pos hl] at h
  exact fun k hk=>(zgh lt k (j - i) _ _ hk (by omega)).trans h
 ·rename_i hl
  rw [if_neg hl] at h
  exact fun k hk=>(zgh lt k (j - i) _ _ hk (by omega)).trans h
def zkD (l:List Fl) (s:ByteArray) (h:Nat):Bool:=match l[h]? with
 | some x=>decide (zvD x.path s<0)
 | none=>false
def zeP (l:List Fl) (s:ByteArray):Nat:=bsR (zkD l s) l.length 0 l.length
def znj (l:List Fl) (s:ByteArray):Bool:=match l[zeP l s]? with
 | some x=>decide (zvD x.path s=0)
 | none=>false
abbrev zBM (l:List Fl) (s:ByteArray) (i j:Nat):St:=⟨[(0,.d (.sl (zap l))),(1,.d (.raw (.string s))),(2,.fn 80 []),(8,.d (.raw (.int .i64 l.length))),(9,.d (.raw (.int .i64 i))),(10,.d (.raw (.int .i64 j)))],[],[]⟩
theorem zsU (i j:Nat) (h:i+j<4611686018427387904):IntKind.i64.wrap ((IntKind.u64.wrap ((i:Int)+(j:Int))).fdiv (2 ^ min 1 64))=(((i+j) / 2:Nat):Int):=by
 have h1:IntKind.u64.wrap ((i:Int)+(j:Int))=((i+j:Nat):Int):=by
  rw [IntKind.wrap_u64];omega
 have h2:((2:Int) ^ min 1 64)=2:=rfl
 rw [h1,h2,zff (by unfold za;rw [Int.fdiv_eq_ediv_of_nonneg _ (by decide)];omega),Int.fdiv_eq_ediv_of_nonneg _ (by decide)]
 omega
theorem zyR (l:List Fl) (s:ByteArray) (hl:l.length<=1048576):Con Tryz.prog 79 [.d (.sl (zap l)),.d (.raw (.string s)),.fn 80 []] (.tup [.d (.raw (.int .i64 (zeP l s))),.d (.raw (.bool (znj l s)))]):=by
 refine kO Tryz.func79 Tryz.ntmps79 fun A hA=>?_
 refine goC 400 ?_
 simp only [go_sem,hA,zq]
 refine zc [0,1,2,8,9,10] [] [] (fun y σ=>∃ i j:Nat,i<=j/\j<=l.length/\y=j - i/\(∀ k,j - i<=k->bsR (zkD l s) k i j=zeP l s)/\σ=zBM l s i j) l.length ⟨0,l.length,by omega,by omega,by omega,fun k hk=>zgh _ _ _ _ _ hk (by omega),by simp only [go_sem,zBM]⟩ ?_
 rintro y σ ⟨i,j,hij,hj,rfl,hR,rfl⟩
 refine goC 400 ?_
 by_cases hlt:i<j
 ·have k1:decide ((i:Int)<(j:Int))=true:=decide_eq_true (by omega)
  have hh:=zsU i j (by omega)
  have hm:(i+j) / 2<l.length:=by omega
  have hb:=ztC (zkD l s) hlt hR
  have hfl:zkD l s ((i+j) / 2)=decide (zvD l[(i+j) / 2].path s<0):=by unfold zkD;rw [List.getElem?_eq_getElem hm]
  rw [hfl] at hb
  simp only [go_sem,hA,zBM,k1,zq,hh,Int.toNat_natCast,zbT l _ hm]
  refine⟨by unfold za;omega,⟨by omega,by omega⟩,?_⟩
  refine zeu 400 (cs:=[]) (zpn l[(i+j) / 2] s) rfl rfl (by simp only [go_sem]) (by simp only [go_sem,avF]) (by simp only [go_sem,hA]) ?_
  cases hx:decide (zvD l[(i+j) / 2].path s<0) with
  | true=>
   rw [hx,if_pos rfl] at hb
   simp only [go_sem,hA,hx]
   exact⟨by unfold za;omega,j - ((i+j) / 2+1),by omega,(i+j) / 2+1,j,by omega,hj,rfl,hb,rfl⟩
  | false=>
   rw [hx,if_neg (by simp)] at hb
   simp only [go_sem,hA,hx]
   exact⟨(i+j) / 2 - i,by omega,i,(i+j) / 2,by omega,by omega,rfl,hb,rfl⟩
 ·have k1:decide ((i:Int)<(j:Int))=false:=decide_eq_false (by omega)
  have hi:zeP l s=i:=by rw [<- hR 0 (by omega)];rfl
  by_cases hil:i<l.length
  ·have k2:decide ((i:Int)<(l.length:Int))=true:=decide_eq_true (by omega)
   have hf:znj l s=decide (zvD l[i].path s=0):=by unfold znj;rw [hi,List.getElem?_eq_getElem hil]
   simp only [go_sem,hA,zBM,k1,k2,zq,Int.toNat_natCast,zbT l i hil]
   refine⟨⟨by omega,by omega⟩,?_⟩
   refine zeu 400 (cs:=[]) (zpn l[i] s) rfl rfl (by simp only [go_sem]) (by simp only [go_sem,avF]) (by simp only [go_sem,hA]) ?_
   simp only [go_sem,hA,hi,hf,Tryz.results79]
  ·have k2:decide ((i:Int)<(l.length:Int))=false:=decide_eq_false (by omega)
   have hf:znj l s=false:=by unfold znj;rw [hi,List.getElem?_eq_none (by omega)]
   simp only [go_sem,hA,zBM,k1,k2,hi,hf,undef,Tryz.results79]
theorem zvw (l:List Fl) (s:ByteArray) (hl:l.length<=1048576):Con Tryz.prog 33 [.d (.sl (zap l)),.d (.raw (.string s))] (.tup [.d (.raw (.int .i64 (zeP l s))),.d (.raw (.bool (znj l s)))]):=by
 refine kO Tryz.func33 Tryz.ntmps33 fun A hA=>?_
 refine goC 400 ?_
 simp only [go_sem,hA]
 refine gC (zyR l s hl) ?_
 simp only [go_sem,hA,Tryz.results33]
def nmC (c:Int):Bool:=(decide (97<=c) && decide (c<=122)) || ((decide (65<=c) && decide (c<=90)) || ((decide (48<=c) && decide (c<=57)) || (decide (c=46) || (decide (c=95) || decide (c=45)))))
theorem zdB (a b:Bool):(a=true/\b=true)\/a=false\/(a=true/\b=false):=by cases a <;> cases b <;> simp
theorem zvb (c:Int):Con Tryz.prog 221 [.d (.raw (.int .u8 c))] (.d (.raw (.bool (nmC c)))):=by
 refine kO Tryz.func221 Tryz.ntmps221 fun A hA=>?_
 refine goC 400 ?_
 unfold nmC
 rcases zdB (decide (97<=c)) (decide (c<=122)) with⟨h1,h2⟩ | h1 | ⟨h1,h2⟩
 case' inl=>simp only [go_sem,hA,h1,h2,undef,Tryz.results221]
 case' inr.inl=>
  rcases zdB (decide (65<=c)) (decide (c<=90)) with⟨h3,h4⟩ | h3 | ⟨h3,h4⟩
  case' inl=>simp only [go_sem,hA,h1,h3,h4,undef,Bool.false_and,Tryz.results221]
 case' inr.inr=>
  rcases zdB (decide (65<=c)) (decide (c<=90)) with⟨h3,h4⟩ | h3 | ⟨h3,h4⟩
  case' inl=>simp only [go_sem,hA,h1,h2,h3,h4,undef,Bool.false_and,Tryz.results221]
 all_goals
  rcases zdB (decide (48<=c)) (decide (c<=57)) with⟨h5,h6⟩ | h5 | ⟨h5,h6⟩ <;> cases h7:decide (c=46) <;> cases h8:decide (c=95)
 all_goals
  simp only [go_sem, *,undef,Bool.false_and,Tryz.results221]
def zaa (l:List UInt8):Bool:=decide (1<=l.length) && decide (l.length<=24) && decide (¬ l=[46]) && decide (¬ l=[46,46]) && l.all fun c=>nmC c.toNat
abbrev zCl (s:ByteArray) (q:Nat):St:=⟨[(0,.d (.raw (.string s))),(21,.d (.raw (.int .i64 s.size))),(22,.d (.raw (.int .i64 q)))],[],[]⟩
theorem zpT (s:ByteArray) (l:List UInt8):(s=⟨l.toArray⟩) ↔ s.data.toList=l:=by
 constructor
 ·rintro rfl;rfl
 ·intro h;cases s;subst h;simp
theorem zpN (s:ByteArray):Con Tryz.prog 142 [.d (.raw (.string s))] (.d (.raw (.bool (zaa s.data.toList)))):=by
 refine kO Tryz.func142 Tryz.ntmps142 fun A hA=>?_
 have hsl:s.data.toList.length=s.size:=by simp
 refine goC 400 ?_
 by_cases h1:s.size<1
 ·have g1:decide ((s.size:Int)<1)=true:=decide_eq_true (by omega)
  have hr:zaa s.data.toList=false:=by unfold zaa;rw [hsl,decide_eq_false (by omega:¬ 1<=s.size)];rfl
  simp only [go_sem,hA,g1,hr,undef,Tryz.results142]
 have g1:decide ((s.size:Int)<1)=false:=decide_eq_false (by omega)
 by_cases h2:24<s.size
 ·have g2:decide ((24:Int)<(s.size:Int))=true:=decide_eq_true (by omega)
  have hr:zaa s.data.toList=false:=by unfold zaa;rw [hsl,decide_eq_false (by omega:¬ s.size<=24),Bool.and_false];rfl
  simp only [go_sem,hA,g1,g2,hr,undef,Tryz.results142]
 have g2:decide ((24:Int)<(s.size:Int))=false:=decide_eq_false (by omega)
 have e3:(s=⟨#[46]⟩) ↔ s.data.toList=[46]:=zpT s [46]
 have e4:(s=⟨#[46,46]⟩) ↔ s.data.toList=[46,46]:=zpT s [46,46]
 by_cases h3:s=⟨#[46]⟩
 ·have g3:decide (s=⟨#[46]⟩)=true:=decide_eq_true h3
  have hr:zaa s.data.toList=false:=by rw [e3.1 h3];decide
  simp only [go_sem,hA,g1,g2,g3,hr,undef,Tryz.results142]
 have g3:decide (s=⟨#[46]⟩)=false:=decide_eq_false h3
 by_cases h4:s=⟨#[46,46]⟩
 ·have g4:decide (s=⟨#[46,46]⟩)=true:=decide_eq_true h4
  have hr:zaa s.data.toList=false:=by rw [e4.1 h4];decide
  simp only [go_sem,hA,g1,g2,g3,g4,hr,Tryz.results142]
 have g4:decide (s=⟨#[46,46]⟩)=false:=decide_eq_false h4
 have hv:zaa s.data.toList=s.data.toList.all fun c=>nmC c.toNat:=by
  unfold zaa
  have n3:decide (¬ s.data.toList=[46])=true:=decide_eq_true fun h=>h3 (e3.2 h)
  have n4:decide (¬ s.data.toList=[46,46])=true:=decide_eq_true fun h=>h4 (e4.2 h)
  rw [hsl,decide_eq_true (by omega:1<=s.size),decide_eq_true (by omega:s.size<=24),n3,n4]
  rfl
 simp only [go_sem,hA,g1,g2,g3,g4]
 refine zc [0,21,22] [] [] (fun y σ=>∃ q:Nat,q<=s.size/\y=s.size - q/\((s.data.toList.take q).all fun c=>nmC c.toNat)=true/\σ=zCl s q) s.size ⟨0,by omega,by omega,rfl,by simp only [go_sem,zCl]⟩ ?_
 rintro y σ ⟨q,hq,rfl,hf,rfl⟩
 refine goC 400 ?_
 by_cases hlt:q<s.size
 ·have k1:decide ((q:Int)<(s.size:Int))=true:=decide_eq_true (by omega)
  have hql:q<s.data.toList.length:=by omega
  have hgd:s.data.toList.getD q 0=s.data.toList[q]:=by simp only [List.getD_eq_getElem?_getD,List.getElem?_eq_getElem hql,Option.getD_some]
  simp only [go_sem,hA,zCl,k1,Int.toNat_natCast,hgd]
  refine⟨⟨by omega,by omega⟩,?_⟩
  refine gC (zvb s.data.toList[q].toNat) ?_
  cases hc:nmC (s.data.toList[q].toNat:Int) with
  | true=>
   simp only [go_sem,hA]
   refine⟨by unfold za;omega,s.size - (q+1),by omega,q+1,by omega,rfl,?_,rfl⟩
   rw [List.take_succ_eq_append_getElem hql,List.all_append,hf]
   simp only [List.all_cons,List.all_nil,hc,Bool.and_true]
  | false=>
   have hr:zaa s.data.toList=false:=by
    rw [hv,List.all_eq_false]
    exact⟨_,List.getElem_mem hql,by rw [hc];decide⟩
   simp only [go_sem,hA,hr,Tryz.results142]
 ·have k1:decide ((q:Int)<(s.size:Int))=false:=decide_eq_false (by omega)
  obtain rfl:q=s.size:=by omega
  rw [List.take_of_length_le (by omega)] at hf
  rw [hf] at hv
  simp only [go_sem,hA,zCl,k1,hv,Tryz.results142]
end
section
open Go Go.RowKit Go.Shelf
attribute [local go_sem] Oper.semAt_some
def zfL (l:List UInt8):Bool:=decide (l.length<=100) && (zcN l).all zaa
theorem con_rawG {P:Program} {f:FuncId} {vs:List Value} {y:AV} {r:Value} (he:zcQ P f) (hc:y.closed=true) (hy:∀ w F,zch w F y r) (h:∀ (w:World),Glob P w->Calls P f vs.toArray w fun e w'=>e = .returned r/\Below w.heap.size w w'):Con P f (vs.map fun v=>.d (.raw v)) y:=by
 refine⟨he,hc,fun F w us hF hG hl hv=>?_⟩
 obtain rfl:us=vs:=by
  refine List.ext_getElem (by simpa using hl.symm) fun i h1 h2=>?_
  have h0:=hv i (by simpa using h2) h1
  rw [List.getElem_map] at h0
  exact h0.raw_eq
 exact(h w hG).mono fun e w' h'=>⟨r,h'.1,hy _ _,h'.2⟩
theorem zyB {P:Program} {f:FuncId} {vs:List Value} {r:Value} (hc:Con P f (vs.map fun v=>.d (.raw v)) (.d (.raw r))) (w:World) (hG:Glob P w):Calls P f vs.toArray w fun e w'=>e = .returned r/\Below w.heap.size w w':=by
 refine(hc.2.2 (fun _ _=>False) w vs (fun _ _ h=>h.elim) hG (by simp) fun i hi hv=>?_).mono fun e w' ⟨v,h1,h2,h3⟩=>⟨by rw [h1,h2.raw_eq],h3⟩
 rw [List.getElem_map]
 exact .d (.raw _)
theorem zry (s:ByteArray) (w:World) (hG:Glob Tryz.prog w):Calls Tryz.prog 142 #[.string s] w fun e w'=>e = .returned (.bool (zaa s.data.toList))/\Below w.heap.size w w':=zyB (vs:=[.string s]) (zpN s) w hG
theorem zuI {l:List UInt8} (h:100<l.length):zfL l=false:=by
 have:¬ l.length<=100:=by omega
 simp [zfL,this]
theorem zxy (s:ByteArray) (w:World) (h:100<s.size) :
  Calls Tryz.prog 71 #[.string s] w fun e w'=>e = .returned (.bool (zfL s.data.toList))/\Below w.heap.size w w':=by
 have HF:=Lib.hid (zuI (l:=s.data.toList) (by simpa using h))
 go_enter Tryz.func71,Tryz.ntmps71
 go_wp2_with fail
 refine bodyPost_ret (v:=.bool false) (by simp [results,Tryz.results71,go_sem]) rfl ?_
 exact⟨by rw [HF.out],(Below.refl _ _).alloc (Nat.le_refl _) _⟩
def zoa (pre:List ByteArray):Prop:=∀ p ∈ pre,zaa p.data.toList=true
def zvP (pre:List ByteArray):Prop:=∃ p ∈ pre,zaa p.data.toList=false
def zpH (w:World) (pre:List ByteArray) (W:World):Prop:=zoa pre/\W.heap[w.heap.size]? = some (.cells #[.bool false] 4 (0,0))/\w.heap.size+1+1+1+1<=W.heap.size/\Below w.heap.size w W
def zwU (w:World) (c:Code) (pre:List ByteArray) (W:World):Prop:=c = .ret/\zvP pre/\W.heap[w.heap.size]? = some (.cells #[.bool false] 4 (0,0))/\w.heap.size+1+1+1+1<=W.heap.size/\Below w.heap.size w W
theorem allVal_snoc {pre:List ByteArray} {x:ByteArray} (h:zoa pre) (hx:zaa x.data.toList=true):zoa (pre++[x]):=by
 intro p hp
 rcases List.mem_append.1 hp with h1 | h1
 ·exact h p h1
 ·simp at h1;subst h1;exact hx
theorem ztG {pre:List ByteArray} {x:ByteArray} (hx:zaa x.data.toList=false):zvP (pre++[x]):=⟨x,by simp,hx⟩
theorem zxC (w:World) (B:Nat) (hB:w.heap.size<=B):OwnFrom B (zpH w):=fun s W W' row hs hg hr=>
 ⟨hs.1,zfN hs.2.1 hg (fun r e=>(hr r e).2),Nat.le_trans hs.2.2.1 hg.size,hs.2.2.2.trans ((Below.refl _ _).grown hg (by have:=hs.2.2.1;omega) (fun k e=>by have:=(hr k e).1;omega))⟩
theorem zxz (w:World) (c:Code) (B:Nat) (hB:w.heap.size<=B):OwnFrom B (zwU w c):=fun s W W' row hs hg hr=>
 ⟨hs.1,hs.2.1,zfN hs.2.2.1 hg (fun r e=>(hr r e).2),Nat.le_trans hs.2.2.2.1 hg.size,hs.2.2.2.2.trans ((Below.refl _ _).grown hg (by have:=hs.2.2.2.1;omega) (fun k e=>by have:=(hr k e).1;omega))⟩
theorem zsl (w:World) (pre:List ByteArray) (A B:World) (h:zpH w pre A) (hr:ziP (w.heap.size+1) A B):zpH w pre B:=by
 obtain⟨r,rfl⟩:=hr
 refine⟨h.1,(Below.heap_setCell _ _ _ _ (by simp)).trans h.2.1,by simpa [World.setCell] using h.2.2.1,h.2.2.2.setCell (p:=⟨w.heap.size+1,0,none⟩) (by simp) _⟩
theorem zsk (w:World) (c:Code) (pre:List ByteArray) (A B:World) (h:zwU w c pre A) (hr:ziP (w.heap.size+1) A B):zwU w c pre B:=by
 obtain⟨r,rfl⟩:=hr
 refine⟨h.1,h.2.1,(Below.heap_setCell _ _ _ _ (by simp)).trans h.2.2.1,by simpa [World.setCell] using h.2.2.2.1,h.2.2.2.2.setCell (p:=⟨w.heap.size+1,0,none⟩) (by simp) _⟩
theorem pathI_below (w:World) (pre pre':List ByteArray) (A B:World) (h:zpH w pre A) (hw:zoa pre') (hb:Below A.heap.size A B):zpH w pre' B:=
 ⟨hw,(hb.block _ (by have:=h.2.2.1;omega)).trans h.2.1,Nat.le_trans h.2.2.1 hb.size,h.2.2.2.trans (hb.mono (by have:=h.2.2.1;omega))⟩
theorem zxB {s:ByteArray} {xs:List ByteArray} (h:s.size<=100) (hx:zee s xs) (ha:zoa xs):zfL s.data.toList=true:=by
 unfold zee at hx
 unfold zfL
 rw [<- hx,Bool.and_eq_true]
 refine⟨by simpa using h,?_⟩
 rw [List.all_eq_true]
 intro p hp
 obtain⟨q,hq,rfl⟩:=List.mem_map.1 hp
 exact ha q hq
theorem zxA {s:ByteArray} {xs:List ByteArray} (hx:zgi s xs) (ha:zvP xs):zfL s.data.toList=false:=by
 unfold zfL
 rw [Bool.and_eq_false_iff];right
 rw [List.all_eq_false]
 obtain⟨q,hq,hb⟩:=ha
 exact⟨q.data.toList,(show _ <+: _ from hx).subset (List.mem_map.2 ⟨q,hq,rfl⟩),by simp [hb]⟩
theorem zuH (s:ByteArray) (w:World) (hG:Glob Tryz.prog w) (h:s.size<=100) :
  Calls Tryz.prog 71 #[.string s] w fun e w'=>e = .returned (.bool (zfL s.data.toList))/\Below w.heap.size w w':=by
 have h100:decide (100<(s.size:Int))=false:=by simp;omega
 refine(callsIn_wide (n:=4)).1 ?_
 refine callsIn_of_wp_marks Tryz.func71 rfl trivial ?_ rfl
 simp only [Tryz.ntmps71,List.size_toArray,List.length_cons,List.length_nil,Nat.reduceAdd,Nat.reduceSub,Array.replicate_succ,Array.replicate_zero,List.push_toArray,List.append_toArray,List.nil_append,List.cons_append]
 gi_wp2_with (first | (refine⟨trivial,?_⟩;gi_at_call 132;refine(callsIn_wide.2 (ziV s ⟨#[47]⟩ _)).mono ?_;rintro e w' ⟨rfl,rfl⟩))
 obtain⟨W0,hW0⟩:∃ W0,((((w.alloc (Obj.cells #[Value.bool false] 4)).alloc (Obj.cells #[Value.string s] 9)).alloc (Obj.cells #[Value.string ⟨#[47]⟩] 9)).alloc (Obj.cells #[Value.int IntKind.i64 0] 3))=W0:=⟨_,rfl⟩
 have z0:w.heap.size+1+1+1+1=W0.heap.size:=by rw [<- hW0];simp
 have q0:W0.heap[w.heap.size]? = some (.cells #[.bool false] 4 (0,0)):=by rw [<- hW0];exact(Below.heap_alloc _ _ _ (by simp <;> omega)).trans ((Below.heap_alloc _ _ _ (by simp <;> omega)).trans ((Below.heap_alloc _ _ _ (by simp)).trans (World.alloc_heap_new w _)))
 have q1:W0.heap[w.heap.size+1]? = some (.cells #[.string s] 9 (0,0)):=by
  rw [<- hW0];refine(Below.heap_alloc _ _ _ (by simp <;> omega)).trans ((Below.heap_alloc _ _ _ (by simp)).trans ?_)
  have:=World.alloc_heap_new (w.alloc (Obj.cells #[Value.bool false] 4)) (Obj.cells #[Value.string s] 9)
  rwa [World.size_alloc] at this
 have q2:W0.heap[w.heap.size+1+1]? = some (.cells #[.string ⟨#[47]⟩] 9 (0,0)):=by
  rw [<- hW0];refine(Below.heap_alloc _ _ _ (by simp)).trans ?_
  have:=World.alloc_heap_new ((w.alloc (Obj.cells #[Value.bool false] 4)).alloc (Obj.cells #[Value.string s] 9)) (Obj.cells #[Value.string ⟨#[47]⟩] 9)
  simp only [World.size_alloc] at this
  exact this
 have q3:W0.heap[w.heap.size+1+1+1]? = some (.cells #[.int .i64 0] 3 (0,0)):=by
  rw [<- hW0]
  have:=World.alloc_heap_new (((w.alloc (Obj.cells #[Value.bool false] 4)).alloc (Obj.cells #[Value.string s] 9)).alloc (Obj.cells #[Value.string ⟨#[47]⟩] 9)) (Obj.cells #[Value.int IntKind.i64 0] 3)
  simp only [World.size_alloc] at this
  exact this
 have bl:Below w.heap.size w W0:=by
  rw [<- hW0];exact((((Below.refl _ w).alloc (Nat.le_refl _) _).alloc (by simp) _).alloc (by simp <;> omega) _).alloc (by simp <;> omega) _
 rw [hW0]
 clear hW0
 have hal:∀ (r:Loop) (b:Nat) (o:Obj),W0.heap[b]? = some o->((W0.alloc (.deferred (some []))).alloc (.loop r)).heap[b]? = some o:=fun r b o hb=>by
  have:=(Array.getElem?_eq_some_iff.1 hb).1
  exact(Below.heap_alloc _ _ _ (by simp <;> omega)).trans ((Below.heap_alloc _ _ _ this).trans hb)
 refine zcv (P:=Tryz.prog) (F:=Fence.wide) (n:=4) rfl (by omega) (gf:=254) (lb:=#[.pointer (some ⟨w.heap.size+1+1,0,none⟩),.pointer (some ⟨w.heap.size+1,0,none⟩),.pointer (some ⟨w.heap.size+1+1+1,0,none⟩)]) rfl trivial (enters_of Tryz.func254 (by kernel_rfl) rfl)
  (encs:=fun x:ByteArray=>#[.string x]) (Kp:=zpI [w.heap.size+1+1,w.heap.size+1,w.heap.size+1+1+1]) (R:=ziP (w.heap.size+1)) (X:=fun _ _=>True)
  (S:=zee s) (Sp:=zgi s)
  (fun r l J Jx hJ _ hY hJ0=>zoF 3 l _ _ _ (by omega) s (by omega) (by omega) (by omega) J Jx hJ (fun pre x A hA=>hY pre x A hA trivial) _ (hal r _ _ q2) (hal r _ _ q1) (hal r _ _ q3) hJ0)
  (fun h1 h2 b hb=>(h2 b hb).trans (h1 b hb)) (fun W l o o' hl _ _ b hb=>World.putObj_heap_other (by simp at hb;omega))
  (fun⟨r,hr⟩=>hr ▸ (KeepsOthers.setCell _ _ _).from _) (fun _=>rfl)
  (zpH w) (zwU w) (zxC w _ (by omega)) (fun c=>zxz w c _ (by omega)) (zsl w) (zsk w)
  ⟨fun _ hp=>by simp at hp,q0,by omega,bl⟩
  (fun x=>{ tmps:=#[Value.string s,undef,Value.pointer (some { block:=w.heap.size,off:=0 }),Value.string x,Value.string s,Value.int IntKind.i64 ↑s.size,Value.bool false,Value.string s,
        Value.func (Fn.func 254) #[] #[Value.pointer (some { block:=w.heap.size+1+1,off:=0 }),Value.pointer (some { block:=w.heap.size+1,off:=0 }),Value.pointer (some { block:=w.heap.size+1+1+1,off:=0 })],
        Value.string x,undef,undef,undef],defers:=[] }) ?assign ?body ?done ?stop
 case assign=>
  intro l x W K hK
  gi_wp2
  exact hK
 case body=>
  rintro l pre x W hI -
  have c0:=cell_of_one hI.2.1
  have f0:=free_of_one hI.2.1
  have HV:=Lib.hid (zry x W (hG.keep (X:=fun _=>False) (.of hI.2.2.2) fun _ h=>h.elim))
  have HI:=Lib.hid hI
  clear hI
  cases hw:zaa x.data.toList
  ·gi_wp2_with (first | (refine⟨trivial,?_⟩;gi_at_call 142;refine(CallsIn.inRound l (callsIn_wide.2 HV.out)).mono ?_;rintro e w' ⟨rfl,hb⟩;have g0:=(hb.cell (p:=⟨w.heap.size,0,none⟩) (by have:=HI.out.2.2.1;show w.heap.size<_;omega)).trans c0;have e0:=(hb.frozen (p:=⟨w.heap.size,0,none⟩) (by have:=HI.out.2.2.1;show w.heap.size<_;omega)).trans f0;have HB:=Lib.hid hb;clear hb))
   have hq:=pathI_below w pre pre W _ HI.out HI.out.1 HB.out
   exact⟨((zbb HB.out).trans (KeepsOthers.setCell _ _ _)).from _,rfl,ztG hw,one_setCell hq.2.1,by simpa [World.setCell] using hq.2.2.1,hq.2.2.2.setCell (p:=⟨w.heap.size,0,none⟩) (Nat.le_refl _) _⟩
  ·gi_wp2_with (first | (refine⟨trivial,?_⟩;gi_at_call 142;refine(CallsIn.inRound l (callsIn_wide.2 HV.out)).mono ?_;rintro e w' ⟨rfl,hb⟩;have HB:=Lib.hid hb;clear hb))
   exact⟨(zbb HB.out).from _,zlb HB.out (by have:=HI.out.2.2.1;intro b hb;simp at hb;omega),pathI_below w pre _ W _ HI.out (allVal_snoc HI.out.1 hw) HB.out⟩
 case done=>
  rintro D ys W hD hS hI hK
  have c0:=cell_of_one hI.2.1
  have f0:=free_of_one hI.2.1
  have HI:=Lib.hid hI
  clear hI
  gi_wp2_with fail
  have hK':=(KeepsOthers.setCell W ⟨w.heap.size,0,none⟩ (.bool true)).same D _ hK rfl
  refine⟨by simp,.inl ⟨_,_,rfl,run_takeDeferred hK',?_⟩⟩
  have hc5:=cell_kept (cell_of_one (one_setCell (u:=.bool true) HI.out.2.1)) (grownBy_putObj' _ D (.deferred none)) (fun r e=>by cases e;exact⟨_,hK',rfl⟩)
  refine⟨.bool true,?_,by rw [zxB h hS HI.out.1],(HI.out.2.2.2.setCell (p:=⟨w.heap.size,0,none⟩) (Nat.le_refl _) _).trans (belowK_b (w:=w) (Nat.le_refl _) _ D _ _ (by omega) hK' rfl rfl)⟩
  simp [results,Tryz.f71,go_sem,hc5]
 case stop=>
  rintro D c pre W hD hpre ⟨rfl,hbad,hcr,_,hB⟩ hK
  gi_wp2_with fail
  refine⟨by simp,.inl ⟨_,_,rfl,run_takeDeferred hK,?_⟩⟩
  have hc5:=cell_kept (cell_of_one hcr) (grownBy_putObj' _ D (.deferred none)) (fun r e=>by cases e;exact⟨_,hK,rfl⟩)
  refine⟨.bool false,?_,by rw [zxA hpre hbad],hB.trans (belowK_b (w:=w) (Nat.le_refl _) W D _ _ (by omega) hK rfl rfl)⟩
  simp [results,Tryz.f71,go_sem,hc5]
theorem zAo (s:ByteArray):Con Tryz.prog 71 [.d (.raw (.string s))] (.d (.raw (.bool (zfL s.data.toList)))):=
 con_rawG (vs:=[.string s]) ⟨_,Tryz.func71,by decide +kernel,rfl⟩ rfl (fun _ _=>.d (.raw _)) fun w hG=>by
  rcases Nat.lt_or_ge 100 s.size with h | h
  ·exact zxy s w h
  ·exact zuH s w hG h
end
section
open Go Go.RowKit
theorem zbn {f:Nat->Int}:∀ {n:Nat},zH f n=0->∀ i,i<n->f i=0
 | 0,_,i,h=>by omega
 | n+1,h,i,hi=>by
  rw [zH] at h
  split at h
  ·rename_i h0
   by_cases e:i=n
   ·rw [e];exact h
   ·exact zbn h0 i (by omega)
  ·rename_i h0;exact absurd h h0
abbrev avO (k:Int) (d:ByteArray):AV:=.agg [.d (.raw (.int .i64 k)),.d (.raw (.string d)),.d (.sl []),.d (.raw (.int .u64 0)),.d (.raw (.int .u64 0)),.d (.sl []),.d (.raw (.string ⟨#[]⟩)),.d (.raw (.int .i64 0)),.d (.raw (.string ⟨#[]⟩))]
theorem zFl (d:ByteArray):Con Tryz.prog 73 [.d (.raw (.string d))] (avO 1 d):=by
 refine kO Tryz.func73 Tryz.ntmps73 fun A hA=>?_
 refine goC 400 ?_
 simp only [go_sem,hA,Tryz.results73]
def leS (a b:ByteArray):Bool:=Op.bytesLess a.data.toList b.data.toList || decide (a=b)
def atF (l:List Fl) (i:Nat):Fl:=l.getD i ⟨⟨#[]⟩,⟨#[]⟩⟩
theorem zro (l:List Fl) (i:Nat) (h:i<l.length):atF l i=l[i]:=by simp [atF,List.getD_eq_getElem?_getD,h]
def zjF (l:List Fl) (q:Nat):Int:=if zfL (atF l q).path.data.toList then (if 0<q/\leS (atF l q).path (atF l (q - 1)).path then 10 else 0) else 6
def zft (l:List Fl):List ByteArray:=l.foldl (fun fs x=>zox fs x.path) []
theorem zsj (l:List Fl) (x:Fl):zft (l++[x])=zox (zft l) x.path:=by simp [zft]
def zjW (fs:List ByteArray) (s:ByteArray) (i:Nat):Bool:=decide (s.data.toList.getD i 0=47) && zia fs (s.extract 0 i)
def zEG (fs:List ByteArray) (s:ByteArray):Bool:=(List.range s.size).any (zjW fs s)
def zgL (l:List Fl):Int:=
 if 200<l.length then 4 else if ¬ zH (zjF l) l.length=0 then zH (zjF l) l.length else if l.any fun x=>zEG (zft l) x.path then 7 else 0
abbrev zvV (l:List Fl) (q:Nat):St:=⟨[(0,.d (.sl (zap l))),(3,.mp 3000),(13,.d (.sl (zap l))),(14,.d (.raw (.int .i64 l.length))),(15,.d (.raw (.int .i64 q)))],[(3000,some (.map none (zaX (zft (l.take q))) (zbh (zft (l.take q)))))],[]⟩
abbrev zvU (l:List Fl) (fs:List ByteArray) (q:Nat):St:=⟨[(3,.mp 3000),(49,.d (.sl (zap l))),(50,.d (.raw (.int .i64 l.length))),(51,.d (.raw (.int .i64 q)))],[(3000,some (.map none (zaX fs) (zbh fs)))],[]⟩
abbrev zoA (l:List Fl) (fs:List ByteArray) (x:Fl) (q k:Nat):St:=⟨[(3,.mp 3000),(7,.box 17002 0),(49,.d (.sl (zap l))),(50,.d (.raw (.int .i64 l.length))),(51,.d (.raw (.int .i64 q))),(57,.d (.raw (.int .i64 x.path.size))),(58,.d (.raw (.int .i64 k)))],[(3000,some (.map none (zaX fs) (zbh fs))),(17002,some (.cell 62 [.d (.raw (.string x.path)),.d (.raw (.string x.data))]))],[]⟩
theorem zzj (l:List Fl) (hl:l.length<=1048576) (hO:∀ x ∈ l,Con Tryz.prog 72 [avO 1 x.data] (.d (.raw (.int .i64 0)))):Con Tryz.prog 28 [.d (.sl (zap l))] (.d (.raw (.int .i64 (zgL l)))):=by
 refine kO Tryz.func28 Tryz.ntmps28 fun A hA=>?_
 refine goC 400 ?_
 by_cases h1:200<l.length
 ·have g1:decide ((200:Int)<(l.length:Int))=true:=decide_eq_true (by omega)
  have hr:zgL l=4:=if_pos h1
  simp only [go_sem,hA,zq,g1,hr,Tryz.results28]
 have g1:decide ((200:Int)<(l.length:Int))=false:=decide_eq_false (by omega)
 have hr0:zgL l=if ¬ zH (zjF l) l.length=0 then zH (zjF l) l.length else if l.any fun x=>zEG (zft l) x.path then 7 else 0:=if_neg h1
 simp only [go_sem,hA,zq,g1]
 refine zc [0,3,13,14,15] [3000] [] (fun y σ=>∃ q:Nat,q<=l.length/\y=l.length - q/\zH (zjF l) q=0/\σ=zvV l q) l.length ⟨0,by omega,by omega,rfl,by simp only [go_sem,zvV];rfl⟩ ?_
 rintro y σ ⟨q,hq,rfl,hf,rfl⟩
 refine goC 400 ?_
 by_cases hlt:q<l.length
 ·have k1:decide ((q:Int)<(l.length:Int))=true:=decide_eq_true (by omega)
  have hat:=zro l q hlt
  have hfe:zjF l q=if zfL l[q].path.data.toList then (if 0<q/\leS l[q].path (atF l (q - 1)).path then 10 else 0) else 6:=by unfold zjF;rw [hat]
  simp only [go_sem,hA,zvV,zq,k1,Int.toNat_natCast,zbT l q hlt,zV]
  refine⟨⟨by omega,by omega⟩,?_⟩
  refine gC (zAo l[q].path) ?_
  cases hp:zfL l[q].path.data.toList with
  | false=>
   rw [hp] at hfe
   have hfe':zjF l q=6:=hfe
   rw [zS hf hlt (by rw [hfe'];decide),hfe'] at hr0
   simp only [go_sem,hA,hr0,Tryz.results28]
   rfl
  | true=>
  rw [hp,if_pos rfl] at hfe
  simp only [go_sem,hA]
  refine gC (zFl l[q].data) ?_
  simp only [go_sem]
  refine gC (hO l[q] (List.getElem_mem hlt)) ?_
  have hsn:zft (l.take (q+1))=zox (zft (l.take q)) l[q].path:=by rw [List.take_succ_eq_append_getElem hlt,zsj]
  by_cases hq0:0<q
  ·have k2:decide ((0:Int)<(q:Int))=true:=decide_eq_true (by omega)
   have hq1:((q:Int) - 1).toNat=q - 1:=by omega
   have hat1:=zro l (q - 1) (by omega)
   have hin:za ((q:Int) - 1):=by unfold za;omega
   rw [hat1] at hfe
   cases hle:leS l[q].path l[q - 1].path with
   | true=>
    have hle':(Op.bytesLess l[q].path.data.toList l[q - 1].path.data.toList || decide (l[q].path=l[q - 1].path))=true:=hle
    rw [if_pos ⟨hq0,hle⟩] at hfe
    rw [zS hf hlt (by rw [hfe];decide),hfe] at hr0
    simp only [go_sem,hA,k2,zq,hq1,zbT l (q - 1) (by omega),hle',hr0,mixed,Tryz.results28]
    exact⟨hin,⟨by omega,by omega⟩,by show chk _ _ _=true;kernel_rfl,by rfl⟩
   | false=>
    have hle':(Op.bytesLess l[q].path.data.toList l[q - 1].path.data.toList || decide (l[q].path=l[q - 1].path))=false:=hle
    rw [if_neg fun h=>by rw [hle] at h;cases h.2] at hfe
    simp only [go_sem,hA,k2,zq,hq1,zbT l (q - 1) (by omega),hle',mixed]
    refine⟨hin,⟨by omega,by omega⟩,by show chk _ _ _=true;kernel_rfl,zcV _,by unfold za;omega,l.length - (q+1),by omega,q+1,by omega,rfl,zX hf hfe,?_⟩
    rw [hsn,<- zmv,<- zmw];rfl
  ·have k2:decide ((0:Int)<(q:Int))=false:=decide_eq_false (by omega)
   rw [if_neg fun h=>hq0 h.1] at hfe
   simp only [go_sem,hA,k2,undef,mixed]
   refine⟨by show chk _ _ _=true;kernel_rfl,zcV _,by unfold za;omega,l.length - (q+1),by omega,q+1,by omega,rfl,zX hf hfe,?_⟩
   rw [hsn,<- zmv,<- zmw];rfl
 have k1:decide ((q:Int)<(l.length:Int))=false:=decide_eq_false (by omega)
 obtain rfl:q=l.length:=by omega
 rw [if_neg (by simp [hf])] at hr0
 simp only [go_sem,hA,zvV,k1,List.take_length,zq]
 generalize zft l=fs at hr0 ⊢
 refine zc [3,49,50,51] [3000] [] (fun y σ=>∃ q:Nat,q<=l.length/\y=l.length - q/\((l.take q).any fun x=>zEG fs x.path)=false/\σ=zvU l fs q) l.length ⟨0,by omega,by omega,rfl,by simp only [go_sem,zvU]⟩ ?_
 rintro y σ ⟨q,hq,rfl,hf2,rfl⟩
 refine goC 400 ?_
 by_cases hlt:q<l.length
 case neg=>
  have k1:decide ((q:Int)<(l.length:Int))=false:=decide_eq_false (by omega)
  obtain rfl:q=l.length:=by omega
  rw [List.take_length] at hf2
  rw [hf2] at hr0
  simp only [go_sem,hA,zvU,k1,hr0,Tryz.results28]
 have k1:decide ((q:Int)<(l.length:Int))=true:=decide_eq_true (by omega)
 obtain⟨x,hx⟩:∃ x,l[q]=x:=⟨_,rfl⟩
 have hxl:x ∈ l:=by rw [<- hx];exact List.getElem_mem hlt
 have hsx:x.path.size<=100:=by
  have h:=zbn hf q hlt
  unfold zjF at h
  rw [zro l q hlt,hx] at h
  split at h
  ·rename_i h2
   unfold zfL at h2
   simp only [Bool.and_eq_true,decide_eq_true_eq] at h2
   have:=h2.1
   simpa using this
  ·cases h
 simp only [go_sem,hA,zvU,zq,k1,Int.toNat_natCast,zbT l q hlt,hx,zV]
 refine⟨⟨by omega,by omega⟩,?_⟩
 refine zc [3,7,49,50,51,57,58] [3000,17002] [] (fun y σ=>∃ k:Nat,k<=x.path.size/\y=x.path.size - k/\((List.range k).any (zjW fs x.path))=false/\σ=zoA l fs x q k) x.path.size ⟨0,by omega,by omega,rfl,by simp only [go_sem,zoA]⟩ ?_
 rintro y σ ⟨k,hk,rfl,hf3,rfl⟩
 refine goC 400 ?_
 by_cases hkl:k<x.path.size
 case neg=>
  have k2:decide ((k:Int)<(x.path.size:Int))=false:=decide_eq_false (by omega)
  obtain rfl:k=x.path.size:=by omega
  simp only [go_sem,hA,zoA,k2]
  exact⟨by unfold za;omega,l.length - (q+1),by omega,q+1,by omega,rfl,zcJ hlt hf2 (by rw [hx];exact hf3),rfl⟩
 have k2:decide ((k:Int)<(x.path.size:Int))=true:=decide_eq_true (by omega)
 have hun:zjW fs x.path k=(decide ((x.path.data.toList.getD k 0).toNat=47) && zia fs (x.path.extract 0 k)):=by
  unfold zjW
  congr 1
  exact decide_eq_decide.2 ⟨fun h=>by rw [h];rfl,fun h=>UInt8.toNat_inj.1 h⟩
 have hstep:zjW fs x.path k=false->((List.range (k+1)).any (zjW fs x.path))=false:=fun h=>by rw [List.range_succ,List.any_append,hf3];simp [h]
 cases h47:decide (((x.path.data.toList.getD k 0).toNat:Int)=47) with
 | false=>
  have hu:=hstep (by rw [hun,decide_eq_false (fun h=>by have:=of_decide_eq_false h47;omega)];rfl)
  simp only [go_sem,hA,zoA,k2,Int.toNat_natCast,h47,undef]
  exact⟨⟨by omega,by omega⟩,by unfold za;omega,x.path.size - (k+1),by omega,k+1,by omega,rfl,hu,rfl⟩
 | true=>
  have h47':(x.path.data.toList.getD k 0).toNat=47:=by have:=of_decide_eq_true h47;omega
  cases hh:zia fs (x.path.extract 0 k) with
  | true=>
   obtain⟨j,hj1,hj2⟩:=zpl hh
   have hr1:zgL l=7:=by
    rw [hr0,if_pos]
    exact List.any_eq_true.2 ⟨x,hxl,List.any_eq_true.2 ⟨k,List.mem_range.2 hkl,by rw [hun,hh,decide_eq_true h47'];rfl⟩⟩
   simp only [go_sem,hA,zoA,k2,Int.toNat_natCast,h47,hj1,hj2,hr1,Tryz.results28]
   exact⟨⟨by omega,by omega⟩,⟨by omega,by omega⟩,zcV _⟩
  | false=>
   have hj:=zpm hh
   have hu:=hstep (by rw [hun,hh,Bool.and_false])
   simp only [go_sem,hA,zoA,k2,Int.toNat_natCast,h47,hj]
   exact⟨⟨by omega,by omega⟩,⟨by omega,by omega⟩,zcV _,by unfold za;omega,x.path.size - (k+1),by omega,k+1,by omega,rfl,hu,rfl⟩
end
end Go.Proofs.YtpnjjmcimjlfkaaGreatDoor
