/- Texts of this proof, part 17: what the proof uses of them. -/
import Derived.Test.YtpnjjmcimjlfkaaGreatDoorRap
import Derived.Test.YtpnjjmcimjlfkaaGreatDoorRam
set_option maxRecDepth 100000
set_option maxHeartbeats 64000000
namespace Go.Proofs.YtpnjjmcimjlfkaaGreatDoor
section
open Go Go.RowKit Go.Shelf
attribute [local go_sem] Oper.semAt_some
theorem zkG (a b:List UInt8):(⟨a.toArray⟩:ByteArray)++⟨b.toArray⟩=⟨(a++b).toArray⟩:=by
 apply ByteArray.ext
 rw [ByteArray.data_append]
 simp
theorem zbm (a:List UInt8):(⟨a.toArray⟩:ByteArray).size=a.length:=by
 show a.toArray.size=a.length
 simp
theorem ztM {n:Int} (h0:0<=n) (h1:n<256):IntKind.u8.wrap n=n:=by
 have h:IntKind.u8.wrap n=n % 256:=rfl
 rw [h];omega
theorem zzD (n:Nat) (hn:n<=1099511627776):Con Tryz.prog 249 [.d (.raw (.int .i64 n))] (.d (.raw (.string ⟨(zb n).toArray⟩))):=by
 induction n using Nat.strongRecOn with
 | ind n ih=>
 refine kO Tryz.func249 Tryz.ntmps249 fun A hA=>?_
 refine goC 400 ?_
 by_cases h:n<128
 ·have g:decide ((n:Int)<128)=true:=decide_eq_true (by omega)
  have hw:IntKind.u8.wrap (n:Int)=n:=ztM (by omega) (by omega)
  have hr:zmi [[D.raw (Value.int IntKind.u8 (n:Int))]]=some [n.toUInt8]:=rfl
  simp only [go_sem,hA,g,hw,hr,putL_lt h,Tryz.results249]
 ·have g:decide ((n:Int)<128)=false:=decide_eq_false (by omega)
  have hm:(n:Int).tmod 128=((n % 128:Nat):Int):=by rw [Int.tmod_eq_emod_of_nonneg (by omega)];omega
  have hd:(n:Int).tdiv 128=((n / 128:Nat):Int):=by rw [Int.tdiv_eq_ediv_of_nonneg (by omega)];omega
  have e1:(128:Int)+((n % 128:Nat):Int)=((n % 128+128:Nat):Int):=by omega
  have hw:IntKind.u8.wrap ((n % 128+128:Nat):Int)=((n % 128+128:Nat):Int):=ztM (by omega) (by omega)
  have hr:zmi [[D.raw (Value.int IntKind.u8 ((n % 128+128:Nat):Int))]]=some [(n % 128+128).toUInt8]:=rfl
  have hl:=zat (n / 128)
  have hin1:za ((n % 128+128:Nat):Int):=by unfold za;omega
  have hin2:za ((n / 128:Nat):Int):=by unfold za;omega
  simp only [go_sem,hA,g,hm,hd,e1,hw,hr,mixed]
  refine⟨by decide,hin1,⟨by decide,hin2⟩,?_⟩
  refine gD (ih (n / 128) (by omega) (by omega)) ?_
  simp only [go_sem,hA,zkG,zbm,zep h,Tryz.results249]
  exact⟨by omega,by show chk _ _ _=true;kernel_rfl⟩
theorem zxl (n:Nat) (hn:n<=1099511627776):Con Tryz.prog 185 [.d (.raw (.int .i64 n))] (.tup [.d (.raw (.string ⟨(zb n).toArray⟩)),.d (.raw (.int .i64 0))]):=by
 refine kO Tryz.func185 Tryz.ntmps185 fun A hA=>?_
 have g1:decide ((n:Int)<0)=false:=decide_eq_false (by omega)
 have g2:decide ((1099511627776:Int)<(n:Int))=false:=decide_eq_false (by omega)
 refine goC 400 ?_
 simp only [go_sem,hA,g1,g2]
 refine gC (zzD n hn) ?_
 simp only [go_sem,hA,Tryz.results185]
theorem zuz (s:ByteArray) (hs:s.size<=65536):Con Tryz.prog 186 [.d (.raw (.string s))] (.tup [.d (.raw (.string ⟨(zb s.size++s.data.toList).toArray⟩)),.d (.raw (.int .i64 0))]):=by
 refine kO Tryz.func186 Tryz.ntmps186 fun A hA=>?_
 have g1:decide ((65536:Int)<(s.size:Int))=false:=decide_eq_false (by omega)
 have hl:=zat s.size
 have e:(⟨(zb s.size).toArray⟩:ByteArray)++s=⟨(zb s.size++s.data.toList).toArray⟩:=by rw [<- zkG]
 refine goC 400 ?_
 simp only [go_sem,hA,g1]
 refine gC (zzD s.size (by omega)) ?_
 simp only [go_sem,hA,e,zbm,Tryz.results186]
 omega
theorem zcM (n:Nat) (hn:n<=1099511627776):Con Tryz.prog 191 [.d (.raw (.int .i64 n))] (.d (.raw (.string ⟨(zb n).toArray⟩))):=by
 refine kO Tryz.func191 Tryz.ntmps191 fun A hA=>?_
 refine goC 400 ?_
 simp only [go_sem,hA]
 refine gC (zxl n hn) ?_
 simp only [go_sem,hA,Tryz.results191]
theorem zjg (s:ByteArray) (hs:s.size<=65536):Con Tryz.prog 192 [.d (.raw (.string s))] (.d (.raw (.string ⟨(zb s.size++s.data.toList).toArray⟩))):=by
 refine kO Tryz.func192 Tryz.ntmps192 fun A hA=>?_
 refine goC 400 ?_
 simp only [go_sem,hA]
 refine gC (zuz s hs) ?_
 simp only [go_sem,hA,Tryz.results192]
theorem zT:Tryz.prog.eqGuardType Tryz.prog.depth 42=false:=by kernel_rfl
def zFK (a b:Int):Int:=IntKind.u64.wrap ((BitVec.ofInt IntKind.u64.bits a ^^^ BitVec.ofInt IntKind.u64.bits b).toNat:Nat)
def zFR (a b:Int):Int:=IntKind.u64.wrap (a * b)
def zoD (h b:Int):Int:=zFR (zFK h b) 1099511628211
def zoC (h b:Int):Int:=zFK (zFR h 1099511628211) b
def zdW (f:Int->Int->Int) (l:List UInt8):Int:=l.foldl (fun h c=>f h (c.toNat:Nat)) 14695981039346656037
def ofD (l:List UInt8):Int × Int:=if zdW zoD l=0/\zdW zoC l=0 then (0,1) else (zdW zoD l,zdW zoC l)
abbrev zew (d:Int × Int):AV:=.agg [.d (.raw (.int .u64 d.1)),.d (.raw (.int .u64 d.2))]
theorem zpj (f:Int->Int->Int):zdW f []=14695981039346656037:=rfl
theorem ziH (f:Int->Int->Int) (l:List UInt8) (q:Nat) (h:q<l.length):zdW f (l.take (q+1))=f (zdW f (l.take q)) (l[q].toNat:Nat):=by
 unfold zdW
 rw [List.take_succ_eq_append_getElem h,List.foldl_append];rfl
theorem zfe {n:Int} (h0:0<=n) (h1:n<18446744073709551616):IntKind.u64.wrap n=n:=by
 have h:IntKind.u64.wrap n=n % 18446744073709551616:=rfl
 rw [h];omega
theorem zCq (h b:Int):Con Tryz.prog 176 [.d (.raw (.int .u64 h)),.d (.raw (.int .u64 b))] (.d (.raw (.int .u64 (zoD h b)))):=by
 refine kO Tryz.func176 Tryz.ntmps176 fun A hA=>?_
 refine goC 400 ?_
 simp only [go_sem,hA,Tryz.results176]
 rfl
theorem zCp (h b:Int):Con Tryz.prog 177 [.d (.raw (.int .u64 h)),.d (.raw (.int .u64 b))] (.d (.raw (.int .u64 (zoC h b)))):=by
 refine kO Tryz.func177 Tryz.ntmps177 fun A hA=>?_
 refine goC 400 ?_
 simp only [go_sem,hA,Tryz.results177]
 rfl
abbrev zwx (s:ByteArray) (f:FuncId) (x:Int) (q:Nat):St:=⟨[(0,.d (.raw (.string s))),(1,.fn f []),(5,.d (.raw (.int .u64 x))),(8,.d (.raw (.int .i64 s.size))),(9,.d (.raw (.int .i64 q)))],[],[]⟩
theorem zAu (s:ByteArray) (f:FuncId) (st:Int->Int->Int) (hst:∀ h b,Con Tryz.prog f [.d (.raw (.int .u64 h)),.d (.raw (.int .u64 b))] (.d (.raw (.int .u64 (st h b))))) (hs:s.size<=1048576):Con Tryz.prog 175 [.d (.raw (.string s)),.fn f []] (.d (.raw (.int .u64 (zdW st s.data.toList)))):=by
 refine kO Tryz.func175 Tryz.ntmps175 fun A hA=>?_
 have hl:s.data.toList.length=s.size:=Array.length_toList
 refine goC 400 ?_
 simp only [go_sem,hA]
 refine zc [0,1,5,8,9] [] [] (fun x σ=>∃ q:Nat,q<=s.size/\x=s.size - q/\σ=zwx s f (zdW st (s.data.toList.take q)) q) s.size ⟨0,by omega,by omega,by simp only [List.take_zero,zpj,go_sem,zwx]⟩ ?_
 rintro x σ ⟨q,hq,rfl,rfl⟩
 refine goC 400 ?_
 by_cases hlt:q<s.size
 ·have k1:decide ((q:Int)<(s.size:Int))=true:=decide_eq_true (by omega)
  have hq':q<s.data.toList.length:=by omega
  have hb:s.data.toList.getD q 0=s.data.toList[q]:=by rw [List.getD_eq_getElem?_getD,List.getElem?_eq_getElem hq'];rfl
  have hw:IntKind.u64.wrap (s.data.toList[q].toNat:Nat)=(s.data.toList[q].toNat:Nat):=zfe (by omega) (by have:=s.data.toList[q].toNat_lt;omega)
  simp only [go_sem,hA,zwx,k1,Int.toNat_natCast,hb,hw]
  refine⟨⟨by omega,by omega⟩,?_⟩
  refine zeu 400 (cs:=[]) (hst (zdW st (s.data.toList.take q)) (s.data.toList[q].toNat:Nat)) rfl rfl (by simp only [go_sem]) (by simp only [go_sem,zU]) (by simp only [go_sem,hA]) ?_
  simp only [go_sem,hA]
  exact⟨by unfold za;omega,s.size - (q+1),by omega,q+1,by omega,rfl,by rw [ziH _ _ _ hq'];rfl⟩
 ·have k1:decide ((q:Int)<(s.size:Int))=false:=decide_eq_false (by omega)
  obtain rfl:q=s.size:=by omega
  simp only [go_sem,hA,zwx,k1,Tryz.results175]
  rw [<- hl,List.take_length]
abbrev zoK (s:ByteArray) (x y:Int) (q:Nat):St:=⟨[(0,.d (.raw (.string s))),(2,.box 0 0),(3,.d (.raw (.int .u64 x))),(4,.d (.raw (.int .u64 y))),(5,.d (.raw (.int .i64 q)))],[(0,some (.cell 42 [.d (.raw (.int .u64 0)),.d (.raw (.int .u64 0))]))],[]⟩
theorem zFO (s:ByteArray) (hs:s.size<=1048576):Con Tryz.prog 106 [.d (.raw (.string s))] (zew (ofD s.data.toList)):=by
 refine kO Tryz.func106 Tryz.ntmps106 fun A hA=>?_
 have hl:s.data.toList.length=s.size:=Array.length_toList
 refine goC 400 ?_
 simp only [go_sem,hA]
 refine zc [0,2,3,4,5] [0] [] (fun x σ=>∃ q:Nat,q<=s.size/\x=s.size - q/\σ=zoK s (zdW zoD (s.data.toList.take q)) (zdW zoC (s.data.toList.take q)) q) s.size ⟨0,by omega,by omega,by simp only [List.take_zero,zpj,go_sem,zoK]⟩ ?_
 rintro x σ ⟨q,hq,rfl,rfl⟩
 refine goC 400 ?_
 by_cases hlt:q<s.size
 ·have k1:decide ((q:Int)<(s.size:Int))=true:=decide_eq_true (by omega)
  have hq':q<s.data.toList.length:=by omega
  have hb:s.data.toList.getD q 0=s.data.toList[q]:=by rw [List.getD_eq_getElem?_getD,List.getElem?_eq_getElem hq'];rfl
  have hw:IntKind.u64.wrap (s.data.toList[q].toNat:Nat)=(s.data.toList[q].toNat:Nat):=zfe (by omega) (by have:=s.data.toList[q].toNat_lt;omega)
  simp only [go_sem,hA,zoK,k1,Int.toNat_natCast,hb,hw]
  exact⟨⟨by omega,by omega⟩,⟨by omega,by omega⟩,by unfold za;omega,s.size - (q+1),by omega,q+1,by omega,rfl,by rw [ziH _ _ _ hq',ziH _ _ _ hq'];rfl⟩
 ·have k1:decide ((q:Int)<(s.size:Int))=false:=decide_eq_false (by omega)
  obtain rfl:q=s.size:=by omega
  rw [<- hl,List.take_length]
  unfold ofD
  cases e1:decide (zdW zoD s.data.toList=0) with
  | false=>
   rw [if_neg (by simp at e1;simp [e1])]
   simp only [go_sem,hA,zoK,k1,e1,hl,undef,Tryz.results106]
  | true=>
  cases e2:decide (zdW zoC s.data.toList=0) with
  | false=>
   rw [if_neg (by simp at e2;simp [e2])]
   simp only [go_sem,hA,zoK,k1,e1,e2,hl,Tryz.results106]
  | true=>
   rw [if_pos (by simp at e1 e2;exact⟨e1,e2⟩)]
   simp only [go_sem,hA,zoK,k1,e1,e2,hl,Tryz.results106]
   simp at e1;rw [e1]
theorem zFQ (s:ByteArray) (hs:s.size<=1048576):Con Tryz.prog 109 [.d (.raw (.string s))] (zew (ofD s.data.toList)):=by
 refine kO Tryz.func109 Tryz.ntmps109 fun A hA=>?_
 refine goC 400 ?_
 simp only [go_sem,hA]
 refine gC (zAu s _ _ zCq hs) ?_ rfl (by simp only [go_sem,zU])
 simp only [go_sem,hA]
 refine gC (zAu s _ _ zCp hs) ?_ rfl (by simp only [go_sem,zU])
 unfold ofD
 cases e1:decide (zdW zoD s.data.toList=0) with
 | false=>
  rw [if_neg (by simp at e1;simp [e1])]
  simp only [go_sem,hA,e1,zT,Bool.false_and,Tryz.results109]
 | true=>
 cases e2:decide (zdW zoC s.data.toList=0) with
 | false=>
  rw [if_neg (by simp at e2;simp [e2])]
  simp only [go_sem,hA,e1,e2,zT,Bool.and_false,Tryz.results109]
 | true=>
  rw [if_pos (by simp at e1 e2;exact⟨e1,e2⟩)]
  simp only [go_sem,hA,e1,e2,zT,Bool.and_self,Tryz.results109]
  simp at e1;rw [e1]
def zcH (l:List UInt8):Nat->Nat->Nat->Nat->Nat × Nat × Int
 | 0,_,_,_=>(0,0,13)
 | k+1,i,n,u=>match l[i]? with
  | none=>(0,0,12)
  | some c=>if 128<=c.toNat then zcH l k (i+1) (n+(c.toNat - 128) * u) (u * 128) else if (c.toNat=0/\0<i)\/1099511627776<n+c.toNat * u then (0,0,13) else (n+c.toNat * u,i+1,0)
def zbx (s:ByteArray):Nat × Nat × Int:=zcH s.data.toList 6 0 0 1
abbrev avI (r:Nat × Nat × Int):AV:=.tup [.d (.raw (.int .i64 r.1)),.d (.raw (.int .i64 r.2.1)),.d (.raw (.int .i64 r.2.2))]
theorem zas (s:ByteArray):s.data.toList.length=s.size:=Array.length_toList
theorem getD_some {l:List UInt8} {q:Nat} {c:UInt8} (h:l[q]? = some c):l.getD q 0=c:=by rw [List.getD_eq_getElem?_getD,h];rfl
theorem zzM {q:Nat} (h:q<6):128 ^ q<=34359738368:=by
 have:128 ^ q<=128 ^ 5:=Nat.pow_le_pow_right (by decide) (by omega)
 have h5:(128:Nat) ^ 5=34359738368:=by decide
 omega
abbrev zov (s:ByteArray) (n u q:Nat):St:=⟨[(0,.d (.raw (.string s))),(5,.d (.raw (.int .i64 n))),(6,.d (.raw (.int .i64 u))),(9,.d (.raw (.int .i64 q)))],[],[]⟩
theorem zjB (s:ByteArray) (_hs:s.size<=1048576):Con Tryz.prog 251 [.d (.raw (.string s))] (avI (zbx s)):=by
 refine kO Tryz.func251 Tryz.ntmps251 fun A hA=>?_
 have hl:=zas s
 refine goC 400 ?_
 simp only [go_sem,hA]
 refine zc [0,5,6,9] [] [] (fun x σ=>∃ q n u:Nat,q<=6/\x=6 - q/\u=128 ^ q/\n<u/\zbx s=zcH s.data.toList (6 - q) q n u/\σ=zov s n u q) 6 ⟨0,0,1,by omega,by omega,rfl,by omega,rfl,by simp only [go_sem,zov]⟩ ?_
 rintro x σ ⟨q,n,u,hq,rfl,hu,hn,hG,rfl⟩
 refine goC 400 ?_
 by_cases h6:q<6
 ·have k1:decide ((q:Int)<6)=true:=decide_eq_true (by omega)
  have hp:=zzM h6
  rw [show 6 - q=(5 - q)+1 by omega,zcH] at hG
  cases hc:s.data.toList[q]? with
  | none=>
   rw [hc] at hG
   have:=List.getElem?_eq_none_iff.1 hc
   have k2:decide ((s.size:Int)<=(q:Int))=true:=decide_eq_true (by omega)
   simp only [go_sem,hA,zov,k1,k2,hG,Tryz.results251]
   rfl
  | some c=>
   rw [hc] at hG
   simp only at hG
   obtain⟨hlt,_⟩:=List.getElem?_eq_some_iff.1 hc
   have k2:decide ((s.size:Int)<=(q:Int))=false:=decide_eq_false (by omega)
   have hc8:=c.toNat_lt
   have hw:IntKind.i64.wrap (c.toNat:Nat)=(c.toNat:Nat):=zff (by unfold za;omega)
   by_cases h8:128<=c.toNat
   ·have k3:decide ((128:Int)<=(c.toNat:Int))=true:=decide_eq_true (by omega)
    rw [if_pos h8] at hG
    have hm:(c.toNat - 128) * u<=127 * u:=Nat.mul_le_mul_right u (by omega)
    have e1:((c.toNat:Int) - 128) * (u:Int)=(((c.toNat - 128) * u:Nat):Int):=by
     rw [Int.natCast_mul];congr 1;omega
    have e2:(n:Int)+(((c.toNat - 128) * u:Nat):Int)=((n+(c.toNat - 128) * u:Nat):Int):=by omega
    have e3:(u:Int) * 128=((u * 128:Nat):Int):=by omega
    simp only [go_sem,hA,zov,k1,k2,k3,Int.toNat_natCast,getD_some hc,hw,e1,e2,e3]
    exact⟨⟨by omega,by omega⟩,by unfold za;omega,by unfold za;omega,by unfold za;omega,by unfold za;omega,by unfold za;omega,6 - (q+1),by omega,q+1,_,_,by omega,rfl,by rw [hu,Nat.pow_succ],by omega,by rw [show 6 - (q+1)=5 - q by omega];exact hG,rfl⟩
   ·have k3:decide ((128:Int)<=(c.toNat:Int))=false:=decide_eq_false (by omega)
    rw [if_neg h8] at hG
    have hm:c.toNat * u<=127 * u:=Nat.mul_le_mul_right u (by omega)
    have e1:(c.toNat:Int) * (u:Int)=((c.toNat * u:Nat):Int):=by rw [Int.natCast_mul]
    have e2:(n:Int)+((c.toNat * u:Nat):Int)=((n+c.toNat * u:Nat):Int):=by omega
    by_cases hz:c.toNat=0/\0<q
    ·have k4:decide ((c.toNat:Int)=0)=true:=decide_eq_true (by omega)
     have k5:decide ((0:Int)<(q:Int))=true:=decide_eq_true (by omega)
     rw [if_pos (.inl hz)] at hG
     simp only [go_sem,hA,zov,k1,k2,k3,k4,k5,Int.toNat_natCast,getD_some hc,hw,e1,e2,hG,undef,Tryz.results251]
     exact⟨⟨by omega,by omega⟩,by unfold za;omega,by unfold za;omega,rfl⟩
    ·have k45:decide ((c.toNat:Int)=0)=false\/(decide ((c.toNat:Int)=0)=true/\decide ((0:Int)<(q:Int))=false):=by
      by_cases h0:c.toNat=0
      ·exact .inr ⟨decide_eq_true (by omega),decide_eq_false (by omega)⟩
      ·exact .inl (decide_eq_false (by omega))
     by_cases hb:1099511627776<n+c.toNat * u
     ·have k6:decide ((1099511627776:Int)<((n+c.toNat * u:Nat):Int))=true:=decide_eq_true (by omega)
      rw [if_pos (.inr hb)] at hG
      rcases k45 with k4 | ⟨k4,k5⟩
      case' inl=>simp only [go_sem,hA,zov,k1,k2,k3,k4,k6,Int.toNat_natCast,getD_some hc,hw,e1,e2,hG,undef,Tryz.results251]
      case' inr=>simp only [go_sem,hA,zov,k1,k2,k3,k4,k5,k6,Int.toNat_natCast,getD_some hc,hw,e1,e2,hG,Tryz.results251]
      all_goals exact⟨⟨by omega,by omega⟩,by unfold za;omega,by unfold za;omega,rfl⟩
     ·have k6:decide ((1099511627776:Int)<((n+c.toNat * u:Nat):Int))=false:=decide_eq_false (by omega)
      rw [if_neg (fun h=>h.elim hz hb)] at hG
      rcases k45 with k4 | ⟨k4,k5⟩
      case' inl=>simp only [go_sem,hA,zov,k1,k2,k3,k4,k6,Int.toNat_natCast,getD_some hc,hw,e1,e2,hG,undef,Tryz.results251]
      case' inr=>simp only [go_sem,hA,zov,k1,k2,k3,k4,k5,k6,Int.toNat_natCast,getD_some hc,hw,e1,e2,hG,Tryz.results251]
      all_goals exact⟨⟨by omega,by omega⟩,by unfold za;omega,by unfold za;omega,by unfold za;omega,rfl⟩
 ·have k1:decide ((q:Int)<6)=false:=decide_eq_false (by omega)
  rw [show 6 - q=0 by omega,zcH] at hG
  simp only [go_sem,hA,zov,k1,hG,Tryz.results251]
  rfl
abbrev zjd (s:ByteArray) (n u q:Nat):St:=⟨[(0,.d (.raw (.string s))),(5,.d (.raw (.int .i64 n))),(6,.d (.raw (.int .i64 u))),(7,.d (.raw (.int .i64 q)))],[],[]⟩
theorem zoM (s:ByteArray) (hs:s.size<=1048576):Con Tryz.prog 202 [.d (.raw (.string s))] (avI (zbx s)):=by
 refine kO Tryz.func202 Tryz.ntmps202 fun A hA=>?_
 have hl:=zas s
 refine goC 400 ?_
 simp only [go_sem,hA]
 refine zc [0,5,6,7] [] [] (fun x σ=>∃ q n u:Nat,q<=6/\q<=s.size/\x=6 - q/\u=128 ^ q/\n<u/\zbx s=zcH s.data.toList (6 - q) q n u/\σ=zjd s n u q) 6 ⟨0,0,1,by omega,by omega,by omega,rfl,by omega,rfl,by simp only [go_sem,zjd]⟩ ?_
 rintro x σ ⟨q,n,u,hq,hqs,rfl,hu,hn,hG,rfl⟩
 refine goC 400 ?_
 by_cases h6:q<6
 ·have k1:decide ((q:Int)<6)=true:=decide_eq_true (by omega)
  have hp:=zzM h6
  rw [show 6 - q=(5 - q)+1 by omega,zcH] at hG
  cases hc:s.data.toList[q]? with
  | none=>
   rw [hc] at hG
   have:=List.getElem?_eq_none_iff.1 hc
   have k2:decide ((q:Int)=(s.size:Int))=true:=decide_eq_true (by omega)
   simp only [go_sem,hA,zjd,k1,k2,hG,Tryz.results202]
   rfl
  | some c=>
   rw [hc] at hG
   simp only at hG
   obtain⟨hlt,_⟩:=List.getElem?_eq_some_iff.1 hc
   have k2:decide ((q:Int)=(s.size:Int))=false:=decide_eq_false (by omega)
   have hc8:=c.toNat_lt
   have em:(c.toNat:Int).tmod 128=((c.toNat % 128:Nat):Int):=by rw [Int.tmod_eq_emod_of_nonneg (by omega)];omega
   have hw:IntKind.i64.wrap ((c.toNat % 128:Nat):Int)=((c.toNat % 128:Nat):Int):=zff (by unfold za;omega)
   have e3:(u:Int) * 128=((u * 128:Nat):Int):=by omega
   by_cases h8:128<=c.toNat
   ·have k3:decide ((c.toNat:Int)<128)=false:=decide_eq_false (by omega)
    rw [if_pos h8] at hG
    have hm:(c.toNat - 128) * u<=127 * u:=Nat.mul_le_mul_right u (by omega)
    have e1:(u:Int) * ((c.toNat % 128:Nat):Int)=(((c.toNat - 128) * u:Nat):Int):=by
     rw [Int.mul_comm,Int.natCast_mul];congr 1;omega
    have e2:(n:Int)+(((c.toNat - 128) * u:Nat):Int)=((n+(c.toNat - 128) * u:Nat):Int):=by omega
    simp only [go_sem,hA,zjd,k1,k2,k3,Int.toNat_natCast,getD_some hc,em,hw,e1,e2,e3]
    exact⟨⟨by omega,by omega⟩,by decide,by unfold za;omega,by unfold za;omega,by unfold za;omega,⟨by omega,by omega⟩,by unfold za;omega,6 - (q+1),by omega,q+1,_,_,by omega,by omega,rfl,by rw [hu,Nat.pow_succ],by omega,by rw [show 6 - (q+1)=5 - q by omega];exact hG,rfl⟩
   ·have k3:decide ((c.toNat:Int)<128)=true:=decide_eq_true (by omega)
    rw [if_neg h8] at hG
    have hm:c.toNat * u<=127 * u:=Nat.mul_le_mul_right u (by omega)
    have e1:(u:Int) * ((c.toNat % 128:Nat):Int)=((c.toNat * u:Nat):Int):=by
     rw [Int.mul_comm,Int.natCast_mul];congr 1;omega
    have e2:(n:Int)+((c.toNat * u:Nat):Int)=((n+c.toNat * u:Nat):Int):=by omega
    by_cases hb:1099511627776<n+c.toNat * u
    ·have k6:decide ((1099511627776:Int)<((n+c.toNat * u:Nat):Int))=true:=decide_eq_true (by omega)
     rw [if_pos (.inr hb)] at hG
     simp only [go_sem,hA,zjd,k1,k2,k3,k6,Int.toNat_natCast,getD_some hc,em,hw,e1,e2,e3,hG,undef,Tryz.results202]
     exact⟨⟨by omega,by omega⟩,by decide,by unfold za;omega,by unfold za;omega,by unfold za;omega,⟨by omega,by omega⟩,rfl⟩
    ·have k6:decide ((1099511627776:Int)<((n+c.toNat * u:Nat):Int))=false:=decide_eq_false (by omega)
     by_cases h0:0<q
     ·have k5:decide ((0:Int)<(q:Int))=true:=decide_eq_true (by omega)
      by_cases hz:c.toNat=0
      ·have k4:decide ((c.toNat:Int)=0)=true:=decide_eq_true (by omega)
       rw [if_pos (.inl ⟨hz,h0⟩)] at hG
       simp only [go_sem,hA,zjd,k1,k2,k3,k4,k5,k6,Int.toNat_natCast,getD_some hc,em,hw,e1,e2,e3,hG,Tryz.results202]
       exact⟨⟨by omega,by omega⟩,by decide,by unfold za;omega,by unfold za;omega,by unfold za;omega,⟨by omega,by omega⟩,⟨by omega,by omega⟩,rfl⟩
      ·have k4:decide ((c.toNat:Int)=0)=false:=decide_eq_false (by omega)
       rw [if_neg (fun h=>h.elim (fun h=>hz h.1) hb)] at hG
       simp only [go_sem,hA,zjd,k1,k2,k3,k4,k5,k6,Int.toNat_natCast,getD_some hc,em,hw,e1,e2,e3,hG,Tryz.results202]
       exact⟨⟨by omega,by omega⟩,by decide,by unfold za;omega,by unfold za;omega,by unfold za;omega,⟨by omega,by omega⟩,⟨by omega,by omega⟩,by unfold za;omega,rfl⟩
     ·have k5:decide ((0:Int)<(q:Int))=false:=decide_eq_false (by omega)
      rw [if_neg (fun h=>h.elim (fun h=>h0 h.2) hb)] at hG
      simp only [go_sem,hA,zjd,k1,k2,k3,k5,k6,Int.toNat_natCast,getD_some hc,em,hw,e1,e2,e3,hG,undef,Tryz.results202]
      exact⟨⟨by omega,by omega⟩,by decide,by unfold za;omega,by unfold za;omega,by unfold za;omega,⟨by omega,by omega⟩,by unfold za;omega,rfl⟩
 ·have k1:decide ((q:Int)<6)=false:=decide_eq_false (by omega)
  rw [show 6 - q=0 by omega,zcH] at hG
  simp only [go_sem,hA,zjd,k1,hG,Tryz.results202]
  rfl
theorem znp (l:List UInt8):∀ (k i n u:Nat),i<=l.length->(zcH l k i n u).2.2=0->i<(zcH l k i n u).2.1/\(zcH l k i n u).2.1<=l.length/\(zcH l k i n u).1<=1099511627776
 | 0,i,n,u,_,h=>by rw [zcH] at h;cases h
 | k+1,i,n,u,hi,h=>by
  rw [zcH] at h ⊢
  cases hc:l[i]? with
  | none=>rw [hc] at h;cases h
  | some c=>
   rw [hc] at h
   simp only at h ⊢
   obtain⟨hlt,_⟩:=List.getElem?_eq_some_iff.1 hc
   by_cases h8:128<=c.toNat
   ·rw [if_pos h8] at h ⊢
    have:=znp l k (i+1) _ _ (by omega) h
    exact⟨by omega,this.2⟩
   ·rw [if_neg h8] at h ⊢
    by_cases hb:(c.toNat=0/\0<i)\/1099511627776<n+c.toNat * u
    ·rw [if_pos hb] at h;cases h
    ·rw [if_neg hb]
     exact⟨Nat.lt_succ_self i,hlt,Nat.le_of_not_lt fun h=>hb (.inr h)⟩
theorem zno (l:List UInt8):∀ (k i n u:Nat),(zcH l k i n u).2.2≠0->(zcH l k i n u).1=0/\(zcH l k i n u).2.1=0
 | 0,i,n,u,_=>⟨rfl,rfl⟩
 | k+1,i,n,u,h=>by
  rw [zcH] at h ⊢
  cases hc:l[i]? with
  | none=>exact⟨rfl,rfl⟩
  | some c=>
   rw [hc] at h
   simp only at h ⊢
   by_cases h8:128<=c.toNat
   ·rw [if_pos h8] at h ⊢
    exact zno l k _ _ _ h
   ·rw [if_neg h8] at h ⊢
    by_cases hb:(c.toNat=0/\0<i)\/1099511627776<n+c.toNat * u
    ·rw [if_pos hb];exact⟨rfl,rfl⟩
    ·rw [if_neg hb] at h;exact absurd rfl h
theorem zdv {s:ByteArray} (h:(zbx s).2.2=0):0<(zbx s).2.1/\(zbx s).2.1<=s.size/\(zbx s).1<=1099511627776:=by
 have:=znp s.data.toList 6 0 0 1 (by omega) h
 rw [zas] at this
 exact this
theorem zyc {s:ByteArray} (h:(zbx s).2.2≠0):(zbx s).1=0/\(zbx s).2.1=0:=zno _ _ _ _ _ h
def zcO (s:ByteArray):ByteArray × Nat × Int:=if (zbx s).2.2≠0 then (⟨#[]⟩,0,(zbx s).2.2) else if 65536<(zbx s).1 then (⟨#[]⟩,0,13) else if s.size - (zbx s).2.1<(zbx s).1 then (⟨#[]⟩,0,12) else (s.extract (zbx s).2.1 ((zbx s).2.1+(zbx s).1),(zbx s).2.1+(zbx s).1,0)
theorem zpk {s:ByteArray} (h:(zcO s).2.2=0):0<(zcO s).2.1/\(zcO s).2.1<=s.size:=by
 unfold zcO at h ⊢
 split at h
 ·rename_i h1;exact absurd h h1
 ·rename_i h1
  have hf:=zdv (Decidable.not_not.1 h1)
  rw [if_neg h1]
  split at h
  ·cases h
  ·rename_i h2
   rw [if_neg h2]
   split at h
   ·cases h
   ·rename_i h3
    rw [if_neg h3]
    exact⟨by simp only;omega,by simp only;omega⟩
theorem zyb {s:ByteArray} (h:(zcO s).2.2≠0):(zcO s).1=⟨#[]⟩/\(zcO s).2.1=0:=by
 unfold zcO at h ⊢
 split
 ·exact⟨rfl,rfl⟩
 ·rename_i h1
  rw [if_neg h1] at h
  split
  ·exact⟨rfl,rfl⟩
  ·rename_i h2
   rw [if_neg h2] at h
   split
   ·exact⟨rfl,rfl⟩
   ·rename_i h3
    rw [if_neg h3] at h
    exact absurd rfl h
abbrev avT (r:ByteArray × Nat × Int):AV:=.tup [.d (.raw (.string r.1)),.d (.raw (.int .i64 r.2.1)),.d (.raw (.int .i64 r.2.2))]
theorem zky (s:ByteArray) (hs:s.size<=1048576):Con Tryz.prog 252 [.d (.raw (.string s))] (avT (zcO s)):=by
 refine kO Tryz.func252 Tryz.ntmps252 fun A hA=>?_
 refine goC 400 ?_
 simp only [go_sem,hA]
 refine gC (zjB s hs) ?_
 have hfit:=zdv (s:=s)
 unfold zcO
 generalize zbx s=r at *
 obtain⟨n,k,e⟩:=r
 simp only at hfit ⊢
 by_cases he:e≠0
 ·have k1:(decide ¬ e=0)=true:=decide_eq_true he
  rw [if_pos he]
  simp only [go_sem,hA,k1,Tryz.results252]
  rfl
 have hf:=hfit (Decidable.not_not.1 he)
 have k1:(decide ¬ e=0)=false:=decide_eq_false he
 rw [if_neg he]
 by_cases h2:65536<n
 ·have k2:decide ((65536:Int)<(n:Int))=true:=decide_eq_true (by omega)
  rw [if_pos h2]
  simp only [go_sem,hA,k1,k2,Tryz.results252]
  rfl
 have k2:decide ((65536:Int)<(n:Int))=false:=decide_eq_false (by omega)
 rw [if_neg h2]
 by_cases h3:s.size - k<n
 ·have k3:decide ((s.size:Int) - (k:Int)<(n:Int))=true:=decide_eq_true (by omega)
  rw [if_pos h3]
  simp only [go_sem,hA,k1,k2,k3,Tryz.results252]
  exact⟨by unfold za;omega,rfl⟩
 have k3:decide ((s.size:Int) - (k:Int)<(n:Int))=false:=decide_eq_false (by omega)
 rw [if_neg h3]
 have e4:(k:Int)+(n:Int)=((k+n:Nat):Int):=by omega
 simp only [go_sem,hA,k1,k2,k3,e4,Int.toNat_natCast,Tryz.results252]
 exact⟨by unfold za;omega,by unfold za;omega,⟨by omega,by omega,by omega⟩,by unfold za;omega⟩
theorem zuC (s:ByteArray) (hs:s.size<=1048576):Con Tryz.prog 206 [.d (.raw (.string s))] (avT (zcO s)):=by
 refine kO Tryz.func206 Tryz.ntmps206 fun A hA=>?_
 refine goC 400 ?_
 simp only [go_sem,hA]
 refine gC (zoM s hs) ?_
 have hfit:=zdv (s:=s)
 unfold zcO
 generalize zbx s=r at *
 obtain⟨n,k,e⟩:=r
 simp only at hfit ⊢
 by_cases he:e≠0
 ·have k1:(decide ¬ e=0)=true:=decide_eq_true he
  rw [if_pos he]
  simp only [go_sem,hA,k1,Tryz.results206]
  rfl
 have hf:=hfit (Decidable.not_not.1 he)
 have k1:(decide ¬ e=0)=false:=decide_eq_false he
 rw [if_neg he]
 by_cases h2:65536<n
 ·have k2:decide ((65536:Int)<(n:Int))=true:=decide_eq_true (by omega)
  rw [if_pos h2]
  simp only [go_sem,hA,k1,k2,Tryz.results206]
  rfl
 have k2:decide ((65536:Int)<(n:Int))=false:=decide_eq_false (by omega)
 rw [if_neg h2]
 by_cases h3:s.size - k<n
 ·have k3:decide ((s.size:Int) - (k:Int)<(n:Int))=true:=decide_eq_true (by omega)
  rw [if_pos h3]
  simp only [go_sem,hA,k1,k2,k3,Tryz.results206]
  exact⟨by unfold za;omega,rfl⟩
 have k3:decide ((s.size:Int) - (k:Int)<(n:Int))=false:=decide_eq_false (by omega)
 rw [if_neg h3]
 have e4:(k:Int)+(n:Int)=((k+n:Nat):Int):=by omega
 simp only [go_sem,hA,k1,k2,k3,e4,Int.toNat_natCast,Tryz.results206]
 exact⟨by unfold za;omega,by unfold za;omega,⟨by omega,by omega,by omega⟩,by unfold za;omega⟩
theorem zCN (s:ByteArray) (f:FuncId) (at_ k:Nat) (e:Int) (n:Int) (hk:at_<=s.size) (hb:at_+k<=1099511627776) (hc:Con Tryz.prog f [.d (.raw (.string (s.extract at_ s.size)))] (.tup [.d (.raw (.int .i64 n)),.d (.raw (.int .i64 k)),.d (.raw (.int .i64 e))])):Con Tryz.prog 313 [.d (.raw (.string s)),.d (.raw (.int .i64 at_)),.fn f []] (.tup [.d (.raw (.int .i64 n)),.d (.raw (.int .i64 ((at_+k:Nat):Int))),.d (.raw (.int .i64 e))]):=by
 refine kO Tryz.func313 Tryz.ntmps313 fun A hA=>?_
 have e4:(at_:Int)+(k:Int)=((at_+k:Nat):Int):=by omega
 refine goC 400 ?_
 simp only [go_sem,hA,Int.toNat_natCast]
 refine⟨⟨by omega,by omega,by omega⟩,?_⟩
 refine zeu 400 (cs:=[]) hc rfl rfl (by simp only [go_sem]) (by simp only [go_sem,zU]) (by simp only [go_sem,hA]) ?_
 simp only [go_sem,hA,e4,Tryz.results313]
 exact(by unfold za;omega)
theorem zCM (s:ByteArray) (f:FuncId) (at_ k:Nat) (e:Int) (t:ByteArray) (hk:at_<=s.size) (hb:at_+k<=1099511627776) (hc:Con Tryz.prog f [.d (.raw (.string (s.extract at_ s.size)))] (.tup [.d (.raw (.string t)),.d (.raw (.int .i64 k)),.d (.raw (.int .i64 e))])):Con Tryz.prog 314 [.d (.raw (.string s)),.d (.raw (.int .i64 at_)),.fn f []] (.tup [.d (.raw (.string t)),.d (.raw (.int .i64 ((at_+k:Nat):Int))),.d (.raw (.int .i64 e))]):=by
 refine kO Tryz.func314 Tryz.ntmps314 fun A hA=>?_
 have e4:(at_:Int)+(k:Int)=((at_+k:Nat):Int):=by omega
 refine goC 400 ?_
 simp only [go_sem,hA,Int.toNat_natCast]
 refine⟨⟨by omega,by omega,by omega⟩,?_⟩
 refine zeu 400 (cs:=[]) hc rfl rfl (by simp only [go_sem]) (by simp only [go_sem,zU]) (by simp only [go_sem,hA]) ?_
 simp only [go_sem,hA,e4,Tryz.results314]
 exact(by unfold za;omega)
def tsGo (s:ByteArray):Nat->Nat->List ByteArray->List ByteArray × Nat × Int
 | 0,p,acc=>(acc,p,0)
 | k+1,p,acc=>if (zcO (s.extract p s.size)).2.2≠0 then ([],0,(zcO (s.extract p s.size)).2.2) else tsGo s k (p+(zcO (s.extract p s.size)).2.1) (acc++[(zcO (s.extract p s.size)).1])
def zwA (s:ByteArray):List ByteArray × Nat × Int:=if (zbx s).2.2≠0 then ([],0,(zbx s).2.2) else if 1000<(zbx s).1 then ([],0,13) else tsGo s (zbx s).1 (zbx s).2.1 []
abbrev zGX (r:List ByteArray × Nat × Int):AV:=.tup [.d (.sl (zQ r.1)),.d (.raw (.int .i64 r.2.1)),.d (.raw (.int .i64 r.2.2))]
theorem zqP (s:ByteArray) {p:Nat} (_h:p<=s.size):(s.extract p s.size).size=s.size - p:=by simp [ByteArray.size_extract]
abbrev zwy (s:ByteArray) (n p:Nat) (acc:List ByteArray) (q:Nat):St:=⟨[(0,.d (.raw (.string s))),(6,.d (.raw (.int .i64 p))),(8,.grow 99 (zQ acc)),(21,.d (.raw (.int .i64 n))),(22,.d (.raw (.int .i64 q)))],[],[(99,some ⟨1,9,acc.length,none⟩)]⟩
theorem zvs (s:ByteArray) (hs:s.size<=1048576):Con Tryz.prog 279 [.d (.raw (.string s))] (zGX (zwA s)):=by
 refine kO Tryz.func279 Tryz.ntmps279 fun A hA=>?_
 refine goC 400 ?_
 simp only [go_sem,hA]
 have h0:=zCN s 251 0 (zbx s).2.1 (zbx s).2.2 (zbx s).1 (Nat.zero_le _) (by
  by_cases h:(zbx s).2.2=0
  ·have:=zdv h;omega
  ·have:=zyc h;omega) (by
  have e:s.extract 0 s.size=s:=by simp
  rw [e];exact zjB s hs)
 rw [Nat.zero_add] at h0
 refine gC h0 ?_ rfl (by simp only [go_sem,zU])
 clear h0
 unfold zwA
 have hfit:=zdv (s:=s)
 generalize zbx s=r at *
 obtain⟨n,k,e⟩:=r
 simp only at hfit ⊢
 by_cases he:e≠0
 ·have k1:(decide ¬ e=0)=true:=decide_eq_true he
  rw [if_pos he]
  simp only [go_sem,hA,k1,Tryz.results279]
  rfl
 have hf:=hfit (Decidable.not_not.1 he)
 have k1:(decide ¬ e=0)=false:=decide_eq_false he
 rw [if_neg he]
 by_cases h2:1000<n
 ·have k2:decide ((1000:Int)<(n:Int))=true:=decide_eq_true (by omega)
  rw [if_pos h2]
  simp only [go_sem,hA,k1,k2,Tryz.results279]
  rfl
 have k2:decide ((1000:Int)<(n:Int))=false:=decide_eq_false (by omega)
 rw [if_neg h2]
 simp only [go_sem,hA,k1,k2]
 refine zgp 99 8 1 9 (by simp only [go_sem]) rfl ?_
 refine zc [0,6,8,21,22] [] [99] (fun x σ=>∃ (q p:Nat) (acc:List ByteArray),q<=n/\x=n - q/\p<=s.size/\acc.length=q/\tsGo s n k []=tsGo s (n - q) p acc/\σ=zwy s n p acc q) n ⟨0,k,[],by omega,by omega,by omega,rfl,rfl,by simp only [go_sem,zwy];rfl⟩ ?_
 rintro x σ ⟨q,p,acc,hq,rfl,hp,hlen,hG,rfl⟩
 refine goC 400 ?_
 by_cases hlt:q<n
 ·have k3:decide ((q:Int)<(n:Int))=true:=decide_eq_true (by omega)
  rw [show n - q=(n - (q+1))+1 by omega,tsGo] at hG
  have hsz:=zqP s hp
  have hft:=zpk (s:=s.extract p s.size)
  have hzt:=zyb (s:=s.extract p s.size)
  rw [hsz] at hft
  have h1:=zCM s 252 p (zcO (s.extract p s.size)).2.1 (zcO (s.extract p s.size)).2.2 (zcO (s.extract p s.size)).1 hp (by
   by_cases h:(zcO (s.extract p s.size)).2.2=0
   ·have:=hft h;omega
   ·have:=(hzt h).2;omega) (zky _ (by omega))
  simp only [go_sem,hA,zwy,k3]
  refine gC h1 ?_ rfl (by simp only [go_sem,zU])
  clear h1
  generalize zcO (s.extract p s.size)=r at *
  obtain⟨t,m,f⟩:=r
  simp only at hft hG ⊢
  by_cases hf0:f≠0
  ·have k4:(decide ¬ f=0)=true:=decide_eq_true hf0
   rw [if_pos hf0] at hG
   simp only [go_sem,hA,k4,hG,Tryz.results279]
   rfl
  ·have k4:(decide ¬ f=0)=false:=decide_eq_false hf0
   have hm:=hft (Decidable.not_not.1 hf0)
   rw [if_neg hf0] at hG
   simp only [go_sem,hA,k4,zg,zAP,zle,List.length_cons,List.length_nil]
   exact⟨⟨zgb _,zdY _,by omega⟩,by unfold za;omega,n - (q+1),by omega,q+1,p+m,acc++[t],by omega,rfl,by omega,by simp [hlen],hG,by simp [hlen]⟩
 ·have k3:decide ((q:Int)<(n:Int))=false:=decide_eq_false (by omega)
  rw [show n - q=0 by omega,tsGo] at hG
  simp only [go_sem,hA,zwy,k3,hG,Tryz.results279]
def zaQ (l:List ByteArray):List UInt8:=zb l.length++l.flatMap fun s=>zb s.size++s.data.toList
theorem zye (l:List ByteArray) (h:∀ s ∈ l,s.size<=65536):(l.flatMap fun s=>zb s.size++s.data.toList).length<=l.length * 66049:=by
 induction l with
 | nil=>simp
 | cons s l ih=>
  have h1:=h s (List.mem_cons_self ..)
  have h2:=zat s.size
  have h3:=ih fun x hx=>h x (List.mem_cons_of_mem _ hx)
  rw [List.flatMap_cons,List.length_append,List.length_append,zas,List.length_cons]
  omega
end
section
open Go Go.RowKit Go.Shelf
theorem toNat_lt {m:Nat} (h:m<256):(m.toUInt8).toNat=m:=by
 rw [Nat.toUInt8,UInt8.toNat_ofNat'];exact Nat.mod_eq_of_lt h
theorem zyd (l t:List UInt8):∀ (m k i a u:Nat),l.drop i=zb m++t->(zb m).length<=k->(i=0\/0<m)->a+m * u<=1099511627776->zcH l k i a u=(a+m * u,i+(zb m).length,0):=by
 intro m
 induction m using Nat.strongRecOn with
 | ind m ih=>
  intro k i a u hl hk hi hb
  by_cases h:m<128
  ·rw [putL_lt h] at hl hk ⊢
   have h0:l[i]? = some m.toUInt8:=by
    have:=congrArg (·[0]?) hl
    simpa [List.getElem?_drop] using this
   cases k with
   | zero=>simp at hk
   | succ k=>
    rw [zcH,h0]
    simp only [toNat_lt (show m<256 by omega)]
    rw [if_neg (by omega),if_neg (by omega)]
    rfl
  ·rw [zep h] at hl hk ⊢
   have h0:l[i]? = some (m % 128+128).toUInt8:=by
    have:=congrArg (·[0]?) hl
    simpa [List.getElem?_drop] using this
   have h1:l.drop (i+1)=zb (m / 128)++t:=by
    have:=congrArg (List.drop 1) hl
    simpa [List.drop_drop] using this
   cases k with
   | zero=>simp at hk
   | succ k=>
    have e:a+(m % 128) * u+m / 128 * (u * 128)=a+m * u:=by
     have h2:m * u=(128 * (m / 128)+m % 128) * u:=by rw [Nat.div_add_mod]
     rw [h2,Nat.add_mul,Nat.mul_comm u 128,<- Nat.mul_assoc,Nat.mul_comm (m / 128) 128];omega
    rw [zcH,h0]
    simp only [toNat_lt (show m % 128+128<256 by omega)]
    rw [if_pos (by omega),Nat.add_sub_cancel]
    rw [ih (m / 128) (by omega) k (i+1) (a+m % 128 * u) (u * 128) h1 (by simpa using hk) (by omega) (by omega),e,List.length_cons]
    simp only [Prod.mk.injEq,and_true,true_and];omega
theorem zzK (k:Nat):∀ m:Nat,m<128 ^ (k+1)->(zb m).length<=k+1:=by
 induction k with
 | zero=>intro m h;rw [putL_lt (by simpa using h)];simp
 | succ k ih=>
  intro m h
  by_cases h1:m<128
  ·rw [putL_lt h1];simp
  ·rw [zep h1,List.length_cons]
   have:=ih (m / 128) (by rw [Nat.div_lt_iff_lt_mul (by decide)];rw [Nat.pow_succ] at h;exact h)
   omega
theorem zbp {m:Nat} (h:m<=1099511627776):(zb m).length<=6:=zzK 5 m (by
 have:(128:Nat) ^ 6=4398046511104:=by decide
 omega)
theorem zhf (m:Nat):0<(zb m).length:=by
 by_cases h:m<128
 ·rw [putL_lt h];simp
 ·rw [zep h];simp
theorem zfT {m:Nat} (hm:m<=1099511627776) (t:List UInt8):zbx ⟨(zb m++t).toArray⟩=(m,(zb m).length,0):=by
 unfold zbx
 rw [zyd (zb m++t) t m 6 0 0 1 rfl (zbp hm) (.inl rfl) (by omega)]
 simp
theorem zti (l:List UInt8) (a b:Nat):(⟨l.toArray⟩:ByteArray).extract a b=⟨((l.drop a).take (b - a)).toArray⟩:=by
 apply ByteArray.ext
 rw [ByteArray.data_extract]
 simp [List.extract_eq_take_drop]
theorem znr (l:List UInt8) (a:Nat):(⟨l.toArray⟩:ByteArray).extract a (⟨l.toArray⟩:ByteArray).size=⟨(l.drop a).toArray⟩:=by
 rw [zti,show(⟨l.toArray⟩:ByteArray).size=l.length from by simp [ByteArray.size],List.take_of_length_le (by simp)]
def zi (s:ByteArray):List UInt8:=zb s.size++s.data.toList
theorem zhp {s:ByteArray} (hs:s.size<=65536) (t:List UInt8):zcO ⟨(zi s++t).toArray⟩=(s,(zi s).length,0):=by
 have e:zi s++t=zb s.size++(s.data.toList++t):=by simp [zi]
 have hsz:(⟨(zi s++t).toArray⟩:ByteArray).size=(zb s.size).length+(s.size+t.length):=by
  rw [show(⟨(zi s++t).toArray⟩:ByteArray).size=(zi s++t).length from by simp [ByteArray.size],e];simp []
 have h1:zbx ⟨(zi s++t).toArray⟩=(s.size,(zb s.size).length,0):=by rw [e];exact zfT (by omega) _
 unfold zcO
 rw [h1,hsz]
 rw [if_neg (by simp),if_neg (by simp only;omega),if_neg (by simp only;omega)]
 simp only [zti,Prod.mk.injEq,and_true]
 refine⟨?_,by simp [zi]⟩
 rw [e,List.drop_left,Nat.add_sub_cancel_left,<- zas s,List.take_left]
end
end Go.Proofs.YtpnjjmcimjlfkaaGreatDoor
