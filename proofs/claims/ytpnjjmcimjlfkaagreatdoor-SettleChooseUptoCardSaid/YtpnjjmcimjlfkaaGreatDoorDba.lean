/- Texts of this proof, part 27: what the proof uses of them. -/
import Derived.Test.YtpnjjmcimjlfkaaGreatDoorDaz
import Derived.Test.YtpnjjmcimjlfkaaGreatDoorDaq
set_option maxRecDepth 100000
set_option maxHeartbeats 64000000
namespace Go.Proofs.YtpnjjmcimjlfkaaGreatDoor
section
open Go Go.RowKit
abbrev zsW (s:ByteArray) (q:Nat):St:=⟨[(0,.d (.raw (.string s))),(5,.d (.raw (.int .i64 q)))],[],[]⟩
theorem zFs (s:ByteArray) (hs:s.size≤1099511627776):Con Tryz.prog 154 [.d (.raw (.string s))] (.tup [.d (.raw (.string (ziV s).1)),.d (.raw (.string (ziV s).2.1)),.d (.raw (.bool (ziV s).2.2))]):=by
 refine zh Tryz.func154 rfl (by decide +kernel) rfl rfl (by simp [Tryz.ntmps154]) fun A hA=>?_
 rw [Tryz.ntmps154] at hA
 have hsl:s.data.toList.length=s.size:=by simp
 refine goC 400 ?_
 simp only [go_sem,hA]
 refine zd [0,5] [] [] (fun y σ=>∃ q:Nat,q≤s.size∧y=s.size - q∧(∀ j,j<q→¬ s.data.toList.getD j 0=47)∧σ=zsW s q) s.size ⟨0,by omega,by omega,by omega,by simp only [go_sem,zsW]⟩ ?_
 rintro y σ ⟨q,hq,rfl,hf,rfl⟩
 refine goC 400 ?_
 by_cases hlt:q<s.size
 ·have k1:decide ((q:Int)<(s.size:Int))=true:=decide_eq_true (by omega)
  by_cases h47:s.data.toList.getD q 0=47
  ·have g:decide (((s.data.toList.getD q 0).toNat:Int)=47)=true:=by rw [h47];rfl
   have hi:=zup (l:=s.data.toList) (q:=q) (by omega) hf h47
   have hr:ziV s=(s.extract 0 q,s.extract (q+1) s.size,true):=by unfold ziV;rw [hi,if_pos (by omega),Int.toNat_natCast]
   have hin:zc ((q:Int)+1):=by unfold zc;omega
   have hn1:((q:Int)+1).toNat=q+1:=by omega
   simp only [go_sem,hA,zsW,k1,Int.toNat_natCast,g,hr,hn1,mixed,Tryz.results154]
   exact⟨⟨by omega,by omega⟩,⟨by omega,by omega⟩,hin,⟨by omega,by omega⟩,by show chk _ _ _=true;kernel_rfl⟩
  ·have g:decide (((s.data.toList.getD q 0).toNat:Int)=47)=false:=decide_eq_false fun h=>h47 (UInt8.toNat_inj.1 (by have e47:(47:UInt8).toNat=47:=rfl;omega))
   simp only [go_sem,hA,zsW,k1,Int.toNat_natCast,g]
   refine⟨⟨by omega,by omega⟩,by unfold zc;omega,s.size - (q+1),by omega,q+1,by omega,rfl,fun j hj=>?_,rfl⟩
   by_cases e:j=q
   ·rw [e];exact h47
   ·exact hf j (by omega)
 ·have k1:decide ((q:Int)<(s.size:Int))=false:=decide_eq_false (by omega)
  obtain rfl:q=s.size:=by omega
  have hi:=zuq (l:=s.data.toList) (fun j hj=>hf j (by omega))
  have hr:ziV s=(s,⟨#[]⟩,false):=by unfold ziV;rw [hi,if_neg (by omega)]
  simp only [go_sem,hA,zsW,k1,hr,Tryz.results154]
abbrev zAC (s:ByteArray):St:=⟨[(0,.d (.raw (.string s)))],[],[]⟩
theorem zxv (s:ByteArray):Con Tryz.prog 86 [.d (.raw (.string s))] (.d (.raw (.bool (zbF s.data.toList)))):=by
 refine zh Tryz.func86 rfl (by decide +kernel) rfl rfl (by simp [Tryz.ntmps86]) fun A hA=>?_
 rw [Tryz.ntmps86] at hA
 have hsl:s.data.toList.length=s.size:=by simp
 refine goC 400 ?_
 by_cases h1:100<s.size
 ·have g1:decide ((100:Int)<(s.size:Int))=true:=decide_eq_true (by omega)
  have hr:=znt (l:=s.data.toList) (by omega)
  simp only [go_sem,hA,g1,hr,Tryz.results86]
 have g1:decide ((100:Int)<(s.size:Int))=false:=decide_eq_false (by omega)
 have hr0:zbF s.data.toList=zkT s.data.toList:=by
  unfold zbF zkT
  rw [decide_eq_true (by omega:s.data.toList.length≤100),Bool.true_and]
 simp only [go_sem,hA,g1]
 refine zd [0] [] [] (fun y σ=>∃ t:ByteArray,t.size≤s.size∧y=t.size∧zbF s.data.toList=zkT t.data.toList∧σ=zAC t) s.size ⟨s,by omega,rfl,hr0,by simp only [go_sem,zAC]⟩ ?_
 rintro y σ ⟨t,ht,rfl,hf,rfl⟩
 refine goC 400 ?_
 have hcut:=zwT t
 have hlt:=zEq (s:=t)
 have hc:=zFs t (by omega)
 simp only [go_sem,hA,zAC]
 refine zb 400 hc rfl (by simp only [go_sem]) (by simp only [go_sem,hA]) ?_
 generalize ziV t=r at hcut hlt
 obtain⟨a,b,more⟩:=r
 simp only at hcut hlt
 simp only [go_sem,hA]
 refine zb 400 (zAK a) rfl (by simp only [go_sem]) (by simp only [go_sem,hA]) ?_
 cases hv:zaq a.data.toList with
 | false=>
  rw [hv,Bool.false_and] at hcut
  rw [hcut] at hf
  simp only [go_sem,hA,hf,Tryz.results86]
 | true=>
  rw [hv,Bool.true_and] at hcut
  cases more with
  | false=>
   rw [if_neg (by simp)] at hcut
   rw [hcut] at hf
   simp only [go_sem,hA,hf,Tryz.results86]
  | true=>
   rw [if_pos rfl] at hcut
   have h2:=hlt rfl
   simp only [go_sem,hA]
   exact⟨b.size,h2,b,by omega,rfl,by rw [hf,hcut],rfl⟩
theorem zAW (d p:ByteArray):Con Tryz.prog 88 [.d (.raw (.string d)),.d (.raw (.string p))] (.d (.raw (.bool (zcp d p)))):=by
 refine zh Tryz.func88 rfl (by decide +kernel) rfl rfl (by simp [Tryz.ntmps88]) fun A hA=>?_
 rw [Tryz.ntmps88] at hA
 refine goC 400 ?_
 by_cases h1:d.size<p.size
 ·have g1:decide ((d.size:Int)<(p.size:Int))=true:=decide_eq_true (by omega)
  cases g2:decide (p.extract 0 d.size=d) with
  | true=>
   have hr:zcp d p=decide (((p.data.toList.getD d.size 0).toNat:Int)=47):=by
    unfold zcp
    rw [g2,decide_eq_true h1,Bool.true_and,Bool.true_and]
    refine decide_eq_decide.2 ⟨fun h=>by rw [h];rfl,fun h=>UInt8.toNat_inj.1 (by have e47:(47:UInt8).toNat=47:=rfl;omega)⟩
   simp only [go_sem,hA,g1,g2,Int.toNat_natCast,hr,Tryz.results88]
   exact⟨⟨by omega,by omega⟩,⟨by omega,by omega⟩⟩
  | false=>
   have hr:zcp d p=false:=by unfold zcp;rw [g2,Bool.false_and,Bool.and_false]
   simp only [go_sem,hA,g1,g2,Int.toNat_natCast,undef,hr,Tryz.results88]
   exact⟨by omega,by omega⟩
 ·have g1:decide ((d.size:Int)<(p.size:Int))=false:=decide_eq_false (by omega)
  have hr:zcp d p=false:=by unfold zcp;rw [decide_eq_false h1,Bool.false_and]
  simp only [go_sem,hA,g1,undef,hr,Tryz.results88]
end
section
open Go Go.RowKit Go.Shelf
attribute [local go_sem] Oper.semAt_some
theorem zFI (a b:List UInt8):(⟨a.toArray⟩:ByteArray)++⟨b.toArray⟩=⟨(a++b).toArray⟩:=by
 apply ByteArray.ext
 rw [ByteArray.data_append]
 simp
theorem zxc (a:List UInt8):(⟨a.toArray⟩:ByteArray).size=a.length:=by
 show a.toArray.size=a.length
 simp
theorem zAn {n:Int} (h0:0≤n) (h1:n<256):IntKind.u8.wrap n=n:=by
 have h:IntKind.u8.wrap n=n % 256:=rfl
 rw [h];omega
theorem zAO (n:Nat) (hn:n≤1099511627776):Con Tryz.prog 249 [.d (.raw (.int .i64 n))] (.d (.raw (.string ⟨(zbl n).toArray⟩))):=by
 induction n using Nat.strongRecOn with
 | ind n ih=>
 refine zh Tryz.func249 rfl (by decide +kernel) rfl rfl (by simp [Tryz.ntmps249]) fun A hA=>?_
 rw [Tryz.ntmps249] at hA
 refine goC 400 ?_
 by_cases h:n<128
 ·have g:decide ((n:Int)<128)=true:=decide_eq_true (by omega)
  have hw:IntKind.u8.wrap (n:Int)=n:=zAn (by omega) (by omega)
  have hr:znf [[D.raw (Value.int IntKind.u8 (n:Int))]]=some [n.toUInt8]:=rfl
  simp only [go_sem,hA,g,hw,hr,zhJ h,Tryz.results249]
 ·have g:decide ((n:Int)<128)=false:=decide_eq_false (by omega)
  have hm:(n:Int).tmod 128=((n % 128:Nat):Int):=by rw [Int.tmod_eq_emod_of_nonneg (by omega)];omega
  have hd:(n:Int).tdiv 128=((n / 128:Nat):Int):=by rw [Int.tdiv_eq_ediv_of_nonneg (by omega)];omega
  have e1:(128:Int)+((n % 128:Nat):Int)=((n % 128+128:Nat):Int):=by omega
  have hw:IntKind.u8.wrap ((n % 128+128:Nat):Int)=((n % 128+128:Nat):Int):=zAn (by omega) (by omega)
  have hr:znf [[D.raw (Value.int IntKind.u8 ((n % 128+128:Nat):Int))]]=some [(n % 128+128).toUInt8]:=rfl
  have hl:=zci (n / 128)
  have hin1:zc ((n % 128+128:Nat):Int):=by unfold zc;omega
  have hin2:zc ((n / 128:Nat):Int):=by unfold zc;omega
  simp only [go_sem,hA,g,hm,hd,e1,hw,hr,mixed]
  refine⟨by decide,hin1,⟨by decide,hin2⟩,?_⟩
  refine zbO 400 (ih (n / 128) (by omega) (by omega)) rfl (by simp only [go_sem]) (by simp only [go_sem,hA]) ?_
  simp only [go_sem,hA,zFI,zxc,zhK h,Tryz.results249]
  exact⟨by omega,by show chk _ _ _=true;kernel_rfl⟩
theorem zyT (n:Nat) (hn:n≤1099511627776):Con Tryz.prog 185 [.d (.raw (.int .i64 n))] (.tup [.d (.raw (.string ⟨(zbl n).toArray⟩)),.d (.raw (.int .i64 0))]):=by
 refine zh Tryz.func185 rfl (by decide +kernel) rfl rfl (by simp [Tryz.ntmps185]) fun A hA=>?_
 rw [Tryz.ntmps185] at hA
 have g1:decide ((n:Int)<0)=false:=decide_eq_false (by omega)
 have g2:decide ((1099511627776:Int)<(n:Int))=false:=decide_eq_false (by omega)
 refine goC 400 ?_
 simp only [go_sem,hA,g1,g2]
 refine zb 400 (zAO n hn) rfl (by simp only [go_sem]) (by simp only [go_sem,hA]) ?_
 simp only [go_sem,hA,Tryz.results185]
theorem zvE (s:ByteArray) (hs:s.size≤65536):Con Tryz.prog 186 [.d (.raw (.string s))] (.tup [.d (.raw (.string ⟨(zbl s.size++s.data.toList).toArray⟩)),.d (.raw (.int .i64 0))]):=by
 refine zh Tryz.func186 rfl (by decide +kernel) rfl rfl (by simp [Tryz.ntmps186]) fun A hA=>?_
 rw [Tryz.ntmps186] at hA
 have g1:decide ((65536:Int)<(s.size:Int))=false:=decide_eq_false (by omega)
 have hl:=zci s.size
 have e:(⟨(zbl s.size).toArray⟩:ByteArray)++s=⟨(zbl s.size++s.data.toList).toArray⟩:=by rw [← zFI]
 refine goC 400 ?_
 simp only [go_sem,hA,g1]
 refine zb 400 (zAO s.size (by omega)) rfl (by simp only [go_sem]) (by simp only [go_sem,hA]) ?_
 simp only [go_sem,hA,e,zxc,Tryz.results186]
 omega
theorem zvK (n:Nat) (hn:n≤1099511627776):Con Tryz.prog 191 [.d (.raw (.int .i64 n))] (.d (.raw (.string ⟨(zbl n).toArray⟩))):=by
 refine zh Tryz.func191 rfl (by decide +kernel) rfl rfl (by simp [Tryz.ntmps191]) fun A hA=>?_
 rw [Tryz.ntmps191] at hA
 refine goC 400 ?_
 simp only [go_sem,hA]
 refine zb 400 (zyT n hn) rfl (by simp only [go_sem]) (by simp only [go_sem,hA]) ?_
 simp only [go_sem,hA,Tryz.results191]
theorem zAZ (s:ByteArray) (hs:s.size≤65536):Con Tryz.prog 192 [.d (.raw (.string s))] (.d (.raw (.string ⟨(zbl s.size++s.data.toList).toArray⟩))):=by
 refine zh Tryz.func192 rfl (by decide +kernel) rfl rfl (by simp [Tryz.ntmps192]) fun A hA=>?_
 rw [Tryz.ntmps192] at hA
 refine goC 400 ?_
 simp only [go_sem,hA]
 refine zb 400 (zvE s hs) rfl (by simp only [go_sem]) (by simp only [go_sem,hA]) ?_
 simp only [go_sem,hA,Tryz.results192]
theorem zro (w:World):Calls Tryz.prog 250 #[.agg #[.int .u64 0,.int .u64 0]] w fun e w'=>e = .returned (.bool true)∧Below w.heap.size w w':=by
 go_enter Tryz.func250,Tryz.ntmps250
 go_wp2_with fail
 refine bodyPost_ret (v:=.bool true) (by simp [results,Tryz.results250,go_sem]) rfl ?_
 exact⟨rfl,(Below.refl _ _).alloc (Nat.le_refl _) _⟩
theorem zAY:Con Tryz.prog 250 [.agg [.d (.raw (.int .u64 0)),.d (.raw (.int .u64 0))]] (.d (.raw (.bool true))):=by
 refine⟨⟨_,Tryz.func250,by decide +kernel,rfl⟩,rfl,fun F w vs hF hG hl hv=>?_⟩
 match vs,hl with
 | [v],_=>
  have h0:=hv 0 (by simp) (by simp)
  simp only [List.getElem_cons_zero] at h0
  unfold zcw at h0
  obtain⟨us,rfl,hul,hu⟩:=h0.agg_eq
  match us,hul with
  | [a,b],_=>
   have h1:=hu 0 (by simp) (by simp)
   have h2:=hu 1 (by simp) (by simp)
   simp only [List.getElem_cons_zero,List.getElem_cons_succ] at h1 h2
   rw [h1.raw_eq,h2.raw_eq]
   exact(zro w).mono fun e w' h=>⟨_,h.1,.d (.raw _),h.2⟩
theorem zBa (d:ByteArray):Con Tryz.prog 188 [avO 1 d] (.d (.raw (.bool true))):=by
 refine zh Tryz.func188 rfl (by decide +kernel) rfl rfl (by simp [Tryz.ntmps188]) fun A hA=>?_
 rw [Tryz.ntmps188] at hA
 have z1:decide ((1:Int)=2)=false:=by decide
 have z2:decide ((1:Int)=3)=false:=by decide
 have z3:(decide ¬ (1:Int)=2)=true:=by decide
 refine goC 400 ?_
 simp only [go_sem,hA,z1,z2,z3,undef]
 refine zb 400 zAY rfl (by simp only [go_sem]) (by simp only [go_sem,hA]) ?_
 simp only [go_sem,hA,Tryz.results188]
theorem zvL (d:ByteArray) (hd:d.size≤65536):Con Tryz.prog 118 [avO 1 d] (.d (.raw (.int .i64 0))):=by
 refine zh Tryz.func118 rfl (by decide +kernel) rfl rfl (by simp [Tryz.ntmps118]) fun A hA=>?_
 rw [Tryz.ntmps118] at hA
 have z1:decide ((1:Int)=2)=false:=by decide
 have z2:decide ((1:Int)=3)=false:=by decide
 have z3:decide ((1:Int)<1)=false:=by decide
 have z4:decide ((4:Int)<1)=false:=by decide
 have g:decide ((65536:Int)<(d.size:Int))=false:=decide_eq_false (by omega)
 refine goC 400 ?_
 simp only [go_sem,hA]
 refine zb 400 (zBa d) rfl (by simp only [go_sem]) (by simp only [go_sem,hA]) ?_
 simp only [go_sem,hA,z1,z2,g,Tryz.results118]
theorem zvM (d:ByteArray) (hd:d.size≤65536):Con Tryz.prog 119 [avO 1 d] (.d (.raw (.string ⟨(zbl 1++(zbl d.size++d.data.toList)).toArray⟩))):=by
 refine zh Tryz.func119 rfl (by decide +kernel) rfl rfl (by simp [Tryz.ntmps119]) fun A hA=>?_
 rw [Tryz.ntmps119] at hA
 have z1:decide ((1:Int)=2)=false:=by decide
 have z2:decide ((1:Int)=3)=false:=by decide
 have hl1:=zci 1
 have hl2:=zci d.size
 refine goC 400 ?_
 simp only [go_sem,hA]
 refine zb 400 (zvK 1 (by decide)) rfl (by simp only [go_sem]) (by simp only [go_sem,hA]) ?_
 simp only [go_sem,hA,z1,z2]
 refine zb 400 (zAZ d hd) rfl (by simp only [go_sem]) (by simp only [go_sem,hA]) ?_
 simp only [go_sem,hA,zFI,zxc,Tryz.results119]
 simp
 omega
theorem zpI (d:ByteArray) (hd:d.size≤60000):Con Tryz.prog 54 [avO 1 d] (.d (.raw (.int .i64 0))):=by
 refine zh Tryz.func54 rfl (by decide +kernel) rfl rfl (by simp [Tryz.ntmps54]) fun A hA=>?_
 rw [Tryz.ntmps54] at hA
 have hl1:=zci 1
 have hl2:=zci d.size
 have z0:(decide ¬ (0:Int)=0)=false:=by decide
 have g:decide ((65536:Int)<(((zbl 1++(zbl d.size++d.data.toList)).length:Nat):Int))=false:=decide_eq_false (by simp;omega)
 refine goC 400 ?_
 simp only [go_sem,hA]
 refine zb 400 (zvL d (by omega)) rfl (by simp only [go_sem]) (by simp only [go_sem,hA]) ?_
 simp only [go_sem,hA]
 refine zb 400 (zvM d (by omega)) rfl (by simp only [go_sem]) (by simp only [go_sem,hA]) ?_
 simp only [go_sem,hA,zxc,g,Tryz.results54]
theorem zDT (d:ByteArray):Con Tryz.prog 87 [.d (.raw (.string d))] (avO 1 d):=by
 refine zh Tryz.func87 rfl (by decide +kernel) rfl rfl (by simp [Tryz.ntmps87]) fun A hA=>?_
 rw [Tryz.ntmps87] at hA
 refine goC 400 ?_
 simp only [go_sem,hA,Tryz.results87]
end
section
open Go Go.RowKit
abbrev zxl (l:List Fl) (q:Nat):St:=⟨[(0,.d (.sl (zy l))),(3,.d (.raw (.int .i64 q)))],[],[]⟩
abbrev zxk (l:List Fl) (q:Nat):St:=⟨[(0,.d (.sl (zy l))),(4,.d (.raw (.int .i64 q)))],[],[]⟩
abbrev zxj (l:List Fl) (q k:Nat):St:=⟨[(0,.d (.sl (zy l))),(4,.d (.raw (.int .i64 q))),(5,.d (.raw (.int .i64 k)))],[],[]⟩
theorem zDM (l:List Fl) (hl:l.length≤1048576) (hd:∀ x ∈ l,x.data.size≤60000):Con Tryz.prog 35 [.d (.sl (zy l))] (.d (.raw (.int .i64 (zch l)))):=by
 rw [← zkl]
 refine zh Tryz.func35 rfl (by decide +kernel) rfl rfl (by simp [Tryz.ntmps35]) fun A hA=>?_
 rw [Tryz.ntmps35] at hA
 have z0:(decide ¬ (0:Int)=0)=false:=by decide
 refine goC 400 ?_
 by_cases h1:200<l.length
 ·have g1:decide ((200:Int)<(l.length:Int))=true:=decide_eq_true (by omega)
  have hr:zev l=4:=if_pos h1
  simp only [go_sem,hA,ze,g1,hr,Tryz.results35]
 have g1:decide ((200:Int)<(l.length:Int))=false:=decide_eq_false (by omega)
 have hr0:zev l=if ¬ zj (zcC l) l.length=0 then zj (zcC l) l.length else if l.any fun x=>l.any fun y=>zcp x.path y.path then 7 else 0:=if_neg h1
 simp only [go_sem,hA,ze,g1]
 refine zd [0,3] [] [] (fun y σ=>∃ q:Nat,q≤l.length∧y=l.length - q∧zj (zcC l) q=0∧σ=zxl l q) l.length ⟨0,by omega,by omega,rfl,by simp only [go_sem,zxl]⟩ ?_
 rintro y σ ⟨q,hq,rfl,hf,rfl⟩
 refine goC 400 ?_
 by_cases hlt:q<l.length
 ·have k1:decide ((q:Int)<(l.length:Int))=true:=decide_eq_true (by omega)
  have hat:=zeZ l q hlt
  have hfe:zcC l q=if zbF l[q].path.data.toList then (if 0<q∧leS l[q].path (atF l (q - 1)).path then 10 else 0) else 6:=by unfold zcC;rw [hat]
  simp only [go_sem,hA,zxl,ze,k1,Int.toNat_natCast,zL l q hlt]
  refine⟨⟨by omega,by omega⟩,?_⟩
  refine zb 400 (zxv l[q].path) rfl (by simp only [go_sem]) (by simp only [go_sem,hA]) ?_
  cases hp:zbF l[q].path.data.toList with
  | false=>
   rw [hp,if_neg (by simp)] at hfe
   rw [zx hf hlt (by rw [hfe];decide),hfe,if_pos (by decide)] at hr0
   simp only [go_sem,hA,hr0,Tryz.results35]
  | true=>
  rw [hp,if_pos rfl] at hfe
  simp only [go_sem,hA,ze,Int.toNat_natCast,zL l q hlt]
  refine⟨⟨by omega,by omega⟩,?_⟩
  refine zb 400 (zDT l[q].data) rfl (by simp only [go_sem]) (by simp only [go_sem,hA]) ?_
  simp only [go_sem]
  refine zb 400 (zpI l[q].data (hd _ (List.getElem_mem hlt))) rfl (by simp only [go_sem]) (by simp only [go_sem,hA]) ?_
  by_cases hq0:0<q
  ·have k2:decide ((0:Int)<(q:Int))=true:=decide_eq_true (by omega)
   have hq1:((q:Int) - 1).toNat=q - 1:=by omega
   have hat1:=zeZ l (q - 1) (by omega)
   have hin:zc ((q:Int) - 1):=by unfold zc;omega
   rw [hat1,zgr] at hfe
   cases hls:ltS l[q - 1].path l[q].path with
   | false=>
    have hls':Op.bytesLess l[q - 1].path.data.toList l[q].path.data.toList=false:=hls
    rw [hls,if_pos ⟨hq0,rfl⟩] at hfe
    rw [zx hf hlt (by rw [hfe];decide),hfe,if_pos (by decide)] at hr0
    simp only [go_sem,hA,k2,ze,hq1,Int.toNat_natCast,zL l (q - 1) (by omega),zL l q hlt,hls',hr0,mixed,Tryz.results35]
    exact⟨hin,⟨by omega,by omega⟩,⟨by omega,by omega⟩,by show chk _ _ _=true;kernel_rfl⟩
   | true=>
    have hls':Op.bytesLess l[q - 1].path.data.toList l[q].path.data.toList=true:=hls
    rw [hls,if_neg (by simp)] at hfe
    simp only [go_sem,hA,k2,ze,hq1,Int.toNat_natCast,zL l (q - 1) (by omega),zL l q hlt,hls',mixed]
    exact⟨hin,⟨by omega,by omega⟩,⟨by omega,by omega⟩,by show chk _ _ _=true;kernel_rfl,by unfold zc;omega,l.length - (q+1),by omega,q+1,by omega,rfl,zp hf hfe,rfl⟩
  ·have k2:decide ((0:Int)<(q:Int))=false:=decide_eq_false (by omega)
   rw [if_neg fun h=>hq0 h.1] at hfe
   simp only [go_sem,hA,k2,undef,mixed]
   exact⟨by show chk _ _ _=true;kernel_rfl,by unfold zc;omega,l.length - (q+1),by omega,q+1,by omega,rfl,zp hf hfe,rfl⟩
 have k1:decide ((q:Int)<(l.length:Int))=false:=decide_eq_false (by omega)
 obtain rfl:q=l.length:=by omega
 rw [if_neg (by simp [hf])] at hr0
 simp only [go_sem,hA,zxl,k1,ze]
 refine zd [0,4] [] [] (fun y σ=>∃ q:Nat,q≤l.length∧y=l.length - q∧((l.take q).any fun x=>l.any fun y=>zcp x.path y.path)=false∧σ=zxk l q) l.length ⟨0,by omega,by omega,rfl,by simp only [go_sem,zxk]⟩ ?_
 clear hlt k1 hq hf
 rintro y σ ⟨q,hq,rfl,hf,rfl⟩
 refine goC 400 ?_
 by_cases hlt:q<l.length
 case neg=>
  have k1:decide ((q:Int)<(l.length:Int))=false:=decide_eq_false (by omega)
  obtain rfl:q=l.length:=by omega
  rw [List.take_length] at hf
  rw [hf,if_neg (by simp)] at hr0
  simp only [go_sem,hA,zxk,ze,k1,hr0,Tryz.results35]
 have k1:decide ((q:Int)<(l.length:Int))=true:=decide_eq_true (by omega)
 simp only [go_sem,hA,zxk,ze,k1]
 refine zd [0,4,5] [] [] (fun y σ=>∃ k:Nat,k≤l.length∧y=l.length - k∧((l.take k).any fun y=>zcp l[q].path y.path)=false∧σ=zxj l q k) l.length ⟨0,by omega,by omega,rfl,by simp only [go_sem,zxj]⟩ ?_
 rintro y σ ⟨k,hk,rfl,hf2,rfl⟩
 refine goC 400 ?_
 by_cases hlt2:k<l.length
 ·have k2:decide ((k:Int)<(l.length:Int))=true:=decide_eq_true (by omega)
  simp only [go_sem,hA,zxj,ze,k2,Int.toNat_natCast,zL l q hlt,zL l k hlt2,mixed]
  refine⟨⟨by omega,by omega⟩,⟨by omega,by omega⟩,?_⟩
  refine zbO 400 (zAW l[q].path l[k].path) rfl (by simp only [go_sem]) (by simp only [go_sem,hA]) ?_
  cases hb:zcp l[q].path l[k].path with
  | true=>
   have ha:(l.any fun x=>l.any fun y=>zcp x.path y.path)=true:=List.any_eq_true.2 ⟨_,List.getElem_mem hlt,List.any_eq_true.2 ⟨_,List.getElem_mem hlt2,hb⟩⟩
   rw [ha,if_pos rfl] at hr0
   simp only [go_sem,hA,hr0,Tryz.results35]
   show chk _ _ _=true
   kernel_rfl
  | false=>
   simp only [go_sem,hA]
   exact⟨by show chk _ _ _=true;kernel_rfl,by unfold zc;omega,l.length - (k+1),by omega,k+1,by omega,rfl,zbr hlt2 hf2 hb,rfl⟩
 ·have k2:decide ((k:Int)<(l.length:Int))=false:=decide_eq_false (by omega)
  obtain rfl:k=l.length:=by omega
  rw [List.take_length] at hf2
  simp only [go_sem,hA,zxj,ze,k2]
  exact⟨by unfold zc;omega,l.length - (q+1),by omega,q+1,by omega,rfl,zbr hlt hf hf2,rfl⟩
theorem zcu (a b:List Fl):zy (a++b)=zy a++zy b:=by simp [zy]
theorem ziT (l:List Fl):zD 2 (zy l):=by
 intro r hr
 obtain⟨x,_,rfl⟩:=List.mem_map.1 hr
 exact⟨rfl,fun x hx=>by simp [zpq] at hx;rcases hx with rfl | rfl <;> rfl⟩
theorem zhv (f:Fl):[[D.raw (Value.string f.path),D.raw (Value.string f.data)]]=zy [f]:=rfl
abbrev zeu (l:List Fl) (f:Fl) (out:List Fl) (put:Bool) (q:Nat):St:=⟨[(0,.d (.sl (zy l))),(3,.box 0 0),(5,.grow 1000 (zy out)),(6,.d (.raw (.bool put))),(7,.d (.raw (.int .i64 q)))],[(0,some (.cell 62 [.d (.raw (.string f.path)),.d (.raw (.string f.data))]))],[(1000,some ⟨2,62,out.length,none⟩)]⟩
theorem zAG (l:List Fl) (f:Fl) (hl:l.length≤1048576):Con Tryz.prog 102 [.d (.sl (zy l)),avF f] (.d (.sl (zy (wF f l)))):=by
 refine zh Tryz.func102 rfl (by decide +kernel) rfl rfl (by simp [Tryz.ntmps102]) fun A hA=>?_
 rw [Tryz.ntmps102] at hA
 have hend:=zDn f l
 refine goC 400 ?_
 simp only [go_sem,hA,avF]
 refine zd [0,3,5,6,7] [0] [1000] (fun y σ=>∃ (q:Nat) (out:List Fl) (put:Bool),q≤l.length∧y=l.length - q∧wfN f l q=(out,put)∧σ=zeu l f out put q) l.length ⟨0,[],false,by omega,by omega,rfl,by simp only [go_sem,zeu];rfl⟩ ?_
 rintro y σ ⟨q,out,put,hq,rfl,hw,rfl⟩
 have hlen:=zwY f l q
 rw [hw] at hlen
 simp only at hlen
 have hfit:zD 2 [[D.raw (Value.string f.path),D.raw (Value.string f.data)]]:=ziT [f]
 have hrow:∀ o:List Fl,∀ r ∈ zy o,r.length=2:=fun o r hr=>(ziT o r hr).1
 refine goC 400 ?_
 by_cases hlt:q<l.length
 ·have k1:decide ((q:Int)<(l.length:Int))=true:=decide_eq_true (by omega)
  have hs:=zsr f l q hlt
  rw [hw] at hs
  unfold zcb at hs
  rw [zgr] at hs
  have hfit2:zD 2 [[D.raw (Value.string l[q].path),D.raw (Value.string l[q].data)]]:=ziT [l[q]]
  have fin:∀ (o:List Fl) (b:Bool),wfN f l (q+1)=(o,b)→∃ m,m<l.length - q∧∃ (q':Nat) (out:List Fl) (put:Bool),q'≤l.length∧m=l.length - q'∧wfN f l q'=(out,put)∧zeu l f o b (q+1)=zeu l f out put q':=fun o b h=>⟨l.length - (q+1),by omega,q+1,o,b,by omega,rfl,h,rfl⟩
  cases put with
  | true=>
   simp only [Bool.not_true,Bool.false_and,Bool.false_eq_true,if_false] at hs
   by_cases hp:l[q].path=f.path
   ·have g:(decide ¬ l[q].path=f.path)=false:=by simp [hp]
    rw [if_pos hp] at hs
    simp only [go_sem,hA,zeu,ze,k1,Int.toNat_natCast,zL l q hlt,g,undef,mixed]
    exact⟨by show chk _ _ _=true;kernel_rfl,⟨by omega,by omega⟩,by show chk _ _ _=true;kernel_rfl,by unfold zc;omega,fin _ _ hs⟩
   ·have g:(decide ¬ l[q].path=f.path)=true:=decide_eq_true hp
    rw [if_neg hp] at hs
    simp only [go_sem,hA,zeu,ze,k1,Int.toNat_natCast,zL l q hlt,g,undef,mixed]
    refine⟨by show chk _ _ _=true;kernel_rfl,⟨by omega,by omega⟩,by show chk _ _ _=true;kernel_rfl,⟨by omega,by omega⟩,⟨hfit2,hrow _,by omega⟩,by unfold zc;omega,?_⟩
    have:=fin _ _ hs
    simp only [zeu,zcu,List.length_append,← zhv] at this
    exact this
  | false=>
   simp only [Bool.not_false,Bool.true_and] at hs
   cases hls:ltS l[q].path f.path with
   | true=>
    have hls':Op.bytesLess l[q].path.data.toList f.path.data.toList=true:=hls
    have hp:¬ l[q].path=f.path:=zwm ((zdq _ _).1 hls)
    have g:(decide ¬ l[q].path=f.path)=true:=decide_eq_true hp
    rw [hls,if_neg hp,if_neg (by simp)] at hs
    simp only [go_sem,hA,zeu,ze,k1,Int.toNat_natCast,zL l q hlt,hls',g,mixed]
    refine⟨⟨by omega,by omega⟩,by show chk _ _ _=true;kernel_rfl,⟨by omega,by omega⟩,by show chk _ _ _=true;kernel_rfl,⟨by omega,by omega⟩,⟨hfit2,hrow _,by omega⟩,by unfold zc;omega,?_⟩
    have:=fin _ _ hs
    simp only [zeu,zcu,List.length_append,← zhv] at this
    exact this
   | false=>
    have hls':Op.bytesLess l[q].path.data.toList f.path.data.toList=false:=hls
    rw [hls] at hs
    simp only [Bool.not_false,↓reduceIte] at hs
    by_cases hp:l[q].path=f.path
    ·have g:(decide ¬ l[q].path=f.path)=false:=by simp [hp]
     rw [if_pos hp] at hs
     simp only [go_sem,hA,zeu,ze,k1,Int.toNat_natCast,zL l q hlt,hls',g,mixed]
     refine⟨⟨by omega,by omega⟩,by show chk _ _ _=true;kernel_rfl,⟨hfit,hrow _,by omega⟩,⟨by omega,by omega⟩,by show chk _ _ _=true;kernel_rfl,by unfold zc;omega,?_⟩
     have:=fin _ _ hs
     simp only [zeu,zcu,List.length_append,← zhv] at this
     exact this
    ·have g:(decide ¬ l[q].path=f.path)=true:=decide_eq_true hp
     rw [if_neg hp] at hs
     have hrow2:∀ r ∈ zy out++[[D.raw (Value.string f.path),D.raw (Value.string f.data)]],r.length=2:=fun r hr=>hrow (out++[f]) r (by rw [zcu];exact hr)
     simp only [go_sem,hA,zeu,ze,k1,Int.toNat_natCast,zL l q hlt,hls',g,mixed]
     refine⟨⟨by omega,by omega⟩,by show chk _ _ _=true;kernel_rfl,⟨hfit,hrow _,by omega⟩,⟨by omega,by omega⟩,by show chk _ _ _=true;kernel_rfl,⟨by omega,by omega⟩,⟨by simp [zy],hfit2,hrow2,by simp [zy];omega⟩,by unfold zc;omega,?_⟩
     have:=fin _ _ hs
     simp only [zeu,zcu,List.length_append,← zhv] at this
     exact this
 ·have k1:decide ((q:Int)<(l.length:Int))=false:=decide_eq_false (by omega)
  obtain rfl:q=l.length:=by omega
  rw [hw] at hend
  simp only at hend
  cases put with
  | true=>
   rw [if_pos rfl] at hend
   simp only [go_sem,hA,zeu,ze,k1,hend,Tryz.results102]
  | false=>
   rw [if_neg (by simp)] at hend
   rw [← hend,zcu,← zhv]
   simp only [go_sem,hA,zeu,ze,k1,Tryz.results102]
   exact⟨hfit,hrow _,by omega⟩
end
section
open Go Go.RowKit
theorem zpH (s:ByteArray) (hs:s.size≤1099511627776):Con Tryz.prog 36 [.d (.raw (.string s))] (.d (.raw (.bool (zdb s)))):=by
 refine zh Tryz.func36 rfl (by decide +kernel) rfl rfl (by simp [Tryz.ntmps36]) fun A hA=>?_
 rw [Tryz.ntmps36] at hA
 have hin:zc ((s.size:Int) - 3):=by unfold zc;omega
 refine goC 400 ?_
 by_cases h1:3<s.size
 ·have g1:decide ((0:Int)<(s.size:Int) - 3)=true:=decide_eq_true (by omega)
  have hn:((s.size:Int) - 3).toNat=s.size - 3:=by omega
  cases g2:decide (s.extract (s.size - 3) s.size=⟨#[46,112,107]⟩) with
  | true=>
   have hr:zdb s=zX (s.extract 0 (s.size - 3)).data.toList:=by unfold zdb;rw [g2,decide_eq_true h1,Bool.true_and,Bool.true_and]
   simp only [go_sem,hA,g1,g2,hn,Int.toNat_natCast]
   refine⟨hin,⟨by omega,by omega⟩,⟨by omega,by omega⟩,?_⟩
   refine zb 400 (zhb (s.extract 0 (s.size - 3))) rfl (by simp only [go_sem]) (by simp only [go_sem,hA]) ?_
   simp only [go_sem,hA,hr,Tryz.results36]
  | false=>
   have hr:zdb s=false:=by unfold zdb;rw [g2,Bool.false_and,Bool.and_false]
   simp only [go_sem,hA,g1,g2,hn,Int.toNat_natCast,undef,hr,Tryz.results36]
   exact⟨hin,⟨by omega,by omega⟩⟩
 ·have g1:decide ((0:Int)<(s.size:Int) - 3)=false:=decide_eq_false (by omega)
  have hr:zdb s=false:=by unfold zdb;rw [decide_eq_false h1,Bool.false_and]
  simp only [go_sem,hA,g1,undef,hr,Tryz.results36]
  exact hin
theorem zkq (c:Tc) (k:Nat):Con Tryz.prog 89 [avC c,.d (.raw (.int .i64 k))] (.tup [.d (.raw (.string (zal c k))),.d (.raw (.bool (zfp c k)))]):=by
 refine zh Tryz.func89 rfl (by decide +kernel) rfl rfl (by simp [Tryz.ntmps89]) fun A hA=>?_
 rw [Tryz.ntmps89] at hA
 refine goC 400 ?_
 by_cases h0:k=0
 ·have g0:decide ((k:Int)=0)=true:=decide_eq_true (by omega)
  have hr1:zal c k=c.left:=if_pos h0
  have hr2:zfp c k=c.inL:=if_pos h0
  simp only [go_sem,hA,avC,g0,hr1,hr2,mixed,Tryz.results89]
  show chk _ _ _=true
  kernel_rfl
 have g0:decide ((k:Int)=0)=false:=decide_eq_false (by omega)
 by_cases h1:k=1
 ·have g1:decide ((k:Int)=1)=true:=decide_eq_true (by omega)
  have hr1:zal c k=c.base:=by unfold zal zfx;rw [if_neg h0,if_pos h1]
  have hr2:zfp c k=c.inB:=by unfold zfp zfx;rw [if_neg h0,if_pos h1]
  simp only [go_sem,hA,avC,g0,g1,hr1,hr2,mixed,Tryz.results89]
  show chk _ _ _=true
  kernel_rfl
 have g1:decide ((k:Int)=1)=false:=decide_eq_false (by omega)
 have hr1:zal c k=c.right:=by unfold zal zfx;rw [if_neg h0,if_neg h1]
 have hr2:zfp c k=c.inR:=by unfold zfp zfx;rw [if_neg h0,if_neg h1]
 simp only [go_sem,hA,avC,g0,g1,hr1,hr2,mixed,Tryz.results89]
 show chk _ _ _=true
 kernel_rfl
abbrev zxf (fs:List Fl) (l:List Tc) (q:Nat):St:=⟨[(0,.d (.sl (zac l))),(1,.d (.sl (zy fs))),(5,.d (.raw (.int .i64 q)))],[],[]⟩
abbrev zik (fs:List Fl) (l:List Tc) (q:Nat) (c:Tc) (t k:Nat):St:=⟨[(0,.d (.sl (zac l))),(1,.d (.sl (zy fs))),(5,.d (.raw (.int .i64 q))),(6,.box 6004 0),(t,.d (.raw (.int .i64 k)))],
 [(6004,some (.cell 58 [.d (.raw (.string c.path)),.d (.raw (.bool c.inB)),.d (.raw (.bool c.inL)),.d (.raw (.bool c.inR)),.d (.raw (.string c.base)),.d (.raw (.string c.left)),.d (.raw (.string c.right))]))],[]⟩
def zjn (fs:List Fl) (l:List Tc):Int:=if 200<l.length then 4 else zj (zgd fs l) l.length
theorem zqP {c:Tc} {n:Nat} (h1:c.base.size≤n) (h2:c.left.size≤n) (h3:c.right.size≤n) (k:Nat):(zal c k).size≤n:=by
 unfold zal zfx
 split
 ·exact h2
 ·split
  ·exact h1
  ·exact h3
theorem zAL (fs:List Fl) (l:List Tc) (hfs:fs.length≤1048576) (ht:∀ c ∈ l,c.path.size≤1099511627776∧c.base.size≤60000∧c.left.size≤60000∧c.right.size≤60000):Con Tryz.prog 37 [.d (.sl (zac l)),.d (.sl (zy fs))] (.d (.raw (.int .i64 (zjn fs l)))):=by
 refine zh Tryz.func37 rfl (by decide +kernel) rfl rfl (by simp [Tryz.ntmps37]) fun A hA=>?_
 rw [Tryz.ntmps37] at hA
 have z0:(decide ¬ (0:Int)=0)=false:=by decide
 refine goC 400 ?_
 by_cases h1:200<l.length
 ·have g1:decide ((200:Int)<(l.length:Int))=true:=decide_eq_true (by omega)
  have hr:zjn fs l=4:=if_pos h1
  simp only [go_sem,hA,zn,g1,hr,Tryz.results37]
 have g1:decide ((200:Int)<(l.length:Int))=false:=decide_eq_false (by omega)
 have hr0:zjn fs l=zj (zgd fs l) l.length:=if_neg h1
 simp only [go_sem,hA,zn,g1]
 refine zd [0,1,5] [] [] (fun y σ=>∃ q:Nat,q≤l.length∧y=l.length - q∧zj (zgd fs l) q=0∧σ=zxf fs l q) l.length ⟨0,by omega,by omega,rfl,by simp only [go_sem,zxf]⟩ ?_
 rintro y σ ⟨q,hq,rfl,hf,rfl⟩
 refine goC 400 ?_
 by_cases hlt:q<l.length
 case neg=>
  have k1:decide ((q:Int)<(l.length:Int))=false:=decide_eq_false (by omega)
  obtain rfl:q=l.length:=by omega
  rw [hf] at hr0
  simp only [go_sem,hA,zxf,zn,k1,hr0,Tryz.results37]
 have k1:decide ((q:Int)<(l.length:Int))=true:=decide_eq_true (by omega)
 have hat:=zcY l q hlt
 have htc:=ht _ (List.getElem_mem hlt)
 have henc:=zaO l q hlt
 generalize l[q]=c at hat htc henc
 have hfe:zgd fs l q=if ¬ zgc c=0 then zgc c else if 0<q∧leS c.path (atC l (q - 1)).path then 10 else if (zdc fs c.path).2 then 7 else 0:=by unfold zgd;rw [hat]
 have hx:zgc c=if zbF c.path.data.toList=false then 6 else if zdb c.path=true then 9 else if (zkb c 0 || zkb c 1 || zkb c 2)=true then 1 else 0:=by unfold zgc;rw [zCU]
 have hhit:∀ e:Int,¬ e=0→zgc c=e→zjn fs l=e:=fun e h0 h=>by
  rw [h,if_pos h0] at hfe
  rw [hr0,zx hf hlt (by rw [hfe];exact h0),hfe]
 simp only [go_sem,hA,zxf,zn,k1,Int.toNat_natCast,henc,zfj]
 refine⟨⟨by omega,by omega⟩,?_⟩
 refine zb 400 (zxv c.path) rfl (by simp only [go_sem]) (by simp only [go_sem,hA]) ?_
 cases hp:zbF c.path.data.toList with
 | false=>
  have hr:=hhit 6 (by decide) (by rw [hx,if_pos hp])
  simp only [go_sem,hA,hr,Tryz.results37]
 | true=>
 rw [if_neg (by simp [hp])] at hx
 simp only [go_sem,hA]
 refine zb 400 (zpH c.path htc.1) rfl (by simp only [go_sem]) (by simp only [go_sem,hA]) ?_
 cases hm:zdb c.path with
 | true=>
  have hr:=hhit 9 (by decide) (by rw [hx,if_pos hm])
  simp only [go_sem,hA,hr,Tryz.results37]
 | false=>
 rw [if_neg (by simp [hm])] at hx
 simp only [go_sem,hA]
 refine zd [0,1,5,6,7] [6004] [] (fun y σ=>∃ k:Nat,k≤3∧y=3 - k∧(∀ j,j<k→zkb c j=false)∧σ=zik fs l q c 7 k) 3 ⟨0,by omega,by omega,by omega,by simp only [go_sem,zik]⟩ ?_
 rintro y σ ⟨k,hk,rfl,hb,rfl⟩
 refine goC 400 ?_
 by_cases hk3:k<3
 ·have k2:decide ((k:Int)<3)=true:=decide_eq_true (by omega)
  simp only [go_sem,hA,zik,k2]
  refine zb 400 (zkq c k) rfl (by simp only [go_sem,avC]) (by simp only [go_sem,hA]) ?_
  have hbk:zkb c k=(!zfp c k && decide (¬ zal c k=⟨#[]⟩)):=rfl
  have hok:zkb c k=false→∀ j,j<k+1→zkb c j=false:=fun h j hj=>by
   by_cases e:j=k
   ·rw [e];exact h
   ·exact hb j (by omega)
  cases h2:zfp c k with
  | true=>
   rw [h2,Bool.not_true,Bool.false_and] at hbk
   simp only [go_sem,hA,undef]
   exact⟨by unfold zc;omega,3 - (k+1),by omega,k+1,by omega,rfl,hok hbk,rfl⟩
  | false=>
   rw [h2,Bool.not_false,Bool.true_and] at hbk
   cases h3:decide (¬ zal c k=⟨#[]⟩) with
   | true=>
    rw [h3] at hbk
    have hany:(zkb c 0 || zkb c 1 || zkb c 2)=true:=by
     have h4:k=0∨k=1∨k=2:=by omega
     rcases h4 with rfl | rfl | rfl <;> rw [hbk] <;> simp
    have hr:=hhit 1 (by decide) (by rw [hx,if_pos hany])
    simp only [go_sem,hA,h3,hr,Tryz.results37]
   | false=>
    rw [h3] at hbk
    simp only [go_sem,hA,h3]
    exact⟨by unfold zc;omega,3 - (k+1),by omega,k+1,by omega,rfl,hok hbk,rfl⟩
 have k2:decide ((k:Int)<3)=false:=decide_eq_false (by omega)
 rw [hb 0 (by omega),hb 1 (by omega),hb 2 (by omega),if_neg (by simp)] at hx
 simp only [go_sem,hA,zik,k2]
 refine zd [0,1,5,6,10] [6004] [] (fun y σ=>∃ k:Nat,k≤3∧y=3 - k∧σ=zik fs l q c 10 k) 3 ⟨0,by omega,by omega,by simp only [go_sem,zik]⟩ ?_
 clear hb hk3 k2 hk
 rintro y σ ⟨k,hk,rfl,rfl⟩
 refine goC 400 ?_
 by_cases hk3:k<3
 ·have k2:decide ((k:Int)<3)=true:=decide_eq_true (by omega)
  simp only [go_sem,hA,zik,k2]
  refine zb 400 (zkq c k) rfl (by simp only [go_sem,avC]) (by simp only [go_sem,hA]) ?_
  simp only [go_sem,hA]
  refine zb 400 (zpI (zal c k) (zqP htc.2.1 htc.2.2.1 htc.2.2.2 k)) rfl (by simp only [go_sem]) (by simp only [go_sem,hA]) ?_
  simp only [go_sem,hA]
  exact⟨by unfold zc;omega,3 - (k+1),by omega,k+1,by omega,rfl,rfl⟩
 have k2:decide ((k:Int)<3)=false:=decide_eq_false (by omega)
 rw [if_neg (by simp [hx])] at hfe
 have hfind:=zAH fs c.path hfs
 have last:∀ h0:¬ (0<q∧leS c.path (atC l (q - 1)).path),zgd fs l q=if (zdc fs c.path).2 then 7 else 0:=fun h0=>by rw [hfe,if_neg h0]
 by_cases hq0:0<q
 ·have k3:decide ((0:Int)<(q:Int))=true:=decide_eq_true (by omega)
  have hq1:((q:Int) - 1).toNat=q - 1:=by omega
  have hat1:=zcY l (q - 1) (by omega)
  have hin:zc ((q:Int) - 1):=by unfold zc;omega
  rw [hat1,zgr] at hfe last
  cases hls:ltS l[q - 1].path c.path with
  | false=>
   have hls':Op.bytesLess l[q - 1].path.data.toList c.path.data.toList=false:=hls
   rw [hls,if_pos ⟨hq0,rfl⟩] at hfe
   rw [zx hf hlt (by rw [hfe];decide),hfe] at hr0
   simp only [go_sem,hA,zik,k2,k3,zn,hq1,zaO l (q - 1) (by omega),zfj,hls',hr0,mixed,Tryz.results37]
   exact⟨hin,⟨by omega,by omega⟩,by show chk _ _ _=true;kernel_rfl⟩
  | true=>
   have hls':Op.bytesLess l[q - 1].path.data.toList c.path.data.toList=true:=hls
   have hfe':=last (by rw [hls];simp)
   simp only [go_sem,hA,zik,k2,k3,zn,hq1,zaO l (q - 1) (by omega),zfj,hls',mixed]
   refine⟨hin,⟨by omega,by omega⟩,by show chk _ _ _=true;kernel_rfl,?_⟩
   refine zb 400 hfind rfl (by simp only [go_sem]) (by simp only [go_sem,hA]) ?_
   cases hh:(zdc fs c.path).2 with
   | true=>
    rw [hh,if_pos rfl] at hfe'
    rw [zx hf hlt (by rw [hfe'];decide),hfe'] at hr0
    simp only [go_sem,hA,hr0,Tryz.results37]
   | false=>
    rw [hh,if_neg (by simp)] at hfe'
    simp only [go_sem,hA]
    exact⟨by unfold zc;omega,l.length - (q+1),by omega,q+1,by omega,rfl,zp hf hfe',rfl⟩
 ·have k3:decide ((0:Int)<(q:Int))=false:=decide_eq_false (by omega)
  have hfe':=last fun h=>hq0 h.1
  simp only [go_sem,hA,zik,k2,k3,undef,mixed]
  refine⟨by show chk _ _ _=true;kernel_rfl,?_⟩
  refine zb 400 hfind rfl (by simp only [go_sem]) (by simp only [go_sem,hA]) ?_
  cases hh:(zdc fs c.path).2 with
  | true=>
   rw [hh,if_pos rfl] at hfe'
   rw [zx hf hlt (by rw [hfe'];decide),hfe'] at hr0
   simp only [go_sem,hA,hr0,Tryz.results37]
  | false=>
   rw [hh,if_neg (by simp)] at hfe'
   simp only [go_sem,hA]
   exact⟨by unfold zc;omega,l.length - (q+1),by omega,q+1,by omega,rfl,zp hf hfe',rfl⟩
abbrev zxr (m:Mg) (q:Nat):St:=⟨[(1,.box 0 0),(3,.d (.raw (.int .i64 q)))],[(0,some (.cell 26 [.d (.sl (zab m.ms)),.d (.sl (zy m.fs)),.d (.sl (zac m.ts))]))],[]⟩
abbrev zxq (m:Mg) (q:Nat):St:=⟨[(1,.box 0 0),(6,.d (.raw (.int .i64 q)))],[(0,some (.cell 26 [.d (.sl (zab m.ms)),.d (.sl (zy m.fs)),.d (.sl (zac m.ts))]))],[]⟩
structure Mg.Slim (m:Mg):Prop where
 fine:m.Fine
 fp:∀ x ∈ m.fs,x.path.size≤1099511627776
 tp:∀ x ∈ m.ts,x.path.size≤1099511627776
theorem zml (m:Mg) (hm:m.Slim):Con Tryz.prog 10 [avG m] (.d (.raw (.int .i64 (zw m)))):=by
 rw [← zkm]
 refine zh Tryz.func10 rfl (by decide +kernel) rfl rfl (by simp [Tryz.ntmps10]) fun A hA=>?_
 rw [Tryz.ntmps10] at hA
 have hml:=hm.fine.ml
 have hfl:=hm.fine.fl
 have hr0:ziE m=if ¬ zj (zgS m.ms) m.ms.length=0 then zj (zgS m.ms) m.ms.length else if ¬ zev m.fs=0 then zev m.fs else if m.fs.any (fun x=>zdb x.path) then 9 else zjn m.fs m.ts:=rfl
 refine goC 400 ?_
 simp only [go_sem,hA,avG]
 refine zd [1,3] [0] [] (fun y σ=>∃ q:Nat,q≤m.ms.length∧y=m.ms.length - q∧zj (zgS m.ms) q=0∧σ=zxr m q) m.ms.length ⟨0,by omega,by omega,rfl,by simp only [go_sem,zxr]⟩ ?_
 rintro y σ ⟨q,hq,rfl,hf,rfl⟩
 refine goC 400 ?_
 by_cases hlt:q<m.ms.length
 ·have k1:decide ((q:Int)<(m.ms.length:Int))=true:=decide_eq_true (by omega)
  have hat:=zbR m.ms q hlt
  have hfe:zgS m.ms q=if ¬ zN m.ms[q]=0 then zN m.ms[q] else if 0<q∧leS m.ms[q].label (atM m.ms (q - 1)).label then 10 else 0:=by unfold zgS;rw [hat]
  simp only [go_sem,hA,zxr,zm,k1,Int.toNat_natCast,zaN m.ms q hlt,zeJ]
  refine⟨⟨by omega,by omega⟩,?_⟩
  refine zb 400 (zrn m.ms[q] (hm.fine.bd _ (List.getElem_mem hlt))) rfl (by simp only [go_sem,avM]) (by simp only [go_sem,hA]) ?_
  by_cases hp:zN m.ms[q]=0
  case neg=>
   have g1:(decide ¬ zN m.ms[q]=0)=true:=decide_eq_true hp
   rw [if_pos hp] at hfe
   rw [zx hf hlt (by rw [hfe];exact hp),hfe,if_pos hp] at hr0
   simp only [go_sem,hA,g1,hr0,Tryz.results10]
  have g1:(decide ¬ zN m.ms[q]=0)=false:=by simp [hp]
  rw [if_neg (by simp [hp])] at hfe
  by_cases hq0:0<q
  ·have k2:decide ((0:Int)<(q:Int))=true:=decide_eq_true (by omega)
   have hq1:((q:Int) - 1).toNat=q - 1:=by omega
   have hat1:=zbR m.ms (q - 1) (by omega)
   have hin:zc ((q:Int) - 1):=by unfold zc;omega
   rw [hat1,zgr] at hfe
   cases hls:ltS m.ms[q - 1].label m.ms[q].label with
   | false=>
    have hls':Op.bytesLess m.ms[q - 1].label.data.toList m.ms[q].label.data.toList=false:=hls
    rw [hls,if_pos ⟨hq0,rfl⟩] at hfe
    rw [zx hf hlt (by rw [hfe];decide),hfe] at hr0
    simp only [go_sem,hA,g1,k2,zm,hq1,Int.toNat_natCast,zaN m.ms (q - 1) (by omega),zaN m.ms q hlt,zeJ,hls',hr0,mixed,Tryz.results10]
    exact⟨hin,⟨by omega,by omega⟩,⟨by omega,by omega⟩,by show chk _ _ _=true;kernel_rfl,by rfl⟩
   | true=>
    have hls':Op.bytesLess m.ms[q - 1].label.data.toList m.ms[q].label.data.toList=true:=hls
    rw [hls,if_neg (by simp)] at hfe
    simp only [go_sem,hA,g1,k2,zm,hq1,Int.toNat_natCast,zaN m.ms (q - 1) (by omega),zaN m.ms q hlt,zeJ,hls',mixed]
    exact⟨hin,⟨by omega,by omega⟩,⟨by omega,by omega⟩,by show chk _ _ _=true;kernel_rfl,by unfold zc;omega,m.ms.length - (q+1),by omega,q+1,by omega,rfl,zp hf hfe,rfl⟩
  ·have k2:decide ((0:Int)<(q:Int))=false:=decide_eq_false (by omega)
   rw [if_neg fun h=>hq0 h.1] at hfe
   simp only [go_sem,hA,g1,k2,undef,mixed]
   exact⟨by show chk _ _ _=true;kernel_rfl,by unfold zc;omega,m.ms.length - (q+1),by omega,q+1,by omega,rfl,zp hf hfe,rfl⟩
 have k1:decide ((q:Int)<(m.ms.length:Int))=false:=decide_eq_false (by omega)
 obtain rfl:q=m.ms.length:=by omega
 rw [if_neg (by simp [hf])] at hr0
 simp only [go_sem,hA,zxr,k1,zm]
 have htr:=zDM m.fs hfl fun x hx=>(hm.fine.fp x hx).2
 rw [← zkl] at htr
 refine zb 400 htr rfl (by simp only [go_sem]) (by simp only [go_sem,hA]) ?_
 by_cases ht:zev m.fs=0
 case neg=>
  have g1:(decide ¬ zev m.fs=0)=true:=decide_eq_true ht
  rw [if_pos ht] at hr0
  simp only [go_sem,hA,g1,hr0,Tryz.results10]
 have g1:(decide ¬ zev m.fs=0)=false:=by simp [ht]
 rw [if_neg (by simp [ht])] at hr0
 simp only [go_sem,hA,g1]
 refine zd [1,6] [0] [] (fun y σ=>∃ q:Nat,q≤m.fs.length∧y=m.fs.length - q∧((m.fs.take q).any fun x=>zdb x.path)=false∧σ=zxq m q) m.fs.length ⟨0,by omega,by omega,rfl,by simp only [go_sem,zxq]⟩ ?_
 clear hf hlt k1 g1
 rintro y σ ⟨q,hq,rfl,hf,rfl⟩
 refine goC 400 ?_
 by_cases hlt:q<m.fs.length
 ·have k1:decide ((q:Int)<(m.fs.length:Int))=true:=decide_eq_true (by omega)
  simp only [go_sem,hA,zxq,ze,k1,Int.toNat_natCast,zL m.fs q hlt]
  refine⟨⟨by omega,by omega⟩,?_⟩
  refine zb 400 (zpH m.fs[q].path (hm.fp _ (List.getElem_mem hlt))) rfl (by simp only [go_sem]) (by simp only [go_sem,hA]) ?_
  cases hb:zdb m.fs[q].path with
  | true=>
   have ha:(m.fs.any fun x=>zdb x.path)=true:=List.any_eq_true.2 ⟨_,List.getElem_mem hlt,hb⟩
   rw [ha,if_pos rfl] at hr0
   simp only [go_sem,hA,hr0,Tryz.results10]
  | false=>
   simp only [go_sem,hA]
   exact⟨by unfold zc;omega,m.fs.length - (q+1),by omega,q+1,by omega,rfl,zbr hlt hf hb,rfl⟩
 have k1:decide ((q:Int)<(m.fs.length:Int))=false:=decide_eq_false (by omega)
 obtain rfl:q=m.fs.length:=by omega
 rw [List.take_length] at hf
 rw [hf,if_neg (by simp)] at hr0
 simp only [go_sem,hA,zxq,ze,k1]
 refine zb 400 (zAL m.fs m.ts hfl fun c hc=>⟨hm.tp c hc,(hm.fine.tp c hc).2⟩) rfl (by simp only [go_sem]) (by simp only [go_sem,hA]) ?_
 simp only [go_sem,hA,hr0,Tryz.results10]
end
end Go.Proofs.YtpnjjmcimjlfkaaGreatDoor
