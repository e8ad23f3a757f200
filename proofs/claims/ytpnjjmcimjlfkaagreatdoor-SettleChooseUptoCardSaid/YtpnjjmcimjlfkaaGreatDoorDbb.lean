/- Texts of this proof, part 28: what the proof uses of them. -/
import Derived.Test.YtpnjjmcimjlfkaaGreatDoorDba
import Derived.Test.YtpnjjmcimjlfkaaGreatDoorDaw
import Derived.Test.YtpnjjmcimjlfkaaGreatDoorDay
import Derived.Test.YtpnjjmcimjlfkaaGreatDoorDaz
import Derived.Test.YtpnjjmcimjlfkaaGreatDoorDan
import Derived.Test.YtpnjjmcimjlfkaaGreatDoorDal
import Derived.Lib.ItoaNum
import Derived.Lib.ItoaLen
import Derived.Test.YtpnjjmcimjlfkaaGreatDoorDat
set_option maxRecDepth 100000
set_option maxHeartbeats 64000000
namespace Go.Proofs.YtpnjjmcimjlfkaaGreatDoor
section
open Go Go.RowKit
abbrev zxs (k:Int) (n m:ByteArray) (i d:Int) (s:List Ex) (c q:Nat):St:=⟨[(1,.box 0 0),(3,.d (.raw (.int .i64 c))),(4,.d (.raw (.int .i64 q)))],[(0,some (.cell 105 (zcX k n m i d s)))],[]⟩
theorem rConf_step (N:Nat) (ih:∀ t:Ex,nodesE t<N→nodesE t≤1048576→Con Tryz.prog 92 [avE t] (.d (.raw (.int .i64 (confE t)))))
  (k:Int) (n m:ByteArray) (i d:Int) (s:List Ex) (hN:nodesE (.mk k n m i d s)<N+1) (hb:nodesE (.mk k n m i d s)≤1048576):Con Tryz.prog 92 [avE (.mk k n m i d s)] (.d (.raw (.int .i64 (confE (.mk k n m i d s))))):=by
 have hle:=zjR (.mk k n m i d s)
 rw [nodesE] at hN hb hle
 rw [confE] at hle
 have hlen:=zC s
 refine zh Tryz.func92 rfl (by decide +kernel) rfl (by simp only [AV.closed,zt,avE,zU,Bool.and_self]) (by simp [Tryz.ntmps92]) fun A hA=>?_
 rw [Tryz.ntmps92] at hA
 refine goC 300 ?_
 obtain⟨c0,hc0⟩:∃ c0:Nat,(if k=15 then 1 else 0)=c0:=⟨_,rfl⟩
 have hr:confE (.mk k n m i d s)=c0+confL s:=by rw [confE,hc0]
 rw [hc0] at hle
 have hc1:(k=15∧c0=1)∨(¬ k=15∧c0=0):=by
  by_cases hk:k=15
  ·rw [if_pos hk] at hc0;exact .inl ⟨hk,hc0.symm⟩
  ·rw [if_neg hk] at hc0;exact .inr ⟨hk,hc0.symm⟩
 rcases hc1 with⟨hk,rfl⟩ | ⟨hk,rfl⟩
 case' inl=>have g0:decide (k=15)=true:=decide_eq_true hk
 case' inr=>have g0:decide (k=15)=false:=decide_eq_false hk
 all_goals
  simp only [go_sem,hA,avE,zaZ,g0]
  refine zd [1,3,4] [0] [] (fun x σ=>∃ q:Nat,q≤s.length∧x=s.length - q∧σ=zxs k n m i d s (_+confL (s.take q)) q) s.length ⟨0,by omega,by omega,by(simp only [go_sem,zxs,List.take_zero,confL]) <;> rfl⟩ ?_
  rintro x σ ⟨q,hq,rfl,rfl⟩
  refine goC 300 ?_
  by_cases hlt:q<s.length
  ·have g1:decide ((q:Int)<(s.length:Int))=true:=decide_eq_true (by omega)
   have hn1:=zam s q hlt
   have hc:=ih s[q] (by omega) (by omega)
   have hts:=zdP s q hlt
   have htl:=zfl s (q+1)
   simp only [go_sem,hA,zxs,zg,g1,Int.toNat_natCast,zap s q hlt]
   refine⟨⟨by omega,by omega⟩,?_⟩
   refine zb 300 hc rfl (by simp only [go_sem,zl]) (by simp only [go_sem,hA]) ?_
   simp only [go_sem,hA]
   refine⟨by unfold zc;omega,by unfold zc;omega,s.length - (q+1),by omega,q+1,by omega,rfl,?_⟩
   rw [hts]
   simp only [Int.natCast_add,Int.add_assoc]
   rfl
  ·have g1:decide ((q:Int)<(s.length:Int))=false:=decide_eq_false (by omega)
   obtain rfl:q=s.length:=by omega
   rw [hr]
   simp only [go_sem,hA,zxs,zg,g1,List.take_length,Tryz.results92]
theorem zmm (N:Nat):∀ t:Ex,nodesE t<N→nodesE t≤1048576→Con Tryz.prog 92 [avE t] (.d (.raw (.int .i64 (confE t)))):=by
 induction N with
 | zero=>intro t h;omega
 | succ N ih=>intro t h hb;cases t;exact rConf_step N ih _ _ _ _ _ _ h hb
theorem zef (a b:List Sq):zaI (a++b)=zaI a++zaI b:=by simp [zaI]
theorem zjP (s:ByteArray) (k i j:Int):[[D.raw (Value.string s),D.raw (Value.int IntKind.i64 k),D.raw (Value.int IntKind.i64 i),D.raw (Value.int IntKind.i64 j)]]=zaI [⟨s,k,i,j⟩]:=rfl
theorem zgA (l:List Sq):∀ r ∈ zaI l,r.length=4:=fun r hr=>(zqs l r hr).1
theorem zzn (s:ByteArray) (i:Int) (l:List Sq):zeb s i 0 l=l:=by simp [zeb]
theorem zzo (s:ByteArray) (i:Int) (n:Nat) (l:List Sq):zeb s i (n+1) l=zeb s i n l++[⟨s,2,i,n⟩]:=by simp [zeb,List.range_succ]
theorem zBr (s:ByteArray) (i:Int) (n:Nat) (l:List Sq):(zeb s i n l).length=l.length+n:=by simp [zeb]
theorem zvN (q:Sq) (l:List Sq):zcj true q l=l++[q]:=rfl
theorem zvO (q:Sq) (l:List Sq):zcj false q l=l:=rfl
theorem zsF (x:Mo) (q:Nat) (h:q<x.decls.length):zE x (q+1)=zbL x.label (zE x q) x.decls[q]:=by
 unfold zE
 rw [List.take_succ_eq_append_getElem h,List.foldl_append];rfl
def zfm (d e:Dc):Bool:=decide (d.names.length=1) && decide (e.names=d.names)
abbrev zqd (x:Mo):Nat × Option Blk:=(0,some (.cell 56 [.d (.raw (.string x.label)),.d (.sl (zv x.uses)),.d (.sl (zak x.decls))]))
abbrev zCf (r:Nat) (d:Dc):Nat × Option Blk:=(r,some (.cell 107 [.d (.raw (.int .i64 d.id)),.d (.raw (.int .i64 d.kind)),.d (.raw (.bool d.pub)),.d (.sl (zv d.names)),.d (.raw (.bool d.doubt)),.d (.raw (.int .i64 d.body.kind)),.d (.raw (.string d.body.name)),.d (.raw (.string d.body.more)),.d (.raw (.int .i64 d.body.int)),.d (.raw (.int .i64 d.body.den)),.d (.sl (zaz d.body.sub))]))
abbrev ziJ (x:Mo) (o:List Sq) (q:Nat):St:=⟨[(1,.box 0 0),(3,.grow 1000 (zaI o)),(4,.d (.raw (.int .i64 q)))],[zqd x],[(1000,some ⟨4,60,o.length,none⟩)]⟩
abbrev zrh (x:Mo) (d:Dc) (o:List Sq) (q k:Nat):St:=⟨[(1,.box 0 0),(3,.grow 1000 (zaI o)),(4,.d (.raw (.int .i64 q))),(5,.box 7005 0),(6,.d (.raw (.int .i64 k)))],[zqd x,zCf 7005 d],[(1000,some ⟨4,60,o.length,none⟩)]⟩
abbrev zgf (x:Mo) (d:Dc) (o:List Sq) (b:Bool) (q k:Nat):St:=⟨[(1,.box 0 0),(3,.grow 1000 (zaI o)),(4,.d (.raw (.int .i64 q))),(5,.box 7005 0),(7,.d (.raw (.bool b))),(8,.d (.raw (.int .i64 k)))],[zqd x,zCf 7005 d],[(1000,some ⟨4,60,o.length,none⟩)]⟩
theorem zpZ {x:Mo} (h:zN x=0) {d:Dc} (hd:d ∈ x.decls):d.names.length≤3:=by
 have:=(zfS (zkS h hd)).2.2.2.1
 unfold zaf at this
 split at this
 ·cases this
 ·omega
theorem ztf (x:Mo) (hb:∀ d ∈ x.decls,nodesE d.body≤524288):Con Tryz.prog 39 [avM x] (.d (.sl (zaI (zbQ x)))):=by
 refine zh Tryz.func39 rfl (by decide +kernel) rfl rfl (by simp [Tryz.ntmps39]) fun A hA=>?_
 rw [Tryz.ntmps39] at hA
 refine goC 400 ?_
 simp only [go_sem,hA,avM]
 refine zb 400 (zrn x hb) rfl (by simp only [go_sem,avM]) (by simp only [go_sem,hA]) ?_
 by_cases h0:zN x=0
 case neg=>
  have g0:(decide ¬ zN x=0)=true:=decide_eq_true h0
  have hr:zbQ x=[]:=if_neg h0
  have he:zaI []=[]:=rfl
  simp only [go_sem,hA,g0,hr,he,Tryz.results39]
 have g0:(decide ¬ zN x=0)=false:=by simp [h0]
 have hr:zbQ x=(zE x x.decls.length).1:=if_pos h0
 have hd100:=(zgI h0).2.1
 rw [hr]
 simp only [go_sem,hA,g0]
 refine zd [1,3,4] [0] [1000] (fun y σ=>∃ (q:Nat) (o:List Sq),q≤x.decls.length∧y=x.decls.length - q∧(zE x q).1=o∧σ=ziJ x o q) x.decls.length ⟨0,[],by omega,by omega,rfl,by simp only [go_sem,ziJ];rfl⟩ ?_
 rintro y σ ⟨q,o,hq,rfl,ho,rfl⟩
 refine goC 400 ?_
 by_cases hlt:q<x.decls.length
 case neg=>
  have k1:decide ((q:Int)<(x.decls.length:Int))=false:=decide_eq_false (by omega)
  obtain rfl:q=x.decls.length:=by omega
  rw [ho]
  simp only [go_sem,hA,ziJ,zf,k1,Tryz.results39]
 have k1:decide ((q:Int)<(x.decls.length:Int))=true:=decide_eq_true (by omega)
 have hol:o.length≤52429200:=by
  have h1:=zmM x hb q
  rw [ho] at h1
  have h2:q * 524292≤100 * 524292:=Nat.mul_le_mul_right _ (by omega)
  omega
 have hmem:=List.getElem_mem hlt
 have hbd:=hb _ hmem
 have hcl:=zCo x q x.decls[q]
 have hsu:=zsF x q hlt
 have hnf:=zpZ h0 hmem
 obtain⟨d,hd⟩:∃ d,x.decls[q]=d:=⟨_,rfl⟩
 rw [hd] at hbd hcl hsu hnf
 have hcf:=zjR d.body
 have hcon:=zmm (nodesE d.body+1) d.body (by omega) (by omega)
 have h1s:(zE x (q+1)).1=zcj ((x.decls.take q).any (zfm d)) ⟨x.label,4,d.id,0⟩ (zcj d.doubt ⟨x.label,3,d.id,0⟩ (zeb x.label d.id (confE d.body) (zcj (decide (d.names.length=3)) ⟨x.label,1,d.id,0⟩ o))):=by
  rw [hsu]
  unfold zbL
  simp only
  rw [hcl,ho]
  rfl
 have kn:decide (d.names.length=3)=decide ((d.names.length:Int)=3):=decide_eq_decide.2 (by omega)
 rw [kn] at h1s
 simp only [go_sem,hA,ziJ,k1,zf,Int.toNat_natCast,zS x.decls q hlt,hd,zcW,za]
 refine⟨⟨by omega,by omega⟩,?_⟩
 cases k3:decide ((d.names.length:Int)=3)
 all_goals
  rw [k3] at h1s
  simp only [go_sem,hA]
 rotate_left
 refine⟨⟨zr _,zcQ _ _ _ _,zgA _,by rw [zr];omega⟩,?_⟩
 all_goals
  generalize ho1:zcj _ ⟨x.label,1,d.id,0⟩ o=o1 at h1s
  have ho1l:o1.length≤o.length+1:=by rw [← ho1];simp [zcj]
  refine zd [1,3,4,5,6] [0,7005] [1000] (fun y σ=>∃ k:Nat,k≤confE d.body∧y=confE d.body - k∧σ=zrh x d (zeb x.label d.id k o1) q k) (confE d.body) ⟨0,by omega,by omega,by(simp only [go_sem,zrh,zzn,← ho1,zvN,zvO,zef,← zjP,List.length_append,List.length_cons,List.length_nil]) <;> rfl⟩ ?_
  clear ho1
  rintro y σ ⟨k,hk,rfl,rfl⟩
  refine goC 400 ?_
  have hml:=zBr x.label d.id k o1
  by_cases hk1:k<confE d.body
  ·have k4:decide ((k:Int)<(confE d.body:Int))=true:=decide_eq_true (by omega)
   simp only [go_sem,hA,zrh]
   refine zb 400 hcon rfl (by simp only [go_sem,zl]) (by simp only [go_sem,hA]) ?_
   simp only [go_sem,hA,k4]
   refine⟨⟨zr _,zcQ _ _ _ _,zgA _,by rw [zr];omega⟩,by unfold zc;omega,confE d.body - (k+1),by omega,k+1,by omega,rfl,?_⟩
   rw [zzo]
   simp only [zef,← zjP,List.length_append,List.length_cons,List.length_nil]
   rfl
  have k4:decide ((k:Int)<(confE d.body:Int))=false:=decide_eq_false (by omega)
  obtain rfl:k=confE d.body:=by omega
  generalize zeb x.label d.id (confE d.body) o1=o2 at hml h1s
  simp only [go_sem,hA,zrh]
  refine zb 400 hcon rfl (by simp only [go_sem,zl]) (by simp only [go_sem,hA]) ?_
  cases k5:d.doubt
  all_goals
   rw [k5] at h1s
   simp only [go_sem,hA,k4,k5]
  rotate_left
  refine⟨⟨zr _,zcQ _ _ _ _,zgA _,by rw [zr];omega⟩,?_⟩
  all_goals
   generalize ho3:zcj _ ⟨x.label,3,d.id,0⟩ o2=o3 at h1s
   have ho3l:o3.length≤o2.length+1:=by rw [← ho3];simp [zcj]
   refine zd [1,3,4,5,7,8] [0,7005] [1000] (fun y σ=>∃ (k:Nat) (b:Bool),k≤q∧y=q - k∧(x.decls.take k).any (zfm d)=b∧σ=zgf x d o3 b q k) q ⟨0,false,by omega,by omega,rfl,by(simp only [go_sem,zgf,zqd,zCf,← ho3,zvN,zvO,zef,← zjP,List.length_append,List.length_cons,List.length_nil,k5]) <;> rfl⟩ ?_
   clear ho3
   rintro y σ ⟨k,b,hk,rfl,hb2,rfl⟩
   refine goC 400 ?_
   by_cases hk2:k<q
   ·have k6:decide ((k:Int)<(q:Int))=true:=decide_eq_true (by omega)
    have hkl:k<x.decls.length:=by omega
    have hstep:(x.decls.take (k+1)).any (zfm d)=(b || zfm d x.decls[k]):=by
     rw [List.take_succ_eq_append_getElem hkl,List.any_append,hb2]
     simp
    have fin:∀ c:Bool,(x.decls.take (k+1)).any (zfm d)=c→∃ m,m<q - k∧∃ (k':Nat) (b:Bool),k'≤q∧m=q - k'∧(x.decls.take k').any (zfm d)=b∧zgf x d o3 c q (k+1)=zgf x d o3 b q k':=fun c h=>⟨q - (k+1),by omega,k+1,c,by omega,rfl,h,rfl⟩
    cases b with
    | true=>
     rw [Bool.true_or] at hstep
     simp only [go_sem,hA,zgf,k6,undef,mixed]
     exact⟨by show chk _ _ _=true;kernel_rfl,by unfold zc;omega,fin _ hstep⟩
    | false=>
     rw [Bool.false_or] at hstep
     by_cases hn1:d.names.length=1
     ·have k7:decide ((d.names.length:Int)=1)=true:=decide_eq_true (by omega)
      obtain⟨e,he⟩:∃ e,x.decls[k]=e:=⟨_,rfl⟩
      have hen:=zpZ h0 (List.getElem_mem hkl)
      rw [he] at hstep hen
      have hce:zfm d e=zcR e.names d.names:=by
       unfold zfm
       rw [decide_eq_true hn1,Bool.true_and,Bool.eq_iff_iff,decide_eq_true_eq,zel]
      rw [hce] at hstep
      simp only [go_sem,hA,zgf,k6,k7,zf,Int.toNat_natCast,zS x.decls k hkl,he,zcW,za,mixed]
      refine⟨⟨by omega,by omega⟩,?_⟩
      refine zbO 400 (zez e.names d.names (by omega)) rfl (by simp only [go_sem]) (by simp only [go_sem,hA]) ?_
      simp only [go_sem,hA]
      exact⟨by show chk _ _ _=true;kernel_rfl,by unfold zc;omega,fin _ hstep⟩
     ·have k7:decide ((d.names.length:Int)=1)=false:=decide_eq_false (by omega)
      have hce:zfm d x.decls[k]=false:=by unfold zfm;rw [decide_eq_false hn1,Bool.false_and]
      rw [hce] at hstep
      simp only [go_sem,hA,zgf,k6,k7,za,undef,mixed]
      exact⟨by show chk _ _ _=true;kernel_rfl,by unfold zc;omega,fin _ hstep⟩
   have k6:decide ((k:Int)<(q:Int))=false:=decide_eq_false (by omega)
   obtain rfl:k=q:=by omega
   rw [hb2] at h1s
   have fin2:∀ o4,(zE x (k+1)).1=o4→∃ m,m<x.decls.length - k∧∃ (q':Nat) (o:List Sq),q'≤x.decls.length∧m=x.decls.length - q'∧(zE x q').1=o∧ziJ x o4 (k+1)=ziJ x o q':=fun o4 h=>⟨x.decls.length - (k+1),by omega,k+1,o4,by omega,rfl,h,rfl⟩
   cases b with
   | true=>
    rw [zvN] at h1s
    simp only [go_sem,hA,zgf,k6]
    refine⟨⟨zr _,zcQ _ _ _ _,zgA _,by rw [zr];omega⟩,by unfold zc;omega,?_⟩
    have:=fin2 _ h1s
    simp only [ziJ,zef,← zjP,List.length_append,List.length_cons,List.length_nil] at this
    exact this
   | false=>
    rw [zvO] at h1s
    simp only [go_sem,hA,zgf,k6]
    exact⟨by unfold zc;omega,fin2 _ h1s⟩
abbrev zrf (m:Mg) (q:Nat):St:=⟨[(1,.box 0 0),(3,.grow 1000 (zeC m q)),(4,.d (.raw (.int .i64 q)))],[(0,some (.cell 26 [.d (.sl (zab m.ms)),.d (.sl (zy m.fs)),.d (.sl (zac m.ts))]))],[(1000,some ⟨4,60,(zeC m q).length,none⟩)]⟩
abbrev zre (m:Mg) (q:Nat):St:=⟨[(1,.box 0 0),(3,.grow 1000 (zcO m q)),(5,.d (.raw (.int .i64 q)))],[(0,some (.cell 26 [.d (.sl (zab m.ms)),.d (.sl (zy m.fs)),.d (.sl (zac m.ts))]))],[(1000,some ⟨4,60,(zcO m q).length,none⟩)]⟩
theorem zDQ (m:Mg) (hm:m.Slim) (htl:m.ts.length≤1048576):Con Tryz.prog 13 [avG m] (.d (.sl (ztL m))):=by
 refine zh Tryz.func13 rfl (by decide +kernel) rfl rfl (by simp [Tryz.ntmps13]) fun A hA=>?_
 rw [Tryz.ntmps13] at hA
 have hT:=zqb m hm.fine.ml
 have hml:=hm.fine.ml
 have hr4:∀ x ∈ m.ms,zD 4 (zeK x):=fun x _=>zqw x
 refine goC 400 ?_
 simp only [go_sem,hA,avG]
 refine zb 400 (zml m hm) rfl (by simp only [go_sem,avG]) (by simp only [go_sem,hA]) ?_
 by_cases hx:zw m=0
 case neg=>
  have g:(decide ¬ zw m=0)=true:=by simp [hx]
  have hr:ztL m=[]:=if_neg hx
  simp only [go_sem,hA,g,hr,Tryz.results13]
 have g:(decide ¬ zw m=0)=false:=by simp [hx]
 have hr:ztL m=znZ m:=if_pos hx
 simp only [go_sem,hA,g]
 refine zd [1,3,4] [0] [1000] (fun y σ=>∃ q:Nat,q≤m.ms.length∧y=m.ms.length - q∧σ=zrf m q) m.ms.length ⟨0,by omega,by omega,by(simp only [go_sem,zrf]) <;> rfl⟩ ?_
 rintro y σ ⟨q,hq,rfl,rfl⟩
 refine goC 400 ?_
 have hT0:=hT q
 by_cases hlt:q<m.ms.length
 ·have k1:decide ((q:Int)<(m.ms.length:Int))=true:=decide_eq_true (by omega)
  have hc:=ztf m.ms[q] (hm.fine.bd _ (List.getElem_mem hlt))
  rw [← zhV] at hc
  simp only [go_sem,hA,zrf,k1,zm,Int.toNat_natCast,zaN m.ms q hlt,zeJ]
  refine⟨⟨by omega,by omega⟩,?_⟩
  refine zb 400 hc rfl (by simp only [go_sem,avM]) (by simp only [go_sem,hA]) ?_
  simp only [go_sem,hA]
  have hT1:=hT (q+1)
  rw [zgm m q hlt,List.length_append] at hT1
  exact⟨⟨hr4 _ (List.getElem_mem hlt),zkz hr4 q,by omega⟩,by unfold zc;omega,m.ms.length - (q+1),by omega,q+1,by omega,rfl,by rw [zgm m q hlt,List.length_append];rfl⟩
 have k1:decide ((q:Int)<(m.ms.length:Int))=false:=decide_eq_false (by omega)
 obtain rfl:q=m.ms.length:=by omega
 simp only [go_sem,hA,zrf,zm,k1]
 refine zd [1,3,5] [0] [1000] (fun y σ=>∃ q:Nat,q≤m.ts.length∧y=m.ts.length - q∧σ=zre m q) m.ts.length ⟨0,by omega,by omega,by(simp only [go_sem,zre,zla]) <;> rfl⟩ ?_
 clear hlt k1 hq
 rintro y σ ⟨q,hq,rfl,rfl⟩
 refine goC 400 ?_
 by_cases hlt:q<m.ts.length
 ·have k1:decide ((q:Int)<(m.ts.length:Int))=true:=decide_eq_true (by omega)
  have hTl:=zif m q
  simp only [go_sem,hA,zre,k1,zn,Int.toNat_natCast,zaO m.ts q hlt,zfj]
  exact⟨⟨by omega,by omega⟩,⟨zcQ _ _ _ _,zmD hr4 q,by omega⟩,by unfold zc;omega,m.ts.length - (q+1),by omega,q+1,by omega,rfl,by rw [zlb m q hlt,List.length_append];rfl⟩
 have k1:decide ((q:Int)<(m.ts.length:Int))=false:=decide_eq_false (by omega)
 obtain rfl:q=m.ts.length:=by omega
 simp only [go_sem,hA,zre,zn,k1,hr,znZ,Tryz.results13]
end
section
open Go Go.RowKit
theorem zwy {m:Mg} (h:zgu m=false):m.Slim:=by
 have hg:=zok h
 simp only [zgu,Bool.or_eq_false_iff,decide_eq_false_iff_not] at h
 obtain⟨h1,h2,h3,h4,h5⟩:=h
 simp only [zeH,Bool.or_eq_false_iff,decide_eq_false_iff_not] at h2
 refine⟨hg.fine,fun x hx=>?_,fun x hx=>?_⟩
 ·have:=zep h2.2 hx
  simp only [zhR,Bool.or_eq_false_iff,decide_eq_false_iff_not] at this
  omega
 ·have:=zep h5 hx
  simp only [zhQ,Bool.or_eq_false_iff,decide_eq_false_iff_not] at this
  omega
end
section
open Go Go.RowKit
def zgj (side:Nat) (s:List Ex) (j:Int) (q:Nat):List Ex:=(zP side (s.take q) j).1
def zlQ (s:List Ex) (j:Int) (q:Nat) (r:Int):Prop:=(¬ j<confL (s.take q)∧r=j - confL (s.take q))∨(j<confL (s.take q)∧400 - (confL (s.take q):Int)≤r∧r≤400)
theorem zBg (side:Nat) (s:List Ex) (j:Int) (q:Nat) (r:Int) (hj:0≤j) (hc:confL s≤399) (h:q<s.length) (hr:zlQ s j q r) (hlt:r<confE s[q]) :
  0≤r∧zgj side s j (q+1)=zgj side s j q++[(zcf side s[q] r).1]∧zlQ s j (q+1) 400:=by
 have e1:=zdP s q h
 have e2:=zfl s (q+1)
 rcases hr with⟨h2,rfl⟩ | ⟨h2,h3,h4⟩
 ·refine⟨by omega,?_,.inr ⟨by omega,by omega,by omega⟩⟩
  have h3:=zeB side (s.take q) j hj
  rw [if_neg h2] at h3
  rw [zgj,zgj,zcl side s q h j (by omega),h3]
 ·omega
theorem zxy (side:Nat) (s:List Ex) (j:Int) (q:Nat) (r:Int) (hj:0≤j) (_hc:confL s≤399) (h:q<s.length) (hr:zlQ s j q r) (hlt:¬ r<confE s[q]) (hj9:j≤400) :
  0≤r∧zgj side s j (q+1)=zgj side s j q++[s[q]]∧0≤r - confE s[q]∧r≤400∧zlQ s j (q+1) (r - confE s[q]):=by
 have e1:=zdP s q h
 have e2:=zfl s (q+1)
 rcases hr with⟨h2,rfl⟩ | ⟨h2,h3,h4⟩
 ·refine⟨by omega,?_,by omega,by omega,.inl ⟨by omega,by omega⟩⟩
  have h3:=zeB side (s.take q) j hj
  rw [if_neg h2] at h3
  rw [zgj,zgj,zcl side s q h j (by omega),h3,zkv side s[q] _ (by omega)]
 ·refine⟨by omega,?_,by omega,by omega,.inr ⟨by omega,by omega,by omega⟩⟩
  have h3:=zeB side (s.take q) j hj
  rw [if_pos h2] at h3
  have h4:(zP side (s.take (q+1)) j)=((zP side (s.take q) j).1++[s[q]],(zP side (s.take q) j).2):=by
   have h5:=zeX side (s.take q) [s[q]] j
   rw [← List.take_succ_eq_append_getElem h,zdz side [s[q]] (by omega)] at h5
   exact h5
  rw [zgj,zgj,h4]
theorem zlr (side:Nat) (s:List Ex) (j:Int) (q:Nat) (h:q≤s.length):(zgj side s j q).length=q:=by
 unfold zgj;rw [zdA];simp;omega
theorem zjN (l:List Ex) (t:Ex):zaz l++[[.raw (.int .i64 t.kind),.raw (.string t.name),.raw (.string t.more),.raw (.int .i64 t.int),.raw (.int .i64 t.den),.sl (zaz t.sub)]]=zaz (l++[t]):=by
 rw [← zbP,← zhu];rfl
theorem zmj (t:Ex):zD 6 [[.raw (.int .i64 t.kind),.raw (.string t.name),.raw (.string t.more),.raw (.int .i64 t.int),.raw (.int .i64 t.den),.sl (zaz t.sub)]]:=by
 rw [← zbP];exact zht [t]
theorem zmu (l:List Ex):∀ r ∈ zaz l,r.length=6:=fun r hr=>(zht l r hr).1
abbrev zlj (k:Int) (n m:ByteArray) (i d:Int) (s:List Ex) (side:Nat) (j:Int) (q:Nat) (r:Int):St:=
 ⟨[(1,.d (.raw (.int .i64 r))),(2,.d (.raw (.int .i64 side))),(3,.box 0 0),(6,.box 1 0),(7,.box 5001 0),(8,.d (.raw (.int .i64 q)))],
  [(0,some (.cell 105 (zcX k n m i d s))),(1,some (.cell 105 [.d (.raw (.int .i64 0)),.d (.raw (.string ⟨#[]⟩)),.d (.raw (.string ⟨#[]⟩)),.d (.raw (.int .i64 0)),.d (.raw (.int .i64 0)),.d (.raw (.slice none 0 0))])),(5001,some (.cell 105 [.d (.raw (.int .i64 k)),.d (.raw (.string n)),.d (.raw (.string m)),.d (.raw (.int .i64 i)),.d (.raw (.int .i64 d)),.grow 99 (zaz (zgj side s j q))]))],[(99,some ⟨6,105,q,none⟩)]⟩
theorem ztB (side:Nat) (k:Int) (n m:ByteArray) (i d:Int) (s:List Ex) (j j':Int) (hk:¬ k=15∧j'=j∨k=15∧0<j∧j'=j - 1):(zcf side (.mk k n m i d s) j).1 = .mk k n m i d (zgj side s j' s.length):=by
 unfold zgj
 rw [List.take_length]
 rcases hk with⟨hk,rfl⟩ | ⟨rfl,h1,rfl⟩
 ·rw [zcf,if_neg hk]
 ·rw [zcf,if_pos rfl,if_neg (by omega)]
theorem rsettled_step (N:Nat) (side:Nat) (hs:side≤2)
  (ih:∀ (t:Ex) (j:Int),nodesE t<N→nodesE t≤400→zgL t=true→0≤j→j<confE t→Con Tryz.prog 236 [avE t,.d (.raw (.int .i64 j)),.d (.raw (.int .i64 side))] (avE (zcf side t j).1))
  (k:Int) (n m:ByteArray) (i d:Int) (s:List Ex) (j:Int) (hN:nodesE (.mk k n m i d s)<N+1) (hb:nodesE (.mk k n m i d s)≤400) (hsum:zgL (.mk k n m i d s)=true) (hj:0≤j) (hj2:j<confE (.mk k n m i d s)) :
  Con Tryz.prog 236 [avE (.mk k n m i d s),.d (.raw (.int .i64 j)),.d (.raw (.int .i64 side))] (avE (zcf side (.mk k n m i d s) j).1):=by
 have hcn:=zbI (.mk k n m i d s)
 rw [nodesE] at hN hb hcn
 have hlen:=zC s
 have hcs:confL s≤399:=by have:=zhw s;omega
 simp only [zgL,Bool.and_eq_true,Bool.or_eq_true,decide_eq_true_eq] at hsum
 refine zh Tryz.func236 rfl (by decide +kernel) (by simp only [AV.closed,avE,zU]) (by simp only [AV.closed,zt,avE,zU,Bool.and_self]) (by simp [Tryz.ntmps236]) fun A hA=>?_
 rw [Tryz.ntmps236] at hA
 refine goC 300 ?_
 by_cases hk:k=15
 ·have hkd:decide (k=15)=true:=decide_eq_true hk
  have h3:s.length=3:=by rcases hsum.1 with h | h;exact absurd hk h;exact h
  have hlt:side<s.length:=by omega
  by_cases h0:j=0
  ·have h0d:decide (j=0)=true:=decide_eq_true h0
   subst hk
   simp only [go_sem,hA,avE,zaZ,h0d,zg,Int.toNat_natCast,zap s side hlt,Tryz.results236]
   refine⟨⟨by omega,by omega⟩,?_⟩
   have e:(zcf side (.mk 15 n m i d s) j).1=s[side]:=by
    rw [zcf,if_pos rfl,if_pos h0]
    simp [List.getD_eq_getElem?_getD,hlt]
   rw [e,zbP]
   rfl
  ·have h0d:decide (j=0)=false:=decide_eq_false h0
   have hneg:decide (j<0)=false:=decide_eq_false (by omega)
   obtain⟨j',hjj,hj',hj2',hjr⟩:∃ j',(¬ k=15∧j'=j∨k=15∧0<j∧j'=j - 1)∧0≤j'∧j'<confL s∧j - 1=j':=⟨j - 1,.inr ⟨hk,by omega,rfl⟩,by omega,by rw [confE,if_pos hk] at hj2;omega,rfl⟩
   simp only [go_sem,hA,avE,zaZ,hkd,h0d,hneg,hjr]
   refine⟨by unfold zc;omega,?_⟩
   refine zbt 99 5001 5 6 105 (by simp only [go_sem]) rfl rfl ?_
   simp only [go_sem]
   refine zd [1,2,3,6,7,8] [0,1,5001] [99] (fun x σ=>∃ (q:Nat) (r:Int),q≤s.length∧x=s.length - q∧zlQ s j' q r∧σ=zlj k n m i d s side j' q r) s.length ⟨0,j',by omega,by omega,by(have e0:confL (s.take 0)=0:=by rw [List.take_zero,confL]);unfold zlQ;rw [e0];omega,by(have e0:zaz (zgj side s j' 0)=[]:=by unfold zgj;simp [zP,zaz]);(simp only [go_sem,zlj,e0]) <;> rfl⟩ ?_
   rintro x σ ⟨q,r,hq,rfl,hr,rfl⟩
   refine goC 300 ?_
   have hol:=zlr side s j' q hq
   by_cases hlt:q<s.length
   ·have h1:decide ((q:Int)<(s.length:Int))=true:=decide_eq_true (by omega)
    have hn1:=zam s q hlt
    have hc1:=zbI s[q]
    simp only [go_sem,hA,zlj,h1,Int.toNat_natCast,zg,zap s q hlt]
    refine⟨⟨by omega,by omega⟩,zb 300 (zmm (nodesE s[q]+1) s[q] (by omega) (by omega)) rfl (by simp only [go_sem,zl]) (by simp only [go_sem,hA]) ?_⟩
    by_cases hlt2:r<confE s[q]
    ·have h2:decide (r<(confE s[q]:Int))=true:=decide_eq_true hlt2
     obtain⟨g1,g2,g3⟩:=zBg side s j' q r (by omega) (by omega) hlt hr hlt2
     simp only [go_sem,hA,Int.toNat_natCast,zg,zap s q hlt,h2]
     refine⟨⟨by omega,by omega⟩,zb 300 (ih s[q] r (by omega) (by omega) (zfq q hlt hsum.2) g1 hlt2) rfl (by simp only [go_sem,zl]) (by simp only [go_sem,hA]) ?_⟩
     have h3:decide ((0:Int)≤r)=true:=decide_eq_true g1
     have h4:decide (r - (confE s[q]:Int)<0)=true:=decide_eq_true (by omega)
     simp only [go_sem,hA,zl,zg,h3,h4]
     refine⟨⟨hol,zmj _,zmu _,by omega⟩,by unfold zc;omega,by unfold zc;omega,s.length - (q+1),by omega,q+1,400,by omega,rfl,g3,?_⟩
     rw [g2,← zjN]
     rfl
    ·have h2:decide (r<(confE s[q]:Int))=false:=decide_eq_false hlt2
     obtain⟨g1,g2,g3,g4,g5⟩:=zxy side s j' q r (by omega) (by omega) hlt hr hlt2 (by omega)
     have h3:decide ((0:Int)≤r)=true:=decide_eq_true g1
     have h4:decide (r - (confE s[q]:Int)<0)=false:=decide_eq_false (by omega)
     simp only [go_sem,hA,Int.toNat_natCast,zg,zap s q hlt,h2,h3,h4]
     refine⟨⟨by omega,by omega⟩,⟨hol,zmj _,zmu _,by omega⟩,by unfold zc;omega,by unfold zc;omega,s.length - (q+1),by omega,q+1,r - confE s[q],by omega,rfl,g5,?_⟩
     rw [g2,← zjN]
     rfl
   ·have h1:decide ((q:Int)<(s.length:Int))=false:=decide_eq_false (by omega)
    obtain rfl:q=s.length:=by omega
    simp only [go_sem,hA,zlj,h1,zg,Tryz.results236]
    rw [ztB side k n m i d s j j' hjj]
    rfl
 ·have hkd:decide (k=15)=false:=decide_eq_false hk
  obtain⟨j',hjj,hj',hj2',hjr⟩:∃ j',(¬ k=15∧j'=j∨k=15∧0<j∧j'=j - 1)∧0≤j'∧j'<confL s∧j=j':=⟨j,.inl ⟨hk,rfl⟩,by omega,by rw [confE,if_neg hk] at hj2;omega,rfl⟩
  subst hjr
  simp only [go_sem,hA,avE,zaZ,hkd,undef]
  refine zbt 99 5001 5 6 105 (by simp only [go_sem]) rfl rfl ?_
  simp only [go_sem]
  refine zd [1,2,3,6,7,8] [0,1,5001] [99] (fun x σ=>∃ (q:Nat) (r:Int),q≤s.length∧x=s.length - q∧zlQ s j q r∧σ=zlj k n m i d s side j q r) s.length ⟨0,j,by omega,by omega,by(have e0:confL (s.take 0)=0:=by rw [List.take_zero,confL]);unfold zlQ;rw [e0];omega,by(have e0:zaz (zgj side s j 0)=[]:=by unfold zgj;simp [zP,zaz]);(simp only [go_sem,zlj,e0]) <;> rfl⟩ ?_
  rintro x σ ⟨q,r,hq,rfl,hr,rfl⟩
  refine goC 300 ?_
  have hol:=zlr side s j q hq
  by_cases hlt:q<s.length
  ·have h1:decide ((q:Int)<(s.length:Int))=true:=decide_eq_true (by omega)
   have hn1:=zam s q hlt
   have hc1:=zbI s[q]
   simp only [go_sem,hA,zlj,h1,Int.toNat_natCast,zg,zap s q hlt]
   refine⟨⟨by omega,by omega⟩,zb 300 (zmm (nodesE s[q]+1) s[q] (by omega) (by omega)) rfl (by simp only [go_sem,zl]) (by simp only [go_sem,hA]) ?_⟩
   by_cases hlt2:r<confE s[q]
   ·have h2:decide (r<(confE s[q]:Int))=true:=decide_eq_true hlt2
    obtain⟨g1,g2,g3⟩:=zBg side s j q r (by omega) (by omega) hlt hr hlt2
    simp only [go_sem,hA,Int.toNat_natCast,zg,zap s q hlt,h2]
    refine⟨⟨by omega,by omega⟩,zb 300 (ih s[q] r (by omega) (by omega) (zfq q hlt hsum.2) g1 hlt2) rfl (by simp only [go_sem,zl]) (by simp only [go_sem,hA]) ?_⟩
    have h3:decide ((0:Int)≤r)=true:=decide_eq_true g1
    have h4:decide (r - (confE s[q]:Int)<0)=true:=decide_eq_true (by omega)
    simp only [go_sem,hA,zl,zg,h3,h4]
    refine⟨⟨hol,zmj _,zmu _,by omega⟩,by unfold zc;omega,by unfold zc;omega,s.length - (q+1),by omega,q+1,400,by omega,rfl,g3,?_⟩
    rw [g2,← zjN]
    rfl
   ·have h2:decide (r<(confE s[q]:Int))=false:=decide_eq_false hlt2
    obtain⟨g1,g2,g3,g4,g5⟩:=zxy side s j q r (by omega) (by omega) hlt hr hlt2 (by omega)
    have h3:decide ((0:Int)≤r)=true:=decide_eq_true g1
    have h4:decide (r - (confE s[q]:Int)<0)=false:=decide_eq_false (by omega)
    simp only [go_sem,hA,Int.toNat_natCast,zg,zap s q hlt,h2,h3,h4]
    refine⟨⟨by omega,by omega⟩,⟨hol,zmj _,zmu _,by omega⟩,by unfold zc;omega,by unfold zc;omega,s.length - (q+1),by omega,q+1,r - confE s[q],by omega,rfl,g5,?_⟩
    rw [g2,← zjN]
    rfl
  ·have h1:decide ((q:Int)<(s.length:Int))=false:=decide_eq_false (by omega)
   obtain rfl:q=s.length:=by omega
   simp only [go_sem,hA,zlj,h1,zg,Tryz.results236]
   rw [ztB side k n m i d s j j hjj]
   rfl
theorem zra (side:Nat) (hs:side≤2) (N:Nat):∀ (t:Ex) (j:Int),nodesE t<N→nodesE t≤400→zgL t=true→0≤j→j<confE t→Con Tryz.prog 236 [avE t,.d (.raw (.int .i64 j)),.d (.raw (.int .i64 side))] (avE (zcf side t j).1):=by
 induction N with
 | zero=>intro t j h;omega
 | succ N ih=>intro t j h hb hsum hj hj2;cases t;exact rsettled_step N side hs ih _ _ _ _ _ _ j h hb hsum hj hj2
theorem zsZ (t:Ex) (i side:Int) (hb:nodesE t≤1048576):Con Tryz.prog 165 [avE t,.d (.raw (.int .i64 i)),.d (.raw (.int .i64 side))] (.tup [avE (zbf t i side).1,.d (.raw (.int .i64 (zbf t i side).2))]):=by
 refine zh Tryz.func165 rfl (by decide +kernel) (by simp only [AV.closed,zt,avE,zU,Bool.and_self]) (by simp only [AV.closed,zt,avE,zU,Bool.and_self]) (by simp [Tryz.ntmps165]) fun A hA=>?_
 rw [Tryz.ntmps165] at hA
 refine goC 300 ?_
 simp only [go_sem,hA,zl]
 refine zb 300 (zgg t hb) rfl (by simp only [go_sem,zl]) (by simp only [go_sem,hA]) ?_
 by_cases hk0:zB t=0
 case neg=>
  have gk:(decide ¬ zB t=0)=true:=decide_eq_true hk0
  simp only [go_sem,hA,gk,Tryz.results165]
  rw [zbf,if_neg hk0]
  rfl
 have gk:(decide ¬ zB t=0)=false:=by simp [hk0]
 by_cases h1:side<0
 ·have d1:=decide_eq_true h1
  simp only [go_sem,hA,gk,d1,undef,Tryz.results165]
  rw [zbf,if_pos hk0,if_pos (.inl h1)]
  rfl
 have d1:=decide_eq_false h1
 by_cases h2:2<side
 ·have d2:=decide_eq_true h2
  simp only [go_sem,hA,gk,d1,d2,undef,Tryz.results165]
  rw [zbf,if_pos hk0,if_pos (.inr (.inl h2))]
  rfl
 have d2:=decide_eq_false h2
 by_cases h3:i<0
 ·have d3:=decide_eq_true h3
  simp only [go_sem,hA,gk,d1,d2,d3,undef,Tryz.results165]
  rw [zbf,if_pos hk0,if_pos (.inr (.inr (.inl h3)))]
  rfl
 have d3:=decide_eq_false h3
 obtain⟨s,rfl⟩:∃ s:Nat,side=s:=⟨side.toNat,by omega⟩
 simp only [go_sem,hA,gk,d1,d2,d3]
 refine zb 300 (zmm (nodesE t+1) t (by omega) hb) rfl (by simp only [go_sem,zl]) (by simp only [go_sem,hA]) ?_
 by_cases h4:(confE t:Int)≤i
 ·have d4:=decide_eq_true h4
  simp only [go_sem,hA,d4,Tryz.results165]
  rw [zbf,if_pos hk0,if_pos (.inr (.inr (.inr h4)))]
  rfl
 have d4:=decide_eq_false h4
 simp only [go_sem,hA,d4]
 refine zb 200 (zra s (by omega) (nodesE t+1) t i (by omega) (zfQ hk0).1 (zmF t (zfQ hk0).2.2) (by omega) (by omega)) rfl (by simp only [go_sem,zl]) (by simp only [go_sem,hA]) ?_
 simp only [go_sem,hA,zl,Tryz.results165]
 rw [zbf,if_pos hk0,if_neg (by omega),Int.toNat_natCast]
end
section
open Go Go.RowKit
theorem zpb (N:Nat) (ih:∀ n:Int,n.natAbs<N→zc n→Con Tryz.prog 166 [.d (.raw (.int .i64 n))] (.d (.raw (.string (zbm n))))) (n:Int) (hN:n.natAbs<N+1) (hn:zc n) :
  Con Tryz.prog 166 [.d (.raw (.int .i64 n))] (.d (.raw (.string (zbm n)))):=by
 unfold zc at hn
 obtain⟨l,hl,hlt⟩:∃ l:Nat,l<10∧l=n.natAbs % 10:=⟨_,Nat.mod_lt _ (by omega),rfl⟩
 have hdig:=zCe ⟨l,hl⟩
 simp only at hdig
 refine zh Tryz.func166 rfl (by decide +kernel) rfl rfl (by simp [Tryz.ntmps166]) fun A hA=>?_
 rw [Tryz.ntmps166] at hA
 refine goC 300 ?_
 -- the last digit,without its sign
 have hm:(n.tmod 10<0 ∧ -(n.tmod 10)=l)∨(¬ n.tmod 10<0∧n.tmod 10=l):=by
  by_cases h0:n<0
  ·have e:n.tmod 10 = -(l:Int):=by
    rw [show n = -(n.natAbs:Int) by omega,Int.neg_tmod,Int.tmod_eq_emod_of_nonneg (by omega)];omega
   by_cases hz:l=0
   ·right;rw [e];omega
   ·left;rw [e];omega
  ·right
   have e:n.tmod 10=(l:Int):=by rw [Int.tmod_eq_emod_of_nonneg (by omega)];omega
   rw [e];omega
 have hq:n.tdiv 10=0∨(¬ n.tdiv 10=0):=by omega
 have hsz:∀ m:Int,zc m→((zbm m).size:Int)+1≤9223372036854775807:=fun m h=>by have:=zwv m h;omega
 have hl1:((l:Int)+1).toNat=l+1:=by omega
 have dl:decide ((l:Int)<0)=false:=decide_eq_false (by omega)
 have htd:zc (n.tdiv 10)∧(n.tdiv 10).natAbs≤n.natAbs / 10:=by
  have e:(n.tdiv 10).natAbs=n.natAbs / 10:=by rw [Int.natAbs_tdiv];rfl
  unfold zc
  omega
 rcases hm with⟨h1,h2⟩ | ⟨h1,h2⟩
 case' inl=>
  have d1:decide (n.tmod 10<0)=true:=decide_eq_true h1
  simp only [go_sem,hA,d1,h2,Int.toNat_natCast,hl1,hdig]
  refine⟨by omega,by unfold zc;omega,by unfold zc;omega,⟨by omega,by omega,by omega⟩,⟨by omega,htd.1⟩,?_⟩
 case' inr=>
  simp only [go_sem,hA,dl,h2,Int.toNat_natCast,hl1,hdig]
  refine⟨by omega,by unfold zc;omega,⟨by omega,by omega,by omega⟩,⟨by omega,htd.1⟩,?_⟩
 all_goals
  by_cases hz:n.tdiv 10=0
  ·have dz:(decide ¬ n.tdiv 10=0)=false:=by simpa using hz
   have hsm:n.natAbs<10:=by
    have e:(n.tdiv 10).natAbs=n.natAbs / 10:=by rw [Int.natAbs_tdiv];rfl
    rw [hz] at e
    have e0:(0:Int).natAbs=0:=rfl
    omega
   have hll:l=n.natAbs:=by omega
   by_cases hneg:n<0
   ·have dn:decide (n<0)=true:=decide_eq_true hneg
    have he:zbm n=⟨#[45]⟩++⟨#[UInt8.ofNat (48+l)]⟩:=by
     unfold zbm;rw [zqi hsm,if_pos hneg,hll];rfl
    simp only [go_sem,hA,dz,dn,he,Tryz.results166]
   ·have dn:decide (n<0)=false:=decide_eq_false hneg
    have he:zbm n=⟨#[UInt8.ofNat (48+l)]⟩:=by
     unfold zbm;rw [zqi hsm,if_neg hneg,hll]
    simp only [go_sem,hA,dz,dn,he,Tryz.results166]
  ·have dz:(decide ¬ n.tdiv 10=0)=true:=by simpa using hz
   have hbig:10≤n.natAbs:=by
    have e:(n.tdiv 10).natAbs=n.natAbs / 10:=by rw [Int.natAbs_tdiv];rfl
    omega
   have he:zbm n=zbm (n.tdiv 10)++⟨#[UInt8.ofNat (48+l)]⟩:=by
    unfold zbm;rw [zzw hbig,hlt,← zAf]
   have hs:=hsz (n.tdiv 10) htd.1
   simp only [go_sem,hA,dz]
   refine⟨⟨by omega,htd.1⟩,zb 300 (ih (n.tdiv 10) (by omega) htd.1) rfl (by simp only [go_sem]) (by simp only [go_sem,hA]) ?_⟩
   simp only [go_sem,hA,he,Tryz.results166]
   omega
theorem zvJ (n:Int) (hn:zc n):Con Tryz.prog 166 [.d (.raw (.int .i64 n))] (.d (.raw (.string (zbm n)))):=by
 have key:∀ N (n:Int),n.natAbs<N→zc n→Con Tryz.prog 166 [.d (.raw (.int .i64 n))] (.d (.raw (.string (zbm n)))):=fun N=>by
  induction N with
  | zero=>intro n h;omega
  | succ N ih=>exact fun n h hn=>zpb N ih n h hn
 exact key (n.natAbs+1) n (by omega) hn
end
section
open Go Go.RowKit
theorem zFq (d:Dc) (s:Sq) (k:Nat) (hk:k<3) (hb:nodesE d.body≤1048576) (hid:zc d.id) (hl1:d.names.length≤1048576) (h1:s.kind=1→k<d.names.length) (h4:0<d.names.length∨s.kind=2∨s.kind=3) (hns:∀ nm ∈ d.names,nm.size≤1099511627776) :
  Con Tryz.prog 103 [avD d,avQ s,.d (.raw (.int .i64 k))] (.tup [avD (zcc d s k).1,.d (.raw (.bool (zcc d s k).2.1)),.d (.raw (.int .i64 (zcc d s k).2.2))]):=by
 refine zh Tryz.func103 rfl (by decide +kernel) rfl rfl (by simp [Tryz.ntmps103]) fun A hA=>?_
 rw [Tryz.ntmps103] at hA
 have e21:decide ((2:Int)=1)=false:=by decide
 have e31:decide ((3:Int)=1)=false:=by decide
 have e32:decide ((3:Int)=2)=false:=by decide
 have z0:decide ((0:Int)=0)=true:=by decide
 have z1:decide ((1:Int)=1)=true:=by decide
 have hg0:∀ x:D,([[x]]:List (List D)).getD 0 []=[x]:=fun _=>rfl
 have hln:∀ x:List D,([x]:List (List D)).length=1:=fun _=>rfl
 refine goC 400 ?_
 by_cases g1:s.kind=1
 ·have hk1:=h1 g1
  have hn:d.names.getD k ⟨#[]⟩=d.names[k]:=by simp [List.getD_eq_getElem?_getD,hk1]
  have hr:zcc d s k=({ d with names:=[d.names[k]] },true,rnm { d with names:=[d.names[k]] }):=by unfold zcc;rw [if_pos g1,hn]
  have hnm:=zmk d d.names[k]
  simp only [go_sem,hA,avD,avQ,g1,za,Int.toNat_natCast,zF d.names k hk1,hg0]
  refine⟨⟨by omega,by omega⟩,?_⟩
  refine zb 400 (zeV d.names[k]) rfl (by simp only [go_sem]) (by simp only [go_sem,hA]) ?_
  cases hb2:zI d.names[k] with
  | true=>
   rw [hb2,if_pos rfl] at hnm
   rw [hnm] at hr
   simp only [go_sem,hA,hr,Tryz.results103]
   rfl
  | false=>
   rw [hb2,if_neg (by simp)] at hnm
   rw [hnm] at hr
   simp only [go_sem,hA,hr,Tryz.results103]
   rfl
 have d1:decide (s.kind=1)=false:=decide_eq_false g1
 by_cases g2:s.kind=2
 ·have hr:zcc d s k=({ d with body:=(zbf d.body s.pos k).1 },true,if (zbf d.body s.pos k).2=0 then rnm d else (zbf d.body s.pos k).2):=by
   unfold zcc;rw [if_neg g1,if_pos g2,zpF]
  have hc:=zsZ d.body s.pos k hb
  simp only [go_sem,hA,avD,avQ,g2,e21]
  refine zb 400 hc rfl (by simp only [go_sem,zl]) (by simp only [go_sem,hA]) ?_
  generalize zbf d.body s.pos k=r at hr
  obtain⟨e,er⟩:=r
  simp only at hr
  by_cases he:er=0
  ·subst he
   rw [if_pos rfl] at hr
   by_cases hl:d.names.length=1
   ·have dl:decide ((d.names.length:Int)=1)=true:=decide_eq_true (by omega)
    have h0:0<d.names.length:=by omega
    have hn:d.names.getD 0 ⟨#[]⟩=d.names[0]:=by simp [List.getD_eq_getElem?_getD,h0]
    have hne:(zv d.names).getD 0 []=[.raw (.string d.names[0])]:=zF d.names 0 h0
    have hnm:rnm d=if zI d.names[0]=false then 6 else 0:=by
     unfold rnm;rw [hn]
     by_cases hx:zI d.names[0]=false
     ·rw [if_pos ⟨hl,hx⟩,if_pos hx]
     ·rw [if_neg fun h=>hx h.2,if_neg hx]
    simp only [go_sem,hA,zl,za,dl,hne]
    refine⟨by omega,?_⟩
    refine zb 400 (zeV d.names[0]) rfl (by simp only [go_sem]) (by simp only [go_sem,hA]) ?_
    cases hb2:zI d.names[0] with
    | true=>
     rw [hb2,if_neg (by simp)] at hnm
     rw [hnm] at hr
     simp only [go_sem,hA,hr,Tryz.results103]
    | false=>
     rw [hb2,if_pos rfl] at hnm
     rw [hnm] at hr
     simp only [go_sem,hA,hr,Tryz.results103]
   ·have dl:decide ((d.names.length:Int)=1)=false:=decide_eq_false (by omega)
    have hnm:rnm d=0:=if_neg fun h=>hl h.1
    rw [hnm] at hr
    simp only [go_sem,hA,zl,za,dl,undef,hr,Tryz.results103]
  ·have de:decide (er=0)=false:=decide_eq_false he
   rw [if_neg he] at hr
   simp only [go_sem,hA,zl,de,undef,hr,Tryz.results103]
 have d2:decide (s.kind=2)=false:=decide_eq_false g2
 by_cases g3:s.kind=3
 ·have hr:zcc d s k=({ d with doubt:=false },decide (k=0),0):=by unfold zcc;rw [if_neg g1,if_neg g2,if_pos g3]
  have dk:decide (k=0)=decide ((k:Int)=0):=decide_eq_decide.2 (by omega)
  rw [dk] at hr
  simp only [go_sem,hA,avD,avQ,g3,e31,e32,hr,Tryz.results103]
 have d3:decide (s.kind=3)=false:=decide_eq_false g3
 by_cases gk:k=2
 ·have hr:zcc d s k=(d,false,0):=by unfold zcc;rw [if_neg g1,if_neg g2,if_neg g3,if_pos gk]
  have dk:decide ((k:Int)=2)=true:=decide_eq_true (by omega)
  simp only [go_sem,hA,avD,avQ,d1,d2,d3,dk,hr,Tryz.results103]
 have dk:decide ((k:Int)=2)=false:=decide_eq_false (by omega)
 have h0:0<d.names.length:=by
  rcases h4 with h | h | h
  ·exact h
  ·exact absurd h g2
  ·exact absurd h g3
 have hn:d.names.getD 0 ⟨#[]⟩=d.names[0]:=by simp [List.getD_eq_getElem?_getD,h0]
 have hne:(zv d.names).getD 0 []=[.raw (.string d.names[0])]:=zF d.names 0 h0
 have hr:zcc d s k=({ d with names:=[d.names[0]++zbm d.id] },true,rnm { d with names:=[d.names[0]++zbm d.id] }):=by
  unfold zcc;rw [if_neg g1,if_neg g2,if_neg g3,if_neg gk,hn]
 have hnm:=zmk d (d.names[0]++zbm d.id)
 have hsz:=hns _ (List.getElem_mem h0)
 have hil:(zbm d.id).size≤21:=by unfold zc at hid;exact Lib.itoa_length_le d.id (by omega) (by omega)
 simp only [go_sem,hA,avD,avQ,d1,d2,d3,dk,za,hne,mixed]
 refine⟨by omega,?_⟩
 refine zbO 400 (zvJ d.id hid) rfl (by simp only [go_sem]) (by simp only [go_sem,hA]) ?_
 simp only [go_sem,hA,hg0,hln]
 refine⟨by omega,by show chk _ _ _=true;kernel_rfl,?_⟩
 refine zb 400 (zeV (d.names[0]++zbm d.id)) rfl (by simp only [go_sem]) (by simp only [go_sem,hA]) ?_
 cases hb2:zI (d.names[0]++zbm d.id) with
 | true=>
  rw [hb2,if_pos rfl] at hnm
  rw [hnm] at hr
  simp only [go_sem,hA,hr,Tryz.results103]
  rfl
 | false=>
  rw [hb2,if_neg (by simp)] at hnm
  rw [hnm] at hr
  simp only [go_sem,hA,hr,Tryz.results103]
  rfl
end
section
open Go Go.RowKit
theorem zBZ (x y:Sq):eqQ x y=eqQ y x:=by
 rw [Bool.eq_iff_iff,zjM,zjM]
 exact eq_comm
theorem zlm (s:Sq) (k:Nat) (l:List Dc) (q:Nat) (h:q<l.length):zcG s k l (q+1)=zcG s k l q++ziG s k l[q]:=by
 unfold zcG;rw [List.take_succ_eq_append_getElem h,List.flatMap_append];simp only [List.flatMap_cons,List.flatMap_nil,List.append_nil]
theorem zyL (s:Sq) (k:Nat) (d:Dc):(ziG s k d).length≤1:=by
 unfold ziG
 split
 ·split <;> simp
 ·simp
theorem zkp (s:Sq) (k:Nat) (l:List Dc):∀ q,(zcG s k l q).length≤q
 | 0=>by simp [zcG]
 | q+1=>by
  by_cases h:q<l.length
  ·rw [zlm s k l q h,List.length_append]
   have:=zkp s k l q
   have:=zyL s k l[q]
   omega
  ·have e:zcG s k l (q+1)=zcG s k l q:=by unfold zcG;rw [List.take_of_length_le (by omega),List.take_of_length_le (by omega)]
   rw [e];exact Nat.le_succ_of_le (zkp s k l q)
abbrev zfw (r:Nat) (s:Sq):Nat × Option Blk:=(r,some (.cell 60 [.d (.raw (.string s.label)),.d (.raw (.int .i64 s.kind)),.d (.raw (.int .i64 s.id)),.d (.raw (.int .i64 s.pos))]))
abbrev zFb (r:Nat):Nat × Option Blk:=(r,some (.cell 56 [.d (.raw (.string ⟨#[]⟩)),.d (.raw (.slice none 0 0)),.d (.raw (.slice none 0 0))]))
abbrev zew (x:Mo) (s:Sq) (k:Nat) (l:List Sq) (b:Bool) (q:Nat):St:=⟨[(2,.d (.raw (.int .i64 k))),(3,.box 0 0),(4,.box 1 0),(6,.box 2 0),(8,.d (.raw (.int .i64 0))),(9,.d (.sl (zaI l))),(10,.d (.raw (.bool b))),(11,.d (.raw (.int .i64 q)))],[zqd x,zfw 1 s,zFb 2],[]⟩
abbrev zna (x:Mo) (s:Sq) (k:Nat) (l:List Dc) (q:Nat):St:=⟨[(2,.d (.raw (.int .i64 k))),(3,.box 0 0),(4,.box 1 0),(6,.box 2 0),(8,.d (.raw (.int .i64 0))),(12,.box 14005 0),(13,.d (.raw (.int .i64 q)))],
 [zqd x,zfw 1 s,zFb 2,(14005,some (.cell 56 [.d (.raw (.string x.label)),.d (.sl (zv x.uses)),.grow 99 (zak l)]))],[(99,some ⟨11,107,l.length,none⟩)]⟩
theorem zFr (x:Mo) (s:Sq) (k:Nat) (hk:k<3) (hb:∀ d ∈ x.decls,nodesE d.body≤524288) :
  Con Tryz.prog 46 [avM x,avQ s,.d (.raw (.int .i64 k))] (.tup [avM (zim x s k).1,.d (.raw (.int .i64 (zim x s k).2))]):=by
 refine zh Tryz.func46 rfl (by decide +kernel) rfl rfl (by simp [Tryz.ntmps46]) fun A hA=>?_
 rw [Tryz.ntmps46] at hA
 refine goC 400 ?_
 have hr0:zim x s k=if ¬ zN x=0 then (zca,zN x) else if (zaB x).any (eqQ s)=false then (zca,8) else if k=1∧(s.kind=3∨s.kind=4) then (zca,2)
  else if ¬ zj (zha s k x.decls) x.decls.length=0 then (zca,zj (zha s k x.decls) x.decls.length) else (⟨x.label,x.uses,zcG s k x.decls x.decls.length⟩,0):=rfl
 simp only [go_sem,hA,avM,avQ]
 refine zb 400 (zrn x hb) rfl (by simp only [go_sem,avM]) (by simp only [go_sem,hA]) ?_
 by_cases hbx:zN x=0
 case neg=>
  have g1:(decide ¬ zN x=0)=true:=decide_eq_true hbx
  rw [if_pos hbx] at hr0
  simp only [go_sem,hA,g1,hr0,Tryz.results46]
  rfl
 have g1:(decide ¬ zN x=0)=false:=by simp [hbx]
 rw [if_neg (by simp [hbx])] at hr0
 have hcq:zbQ x=zaB x:=if_pos hbx
 have hcon:=ztf x hb
 rw [hcq] at hcon
 have hd100:=(zgI hbx).2.1
 have hqf:=zkQ hbx
 simp only [go_sem,hA,g1]
 refine zb 400 hcon rfl (by simp only [go_sem,avM]) (by simp only [go_sem,hA]) ?_
 simp only [go_sem,hA,hbx]
 refine zd [2,3,4,6,8,9,10,11] [0,1,2] [] (fun y σ=>∃ (q:Nat) (b:Bool),q≤(zaB x).length∧y=(zaB x).length - q∧((zaB x).take q).any (eqQ s)=b∧σ=zew x s k (zaB x) b q) (zaB x).length ⟨0,false,by omega,by omega,rfl,by(simp only [go_sem,zew]) <;> rfl⟩ ?_
 rintro y σ ⟨q,b,hq,rfl,hf,rfl⟩
 refine goC 400 ?_
 by_cases hlt:q<(zaB x).length
 ·have k1:decide ((q:Int)<((zaB x).length:Int))=true:=decide_eq_true (by omega)
  have hstep:((zaB x).take (q+1)).any (eqQ s)=(b || eqQ (zaB x)[q] s):=by
   rw [List.take_succ_eq_append_getElem hlt,List.any_append,hf,zBZ]
   simp
  have fin:∀ c:Bool,((zaB x).take (q+1)).any (eqQ s)=c→∃ m,m<(zaB x).length - q∧∃ (q':Nat) (b:Bool),q'≤(zaB x).length∧m=(zaB x).length - q'∧((zaB x).take q').any (eqQ s)=b∧zew x s k (zaB x) c (q+1)=zew x s k (zaB x) b q':=fun c h=>⟨(zaB x).length - (q+1),by omega,q+1,c,by omega,rfl,h,rfl⟩
  cases b with
  | true=>
   rw [Bool.true_or] at hstep
   simp only [go_sem,hA,zew,zr,k1,undef,mixed]
   exact⟨by show chk _ _ _=true;kernel_rfl,by unfold zc;omega,fin _ hstep⟩
  | false=>
   rw [Bool.false_or] at hstep
   obtain⟨d,hd⟩:∃ d,(zaB x)[q]=d:=⟨_,rfl⟩
   rw [hd] at hstep
   have he:((decide (d.label=s.label)) && ((decide (d.kind=s.kind)) && ((decide (d.id=s.id)) && (decide (d.pos=s.pos)))))=eqQ d s:=rfl
   have henc:=zhs (zaB x) q hlt
   rw [hd] at henc
   simp only [go_sem,hA,zew,zr,k1,Int.toNat_natCast,henc,zic,spR,String.reduceEq,he,mixed]
   exact⟨⟨by omega,by omega⟩,⟨by kernel_rfl,by kernel_rfl⟩,by show chk _ _ _=true;kernel_rfl,by unfold zc;omega,fin _ hstep⟩
 have k1:decide ((q:Int)<((zaB x).length:Int))=false:=decide_eq_false (by omega)
 obtain rfl:q=(zaB x).length:=by omega
 rw [List.take_length] at hf
 cases b with
 | false=>
  rw [if_pos hf] at hr0
  simp only [go_sem,hA,zew,zr,k1,hr0,Tryz.results46]
  rfl
 | true=>
 rw [if_neg (by simp [hf])] at hr0
 have dk0:decide ((k:Int)<0)=false:=decide_eq_false (by omega)
 have dk2:decide ((2:Int)<(k:Int))=false:=decide_eq_false (by omega)
 by_cases href:k=1∧(s.kind=3∨s.kind=4)
 ·rw [if_pos href] at hr0
  have d1:decide ((k:Int)=1)=true:=decide_eq_true (by have:=href.1;omega)
  rcases href.2 with h | h
  ·have d3:decide (s.kind=3)=true:=decide_eq_true h
   simp only [go_sem,hA,zew,zr,k1,dk0,dk2,d1,d3,undef,hr0,Tryz.results46]
   rfl
  ·have d3:decide (s.kind=3)=false:=decide_eq_false (by omega)
   have d4:decide (s.kind=4)=true:=decide_eq_true h
   simp only [go_sem,hA,zew,zr,k1,dk0,dk2,d1,d3,d4,hr0,Tryz.results46]
   rfl
 rw [if_neg href] at hr0
 obtain⟨b1,d1⟩:∃ b,decide ((k:Int)=1)=b:=⟨_,rfl⟩
 have d34:b1=true→decide (s.kind=3)=false∧decide (s.kind=4)=false:=fun h=>by
  subst h
  have hk1:k=1:=by have:=of_decide_eq_true d1;omega
  exact⟨decide_eq_false fun e=>href ⟨hk1,.inl e⟩,decide_eq_false fun e=>href ⟨hk1,.inr e⟩⟩
 have pre:∀ d ∈ x.decls,d.id=s.id→zc d.id∧(s.kind=1→k<d.names.length)∧(0<d.names.length∨s.kind=2∨s.kind=3)∧(∀ nm ∈ d.names,nm.size≤1099511627776)∧d.names.length≤1048576:=fun d hd hid=>by
  obtain⟨q,hq,hqe⟩:=List.any_eq_true.1 hf
  have hqs:=(zjM s q).1 hqe
  subst hqs
  obtain⟨e,he,hat⟩:=zfP hq
  have hde:d=e:=zrQ hbx hd he (hid.trans hat.2.1)
  subst hde
  obtain⟨o1,o2,_,o3,_⟩:=zfS (zkS hbx hd)
  have o4:=znT o3
  refine⟨by unfold zc;omega,fun h1=>?_,.inl (by omega),fun nm hnm=>Nat.le_trans (o4.2 nm hnm) (by decide),by omega⟩
  rcases hat.2.2 with h | h | h | h
  ·omega
  ·omega
  ·omega
  ·omega
 cases b1
 case' true=>
  obtain⟨d3,d4⟩:=d34 rfl
  simp only [go_sem,hA,zew,zr,k1,dk0,dk2,d1,d3,d4]
 case' false=>simp only [go_sem,hA,zew,zr,k1,dk0,dk2,d1,undef]
 all_goals
  refine zbt 99 14005 2 11 107 (by simp only [go_sem]) rfl rfl ?_
  refine zd [2,3,4,6,8,12,13] [0,1,2,14005] [99] (fun y σ=>∃ q:Nat,q≤x.decls.length∧y=x.decls.length - q∧zj (zha s k x.decls) q=0∧σ=zna x s k (zcG s k x.decls q) q) x.decls.length ⟨0,by omega,by omega,rfl,by(simp only [go_sem,zna]) <;> rfl⟩ ?_
  clear k1 hlt hq
  rintro y σ ⟨q,hq,rfl,hf2,rfl⟩
  by_cases hlt:q<x.decls.length
  ·have k1:decide ((q:Int)<(x.decls.length:Int))=true:=decide_eq_true (by omega)
   have hmem:=List.getElem_mem hlt
   have hat:=zce x.decls q hlt
   have hks:=zlm s k x.decls q hlt
   have hkl:=zkp s k x.decls q
   by_cases hid:x.decls[q].id=s.id
   ·obtain⟨p1,p2,p3,p4,p5⟩:=pre _ hmem hid
    have hfe:zha s k x.decls q=(zcc x.decls[q] s k).2.2:=by unfold zha;rw [hat,if_pos hid]
    have hke:ziG s k x.decls[q]=if (zcc x.decls[q] s k).2.1=true then [(zcc x.decls[q] s k).1] else []:=if_pos hid
    have dd:decide (s.id=s.id)=true:=decide_eq_true rfl
    have hcon:=zFq x.decls[q] s k hk (Nat.le_trans (hb _ hmem) (by decide)) p1 p5 p2 p3 p4
    refine goC 400 ?_
    simp only [go_sem,hA,zna,zf,k1,Int.toNat_natCast,zS x.decls q hlt,zcW,hid]
    refine⟨⟨by omega,by omega⟩,?_⟩
    refine zb 0 hcon rfl (by simp only [go_sem,avD,avQ,hid]) (by simp only [go_sem,hA]) ?_
    generalize zcc x.decls[q] s k=r at hfe hke
    obtain⟨e,ok,er⟩:=r
    simp only at hfe hke
    by_cases he:er=0
    ·subst he
     cases ok with
     | true=>
      rw [hke,if_pos rfl] at hks
      refine zR 74 _ _ _ _ ?_
      simp only [go_sem,hA,avD]
      refine ziR 400 (by simp only [go_sem]) (zea (rows2:=zak [e]) (k:=⟨11,107,(zcG s k x.decls q).length,none⟩) rfl rfl rfl rfl rfl (by kernel_rfl) zgT (by kernel_rfl) (by rw [show Tryz.prog.cellsOf 107=11 by kernel_rfl];decide) (by kernel_rfl) (by rw [show Tryz.prog.bytesOf 107=136 by kernel_rfl];decide) (zf _) (zcL _) (fun r hr=>(zcL _ r hr).1) (by rw [zf,zf,List.length_singleton];omega)) (by simp only [go_sem,hA]) ?_
      simp only [go_sem,hA]
      exact⟨by unfold zc;omega,x.decls.length - (q+1),by omega,q+1,by omega,rfl,zp hf2 hfe,by rw [hks,zeg,List.length_append];rfl⟩
     | false=>
      rw [hke,if_neg (by simp),List.append_nil] at hks
      refine zR 400 _ _ _ _ ?_
      simp only [go_sem,hA,avD]
      exact⟨by unfold zc;omega,x.decls.length - (q+1),by omega,q+1,by omega,rfl,zp hf2 hfe,by rw [hks];rfl⟩
    ·have de:decide (¬ er=0)=true:=decide_eq_true he
     rw [zx hf2 hlt (by rw [hfe];exact he),hfe,if_pos he] at hr0
     refine zR 400 _ _ _ _ ?_
     simp only [go_sem,hA,avD,de,hr0,Tryz.results46]
     rfl
   ·have hfe:zha s k x.decls q=0:=by unfold zha;rw [hat,if_neg hid]
    have hke:ziG s k x.decls[q]=[x.decls[q]]:=if_neg hid
    rw [hke] at hks
    have dd:decide (x.decls[q].id=s.id)=false:=decide_eq_false hid
    refine goC 140 ?_
    simp only [go_sem,hA,zna,zf,k1,Int.toNat_natCast,zS x.decls q hlt,zcW,dd]
    refine⟨⟨by omega,by omega⟩,?_⟩
    refine ziR 400 (by simp only [go_sem]) (zea (rows2:=zak [x.decls[q]]) (k:=⟨11,107,(zcG s k x.decls q).length,none⟩) rfl rfl rfl rfl rfl (by kernel_rfl) zgT (by kernel_rfl) (by rw [show Tryz.prog.cellsOf 107=11 by kernel_rfl];decide) (by kernel_rfl) (by rw [show Tryz.prog.bytesOf 107=136 by kernel_rfl];decide) (zf _) (zcL _) (fun r hr=>(zcL _ r hr).1) (by rw [zf,zf,List.length_singleton];omega)) (by simp only [go_sem,hA]) ?_
    simp only [go_sem,hA]
    exact⟨by unfold zc;omega,x.decls.length - (q+1),by omega,q+1,by omega,rfl,zp hf2 hfe,by rw [hks,zeg,List.length_append];rfl⟩
  ·have k1:decide ((q:Int)<(x.decls.length:Int))=false:=decide_eq_false (by omega)
   obtain rfl:q=x.decls.length:=by omega
   rw [if_neg (by simp [hf2])] at hr0
   refine goC 400 ?_
   simp only [go_sem,hA,zna,zf,k1,hr0,Tryz.results46]
end
end Go.Proofs.YtpnjjmcimjlfkaaGreatDoor
