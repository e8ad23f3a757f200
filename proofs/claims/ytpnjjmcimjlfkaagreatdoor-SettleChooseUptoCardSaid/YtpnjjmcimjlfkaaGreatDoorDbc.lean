/- Texts of this proof, part 29: what the proof uses of them. -/
import Derived.Test.YtpnjjmcimjlfkaaGreatDoorDbb
import Derived.Test.YtpnjjmcimjlfkaaGreatDoorDay
import Derived.Test.YtpnjjmcimjlfkaaGreatDoorDaw
set_option maxRecDepth 100000
set_option maxHeartbeats 64000000
namespace Go.Proofs.YtpnjjmcimjlfkaaGreatDoor
section
open Go Go.RowKit
theorem zAp (f:Fl):∀ l:List Fl,(wF f l).length≤l.length+1
 | []=>by simp [wF]
 | x :: l=>by
  rw [wF]
  split
  ·have:=zAp f l
   simp only [List.length_cons];omega
  ·have:=List.length_filter_le (fun y:Fl=>decide (¬ y.path=f.path)) (x :: l)
   simp only [List.length_cons] at this ⊢;omega
theorem zlo (m:Mg) (p:ByteArray) (k q:Nat) (h:q<m.ts.length):zaV m p k (q+1)=zgZ p k (zaV m p k q) m.ts[q]:=by
 unfold zaV;rw [List.take_succ_eq_append_getElem h,List.foldl_append];rfl
theorem zni (m:Mg) (p:ByteArray) (k:Nat):∀ q,(zaV m p k q).1.length≤m.fs.length+q∧(zaV m p k q).2.length≤q
 | 0=>by simp [zaV]
 | q+1=>by
  have ih:=zni m p k q
  by_cases h:q<m.ts.length
  ·rw [zlo m p k q h]
   unfold zgZ
   split
   ·split
    ·have:=zAp ⟨p,zal m.ts[q] k⟩ (zaV m p k q).1
     simp only
     omega
    ·omega
   ·simp only [List.length_append,List.length_singleton]
    omega
  ·have e:zaV m p k (q+1)=zaV m p k q:=by unfold zaV;rw [List.take_of_length_le (by omega),List.take_of_length_le (by omega)]
   rw [e];omega
theorem zrW (a b:List Tc):zac (a++b)=zac a++zac b:=by simp [zac]
theorem zCd (c:Tc):[[D.raw (Value.string c.path),D.raw (Value.bool c.inB),D.raw (Value.bool c.inL),D.raw (Value.bool c.inR),D.raw (Value.string c.base),D.raw (Value.string c.left),D.raw (Value.string c.right)]]=zac [c]:=rfl
abbrev zfF (r:Nat) (m:Mg):Nat × Option Blk:=(r,some (.cell 26 [.d (.sl (zab m.ms)),.d (.sl (zy m.fs)),.d (.sl (zac m.ts))]))
abbrev zgQ (r:Nat):Nat × Option Blk:=(r,some (.cell 26 [.d (.raw (.slice none 0 0)),.d (.raw (.slice none 0 0)),.d (.raw (.slice none 0 0))]))
abbrev zln (m:Mg) (p:ByteArray) (k:Nat) (a:List Fl × List Tc) (q:Nat):St:=⟨[(1,.d (.raw (.string p))),(2,.d (.raw (.int .i64 k))),(3,.box 0 0),(6,.box 1 0),(7,.box 1005 0),(8,.d (.raw (.int .i64 q)))],
 [zfF 0 m,zgQ 1,(1005,some (.cell 26 [.d (.sl (zab m.ms)),.d (.sl (zy a.1)),.grow 99 (zac a.2)]))],[(99,some ⟨7,58,a.2.length,none⟩)]⟩
theorem zDS (m:Mg) (p:ByteArray) (k:Nat) (hl:m.fs.length+m.ts.length≤1048576) :
  Con Tryz.prog 45 [avG m,.d (.raw (.string p)),.d (.raw (.int .i64 k))] (avG ⟨m.ms,(zaV m p k m.ts.length).1,(zaV m p k m.ts.length).2⟩):=by
 refine zh Tryz.func45 rfl (by decide +kernel) rfl rfl (by simp [Tryz.ntmps45]) fun A hA=>?_
 rw [Tryz.ntmps45] at hA
 refine goC 400 ?_
 simp only [go_sem,hA,avG]
 refine zbt 99 1005 2 7 58 (by simp only [go_sem]) rfl rfl ?_
 refine zd [1,2,3,6,7,8] [0,1,1005] [99] (fun y σ=>∃ (q:Nat) (a:List Fl × List Tc),q≤m.ts.length∧y=m.ts.length - q∧zaV m p k q=a∧σ=zln m p k a q) m.ts.length ⟨0,(m.fs,[]),by omega,by omega,rfl,by(simp only [go_sem,zln]) <;> rfl⟩ ?_
 rintro y σ ⟨q,a,hq,rfl,ha,rfl⟩
 refine goC 400 ?_
 by_cases hlt:q<m.ts.length
 ·have k1:decide ((q:Int)<(m.ts.length:Int))=true:=decide_eq_true (by omega)
  have hs:=zlo m p k q hlt
  have hlen:=zni m p k q
  rw [ha] at hs hlen
  have henc:=zaO m.ts q hlt
  generalize m.ts[q]=c at hs henc
  obtain⟨a1,a2⟩:=a
  unfold zgZ at hs
  simp only at hs hlen
  have fin:∀ b,zaV m p k (q+1)=b→∃ n,n<m.ts.length - q∧∃ (q':Nat) (a:List Fl × List Tc),q'≤m.ts.length∧n=m.ts.length - q'∧zaV m p k q'=a∧zln m p k b (q+1)=zln m p k a q':=fun b h=>⟨m.ts.length - (q+1),by omega,q+1,b,by omega,rfl,h,rfl⟩
  by_cases hp:c.path=p
  ·have g:(decide ¬ c.path=p)=false:=by simp [hp]
   rw [if_pos hp] at hs
   simp only [go_sem,hA,zln,zn,k1,Int.toNat_natCast,henc,zfj,g]
   refine⟨⟨by omega,by omega⟩,⟨by omega,by omega⟩,?_⟩
   refine zb 400 (zkq c k) rfl (by simp only [go_sem,avC]) (by simp only [go_sem,hA]) ?_
   cases hin:zfp c k with
   | true=>
    rw [hin,if_pos rfl] at hs
    simp only [go_sem,hA]
    refine zb 400 (zAG a1 ⟨p,zal c k⟩ (by omega)) rfl (by simp only [go_sem,avF]) (by simp only [go_sem,hA]) ?_
    simp only [go_sem,hA]
    exact⟨by unfold zc;omega,fin _ hs⟩
   | false=>
    rw [hin,if_neg (by simp)] at hs
    simp only [go_sem,hA]
    exact⟨by unfold zc;omega,fin _ hs⟩
  ·have g:(decide ¬ c.path=p)=true:=decide_eq_true hp
   rw [if_neg hp] at hs
   have hfit:zD 7 [[D.raw (Value.string c.path),D.raw (Value.bool c.inB),D.raw (Value.bool c.inL),D.raw (Value.bool c.inR),D.raw (Value.string c.base),D.raw (Value.string c.left),D.raw (Value.string c.right)]]:=zfN [c]
   simp only [go_sem,hA,zln,zn,k1,Int.toNat_natCast,henc,zfj,g,mixed]
   refine⟨⟨by omega,by omega⟩,⟨by omega,by omega⟩,⟨hfit,fun r hr=>(zfN a2 r hr).1,by omega⟩,by show chk _ _ _=true;kernel_rfl,by unfold zc;omega,?_⟩
   have:=fin _ hs
   simp only [zln,zrW,List.length_append,← zCd] at this
   exact this
 have k1:decide ((q:Int)<(m.ts.length:Int))=false:=decide_eq_false (by omega)
 obtain rfl:q=m.ts.length:=by omega
 rw [ha]
 simp only [go_sem,hA,zln,zn,k1,Tryz.results45]
end
section
open Go Go.RowKit
theorem zyu {m:Mg} (hg:m.Good) (hs:m.Slim) (h0:zw m=0) {s:Sq} (hq:s ∈ zK m) (k:Nat):(zaL m s k).1.Slim:=by
 have hfine:=(zkf hg h0 hq k).fine
 rcases zes hq with⟨c,hc,rfl⟩ | ⟨x,hx,hxs⟩
 ·refine⟨hfine,?_,?_⟩
  ·rw [zcq h0 hc k]
   intro y hy
   rcases zoh.1 hy with h | ⟨_,rfl⟩
   ·exact hs.fp y h
   ·exact hs.tp c hc
  ·rw [zcq h0 hc k]
   intro y hy
   exact hs.tp y ((zeU h0 hc y).1 hy).1
 ·refine⟨hfine,?_,?_⟩
  ·rw [zcP h0 hx hxs]
   split
   ·exact hs.fp
   ·intro y hy;cases hy
  ·rw [zcP h0 hx hxs]
   split
   ·exact hs.tp
   ·intro y hy;cases hy
theorem zjQ (a b:List Mo):zab (a++b)=zab a++zab b:=by simp [zab]
theorem zul (x:Mo):[[D.raw (Value.string x.label),D.sl (zv x.uses),D.sl (zak x.decls)]]=zab [x]:=rfl
abbrev zrg (m m':Mg) (s:Sq) (k:Nat):St:=⟨[(2,.d (.raw (.int .i64 k))),(3,.box 0 0),(6,.box 1 0),(10,.box 7004 0),(11,.box 8005 0),(12,.d (.raw (.int .i64 0)))],[zfF 0 m,zgQ 1,zfw 7004 s,zfF 8005 m'],[]⟩
abbrev zge (m:Mg) (s:Sq) (k:Nat) (l:List Mo) (q:Nat):St:=⟨[(2,.d (.raw (.int .i64 k))),(3,.box 0 0),(6,.box 1 0),(10,.box 7004 0),(11,.box 8005 0),(12,.d (.raw (.int .i64 q)))],
 [zfF 0 m,zgQ 1,zfw 7004 s,(8005,some (.cell 26 [.grow 99 (zab l),.d (.sl (zy m.fs)),.d (.sl (zac m.ts))]))],[(99,some ⟨3,56,l.length,none⟩)]⟩
theorem zyX (m:Mg) (hg:m.Good) (hs:m.Slim) (hl:m.fs.length+m.ts.length≤1048576) (i side:Int):Con Tryz.prog 15 [avG m,.d (.raw (.int .i64 i)),.d (.raw (.int .i64 side))] (.tup [avG (zfv m i side).1,.d (.raw (.int .i64 (zfv m i side).2))]):=by
 refine zh Tryz.func15 rfl (by decide +kernel) rfl rfl (by simp [Tryz.ntmps15]) fun A hA=>?_
 rw [Tryz.ntmps15] at hA
 have hr0:zfv m i side=if ¬ zw m=0 then (zbz,zw m)
  else if i<0∨((zK m).length:Int)≤i∨side<0∨2<side then (zbz,2)
  else if ¬ (zcF m (atQ (zK m) i.toNat) side.toNat).2=0 then (zbz,(zcF m (atQ (zK m) i.toNat) side.toNat).2)
  else if ¬ zw (zcF m (atQ (zK m) i.toNat) side.toNat).1=0 then (zbz,zw (zcF m (atQ (zK m) i.toNat) side.toNat).1)
  else ((zcF m (atQ (zK m) i.toNat) side.toNat).1,0):=by unfold zfv;simp only [zkm]
 refine goC 400 ?_
 simp only [go_sem,hA,avG]
 refine zb 400 (zml m hs) rfl (by simp only [go_sem,avG]) (by simp only [go_sem,hA]) ?_
 by_cases h0:zw m=0
 case neg=>
  have g1:(decide ¬ zw m=0)=true:=decide_eq_true h0
  rw [if_pos h0] at hr0
  simp only [go_sem,hA,g1,hr0,Tryz.results15]
  rfl
 have g1:(decide ¬ zw m=0)=false:=by simp [h0]
 rw [if_neg (by simp [h0])] at hr0
 have hll:=zDQ m hs hg.tl
 rw [zzr,show zBw m=zK m from if_pos h0] at hll
 simp only [go_sem,hA,g1]
 refine zb 400 hll rfl (by simp only [go_sem,avG]) (by simp only [go_sem,hA]) ?_
 by_cases h1:i<0∨((zK m).length:Int)≤i∨side<0∨2<side
 ·rw [if_pos h1] at hr0
  by_cases a1:i<0
  ·have d1:=decide_eq_true a1
   simp only [go_sem,hA,d1,undef,hr0,Tryz.results15]
   rfl
  have d1:=decide_eq_false a1
  by_cases a2:((zK m).length:Int)≤i
  ·have d2:=decide_eq_true a2
   simp only [go_sem,hA,d1,d2,undef,zr,hr0,Tryz.results15]
   rfl
  have d2:=decide_eq_false a2
  by_cases a3:side<0
  ·have d3:=decide_eq_true a3
   simp only [go_sem,hA,d1,d2,d3,undef,zr,hr0,Tryz.results15]
   rfl
  have d3:=decide_eq_false a3
  have d4:decide (2<side)=true:=decide_eq_true (by omega)
  simp only [go_sem,hA,d1,d2,d3,d4,zr,hr0,Tryz.results15]
  rfl
 rw [if_neg h1] at hr0
 obtain⟨ni,rfl⟩:∃ n:Nat,i=n:=⟨i.toNat,by omega⟩
 obtain⟨k,rfl⟩:∃ n:Nat,side=n:=⟨side.toNat,by omega⟩
 have hk:k<3:=by omega
 have hlt:ni<(zK m).length:=by omega
 have d1:decide ((ni:Int)<0)=false:=decide_eq_false (by omega)
 have d2:decide (((zK m).length:Int)≤(ni:Int))=false:=decide_eq_false (by omega)
 have d3:decide ((k:Int)<0)=false:=decide_eq_false (by omega)
 have d4:decide (2<(k:Int))=false:=decide_eq_false (by omega)
 have hat:=zsk (zK m) ni hlt
 have hsq:(zK m)[ni] ∈ zK m:=List.getElem_mem hlt
 have henc:=zhs (zK m) ni hlt
 simp only [Int.toNat_natCast,hat] at hr0
 generalize (zK m)[ni]=s at hr0 hsq henc
 have hsl:=zyu hg hs h0 hsq k
 rw [← zpE h0 hsq hk] at hsl
 have hml:=hg.fine.ml
 by_cases h5:s.kind=5
 ·have d5:decide (s.kind=5)=true:=decide_eq_true h5
  have d6:(decide ¬ s.kind=5)=false:=by simp [h5]
  have hst:zcF m s k=(⟨m.ms,(zaV m s.label k m.ts.length).1,(zaV m s.label k m.ts.length).2⟩,0):=if_pos h5
  have hf:=zDS m s.label k hl
  rw [hst,if_neg (by simp)] at hr0
  rw [hst] at hsl
  simp only at hr0 hsl
  simp only [go_sem,hA,d1,d2,d3,d4,zr,Int.toNat_natCast,henc,zic,spR,d5]
  refine⟨⟨by omega,by omega⟩,?_⟩
  refine zb 400 hf rfl (by simp only [go_sem,avG]) (by simp only [go_sem,hA]) ?_
  generalize hm':(⟨m.ms,(zaV m s.label k m.ts.length).1,(zaV m s.label k m.ts.length).2⟩:Mg)=m' at hr0 hsl
  have e1:zab m.ms=zab m'.ms:=by rw [← hm']
  have e2:zy (zaV m s.label k m.ts.length).1=zy m'.fs:=by rw [← hm']
  have e3:zac (zaV m s.label k m.ts.length).2=zac m'.ts:=by rw [← hm']
  simp only [go_sem,hA,avG]
  refine zd [2,3,6,10,11,12] [0,1,7004,8005] [] (fun y σ=>y=0∧σ=zrg m m' s k) 0 ⟨rfl,by(simp only [go_sem,zrg,zfF,zgQ,zfw,← hm']) <;> rfl⟩ ?_
  rintro y σ ⟨rfl,rfl⟩
  refine goC 400 ?_
  by_cases hm0:0<m.ms.length
  case' pos=>
   have k1:decide ((0:Int)<(m.ms.length:Int))=true:=decide_eq_true (by omega)
   simp only [go_sem,hA,zrg,zfF,zgQ,zfw,zm,k1,d6]
  case' neg=>
   have k1:decide ((0:Int)<(m.ms.length:Int))=false:=decide_eq_false (by omega)
   simp only [go_sem,hA,zrg,zfF,zgQ,zfw,zm,k1,undef]
  all_goals
   refine zb 400 (zml m' hsl) rfl (by simp only [go_sem,avG]) (by simp only [go_sem,hA]) ?_
   by_cases h6:zw m'=0
   ·have g6:(decide ¬ zw m'=0)=false:=by simp [h6]
    rw [if_neg (by simp [h6])] at hr0
    simp only [go_sem,hA,g6,hr0,Tryz.results15]
   ·have g6:(decide ¬ zw m'=0)=true:=decide_eq_true h6
    rw [if_pos h6] at hr0
    simp only [go_sem,hA,g6,hr0,Tryz.results15]
    rfl
 ·have d5:decide (s.kind=5)=false:=decide_eq_false h5
  have d6:(decide ¬ s.kind=5)=true:=decide_eq_true h5
  have hst:zcF m s k=if ¬ zj (zgM m.ms s k) m.ms.length=0 then (zbz,zj (zgM m.ms s k) m.ms.length) else (⟨m.ms.map (zdT s k),m.fs,m.ts⟩,0):=if_neg h5
  simp only [go_sem,hA,d1,d2,d3,d4,zr,Int.toNat_natCast,henc,zic,spR,d5]
  refine⟨⟨by omega,by omega⟩,?_⟩
  refine zbt 99 8005 0 3 56 (by simp only [go_sem]) rfl rfl ?_
  refine zd [2,3,6,10,11,12] [0,1,7004,8005] [99] (fun y σ=>∃ q:Nat,q≤m.ms.length∧y=m.ms.length - q∧zj (zgM m.ms s k) q=0∧σ=zge m s k ((m.ms.take q).map (zdT s k)) q) m.ms.length ⟨0,by omega,by omega,rfl,by(simp only [go_sem,zge,zfF,zgQ,zfw,List.take_zero,List.map_nil]) <;> rfl⟩ ?_
  rintro y σ ⟨q,hq,rfl,hf,rfl⟩
  refine goC 400 ?_
  by_cases hlt2:q<m.ms.length
  ·have k1:decide ((q:Int)<(m.ms.length:Int))=true:=decide_eq_true (by omega)
   have hat1:=zbR m.ms q hlt2
   have hbd:=hg.fine.bd _ (List.getElem_mem hlt2)
   have hmap:(m.ms.take (q+1)).map (zdT s k)=(m.ms.take q).map (zdT s k)++[zdT s k m.ms[q]]:=by
    rw [List.take_succ_eq_append_getElem hlt2,List.map_append];rfl
   have hlen:((m.ms.take q).map (zdT s k)).length=q:=by rw [List.length_map,List.length_take];omega
   have hencm:=zaN m.ms q hlt2
   have hme:zgM m.ms s k q=if m.ms[q].label=s.label then (zim m.ms[q] s k).2 else 0:=by unfold zgM;rw [hat1]
   have hmp:zdT s k m.ms[q]=if m.ms[q].label=s.label then (zim m.ms[q] s k).1 else m.ms[q]:=rfl
   have hmc:=zFr m.ms[q] s k hk hbd
   generalize m.ms[q]=x at hbd hmap hencm hme hmp hmc
   have hrow:∀ r ∈ zab ((m.ms.take q).map (zdT s k)),r.length=3:=fun r hr=>(zfM _ r hr).1
   have fin:∀ l,(m.ms.take (q+1)).map (zdT s k)=l→zj (zgM m.ms s k) (q+1)=0→∃ n,n<m.ms.length - q∧∃ q':Nat,q'≤m.ms.length∧n=m.ms.length - q'∧zj (zgM m.ms s k) q'=0∧zge m s k l (q+1)=zge m s k ((m.ms.take q').map (zdT s k)) q':=fun l h h2=>⟨m.ms.length - (q+1),by omega,q+1,by omega,rfl,h2,by rw [h]⟩
   by_cases hp:x.label=s.label
   ·have g:decide (x.label=s.label)=true:=decide_eq_true hp
    rw [if_pos hp] at hme hmp
    simp only [go_sem,hA,zge,zfF,zgQ,zfw,zm,k1,d6,Int.toNat_natCast,hencm,zeJ,g]
    refine⟨⟨by omega,by omega⟩,?_⟩
    refine zb 400 hmc rfl (by simp only [go_sem,avM,avQ]) (by simp only [go_sem,hA]) ?_
    generalize zim x s k=r at hme hmp
    obtain⟨x',er⟩:=r
    simp only at hme hmp
    by_cases he:er=0
    ·subst he
     have de:(decide ¬ (0:Int)=0)=false:=by decide
     rw [hmp] at hmap
     have hfit:zD 3 [[D.raw (Value.string x'.label),D.sl (zv x'.uses),D.sl (zak x'.decls)]]:=zfM [x']
     simp only [go_sem,hA,avM]
     refine⟨⟨by rw [zm],hfit,hrow,by rw [zm];omega⟩,by unfold zc;omega,?_⟩
     have:=fin _ hmap (zp hf hme)
     simp only [zge,zfF,zgQ,zfw,zjQ,List.length_append,← zul] at this
     exact this
    ·have de:(decide ¬ er=0)=true:=decide_eq_true he
     rw [zx hf hlt2 (by rw [hme];exact he),hme,if_pos he] at hst
     rw [hst,if_pos he] at hr0
     simp only [go_sem,hA,avM,de,hr0,Tryz.results15]
     rfl
   ·have g:decide (x.label=s.label)=false:=decide_eq_false hp
    rw [if_neg hp] at hme hmp
    rw [hmp] at hmap
    have hfit:zD 3 [[D.raw (Value.string x.label),D.sl (zv x.uses),D.sl (zak x.decls)]]:=zfM [x]
    simp only [go_sem,hA,zge,zfF,zgQ,zfw,zm,k1,d6,Int.toNat_natCast,hencm,zeJ,g]
    refine⟨⟨by omega,by omega⟩,⟨hfit,hrow,by omega⟩,by unfold zc;omega,?_⟩
    have:=fin _ hmap (zp hf hme)
    simp only [zge,zfF,zgQ,zfw,zjQ,List.length_append,← zul] at this
    exact this
  have k1:decide ((q:Int)<(m.ms.length:Int))=false:=decide_eq_false (by omega)
  obtain rfl:q=m.ms.length:=by omega
  rw [if_neg (by simp [hf])] at hst
  rw [hst,if_neg (by simp)] at hr0
  rw [hst] at hsl
  simp only at hr0 hsl
  generalize hm':(⟨m.ms.map (zdT s k),m.fs,m.ts⟩:Mg)=m' at hr0 hsl
  have e1:zab ((m.ms.take m.ms.length).map (zdT s k))=zab m'.ms:=by rw [← hm',List.take_length]
  have e2:zy m.fs=zy m'.fs:=by rw [← hm']
  have e3:zac m.ts=zac m'.ts:=by rw [← hm']
  have hcc:=zml m' hsl
  unfold avG at hcc
  rw [← e1,← e2,← e3] at hcc
  simp only [go_sem,hA,zge,zfF,zgQ,zfw,zm,k1,undef]
  refine zb 400 hcc rfl (by simp only [go_sem]) (by simp only [go_sem,hA]) ?_
  by_cases h6:zw m'=0
  ·have g6:(decide ¬ zw m'=0)=false:=by simp [h6]
   rw [if_neg (by simp [h6])] at hr0
   simp only [go_sem,hA,g6,hr0,← e1,← e2,← e3,Tryz.results15]
  ·have g6:(decide ¬ zw m'=0)=true:=decide_eq_true h6
   rw [if_pos h6] at hr0
   simp only [go_sem,hA,g6,hr0,Tryz.results15]
   rfl
end
section
open Go Go.RowKit
end
section
open Go Go.RowKit
theorem zFo {x y:Mg} (hg:x.Good) (h:zw x=0∨x=zbz):Con Tryz.prog 16 [avG x,avG y] (.d (.raw (.bool (eqG x y)))):=by
 refine zAN x y hg.fine.ml hg.fine.fl hg.tl fun z hz=>?_
 rcases h with h | h
 ·have hb:=zxD h z hz
  refine⟨?_,hg.dl z hz,fun d hd=>⟨by have:=hg.fine.bd z hz d hd;omega,?_⟩⟩
  ·have:=hb
   unfold zN at this
   split at this
   ·split at this
    ·exact absurd this (by assumption)
    ·rename_i h1
     have:=zjf (Decidable.not_not.1 h1)
     omega
   ·cases this
  ·have:=(zfS (zkS hb hd)).2.2.2.1
   unfold zaf at this
   split at this
   ·cases this
   ·omega
 ·subst h;cases hz
end
section
open Go Go.RowKit
theorem zzE {m:Mg} (h:zgu m=false):m.fs.length+m.ts.length≤1048576:=by
 simp only [zgu,Bool.or_eq_false_iff,decide_eq_false_iff_not] at h
 obtain⟨h1,h2,h3,h4,h5⟩:=h
 simp only [zeH,Bool.or_eq_false_iff,decide_eq_false_iff_not] at h2
 omega
theorem zwG {m:Mg} {i side:Int}:zw (zaT m i side).1=0∨(zaT m i side).1=zbz:=by
 by_cases h:(zaT m i side).2=0
 ·exact .inl (zzX h)
 ·exact .inr (zwH h)
theorem ztM (m:Mg) (hb:∀ x ∈ m.ms,∀ d ∈ x.decls,nodesE d.body≤1048576) (i side:Int) (_hi:zc i) (_hs:zc side):Con Tryz.prog 4 [avG m,.d (.raw (.int .i64 i)),.d (.raw (.int .i64 side))] (.d (.raw (.bool true))):=by
 refine zh Tryz.func4 rfl (by decide +kernel) rfl rfl (by simp [Tryz.ntmps4]) fun A hA=>?_
 rw [Tryz.ntmps4] at hA
 refine goC 400 ?_
 simp only [go_sem,hA,avG]
 refine zb 400 (zyV m hb) rfl (by simp only [go_sem,avG]) (by simp only [go_sem,hA]) ?_
 cases h1:zgu m with
 | true=>
  simp only [go_sem]
  refine zb 400 zqF rfl rfl (by simp only [go_sem,hA]) ?_
  simp only [go_sem,hA,Tryz.results4]
 | false=>
 have hg:=zok h1
 have hr:=zyX m hg (zwy h1) (zzE h1) i side
 rw [zsX] at hr
 have hc:=zux m hg i side
 have hx:=zuw hg i side
 have hsame:=zFo (y:=(zaT m i side).1) hx zwG
 rw [(zEn _ _).2 rfl] at hsame
 generalize zaT m i side=x at hr hc hsame
 have e:decide (x.2=x.2)=true:=decide_eq_true rfl
 simp only [go_sem,hA]
 refine zb 400 hc rfl (by simp only [go_sem,avG]) (by simp only [go_sem,hA]) ?_
 simp only [go_sem,hA,avG]
 refine zb 400 hr rfl (by simp only [go_sem,avG]) (by simp only [go_sem,hA]) ?_
 simp only [go_sem,hA,avG]
 refine zb 400 hsame rfl (by simp only [go_sem,avG]) (by simp only [go_sem,hA]) ?_
 simp only [go_sem,hA]
 refine zb 400 zqF rfl rfl (by simp only [go_sem,hA]) ?_
 simp only [go_sem,hA,Tryz.results4]
end
end Go.Proofs.YtpnjjmcimjlfkaaGreatDoor
