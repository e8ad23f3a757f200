/- Texts of this proof, part 22: what the proof uses of them. -/
import Derived.Test.YtpnjjmcimjlfkaaGreatDoorRau
import Derived.Test.YtpnjjmcimjlfkaaGreatDoorRat
set_option maxRecDepth 100000
set_option maxHeartbeats 64000000
namespace Go.Proofs.YtpnjjmcimjlfkaaGreatDoor
section
open Go Go.RowKit Go.Shelf
attribute [local go_sem] Oper.semAt_some St.ren zhZ zgU AV.ren zdd Blk.ren St.setBlk List.getD_cons_zero
abbrev zwp (s:List UInt8):Blk:=.cell 229 [.d (.raw (.string ⟨s.toArray⟩)),.d (.raw (.bool false))]
abbrev orL (s:List UInt8):Lent:=⟨[(901,some (zwp s))],[]⟩
theorem zqR (l:List UInt8) (a:Nat):(⟨l.toArray⟩:ByteArray).extract a l.length=⟨(l.drop a).toArray⟩:=by
 have:=znr l a
 rwa [zbm] at this
theorem zeR (n:Nat) (hn:n<=1099511627776) (t:List UInt8) (hb:(zb n++t).length<=1048576):zI Tryz.prog 196 [.box 901 0] (orL (zb n++t)) (fun o=>o = .ret (.d (.raw (.int .i64 n))) (orL t)):=by
 have hsz:(⟨(zb n++t).toArray⟩:ByteArray).size<=1048576:=by rw [zbm];exact hb
 have hg:=zjB ⟨(zb n++t).toArray⟩ hsz
 rw [zfT hn] at hg
 have z0:(decide ¬ (0:Int)=0)=false:=by decide
 have hd:List.drop (zb n).length (zb n++t)=t:=List.drop_left
 have hl:(zb n).length<=(zb n++t).length:=by simp
 refine kL [901] [] Tryz.func196 Tryz.ntmps196 fun A hA hX=>?_
 refine goC 400 ?_
 simp only [go_sem,hA]
 refine gC hg ?_
 simp only [go_sem,hA,Int.toNat_natCast,zbm,zqR,hd,Tryz.results196]
 exact⟨⟨by omega,by omega,by omega⟩,_,rfl,rfl,rfl⟩
theorem zpS (s:ByteArray) (hs:s.size<=65536) (t:List UInt8) (hb:(zi s++t).length<=1048576):zI Tryz.prog 197 [.box 901 0] (orL (zi s++t)) (fun o=>o = .ret (.d (.raw (.string s))) (orL t)):=by
 have hsz:(⟨(zi s++t).toArray⟩:ByteArray).size<=1048576:=by rw [zbm];exact hb
 have hg:=zky ⟨(zi s++t).toArray⟩ hsz
 rw [zhp hs] at hg
 have z0:(decide ¬ (0:Int)=0)=false:=by decide
 have hd:List.drop (zi s).length (zi s++t)=t:=List.drop_left
 have hl:(zi s).length<=(zi s++t).length:=by simp
 refine kL [901] [] Tryz.func197 Tryz.ntmps197 fun A hA hX=>?_
 refine goC 400 ?_
 simp only [go_sem,hA]
 refine gC hg ?_
 simp only [go_sem,hA,Int.toNat_natCast,zbm,zqR,hd,Tryz.results197]
 exact⟨⟨by omega,by omega,by omega⟩,_,rfl,rfl,rfl⟩
def beV (l:List UInt8):Nat:=l.foldl (fun a c=>a * 256+c.toNat) 0
theorem znQ (l:List UInt8) (q:Nat) (h:q<l.length):beV (l.take (q+1))=beV (l.take q) * 256+l[q].toNat:=by
 unfold beV
 rw [List.take_succ_eq_append_getElem h,List.foldl_append];rfl
theorem zvN:∀ (l:List UInt8) (q:Nat),q<=l.length->beV (l.take q)<256 ^ q
 | l,0,_=>by simp [beV]
 | l,q+1,h=>by
  rw [znQ l q h,Nat.pow_succ]
  have h1:=zvN l q (by omega)
  have h2:=l[q].toNat_lt
  omega
theorem zwQ (n:Int) (h:0<=n/\n<18446744073709551616):(beV (zaD n):Int)=n:=by
 have hb:∀ m:Nat,(m.toUInt8).toNat=m % 256:=fun m=>by rw [Nat.toUInt8,UInt8.toNat_ofNat']
 have e:beV (zaD n)=n.toNat:=by
  unfold beV zaD
  simp only [List.map_cons,List.map_nil,List.foldl_cons,List.foldl_nil,hb]
  have:n.toNat<18446744073709551616:=by omega
  omega
 rw [e];omega
theorem zEJ (a:Nat) (c:UInt8) (h:a<72057594037927936):IntKind.u64.wrap (((BitVec.ofInt IntKind.u64.bits (IntKind.u64.wrap ((a:Int) * 2 ^ min (8:Int).toNat IntKind.u64.bits)) ||| BitVec.ofInt IntKind.u64.bits (c.toNat:Int)).toNat:Nat):Int)=((a * 256+c.toNat:Nat):Int):=by
 have hc:=c.toNat_lt
 have hb:IntKind.u64.bits=64:=rfl
 have e0:min (8:Int).toNat IntKind.u64.bits=8:=rfl
 have e1:IntKind.u64.wrap ((a:Int) * 2 ^ min (8:Int).toNat IntKind.u64.bits)=((a * 256:Nat):Int):=by
  rw [e0,zfe (by omega) (by omega)];omega
 rw [e1]
 have e2:∀ m:Nat,m<18446744073709551616->(BitVec.ofInt IntKind.u64.bits (m:Int)).toNat=m:=fun m hm=>by
  rw [BitVec.toNat_ofInt]
  show((m:Int) % ((2 ^ 64:Nat):Int)).toNat=m
  omega
 rw [BitVec.toNat_or,e2 _ (by omega),e2 _ (by omega)]
 have e3:a * 256 ||| c.toNat=a * 256+c.toNat:=by
  have:=Nat.two_pow_add_eq_or_of_lt (i:=8) (b:=c.toNat) (by omega) a
  rw [Nat.mul_comm] at this
  exact this.symm
 rw [e3]
 exact zfe (by omega) (by omega)
theorem zvY (a:Nat) (c:UInt8) (h:a<72057594037927936):IntKind.u64.wrap (((BitVec.ofInt 64 (IntKind.u64.wrap ((a:Int) * 2 ^ min 8 64)) ||| BitVec.ofInt 64 (c.toNat:Int)).toNat:Nat):Int)=((a * 256+c.toNat:Nat):Int):=zEJ a c h
abbrev zCU (a b:Int) (s:List UInt8) (q:Nat):St:=⟨[(0,.box 901 0),(2,.box 0 0),(3,.box 1000 0),(15,.d (.raw (.int .i64 q)))],[(0,some (.cell 42 [.d (.raw (.int .u64 0)),.d (.raw (.int .u64 0))])),(1000,some (.cell 42 [.d (.raw (.int .u64 a)),.d (.raw (.int .u64 b))])),(901,some (zwp s))],[]⟩
theorem zyv (d:Int × Int) (t:List UInt8) (q:Nat) (hq:q<16):(dgL d++t).getD q 0=if h:q<8 then (zaD d.1)[q]'(by rw [zE];exact h) else (zaD d.2)[q - 8]'(by rw [zE];omega):=by
 rw [List.getD_eq_getElem?_getD,List.getElem?_append_left (by rw [zad];exact hq)]
 unfold dgL
 split
 ·rename_i h
  rw [List.getElem?_append_left (by rw [zE];exact h),List.getElem?_eq_getElem (by rw [zE];exact h)];rfl
 ·rename_i h
  rw [List.getElem?_append_right (by rw [zE];omega),List.getElem?_eq_getElem (by rw [zE,zE];omega)];rfl
theorem znx (d:Int × Int) (hr:zds d) (t:List UInt8) (hb:(dgL d++t).length<=1048576):zI Tryz.prog 200 [.box 901 0] (orL (dgL d++t)) (fun o=>o = .ret (zew d) (orL t)):=by
 have hs16:16<=(dgL d++t).length:=by rw [List.length_append,zad];omega
 have g0:decide (((dgL d++t).length:Int)<16)=false:=decide_eq_false (by omega)
 refine kL [901] [] Tryz.func200 Tryz.ntmps200 fun A hA hX=>?_
 refine goC 400 ?_
 simp only [go_sem,hA,zbm,g0]
 refine zc [0,2,3,15] [0,1000,901] [] (fun y σ=>∃ q:Nat,q<=16/\y=16 - q/\σ=zCU (beV ((zaD d.1).take q)) (beV ((zaD d.2).take (q - 8))) (dgL d++t) q) 16 ⟨0,by omega,by omega,by simp only [go_sem];rfl⟩ ?_
 rintro y σ ⟨q,hq,rfl,rfl⟩
 refine goC 400 ?_
 by_cases hlt:q<16
 ·have k1:decide ((q:Int)<16)=true:=decide_eq_true (by omega)
  have hat:=zyv d t q hlt
  have hw:∀ c:UInt8,IntKind.u64.wrap ((c.toNat:Nat):Int)=((c.toNat:Nat):Int):=fun c=>zfe (by omega) (by have:=c.toNat_lt;omega)
  by_cases h8:q<8
  ·have hq8:(q:Int).tdiv 8=0:=by rw [Int.tdiv_eq_ediv_of_nonneg (by omega)];omega
   rw [dif_pos h8] at hat
   have hv:=znQ (zaD d.1) q (by rw [zE];exact h8)
   have hlt7:beV ((zaD d.1).take q)<72057594037927936:=by
    have h1:=zvN (zaD d.1) q (by rw [zE];omega)
    have h2:256 ^ q<=256 ^ 7:=Nat.pow_le_pow_right (by decide) (by omega)
    have h3:(256:Nat) ^ 7=72057594037927936:=by decide
    omega
   have e8:q+1 - 8=q - 8:=by omega
   simp only [go_sem,hA,zCU,k1,mixed,hq8,Int.toNat_natCast,hat,hw,zbm]
   exact⟨⟨by decide,by unfold za;omega⟩,⟨by decide,by unfold za;omega⟩,⟨by omega,by omega⟩,by show chk _ _ _=true;kernel_rfl,by unfold za;omega,16 - (q+1),by omega,q+1,by omega,rfl,by rw [hv,e8,<- zvY _ _ hlt7];rfl⟩
  ·have hq8:(q:Int).tdiv 8=1:=by rw [Int.tdiv_eq_ediv_of_nonneg (by omega)];omega
   rw [dif_neg h8] at hat
   have hv:=znQ (zaD d.2) (q - 8) (by rw [zE];omega)
   have hlt7:beV ((zaD d.2).take (q - 8))<72057594037927936:=by
    have h1:=zvN (zaD d.2) (q - 8) (by rw [zE];omega)
    have h2:256 ^ (q - 8)<=256 ^ 7:=Nat.pow_le_pow_right (by decide) (by omega)
    have h3:(256:Nat) ^ 7=72057594037927936:=by decide
    omega
   have e8:q+1 - 8=q - 8+1:=by omega
   have e1:(zaD d.1).take (q+1)=(zaD d.1).take q:=by rw [List.take_of_length_le (by rw [zE];omega),List.take_of_length_le (by rw [zE];omega)]
   simp only [go_sem,hA,zCU,k1,mixed,hq8,Int.toNat_natCast,hat,hw,zbm]
   exact⟨⟨by decide,by unfold za;omega⟩,⟨by decide,by unfold za;omega⟩,⟨by omega,by omega⟩,by show chk _ _ _=true;kernel_rfl,by unfold za;omega,16 - (q+1),by omega,q+1,by omega,rfl,by rw [e8,hv,e1,<- zvY _ _ hlt7];rfl⟩
 ·have k1:decide ((q:Int)<16)=false:=decide_eq_false (by omega)
  have e1:(zaD d.1).take q=zaD d.1:=List.take_of_length_le (by rw [zE];omega)
  have e2:(zaD d.2).take (q - 8)=zaD d.2:=List.take_of_length_le (by rw [zE];omega)
  have hdr:List.drop 16 (dgL d++t)=t:=List.drop_left' (zad d)
  have h16:(16:Int).toNat=16:=rfl
  simp only [go_sem,hA,zCU,k1,e1,e2,zwQ d.1 hr.1,zwQ d.2 hr.2,zbm,Int.toNat_natCast,h16,zqR,hdr,Tryz.results200]
  exact⟨⟨by omega,by omega⟩,_,rfl,rfl,rfl⟩
abbrev zFo (e:En):AV:=.agg [.d (.raw (.string e.name)),.d (.raw (.bool e.dir)),.d (.raw (.int .u64 e.dg.1)),.d (.raw (.int .u64 e.dg.2))]
theorem zDd (e:En) (hs:e.name.size<=65536) (hr:zds e.dg) (t:List UInt8) (hb:(zcr e++t).length<=1048576):zI Tryz.prog 199 [.box 901 0] (orL (zcr e++t)) (fun o=>o = .ret (zFo e) (orL t)):=by
 have he:zcr e++t=zi e.name++(zb (if e.dir then 1 else 0)++(dgL e.dg++t)):=by unfold zcr;simp only [List.append_assoc]
 rw [he] at hb ⊢
 refine kL [901] [] Tryz.func199 Tryz.ntmps199 fun A hA hX=>?_
 refine goC 400 ?_
 simp only [go_sem,hA]
 refine gL [901] [] (zpS e.name hs _ hb) (fun pv h=>by cases h) fun res L' h=>?_
 cases h
 have hb2:(dgL e.dg++t).length<=1048576:=by simp only [List.length_append] at hb ⊢;omega
 have hb3:(zb (if e.dir then 1 else 0)++(dgL e.dg++t)).length<=1048576:=by simp only [List.length_append] at hb ⊢;omega
 cases hd:e.dir
 all_goals
  rw [hd] at hb3
  simp only [go_sem,hA]
  refine gL [901] [] (zeR _ (by decide) _ hb3) (fun pv h=>by cases h) fun res L' h=>?_
  cases h
  simp only [go_sem,hA]
  refine gL [901] [] (znx e.dg hr t hb2) (fun pv h=>by cases h) fun res L' h=>?_
  cases h
  simp only [go_sem,hA,Tryz.results199]
  exact⟨_,rfl,rfl,by first | (rw [zFo,hd];rfl) | rw [zFo,hd]⟩
abbrev zAi (l:List En) (t:List UInt8) (q:Nat):St:=⟨[(0,.box 901 0),(2,.bnd 199 (.box 901 0)),(7,.d (.raw (.int .i64 l.length))),(8,.grow 99 (zbv (l.take q))),(9,.d (.raw (.int .i64 q)))],[(901,some (zwp ((l.drop q).flatMap zcr++t)))],[(99,some ⟨4,199,q,none⟩)]⟩
theorem zFT (l:List En) (hl:l.length<=200) (hn:∀ e ∈ l,e.name.size<=65536/\zds e.dg) (t:List UInt8) (hb:((zb l.length++l.flatMap zcr)++t).length<=1048576):zI Tryz.prog 198 [.box 901 0,.d (.raw (.int .i64 200)),.bnd 199 (.box 901 0)] (orL ((zb l.length++l.flatMap zcr)++t)) (fun o=>o = .ret (.d (.sl (zbv l))) (orL t)):=by
 rw [List.append_assoc] at hb ⊢
 have g0:decide ((200:Int)<(l.length:Int))=false:=decide_eq_false (by omega)
 refine kL [901] [] Tryz.func198 Tryz.ntmps198 fun A hA hX=>?_
 refine goC 400 ?_
 simp only [go_sem,hA]
 refine gL [901] [] (zeR l.length (by omega) _ hb) (fun pv h=>by cases h) fun res L' h=>?_
 cases h
 simp only [go_sem,hA,g0]
 refine zgp 99 8 4 199 (by simp only [go_sem]) rfl ?_
 simp only [go_sem]
 refine zc [0,2,7,8,9] [901] [99] (fun y σ=>∃ q:Nat,q<=l.length/\y=l.length - q/\σ=zAi l t q) l.length ⟨0,by omega,by omega,by simp only [go_sem];rfl⟩ ?_
 rintro y σ ⟨q,hq,rfl,rfl⟩
 refine goC 400 ?_
 by_cases hlt:q<l.length
 ·have k1:decide ((q:Int)<(l.length:Int))=true:=decide_eq_true (by omega)
  have hd:(l.drop q).flatMap zcr=zcr l[q]++(l.drop (q+1)).flatMap zcr:=by rw [List.drop_eq_getElem_cons hlt,List.flatMap_cons]
  have hlen:(zcr l[q]++((l.drop (q+1)).flatMap zcr++t)).length<=1048576:=by
   have h1:(l.take q).flatMap zcr++(l.drop q).flatMap zcr=l.flatMap zcr:=by rw [<- List.flatMap_append,List.take_append_drop]
   rw [<- h1,hd] at hb
   simp only [List.length_append] at hb ⊢;omega
  simp only [go_sem,hA,zAi,k1,hd,List.append_assoc]
  refine zcG [901] [] 400 (zDd l[q] (hn _ (List.getElem_mem hlt)).1 (hn _ (List.getElem_mem hlt)).2 _ hlen) rfl rfl rfl rfl rfl (by simp only [go_sem,hA]) (fun res L' h=>?_) (fun pv h=>by cases h)
  cases h
  simp only [go_sem,hA]
  have hl':(zbv (l.take q)).length=q:=by rw [zJ,List.length_take];omega
  have henc:zbv (l.take (q+1))=zbv (l.take q)++zbv [l[q]]:=by rw [List.take_succ_eq_append_getElem hlt,zjH]
  exact⟨⟨hl',zhV [l[q]],fun r hr=>(zhV _ r hr).1,by omega⟩,by unfold za;omega,l.length - (q+1),by omega,q+1,by omega,rfl,by rw [henc];rfl⟩
 ·have k1:decide ((q:Int)<(l.length:Int))=false:=decide_eq_false (by omega)
  have hql:q=l.length:=by omega
  have e1:l.take q=l:=by rw [hql,List.take_length]
  have e2:l.drop q=[]:=by rw [hql,List.drop_length]
  simp only [go_sem,hA,zAi,k1,undef,e1,e2,List.flatMap_nil,List.nil_append,Tryz.results198]
  exact⟨_,rfl,rfl,rfl⟩
abbrev zAh (l:List (Int × Int)) (t:List UInt8) (q:Nat):St:=⟨[(0,.box 901 0),(2,.bnd 200 (.box 901 0)),(7,.d (.raw (.int .i64 l.length))),(8,.grow 99 (zbw (l.take q))),(9,.d (.raw (.int .i64 q)))],[(901,some (zwp ((l.drop q).flatMap dgL++t)))],[(99,some ⟨2,42,q,none⟩)]⟩
theorem zFS (l:List (Int × Int)) (hl:l.length<=8) (hn:∀ d ∈ l,zds d) (t:List UInt8) (hb:((zb l.length++l.flatMap dgL)++t).length<=1048576):zI Tryz.prog 201 [.box 901 0,.d (.raw (.int .i64 8)),.bnd 200 (.box 901 0)] (orL ((zb l.length++l.flatMap dgL)++t)) (fun o=>o = .ret (.d (.sl (zbw l))) (orL t)):=by
 rw [List.append_assoc] at hb ⊢
 have g0:decide ((8:Int)<(l.length:Int))=false:=decide_eq_false (by omega)
 refine kL [901] [] Tryz.func201 Tryz.ntmps201 fun A hA hX=>?_
 refine goC 400 ?_
 simp only [go_sem,hA]
 refine gL [901] [] (zeR l.length (by omega) _ hb) (fun pv h=>by cases h) fun res L' h=>?_
 cases h
 simp only [go_sem,hA,g0]
 refine zgp 99 8 2 42 (by simp only [go_sem]) rfl ?_
 simp only [go_sem]
 refine zc [0,2,7,8,9] [901] [99] (fun y σ=>∃ q:Nat,q<=l.length/\y=l.length - q/\σ=zAh l t q) l.length ⟨0,by omega,by omega,by simp only [go_sem];rfl⟩ ?_
 rintro y σ ⟨q,hq,rfl,rfl⟩
 refine goC 400 ?_
 by_cases hlt:q<l.length
 ·have k1:decide ((q:Int)<(l.length:Int))=true:=decide_eq_true (by omega)
  have hd:(l.drop q).flatMap dgL=dgL l[q]++(l.drop (q+1)).flatMap dgL:=by rw [List.drop_eq_getElem_cons hlt,List.flatMap_cons]
  have hlen:(dgL l[q]++((l.drop (q+1)).flatMap dgL++t)).length<=1048576:=by
   have h1:(l.take q).flatMap dgL++(l.drop q).flatMap dgL=l.flatMap dgL:=by rw [<- List.flatMap_append,List.take_append_drop]
   rw [<- h1,hd] at hb
   simp only [List.length_append] at hb ⊢;omega
  simp only [go_sem,hA,zAh,k1,hd,List.append_assoc]
  refine zcG [901] [] 400 (znx l[q] (hn _ (List.getElem_mem hlt)) _ hlen) rfl rfl rfl rfl rfl (by simp only [go_sem,hA]) (fun res L' h=>?_) (fun pv h=>by cases h)
  cases h
  simp only [go_sem,hA]
  have hl':(zbw (l.take q)).length=q:=by rw [zF,List.length_take];omega
  have henc:zbw (l.take (q+1))=zbw (l.take q)++zbw [l[q]]:=by rw [List.take_succ_eq_append_getElem hlt,zjK]
  exact⟨⟨hl',zcz [l[q]],fun r hr=>(zcz _ r hr).1,by omega⟩,by unfold za;omega,l.length - (q+1),by omega,q+1,by omega,rfl,by rw [henc];rfl⟩
 ·have k1:decide ((q:Int)<(l.length:Int))=false:=decide_eq_false (by omega)
  have hql:q=l.length:=by omega
  have e1:l.take q=l:=by rw [hql,List.take_length]
  have e2:l.drop q=[]:=by rw [hql,List.drop_length]
  simp only [go_sem,hA,zAh,k1,undef,e1,e2,List.flatMap_nil,List.nil_append,Tryz.results201]
  exact⟨_,rfl,rfl,rfl⟩
theorem zyy (k:Int) (d:ByteArray) (hk:k=1\/k=4) (hd:d.size<=65536) (h:Ob.Good ⟨k,d,[],(0,0),[],⟨#[]⟩,0,⟨#[]⟩⟩) (hr:Ob.Rng ⟨k,d,[],(0,0),[],⟨#[]⟩,0,⟨#[]⟩⟩):Con Tryz.prog 123 [.d (.raw (.string ⟨(obL ⟨k,d,[],(0,0),[],⟨#[]⟩,0,⟨#[]⟩⟩).toArray⟩))] (.tup [zcY ⟨k,d,[],(0,0),[],⟨#[]⟩,0,⟨#[]⟩⟩,.d (.raw (.int .i64 0))]):=by
 have hck:=zkh _ h hr
 obtain⟨hf,hg⟩:=h
 have z0:(decide ¬ (0:Int)=0)=false:=by decide
 have zs:(decide ¬ (⟨([]:List UInt8).toArray⟩:ByteArray)=⟨#[]⟩)=false:=by decide
 have hob:obL ⟨k,d,[],(0,0),[],⟨#[]⟩,0,⟨#[]⟩⟩=zb k.toNat++zi d:=by rcases hk with rfl | rfl <;> rfl
 rw [hob] at hg ⊢
 have ht:=zpS d hd [] (by rw [List.append_nil];rw [List.length_append] at hg;omega)
 rw [List.append_nil] at ht
 have z11:decide ((1:Int)=1)=true:=by decide
 have z41:decide ((4:Int)=1)=false:=by decide
 have z44:decide ((4:Int)=4)=true:=by decide
 refine kY Tryz.func123 Tryz.ntmps123 fun A hA hY=>?_
 refine goC 400 ?_
 simp only [go_sem,hA]
 refine zaA 1002 901 rfl (hY.1 _) rfl rfl _ (by simp only [go_sem];rfl) ?_
 have hk0:(k.toNat:Int)=k:=by rcases hk with rfl | rfl <;> rfl
 have hn:=zeR k.toNat (by rcases hk with rfl | rfl <;> decide) (zi d) (by omega)
 rw [hk0] at hn
 refine gL [901] [] hn (fun pv h=>by cases h) fun res L' h=>?_
 cases h
 rcases hk with rfl | rfl
 all_goals
  simp only [go_sem,hA,z41]
  refine gL [901] [] ht (fun pv h=>by cases h) fun res L' h=>?_
  cases h
  simp only [go_sem,hA]
  refine gC hck ?_ rfl (by simp only [go_sem];rfl)
  simp only [go_sem,hA,Tryz.results123]
  rfl
theorem zyx (l:List En) (hx:zdr l=0) (h:Ob.Good ⟨2,⟨#[]⟩,l,(0,0),[],⟨#[]⟩,0,⟨#[]⟩⟩) (hr:Ob.Rng ⟨2,⟨#[]⟩,l,(0,0),[],⟨#[]⟩,0,⟨#[]⟩⟩):Con Tryz.prog 123 [.d (.raw (.string ⟨(obL ⟨2,⟨#[]⟩,l,(0,0),[],⟨#[]⟩,0,⟨#[]⟩⟩).toArray⟩))] (.tup [zcY ⟨2,⟨#[]⟩,l,(0,0),[],⟨#[]⟩,0,⟨#[]⟩⟩,.d (.raw (.int .i64 0))]):=by
 have hck:=zkh _ h hr
 obtain⟨hf,hg⟩:=h
 have z0:(decide ¬ (0:Int)=0)=false:=by decide
 have zs:(decide ¬ (⟨([]:List UInt8).toArray⟩:ByteArray)=⟨#[]⟩)=false:=by decide
 have hob:obL ⟨2,⟨#[]⟩,l,(0,0),[],⟨#[]⟩,0,⟨#[]⟩⟩=zb 2++(zb l.length++l.flatMap zcr):=rfl
 rw [hob] at hg ⊢
 have hl200:¬ 200<l.length:=fun h1=>by unfold zdr at hx;rw [if_pos h1] at hx;cases hx
 have hz:zH (zkF l) l.length=0:=by unfold zdr at hx;rwa [if_neg hl200] at hx
 have hnm:∀ e ∈ l,e.name.size<=65536/\zds e.dg:=fun e he=>by
  obtain⟨q,hq,rfl⟩:=List.mem_iff_getElem.1 he
  obtain⟨e1,_,_⟩:=zhT hq (zbn hz q hq)
  refine⟨?_,hr.ents _ he⟩
  have h24:l[q].name.data.toList.length<=24:=by
   unfold zaa at e1
   simp only [Bool.and_eq_true,decide_eq_true_eq] at e1
   exact e1.1.1.1.2
  rw [zas] at h24;omega
 have ht:=zFT l (by omega) hnm [] (by rw [List.append_nil];simp only [List.length_append] at hg ⊢;omega)
 rw [List.append_nil] at ht
 have z21:decide ((2:Int)=1)=false:=by decide
 have z24:decide ((2:Int)=4)=false:=by decide
 have z22:decide ((2:Int)=2)=true:=by decide
 refine kY Tryz.func123 Tryz.ntmps123 fun A hA hY=>?_
 refine goC 400 ?_
 simp only [go_sem,hA]
 refine zaA 1002 901 rfl (hY.1 _) rfl rfl _ (by simp only [go_sem];rfl) ?_
 refine gL [901] [] (zeR 2 (by decide) (zb l.length++l.flatMap zcr) (by omega)) (fun pv h=>by cases h) fun res L' h=>?_
 cases h
 have hc2:(((2:Nat):Int))=2:=rfl
 simp only [go_sem,hA,hc2,z21,z24]
 refine gL [901] [] ht (fun pv h=>by cases h) fun res L' h=>?_
 cases h
 simp only [go_sem,hA]
 refine gC hck ?_ rfl (by simp only [go_sem];rfl)
 simp only [go_sem,hA,Tryz.results123]
 rfl
theorem zyz (t:Int × Int) (p:List (Int × Int)) (a:ByteArray) (i:Int) (m:ByteArray) (hc:ziO ⟨3,⟨#[]⟩,[],t,p,a,i,m⟩=0) (h:Ob.Good ⟨3,⟨#[]⟩,[],t,p,a,i,m⟩) (hr:Ob.Rng ⟨3,⟨#[]⟩,[],t,p,a,i,m⟩):Con Tryz.prog 123 [.d (.raw (.string ⟨(obL ⟨3,⟨#[]⟩,[],t,p,a,i,m⟩).toArray⟩))] (.tup [zcY ⟨3,⟨#[]⟩,[],t,p,a,i,m⟩,.d (.raw (.int .i64 0))]):=by
 have hck:=zkh _ h hr
 obtain⟨hf,hg⟩:=h
 have z0:(decide ¬ (0:Int)=0)=false:=by decide
 have zs:(decide ¬ (⟨([]:List UInt8).toArray⟩:ByteArray)=⟨#[]⟩)=false:=by decide
 obtain⟨_,c2,_,c4,c5,c6,c7⟩:=zgf hc
 simp only at c2 c4 c5 c6 c7
 have hob:obL ⟨3,⟨#[]⟩,[],t,p,a,i,m⟩=zb 3++(dgL t++((zb p.length++p.flatMap dgL)++(zi a++(zb i.toNat++zi m)))):=by rw [List.append_assoc];rfl
 rw [hob] at hg ⊢
 simp only [List.length_append] at hg
 have ha24:a.size<=65536:=by
  have h24:a.data.toList.length<=24:=by
   have e1:=c4
   unfold zaa at e1
   simp only [Bool.and_eq_true,decide_eq_true_eq] at e1
   exact e1.1.1.1.2
  rw [zas] at h24;omega
 have htm:=zpS m (by omega) [] (by rw [List.append_nil];omega)
 rw [List.append_nil] at htm
 have hi0:(i.toNat:Int)=i:=Int.toNat_of_nonneg c5
 have hti:=zeR i.toNat (by omega) (zi m) (by simp only [List.length_append];omega)
 rw [hi0] at hti
 have hta:=zpS a ha24 (zb i.toNat++zi m) (by simp only [List.length_append];omega)
 have htp:=zFS p (by omega) (fun d hd=>hr.pars d hd) (zi a++(zb i.toNat++zi m)) (by simp only [List.length_append];omega)
 have htt:=znx t hr.tree ((zb p.length++p.flatMap dgL)++(zi a++(zb i.toNat++zi m))) (by simp only [List.length_append];omega)
 have htk:=zeR 3 (by decide) (dgL t++((zb p.length++p.flatMap dgL)++(zi a++(zb i.toNat++zi m)))) (by simp only [List.length_append];omega)
 have z31:decide ((3:Int)=1)=false:=by decide
 have z34:decide ((3:Int)=4)=false:=by decide
 have z32:decide ((3:Int)=2)=false:=by decide
 have z33:decide ((3:Int)=3)=true:=by decide
 refine kY Tryz.func123 Tryz.ntmps123 fun A hA hY=>?_
 generalize zb p.length++p.flatMap dgL=pl at htp htt htk ⊢
 refine goC 400 ?_
 simp only [go_sem,hA]
 refine zaA 1002 901 rfl (hY.1 _) rfl rfl _ (by simp only [go_sem];rfl) ?_
 refine gL [901] [] htk (fun pv h=>by cases h) fun res L' h=>?_
 cases h
 have hc3:(((3:Nat):Int))=3:=rfl
 simp only [go_sem,hA,hc3,z31,z34,z32]
 refine gL [901] [] htt (fun pv h=>by cases h) fun res L' h=>?_
 cases h
 simp only [go_sem,hA]
 refine gL [901] [] htp (fun pv h=>by cases h) fun res L' h=>?_
 cases h
 simp only [go_sem,hA]
 refine gL [901] [] hta (fun pv h=>by cases h) fun res L' h=>?_
 cases h
 simp only [go_sem,hA]
 refine gL [901] [] hti (fun pv h=>by cases h) fun res L' h=>?_
 cases h
 simp only [go_sem,hA]
 refine gL [901] [] htm (fun pv h=>by cases h) fun res L' h=>?_
 cases h
 simp only [go_sem,hA]
 refine gC hck ?_ rfl (by simp only [go_sem];rfl)
 simp only [go_sem,hA,Tryz.results123]
 rfl
theorem zoT (o:Ob) (h:o.Good) (hr:o.Rng):Con Tryz.prog 123 [.d (.raw (.string ⟨(obL o).toArray⟩))] (.tup [zcY o,.d (.raw (.int .i64 0))]):=by
 rcases zgC h.1 with⟨k,d,hk,hd,rfl⟩ | ⟨l,hl,rfl⟩ | ⟨t,p,a,i,m,ho,hc⟩
 ·exact zyy k d hk hd h hr
 ·exact zyx l hl h hr
 ·subst ho
  exact zyz t p a i m hc h hr
end
section
open Go Go.RowKit Go.Shelf
attribute [local go_sem] Oper.semAt_some St.frz ziL zfo AV.frz ziK zqM zho Blk.frz
abbrev zB (n:Nat):List UInt8:=List.replicate n 0
abbrev zGU (d:Int × Int) (l:List UInt8) (i:Nat):St:=⟨[(1,.box 0 0),(3,.own 1000 16),(4,.d (.raw (.int .i64 i)))],[(0,some (.cell 42 [.d (.raw (.int .u64 d.1)),.d (.raw (.int .u64 d.2))])),(1000,some (.row 1 5 (zC l)))],[]⟩
abbrev zxp (d:Int × Int) (n:Int) (l:List UInt8) (i k:Nat):St:=⟨[(1,.box 0 0),(3,.own 1000 16),(4,.d (.raw (.int .i64 i))),(5,.d (.raw (.int .u64 (n / 256 ^ (8 - k))))),(6,.d (.raw (.int .i64 ((k:Int) - 1))))],[(0,some (.cell 42 [.d (.raw (.int .u64 d.1)),.d (.raw (.int .u64 d.2))])),(1000,some (.row 1 5 (zC l)))],[]⟩
def dgQ (d:Int × Int) (i:Nat):List UInt8:=if i=0 then zB 16 else if i=1 then zaD d.1++zB 8 else dgL d
theorem zFV (pre:List UInt8) (k:Nat) (rest suf:List UInt8):(zC (pre++(zB (k+1)++rest)++suf)).getD (pre.length+k) []=[.raw (.int .u8 0)]:=by
 rw [List.getD_eq_getElem?_getD,zC,List.getElem?_map,List.append_assoc,List.getElem?_append_right (by omega),Nat.add_sub_cancel_left,List.getElem?_append_left (by simp;omega),List.getElem?_append_left (by simp)]
 simp
theorem zFL (pre:List UInt8) (k:Nat) (c:UInt8) (rest suf:List UInt8):(zC (pre++(zB (k+1)++rest)++suf)).set (pre.length+k) [.raw (.int .u8 c.toNat)]=zC (pre++(zB k++c :: rest)++suf):=by
 have e:(pre++(zB (k+1)++rest)++suf).set (pre.length+k) c=pre++(zB k++c :: rest)++suf:=by
  rw [List.append_assoc,List.set_append_right _ _ (by omega),Nat.add_sub_cancel_left,zB,List.replicate_succ',List.append_assoc,List.append_assoc,List.set_append_right _ _ (by simp)]
  simp
 rw [<- e,zC,zC,List.map_set]
theorem zwe (n:Int) (k:Nat) (h:0<=n/\n<18446744073709551616) (hk:k<8):IntKind.u8.wrap ((n / 256 ^ (8 - (k+1))).tmod 256)=(((zaD n)[k]'(by rw [zE];exact hk)).toNat:Int):=by
 have hb:∀ m:Nat,(m.toUInt8).toNat=m % 256:=fun m=>by rw [Nat.toUInt8,UInt8.toNat_ofNat']
 have h0:0<=n / 256 ^ (8 - (k+1)):=Int.ediv_nonneg h.1 (Int.le_of_lt (Int.pow_pos (by decide)))
 rw [Int.tmod_eq_emod_of_nonneg h0,ztM (by omega) (by omega)]
 have hc:k=0\/k=1\/k=2\/k=3\/k=4\/k=5\/k=6\/k=7:=by omega
 rcases hc with rfl | rfl | rfl | rfl | rfl | rfl | rfl | rfl
 all_goals
  simp only [zaD,List.map_cons,List.map_nil,List.getElem_cons_zero,List.getElem_cons_succ,hb,Nat.reduceAdd,Nat.reduceSub,Int.reducePow,Nat.reducePow]
  omega
theorem zwf (n:Int) (k:Nat) (h:0<=n/\n<18446744073709551616) (hk:k<8):(n / 256 ^ (8 - (k+1))).tdiv 256=n / 256 ^ (8 - k):=by
 have h0:0<=n / 256 ^ (8 - (k+1)):=Int.ediv_nonneg h.1 (Int.le_of_lt (Int.pow_pos (by decide)))
 rw [Int.tdiv_eq_ediv_of_nonneg h0]
 have hc:k=0\/k=1\/k=2\/k=3\/k=4\/k=5\/k=6\/k=7:=by omega
 rcases hc with rfl | rfl | rfl | rfl | rfl | rfl | rfl | rfl
 all_goals
  simp only [Nat.reduceAdd,Nat.reduceSub,Int.reducePow]
  omega
theorem zke (d:Int × Int) (hr:zds d):Con Tryz.prog 193 [zew d] (.d (.raw (.string ⟨(dgL d).toArray⟩))):=by
 refine kO Tryz.func193 Tryz.ntmps193 fun A hA=>?_
 refine goC 400 ?_
 simp only [go_sem,hA]
 refine zc [1,3,4] [0,1000] [] (fun y σ=>∃ i:Nat,i<=2/\y=2 - i/\σ=zGU d (dgQ d i) i) 2 ⟨0,by omega,by omega,by simp only [go_sem];rfl⟩ ?_
 rintro y σ ⟨i,hi,rfl,rfl⟩
 by_cases hlt:i<2
 case neg=>
  obtain rfl:i=2:=by omega
  have k1:decide (((2:Nat):Int)<2)=false:=by decide
  have e1:dgQ d 2=dgL d:=rfl
  rw [e1]
  refine zzu 1000 ?_
  have hl16:(16=(zC (dgL d)).length)=True:=eq_true (by rw [zh,zad])
  simp only [go_sem,hl16]
  refine goC 400 ?_
  simp only [go_sem,hA,zcx,Option.map_some,Tryz.results193]
 have hab:i=0\/i=1:=by omega
 rcases hab with rfl | rfl
 ·refine goC 400 ?_
  have k1:decide (((0:Nat):Int)<2)=true:=by decide
  simp only [go_sem,hA]
  refine zc [1,3,4,5,6] [0,1000] [] (fun y σ=>∃ k:Nat,k<=8/\k=y/\σ=zxp d d.1 (([]:List UInt8)++(zB k++(zaD d.1).drop k)++zB 8) 0 k) 8 ⟨8,by omega,by omega,by simp only [go_sem,zxp,Int.pow_zero,Nat.sub_self,Int.ediv_one];rfl⟩ ?_
  rintro y σ ⟨k,hk,rfl,rfl⟩
  refine goC 400 ?_
  by_cases hk0:k=0
  ·subst hk0
   have k2:decide ((0:Int)<=0 - 1)=false:=by decide
   simp only [go_sem,hA,k2]
   exact⟨by unfold za;omega,2 - (0+1),by omega,0+1,by omega,rfl,rfl⟩
  ·obtain⟨j,rfl⟩:∃ j,k=j+1:=⟨k - 1,by omega⟩
   have k2:decide ((0:Int)<=((j+1:Nat):Int) - 1)=true:=decide_eq_true (by omega)
   have hidx:(8 * (0:Int)+(((j+1:Nat):Int) - 1)).toNat=(([]:List UInt8)).length+j:=by simp [] <;> omega
   have hrem:=zwe d.1 j hr.1 (by omega)
   have hquo:=zwf d.1 j hr.1 (by omega)
   have hget:=zFV (([]:List UInt8)) j ((zaD d.1).drop (j+1)) (zB 8)
   have hset:=zFL (([]:List UInt8)) j ((zaD d.1)[j]'(by rw [zE];omega)) ((zaD d.1).drop (j+1)) (zB 8)
   simp only [List.nil_append] at hget hset
   have hwq:IntKind.u64.wrap (d.1 / 256 ^ (8 - j))=d.1 / 256 ^ (8 - j):=zfe (Int.ediv_nonneg hr.1.1 (Int.le_of_lt (Int.pow_pos (by decide)))) (Int.lt_of_le_of_lt (Int.ediv_le_self _ hr.1.1) hr.1.2)
   have hdrop:(zaD d.1).drop j=(zaD d.1)[j]'(by rw [zE];omega) :: (zaD d.1).drop (j+1):=List.drop_eq_getElem_cons (by rw [zE];omega)
   have e6:(((j+1:Nat):Int) - 1 - 1)=(j:Int) - 1:=by omega
   simp only [go_sem,hA,k2]
   refine⟨by unfold za;omega,by unfold za;omega,by decide,⟨by omega,by omega⟩,by rw [zh];simp only [List.length_append,List.length_replicate,List.length_drop,zE];omega,by decide,by unfold za;omega,j,by omega,j,by omega,rfl,?_⟩
   rw [zxp,hdrop]
   simp only [hidx,hrem,hquo,hwq,hget,hset,e6,List.drop_succ_cons,List.drop_nil]
   rfl
 ·refine goC 400 ?_
  have k1:decide (((1:Nat):Int)<2)=true:=by decide
  simp only [go_sem,hA]
  refine zc [1,3,4,5,6] [0,1000] [] (fun y σ=>∃ k:Nat,k<=8/\k=y/\σ=zxp d d.2 (zaD d.1++(zB k++(zaD d.2).drop k)++([]:List UInt8)) 1 k) 8 ⟨8,by omega,by omega,by simp only [go_sem,zxp,Int.pow_zero,Nat.sub_self,Int.ediv_one];rfl⟩ ?_
  rintro y σ ⟨k,hk,rfl,rfl⟩
  refine goC 400 ?_
  by_cases hk0:k=0
  ·subst hk0
   have k2:decide ((0:Int)<=0 - 1)=false:=by decide
   simp only [go_sem,hA,k2]
   exact⟨by unfold za;omega,2 - (1+1),by omega,1+1,by omega,rfl,rfl⟩
  ·obtain⟨j,rfl⟩:∃ j,k=j+1:=⟨k - 1,by omega⟩
   have k2:decide ((0:Int)<=((j+1:Nat):Int) - 1)=true:=decide_eq_true (by omega)
   have hidx:(8 * (1:Int)+(((j+1:Nat):Int) - 1)).toNat=(zaD d.1).length+j:=by simp [zE] <;> omega
   have hrem:=zwe d.2 j hr.2 (by omega)
   have hquo:=zwf d.2 j hr.2 (by omega)
   have hget:=zFV (zaD d.1) j ((zaD d.2).drop (j+1)) (([]:List UInt8))
   have hset:=zFL (zaD d.1) j ((zaD d.2)[j]'(by rw [zE];omega)) ((zaD d.2).drop (j+1)) (([]:List UInt8))
   simp only [List.append_nil] at hget hset
   have hwq:IntKind.u64.wrap (d.2 / 256 ^ (8 - j))=d.2 / 256 ^ (8 - j):=zfe (Int.ediv_nonneg hr.2.1 (Int.le_of_lt (Int.pow_pos (by decide)))) (Int.lt_of_le_of_lt (Int.ediv_le_self _ hr.2.1) hr.2.2)
   have hdrop:(zaD d.2).drop j=(zaD d.2)[j]'(by rw [zE];omega) :: (zaD d.2).drop (j+1):=List.drop_eq_getElem_cons (by rw [zE];omega)
   have e6:(((j+1:Nat):Int) - 1 - 1)=(j:Int) - 1:=by omega
   simp only [go_sem,hA,k2]
   refine⟨by unfold za;omega,by unfold za;omega,by decide,⟨by omega,by omega⟩,by rw [zh];simp only [List.length_append,List.length_replicate,List.length_drop,zE];omega,by decide,by unfold za;omega,j,by omega,j,by omega,rfl,?_⟩
   rw [zxp,hdrop]
   simp only [hidx,hrem,hquo,hwq,hget,hset,e6,List.drop_succ_cons,List.drop_nil]
   rfl
theorem zsb (k:Int) (d:ByteArray) (hk:k=1\/k=4) (hd:d.size<=65536):Con Tryz.prog 119 [zcY ⟨k,d,[],(0,0),[],⟨#[]⟩,0,⟨#[]⟩⟩] (.d (.raw (.string ⟨(obL ⟨k,d,[],(0,0),[],⟨#[]⟩,0,⟨#[]⟩⟩).toArray⟩))):=by
 have hob:obL ⟨k,d,[],(0,0),[],⟨#[]⟩,0,⟨#[]⟩⟩=zb k.toNat++(zb d.size++d.data.toList):=by rcases hk with rfl | rfl <;> rfl
 rw [hob]
 have hk0:(k.toNat:Int)=k:=by rcases hk with rfl | rfl <;> rfl
 have hnc:=zcM k.toNat (by rcases hk with rfl | rfl <;> decide)
 rw [hk0] at hnc
 refine kO Tryz.func119 Tryz.ntmps119 fun A hA=>?_
 have z1:decide (k=2)=false:=by rcases hk with rfl | rfl <;> decide
 have z2:decide (k=3)=false:=by rcases hk with rfl | rfl <;> decide
 have hl1:(zb k.toNat).length<=2:=by have:=zat k.toNat;rcases hk with rfl | rfl <;> omega
 have hl2:=zat d.size
 refine goC 400 ?_
 simp only [go_sem,hA]
 refine gC hnc ?_
 simp only [go_sem,hA,z1,z2]
 refine gC (zjg d hd) ?_
 simp only [go_sem,hA,zkG,zbm,Tryz.results119]
 simp
 omega
abbrev zwg (l:List En) (q:Nat):St:=⟨[(1,.box 0 0),(3,.d (.raw (.string ⟨(zb 2++(zb l.length++(l.take q).flatMap zcr)).toArray⟩))),(4,.d (.raw (.int .i64 q)))],[(0,some (obC ⟨2,⟨#[]⟩,l,(0,0),[],⟨#[]⟩,0,⟨#[]⟩⟩))],[]⟩
theorem zdw {α:Type} (f:α->List UInt8) (k:Nat) (l:List α) (h:∀ x ∈ l,(f x).length<=k):(l.flatMap f).length<=l.length * k:=by
 induction l with
 | nil=>simp
 | cons x l ih=>
  rw [List.flatMap_cons,List.length_append,List.length_cons,Nat.succ_mul]
  have h1:=h x (List.mem_cons_self ..)
  have h2:=ih fun y hy=>h y (List.mem_cons_of_mem _ hy)
  omega
theorem zif {s:ByteArray} (h:zaa s.data.toList=true):s.size<=24:=by
 have h24:s.data.toList.length<=24:=by
  unfold zaa at h
  simp only [Bool.and_eq_true,decide_eq_true_eq] at h
  exact h.1.1.1.2
 rwa [zas] at h24
theorem zmu (s:ByteArray):(zi s).length<=1+s.size / 128+s.size:=by
 have:=zat s.size
 unfold zi;rw [List.length_append,zas];omega
theorem zAO {e:En} (h:e.name.size<=24):(zcr e).length<=43:=by
 have h1:=zmu e.name
 have h2:(zb (if e.dir then 1 else 0)).length<=1:=by cases e.dir;exact zat 0;exact zat 1
 unfold zcr;rw [List.length_append,List.length_append,zad];omega
theorem zsa (l:List En) (hx:zdr l=0) (hr:∀ e ∈ l,zds e.dg):Con Tryz.prog 119 [zcY ⟨2,⟨#[]⟩,l,(0,0),[],⟨#[]⟩,0,⟨#[]⟩⟩] (.d (.raw (.string ⟨(obL ⟨2,⟨#[]⟩,l,(0,0),[],⟨#[]⟩,0,⟨#[]⟩⟩).toArray⟩))):=by
 have hob:obL ⟨2,⟨#[]⟩,l,(0,0),[],⟨#[]⟩,0,⟨#[]⟩⟩=zb 2++(zb l.length++l.flatMap zcr):=rfl
 rw [hob]
 have hl200:¬ 200<l.length:=fun h1=>by unfold zdr at hx;rw [if_pos h1] at hx;cases hx
 have hz:zH (zkF l) l.length=0:=by unfold zdr at hx;rwa [if_neg hl200] at hx
 have h24:∀ e ∈ l,e.name.size<=24:=fun e he=>by
  obtain⟨q,hq,rfl⟩:=List.mem_iff_getElem.1 he
  exact zif (zhT hq (zbn hz q hq)).1
 have hflat:∀ q,((l.take q).flatMap zcr).length<=8600:=fun q=>by
  have h1:=zdw zcr 43 (l.take q) fun e he=>zAO (h24 e (List.mem_of_mem_take he))
  have h2:(l.take q).length<=200:=by rw [List.length_take];omega
  omega
 have hl1:=zat 2
 have hl2:=zat l.length
 refine kO Tryz.func119 Tryz.ntmps119 fun A hA=>?_
 have z2:decide ((2:Int)=2)=true:=by decide
 refine goC 400 ?_
 simp only [go_sem,hA]
 refine gC (zcM 2 (by decide)) ?_
 simp only [go_sem,hA,zJ]
 refine gC (zcM l.length (by omega)) ?_
 simp only [go_sem,hA,zkG,zbm]
 refine⟨by first | omega | (simp only [List.length_append];omega),?_⟩
 refine zc [1,3,4] [0] [] (fun y σ=>∃ q:Nat,q<=l.length/\y=l.length - q/\σ=zwg l q) l.length ⟨0,by omega,by omega,by simp only [go_sem,zwg,List.take_zero,List.flatMap_nil,List.append_nil]⟩ ?_
 rintro y σ ⟨q,hq,rfl,rfl⟩
 refine goC 400 ?_
 by_cases hlt:q<l.length
 case neg=>
  have k1:decide ((q:Int)<(l.length:Int))=false:=decide_eq_false (by omega)
  have e1:l.take q=l:=List.take_of_length_le (by omega)
  simp only [go_sem,hA,zwg,zJ,k1,e1,Tryz.results119]
 have k1:decide ((q:Int)<(l.length:Int))=true:=decide_eq_true (by omega)
 have hm:=List.getElem_mem hlt
 have hstep:=zhj zcr l q hlt
 have hde:zcr l[q]=zi l[q].name++(zb (if l[q].dir then 1 else 0)++dgL l[q].dg):=rfl
 have hq1:=hflat (q+1)
 rw [hde] at hstep
 rw [hstep] at hq1
 simp only [go_sem,hA,zwg,zJ,k1,Int.toNat_natCast,zcg l q hlt]
 refine⟨⟨by omega,by omega⟩,?_⟩
 have hnb:=zcM (if l[q].dir then 1 else 0) (by split <;> decide)
 cases hdir:l[q].dir
 all_goals
  rw [hdir] at hstep hq1 hnb
  simp only [Bool.false_eq_true,if_true,if_false] at hnb
  simp only [List.length_append] at hq1
  simp only [go_sem,hA,zJ,Int.toNat_natCast,zcg l q hlt]
  refine⟨⟨by omega,by omega⟩,?_⟩
  refine gD (zjg l[q].name (by have:=h24 _ hm;omega)) ?_
  simp only [go_sem,hA,zkG,zbm]
  refine⟨by simp only [zi,List.length_append] at hq1 ⊢;omega,?_⟩
  refine gD hnb ?_ rfl (by simp only [go_sem];first | done | rfl)
  simp only [go_sem,hA,zkG,zbm,zJ,Int.toNat_natCast,zcg l q hlt]
  refine⟨by simp only [zi,List.length_append,Bool.false_eq_true,if_true,if_false] at hq1 ⊢;omega,⟨by omega,by omega⟩,?_⟩
  refine gD (zke l[q].dg (hr _ hm)) ?_
  simp only [go_sem,hA,zkG,zbm]
  refine⟨by simp only [zi,List.length_append,Bool.false_eq_true,if_true,if_false] at hq1 ⊢;omega,by show chk _ _ _=true;kernel_rfl,by unfold za;omega,l.length - (q+1),by omega,q+1,by omega,rfl,?_⟩
  rw [hstep]
  simp only [zi,List.append_assoc,Bool.false_eq_true,if_true,if_false]
  rfl
abbrev zwh (o:Ob) (q:Nat):St:=⟨[(1,.box 0 0),(3,.d (.raw (.string ⟨(zb 3++(dgL o.tree++(zb o.pars.length++(o.pars.take q).flatMap dgL))).toArray⟩))),(6,.d (.raw (.int .i64 q)))],[(0,some (obC o))],[]⟩
theorem zsc (t:Int × Int) (p:List (Int × Int)) (a:ByteArray) (i:Int) (m:ByteArray) (hc:ziO ⟨3,⟨#[]⟩,[],t,p,a,i,m⟩=0) (hr:Ob.Rng ⟨3,⟨#[]⟩,[],t,p,a,i,m⟩):Con Tryz.prog 119 [zcY ⟨3,⟨#[]⟩,[],t,p,a,i,m⟩] (.d (.raw (.string ⟨(obL ⟨3,⟨#[]⟩,[],t,p,a,i,m⟩).toArray⟩))):=by
 obtain⟨_,c2,_,c4,c5,c6,c7⟩:=zgf hc
 simp only at c2 c4 c5 c6 c7
 have hob:obL ⟨3,⟨#[]⟩,[],t,p,a,i,m⟩=zb 3++(dgL t++(zb p.length++(p.flatMap dgL++(zi a++(zb i.toNat++zi m))))):=rfl
 rw [hob]
 have ha:=zif c4
 have hl1:=zat 3
 have hl2:=zat p.length
 have hl3:=zmu a
 have hl4:=zat i.toNat
 have hl5:=zmu m
 have hflat:∀ q,((p.take q).flatMap dgL).length<=128:=fun q=>by
  have h1:=zdw dgL 16 (p.take q) fun e _=>Nat.le_of_eq (zad e)
  have h2:(p.take q).length<=8:=by rw [List.length_take];omega
  omega
 have hi0:(i.toNat:Int)=i:=Int.toNat_of_nonneg c5
 have hni:=zcM i.toNat (by omega)
 rw [hi0] at hni
 refine kO Tryz.func119 Tryz.ntmps119 fun A hA=>?_
 have z2:decide ((3:Int)=2)=false:=by decide
 have z3:decide ((3:Int)=3)=true:=by decide
 refine goC 400 ?_
 simp only [go_sem,hA]
 refine gC (zcM 3 (by decide)) ?_
 simp only [go_sem,hA,z2]
 refine gD (zke t hr.tree) ?_
 simp only [go_sem,hA,zkG,zbm,zF]
 refine⟨by first | (rw [zad];omega) | (simp only [List.length_append,zad];omega),?_⟩
 refine gD (zcM p.length (by omega)) ?_
 simp only [go_sem,hA,zkG,zbm]
 refine⟨by simp only [List.length_append,zad];omega,by show chk _ _ _=true;kernel_rfl,?_⟩
 refine zc [1,3,6] [0] [] (fun y σ=>∃ q:Nat,q<=p.length/\y=p.length - q/\σ=zwh ⟨3,⟨#[]⟩,[],t,p,a,i,m⟩ q) p.length ⟨0,by omega,by omega,by simp only [go_sem,zwh,List.take_zero,List.flatMap_nil,List.append_nil,List.append_assoc]⟩ ?_
 rintro y σ ⟨q,hq,rfl,rfl⟩
 refine goC 400 ?_
 by_cases hlt:q<p.length
 case neg=>
  have k1:decide ((q:Int)<(p.length:Int))=false:=decide_eq_false (by omega)
  have e1:p.take q=p:=List.take_of_length_le (by omega)
  have hq0:=hflat q
  rw [e1] at hq0
  simp only [go_sem,hA,zwh,zF,k1,e1]
  refine gD (zjg a (by omega)) ?_
  simp only [go_sem,hA,zkG,zbm]
  refine⟨by simp only [zi,List.length_append,zad] at hl3 ⊢;omega,?_⟩
  refine gD hni ?_
  simp only [go_sem,hA,zkG,zbm]
  refine⟨by simp only [zi,List.length_append,zad] at hl3 ⊢;omega,?_⟩
  refine gD (zjg m (by omega)) ?_
  simp only [go_sem,hA,zkG,zbm,Tryz.results119]
  refine⟨by simp only [zi,List.length_append,zad] at hl3 hl5 ⊢;omega,by show chk _ _ _=true;kernel_rfl,?_⟩
  simp only [zi,List.append_assoc]
 have k1:decide ((q:Int)<(p.length:Int))=true:=decide_eq_true (by omega)
 have hq1:=hflat (q+1)
 have hstep:=zhj dgL p q hlt
 rw [hstep,List.length_append] at hq1
 simp only [go_sem,hA,zwh,zF,k1,Int.toNat_natCast,zdj p q hlt]
 refine⟨⟨by omega,by omega⟩,?_⟩
 refine gC (zke p[q] (hr.pars _ (List.getElem_mem hlt))) ?_
 simp only [go_sem,hA,zkG,zbm]
 refine⟨by simp only [List.length_append,zad] at hq1 ⊢;omega,by unfold za;omega,p.length - (q+1),by omega,q+1,by omega,rfl,?_⟩
 rw [hstep]
 simp only [List.append_assoc]
 rfl
end
section
open Go Go.RowKit Go.Shelf
attribute [local go_sem] Oper.semAt_some
abbrev obD (k:Int) (d:ByteArray):Ob:=⟨k,d,[],(0,0),[],⟨#[]⟩,0,⟨#[]⟩⟩
abbrev obT (l:List En):Ob:=⟨2,⟨#[]⟩,l,(0,0),[],⟨#[]⟩,0,⟨#[]⟩⟩
abbrev obM (t:Int × Int) (p:List (Int × Int)) (a:ByteArray) (i:Int) (m:ByteArray):Ob:=⟨3,⟨#[]⟩,[],t,p,a,i,m⟩
def Ob.Shape (o:Ob):Prop:=(∃ k d,k≠2/\k≠3/\o=obD k d)\/(∃ l,l.length<=1099511627776/\o=obT l)\/∃ t p a i m,p.length<=1099511627776/\o=obM t p a i m
theorem nG0:((zbw []).length:Int)=0:=rfl
theorem nN0:((zbv []).length:Int)=0:=rfl
theorem zzG (o:Ob) (h:o.Shape):Con Tryz.prog 188 [zcY o] (.d (.raw (.bool true))):=by
 refine kO Tryz.func188 Tryz.ntmps188 fun A hA=>?_
 have z0:decide (((0:Nat):Int)=0)=true:=by decide
 have z00:decide ((0:Int)<0)=false:=by decide
 have z000:decide ((0:Int)=0)=true:=by decide
 rcases h with⟨k,d,h2,h3,rfl⟩ | ⟨l,hl,rfl⟩ | ⟨t,p,a,i,m,hl,rfl⟩
 ·have z1:decide (k=2)=false:=decide_eq_false h2
  have z2:decide (k=3)=false:=decide_eq_false h3
  have z3:(decide ¬ k=2)=true:=decide_eq_true h2
  refine goC 400 ?_
  simp only [go_sem,hA,z1,z2,z3,nN0,undef]
  refine gC (zfJ (0,0)) ?_ rfl (by simp only [go_sem];first | done | rfl)
  have zz:zbd (0,0)=true:=rfl
  simp only [go_sem,hA,zz,nG0,Tryz.results188]
 ·have z1:decide ((2:Int)=2)=true:=by decide
  have z2:decide ((2:Int)=3)=false:=by decide
  have z3:(decide ¬ (2:Int)=2)=false:=by decide
  refine goC 400 ?_
  simp only [go_sem,hA,z2,undef]
  refine gC (zfJ (0,0)) ?_ rfl (by simp only [go_sem];first | done | rfl)
  have zz:zbd (0,0)=true:=rfl
  simp only [go_sem,hA,zz,nG0,Tryz.results188]
 ·have z1:decide ((3:Int)=2)=false:=by decide
  have z2:decide ((3:Int)=3)=true:=by decide
  have z3:(decide ¬ (3:Int)=2)=true:=by decide
  refine goC 400 ?_
  simp only [go_sem,hA,z1,z3,nN0,undef,Tryz.results188]
theorem zum {o:Ob} (h:o.Shape):zjt o=true:=by
 rcases h with⟨k,d,h2,h3,rfl⟩ | ⟨l,hl,rfl⟩ | ⟨t,p,a,i,m,hl,rfl⟩
 ·unfold zjt zwR
  simp [h2,h3,zbd]
 ·unfold zjt zwR
  simp [zbd]
 ·unfold zjt
  simp
theorem zuD (o:Ob) (h:o.Shape):Con Tryz.prog 118 [zcY o] (.d (.raw (.int .i64 (zaV o)))):=by
 have hon:=zzG o h
 have hx:=zum h
 refine kO Tryz.func118 Tryz.ntmps118 fun A hA=>?_
 rcases h with⟨k,d,h2,h3,rfl⟩ | ⟨l,hl,rfl⟩ | ⟨t,p,a,i,m,hl,rfl⟩
 ·have z1:decide (k=2)=false:=decide_eq_false h2
  have z2:decide (k=3)=false:=decide_eq_false h3
  by_cases k1:k<1
  ·have e1:zaV (obD k d)=9:=if_pos (.inl k1)
   have z3:decide (k<1)=true:=decide_eq_true k1
   refine goC 400 ?_
   simp only [go_sem,hA,z3,undef,e1,Tryz.results118]
  have z3:decide (k<1)=false:=decide_eq_false k1
  by_cases k4:4<k
  ·have e1:zaV (obD k d)=9:=if_pos (.inr k4)
   have z4:decide (4<k)=true:=decide_eq_true k4
   refine goC 400 ?_
   simp only [go_sem,hA,z3,z4,e1,Tryz.results118]
  have z4:decide (4<k)=false:=decide_eq_false k4
  have e1:zaV (obD k d)=if 65536<d.size then 4 else 0:=by
   unfold zaV
   rw [if_neg (by simp;omega),hx,if_neg (by simp),if_neg h2,if_neg h3]
  refine goC 400 ?_
  simp only [go_sem,hA,z3,z4]
  refine gC hon ?_ rfl (by simp only [go_sem];first | done | rfl)
  by_cases hd:65536<d.size
  ·have g:decide ((65536:Int)<(d.size:Int))=true:=decide_eq_true (by omega)
   rw [if_pos hd] at e1
   simp only [go_sem,hA,z1,z2,g,e1,Tryz.results118]
  ·have g:decide ((65536:Int)<(d.size:Int))=false:=decide_eq_false (by omega)
   rw [if_neg hd] at e1
   simp only [go_sem,hA,z1,z2,g,e1,Tryz.results118]
 ·have z1:decide ((2:Int)=2)=true:=by decide
  have z3:decide ((2:Int)<1)=false:=by decide
  have z4:decide ((4:Int)<2)=false:=by decide
  have e1:zaV (obT l)=zdr l:=by
   unfold zaV
   rw [if_neg (by simp),hx,if_neg (by simp),if_pos rfl]
  refine goC 400 ?_
  simp only [go_sem,hA]
  refine gC hon ?_ rfl (by simp only [go_sem];first | done | rfl)
  simp only [go_sem,hA]
  refine gC (zrZ l hl) ?_ rfl (by simp only [go_sem];first | done | rfl)
  simp only [go_sem,hA,e1,Tryz.results118]
 ·have z1:decide ((3:Int)=2)=false:=by decide
  have z2:decide ((3:Int)=3)=true:=by decide
  have z3:decide ((3:Int)<1)=false:=by decide
  have z4:decide ((4:Int)<3)=false:=by decide
  have e1:zaV (obM t p a i m)=ziO (obM t p a i m):=by
   unfold zaV
   rw [if_neg (by simp),hx,if_neg (by simp),if_neg (by simp),if_pos rfl]
  refine goC 400 ?_
  simp only [go_sem,hA]
  refine gC hon ?_ rfl (by simp only [go_sem];first | done | rfl)
  simp only [go_sem,hA,z1]
  refine gC (zuE (obM t p a i m) hl) ?_ rfl (by simp only [go_sem];first | done | rfl)
  simp only [go_sem,hA,e1,Tryz.results118]
theorem zmq (o:Ob) (h:zaV o=0) (hr:o.Rng):Con Tryz.prog 119 [zcY o] (.d (.raw (.string ⟨(obL o).toArray⟩))):=by
 rcases zgC h with⟨k,d,hk,hd,rfl⟩ | ⟨l,hl,rfl⟩ | ⟨t,p,a,i,m,ho,hc⟩
 ·exact zsb k d hk hd
 ·exact zsa l hl hr.ents
 ·subst ho
  exact zsc t p a i m hc hr
theorem zxq (o:Ob) (h:o.Shape) (hr:o.Rng):Con Tryz.prog 54 [zcY o] (.d (.raw (.int .i64 (zak o).2))):=by
 have hf:=zuD o h
 refine kO Tryz.func54 Tryz.ntmps54 fun A hA=>?_
 refine goC 400 ?_
 simp only [go_sem,hA]
 refine gC hf ?_ rfl (by simp only [go_sem];first | done | rfl)
 by_cases h0:zaV o=0
 ·have z:(decide ¬ zaV o=0)=false:=by simp [h0]
  simp only [go_sem,hA,z]
  refine gC (zmq o h0 hr) ?_ rfl (by simp only [go_sem];first | done | rfl)
  by_cases h1:65536<(obL o).length
  ·have g:decide ((65536:Int)<(((obL o).length:Nat):Int))=true:=decide_eq_true (by omega)
   have e1:(zak o).2=4:=by unfold zak;rw [if_neg (by simp [h0]),if_pos h1]
   simp only [go_sem,hA,zbm,g,e1,Tryz.results54]
  ·have g:decide ((65536:Int)<(((obL o).length:Nat):Int))=false:=decide_eq_false (by omega)
   have e1:(zak o).2=0:=by unfold zak;rw [if_neg (by simp [h0]),if_neg h1]
   simp only [go_sem,hA,zbm,g,e1,Tryz.results54]
 ·have z:(decide ¬ zaV o=0)=true:=decide_eq_true h0
  have e1:(zak o).2=zaV o:=by unfold zak;rw [if_pos h0]
  simp only [go_sem,hA,z,e1,Tryz.results54]
theorem zeO (o:Ob) (h:o.Shape) (hr:o.Rng):Con Tryz.prog 120 [zcY o] (.tup [.d (.raw (.string ⟨(zak o).1.toArray⟩)),.d (.raw (.int .i64 (zak o).2))]):=by
 have hf:=zxq o h hr
 refine kO Tryz.func120 Tryz.ntmps120 fun A hA=>?_
 refine goC 400 ?_
 simp only [go_sem,hA]
 refine gC hf ?_ rfl (by simp only [go_sem];first | done | rfl)
 by_cases h0:(zak o).2=0
 ·have hfx:zaV o=0/\(zak o).1=obL o:=by
   unfold zak at h0 ⊢
   split at h0
   ·rename_i h1;exact absurd h0 h1
   ·rename_i h1
    split at h0
    ·cases h0
    ·rename_i h2
     rw [if_neg h1,if_neg h2]
     exact⟨Decidable.not_not.1 h1,rfl⟩
  have z:(decide ¬ (zak o).2=0)=false:=by simp [h0]
  simp only [go_sem,hA,z]
  refine gC (zmq o hfx.1 hr) ?_ rfl (by simp only [go_sem];first | done | rfl)
  simp only [go_sem,hA,hfx.2,h0,Tryz.results120]
 ·have z:(decide ¬ (zak o).2=0)=true:=decide_eq_true h0
  have e1:(zak o).1=[]:=by
   unfold zak at h0 ⊢
   split
   ·rfl
   ·rename_i h1
    rw [if_neg h1] at h0
    split
    ·rfl
    ·rename_i h2;rw [if_neg h2] at h0;exact absurd rfl h0
  simp only [go_sem,hA,z,e1,Tryz.results120]
end
end Go.Proofs.YtpnjjmcimjlfkaaGreatDoor
