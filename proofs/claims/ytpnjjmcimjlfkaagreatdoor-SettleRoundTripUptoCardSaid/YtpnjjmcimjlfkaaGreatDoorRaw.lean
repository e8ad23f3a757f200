/- Texts of this proof, part 23: what the proof uses of them. -/
import Derived.Test.YtpnjjmcimjlfkaaGreatDoorRav
import Derived.Test.YtpnjjmcimjlfkaaGreatDoorRau
import Derived.Test.YtpnjjmcimjlfkaaGreatDoorRaq
import Derived.Test.YtpnjjmcimjlfkaaGreatDoorRap
set_option maxRecDepth 100000
set_option maxHeartbeats 64000000
namespace Go.Proofs.YtpnjjmcimjlfkaaGreatDoor
section
open Go Go.RowKit Go.Shelf
attribute [local go_sem] Oper.semAt_some St.ren zhZ zgU AV.ren zdd Blk.ren St.setBlk List.getD_cons_zero
abbrev qrB (r:RdS):Blk:=.cell 196 [.d (.raw (.string r.1)),.d (.raw (.bool r.2))]
abbrev qrL (r:RdS):Lent:=⟨[(901,some (qrB r))],[]⟩
theorem zdP {r:RdS} (h:r.1.size<=1048576):(rdI r).2.1.size<=1048576:=by
 unfold rdI;split
 ·exact h
 ·simp only [ByteArray.size_extract];omega
theorem zml {r:RdS} (h:r.1.size<=1048576):(rdT r).2.1.size<=1048576:=by
 unfold rdT;split
 ·exact h
 ·simp only [ByteArray.size_extract];omega
theorem zmn {r:RdS} (h:r.1.size<=1048576):(rdG r).2.1.size<=1048576:=by
 unfold rdG;split
 ·exact h
 ·simp only [ByteArray.size_extract];omega
theorem zzB (r:RdS):(rdI r).1<=1099511627776:=by
 unfold rdI;split
 ·exact Nat.zero_le _
 ·rename_i h
  exact(zdv (Decidable.not_not.1 fun e=>h (.inr e))).2.2
theorem zcp (r:RdS) (hb:r.1.size<=1048576):zI Tryz.prog 168 [.box 901 0] (qrL r) (fun o=>o = .ret (.d (.raw (.int .i64 (rdI r).1))) (qrL (rdI r).2)):=by
 have hg:=zoM r.1 hb
 refine kL [901] [] Tryz.func168 Tryz.ntmps168 fun A hA hX=>?_
 obtain⟨s,bad⟩:=r
 simp only at hb hg
 refine goC 400 ?_
 simp only [go_sem,hA]
 refine gC hg ?_
 cases bad with
 | true=>
  have e1:rdI (s,true)=(0,s,true):=if_pos (.inl rfl)
  simp only [go_sem,hA,undef,e1,Tryz.results168]
  exact⟨_,rfl,rfl,rfl⟩
 | false=>
 by_cases h0:(zbx s).2.2=0
 ·have z:(decide ¬ (zbx s).2.2=0)=false:=by simp [h0]
  have e1:rdI (s,false)=((zbx s).1,s.extract (zbx s).2.1 s.size,false):=if_neg (by simp [h0])
  have hf:=zdv h0
  simp only [go_sem,hA,z,e1,Int.toNat_natCast,Tryz.results168]
  exact⟨⟨by omega,by omega,by omega⟩,_,rfl,rfl,rfl⟩
 ·have z:(decide ¬ (zbx s).2.2=0)=true:=decide_eq_true h0
  have e1:rdI (s,false)=(0,s,true):=if_pos (.inr h0)
  simp only [go_sem,hA,z,e1,Tryz.results168]
  exact⟨_,rfl,rfl,rfl⟩
theorem zfK (r:RdS) (hb:r.1.size<=1048576):zI Tryz.prog 169 [.box 901 0] (qrL r) (fun o=>o = .ret (.d (.raw (.string (rdT r).1))) (qrL (rdT r).2)):=by
 have hg:=zuC r.1 hb
 refine kL [901] [] Tryz.func169 Tryz.ntmps169 fun A hA hX=>?_
 obtain⟨s,bad⟩:=r
 simp only at hb hg
 refine goC 400 ?_
 simp only [go_sem,hA]
 refine gC hg ?_
 cases bad with
 | true=>
  have e1:rdT (s,true)=(⟨#[]⟩,s,true):=if_pos (.inl rfl)
  simp only [go_sem,hA,undef,e1,Tryz.results169]
  exact⟨_,rfl,rfl,rfl⟩
 | false=>
 by_cases h0:(zcO s).2.2=0
 ·have z:(decide ¬ (zcO s).2.2=0)=false:=by simp [h0]
  have e1:rdT (s,false)=((zcO s).1,s.extract (zcO s).2.1 s.size,false):=if_neg (by simp [h0])
  have hf:=zpk h0
  simp only [go_sem,hA,z,e1,Int.toNat_natCast,Tryz.results169]
  exact⟨⟨by omega,by omega,by omega⟩,_,rfl,rfl,rfl⟩
 ·have z:(decide ¬ (zcO s).2.2=0)=true:=decide_eq_true h0
  have e1:rdT (s,false)=(⟨#[]⟩,s,true):=if_pos (.inr h0)
  simp only [go_sem,hA,z,e1,Tryz.results169]
  exact⟨_,rfl,rfl,rfl⟩
theorem ziM (l:List UInt8) (q:Nat) (h:q<l.length):zhw (l.take (q+1))=IntKind.u64.wrap (IntKind.u64.wrap (zhw (l.take q) * 256)+(l[q].toNat:Nat)):=by
 unfold zhw
 rw [List.take_succ_eq_append_getElem h,List.foldl_append];rfl
theorem zze (n:Int):0<=IntKind.u64.wrap n/\IntKind.u64.wrap n<18446744073709551616:=by
 have e:IntKind.u64.wrap n=n % 18446744073709551616:=by
  unfold IntKind.wrap;rfl
 rw [e];omega
theorem zpt (l:List UInt8):0<=zhw l/\zhw l<18446744073709551616:=by
 cases hn:l.length with
 | zero=>
  obtain rfl:=List.eq_nil_of_length_eq_zero hn
  exact⟨by decide,by decide⟩
 | succ n=>
  have h:=ziM l n (by omega)
  rw [List.take_of_length_le (by omega)] at h
  rw [h];exact zze _
theorem zhJ (r:RdS):zds (rdG r).1:=by
 unfold rdG;split
 ·show zds (0,0)
  exact⟨⟨by decide,by decide⟩,by decide,by decide⟩
 ·exact⟨zpt _,zpt _⟩
abbrev zCD (a b:Int) (s:ByteArray) (q:Nat):St:=⟨[(0,.box 901 0),(2,.box 0 0),(3,.box 1001 0),(4,.d (.raw (.int .i64 q)))],[(0,some (.cell 42 [.d (.raw (.int .u64 0)),.d (.raw (.int .u64 0))])),(1001,some (.cell 42 [.d (.raw (.int .u64 a)),.d (.raw (.int .u64 b))])),(901,some (qrB (s,false)))],[]⟩
theorem ziy (r:RdS) (hb:r.1.size<=1048576):zI Tryz.prog 170 [.box 901 0] (qrL r) (fun o=>o = .ret (zew (rdG r).1) (qrL (rdG r).2)):=by
 refine kL [901] [] Tryz.func170 Tryz.ntmps170 fun A hA hX=>?_
 obtain⟨s,bad⟩:=r
 simp only at hb
 refine goC 400 ?_
 cases bad with
 | true=>
  have e1:rdG (s,true)=((0,0),s,true):=if_pos (.inl rfl)
  simp only [go_sem,hA,undef,e1,Tryz.results170]
  exact⟨_,rfl,rfl,rfl⟩
 | false=>
 by_cases h16:s.size<16
 ·have z:decide ((s.size:Int)<16)=true:=decide_eq_true (by omega)
  have e1:rdG (s,false)=((0,0),s,true):=if_pos (.inr h16)
  simp only [go_sem,hA,z,e1,Tryz.results170]
  exact⟨_,rfl,rfl,rfl⟩
 have z:decide ((s.size:Int)<16)=false:=decide_eq_false (by omega)
 have e1:rdG (s,false)=((zhw (s.data.toList.take 8),zhw ((s.data.toList.drop 8).take 8)),s.extract 16 s.size,false):=if_neg (by simp [h16])
 simp only [go_sem,hA,z,e1]
 have hsl:s.data.toList.length=s.size:=zas s
 generalize hx:s.data.toList.take 8=x
 generalize hy:(s.data.toList.drop 8).take 8=y
 have hxl:x.length=8:=by rw [<- hx,List.length_take];omega
 have hyl:y.length=8:=by rw [<- hy,List.length_take,List.length_drop];omega
 have hgx:∀ q (h:q<8),s.data.toList.getD q 0=x[q]'(by omega):=fun q h=>by
  rw [List.getD_eq_getElem?_getD,List.getElem?_eq_getElem (by omega)]
  subst hx
  simp
 have hgy:∀ q (h:8<=q) (h2:q<16),s.data.toList.getD q 0=y[q - 8]'(by omega):=fun q h h2=>by
  rw [List.getD_eq_getElem?_getD,List.getElem?_eq_getElem (by omega)]
  subst hy
  have e:8+(q - 8)=q:=by omega
  simp [e]
 refine zc [0,2,3,4] [0,1001,901] [] (fun n σ=>∃ q:Nat,q<=16/\n=16 - q/\σ=zCD (zhw (x.take q)) (zhw (y.take (q - 8))) s q) 16 ⟨0,by omega,by omega,by simp only [go_sem];rfl⟩ ?_
 rintro n σ ⟨q,hq,rfl,rfl⟩
 refine goC 400 ?_
 by_cases hlt:q<16
 ·have k1:decide ((q:Int)<16)=true:=decide_eq_true (by omega)
  have hw:∀ c:UInt8,IntKind.u64.wrap ((c.toNat:Nat):Int)=((c.toNat:Nat):Int):=fun c=>zfe (by omega) (by have:=c.toNat_lt;omega)
  by_cases h8:q<8
  ·have hq8:(q:Int).tdiv 8=0:=by rw [Int.tdiv_eq_ediv_of_nonneg (by omega)];omega
   have hv:=ziM x q (by omega)
   have e8:q+1 - 8=q - 8:=by omega
   simp only [go_sem,hA,zCD,k1,mixed,hq8,Int.toNat_natCast,hgx q h8,hw]
   exact⟨⟨by decide,by unfold za;omega⟩,⟨by decide,by unfold za;omega⟩,⟨by omega,by omega⟩,by show chk _ _ _=true;kernel_rfl,by unfold za;omega,16 - (q+1),by omega,q+1,by omega,rfl,by rw [hv,e8];rfl⟩
  ·have hq8:(q:Int).tdiv 8=1:=by rw [Int.tdiv_eq_ediv_of_nonneg (by omega)];omega
   have hv:=ziM y (q - 8) (by omega)
   have e8:q+1 - 8=q - 8+1:=by omega
   have et:x.take (q+1)=x.take q:=by rw [List.take_of_length_le (by omega),List.take_of_length_le (by omega)]
   simp only [go_sem,hA,zCD,k1,mixed,hq8,Int.toNat_natCast,hgy q (by omega) hlt,hw]
   exact⟨⟨by decide,by unfold za;omega⟩,⟨by decide,by unfold za;omega⟩,⟨by omega,by omega⟩,by show chk _ _ _=true;kernel_rfl,by unfold za;omega,16 - (q+1),by omega,q+1,by omega,rfl,by rw [e8,hv,et];rfl⟩
 ·have k1:decide ((q:Int)<16)=false:=decide_eq_false (by omega)
  have ex:x.take q=x:=List.take_of_length_le (by omega)
  have ey:y.take (q - 8)=y:=List.take_of_length_le (by omega)
  have h16':(16:Int).toNat=16:=rfl
  simp only [go_sem,hA,zCD,k1,ex,ey,Int.toNat_natCast,h16',Tryz.results170]
  exact⟨⟨by omega,by omega⟩,_,rfl,rfl,rfl⟩
def zqX (s:ByteArray):Ob:=if ziN s=0 then (zgs s).1 else ⟨0,⟨#[]⟩,[],(0,0),[],⟨#[]⟩,0,⟨#[]⟩⟩
abbrev obZ (k:Int) (d:ByteArray) (es:AV) (t:Int × Int) (ps:AV) (a:ByteArray) (i:Int) (m:ByteArray):Blk:=.cell 85 [.d (.raw (.int .i64 k)),.d (.raw (.string d)),es,.d (.raw (.int .u64 t.1)),.d (.raw (.int .u64 t.2)),ps,.d (.raw (.string a)),.d (.raw (.int .i64 i)),.d (.raw (.string m))]
abbrev zxP:AV:=.d (.raw (.slice none 0 0))
def zBb (s:ByteArray) (o:Ob) (b:Bool):Int:=if b=true\/¬ (zak o).2=0\/¬ s=⟨(zak o).1.toArray⟩ then 13 else 0
theorem znB (s:ByteArray):ziN s=zBb s (zgs s).1 (zgs s).2.2:=rfl
theorem zhx {s:ByteArray} {o:Ob}:zBb s o true=13:=if_pos (.inl rfl)
theorem zjL {s:ByteArray} {o:Ob} {b:Bool} (h:¬ (zak o).2=0):zBb s o b=13:=if_pos (.inr (.inl h))
theorem zlO {s:ByteArray} {o:Ob} {b:Bool} (h:¬ (⟨(zak o).1.toArray⟩:ByteArray)=s):zBb s o b=13:=if_pos (.inr (.inr fun e=>h e.symm))
theorem zlN {s:ByteArray} {o:Ob} (h:(zak o).2=0) (h':(⟨(zak o).1.toArray⟩:ByteArray)=s):zBb s o false=0:=if_neg (by
 rintro (e | e | e)
 ·cases e
 ·exact e h
 ·exact e h'.symm)
theorem znA (s:ByteArray):zqX s=if ziN s=0 then (zgs s).1 else ⟨0,⟨#[]⟩,[],(0,0),[],⟨#[]⟩,0,⟨#[]⟩⟩:=rfl
theorem zdx:zds (0,0):=⟨⟨by decide,by decide⟩,by decide,by decide⟩
theorem zzI (s:ByteArray) (hb:s.size<=1048576) (h2:¬ (rdI (s,false)).1=2) (h3:¬ (rdI (s,false)).1=3):Con Tryz.prog 105 [.d (.raw (.string s))] (.tup [zcY (zqX s),.d (.raw (.int .i64 (ziN s)))]):=by
 have hI:=zcp (s,false) hb
 have hT:=zfK (rdI (s,false)).2 (zdP (r:=(s,false)) hb)
 have hob:zgs s=(obD (rdI (s,false)).1 (rdT (rdI (s,false)).2).1,(rdT (rdI (s,false)).2).2):=by
  unfold zgs
  simp only
  rw [if_neg h2,if_neg h3]
 have hx:=znB s
 have ho:=znA s
 rw [hob] at hx ho
 simp only at hx ho
 clear hob
 generalize rdT (rdI (s,false)).2=rt at *
 obtain⟨d,rs,rb⟩:=rt
 generalize rdI (s,false)=ri at *
 obtain⟨k,r1⟩:=ri
 simp only at h2 h3 hx ho hT
 have hE:=zeO (obD k d) (.inl ⟨k,d,by omega,by omega,rfl⟩) ⟨fun e he=>(List.not_mem_nil he).elim,zdx,fun e he=>(List.not_mem_nil he).elim⟩
 refine kY Tryz.func105 Tryz.ntmps105 fun A hA hY=>?_
 have z2:decide ((k:Int)=2)=false:=decide_eq_false (by omega)
 have z3:decide ((k:Int)=3)=false:=decide_eq_false (by omega)
 refine goC 400 ?_
 simp only [go_sem,hA]
 refine zaA 1002 901 rfl (hY.1 _) rfl rfl _ (by simp only [go_sem];rfl) ?_
 refine gL [901] [] hI (fun pv h=>by cases h) fun res L' h=>?_
 cases h
 simp only [go_sem,hA,z2,z3]
 refine gL [901] [] hT (fun pv h=>by cases h) fun res L' h=>?_
 cases h
 simp only [go_sem,hA]
 refine gC hE ?_ rfl (by simp only [go_sem];first | done | rfl)
 cases rb with
 | true=>
  rw [zhx] at hx
  rw [hx,if_neg (by decide)] at ho
  simp only [go_sem,hA,undef,ho,hx,Tryz.results105]
  rfl
 | false=>
  by_cases he:(zak (obD k d)).2=0
  ·have ze:(decide ¬ (zak (obD k d)).2=0)=false:=by simp [he]
   by_cases ht:(⟨(zak (obD k d)).1.toArray⟩:ByteArray)=s
   ·have zt:(decide ¬ (⟨(zak (obD k d)).1.toArray⟩:ByteArray)=s)=false:=by simp [ht]
    rw [zlN he ht] at hx
    rw [hx,if_pos rfl] at ho
    simp only [go_sem,hA,ze,zt,ho,hx,Tryz.results105]
    rfl
   ·have zt:(decide ¬ (⟨(zak (obD k d)).1.toArray⟩:ByteArray)=s)=true:=decide_eq_true ht
    rw [zlO ht] at hx
    rw [hx,if_neg (by decide)] at ho
    simp only [go_sem,hA,ze,zt,ho,hx,Tryz.results105]
    rfl
  ·have ze:(decide ¬ (zak (obD k d)).2=0)=true:=decide_eq_true he
   rw [zjL he] at hx
   rw [hx,if_neg (by decide)] at ho
   simp only [go_sem,hA,ze,undef,ho,hx,Tryz.results105]
   rfl
abbrev zCE (s:ByteArray) (r:RdS) (acc:List En) (n i:Nat):St:=⟨[(0,.d (.raw (.string s))),(2,.box 0 0),(4,.box 901 0),(5,.box 2001 0),(6,.d (.raw (.int .i64 n))),(7,.d (.raw (.int .i64 i)))],[(0,some (obZ 0 ⟨#[]⟩ zxP (0,0) zxP ⟨#[]⟩ 0 ⟨#[]⟩)),(901,some (qrB r)),(2001,some (obZ 2 ⟨#[]⟩ (.grow 98 (zbv acc)) (0,0) zxP ⟨#[]⟩ 0 ⟨#[]⟩))],[(98,some ⟨4,199,i,none⟩)]⟩
theorem zzH (s:ByteArray) (hb:s.size<=1048576) (h2:(rdI (s,false)).1=2):Con Tryz.prog 105 [.d (.raw (.string s))] (.tup [zcY (zqX s),.d (.raw (.int .i64 (ziN s)))]):=by
 have hI:=zcp (s,false) hb
 rw [h2] at hI
 have hs1:=zdP (r:=(s,false)) hb
 have hN:=zcp (rdI (s,false)).2 hs1
 have hs2:=zdP hs1
 have hnl:=zzB (rdI (s,false)).2
 have hob:zgs s=(obT (zdO rdN (rdI (rdI (s,false)).2).1 (rdI (rdI (s,false)).2).2 []).1,(zdO rdN (rdI (rdI (s,false)).2).1 (rdI (rdI (s,false)).2).2 []).2):=by
  unfold zgs
  simp only
  rw [if_pos h2]
 have hx:=znB s
 have ho:=znA s
 rw [hob] at hx ho
 simp only at hx ho
 clear hob
 generalize rdI (rdI (s,false)).2=rn at *
 obtain⟨n,r0⟩:=rn
 simp only at hx ho hN hnl hs2
 generalize (rdI (s,false)).2=r1 at *
 refine kY Tryz.func105 Tryz.ntmps105 fun A hA hY=>?_
 have z2:decide ((2:Int)=2)=true:=by decide
 have hc2:(((2:Nat):Int))=2:=rfl
 refine goC 400 ?_
 simp only [go_sem,hA]
 refine zaA 1002 901 rfl (hY.1 _) rfl rfl _ (by simp only [go_sem];rfl) ?_
 refine gL [901] [] hI (fun pv h=>by cases h) fun res L' h=>?_
 cases h
 simp only [go_sem,hA,hc2]
 refine gL [901] [] hN (fun pv h=>by cases h) fun res L' h=>?_
 cases h
 simp only [go_sem,hA]
 refine zbG 98 2001 2 4 199 (by simp only [go_sem]) rfl rfl ?_
 simp only [go_sem]
 refine zc [0,2,4,5,6,7] [0,901,2001] [98] (fun y σ=>∃ (i:Nat) (acc:List En) (r:RdS),i<=n/\y=n - i/\acc.length=i/\r.1.size<=1048576/\(∀ e ∈ acc,zds e.dg)/\zdO rdN n r0 []=zdO rdN (n - i) r acc/\σ=zCE s r acc n i) n ⟨0,[],r0,by omega,by omega,rfl,hs2,fun e he=>(List.not_mem_nil he).elim,rfl,by simp only [go_sem];rfl⟩ ?_
 rintro y σ ⟨i,acc,r,hi,rfl,hal,hrs,hdg,hls,rfl⟩
 by_cases hlt:i<n
 ·have k1:decide ((i:Int)<(n:Int))=true:=decide_eq_true (by omega)
  obtain⟨rs,rb⟩:=r
  cases rb with
  | true=>
   have hni:n - i=(n - i - 1)+1:=by omega
   have hl2:zdO rdN (n - i) (rs,true) acc=(acc,(rs,true)):=by rw [hni,zdO,if_pos rfl]
   rw [hls,hl2] at hx ho
   simp only at hx ho
   have hE:=zeO (obT acc) (.inr (.inl ⟨acc,by omega,rfl⟩)) ⟨hdg,zdx,fun e he=>(List.not_mem_nil he).elim⟩
   refine goC 400 ?_
   simp only [go_sem,hA,zCE,obZ,k1]
   refine gC hE ?_ rfl (by simp only [go_sem];first | done | rfl)
   rw [zhx] at hx
   rw [hx,if_neg (by decide)] at ho
   simp only [go_sem,hA,undef,ho,hx,Tryz.results105]
   rfl
  | false=>
   have hni:n - i=(n - (i+1))+1:=by omega
   have hstep:zdO rdN n r0 []=zdO rdN (n - (i+1)) (rdG (rdI (rdT (rs,false)).2).2).2 (acc++[⟨(rdT (rs,false)).1,decide ((rdI (rdT (rs,false)).2).1=1),(rdG (rdI (rdT (rs,false)).2).2).1⟩]):=by
    rw [hls,hni,zdO,if_neg (by simp)];rfl
   have cT:=zfK (rs,false) hrs
   have sT:=zml hrs
   have cI:=zcp (rdT (rs,false)).2 sT
   have sI:=zdP sT
   have cG:=ziy (rdI (rdT (rs,false)).2).2 sI
   have sG:=zmn sI
   have rG:=zhJ (rdI (rdT (rs,false)).2).2
   generalize rdG (rdI (rdT (rs,false)).2).2=xg at *
   obtain⟨dg,rg⟩:=xg
   generalize rdI (rdT (rs,false)).2=xi at *
   obtain⟨di,rj⟩:=xi
   generalize rdT (rs,false)=xt at *
   obtain⟨nm,rt⟩:=xt
   simp only at hstep cT cI cG sG rG
   have hdec:decide ((di:Int)=1)=decide (di=1):=decide_eq_decide.2 (by omega)
   refine goC 400 ?_
   simp only [go_sem,hA,zCE,obZ,k1]
   refine gL [901] [] cT (fun pv h=>by cases h) fun res L' h=>?_
   cases h
   simp only [go_sem,hA]
   refine gL [901] [] cI (fun pv h=>by cases h) fun res L' h=>?_
   cases h
   simp only [go_sem,hA,hdec]
   refine gL [901] [] cG (fun pv h=>by cases h) fun res L' h=>?_
   cases h
   simp only [go_sem,hA]
   have ea:zbv acc++[[.raw (.string nm),.raw (.bool (decide (di=1))),.raw (.int .u64 dg.1),.raw (.int .u64 dg.2)]]=zbv (acc++[⟨nm,decide (di=1),dg⟩]):=zjH acc [⟨nm,decide (di=1),dg⟩]
   exact⟨⟨by rw [zJ];exact hal,zhV [⟨nm,decide (di=1),dg⟩],fun r hr=>(zhV _ r hr).1,by rw [zJ];omega⟩,by unfold za;omega,n - (i+1),by omega,i+1,acc++[⟨nm,decide (di=1),dg⟩],rg,by omega,rfl,by simp [hal],sG,fun e he=>by
    rcases List.mem_append.1 he with h | h
    ·exact hdg e h
    ·rw [List.mem_singleton] at h;subst h;exact rG,hstep,by rw [ea];rfl⟩
 ·have k1:decide ((i:Int)<(n:Int))=false:=decide_eq_false (by omega)
  obtain⟨rs,rb⟩:=r
  have hni:n - i=0:=by omega
  have hl2:zdO rdN (n - i) (rs,rb) acc=(acc,(rs,rb)):=by rw [hni,zdO]
  rw [hls,hl2] at hx ho
  simp only at hx ho
  have hE:=zeO (obT acc) (.inr (.inl ⟨acc,by omega,rfl⟩)) ⟨hdg,zdx,fun e he=>(List.not_mem_nil he).elim⟩
  refine goC 400 ?_
  simp only [go_sem,hA,zCE,obZ,k1,undef]
  refine gC hE ?_ rfl (by simp only [go_sem];first | done | rfl)
  cases rb with
  | true=>
   rw [zhx] at hx
   rw [hx,if_neg (by decide)] at ho
   simp only [go_sem,hA,undef,ho,hx,Tryz.results105]
   rfl
  | false=>
   by_cases he:(zak (obT acc)).2=0
   ·have ze:(decide ¬ (zak (obT acc)).2=0)=false:=by simp [he]
    by_cases ht:(⟨(zak (obT acc)).1.toArray⟩:ByteArray)=s
    ·have zt:(decide ¬ (⟨(zak (obT acc)).1.toArray⟩:ByteArray)=s)=false:=by simp [ht]
     rw [zlN he ht] at hx
     rw [hx,if_pos rfl] at ho
     simp only [go_sem,hA,ze,zt,ho,hx,Tryz.results105]
     rfl
    ·have zt:(decide ¬ (⟨(zak (obT acc)).1.toArray⟩:ByteArray)=s)=true:=decide_eq_true ht
     rw [zlO ht] at hx
     rw [hx,if_neg (by decide)] at ho
     simp only [go_sem,hA,ze,zt,ho,hx,Tryz.results105]
     rfl
   ·have ze:(decide ¬ (zak (obT acc)).2=0)=true:=decide_eq_true he
    rw [zjL he] at hx
    rw [hx,if_neg (by decide)] at ho
    simp only [go_sem,hA,ze,undef,ho,hx,Tryz.results105]
    rfl
section
variable {P:Program}
theorem zDx {f : FuncId} {fn : Func} {c : Code} {args : List AV} {res : AV} (hf : P.funcs[f]? = some fn) (hb : fn.body = some c) (hn : (fn.name == "runtime.NumGoroutine") = false) (hres : res.closed = true) (hargs : zN args = true) (hle : args.length <= fn.ntmps)
  (h:∀ A:Base P,A.N=fn.ntmps/\A.ro=none->((∀ r,A.fx r=false/\A.tk0 r=none)/\∀ x,¬ A.X x)->SatC P A c (St.enter args) (stk P A [] (zuw P fn.results.toList res))):Con P f args res:=by
 refine⟨⟨fn,hf,hn,by rw [hb];rfl⟩,hres,fun F w vs hF hG hl hv=>?_⟩
 refine calls_of_wp hf hb ?_
 have hsz:vs.toArray.size=args.length:=by simp [hl]
 have hk:Ok ⟨w.heap.size,w,F,fn.ntmps,fun _=>False,fun w' hb=>hG.keep hb fun _ h=>h.elim,hG.low,fun _ h=>h.elim,fun _=>false,fun _=>0,fun _ h=>by simp at h,none,fun _=>none,fun _=>undef,(fun _ _ h=>by cases h),[],fun _=>undef,fun _ _=>rfl⟩ (St.enter args) (gh0 F) { tmps:=vs.toArray++Array.replicate (fn.ntmps - vs.toArray.size) undef,defers:=[] } w:=by
  refine⟨.of (Below.refl _ _),Nat.le_refl _,fun _ _ h=>h,fun _ _ h=>.inl h,hF,rfl,by simp;omega,fun t=>?_,fun r b hr=>by simp [St.enter,St.blk,zk] at hr,fun r b hr=>by simp [St.enter,St.blk,zk] at hr,fun r b r' b' hr=>by simp [St.enter,St.blk,zk] at hr,fun r b hr=>by simp [St.enter,St.tok,zk] at hr,fun r b x hr=>by simp [St.enter,St.tok,zk] at hr,fun r b r' b' x hr=>by simp [St.enter,St.tok,zk] at hr,fun r b r' b' x hr=>by simp [St.enter,St.tok,zk] at hr,fun r hr=>by simp at hr,fun _ _ h=>by cases h⟩
  have hget:(St.enter args).get t=(args[t]?).getD .dead:=by
   unfold St.enter St.get
   rw [zcq];simp
  rw [Base.val_of (fun _=>rfl) (by simp;omega),hget]
  by_cases ht:t<args.length
  ·have htv:t<vs.length:=by omega
   have e1:(vs.toArray++Array.replicate (fn.ntmps - vs.toArray.size) undef).getD t undef=vs[t]:=by
    rw [Array.getD_eq_getD_getElem?,Array.getElem?_append_left (by simpa using htv)]
    simp [htv]
   rw [e1]
   simp only [List.getElem?_eq_getElem ht,Option.getD_some]
   exact(hv t ht htv).open (zY ht hargs) (fun _ _ h=>h)
  ·simp only [List.getElem?_eq_none (Nat.le_of_not_lt ht),Option.getD_none]
   exact .dead _
 refine wp_mono (wpIn_wide.1 (h _ ⟨rfl,rfl⟩ ⟨fun _=>⟨rfl,rfl⟩,fun _ h=>h⟩ (gh0 F) _ w hk)) fun e a' w' hq=>?_
 obtain⟨σ',g',h1,h2⟩:=hq
 have hret:zeY P σ' fn.results.toList=some res->a'.defers=[]/\∃ v,(results fn a'.tmps).run P w' = .ok v w'/\∃ u,Ending.returned v = .returned u/\zch w' (fun b o=>F b o\/(w.heap.size<=b/\b<w'.heap.size)) res u/\Below w.heap.size w w':=fun hr=>by
  obtain⟨v,h3,h4⟩:=h2.results hr
  exact⟨h2.defers,v,h3,v,rfl,h4.mono fun _ _=>zlH,⟨h2.below.os,h2.below.tape,h2.below.output,h2.below.size,fun k hk=>h2.below.block k hk id⟩⟩
 cases e with
 | normal=>exact hret h1
 | ret=>exact hret h1
 | exit | goto | panic | outgrown=>exact h1.elim
end
abbrev zCC (s:ByteArray) (t:Int × Int) (r:RdS) (acc:List (Int × Int)) (n i:Nat):St:=⟨[(0,.d (.raw (.string s))),(2,.box 0 0),(4,.box 901 0),(5,.box 2001 0),(9,.d (.raw (.int .i64 n))),(10,.d (.raw (.int .i64 i)))],[(0,some (obZ 0 ⟨#[]⟩ zxP (0,0) zxP ⟨#[]⟩ 0 ⟨#[]⟩)),(901,some (qrB r)),(2001,some (obZ 3 ⟨#[]⟩ zxP t (.grow 98 (zbw acc)) ⟨#[]⟩ 0 ⟨#[]⟩))],[(98,some ⟨2,42,i,none⟩)]⟩
theorem zzJ (s:ByteArray) (hb:s.size<=1048576) (h3:(rdI (s,false)).1=3):Con Tryz.prog 105 [.d (.raw (.string s))] (.tup [zcY (zqX s),.d (.raw (.int .i64 (ziN s)))]):=by
 have hI:=zcp (s,false) hb
 rw [h3] at hI
 have hs1:=zdP (r:=(s,false)) hb
 have hob:zgs s=(let t:=rdG (rdI (s,false)).2;let n:=rdI t.2;let p:=zdO rdG n.1 n.2 [];let a:=rdT p.2;let i:=rdI a.2;let m:=rdT i.2;(obM t.1 p.1 a.1 i.1 m.1,m.2)):=by
  unfold zgs
  simp only
  rw [if_neg (by omega),if_pos h3]
 have hx:=znB s
 have ho:=znA s
 rw [hob] at hx ho
 simp only at hx ho
 clear hob
 generalize (rdI (s,false)).2=r1 at *
 have hD:=ziy r1 hs1
 have hs2:=zmn hs1
 have hrt:=zhJ r1
 generalize rdG r1=xt at *
 obtain⟨t,r2⟩:=xt
 simp only at hx ho hD hs2 hrt
 have hN:=zcp r2 hs2
 have hs3:=zdP hs2
 have hnl:=zzB r2
 generalize rdI r2=xn at *
 obtain⟨n,r0⟩:=xn
 simp only at hx ho hN hs3 hnl
 refine zDx Tryz.func105 rfl (by decide +kernel) rfl rfl (by simp [Tryz.ntmps105]) fun A hA0 hY=>?_
 obtain⟨hA,hro⟩:=hA0
 rw [Tryz.ntmps105] at hA
 have z2:decide ((3:Int)=2)=false:=by decide
 have z3:decide ((3:Int)=3)=true:=by decide
 have hc3:(((3:Nat):Int))=3:=rfl
 refine goC 400 ?_
 simp only [go_sem,hA]
 refine zaA 1002 901 rfl (hY.1 _) rfl rfl _ (by simp only [go_sem];rfl) ?_
 refine gL [901] [] hI (fun pv h=>by cases h) fun res L' h=>?_
 cases h
 simp only [go_sem,hA,hc3,z2]
 refine gL [901] [] hD (fun pv h=>by cases h) fun res L' h=>?_
 cases h
 simp only [go_sem,hA]
 refine gL [901] [] hN (fun pv h=>by cases h) fun res L' h=>?_
 cases h
 simp only [go_sem,hA]
 refine zbG 98 2001 5 2 42 (by simp only [go_sem]) rfl rfl ?_
 simp only [go_sem,List.set]
 refine zc [0,2,4,5,9,10] [0,901,2001] [98] (fun y σ=>∃ (i:Nat) (acc:List (Int × Int)) (r:RdS),i<=n/\y=n - i/\acc.length=i/\r.1.size<=1048576/\(∀ e ∈ acc,zds e)/\zdO rdG n r0 []=zdO rdG (n - i) r acc/\σ=zCC s t r acc n i) n ⟨0,[],r0,by omega,by omega,rfl,hs3,fun e he=>(List.not_mem_nil he).elim,rfl,by simp only [go_sem];rfl⟩ ?_
 rintro y σ ⟨i,acc,r,hi,rfl,hal,hrs,hdg,hls,rfl⟩
 by_cases hlt:i<n
 ·have k1:decide ((i:Int)<(n:Int))=true:=decide_eq_true (by omega)
  obtain⟨rs,rb⟩:=r
  cases rb with
  | true=>
   have hni:n - i=(n - i - 1)+1:=by omega
   have hl2:zdO rdG (n - i) (rs,true) acc=(acc,(rs,true)):=by rw [hni,zdO,if_pos rfl]
   rw [hls,hl2] at hx ho
   simp only at hx ho
   have cA:=zfK (rs,true) hrs
   have sA:=zml hrs
   generalize rdT (rs,true)=xa at *
   obtain⟨a,r4⟩:=xa
   simp only at hx ho cA sA
   have cJ:=zcp r4 sA
   have sJ:=zdP sA
   generalize rdI r4=xj at *
   obtain⟨j,r5⟩:=xj
   simp only at hx ho cJ sJ
   have cM:=zfK r5 sJ
   generalize rdT r5=xm at *
   obtain⟨m,rs6,rb⟩:=xm
   simp only at hx ho cM
   have hE:=zeO (obM t acc a j m) (.inr (.inr ⟨t,acc,a,j,m,by omega,rfl⟩)) ⟨fun e he=>(List.not_mem_nil he).elim,hrt,hdg⟩
   refine goC 400 ?_
   simp only [go_sem,hA,zCC,obZ,k1]
   refine gL [901] [] cA (fun pv h=>by cases h) fun res L' h=>?_
   cases h
   simp only [go_sem,hA]
   refine gL [901] [] cJ (fun pv h=>by cases h) fun res L' h=>?_
   cases h
   simp only [go_sem,hA]
   refine gL [901] [] cM (fun pv h=>by cases h) fun res L' h=>?_
   cases h
   simp only [go_sem,hA]
   refine gC hE ?_ rfl (by simp only [go_sem];first | done | rfl)
   cases rb with
   | true=>
    rw [zhx] at hx
    rw [hx,if_neg (by decide)] at ho
    simp only [go_sem,hA,undef,ho,hx,Tryz.results105]
    rfl
   | false=>
    by_cases he:(zak (obM t acc a j m)).2=0
    ·have ze:(decide ¬ (zak (obM t acc a j m)).2=0)=false:=by simp [he]
     by_cases ht:(⟨(zak (obM t acc a j m)).1.toArray⟩:ByteArray)=s
     ·have zt:(decide ¬ (⟨(zak (obM t acc a j m)).1.toArray⟩:ByteArray)=s)=false:=by simp [ht]
      rw [zlN he ht] at hx
      rw [hx,if_pos rfl] at ho
      simp only [go_sem,hA,ze,zt,ho,hx,Tryz.results105]
      rfl
     ·have zt:(decide ¬ (⟨(zak (obM t acc a j m)).1.toArray⟩:ByteArray)=s)=true:=decide_eq_true ht
      rw [zlO ht] at hx
      rw [hx,if_neg (by decide)] at ho
      simp only [go_sem,hA,ze,zt,ho,hx,Tryz.results105]
      rfl
    ·have ze:(decide ¬ (zak (obM t acc a j m)).2=0)=true:=decide_eq_true he
     rw [zjL he] at hx
     rw [hx,if_neg (by decide)] at ho
     simp only [go_sem,hA,ze,undef,ho,hx,Tryz.results105]
     rfl
  | false=>
   have hni:n - i=(n - (i+1))+1:=by omega
   have hstep:zdO rdG n r0 []=zdO rdG (n - (i+1)) (rdG (rs,false)).2 (acc++[(rdG (rs,false)).1]):=by
    rw [hls,hni,zdO,if_neg (by simp)]
   have cG:=ziy (rs,false) hrs
   have sG:=zmn hrs
   have rG:=zhJ (rs,false)
   generalize rdG (rs,false)=xg at *
   obtain⟨dg,rg⟩:=xg
   simp only at hstep cG sG rG
   have ea:zbw acc++[[.raw (.int .u64 dg.1),.raw (.int .u64 dg.2)]]=zbw (acc++[dg]):=zjK acc [dg]
   refine goC 51 ?_
   simp only [go_sem,hA,zCC,obZ,k1]
   refine zgn mixed ?_
   refine(show zfC _ _ _ (7+1) _ _ _ from ?_)
   refine zci 0 rfl hro (by kernel_rfl) (by kernel_rfl) (by kernel_rfl) (fun c σ h=>by rw [zgk] at h ⊢;exact h) rfl (by simp only [hA];rfl) ?_
   refine zci 2 rfl hro (by kernel_rfl) (by kernel_rfl) (by kernel_rfl) (fun c σ h=>by rw [zgk] at h ⊢;exact h) rfl (by simp only [hA];rfl) ?_
   refine zhb 1 3 (by kernel_rfl) ?_ ?_
   ·refine zbu 0 1 rfl rfl (by simp only [go_sem,List.getElem_toArray,List.getElem_cons_succ,List.getElem_cons_zero];first | done | rfl) trivial (fun h=>by cases h) (by show decide (_<A.N)=true;rw [hA];rfl) ?_
    simp only [go_sem,List.getElem_toArray,List.getElem_cons_succ,List.getElem_cons_zero]
    refine zao 3 (by kernel_rfl) (zfg [901] [] rfl rfl cG rfl rfl rfl (by simp only [go_sem];first | done | rfl) rfl (by show decide (_<A.N)=true;rw [hA];rfl) (fun res L' h=>?_) (fun pv h=>by cases h))
    cases h
    simp only [go_sem,List.getElem_toArray,List.getElem_cons_succ,List.getElem_cons_zero]
    refine zao 4 (by kernel_rfl) (zbu 22004 4 rfl rfl (by simp only [go_sem,List.getElem_toArray,List.getElem_cons_succ,List.getElem_cons_zero];first | done | rfl) trivial (fun _=>rfl) (by show decide (_<A.N)=true;rw [hA];rfl) ?_)
    simp only [go_sem,List.getElem_toArray,List.getElem_cons_succ,List.getElem_cons_zero]
    refine zao 5 (by kernel_rfl) (zbu 22005 5 rfl rfl (by simp only [go_sem,List.getElem_toArray,List.getElem_cons_succ,List.getElem_cons_zero];first | done | rfl) ?_ (fun _=>rfl) (by show decide (_<A.N)=true;rw [hA];rfl) ?_)
    ·exact⟨by rw [zF];exact hal,zcz [dg],fun r hr=>(zcz _ r hr).1,by rw [zF];omega⟩
    simp only [go_sem,List.getElem_toArray,List.getElem_cons_succ,List.getElem_cons_zero]
    refine zao 6 (by kernel_rfl) (zbu 0 6 rfl rfl (by simp only [go_sem,List.getElem_toArray,List.getElem_cons_succ,List.getElem_cons_zero];first | done | rfl) trivial (fun h=>by cases h) (by show decide (_<A.N)=true;rw [hA];rfl) ?_)
    simp only [go_sem,List.getElem_toArray,List.getElem_cons_succ,List.getElem_cons_zero]
    refine zao 7 (by kernel_rfl) (zbu 0 7 rfl rfl (by simp only [go_sem,List.getElem_toArray,List.getElem_cons_succ,List.getElem_cons_zero];first | done | rfl) trivial (fun h=>by cases h) rfl ?_)
    simp only [go_sem,List.getElem_toArray,List.getElem_cons_succ,List.getElem_cons_zero]
    refine zdt (by kernel_rfl) ?_
    refine goC 400 ?_
    simp only [go_sem,hA]
    exact⟨by unfold za;omega,n - (i+1),by omega,i+1,acc++[dg],rg,by omega,rfl,by simp [hal],sG,fun e he=>by
     rcases List.mem_append.1 he with h | h
     ·exact hdg e h
     ·rw [List.mem_singleton] at h;subst h;exact rG,hstep,by rw [ea];rfl⟩
   ·refine zfg [901] [] rfl rfl cG rfl rfl rfl (by simp only [go_sem,List.getElem_toArray,List.getElem_cons_succ,List.getElem_cons_zero];first | done | rfl) rfl (by show decide (_<A.N)=true;rw [hA];rfl) (fun res L' h=>?_) (fun pv h=>by cases h)
    cases h
    simp only [go_sem,List.getElem_toArray,List.getElem_cons_succ,List.getElem_cons_zero]
    refine zhb 1 4 (by kernel_rfl) ?_ ?_
    ·refine zbu 0 1 rfl rfl (by simp only [go_sem,List.getElem_toArray,List.getElem_cons_succ,List.getElem_cons_zero];first | done | rfl) trivial (fun h=>by cases h) (by show decide (_<A.N)=true;rw [hA];rfl) ?_
     simp only [go_sem,List.getElem_toArray,List.getElem_cons_succ,List.getElem_cons_zero]
     refine zao 4 (by kernel_rfl) (zbu 22004 4 rfl rfl (by simp only [go_sem,List.getElem_toArray,List.getElem_cons_succ,List.getElem_cons_zero];first | done | rfl) trivial (fun _=>rfl) (by show decide (_<A.N)=true;rw [hA];rfl) ?_)
     simp only [go_sem,List.getElem_toArray,List.getElem_cons_succ,List.getElem_cons_zero]
     refine zao 5 (by kernel_rfl) (zbu 22005 5 rfl rfl (by simp only [go_sem,List.getElem_toArray,List.getElem_cons_succ,List.getElem_cons_zero];first | done | rfl) ?_ (fun _=>rfl) (by show decide (_<A.N)=true;rw [hA];rfl) ?_)
     ·exact⟨by rw [zF];exact hal,zcz [dg],fun r hr=>(zcz _ r hr).1,by rw [zF];omega⟩
     simp only [go_sem,List.getElem_toArray,List.getElem_cons_succ,List.getElem_cons_zero]
     refine zao 6 (by kernel_rfl) (zbu 0 6 rfl rfl (by simp only [go_sem,List.getElem_toArray,List.getElem_cons_succ,List.getElem_cons_zero];first | done | rfl) trivial (fun h=>by cases h) (by show decide (_<A.N)=true;rw [hA];rfl) ?_)
     simp only [go_sem,List.getElem_toArray,List.getElem_cons_succ,List.getElem_cons_zero]
     refine zao 7 (by kernel_rfl) (zbu 0 7 rfl rfl (by simp only [go_sem,List.getElem_toArray,List.getElem_cons_succ,List.getElem_cons_zero];first | done | rfl) trivial (fun h=>by cases h) rfl ?_)
     simp only [go_sem,List.getElem_toArray,List.getElem_cons_succ,List.getElem_cons_zero]
     refine zdt (by kernel_rfl) ?_
     refine goC 400 ?_
     simp only [go_sem,hA]
     exact⟨by unfold za;omega,n - (i+1),by omega,i+1,acc++[dg],rg,by omega,rfl,by simp [hal],sG,fun e he=>by
      rcases List.mem_append.1 he with h | h
      ·exact hdg e h
      ·rw [List.mem_singleton] at h;subst h;exact rG,hstep,by rw [ea];rfl⟩
    ·refine zbu 22004 4 rfl rfl (by simp only [go_sem,List.getElem_toArray,List.getElem_cons_succ,List.getElem_cons_zero];first | done | rfl) trivial (fun _=>rfl) (by show decide (_<A.N)=true;rw [hA];rfl) ?_
     simp only [go_sem,List.getElem_toArray,List.getElem_cons_succ,List.getElem_cons_zero]
     refine zao 1 (by kernel_rfl) (zbu 0 1 rfl rfl (by simp only [go_sem,List.getElem_toArray,List.getElem_cons_succ,List.getElem_cons_zero];first | done | rfl) trivial (fun h=>by cases h) (by show decide (_<A.N)=true;rw [hA];rfl) ?_)
     simp only [go_sem,List.getElem_toArray,List.getElem_cons_succ,List.getElem_cons_zero]
     refine zao 5 (by kernel_rfl) (zbu 22005 5 rfl rfl (by simp only [go_sem,List.getElem_toArray,List.getElem_cons_succ,List.getElem_cons_zero];first | done | rfl) ?_ (fun _=>rfl) (by show decide (_<A.N)=true;rw [hA];rfl) ?_)
     ·exact⟨by rw [zF];exact hal,zcz [dg],fun r hr=>(zcz _ r hr).1,by rw [zF];omega⟩
     simp only [go_sem,List.getElem_toArray,List.getElem_cons_succ,List.getElem_cons_zero]
     refine zao 6 (by kernel_rfl) (zbu 0 6 rfl rfl (by simp only [go_sem,List.getElem_toArray,List.getElem_cons_succ,List.getElem_cons_zero];first | done | rfl) trivial (fun h=>by cases h) (by show decide (_<A.N)=true;rw [hA];rfl) ?_)
     simp only [go_sem,List.getElem_toArray,List.getElem_cons_succ,List.getElem_cons_zero]
     refine zao 7 (by kernel_rfl) (zbu 0 7 rfl rfl (by simp only [go_sem,List.getElem_toArray,List.getElem_cons_succ,List.getElem_cons_zero];first | done | rfl) trivial (fun h=>by cases h) rfl ?_)
     simp only [go_sem,List.getElem_toArray,List.getElem_cons_succ,List.getElem_cons_zero]
     refine zdt (by kernel_rfl) ?_
     refine goC 400 ?_
     simp only [go_sem,hA]
     exact⟨by unfold za;omega,n - (i+1),by omega,i+1,acc++[dg],rg,by omega,rfl,by simp [hal],sG,fun e he=>by
      rcases List.mem_append.1 he with h | h
      ·exact hdg e h
      ·rw [List.mem_singleton] at h;subst h;exact rG,hstep,by rw [ea];rfl⟩
 ·have k1:decide ((i:Int)<(n:Int))=false:=decide_eq_false (by omega)
  obtain⟨rs,rb0⟩:=r
  have hni:n - i=0:=by omega
  have hl2:zdO rdG (n - i) (rs,rb0) acc=(acc,(rs,rb0)):=by rw [hni,zdO]
  rw [hls,hl2] at hx ho
  simp only at hx ho
  have cA:=zfK (rs,rb0) hrs
  have sA:=zml hrs
  generalize rdT (rs,rb0)=xa at *
  obtain⟨a,r4⟩:=xa
  simp only at hx ho cA sA
  have cJ:=zcp r4 sA
  have sJ:=zdP sA
  generalize rdI r4=xj at *
  obtain⟨j,r5⟩:=xj
  simp only at hx ho cJ sJ
  have cM:=zfK r5 sJ
  generalize rdT r5=xm at *
  obtain⟨m,rs6,rb⟩:=xm
  simp only at hx ho cM
  have hE:=zeO (obM t acc a j m) (.inr (.inr ⟨t,acc,a,j,m,by omega,rfl⟩)) ⟨fun e he=>(List.not_mem_nil he).elim,hrt,hdg⟩
  refine goC 400 ?_
  simp only [go_sem,hA,zCC,obZ,k1,undef]
  refine gL [901] [] cA (fun pv h=>by cases h) fun res L' h=>?_
  cases h
  simp only [go_sem,hA]
  refine gL [901] [] cJ (fun pv h=>by cases h) fun res L' h=>?_
  cases h
  simp only [go_sem,hA]
  refine gL [901] [] cM (fun pv h=>by cases h) fun res L' h=>?_
  cases h
  simp only [go_sem,hA]
  refine gC hE ?_ rfl (by simp only [go_sem];first | done | rfl)
  cases rb with
  | true=>
   rw [zhx] at hx
   rw [hx,if_neg (by decide)] at ho
   simp only [go_sem,hA,undef,ho,hx,Tryz.results105]
   rfl
  | false=>
   by_cases he:(zak (obM t acc a j m)).2=0
   ·have ze:(decide ¬ (zak (obM t acc a j m)).2=0)=false:=by simp [he]
    by_cases ht:(⟨(zak (obM t acc a j m)).1.toArray⟩:ByteArray)=s
    ·have zt:(decide ¬ (⟨(zak (obM t acc a j m)).1.toArray⟩:ByteArray)=s)=false:=by simp [ht]
     rw [zlN he ht] at hx
     rw [hx,if_pos rfl] at ho
     simp only [go_sem,hA,ze,zt,ho,hx,Tryz.results105]
     rfl
    ·have zt:(decide ¬ (⟨(zak (obM t acc a j m)).1.toArray⟩:ByteArray)=s)=true:=decide_eq_true ht
     rw [zlO ht] at hx
     rw [hx,if_neg (by decide)] at ho
     simp only [go_sem,hA,ze,zt,ho,hx,Tryz.results105]
     rfl
   ·have ze:(decide ¬ (zak (obM t acc a j m)).2=0)=true:=decide_eq_true he
    rw [zjL he] at hx
    rw [hx,if_neg (by decide)] at ho
    simp only [go_sem,hA,ze,undef,ho,hx,Tryz.results105]
    rfl
theorem zuF (s:ByteArray) (hb:s.size<=1048576):Con Tryz.prog 105 [.d (.raw (.string s))] (.tup [zcY (zqX s),.d (.raw (.int .i64 (ziN s)))]):=by
 by_cases h2:(rdI (s,false)).1=2
 ·exact zzH s hb h2
 ·by_cases h3:(rdI (s,false)).1=3
  ·exact zzJ s hb h3
  ·exact zzI s hb h2 h3
theorem zmm {α:Type} (ok:α->Prop) (f:RdS->α × RdS) (hf:∀ r,ok (f r).1):∀ (n:Nat) (r:RdS) (acc:List α),(∀ x ∈ acc,ok x)->∀ x ∈ (zdO f n r acc).1,ok x
 | 0,_,_,h=>h
 | n+1,r,acc,h=>by
  rw [zdO]
  split
  ·exact h
  ·refine zmm ok f hf n _ _ fun x hx=>?_
   rcases List.mem_append.1 hx with h1 | h1
   ·exact h x h1
   ·rw [List.mem_singleton] at h1;subst h1;exact hf r
theorem zzA (s:ByteArray):(zgs s).1.Rng:=by
 unfold zgs
 simp only
 split
 ·exact⟨zmm (fun e=>zds e.dg) rdN (fun r=>zhJ _) _ _ [] fun x hx=>(List.not_mem_nil hx).elim,zdx,fun e he=>(List.not_mem_nil he).elim⟩
 ·split
  ·exact⟨fun e he=>(List.not_mem_nil he).elim,zhJ _,zmm zds rdG (fun r=>zhJ _) _ _ [] fun x hx=>(List.not_mem_nil hx).elim⟩
  ·exact⟨fun e he=>(List.not_mem_nil he).elim,zdx,fun e he=>(List.not_mem_nil he).elim⟩
theorem zDu {s:ByteArray} (h:ziN s=0):(zqX s).Good/\(zqX s).Rng/\s=⟨(obL (zqX s)).toArray⟩:=by
 have ho:zqX s=(zgs s).1:=if_pos h
 rw [ho]
 unfold ziN at h
 split at h
 ·cases h
 ·rename_i hn
  have h1:(zak (zgs s).1).2=0:=Decidable.not_not.1 fun e=>hn (.inr (.inl e))
  have h2:s=⟨(zak (zgs s).1).1.toArray⟩:=Decidable.not_not.1 fun e=>hn (.inr (.inr e))
  have hr:=zzA s
  generalize (zgs s).1=o at *
  unfold zak at h1 h2
  split at h1
  ·rename_i h3;exact absurd h1 h3
  ·rename_i h3
   split at h1
   ·cases h1
   ·rename_i h4
    rw [if_neg h3,if_neg h4] at h2
    exact⟨⟨Decidable.not_not.1 h3,by omega⟩,hr,h2⟩
end
section
open Go Go.RowKit Go.Shelf
def zL (b:Bool):List UInt8:=zb (if b then 1 else 0)
mutual
def exP:Ex->List UInt8
 | .mk k n m i d s=>zb k.toNat++(zi n++(zi m++(zL (decide (i<0))++(zb i.natAbs++(zb d.toNat++(zb s.length++zqS s))))))
def zqS:List Ex->List UInt8
 | []=>[]
 | e :: es=>exP e++zqS es
end
theorem zvx (t:Ex):exP t=zb t.kind.toNat++(zi t.name++(zi t.more++(zL (decide (t.int<0))++(zb t.int.natAbs++(zb t.den.toNat++(zb t.sub.length++zqS t.sub)))))):=by cases t;rw [exP];rfl
theorem zfV:∀ l:List Ex,zqS l=l.flatMap exP
 | []=>by rw [zqS];rfl
 | e :: es=>by rw [zqS,zfV es,List.flatMap_cons]
def inM (n:Int):Prop:=0<=n/\n<=1099511627776
def zfc:Nat->Ex->Prop
 | 0,_=>False
 | k+1,t=>inM t.kind/\t.name.size<=65536/\t.more.size<=65536/\t.int.natAbs<=1099511627776/\inM t.den/\t.sub.length<=1048576/\∀ x ∈ t.sub,zfc k x
def dcP (d:Dc):List UInt8:=zb d.id.toNat++(zb d.kind.toNat++(zL d.pub++(zaQ d.names++(zL d.doubt++exP d.body))))
def zjD (l:List ByteArray):Prop:=l.length<=1000/\∀ s ∈ l,s.size<=65536
def zjE (d:Dc):Prop:=inM d.id/\inM d.kind/\zjD d.names/\zfc 40 d.body
def moP (x:Mo):List UInt8:=zi x.label++(zaQ x.uses++(zb x.decls.length++x.decls.flatMap dcP))
def zyf (x:Mo):Prop:=x.label.size<=65536/\zjD x.uses/\x.decls.length<=1048576/\∀ d ∈ x.decls,zjE d
def flP (x:Fl):List UInt8:=zi x.path++zi x.data
def zAE (x:Fl):Prop:=x.path.size<=65536/\x.data.size<=65536
def tcP (x:Tc):List UInt8:=zi x.path++(zL x.inB++(zL x.inL++(zL x.inR++(zi x.base++(zi x.left++zi x.right)))))
def zAF (x:Tc):Prop:=x.path.size<=65536/\x.base.size<=65536/\x.left.size<=65536/\x.right.size<=65536
def mgP (m:Mg):List UInt8:=zb m.ms.length++(m.ms.flatMap moP++(zb m.fs.length++(m.fs.flatMap flP++(zb m.ts.length++m.ts.flatMap tcP))))
structure Mg.Fit (m:Mg):Prop where
 ml:m.ms.length<=1048576
 fl:m.fs.length<=1048576
 tl:m.ts.length<=1048576
 ms:∀ x ∈ m.ms,zyf x
 fs:∀ x ∈ m.fs,zAE x
 ts:∀ x ∈ m.ts,zAF x
def Cut {α:Type} (ok:α->Prop) (f:α->List UInt8):Prop:=∀ a b s t,ok a->ok b->f a++s=f b++t->a=b/\s=t
theorem znD:Cut (· <= 1099511627776) zb:=fun a b s t ha hb h=>by
 have h1:=zfT ha s
 have h2:=zfT hb t
 rw [h] at h1
 rw [h1] at h2
 obtain rfl:a=b:=congrArg (·.1) h2
 exact⟨rfl,List.append_cancel_left h⟩
theorem zhy:Cut (·.size<=65536) zi:=fun a b s t ha hb h=>by
 have h1:=zhp ha s
 have h2:=zhp hb t
 rw [h] at h1
 rw [h1] at h2
 obtain rfl:a=b:=congrArg (·.1) h2
 exact⟨rfl,List.append_cancel_left h⟩
theorem zpw:Cut (fun _=>True) zL:=fun a b s t _ _ h=>by
 have h1:=znD _ _ s t (by split <;> decide) (by split <;> decide) h
 refine⟨?_,h1.2⟩
 have:=h1.1
 cases a <;> cases b <;> simp_all
theorem ztt {α:Type} {ok:α->Prop} {f:α->List UInt8} (hf:Cut ok f):∀ (a b:List α) (s t:List UInt8),a.length=b.length->(∀ x ∈ a,ok x)->(∀ x ∈ b,ok x)->a.flatMap f++s=b.flatMap f++t->a=b/\s=t
 | [],[],s,t,_,_,_,h=>⟨rfl,h⟩
 | [],_ :: _,_,_,h,_,_,_=>by cases h
 | _ :: _,[],_,_,h,_,_,_=>by cases h
 | x :: a,y :: b,s,t,hl,ha,hb,h=>by
  rw [List.flatMap_cons,List.flatMap_cons,List.append_assoc,List.append_assoc] at h
  obtain⟨h1,h2⟩:=hf x y _ _ (ha x (.head _)) (hb y (.head _)) h
  obtain⟨h3,h4⟩:=ztt hf a b s t (by simpa using hl) (fun z hz=>ha z (.tail _ hz)) (fun z hz=>hb z (.tail _ hz)) h2
  exact⟨by rw [h1,h3],h4⟩
theorem zge {α:Type} {ok:α->Prop} {f:α->List UInt8} (hf:Cut ok f):Cut (fun l:List α=>l.length<=1048576/\∀ x ∈ l,ok x) fun l=>zb l.length++l.flatMap f:=fun a b s t ha hb h=>by
 simp only [List.append_assoc] at h
 obtain⟨h1,h2⟩:=znD _ _ _ _ (by have:=ha.1;show a.length<=_;omega) (by have:=hb.1;show b.length<=_;omega) h
 exact ztt hf a b s t h1 ha.2 hb.2 h2
theorem zBc:Cut zjD zaQ:=fun a b s t ha hb h=>by
 refine zge (f:=zi) zhy a b s t ⟨by have:=ha.1;omega,ha.2⟩ ⟨by have:=hb.1;omega,hb.2⟩ ?_
 exact h
theorem zqJ {a b:Int} (ha:inM a) (hb:inM b) (h:a.toNat=b.toNat):a=b:=by
 have:=ha.1;have:=hb.1;omega
theorem zcl {a:Int} (ha:inM a):a.toNat<=1099511627776:=by have:=ha.1;have:=ha.2;omega
theorem zEx:∀ k,Cut (zfc k) exP
 | 0=>fun a b s t ha _ _=>ha.elim
 | k+1=>fun a b s t ha hb h=>by
  obtain⟨a1,a2,a3,a4,a5,a6,a7⟩:=ha
  obtain⟨b1,b2,b3,b4,b5,b6,b7⟩:=hb
  cases a with
  | mk ka na ma ia da sa=>
  cases b with
  | mk kb nb mb ib db sb=>
  simp only [Ex.kind,Ex.name,Ex.more,Ex.int,Ex.den,Ex.sub] at a1 a2 a3 a4 a5 a6 a7 b1 b2 b3 b4 b5 b6 b7
  rw [exP,exP,zfV,zfV] at h
  simp only [List.append_assoc] at h
  obtain⟨h1,h⟩:=znD _ _ _ _ (zcl a1) (zcl b1) h
  obtain⟨h2,h⟩:=zhy _ _ _ _ a2 b2 h
  obtain⟨h3,h⟩:=zhy _ _ _ _ a3 b3 h
  obtain⟨h4,h⟩:=zpw _ _ _ _ trivial trivial h
  obtain⟨h5,h⟩:=znD _ _ _ _ a4 b4 h
  obtain⟨h6,h⟩:=znD _ _ _ _ (zcl a5) (zcl b5) h
  obtain⟨h7,hz⟩:=zge (zEx k) sa sb s t ⟨a6,a7⟩ ⟨b6,b7⟩ (by simpa using h)
  have h1':=zqJ a1 b1 h1
  have h6':=zqJ a5 b5 h6
  have h5':ia=ib:=by
   have:(ia<0 ↔ ib<0):=by simpa using h4
   omega
  subst h1' h2 h3 h5' h6' h7
  exact⟨rfl,hz⟩
theorem zGE:Cut zjE dcP:=fun a b s t ha hb h=>by
 obtain⟨a1,a2,a3,a4⟩:=ha
 obtain⟨b1,b2,b3,b4⟩:=hb
 unfold dcP at h
 simp only [List.append_assoc] at h
 obtain⟨h1,h⟩:=znD _ _ _ _ (zcl a1) (zcl b1) h
 obtain⟨h2,h⟩:=znD _ _ _ _ (zcl a2) (zcl b2) h
 obtain⟨h3,h⟩:=zpw _ _ _ _ trivial trivial h
 obtain⟨h4,h⟩:=zBc _ _ _ _ a3 b3 h
 obtain⟨h5,h⟩:=zpw _ _ _ _ trivial trivial h
 obtain⟨h6,hz⟩:=zEx 40 _ _ _ _ a4 b4 h
 have h1':=zqJ a1 b1 h1
 have h2':=zqJ a2 b2 h2
 cases a;cases b
 simp only at h1' h2' h3 h4 h5 h6
 subst h1' h2' h3 h4 h5 h6
 exact⟨rfl,hz⟩
theorem zGC:Cut zyf moP:=fun a b s t ha hb h=>by
 obtain⟨a1,a2,a3⟩:=ha
 obtain⟨b1,b2,b3⟩:=hb
 unfold moP at h
 simp only [List.append_assoc] at h
 obtain⟨h1,h⟩:=zhy _ _ _ _ a1 b1 h
 obtain⟨h2,h⟩:=zBc _ _ _ _ a2 b2 h
 obtain⟨h3,hz⟩:=zge zGE _ _ s t a3 b3 (by simpa using h)
 cases a;cases b
 simp only at h1 h2 h3
 subst h1 h2 h3
 exact⟨rfl,hz⟩
theorem zGD:Cut zAE flP:=fun a b s t ha hb h=>by
 unfold flP at h
 simp only [List.append_assoc] at h
 obtain⟨h1,h⟩:=zhy _ _ _ _ ha.1 hb.1 h
 obtain⟨h2,hz⟩:=zhy _ _ _ _ ha.2 hb.2 h
 cases a;cases b
 simp only at h1 h2
 subst h1 h2
 exact⟨rfl,hz⟩
theorem zGF:Cut zAF tcP:=fun a b s t ha hb h=>by
 obtain⟨a1,a2,a3,a4⟩:=ha
 obtain⟨b1,b2,b3,b4⟩:=hb
 unfold tcP at h
 simp only [List.append_assoc] at h
 obtain⟨h1,h⟩:=zhy _ _ _ _ a1 b1 h
 obtain⟨h2,h⟩:=zpw _ _ _ _ trivial trivial h
 obtain⟨h3,h⟩:=zpw _ _ _ _ trivial trivial h
 obtain⟨h4,h⟩:=zpw _ _ _ _ trivial trivial h
 obtain⟨h5,h⟩:=zhy _ _ _ _ a2 b2 h
 obtain⟨h6,h⟩:=zhy _ _ _ _ a3 b3 h
 obtain⟨h7,hz⟩:=zhy _ _ _ _ a4 b4 h
 cases a;cases b
 simp only at h1 h2 h3 h4 h5 h6 h7
 subst h1 h2 h3 h4 h5 h6 h7
 exact⟨rfl,hz⟩
theorem zCO {m n:Mg} (hm:m.Fit) (hn:n.Fit) (h:mgP m=mgP n):m=n:=by
 have h0:mgP m++[]=mgP n++[]:=by rw [h]
 unfold mgP at h0
 simp only [List.append_assoc] at h0
 obtain⟨h1,h0⟩:=zge zGC m.ms n.ms _ _ ⟨hm.ml,hm.ms⟩ ⟨hn.ml,hn.ms⟩ (by simpa using h0)
 obtain⟨h2,h0⟩:=zge zGD m.fs n.fs _ _ ⟨hm.fl,hm.fs⟩ ⟨hn.fl,hn.fs⟩ (by simpa using h0)
 obtain⟨h3,_⟩:=zge zGF m.ts n.ts [] [] ⟨hm.tl,hm.ts⟩ ⟨hn.tl,hn.ts⟩ (by simpa using h0)
 cases m;cases n
 simp only at h1 h2 h3
 subst h1 h2 h3
 rfl
end
end Go.Proofs.YtpnjjmcimjlfkaaGreatDoor
