/- Texts of this proof, part 24: what the proof uses of them. -/
import Derived.Test.YtpnjjmcimjlfkaaGreatDoorRaw
import Derived.Test.YtpnjjmcimjlfkaaGreatDoorRat
set_option maxRecDepth 100000
set_option maxHeartbeats 64000000
namespace Go.Proofs.YtpnjjmcimjlfkaaGreatDoor
section
open Go Go.RowKit Go.Shelf
theorem zwM (a b:Int):zfz a b<0 ↔ a<b:=by
 unfold zfz
 split
 ·rename_i h;simp [h]
 ·rename_i h
  split <;> simp [h]
theorem zjM (a b:Int):zfz a b=0 ↔ a=b:=by
 unfold zfz
 split
 ·constructor
  ·intro h;cases h
  ·intro h;omega
 ·split
  ·constructor
   ·intro h;cases h
   ·intro h;omega
  ·constructor
   ·intro _;omega
   ·intro _;rfl
def ltG (a b:Int × Int):Prop:=a.1<b.1\/a.1=b.1/\a.2<b.2
theorem zrb (a b:Int × Int):zcI a b<0 ↔ ltG a b:=by
 unfold zcI ltG
 by_cases h:zfz a.1 b.1=0
 ·rw [if_pos h,zwM]
  have:=(zjM ..).1 h
  omega
 ·rw [if_neg h,zwM]
  have:¬ a.1=b.1:=fun e=>h ((zjM ..).2 e)
  omega
theorem zrc (a b:Int × Int):zcI a b=0 ↔ a=b:=by
 unfold zcI
 by_cases h:zfz a.1 b.1=0
 ·rw [if_pos h,zjM]
  exact⟨fun h2=>Prod.ext ((zjM ..).1 h) h2,fun e=>by rw [e]⟩
 ·rw [if_neg h]
  exact⟨fun h2=>absurd h2 h,fun e=>absurd ((zjM ..).2 (by rw [e])) h⟩
theorem zko {a b c:Int × Int} (h:ltG a b) (h':ltG b c):ltG a c:=by unfold ltG at *;omega
theorem ziE (a:Int × Int):¬ ltG a a:=by unfold ltG;omega
theorem zET {a b:Int × Int} (h:¬ ltG a b) (h':a≠b):ltG b a:=by
 have h2:¬ (a.1=b.1/\a.2=b.2):=fun e=>h' (Prod.ext e.1 e.2)
 unfold ltG at *
 omega
def zvQ (p:List It):Prop:=p.Pairwise fun x y=>ltG x.dg y.dg
def zsP (p:List It) (d:Int × Int) (h:Nat):Bool:=match p[h]? with
 | some x=>decide (zcI x.dg d<0)
 | none=>false
def zau (p:List It) (d:Int × Int):Nat:=bsR (zsP p d) p.length 0 p.length
def ziI (p:List It) (d:Int × Int):Bool:=match p[zau p d]? with
 | some x=>decide (zcI x.dg d=0)
 | none=>false
theorem zoQ (p:List It) (d:Int × Int):zau p d<=p.length:=(zrl _ _ _ _ (Nat.zero_le _)).2
theorem zfk {p:List It} (h:zvQ p) (d:Int × Int) (q:Nat) (hq:q<p.length):q<zau p d ↔ ltG p[q].dg d:=by
 have hlt:∀ i (hi:i<p.length),(zsP p d i=true ↔ ltG p[i].dg d):=fun i hi=>by
  unfold zsP
  rw [List.getElem?_eq_getElem hi]
  simp only [decide_eq_true_eq]
  exact zrb _ _
 obtain⟨h1,h2⟩:=znM (zsP p d) p.length (fun i j hij hj hh=>by
  rcases Nat.lt_or_ge i j with h1 | h1
  ·exact(hlt i (by omega)).2 (zko (List.pairwise_iff_getElem.1 h i j (by omega) hj h1) ((hlt j hj).1 hh))
  ·have:i=j:=by omega
   subst this;exact hh) p.length 0 p.length (Nat.zero_le _) (Nat.le_refl _) (Nat.le_refl _) (fun q hq=>by omega) (fun q hq hqn=>by omega)
 constructor
 ·intro hp;exact(hlt q hq).1 (h1 q hp)
 ·intro hp
  rcases Nat.lt_or_ge q (zau p d) with h3 | h3
  ·exact h3
  ·have:=h2 q h3 hq
   rw [(hlt q hq).2 hp] at this
   cases this
theorem zxw {p:List It} (h:zvQ p) (i:Nat) (hi:i<p.length):zau p p[i].dg=i:=by
 have h1:¬ i<zau p p[i].dg:=fun h2=>ziE _ ((zfk h _ i hi).1 h2)
 rcases Nat.lt_or_ge (zau p p[i].dg) i with h2 | h2
 ·exact absurd ((zfk h _ (zau p p[i].dg) (by omega)).2 (List.pairwise_iff_getElem.1 h _ i (by omega) hi h2)) (Nat.lt_irrefl _)
 ·omega
theorem zni {p:List It} (h:zvQ p) {x:It} (hx:x ∈ p):zau p x.dg<p.length/\zgJ p (zau p x.dg)=x/\ziI p x.dg=true:=by
 obtain⟨i,hi,rfl⟩:=List.mem_iff_getElem.1 hx
 have e:=zxw h i hi
 refine⟨by omega,by rw [e];exact zeb p i hi,?_⟩
 unfold ziI
 rw [e,List.getElem?_eq_getElem hi]
 simp only [decide_eq_true_eq]
 exact(zrc _ _).2 rfl
theorem zqL {p:List It} {d:Int × Int} (h:ziI p d=true):zau p d<p.length/\(zgJ p (zau p d)).dg=d/\zgJ p (zau p d) ∈ p:=by
 unfold ziI at h
 split at h
 ·rename_i x hx
  obtain⟨h1,h2⟩:=List.getElem?_eq_some_iff.1 hx
  have h3:zgJ p (zau p d)=x:=by rw [zeb p _ h1];exact h2
  refine⟨h1,?_,?_⟩
  ·rw [h3];exact(zrc _ _).1 (by simpa using h)
  ·rw [h3,<- h2];exact List.getElem_mem _
 ·cases h
def zou (p:List It) (x:It):List It:=p.take (zau p x.dg)++x :: p.drop (zau p x.dg)
theorem zng {p:List It} {x y:It}:y ∈ zou p x ↔ y ∈ p\/y=x:=by
 unfold zou
 rw [List.mem_append,List.mem_cons]
 constructor
 ·rintro (h | h | h)
  ·exact .inl (List.mem_of_mem_take h)
  ·exact .inr h
  ·exact .inl (List.mem_of_mem_drop h)
 ·rintro (h | h)
  ·rw [<- List.take_append_drop (zau p x.dg) p] at h
   rcases List.mem_append.1 h with h | h
   ·exact .inl h
   ·exact .inr (.inr h)
  ·exact .inr (.inl h)
theorem zAq (p:List It) (x:It):(zou p x).length=p.length+1:=by
 have:=zoQ p x.dg
 unfold zou
 rw [List.length_append,List.length_cons,List.length_take,List.length_drop];omega
theorem zAr {p:List It} (h:zvQ p) (x:It) (hn:ziI p x.dg=false):zvQ (zou p x):=by
 have hne:∀ y ∈ p,y.dg≠x.dg:=fun y hy e=>by
  have:=(zni h hy).2.2
  rw [e,hn] at this;cases this
 unfold zou zvQ
 refine List.pairwise_append.2 ⟨h.sublist (List.take_sublist _ _),List.pairwise_cons.2 ⟨fun y hy=>?_,h.sublist (List.drop_sublist _ _)⟩,fun y hy z hz=>?_⟩
 ·obtain⟨j,hj,rfl⟩:=List.mem_iff_getElem.1 hy
  rw [List.length_drop] at hj
  rw [List.getElem_drop]
  have h1:¬ ltG p[zau p x.dg+j].dg x.dg:=fun h2=>by have:=(zfk h x.dg _ (by omega)).2 h2;omega
  exact zET h1 (hne _ (List.getElem_mem _))
 ·obtain⟨j,hj,rfl⟩:=List.mem_iff_getElem.1 hy
  rw [List.length_take] at hj
  have h1:ltG (p.take (zau p x.dg))[j].dg x.dg:=by
   rw [List.getElem_take]
   exact(zfk h x.dg j (by omega)).1 (by omega)
  rcases List.mem_cons.1 hz with rfl | hz
  ·exact h1
  ·obtain⟨k,hk,rfl⟩:=List.mem_iff_getElem.1 hz
   rw [List.length_drop] at hk
   rw [List.getElem_drop,List.getElem_take]
   exact List.pairwise_iff_getElem.1 h j _ (by omega) (by omega) (by omega)
def zcB (p:List It) (x:It):List It × Int:=if ziI p x.dg=true then (if (zgJ p (zau p x.dg)).data=x.data then (p,0) else ([],16)) else (zou p x,0)
def zEj (x:It):Prop:=∃ o:Ob,o.Good/\o.Rng/\x.data=⟨(obL o).toArray⟩/\ofD x.data.data.toList=x.dg
structure PoolOk (p:List It):Prop where
 asc:zvQ p
 ok:∀ x ∈ p,zEj x
theorem zEe {p:List It} (h:PoolOk p) {x:It} (hx:zEj x) (h0:(zcB p x).2=0):PoolOk (zcB p x).1/\x ∈ (zcB p x).1/\(∀ y ∈ p,y ∈ (zcB p x).1)/\(zcB p x).1.length<=p.length+1:=by
 unfold zcB at h0 ⊢
 cases hh:ziI p x.dg with
 | true=>
  rw [hh] at h0
  rw [if_pos rfl] at h0 ⊢
  by_cases hd:(zgJ p (zau p x.dg)).data=x.data
  ·rw [if_pos hd]
   obtain⟨h1,h2,h3⟩:=zqL hh
   have e:zgJ p (zau p x.dg)=x:=by
    generalize hy:zgJ p (zau p x.dg)=y at hd h2
    cases y;cases x;simp only at hd h2;subst hd h2;rfl
   exact⟨h,e ▸ h3,fun y hy=>hy,by simp⟩
  ·rw [if_neg hd] at h0;cases h0
 | false=>
  rw [if_neg (by simp)]
  refine⟨⟨zAr h.asc x hh,fun y hy=>?_⟩,zng.2 (.inr rfl),fun y hy=>zng.2 (.inl hy),by simp [zAq]⟩
  rcases zng.1 hy with hy | rfl
  ·exact h.ok y hy
  ·exact hx
theorem zBZ {p:List It} {x:It} (h0:¬ (zcB p x).2=0):(zcB p x).1=[]/\(zcB p x).2=16:=by
 unfold zcB at h0 ⊢
 split
 ·split
  ·rename_i h1 h2;rw [if_pos h1,if_pos h2] at h0;exact absurd rfl h0
  ·exact⟨rfl,rfl⟩
 ·rename_i h1;rw [if_neg h1] at h0;exact absurd rfl h0
theorem zBY {p:List It} (h:PoolOk p) {x y:It} (hx:x ∈ p) (he:y.dg=x.dg) (h0:(zcB p y).2=0):y=x:=by
 obtain⟨h1,h2,h3⟩:=zni h.asc hx
 unfold zcB at h0
 rw [he,if_pos h3,h2] at h0
 by_cases hd:x.data=y.data
 ·cases x;cases y;simp only at hd he;subst hd he;rfl
 ·rw [if_neg hd] at h0;cases h0
theorem zzN {p:List It} (h:zsh p=0):PoolOk p:=by
 have h1:∀ q,q<p.length->itE p q=0:=zbn h
 have h2:∀ q (hq:q<p.length),ziN p[q].data=0/\ofD p[q].data.data.toList=p[q].dg/\(0<q->zcI (zgJ p (q - 1)).dg p[q].dg<0):=fun q hq=>by
  have h3:=h1 q hq
  unfold itE at h3
  rw [zeb p q hq] at h3
  split at h3
  ·cases h3
  rename_i h4
  split at h3
  ·cases h3
  rename_i h5
  split at h3
  ·cases h3
  rename_i h6
  exact⟨Decidable.not_not.1 h4,Decidable.not_not.1 h5,fun h0=>by omega⟩
 refine⟨?_,fun x hx=>?_⟩
 ·refine List.pairwise_iff_getElem.2 fun i j hi hj hij=>?_
  induction j with
  | zero=>omega
  | succ j ih=>
   have h3:=(zrb _ _).1 ((h2 (j+1) hj).2.2 (by omega))
   rw [Nat.add_sub_cancel,zeb p j (by omega)] at h3
   by_cases e:i=j
   ·subst e;exact h3
   ·exact zko (ih (by omega) (by omega)) h3
 ·obtain⟨i,hi,rfl⟩:=List.mem_iff_getElem.1 hx
  obtain⟨h3,h4,_⟩:=h2 i hi
  obtain⟨h5,h6,h7⟩:=zDu h3
  exact⟨_,h5,h6,h7,h4⟩
def mgO (m:Mg):Ob:=⟨4,⟨(mgP m).toArray⟩,[],(0,0),[],⟨#[]⟩,0,⟨#[]⟩⟩
def mgI (m:Mg):It:=⟨ofD (obL (mgO m)),⟨(obL (mgO m)).toArray⟩⟩
theorem zkn (m:Mg):obL (mgO m)=zb 4++zi ⟨(mgP m).toArray⟩:=rfl
theorem zmY (m:Mg):(⟨(mgP m).toArray⟩:ByteArray).size=(mgP m).length:=by simp [ByteArray.size]
theorem zqx (m:Mg):(mgP m).length<=(obL (mgO m)).length:=by
 rw [zkn,zi,List.length_append,List.length_append]
 have:(⟨(mgP m).toArray⟩:ByteArray).data.toList=mgP m:=rfl
 rw [this];omega
theorem zsI {m:Mg} (h:¬ 65536<(obL (mgO m)).length):(mgO m).Good:=by
 have h1:=zqx m
 have h2:=zmY m
 refine⟨?_,by omega⟩
 have h3:zaV (mgO m)=if 65536<(⟨(mgP m).toArray⟩:ByteArray).size then 4 else 0:=by
  have:zjt (mgO m)=true:=rfl
  unfold zaV
  rw [this]
  rfl
 rw [h3,if_neg (by omega)]
theorem zws (m:Mg):(mgO m).Rng:=⟨fun _e he=>(List.not_mem_nil he).elim,zdx,fun _e he=>(List.not_mem_nil he).elim⟩
theorem zER {m:Mg} (h:¬ 65536<(obL (mgO m)).length):zEj (mgI m):=⟨mgO m,zsI h,zws m,rfl,rfl⟩
theorem zCP {m n:Mg} (hm:m.Fit) (hn:n.Fit) (h1:¬ 65536<(obL (mgO m)).length) (h2:¬ 65536<(obL (mgO n)).length) (h:mgI m=mgI n):m=n:=by
 have h3:(obL (mgO m))=obL (mgO n):=by
  have:=congrArg It.data h
  exact congrArg (fun b:ByteArray=>b.data.toList) this
 rw [zkn,zkn] at h3
 have h4:=List.append_cancel_left h3
 have l1:=zqx m
 have l2:=zqx n
 have h5:=(zhy ⟨(mgP m).toArray⟩ ⟨(mgP n).toArray⟩ [] [] (by show ByteArray.size _<=65536;rw [zmY];omega) (by show ByteArray.size _<=65536;rw [zmY];omega) (by rw [List.append_nil,List.append_nil];exact h4)).1
 exact zCO hm hn (congrArg (fun b:ByteArray=>b.data.toList) h5)
def ziz (p:List It) (m:Mg):List It × (Int × Int) × Int:=
 if 65536<(obL (mgO m)).length then ([],(0,0),4) else if ¬ (zcB p (mgI m)).2=0 then ([],(0,0),(zcB p (mgI m)).2) else ((zcB p (mgI m)).1,(mgI m).dg,0)
def zaz (p:List It) (m:Mg):List It × (Int × Int) × Int:=if ¬ zcE m=0 then ([],(0,0),zcE m) else ziz p m
theorem zub {p:List It} {m:Mg} (h:¬ (zaz p m).2.2=0):(zaz p m).1=[]/\(¬ zcE m=0\/(zaz p m).2.2=16\/(zaz p m).2.2=4):=by
 unfold zaz ziz at h ⊢
 split
 ·rename_i h1;exact⟨rfl,.inl h1⟩
 rename_i h1
 rw [if_neg h1] at h
 split
 ·exact⟨rfl,.inr (.inr rfl)⟩
 rename_i h2
 rw [if_neg h2] at h
 split
 ·rename_i h3;exact⟨rfl,.inr (.inl (zBZ h3).2)⟩
 ·rename_i h3;rw [if_neg h3] at h;exact absurd rfl h
theorem zoB {p:List It} {m:Mg} (hp:PoolOk p) (h:(zaz p m).2.2=0):zcE m=0/\¬ 65536<(obL (mgO m)).length/\(zcB p (mgI m)).2=0/\(zaz p m).2.1=(mgI m).dg/\(zaz p m).1=(zcB p (mgI m)).1/\PoolOk (zaz p m).1/\mgI m ∈ (zaz p m).1/\(∀ y ∈ p,y ∈ (zaz p m).1)/\(zaz p m).1.length<=p.length+1:=by
 have h1:zcE m=0:=Decidable.byContradiction fun h1=>by
  unfold zaz ziz at h;rw [if_pos h1] at h;exact h1 h
 have h2:¬ 65536<(obL (mgO m)).length:=fun h2=>by
  unfold zaz ziz at h;rw [if_neg (by simp [h1]),if_pos h2] at h;cases h
 have h3:(zcB p (mgI m)).2=0:=Decidable.byContradiction fun h3=>by
  unfold zaz ziz at h;rw [if_neg (by simp [h1]),if_neg h2,if_pos h3] at h;exact h3 h
 have e:zaz p m=((zcB p (mgI m)).1,(mgI m).dg,0):=by
  unfold zaz ziz;rw [if_neg (by simp [h1]),if_neg h2,if_neg (by simp [h3])]
 rw [e]
 obtain⟨g1,g2,g3,g4⟩:=zEe hp (zER h2) h3
 exact⟨h1,h2,h3,rfl,rfl,g1,g2,g3,g4⟩
def zlF (x:It):Bool:=decide (500<x.data.size)
def zdG (p:List It):Bool:=decide (40<p.length) || p.any zlF
abbrev zAC (l:List It) (q:Nat):St:=⟨[(0,.d (.sl (zaR l))),(3,.d (.raw (.int .i64 q)))],[],[]⟩
theorem zxn (l:List It):Con Tryz.prog 49 [.d (.sl (zaR l))] (.d (.raw (.bool (zdG l)))):=by
 refine kO Tryz.func49 Tryz.ntmps49 fun A hA=>?_
 refine goC 400 ?_
 by_cases h1:40<l.length
 ·have g1:decide ((40:Int)<(l.length:Int))=true:=decide_eq_true (by omega)
  have he:zdG l=true:=by unfold zdG;rw [decide_eq_true h1];rfl
  simp only [go_sem,hA,zy,g1,he,Tryz.results49]
 have g1:decide ((40:Int)<(l.length:Int))=false:=decide_eq_false (by omega)
 have he:zdG l=l.any zlF:=by unfold zdG;rw [decide_eq_false h1];rfl
 simp only [go_sem,hA,zy,g1]
 refine zc [0,3] [] [] (fun y σ=>∃ q:Nat,q<=l.length/\y=l.length - q/\(l.take q).any zlF=false/\σ=zAC l q) l.length ⟨0,by omega,by omega,rfl,by simp only [go_sem,zAC]⟩ ?_
 rintro y σ ⟨q,hq,rfl,hf,rfl⟩
 refine goC 400 ?_
 by_cases hlt:q<l.length
 ·have k1:decide ((q:Int)<(l.length:Int))=true:=decide_eq_true (by omega)
  by_cases h2:500<l[q].data.size
  ·have k2:decide ((500:Int)<(l[q].data.size:Int))=true:=decide_eq_true (by omega)
   rw [zgK hlt (decide_eq_true h2)] at he
   simp only [go_sem,hA,zAC,zy,k1,Int.toNat_natCast,zbt l q hlt,k2,he,Tryz.results49]
   exact⟨by omega,by omega⟩
  ·have k2:decide ((500:Int)<(l[q].data.size:Int))=false:=decide_eq_false (by omega)
   simp only [go_sem,hA,zAC,zy,k1,Int.toNat_natCast,zbt l q hlt,k2]
   exact⟨⟨by omega,by omega⟩,by unfold za;omega,l.length - (q+1),by omega,q+1,by omega,rfl,zcJ hlt hf (decide_eq_false h2),rfl⟩
 ·have k1:decide ((q:Int)<(l.length:Int))=false:=decide_eq_false (by omega)
  obtain rfl:q=l.length:=by omega
  rw [List.take_length] at hf
  rw [hf] at he
  simp only [go_sem,hA,zAC,zy,k1,he,Tryz.results49]
abbrev zDL (l:List It) (q:Nat):St:=⟨[(0,.d (.sl (zaR l))),(3,.d (.raw (.int .i64 q)))],[],[]⟩
theorem zxo (p:List It) (hp:p.length<=1048576) (hb:∀ x ∈ p,x.data.size<=1048576):Con Tryz.prog 50 [.d (.sl (zaR p))] (.d (.raw (.int .i64 (zsh p)))):=by
 refine kO Tryz.func50 Tryz.ntmps50 fun A hA=>?_
 have z0:(decide ¬ (0:Int)=0)=false:=by decide
 have hr0:zsh p=zH (itE p) p.length:=rfl
 refine goC 400 ?_
 simp only [go_sem,hA]
 refine zc [0,3] [] [] (fun y σ=>∃ q:Nat,q<=p.length/\y=p.length - q/\zH (itE p) q=0/\σ=zDL p q) p.length ⟨0,by omega,by omega,rfl,by simp only [go_sem,zDL]⟩ ?_
 rintro y σ ⟨q,hq,rfl,hf,rfl⟩
 refine goC 400 ?_
 by_cases hlt:q<p.length
 ·have k1:decide ((q:Int)<(p.length:Int))=true:=decide_eq_true (by omega)
  have hbq:=hb _ (List.getElem_mem hlt)
  have hfe:itE p q=if ¬ ziN p[q].data=0 then 13 else if ¬ ofD p[q].data.data.toList=p[q].dg then 15 else if 0<q/\0<=zcI (zgJ p (q - 1)).dg p[q].dg then 10 else 0:=by unfold itE;rw [zeb p q hlt]
  simp only [go_sem,hA,zDL,zy,k1,Int.toNat_natCast,zbt p q hlt]
  refine⟨⟨by omega,by omega⟩,?_⟩
  refine gC (zuF p[q].data hbq) ?_
  by_cases h1:ziN p[q].data=0
  case neg=>
   have g1:(decide ¬ ziN p[q].data=0)=true:=decide_eq_true h1
   rw [if_pos h1] at hfe
   rw [zS hf hlt (by rw [hfe];decide),hfe] at hr0
   simp only [go_sem,hA,g1,hr0,Tryz.results50]
  have g1:(decide ¬ ziN p[q].data=0)=false:=by simp [h1]
  rw [if_neg (by simp [h1])] at hfe
  simp only [go_sem,hA,g1,zy,Int.toNat_natCast,zbt p q hlt]
  refine⟨⟨by omega,by omega⟩,?_⟩
  refine gD (zFO p[q].data hbq) ?_
  by_cases h2:ofD p[q].data.data.toList=p[q].dg
  case neg=>
   have g2:(decide ((ofD p[q].data.data.toList).1=p[q].dg.1) && decide ((ofD p[q].data.data.toList).2=p[q].dg.2))=false:=by
    rw [Bool.and_eq_false_iff,decide_eq_false_iff_not,decide_eq_false_iff_not]
    by_cases e1:(ofD p[q].data.data.toList).1=p[q].dg.1
    ·exact .inr fun e2=>h2 (Prod.ext e1 e2)
    ·exact .inl e1
   rw [if_pos h2] at hfe
   rw [zS hf hlt (by rw [hfe];decide),hfe] at hr0
   simp only [go_sem,hA,zy,Int.toNat_natCast,zbt p q hlt,zT,g2,hr0,Tryz.results50]
   exact⟨⟨by omega,by omega⟩,by show chk _ _ _=true;kernel_rfl⟩
  have g2:(decide ((ofD p[q].data.data.toList).1=p[q].dg.1) && decide ((ofD p[q].data.data.toList).2=p[q].dg.2))=true:=by simp [h2]
  rw [if_neg (by simp [h2])] at hfe
  by_cases hq0:0<q
  ·have k2:decide ((0:Int)<(q:Int))=true:=decide_eq_true (by omega)
   have hq1:((q:Int) - 1).toNat=q - 1:=by omega
   have hin:za ((q:Int) - 1):=by unfold za;omega
   have hlt1:q - 1<p.length:=by omega
   rw [zeb p (q - 1) hlt1] at hfe
   simp only [go_sem,hA,zy,Int.toNat_natCast,zbt p q hlt,zT,g2,k2,hq1,zbt p (q - 1) hlt1,mixed]
   refine⟨⟨by omega,by omega⟩,by show chk _ _ _=true;kernel_rfl,hin,⟨by omega,by omega⟩,⟨by omega,by omega⟩,?_⟩
   refine gD (zCB p[q - 1].dg p[q].dg) ?_
   by_cases h3:0<=zcI p[q - 1].dg p[q].dg
   ·have k3:decide (0<=zcI p[q - 1].dg p[q].dg)=true:=decide_eq_true h3
    rw [if_pos ⟨hq0,h3⟩] at hfe
    rw [zS hf hlt (by rw [hfe];decide),hfe] at hr0
    simp only [go_sem,hA,k3,hr0,Tryz.results50]
    show chk _ _ _=true
    kernel_rfl
   ·have k3:decide (0<=zcI p[q - 1].dg p[q].dg)=false:=decide_eq_false h3
    rw [if_neg fun h=>h3 h.2] at hfe
    simp only [go_sem,hA,k3]
    exact⟨by show chk _ _ _=true;kernel_rfl,by unfold za;omega,p.length - (q+1),by omega,q+1,by omega,rfl,zX hf hfe,rfl⟩
  ·have k2:decide ((0:Int)<(q:Int))=false:=decide_eq_false (by omega)
   rw [if_neg fun h=>hq0 h.1] at hfe
   simp only [go_sem,hA,zy,Int.toNat_natCast,zbt p q hlt,zT,g2,k2,undef,mixed]
   exact⟨⟨by omega,by omega⟩,by show chk _ _ _=true;kernel_rfl,by show chk _ _ _=true;kernel_rfl,by unfold za;omega,p.length - (q+1),by omega,q+1,by omega,rfl,zX hf hfe,rfl⟩
 ·have k1:decide ((q:Int)<(p.length:Int))=false:=decide_eq_false (by omega)
  obtain rfl:q=p.length:=by omega
  rw [hf] at hr0
  simp only [go_sem,hA,zDL,zy,k1,hr0,Tryz.results50]
theorem zzg (p:List It):Con Tryz.prog 17 [.d (.sl (zaR p))] (.d (.raw (.bool (!zdG p && decide (zsh p=0))))):=by
 refine kO Tryz.func17 Tryz.ntmps17 fun A hA=>?_
 refine goC 400 ?_
 simp only [go_sem,hA]
 refine gC (zxn p) ?_
 cases hg:zdG p with
 | true=>simp only [go_sem,hA,undef,Bool.false_and,Tryz.results17]
 | false=>
  have hb:=hg
  unfold zdG at hb
  simp only [Bool.or_eq_false_iff,decide_eq_false_iff_not] at hb
  simp only [go_sem,hA]
  refine zaU 400 (zxo p (by omega) fun x hx=>by
   have:=zbV hb.2 hx
   simp only [zlF,decide_eq_false_iff_not] at this
   omega) rfl (by simp only [go_sem]) (by simp only [go_sem,hA]) ?_
  simp only [go_sem,hA,Tryz.results17]
theorem zyE {k it d:Int} {nm mr:ByteArray} {len:Nat} (h:zbe k nm mr it d len=0):inM k/\it.natAbs<=1099511627776/\inM d:=by
 unfold zbe at h
 cases hs:zbO k with
 | none=>rw [hs] at h;cases h
 | some s=>
  obtain⟨nn,nu,ns⟩:=s
  rw [hs] at h
  simp only at h
  split at h
  ·rename_i ha
   split at h
   ·have hr:zaM k it d=true:=by
     unfold zbz at h
     split at h
     ·assumption
     ·cases h
    simp only [zbg,Bool.and_eq_true,Bool.or_eq_true,decide_eq_true_eq] at ha
    unfold inM
    rcases zda hs with⟨rfl,e⟩ | ⟨rfl,e⟩ | ⟨rfl,e⟩ | ⟨rfl,e⟩ | ⟨rfl,e⟩ | ⟨rfl,e⟩ | ⟨rfl,e⟩ | ⟨rfl,e⟩ | ⟨rfl,e⟩ | ⟨rfl,e⟩ | ⟨rfl,e⟩ | ⟨rfl,e⟩ | ⟨rfl,e⟩ | ⟨rfl,e⟩ | ⟨rfl,e⟩ <;> cases e <;> simp [zaM] at hr <;> omega
   ·exact absurd h (by assumption)
  ·cases h
theorem zlj:∀ {l:List Ex},zcm l=0->∀ x ∈ l,zbI x=0
 | e :: es,h,x,hx=>by
  rw [zcm] at h
  split at h
  ·rename_i h1
   rcases List.mem_cons.1 hx with rfl | hx
   ·exact h1
   ·exact zlj h x hx
  ·exact absurd h (by assumption)
theorem zny:∀ {l:List Ex} {x:Ex},x ∈ l->zbU x<=zcP l
 | e :: es,x,h=>by
  rw [zcP]
  rcases List.mem_cons.1 h with rfl | h
  ·omega
  ·have:=zny h;omega
theorem zpd:∀ {l:List Ex},zfm l=false->∀ x ∈ l,zgO x=false
 | e :: es,h,x,hx=>by
  rw [zfm,Bool.or_eq_false_iff] at h
  rcases List.mem_cons.1 hx with rfl | hx
  ·exact h.1
  ·exact zpd h.2 x hx
theorem ztj:∀ (l:List Ex),(∀ x ∈ l,(exP x).length<=nodesE x * 242)->(zqS l).length<=nodesL l * 242
 | [],_=>by rw [zqS];exact Nat.zero_le _
 | e :: es,h=>by
  have h1:=h e (.head _)
  have h2:=ztj es fun x hx=>h x (.tail _ hx)
  rw [zqS,nodesL,List.length_append,Nat.add_mul];omega
theorem zmS:∀ l:List Ex,l.length<=nodesL l
 | []=>Nat.zero_le _
 | e :: es=>by have:=zmT e;have:=zmS es;rw [nodesL,List.length_cons];omega
theorem zcj {s:ByteArray} {n:Nat} (h:s.size<=n) (hn:n<=65536):(zi s).length<=n+6:=by
 have:=zbp (show s.size<=1099511627776 by omega)
 rw [zi,List.length_append,zas];omega
theorem zeA (b:Bool):(zL b).length<=6:=zbp (by split <;> decide)
theorem zEs:∀ (k:Nat) (t:Ex),zbI t=0->zbU t<=k->nodesE t<=400->zgO t=false->zfc k t/\(exP t).length<=nodesE t * 242
 | 0,t,_,h,_,_=>by rw [zyw] at h;omega
 | k+1,.mk kd n m i d s,hc,hd,hn,hl=>by
  rw [zbI] at hc
  split at hc
  ·rename_i h1
   rw [zgO] at hl
   simp only [Bool.or_eq_false_iff,decide_eq_false_iff_not] at hl
   obtain⟨⟨l1,l2⟩,l3⟩:=hl
   obtain⟨c1,c2,c3⟩:=zyE h1
   rw [nodesE] at hn
   rw [zbU] at hd
   have hsub:∀ x ∈ s,zfc k x/\(exP x).length<=nodesE x * 242:=fun x hx=>by
    have h2:=zny hx
    have h3:=zmR hx
    exact zEs k x (zlj hc x hx) (by omega) (by omega) (zpd l3 x hx)
   have hlen:=zmS s
   refine⟨⟨c1,by show n.size<=_;omega,by show m.size<=_;omega,c2,c3,by show s.length<=_;omega,fun x hx=>(hsub x hx).1⟩,?_⟩
   have e1:=ztj s fun x hx=>(hsub x hx).2
   have e2:=zcj (s:=n) (n:=100) (by omega) (by decide)
   have e3:=zcj (s:=m) (n:=100) (by omega) (by decide)
   have e4:=zeA (decide (i<0))
   have e5:=zbp (zcl c1)
   have e6:=zbp c2
   have e7:=zbp (zcl c3)
   have e8:=zbp (show s.length<=1099511627776 by omega)
   rw [exP,nodesE,Nat.add_mul]
   simp only [List.length_append]
   omega
  ·exact absurd hc (by assumption)
theorem zmr {l:List ByteArray} {n:Nat} (hn:n<=65536) (hl:l.length<=1000) (h:∀ s ∈ l,s.size<=n):(zaQ l).length<=6+l.length * (n+6):=by
 have h1:=zbp (show l.length<=1099511627776 by omega)
 have h2:=zdw (fun s:ByteArray=>zb s.size++s.data.toList) _ _ fun s hs=>zcj (h s hs) hn
 rw [zaQ,List.length_append];omega
theorem zFX {l:ByteArray} {d:Dc} (h:zcu l d=0) (hg:zdi d=false):zjE d/\(dcP d).length<=10300:=by
 obtain⟨h1,h2,h3,_,h5,_⟩:=ztF h
 obtain⟨h6,h7,h8⟩:=zyD h5
 simp only [zdi,zkx,Bool.or_eq_false_iff,decide_eq_false_iff_not] at hg
 obtain⟨⟨g1,g2,g3⟩,g4⟩:=hg
 have g5:∀ s ∈ d.names,s.size<=100:=fun s hs=>by
  have:=zbV g4 hs
  simp only [decide_eq_false_iff_not] at this
  omega
 obtain⟨e1,e2⟩:=zEs 40 d.body h8 h7 h6 g3
 have i1:inM d.id:=by unfold inM;omega
 have i2:inM d.kind:=by unfold inM;omega
 refine⟨⟨i1,i2,⟨by omega,fun s hs=>by have:=g5 s hs;omega⟩,e1⟩,?_⟩
 have p1:=zbp (zcl i1)
 have p2:=zbp (zcl i2)
 have p3:=zeA d.pub
 have p4:=zeA d.doubt
 have p5:=zmr (by decide) (by omega) g5
 unfold dcP
 simp only [List.length_append]
 omega
theorem zFW {x:Mo} (h:zdl x=0) (hg:zet x=false):zyf x/\(moP x).length<=84000:=by
 simp only [zet,zgB,zdH,Bool.or_eq_false_iff,decide_eq_false_iff_not] at hg
 obtain⟨g1,⟨g2,g3⟩,g4,g5⟩:=hg
 have g6:∀ s ∈ x.uses,s.size<=120:=fun s hs=>by
  have:=zbV g3 hs
  simp only [decide_eq_false_iff_not] at this
  omega
 have hd:∀ d ∈ x.decls,zjE d/\(dcP d).length<=10300:=fun d hd=>zFX (zBP h hd) (zbV g5 hd)
 refine⟨⟨by omega,⟨by omega,fun s hs=>by have:=g6 s hs;omega⟩,by omega,fun d h=>(hd d h).1⟩,?_⟩
 have p1:=zcj (s:=x.label) (n:=120) (by omega) (by decide)
 have p2:=zmr (by decide) (by omega) g6
 have p3:=zbp (show x.decls.length<=1099511627776 by omega)
 have p4:=zdw _ _ _ fun d h=>(hd d h).2
 unfold moP
 simp only [List.length_append]
 omega
theorem zwC {m:Mg} (h:zcE m=0) (hg:zfw m=false):m.Fit/\(mgP m).length<=400000:=by
 simp only [zfw,zfx,Bool.or_eq_false_iff,decide_eq_false_iff_not] at hg
 obtain⟨h1,⟨h2,h3⟩,h4,h5,h6⟩:=hg
 have hm:∀ x ∈ m.ms,zyf x/\(moP x).length<=84000:=fun x hx=>zFW (zwq h x hx) (zbV h5 hx)
 have hf:∀ x ∈ m.fs,zAE x/\(flP x).length<=332:=fun x hx=>by
  have:=zbV h3 hx
  simp only [zhR,Bool.or_eq_false_iff,decide_eq_false_iff_not] at this
  have p1:=zcj (s:=x.path) (n:=120) (by omega) (by decide)
  have p2:=zcj (s:=x.data) (n:=200) (by omega) (by decide)
  refine⟨⟨by omega,by omega⟩,?_⟩
  unfold flP
  rw [List.length_append];omega
 have ht:∀ x ∈ m.ts,zAF x/\(tcP x).length<=1100:=fun x hx=>by
  have:=zbV h6 hx
  simp only [zhQ,Bool.or_eq_false_iff,decide_eq_false_iff_not] at this
  have p1:=zcj (s:=x.path) (n:=120) (by omega) (by decide)
  have p2:=zcj (s:=x.base) (n:=300) (by omega) (by decide)
  have p3:=zcj (s:=x.left) (n:=300) (by omega) (by decide)
  have p4:=zcj (s:=x.right) (n:=300) (by omega) (by decide)
  have p5:=zeA x.inB
  have p6:=zeA x.inL
  have p7:=zeA x.inR
  refine⟨⟨by omega,by omega,by omega,by omega⟩,?_⟩
  unfold tcP
  simp only [List.length_append];omega
 refine⟨⟨by omega,by omega,by omega,fun x hx=>(hm x hx).1,fun x hx=>(hf x hx).1,fun x hx=>(ht x hx).1⟩,?_⟩
 have q1:=zdw _ _ _ fun x hx=>(hm x hx).2
 have q2:=zdw _ _ _ fun x hx=>(hf x hx).2
 have q3:=zdw _ _ _ fun x hx=>(ht x hx).2
 have p1:=zbp (show m.ms.length<=1099511627776 by omega)
 have p2:=zbp (show m.fs.length<=1099511627776 by omega)
 have p3:=zbp (show m.ts.length<=1099511627776 by omega)
 unfold mgP
 simp only [List.length_append]
 omega
end
section
open Go Go.RowKit Go.Shelf
attribute [local go_sem] Oper.semAt_some St.ren zhZ zgU AV.ren zdd Blk.ren St.setBlk List.getD_cons_zero
abbrev ob4 (d:ByteArray):Ob:=⟨4,d,[],(0,0),[],⟨#[]⟩,0,⟨#[]⟩⟩
theorem zxH (d:ByteArray):Con Tryz.prog 171 [zcY (ob4 d)] (.d (.raw (.int .i64 0))):=by
 refine kO Tryz.func171 Tryz.ntmps171 fun A hA=>?_
 have z41:decide ((4:Int)=1)=false:=by decide
 have z44:decide ((4:Int)=4)=true:=by decide
 have zl:decide ((0:Int)<((0:Nat):Int))=false:=by decide
 have ze:(decide ¬ (⟨#[]⟩:ByteArray)=⟨#[]⟩)=false:=by decide
 have z0:(decide ¬ (0:Int)=0)=false:=by decide
 have zd:(decide ((0:Int)=0) && decide ((0:Int)=0))=true:=by decide
 refine goC 400 ?_
 simp only [go_sem,hA,zT,zbv,zbw,List.map_nil,List.length_nil,z41,Tryz.results171]
theorem zxr (s:ByteArray) (hs:65536<s.size):Con Tryz.prog 241 [.d (.raw (.string s))] (.tup [.d (.raw (.string ⟨#[]⟩)),.d (.raw (.int .i64 4))]):=by
 refine kO Tryz.func241 Tryz.ntmps241 fun A hA=>?_
 have k1:decide ((65536:Int)<(s.size:Int))=true:=decide_eq_true (by omega)
 refine goC 400 ?_
 simp only [go_sem,hA,k1,Tryz.results241]
abbrev zFP (ver:Nat) (l:List UInt8):Lent:=⟨[(901,some (.cell 202 [.stk 910 1 ver 0 l.length,.d (.raw (.bool true))]))],[(910,some ⟨1,5,ver,some (zC l)⟩)]⟩
theorem zzk (ver:Nat) (l:List UInt8) (s:ByteArray) (hs:65536<s.size) (hb:l.length<=1099511627776):zI Tryz.prog 173 [.box 901 0,.d (.raw (.string s))] (owL ver l) (fun o=>∃ ver,o = .ret (.tup []) (zFP ver l)):=by
 refine kL [901] [910] Tryz.func173 Tryz.ntmps173 fun A hA hX=>?_
 have z0:(decide ¬ (4:Int)=0)=true:=by decide
 have e1:zC ([]:List UInt8)=[]:=rfl
 have e2:(⟨#[]⟩:ByteArray).size=0:=rfl
 have e3:(⟨#[]⟩:ByteArray).data.toList=[]:=rfl
 refine goC 400 ?_
 simp only [go_sem,hA]
 refine gC (zxr s hs) ?_
 simp only [go_sem,hA,z0,zh,zdk,e1,e2,List.append_nil,Nat.add_zero,Tryz.results173]
 exact⟨⟨Nat.le_refl _,hb⟩,_,rfl,rfl,_,rfl⟩
theorem zyn (d:ByteArray):Con Tryz.prog 108 [zcY (ob4 d)] (.tup [.d (.raw (.string (if 65536<(obL (ob4 d)).length then ⟨#[]⟩ else ⟨(obL (ob4 d)).toArray⟩))),.d (.raw (.int .i64 (if 65536<(obL (ob4 d)).length then 4 else 0)))]):=by
 have hob:obL (ob4 d)=zb 4++zi d:=rfl
 by_cases hbig:65536<(obL (ob4 d)).length
 case neg=>
  rw [if_neg hbig,if_neg hbig]
  have hd:d.size<=65536:=by
   rw [hob,zi,List.length_append,List.length_append,zas] at hbig;omega
  refine zpo 4 d (.inr rfl) hd ?_ (by show(obL (ob4 d)).length<=65536;omega)
  have h3:zaV (ob4 d)=if 65536<d.size then 4 else 0:=by
   have:zjt (ob4 d)=true:=rfl
   unfold zaV
   rw [this]
   rfl
  rw [h3,if_neg (by omega)]
 rw [if_pos hbig,if_pos hbig]
 rw [hob,List.length_append] at hbig
 have hc:=zxH d
 refine kY Tryz.func108 Tryz.ntmps108 fun A hA hY=>?_
 have z0:(decide ¬ (0:Int)=0)=false:=by decide
 have z41:decide ((4:Int)=1)=false:=by decide
 have z44:decide ((4:Int)=4)=true:=by decide
 refine goC 400 ?_
 simp only [go_sem,hA]
 refine gC hc ?_
 simp only [go_sem,hA]
 refine zaA 4000 901 rfl (hY.1 _) rfl rfl _ (by simp only [go_sem];rfl) ?_
 refine zjy _ (fun g a w hk=>St.stkCell_ok 910 901 0 1 1 5 (hY.1 _) rfl rfl rfl hk) ?_
 simp only [go_sem,List.set]
 refine gL [901] [910] (zdS 1 [] 4 (by decide) (by decide +kernel)) (fun pv h=>(zaw h).elim) fun res L' h=>?_
 obtain⟨rfl,ver,rfl⟩:=zav h
 simp only [go_sem,hA,z41]
 by_cases hd:65536<d.size
 ·refine zae [901] [910] 9 (zzk ver (zb 4) d hd (by decide +kernel)) rfl rfl rfl rfl rfl (by simp only [go_sem,hA]) (fun res L' h=>?_) (fun pv h=>by obtain⟨_,h⟩:=h;cases h)
  obtain⟨ver2,h⟩:=h
  cases h
  simp only [go_sem]
  refine goC 400 ?_
  simp only [go_sem,hA,undef,Tryz.results108]
 ·have h6:=zbp (show d.size<=1099511627776 by omega)
  have hlen:(zb 4).length+(zi d).length<=1099511627776:=by
   have:(zb 4).length=1:=by decide +kernel
   rw [zi,List.length_append,zas];omega
  have hgl:decide ((65536:Int)<(((zb 4++zi d).length:Nat):Int))=true:=decide_eq_true (by rw [List.length_append];omega)
  refine zae [901] [910] 9 (zjX ver (zb 4) d (by omega) hlen) rfl rfl rfl rfl rfl (by simp only [go_sem,hA]) (fun res L' h=>?_) (fun pv h=>(zaw h).elim)
  obtain⟨rfl,ver2,rfl⟩:=zav h
  simp only [go_sem]
  refine goC 400 ?_
  simp only [go_sem,hA,hgl,Tryz.results108]
end
section
open Go Go.RowKit
theorem zsV (n:Nat) (hn:n<=1048576) (w:World):Calls Tryz.prog 242 #[.slice none 0 0,.int .i64 n] w fun e w'=>∃ v,e = .returned v/\w'.ownsRow w.heap.size 93 3 v 0 []/\Below w.heap.size w w':=by
 have hI:(Tryz.prog.info? 93).map (fun i=>(i.zero,i.size,i.bytes))=some (some (.agg #[.int .u64 0,.int .u64 0,.string ⟨#[]⟩]),3,32):=by kernel_rfl
 cases hq:Tryz.prog.info? 93 with
 | none=>rw [hq] at hI;cases hI
 | some i0=>
 rw [hq] at hI
 simp only [Option.map_some,Option.some.injEq,Prod.mk.injEq] at hI
 obtain⟨hz0,hzs,hzb⟩:=hI
 by_cases h0:n=0
 ·subst h0
  go_enter Tryz.func242,Tryz.ntmps242
  go_wp2
  go_ret
  exact⟨_,rfl,World.ownsRow_nil _ _ _ _,Below.refl _ _⟩
 have hw1:IntKind.i64.wrap (n:Int)=(n:Int):=by rw [IntKind.wrap_i64];omega
 have hge:=grownCap_ge w n 0 93
 have hle:=grownCap_le_maxLen w n 0 93 (by unfold maxLen;omega)
 obtain⟨G,hG⟩:∃ G,G=grownCap w n 0 93:=⟨_,rfl⟩
 obtain⟨ROW,hROW⟩:∃ ROW:Array Value,ROW=([]:List Value).toArray++Builtin.zeroCells (Value.cells (.agg #[.int .u64 0,.int .u64 0,.string ⟨#[]⟩])) n++Builtin.zeroCells (Value.cells (.agg #[.int .u64 0,.int .u64 0,.string ⟨#[]⟩])) (G - n):=⟨_,rfl⟩
 have hrz:∀ ty,(Builtin.append_ #[39,3] ty #[.slice none 0 0,.int .i64 (n:Int)]).run Tryz.prog w = .ok (.slice (some ⟨w.heap.size,0,none⟩) n G) (w.drew.alloc (.cells ROW 93)):=fun ty=>by
  have h:=Lib.run_append_grow_zeros w 39 3 ty 93 i0 _ .i64 .i64 Tryz.underlying39 Tryz.underlying3 hq hz0 none 0 0 [] (by simp [Builtin.firstCells]) n (by omega) (by omega) (by omega) (by omega) (by rw [hzb];omega) (by rw [hzb];exact growslice_fits (by omega) (by omega))
  rw [Nat.zero_add,<- hG,<- hROW] at h
  exact h
 rw [<- hG] at hge hle
 have hRl:ROW.size=G * 3:=by
  rw [hROW]
  simp only [Array.size_append,List.size_toArray,size_zeroCells]
  simp [Value.cells]
  omega
 have hpos:(0:Int)<(n:Int):=by omega
 clear hROW hG
 go_enter Tryz.func242,Tryz.ntmps242
 go_wp2_with (at_builtin;refine Lib.wpList_append_run _ rfl _ _ _ _ rfl _ _ rfl rfl _ _ (hrz _) ?_)
 go_ret
 exact⟨_,rfl,⟨by simp,.inr ⟨w.heap.size,G,ROW,rfl,Nat.le_refl _,heap_alloc_new w.drew _,Nat.zero_le _,hle,hRl,by simp⟩⟩,(Below.refl _ w).drew.alloc (Nat.le_refl _) _⟩
theorem zCX (n:Nat) (hn:n<=1048576):ztJ Tryz.prog 242 [.d (.raw (.slice none 0 0)),.d (.raw (.int .i64 n))] 3 93 []:=by
 refine⟨⟨_,Tryz.func242,by decide +kernel,rfl⟩,fun i hi=>by simp at hi,fun F w vs hF hG hl hv=>?_⟩
 match vs,hl with
 | [a,b],_=>
  have h0:=hv 0 (by simp) (by simp)
  have h1:=hv 1 (by simp) (by simp)
  simp only [List.getElem_cons_zero,List.getElem_cons_succ] at h0 h1
  rw [h0.raw_eq,h1.raw_eq]
  refine(zsV n hn w).mono ?_
  rintro e w' ⟨v,rfl,h2,h3⟩
  exact⟨v,[],rfl,h2,fun i hi=>by simp at hi,h3⟩
theorem zpC (ll:List (List (List D))) (q:Nat) (h:q<ll.length):(ll.map fun l=>[D.sl l]).getD q []=[.sl ll[q]]:=by simp [List.getD_eq_getElem?_getD,h]
theorem zjP (ll:List (List (List D))) (q:Nat) (h:q<ll.length):(ll.take (q+1)).flatten=(ll.take q).flatten++ll[q]:=by rw [List.take_succ_eq_append_getElem h,List.flatten_append];simp only [List.flatten_cons,List.flatten_nil,List.append_nil]
theorem zgG (ll:List (List (List D))) (q:Nat):(ll.take q).flatten.length<=ll.flatten.length:=by
 conv=>rhs;rw [<- List.take_append_drop q ll]
 simp only [List.flatten_append,List.length_append];omega
abbrev zri (ll:List (List (List D))) (q:Nat):St:=⟨[(0,.d (.sl (ll.map fun l=>[D.sl l]))),(3,.d (.raw (.int .i64 (ll.take q).flatten.length))),(9,.d (.sl (ll.map fun l=>[D.sl l]))),(10,.d (.raw (.int .i64 ll.length))),(11,.d (.raw (.int .i64 q)))],[],[]⟩
abbrev zrh (ll:List (List (List D))) (q:Nat):St:=⟨[(6,.grow 9001 (ll.take q).flatten),(25,.d (.sl (ll.map fun l=>[D.sl l]))),(26,.d (.raw (.int .i64 ll.length))),(27,.d (.raw (.int .i64 q)))],[],[(9001,some ⟨3,93,(ll.take q).flatten.length,none⟩)]⟩
theorem zpz (ll:List (List (List D))) (hll:ll.length<=1048576) (hb:ll.flatten.length<=1048576) (hf:∀ l ∈ ll,zam 3 l):Con Tryz.prog 178 [.d (.sl (ll.map fun l=>[D.sl l]))] (.d (.sl ll.flatten)):=by
 refine kO Tryz.func178 Tryz.ntmps178 fun A hA=>?_
 refine goC 400 ?_
 simp only [go_sem,hA,List.length_map]
 refine zc [0,3,9,10,11] [] [] (fun y σ=>∃ q:Nat,q<=ll.length/\y=ll.length - q/\σ=zri ll q) ll.length ⟨0,by omega,by omega,by(simp only [go_sem,zri]) <;> rfl⟩ ?_
 rintro y σ ⟨q,hq,rfl,rfl⟩
 refine goC 400 ?_
 by_cases hlt:q<ll.length
 ·have k1:decide ((q:Int)<(ll.length:Int))=true:=decide_eq_true (by omega)
  have h1:=zgG ll q
  have h2:=zgG ll (q+1)
  have h3:=zjP ll q hlt
  have h4:(ll.take (q+1)).flatten.length=(ll.take q).flatten.length+ll[q].length:=by rw [h3,List.length_append]
  have hs:((ll.take q).flatten.length:Int)+(ll[q].length:Int)=((ll.take (q+1)).flatten.length:Int):=by omega
  have k2:decide (((ll.take (q+1)).flatten.length:Int)<(0:Int))=false:=decide_eq_false (by omega)
  simp only [go_sem,hA,zri,List.length_map,k1,Int.toNat_natCast,zpC ll q hlt,hs,k2]
  exact⟨⟨by omega,by omega⟩,by unfold za;omega,by unfold za;omega,ll.length - (q+1),by omega,q+1,by omega,rfl,rfl⟩
 have k1:decide ((q:Int)<(ll.length:Int))=false:=decide_eq_false (by omega)
 obtain rfl:q=ll.length:=by omega
 simp only [go_sem,hA,zri,k1,List.take_length]
 refine zsZ 400 (zCX ll.flatten.length hb) rfl rfl (by simp only [go_sem]) (by simp only [go_sem]) rfl (by simp only [go_sem,hA]) (by simp only [go_sem]) ?_
 simp only [go_sem,hA,List.length_map]
 refine zc [6,25,26,27] [] [9001] (fun y σ=>∃ q:Nat,q<=ll.length/\y=ll.length - q/\σ=zrh ll q) ll.length ⟨0,by omega,by omega,by(simp only [go_sem,zrh]) <;> rfl⟩ ?_
 clear hlt k1 hq
 rintro y σ ⟨q,hq,rfl,rfl⟩
 refine goC 400 ?_
 by_cases hlt:q<ll.length
 ·have k1:decide ((q:Int)<(ll.length:Int))=true:=decide_eq_true (by omega)
  have h1:=zgG ll q
  have h2:=zgG ll (q+1)
  have h3:=zjP ll q hlt
  have h4:(ll.take (q+1)).flatten.length=(ll.take q).flatten.length+ll[q].length:=by rw [h3,List.length_append]
  simp only [go_sem,hA,zrh,List.length_map,k1,Int.toNat_natCast,zpC ll q hlt]
  exact⟨⟨by omega,by omega⟩,⟨hf _ (List.getElem_mem hlt),fun r hr=>by
   obtain⟨l,hl,hr⟩:=List.mem_flatten.1 hr
   exact(hf l (List.mem_of_mem_take hl) r hr).1,by omega⟩,by unfold za;omega,ll.length - (q+1),by omega,q+1,by omega,rfl,by rw [h3,List.length_append];rfl⟩
 have k1:decide ((q:Int)<(ll.length:Int))=false:=decide_eq_false (by omega)
 obtain rfl:q=ll.length:=by omega
 simp only [go_sem,hA,zrh,k1,List.take_length,Tryz.results178]
end
section
open Go Go.RowKit Go.Shelf
abbrev zBR (x:It):AV:=.agg [.d (.raw (.int .u64 x.dg.1)),.d (.raw (.int .u64 x.dg.2)),.d (.raw (.string x.data))]
theorem zwn (x:It) (d:Int × Int):Con Tryz.prog 195 [zBR x,zew d] (.d (.raw (.int .i64 (zcI x.dg d)))):=by
 refine kO Tryz.func195 Tryz.ntmps195 fun A hA=>?_
 refine goC 400 ?_
 simp only [go_sem,hA]
 refine gC (zBi x.dg d) ?_
 simp only [go_sem,hA,Tryz.results195]
abbrev ztD (l:List It) (d:Int × Int) (i j:Nat):St:=⟨[(0,.d (.sl (zaR l))),(2,.fn 195 []),(4,.box 0 0),(8,.d (.raw (.int .i64 l.length))),(9,.d (.raw (.int .i64 i))),(10,.d (.raw (.int .i64 j)))],[(0,some (.cell 42 [.d (.raw (.int .u64 d.1)),.d (.raw (.int .u64 d.2))]))],[]⟩
theorem zGH (l:List It) (d:Int × Int) (hl:l.length<=1048576):Con Tryz.prog 194 [.d (.sl (zaR l)),zew d,.fn 195 []] (.tup [.d (.raw (.int .i64 (zau l d))),.d (.raw (.bool (ziI l d)))]):=by
 refine kO Tryz.func194 Tryz.ntmps194 fun A hA=>?_
 refine goC 400 ?_
 simp only [go_sem,hA,zy]
 refine zc [0,2,4,8,9,10] [0] [] (fun y σ=>∃ i j:Nat,i<=j/\j<=l.length/\y=j - i/\(∀ k,j - i<=k->bsR (zsP l d) k i j=zau l d)/\σ=ztD l d i j) l.length ⟨0,l.length,by omega,by omega,by omega,fun k hk=>zgh _ _ _ _ _ hk (by omega),by simp only [go_sem,ztD]⟩ ?_
 rintro y σ ⟨i,j,hij,hj,rfl,hR,rfl⟩
 refine goC 400 ?_
 by_cases hlt:i<j
 ·have k1:decide ((i:Int)<(j:Int))=true:=decide_eq_true (by omega)
  have hh:=zsU i j (by omega)
  have hm:(i+j) / 2<l.length:=by omega
  have hb:=ztC (zsP l d) hlt hR
  have hfl:zsP l d ((i+j) / 2)=decide (zcI l[(i+j) / 2].dg d<0):=by unfold zsP;rw [List.getElem?_eq_getElem hm]
  rw [hfl] at hb
  simp only [go_sem,hA,ztD,k1,zy,hh,Int.toNat_natCast,zbt l _ hm]
  refine⟨by unfold za;omega,⟨by omega,by omega⟩,?_⟩
  refine znm 400 (cs:=[]) (zwn l[(i+j) / 2] d) rfl rfl (by simp only [go_sem]) (by simp only [go_sem,zBR]) (by simp only [go_sem,hA]) ?_
  cases hx:decide (zcI l[(i+j) / 2].dg d<0) with
  | true=>
   rw [hx,if_pos rfl] at hb
   simp only [go_sem,hA,hx]
   exact⟨by show chk _ _ _=true;kernel_rfl,by unfold za;omega,j - ((i+j) / 2+1),by omega,(i+j) / 2+1,j,by omega,hj,rfl,hb,rfl⟩
  | false=>
   rw [hx,if_neg (by simp)] at hb
   simp only [go_sem,hA,hx]
   exact⟨by show chk _ _ _=true;kernel_rfl,(i+j) / 2 - i,by omega,i,(i+j) / 2,by omega,by omega,rfl,hb,rfl⟩
 ·have k1:decide ((i:Int)<(j:Int))=false:=decide_eq_false (by omega)
  have hi:zau l d=i:=by rw [<- hR 0 (by omega)];rfl
  by_cases hil:i<l.length
  ·have k2:decide ((i:Int)<(l.length:Int))=true:=decide_eq_true (by omega)
   have hf:ziI l d=decide (zcI l[i].dg d=0):=by unfold ziI;rw [hi,List.getElem?_eq_getElem hil]
   simp only [go_sem,hA,ztD,k1,k2,zy,Int.toNat_natCast,zbt l i hil,mixed]
   refine⟨⟨by omega,by omega⟩,?_⟩
   refine znm 400 (cs:=[]) (zwn l[i] d) rfl rfl (by simp only [go_sem]) (by simp only [go_sem,zBR]) (by simp only [go_sem,hA]) ?_
   simp only [go_sem,hA,hi,hf,Tryz.results194]
   show chk _ _ _=true
   kernel_rfl
  ·have k2:decide ((i:Int)<(l.length:Int))=false:=decide_eq_false (by omega)
   have hf:ziI l d=false:=by unfold ziI;rw [hi,List.getElem?_eq_none (by omega)]
   simp only [go_sem,hA,ztD,k1,k2,hi,hf,undef,mixed,Tryz.results194]
   show chk _ _ _=true
   kernel_rfl
theorem zwo (l:List It) (d:Int × Int) (hl:l.length<=1048576):Con Tryz.prog 122 [.d (.sl (zaR l)),zew d] (.tup [.d (.raw (.int .i64 (zau l d))),.d (.raw (.bool (ziI l d)))]):=by
 refine kO Tryz.func122 Tryz.ntmps122 fun A hA=>?_
 refine goC 400 ?_
 simp only [go_sem,hA]
 refine gC (zGH l d hl) ?_
 simp only [go_sem,hA,Tryz.results122]
theorem zxE (p:List It) (x:It) (hp:p.length<=1000000):Con Tryz.prog 110 [.d (.sl (zaR p)),zBR x] (.tup [.d (.sl (zaR (zcB p x).1)),.d (.raw (.int .i64 (zcB p x).2))]):=by
 refine kO Tryz.func110 Tryz.ntmps110 fun A hA=>?_
 have hpl:=zoQ p x.dg
 refine goC 400 ?_
 simp only [go_sem,hA]
 refine gC (zwo p x.dg (by omega)) ?_
 cases hh:ziI p x.dg with
 | false=>
  have hr:zcB p x=(zou p x,0):=by unfold zcB;rw [hh,if_neg (by simp)]
  have htk:(zaR p).take p.length=zaR p:=List.take_of_length_le (by rw [zy];exact Nat.le_refl _)
  have hrow:∀ r ∈ zaR p,r.length=3:=fun r hr=>(zhU p r hr).1
  have hcc:=zpz [(zaR p).take (zau p x.dg),[[.raw (.int .u64 x.dg.1),.raw (.int .u64 x.dg.2),.raw (.string x.data)]],(zaR p).drop (zau p x.dg)] (by simp) (by simp [zy];omega) (by
   intro l hl
   simp only [List.mem_cons,List.not_mem_nil,or_false] at hl
   rcases hl with rfl | rfl | rfl
   ·exact fun r hr=>zhU p r (List.mem_of_mem_take hr)
   ·exact zhU [x]
   ·exact fun r hr=>zhU p r (List.mem_of_mem_drop hr))
  have hfl:[(zaR p).take (zau p x.dg),[[.raw (.int .u64 x.dg.1),.raw (.int .u64 x.dg.2),.raw (.string x.data)]],(zaR p).drop (zau p x.dg)].flatten=zaR (zou p x):=by simp [zaR,zpp,zou,List.map_take,List.map_drop]
  rw [hfl] at hcc
  simp only [go_sem,hA,zy,Int.toNat_natCast,mixed,htk]
  refine⟨⟨hrow,by omega,by omega⟩,⟨hrow,by omega,by omega⟩,?_⟩
  refine gD hcc ?_ rfl (by simp only [go_sem,List.map])
  simp only [go_sem,hA,hr,Tryz.results110]
  show chk _ _ _=true
  kernel_rfl
 | true=>
  obtain⟨h1,h2,h3⟩:=zqL hh
  have hat:=zeb p _ h1
  by_cases hd:(zgJ p (zau p x.dg)).data=x.data
  ·have hr:zcB p x=(p,0):=by unfold zcB;rw [hh,if_pos rfl,if_pos hd]
   rw [hat] at hd
   have k1:(decide ¬ p[zau p x.dg].data=x.data)=false:=by simp [hd]
   simp only [go_sem,hA,zy,Int.toNat_natCast,zbt p _ h1,k1,mixed]
   refine⟨⟨by omega,by omega⟩,by show chk _ _ _=true;kernel_rfl,?_⟩
   simp only [go_sem,hr,Tryz.results110]
  ·have hr:zcB p x=([],16):=by unfold zcB;rw [hh,if_pos rfl,if_neg hd]
   rw [hat] at hd
   have k1:(decide ¬ p[zau p x.dg].data=x.data)=true:=decide_eq_true hd
   simp only [go_sem,hA,zy,Int.toNat_natCast,zbt p _ h1,k1,mixed]
   refine⟨⟨by omega,by omega⟩,by show chk _ _ _=true;kernel_rfl,?_⟩
   simp only [go_sem,hr,Tryz.results110]
   rfl
theorem zEL (p:List It) (m:Mg) (hp:p.length<=1000000):Con Tryz.prog 51 [.d (.sl (zaR p)),zcY (mgO m)] (.tup [.d (.sl (zaR (ziz p m).1)),zew (ziz p m).2.1,.d (.raw (.int .i64 (ziz p m).2.2))]):=by
 refine kO Tryz.func51 Tryz.ntmps51 fun A hA=>?_
 have z0:(decide ¬ (0:Int)=0)=false:=by decide
 have z4:(decide ¬ (4:Int)=0)=true:=by decide
 have hE:Con Tryz.prog 108 [zcY (mgO m)] (.tup [.d (.raw (.string (if 65536<(obL (mgO m)).length then ⟨#[]⟩ else ⟨(obL (mgO m)).toArray⟩))),.d (.raw (.int .i64 (if 65536<(obL (mgO m)).length then 4 else 0)))]):=zyn ⟨(mgP m).toArray⟩
 refine goC 400 ?_
 simp only [go_sem,hA,mgO]
 by_cases hbig:65536<(obL (mgO m)).length
 ·have hr:ziz p m=([],(0,0),4):=if_pos hbig
  rw [if_pos hbig,if_pos hbig] at hE
  refine gC hE ?_ rfl (by simp only [go_sem,mgO];first | done | rfl)
  simp only [go_sem,hA,z4,hr,Tryz.results51]
  rfl
 ·rw [if_neg hbig,if_neg hbig] at hE
  have hO:Con Tryz.prog 109 [.d (.raw (.string ⟨(obL (mgO m)).toArray⟩))] (zew (ofD (obL (mgO m)))):=zFQ ⟨(obL (mgO m)).toArray⟩ (by show(obL (mgO m)).toArray.size<=1048576;rw [List.size_toArray];omega)
  have hI:=zxE p (mgI m) hp
  refine gC hE ?_ rfl (by simp only [go_sem,mgO];first | done | rfl)
  simp only [go_sem,hA]
  refine gC hO ?_
  simp only [go_sem,hA]
  refine gC hI ?_ rfl (by simp only [go_sem,mgI])
  by_cases h0:(zcB p (mgI m)).2=0
  ·have k0:(decide ¬ (zcB p (mgI m)).2=0)=false:=by simp [h0]
   have hr:ziz p m=((zcB p (mgI m)).1,ofD (obL (mgO m)),0):=by unfold ziz;rw [if_neg hbig,if_neg (by simp [h0])];rfl
   simp only [go_sem,hA,k0,hr,mixed,Tryz.results51]
   show chk _ _ _=true
   kernel_rfl
  ·have k0:(decide ¬ (zcB p (mgI m)).2=0)=true:=decide_eq_true h0
   have hr:ziz p m=([],(0,0),(zcB p (mgI m)).2):=by unfold ziz;rw [if_neg hbig,if_pos h0]
   simp only [go_sem,hA,k0,hr,Tryz.results51]
   rfl
theorem zEO (p:List It) (hp:p.length<=1048576) (d:Int × Int) (o:Ob) (hh:ziI p d=true) (hx:(zgJ p (zau p d)).data=⟨(obL o).toArray⟩) (hg:o.Good) (hr:o.Rng):Con Tryz.prog 56 [.d (.sl (zaR p)),zew d] (.tup [zcY o,.d (.raw (.int .i64 0))]):=by
 refine kO Tryz.func56 Tryz.ntmps56 fun A hA=>?_
 obtain⟨h1,h2,h3⟩:=zqL hh
 rw [zeb p _ h1] at hx
 refine goC 400 ?_
 simp only [go_sem,hA]
 refine gC (zwo p d hp) ?_
 simp only [go_sem,hA,hh,zy,Int.toNat_natCast,zbt p _ h1,hx]
 refine⟨⟨by omega,by omega⟩,?_⟩
 refine gC (zoT o hg hr) ?_
 simp only [go_sem,hA,Tryz.results56]
theorem zCK (x:It) (hx:zEj x):Con Tryz.prog 60 [zBR x] (.d (.raw (.int .i64 0))):=by
 refine kO Tryz.func60 Tryz.ntmps60 fun A hA=>?_
 obtain⟨o,hg,hr,h1,h2⟩:=hx
 have z0:(decide ¬ (0:Int)=0)=false:=by decide
 have hs:x.data.size<=1048576:=by
  have:=hg.2
  rw [h1];show(obL o).toArray.size<=1048576;rw [List.size_toArray];omega
 have hD:=zoT o hg hr
 rw [<- h1] at hD
 have hO:=zFQ x.data hs
 rw [h2] at hO
 have zd:(decide (x.dg.1=x.dg.1) && decide (x.dg.2=x.dg.2))=true:=by simp
 refine goC 400 ?_
 simp only [go_sem,hA]
 refine gC hD ?_
 simp only [go_sem,hA]
 refine gD hO ?_
 simp only [go_sem,hA,zT,Tryz.results60]
 show chk _ _ _=true
 kernel_rfl
abbrev zwm (p:List It) (q:Nat):St:=⟨[(0,.d (.sl (zaR p))),(6,.d (.sl (zaR p))),(7,.d (.raw (.int .i64 p.length))),(8,.d (.raw (.int .i64 q)))],[],[]⟩
theorem zCJ (p:List It) (hp:p.length<=1048576) (hk:PoolOk p):Con Tryz.prog 23 [.d (.sl (zaR p))] (.d (.raw (.int .i64 0))):=by
 refine kO Tryz.func23 Tryz.ntmps23 fun A hA=>?_
 have z0:(decide ¬ (0:Int)=0)=false:=by decide
 refine goC 400 ?_
 simp only [go_sem,hA,zy]
 refine zc [0,6,7,8] [] [] (fun y σ=>∃ q:Nat,q<=p.length/\y=p.length - q/\σ=zwm p q) p.length ⟨0,by omega,by omega,by simp only [go_sem,zwm]⟩ ?_
 rintro y σ ⟨q,hq,rfl,rfl⟩
 refine goC 400 ?_
 by_cases hlt:q<p.length
 ·have k1:decide ((q:Int)<(p.length:Int))=true:=decide_eq_true (by omega)
  simp only [go_sem,hA,zwm,zy,k1,Int.toNat_natCast,zbt p q hlt]
  refine⟨⟨by omega,by omega⟩,?_⟩
  refine gC (zCK p[q] (hk.ok _ (List.getElem_mem hlt))) ?_
  by_cases hq0:0<q
  ·have k2:decide ((0:Int)<(q:Int))=true:=decide_eq_true (by omega)
   have hq1:((q:Int) - 1).toNat=q - 1:=by omega
   have hin:za ((q:Int) - 1):=by unfold za;omega
   have hlt1:q - 1<p.length:=by omega
   have hgt:¬ zcI p[q].dg p[q - 1].dg<=0:=fun h=>by
    have h1:=List.pairwise_iff_getElem.1 hk.asc (q - 1) q hlt1 hlt (by omega)
    rcases Int.lt_or_eq_of_le h with h2 | h2
    ·exact ziE _ (zko h1 ((zrb _ _).1 h2))
    ·rw [(zrc _ _).1 h2] at h1;exact ziE _ h1
   have k3:decide (zcI p[q].dg p[q - 1].dg<=0)=false:=decide_eq_false hgt
   simp only [go_sem,hA,k2,zy,hq1,zbt p (q - 1) hlt1,mixed]
   refine⟨hin,⟨by omega,by omega⟩,?_⟩
   refine gD (zBi p[q].dg p[q - 1].dg) ?_
   simp only [go_sem,hA,k3]
   exact⟨by show chk _ _ _=true;kernel_rfl,by unfold za;omega,p.length - (q+1),by omega,q+1,by omega,rfl,rfl⟩
  ·have k2:decide ((0:Int)<(q:Int))=false:=decide_eq_false (by omega)
   simp only [go_sem,hA,k2,undef,mixed]
   exact⟨by show chk _ _ _=true;kernel_rfl,by unfold za;omega,p.length - (q+1),by omega,q+1,by omega,rfl,rfl⟩
 ·have k1:decide ((q:Int)<(p.length:Int))=false:=decide_eq_false (by omega)
  simp only [go_sem,hA,zwm,k1,Tryz.results23]
end
end Go.Proofs.YtpnjjmcimjlfkaaGreatDoor
