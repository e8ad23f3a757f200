/- Texts of this proof, part 26: what the proof uses of them. -/
import Derived.Test.YtpnjjmcimjlfkaaGreatDoorDay
import Derived.Test.YtpnjjmcimjlfkaaGreatDoorDar
import Derived.Test.YtpnjjmcimjlfkaaGreatDoorDat
import Derived.Test.YtpnjjmcimjlfkaaGreatDoorDaw
import Derived.Test.YtpnjjmcimjlfkaaGreatDoorDap
import Derived.Test.YtpnjjmcimjlfkaaGreatDoorDao
set_option maxRecDepth 100000
set_option maxHeartbeats 64000000
namespace Go.Proofs.YtpnjjmcimjlfkaaGreatDoor
section
open Go Go.RowKit
def wF (f:Fl):List Fl→List Fl
 | []=>[f]
 | x :: l=>if ltS x.path f.path then x :: wF f l else f :: (x :: l).filter fun y=>decide (¬ y.path=f.path)
theorem zwm {a b:ByteArray} (h:ltL a b):a≠b:=fun e=>by subst e;exact zai _ h
theorem zuR (f:Fl):∀ (l:List Fl) (y:Fl),y ∈ wF f l ↔ y=f∨(y ∈ l∧y.path≠f.path)
 | [],y=>by simp [wF]
 | x :: l,y=>by
  rw [wF]
  split
  ·rename_i h
   have hne:=zwm ((zdq _ _).1 h)
   rw [List.mem_cons,zuR f l y,List.mem_cons]
   constructor
   ·rintro (rfl | rfl | ⟨h1,h2⟩)
    ·exact .inr ⟨.inl rfl,hne⟩
    ·exact .inl rfl
    ·exact .inr ⟨.inr h1,h2⟩
   ·rintro (rfl | ⟨rfl | h1,h2⟩)
    ·exact .inr (.inl rfl)
    ·exact .inl rfl
    ·exact .inr (.inr ⟨h1,h2⟩)
  ·rw [List.mem_cons,List.mem_filter]
   simp
theorem zEW (f:Fl):∀ {l:List Fl},Sk Fl.path l→Sk Fl.path (wF f l)
 | [],_=>List.pairwise_singleton _ _
 | x :: l,h=>by
  obtain⟨h1,h2⟩:=List.pairwise_cons.1 h
  rw [wF]
  split
  ·rename_i h3
   refine List.pairwise_cons.2 ⟨fun y hy=>?_,zEW f h2⟩
   rcases (zuR f l y).1 hy with rfl | ⟨h4,_⟩
   ·exact(zdq _ _).1 h3
   ·exact h1 y h4
  ·rename_i h3
   have h3:¬ ltL x.path f.path:=fun h4=>h3 ((zdq _ _).2 h4)
   refine List.pairwise_cons.2 ⟨fun y hy=>?_,List.Pairwise.sublist List.filter_sublist h⟩
   obtain⟨h4,h5⟩:=List.mem_filter.1 hy
   have h5:¬ y.path=f.path:=of_decide_eq_true h5
   rcases List.mem_cons.1 h4 with rfl | h4
   ·exact znX h3 h5
   ·by_cases e:x.path=f.path
    ·rw [← e];exact h1 y h4
    ·exact zeo (znX h3 e) (h1 y h4)
theorem zFk {l:List Fl} (h:Sk Fl.path l) (f:Fl) (hn:zdF l f.path=false):wF f l=zeF l (zbu l f.path) f:=by
 refine zqT (zEW f h) (zBC h f hn) fun y=>?_
 rw [zuR,zxM]
 constructor
 ·rintro (h1 | ⟨h1,_⟩)
  ·exact .inr h1
  ·exact .inl h1
 ·rintro (h1 | h1)
  ·refine .inr ⟨h1,fun e=>?_⟩
   rw [(zhk h _).2 ⟨y,h1,e⟩] at hn;cases hn
  ·exact .inl h1
def zgZ (p:ByteArray) (k:Nat) (a:List Fl × List Tc) (c:Tc):List Fl × List Tc:=
 if c.path=p then (if zfp c k=true then (wF ⟨p,zal c k⟩ a.1,a.2) else a) else (a.1,a.2++[c])
def zaV (m:Mg) (p:ByteArray) (k n:Nat):List Fl × List Tc:=(m.ts.take n).foldl (zgZ p k) (m.fs,[])
theorem znj (p:ByteArray) (k:Nat):∀ (l:List Tc) (a:List Fl × List Tc),(∀ c ∈ l,c.path≠p)→l.foldl (zgZ p k) a=(a.1,a.2++l)
 | [],a,_=>by simp
 | c :: l,a,h=>by
  have h1:zgZ p k a c=(a.1,a.2++[c]):=if_neg (h c (List.mem_cons_self ..))
  rw [List.foldl_cons,h1,znj p k l _ fun d hd=>h d (List.mem_cons_of_mem _ hd)]
  simp
theorem zyM {m:Mg} (h0:zw m=0) {c:Tc} (hc:c ∈ m.ts) (k:Nat):zaV m c.path k m.ts.length=((zFc m c k).fs,(zFc m c k).ts):=by
 obtain⟨h1,h2⟩:=zqO h0 hc
 have hs:=zsU m.ts _ h1
 rw [zcY m.ts _ h1] at h2
 rw [h2] at hs
 have hne:∀ d ∈ rmL m.ts (m.ts.findIdx (zaD c.path)),d.path≠c.path:=fun d hd=>((zeU h0 hc d).1 hd).2
 unfold zaV
 rw [List.take_length]
 conv=>lhs;rw [hs]
 rw [List.foldl_append,List.foldl_cons,znj c.path k _ _ fun d hd=>hne d (List.mem_append_left _ hd)]
 have h3:∀ a:List Fl × List Tc,zgZ c.path k a c=(if zfp c k=true then wF ⟨c.path,zal c k⟩ a.1 else a.1,a.2):=fun a=>by
  unfold zgZ
  rw [if_pos rfl]
  split <;> rfl
 rw [h3,znj c.path k _ _ fun d hd=>hne d (List.mem_append_right _ hd)]
 simp only [List.nil_append]
 refine Prod.ext ?_ rfl
 show(if zfp c k=true then _ else _)=zhi m.fs c k
 unfold zhi
 split
 ·exact zFk (zqN (zfZ h0).2.1) ⟨c.path,zal c k⟩ (zke h0 hc)
 ·rfl
end
section
open Go Go.RowKit
mutual
theorem zkv (side:Nat):∀ (t:Ex) (j:Int),(confE t:Int)≤j→(zcf side t j).1=t
 | .mk k n m i d s,j,h=>by
  rw [confE] at h
  rw [zcf]
  by_cases hk:k=15
  ·rw [if_pos hk] at h ⊢
   have:¬ j=0:=by omega
   rw [if_neg this]
   simp only
   rw [zku side s (j - 1) (by omega)]
  ·rw [if_neg hk] at h ⊢
   simp only
   rw [zku side s j (by omega)]
theorem zku (side:Nat):∀ (l:List Ex) (j:Int),(confL l:Int)≤j→(zP side l j).1=l
 | [],j,_=>by rw [zP]
 | e :: es,j,h=>by
  rw [confL] at h
  rw [zP,if_neg (show ¬ j<0 by omega)]
  have h1:=znL side e j (by omega)
  rw [if_neg (by omega)] at h1
  rw [h1,zkv side e j (by omega),zku side es _ (by omega)]
end
mutual
/-- the reference's: an index that is not below 0 -/
def rsE (side:Nat):Ex→Int→Ex
 | .mk k n m i d s,j=>if k=15 then (if j=0 then s.getD side zfb else .mk k n m i d (rsL side s (j - 1)).1) else .mk k n m i d (rsL side s j).1
/-- the parts, and the index behind them -/
def rsL (side:Nat):List Ex→Int→List Ex × Int
 | [],j=>([],j)
 | e :: es,j=>
  let r:=rsL side es (if 0≤j then (if j - (confE e:Int)<0 then 400 else j - (confE e:Int)) else j)
  ((if j<(confE e:Int) then rsE side e j else e) :: r.1,r.2)
end
theorem zsR (side:Nat):∀ (l:List Ex) (j:Int),(confL l:Int)≤j→(rsL side l j).1=l
 | [],j,_=>by rw [rsL]
 | e :: es,j,h=>by
  rw [confL] at h
  rw [rsL]
  simp only
  rw [if_neg (show ¬ j<(confE e:Int) by omega),if_pos (show 0≤j by omega),if_neg (show ¬ j - (confE e:Int)<0 by omega),zsR side es _ (by omega)]
mutual
theorem zAB (side:Nat):∀ (t:Ex) (j:Int),0≤j→j<(confE t:Int)→confE t≤400→rsE side t j=(zcf side t j).1
 | .mk k n m i d s,j,h0,h1,h2=>by
  rw [confE] at h1 h2
  rw [rsE,zcf]
  by_cases hk:k=15
  ·rw [if_pos hk] at h1 h2 ⊢
   rw [if_pos hk]
   by_cases hj:j=0
   ·rw [if_pos hj,if_pos hj]
   ·rw [if_neg hj,if_neg hj,zvA side s (j - 1) (by omega) (by omega) (by omega)]
  ·rw [if_neg hk] at h1 h2 ⊢
   rw [if_neg hk,zvA side s j h0 (by omega) (by omega)]
theorem zvA (side:Nat):∀ (l:List Ex) (j:Int),0≤j→j<(confL l:Int)→confL l≤400→(rsL side l j).1=(zP side l j).1
 | [],j,h0,h1,_=>by rw [confL] at h1;omega
 | e :: es,j,h0,h1,h2=>by
  rw [confL] at h1 h2
  rw [rsL,zP,if_neg (show ¬ j<0 by omega)]
  simp only
  have h3:=znL side e j h0
  by_cases hj:j<(confE e:Int)
  ·rw [if_pos hj] at h3 ⊢
   rw [if_pos h0,if_pos (show j - (confE e:Int)<0 by omega),h3,zdz side es (by omega),zAB side e j h0 hj (by omega),zsR side es 400 (by omega)]
  ·rw [if_neg hj] at h3 ⊢
   rw [if_pos h0,if_neg (show ¬ j - (confE e:Int)<0 by omega),h3,zkv side e j (by omega),zvA side es _ (by omega) (by omega) (by omega)]
end
def znc (t:Ex) (i side:Int):Ex × Int:=if ¬ zB t=0 then (zfb,zB t) else if side<0∨2<side∨i<0∨(confE t:Int)≤i then (zfb,2) else (rsE side.toNat t i,0)
theorem zpF (t:Ex) (i side:Int):znc t i side=zbf t i side:=by
 unfold znc zbf
 by_cases h:zB t=0
 ·rw [if_neg (Decidable.not_not.2 h),if_pos h]
  split
  ·rfl
  ·rename_i h1
   have h2:=(zfQ h).1
   have h3:=zbI t
   rw [zAB _ t i (by omega) (by omega) (by omega)]
 ·rw [if_pos h,if_neg h]
end
section
open Go Go.RowKit
theorem zvo (s:ByteArray) (l:List Dc):∀ (a:List Sq × List ByteArray) (t:ByteArray),t ∈ (l.foldl (zbL s) a).2 ↔ t ∈ a.2∨∃ d ∈ l,d.names.length=1∧ziM d=t:=by
 induction l with
 | nil=>intro a t;simp
 | cons d l ih=>
  intro a t
  rw [List.foldl_cons,ih]
  have h1:t ∈ (zbL s a d).2 ↔ t ∈ a.2∨(d.names.length=1∧ziM d=t):=by
   show t ∈ (if d.names.length=1 then zeN a.2 (ziM d) else a.2) ↔ _
   split
   ·rename_i h;rw [zuI];simp [h,eq_comm]
   ·rename_i h;simp [h]
  rw [h1]
  constructor
  ·rintro ((h | h) | ⟨e,he,h⟩)
   ·exact .inl h
   ·exact .inr ⟨d,List.mem_cons_self ..,h⟩
   ·exact .inr ⟨e,List.mem_cons_of_mem _ he,h⟩
  ·rintro (h | ⟨e,he,h⟩)
   ·exact .inl (.inl h)
   ·rcases List.mem_cons.1 he with rfl | he
    ·exact .inl (.inr h)
    ·exact .inr ⟨e,he,h⟩
theorem zpU {d:Dc} (h:d.names.length=1):d.names=[ziM d]:=by
 unfold ziM
 match hd:d.names,h with
 | [s],_=>rfl
theorem zCo (x:Mo) (n:Nat) (d:Dc):(decide (d.names.length=1) && zbT (zE x n).2 (ziM d))=(x.decls.take n).any fun e=>decide (d.names.length=1) && decide (e.names=d.names):=by
 rw [Bool.eq_iff_iff]
 simp only [Bool.and_eq_true,decide_eq_true_eq,List.any_eq_true,zhj]
 unfold zE
 rw [zvo]
 constructor
 ·rintro⟨h1,h2 | ⟨e,he,h3,h4⟩⟩
  ·cases h2
  ·exact⟨e,he,h1,by rw [zpU h3,h4,← zpU h1]⟩
 ·rintro⟨e,he,h1,h2⟩
  exact⟨h1,.inr ⟨e,he,by rw [h2];exact h1,by unfold ziM;rw [h2]⟩⟩
end
section
open Go Go.RowKit
def rnm (d:Dc):Int:=if d.names.length=1∧zI (d.names.getD 0 ⟨#[]⟩)=false then 6 else 0
theorem zmk (d:Dc) (nm:ByteArray):rnm { d with names:=[nm] }=if zI nm=true then 0 else 6:=by
 have e:zI nm=false∨zI nm=true:=by cases zI nm <;> simp
 rcases e with h | h
 ·rw [if_neg (by rw [h];decide)]
  exact if_pos ⟨rfl,h⟩
 ·rw [if_pos h]
  exact if_neg fun h'=>by
   have h2:zI nm=false:=h'.2
   rw [h] at h2;cases h2
def zcc (d:Dc) (s:Sq) (k:Nat):Dc × Bool × Int:=
 if s.kind=1 then ({ d with names:=[d.names.getD k ⟨#[]⟩] },true,rnm { d with names:=[d.names.getD k ⟨#[]⟩] })
 else if s.kind=2 then ({ d with body:=(znc d.body s.pos k).1 },true,if (znc d.body s.pos k).2=0 then rnm d else (znc d.body s.pos k).2)
 else if s.kind=3 then ({ d with doubt:=false },decide (k=0),0)
 else if k=2 then (d,false,0)
 else ({ d with names:=[d.names.getD 0 ⟨#[]⟩++zbm d.id] },true,rnm { d with names:=[d.names.getD 0 ⟨#[]⟩++zbm d.id] })
theorem zBq {l:List ByteArray} (h:zaf l=0) (h1:l.length=1):zI (l.getD 0 ⟨#[]⟩)=true:=by
 unfold zaf at h
 split at h
 ·cases h
 split at h
 ·cases h
 rename_i h2
 match l,h1 with
 | [s],_=>
  cases hs:zI s with
  | true=>exact hs
  | false=>exact absurd (by simp [zM,hs]) h2
theorem zxm {x:Mo} (h0:zN x=0) {s:Sq} (hs:s ∈ zaB x) {k:Nat} (hk:k<3) (h1:¬ (k=1∧(s.kind=3∨s.kind=4))) {d:Dc} (hd:d ∈ x.decls) (hid:d.id=s.id) :
  (zcc d s k).2.2=(zde d s k).2.2∧((zde d s k).2.2=0→(zcc d s k).2.1=(zde d s k).2.1∧((zde d s k).2.1=true→(zcc d s k).1=(zde d s k).1)):=by
 obtain⟨d',hd',h2,h3,h4⟩:=zfP hs
 have e:d'=d:=zrQ h0 hd' hd (by omega)
 subst e
 have hnm:=(zfS (zkS h0 hd)).2.2.2.1
 unfold zcc zde nmX
 by_cases k1:s.kind=1
 ·rw [if_pos k1,if_pos k1]
  generalize d'.names.getD k ⟨#[]⟩=nm
  rw [zmk]
  cases zI nm with
  | true=>exact⟨rfl,fun _=>⟨rfl,fun _=>rfl⟩⟩
  | false=>exact⟨rfl,fun h=>by cases h⟩
 rw [if_neg k1,if_neg k1]
 by_cases k2:s.kind=2
 ·rw [if_pos k2,if_pos k2,zpF]
  have hr:rnm d'=0:=by
   unfold rnm
   rw [if_neg]
   rintro⟨h5,h6⟩
   rw [zBq hnm h5] at h6
   cases h6
  by_cases k3:(zbf d'.body s.pos k).2=0
  ·rw [if_pos k3,if_pos k3]
   exact⟨hr,fun _=>⟨rfl,fun _=>rfl⟩⟩
  ·rw [if_neg k3,if_neg k3]
   exact⟨rfl,fun h=>absurd h k3⟩
 rw [if_neg k2,if_neg k2]
 by_cases k3:s.kind=3
 ·rw [if_pos k3]
  by_cases k4:k=2
  ·rw [if_pos k4]
   subst k4
   exact⟨rfl,fun _=>⟨rfl,fun h=>by cases h⟩⟩
  ·rw [if_neg k4,if_pos k3]
   have k5:k=0:=by
    have:¬ k=1:=fun e=>h1 ⟨e,.inl k3⟩
    omega
   subst k5
   exact⟨rfl,fun _=>⟨rfl,fun _=>rfl⟩⟩
 rw [if_neg k3]
 by_cases k4:k=2
 ·rw [if_pos k4,if_pos k4]
  exact⟨rfl,fun _=>⟨rfl,fun h=>by cases h⟩⟩
 rw [if_neg k4,if_neg k4,if_neg k3]
 generalize d'.names.getD 0 ⟨#[]⟩++zbm d'.id=nm
 rw [zmk]
 cases zI nm with
 | true=>exact⟨rfl,fun _=>⟨rfl,fun _=>rfl⟩⟩
 | false=>exact⟨rfl,fun h=>by cases h⟩
def ziG (s:Sq) (k:Nat) (d:Dc):List Dc:=if d.id=s.id then (if (zcc d s k).2.1=true then [(zcc d s k).1] else []) else [d]
def zha (s:Sq) (k:Nat) (l:List Dc) (q:Nat):Int:=if (atD l q).id=s.id then (zcc (atD l q) s k).2.2 else 0
def zcG (s:Sq) (k:Nat) (l:List Dc) (q:Nat):List Dc:=(l.take q).flatMap (ziG s k)
def zim (x:Mo) (s:Sq) (k:Nat):Mo × Int:=
 if ¬ zN x=0 then (zca,zN x) else if (zaB x).any (eqQ s)=false then (zca,8) else if k=1∧(s.kind=3∨s.kind=4) then (zca,2)
 else if ¬ zj (zha s k x.decls) x.decls.length=0 then (zca,zj (zha s k x.decls) x.decls.length) else (⟨x.label,x.uses,zcG s k x.decls x.decls.length⟩,0)
theorem zoq {α β:Type} {f g:α→List β}:∀ {l:List α},(∀ x ∈ l,f x=g x)→l.flatMap f=l.flatMap g
 | [],_=>rfl
 | x :: l,h=>by
  rw [List.flatMap_cons,List.flatMap_cons,h x (List.mem_cons_self ..),zoq fun y hy=>h y (List.mem_cons_of_mem _ hy)]
theorem zsT (x:Mo) (s:Sq) (k:Nat) (hk:k<3):zim x s k=zcI x s k:=by
 unfold zim zcI
 by_cases h0:¬ zN x=0
 ·rw [if_pos h0,if_pos h0]
 rw [if_neg h0,if_neg h0]
 by_cases h1:(zaB x).any (eqQ s)=false
 ·rw [if_pos h1,if_pos h1]
 rw [if_neg h1,if_neg h1]
 by_cases h2:k=1∧(s.kind=3∨s.kind=4)
 ·rw [if_pos h2,if_pos h2]
 rw [if_neg h2,if_neg h2]
 have h0:=Decidable.not_not.1 h0
 have hs:s ∈ zaB x:=by
  obtain⟨y,hy,h3⟩:=List.any_eq_true.1 (by simpa using h1:(zaB x).any (eqQ s)=true)
  rw [(zjM s y).1 h3];exact hy
 have he:zj (zha s k x.decls) x.decls.length=zj (zkM s k x.decls) x.decls.length:=zgy _ fun i hi=>by
  unfold zha zkM
  rw [zce _ _ hi]
  split
  ·rename_i h3;exact(zxm h0 hs hk h2 (List.getElem_mem hi) h3).1
  ·rfl
 rw [he]
 by_cases h3:¬ zj (zkM s k x.decls) x.decls.length=0
 ·rw [if_pos h3,if_pos h3]
 rw [if_neg h3,if_neg h3]
 have h4:=zbH (Decidable.not_not.1 h3)
 have:zcG s k x.decls x.decls.length=zeD s k x.decls x.decls.length:=by
  unfold zcG zeD
  rw [List.take_length]
  refine zoq fun d hd=>?_
  unfold ziG zjD
  split
  ·rename_i h5
   obtain⟨h6,h7⟩:=zxm h0 hs hk h2 hd h5
   obtain⟨i,hi,rfl⟩:=List.mem_iff_getElem.1 hd
   have h8:=h4 i hi
   unfold zkM at h8
   rw [zce _ _ hi,if_pos h5] at h8
   obtain⟨h9,h10⟩:=h7 h8
   rw [h9]
   split
   ·rename_i h11;rw [h10 h11]
   ·rfl
  ·rfl
 rw [this]
end
section
open Go Go.RowKit
theorem zAx (s:ByteArray):spL s=zbF s.data.toList:=by
 have hw:([⟨s,⟨#[]⟩⟩]:List Fl).any (fun x=>zuQ (zcH [⟨s,⟨#[]⟩⟩]) x.path)=false:=by
  rw [List.any_eq_false]
  intro x hx
  rw [List.mem_singleton.1 hx,zpv]
  simp [zcp]
 have hf:zj (zcC [⟨s,⟨#[]⟩⟩]) ([⟨s,⟨#[]⟩⟩]:List Fl).length=if zbF s.data.toList=true then 0 else 6:=by
  show(if zj (zcC [⟨s,⟨#[]⟩⟩]) 0=0 then zcC [⟨s,⟨#[]⟩⟩] 0 else _)=_
  rw [zj,if_pos rfl]
  unfold zcC
  rw [zeZ _ _ (by simp)]
  simp only [List.getElem_cons_zero]
  by_cases h:zbF s.data.toList=true
  ·rw [if_pos h,if_pos h,if_neg (by omega)]
  ·rw [if_neg h,if_neg h]
 unfold spL zch
 rw [hf,hw]
 by_cases h:zbF s.data.toList=true
 ·rw [if_pos h,h];rfl
 ·rw [if_neg h,Bool.eq_false_iff.2 h];rfl
def zgc (x:Tc):Int:=
 if zbF x.path.data.toList=false then 6 else if zdb x.path=true then 9 else
  if (!x.inB && neS x.base) || (!x.inL && neS x.left) || (!x.inR && neS x.right) then 1 else 0
theorem zyG (x:Tc):zgc x=zdS x:=by unfold zgc zdS;rw [zAx,ztd]
def zgd (fs:List Fl) (l:List Tc) (q:Nat):Int:=if ¬ zgc (atC l q)=0 then zgc (atC l q) else if 0<q∧leS (atC l q).path (atC l (q - 1)).path then 10 else if (zdc fs (atC l q).path).2 then 7 else 0
theorem zqp:∀ (l:List Fl) (s:ByteArray),(zdc l s).2=true ↔ ∃ x ∈ l,x.path=s
 | [],s=>by simp [zdc]
 | x :: l,s=>by
  rw [zdc]
  split
  ·rename_i h;simp [h]
  ·rename_i h
   rw [zqp l s]
   simp [h]
theorem zwE {l:List Fl} (h:Sk Fl.path l) (s:ByteArray):(zdc l s).2=zdF l s:=by
 rw [Bool.eq_iff_iff,zqp,zhk h]
def ziE (m:Mg):Int:=
 if ¬ zj (zgS m.ms) m.ms.length=0 then zj (zgS m.ms) m.ms.length else if ¬ zev m.fs=0 then zev m.fs else if m.fs.any (fun x=>zdb x.path) then 9 else
  if 200<m.ts.length then 4 else zj (zgd m.fs m.ts) m.ts.length
theorem zkm (m:Mg):ziE m=zw m:=by
 unfold ziE zw
 rw [zkl]
 by_cases h1:¬ zj (zgS m.ms) m.ms.length=0
 ·rw [if_pos h1,if_pos h1]
 rw [if_neg h1,if_neg h1]
 by_cases h2:¬ zch m.fs=0
 ·rw [if_pos h2,if_pos h2]
 rw [if_neg h2,if_neg h2]
 have hsk:=zqN (Decidable.not_not.1 h2)
 have e1:(fun x:Fl=>zdb x.path)=fun x=>zdV x.path:=funext fun x=>ztd x.path
 have e2:zj (zgd m.fs m.ts) m.ts.length=zj (zig m.fs m.ts) m.ts.length:=zgy _ fun i _=>by
  unfold zgd zig
  rw [zyG,zwE hsk]
 rw [e1,e2]
def zgM (l:List Mo) (s:Sq) (k q:Nat):Int:=if (atM l q).label=s.label then (zim (atM l q) s k).2 else 0
def zdT (s:Sq) (k:Nat) (x:Mo):Mo:=if x.label=s.label then (zim x s k).1 else x
def zcF (m:Mg) (s:Sq) (k:Nat):Mg × Int:=
 if s.kind=5 then (⟨m.ms,(zaV m s.label k m.ts.length).1,(zaV m s.label k m.ts.length).2⟩,0)
 else if ¬ zj (zgM m.ms s k) m.ms.length=0 then (zbz,zj (zgM m.ms s k) m.ms.length) else (⟨m.ms.map (zdT s k),m.fs,m.ts⟩,0)
theorem map_set {l:List Mo} (h:Sk Mo.label l) {f:Mo→Mo} {p:ByteArray} (i:Nat) (hi:i<l.length) (hp:l[i].label=p) (hf:∀ x ∈ l,x.label≠p→f x=x):l.map f=l.set i (f l[i]):=by
 refine List.ext_getElem (by simp) fun j h1 h2=>?_
 rw [List.getElem_map,List.getElem_set]
 have hj:j<l.length:=by simpa using h1
 split
 ·rename_i e;subst e;rfl
 ·rename_i hne
  refine hf _ (List.getElem_mem hj) fun e=>hne ?_
  have:=zqS h (List.getElem_mem hj) (List.getElem_mem hi) (by rw [e,hp])
  rcases Nat.lt_trichotomy i j with h3 | h3 | h3
  ·exact absurd (this ▸ List.pairwise_iff_getElem.1 h i j hi hj h3) (zai _)
  ·exact h3
  ·exact absurd (this ▸ List.pairwise_iff_getElem.1 h j i hj hi h3) (zai _)
theorem zpE {m:Mg} (h0:zw m=0) {s:Sq} (hs:s ∈ zK m) {k:Nat} (hk:k<3):zcF m s k=zaL m s k:=by
 rcases zes hs with⟨c,hc,rfl⟩ | ⟨x,hx,hxs⟩
 ·rw [zcq h0 hc k]
  unfold zcF
  rw [if_pos rfl,zyM h0 hc k]
 ·obtain⟨h1,h2⟩:=zhW hxs
  obtain⟨i1,i2⟩:=zrI h0 hx
  rw [zbR m.ms _ i1] at i2
  rw [zcP h0 hx hxs]
  unfold zcF
  rw [if_neg h2]
  have hsk:=zxC h0
  have hone:∀ q (hq:q<m.ms.length),m.ms[q].label=s.label→m.ms[q]=x:=fun q hq e=>zqS hsk (List.getElem_mem hq) hx (by rw [e,h1])
  have herr:zj (zgM m.ms s k) m.ms.length=(zcI x s k).2:=by
   have hval:∀ q,q<m.ms.length→zgM m.ms s k q=if q=m.ms.findIdx (zbD x.label) then (zcI x s k).2 else 0:=fun q hq=>by
    unfold zgM
    rw [zbR _ _ hq]
    by_cases e:m.ms[q].label=s.label
    ·rw [if_pos e,hone q hq e,zsT x s k hk,if_pos]
     have h3:=hone q hq e
     rcases Nat.lt_trichotomy q (m.ms.findIdx (zbD x.label)) with h4 | h4 | h4
     ·have:=List.pairwise_iff_getElem.1 hsk q _ hq i1 h4
      rw [h3,i2] at this
      exact absurd this (zai _)
     ·exact h4
     ·have:=List.pairwise_iff_getElem.1 hsk _ q i1 hq h4
      rw [h3,i2] at this
      exact absurd this (zai _)
    ·rw [if_neg e,if_neg]
     rintro rfl
     exact e (by rw [i2,h1])
   by_cases h3:(zcI x s k).2=0
   ·rw [h3]
    refine ziS _ fun q hq=>?_
    rw [hval q hq]
    split
    ·exact h3
    ·rfl
   ·have h4:=hval _ i1
    rw [if_pos rfl] at h4
    rw [← h4]
    refine zx (ziS _ fun q hq=>?_) i1 (by rw [h4];exact h3)
    rw [hval q (by omega),if_neg (by omega)]
  rw [herr]
  by_cases h3:(zcI x s k).2=0
  ·rw [if_neg (Decidable.not_not.2 h3),if_pos h3]
   unfold zlp
   rw [map_set hsk (f:=zdT s k) (p:=s.label) _ i1 (by rw [i2,h1]) fun y _ hne=>if_neg hne,i2]
   have:zdT s k x=(zcI x s k).1:=by
    unfold zdT
    rw [if_pos h1.symm,zsT x s k hk]
   rw [this]
  ·rw [if_pos h3,if_neg h3]
def zfv (m:Mg) (i side:Int):Mg × Int:=
 if ¬ ziE m=0 then (zbz,ziE m)
 else if i<0∨((zK m).length:Int)≤i∨side<0∨2<side then (zbz,2)
 else if ¬ (zcF m (atQ (zK m) i.toNat) side.toNat).2=0 then (zbz,(zcF m (atQ (zK m) i.toNat) side.toNat).2)
 else if ¬ ziE (zcF m (atQ (zK m) i.toNat) side.toNat).1=0 then (zbz,ziE (zcF m (atQ (zK m) i.toNat) side.toNat).1)
 else ((zcF m (atQ (zK m) i.toNat) side.toNat).1,0)
theorem zsX (m:Mg) (i side:Int):zfv m i side=zaT m i side:=by
 unfold zfv zaT
 simp only [zkm]
 by_cases h0:¬ zw m=0
 ·rw [if_pos h0,if_pos h0]
 rw [if_neg h0,if_neg h0]
 by_cases h1:i<0∨((zK m).length:Int)≤i∨side<0∨2<side
 ·rw [if_pos h1,if_pos h1]
 rw [if_neg h1,if_neg h1,zpE (Decidable.not_not.1 h0) (zyf (by omega)) (by omega)]
end
section
open Go Go.RowKit
theorem zuq:∀ {l:List UInt8},(∀ j,j<l.length→¬ l.getD j 0=47)→Lib.indexByte l 47 = -1
 | [],_=>rfl
 | c :: r,h=>by
  have h0:¬ c=47:=h 0 (by simp)
  have ih:=zuq (l:=r) fun j hj=>h (j+1) (by simpa using hj)
  unfold Lib.indexByte
  rw [if_neg (by simpa using h0),ih]
  rfl
theorem zup:∀ {l:List UInt8} {q:Nat},q<l.length→(∀ j,j<q→¬ l.getD j 0=47)→l.getD q 0=47→Lib.indexByte l 47=(q:Int)
 | [],q,hq,_,_=>by simp at hq
 | c :: r,0,_,_,h1=>by
  have h0:c=47:=h1
  unfold Lib.indexByte
  rw [if_pos (by simpa using h0)]
  rfl
 | c :: r,q+1,hq,h,h1=>by
  have h0:¬ c=47:=h 0 (by omega)
  have ih:=zup (l:=r) (q:=q) (by simpa using hq) (fun j hj=>h (j+1) (by omega)) h1
  unfold Lib.indexByte
  rw [if_neg (by simpa using h0),ih,if_neg (by simp)]
  simp
def ziV (s:ByteArray):ByteArray × ByteArray × Bool:=
 if 0≤Lib.indexByte s.data.toList 47 then (s.extract 0 (Lib.indexByte s.data.toList 47).toNat,s.extract ((Lib.indexByte s.data.toList 47).toNat+1) s.size,true) else (s,⟨#[]⟩,false)
def zkT (l:List UInt8):Bool:=(zaH l).all zaq
theorem zwT (s:ByteArray):zkT s.data.toList=(zaq (ziV s).1.data.toList && (if (ziV s).2.2=true then zkT (ziV s).2.1.data.toList else true)):=by
 unfold ziV zkT
 have hg:=Lib.indexByte_ge s.data.toList 47
 by_cases h:0≤Lib.indexByte s.data.toList 47
 ·obtain⟨i,hi⟩:∃ i:Nat,Lib.indexByte s.data.toList 47=i:=⟨_,(Int.toNat_of_nonneg h).symm⟩
  obtain⟨h1,h2⟩:=zeW hi
  rw [if_pos h,h2,hi]
  simp only [Int.toNat_natCast,List.all_cons,if_true,zhq]
  rw [zct]
  simp only [List.drop_zero,Nat.sub_zero]
 ·rw [if_neg h,zhc (by omega)]
  simp
theorem zEq {s:ByteArray} (h:(ziV s).2.2=true):(ziV s).2.1.size<s.size:=by
 unfold ziV at h ⊢
 split
 ·rename_i h0
  obtain⟨i,hi⟩:∃ i:Nat,Lib.indexByte s.data.toList 47=i:=⟨_,(Int.toNat_of_nonneg h0).symm⟩
  have h1:=(zeW hi).1
  have hsz:s.data.toList.length=s.size:=by simp
  rw [hi]
  simp only [Int.toNat_natCast,ByteArray.size_extract]
  omega
 ·rename_i h0
  rw [if_neg h0] at h;cases h
def zcb (f:Fl) (a:List Fl × Bool) (x:Fl):List Fl × Bool:=
 if x.path=f.path then (if (!a.2 && leS f.path x.path)=true then (a.1++[f],true) else a) else (if (!a.2 && leS f.path x.path)=true then (a.1++[f]++[x],true) else (a.1++[x],a.2))
def wfN (f:Fl) (l:List Fl) (q:Nat):List Fl × Bool:=(l.take q).foldl (zcb f) ([],false)
theorem zsr (f:Fl) (l:List Fl) (q:Nat) (h:q<l.length):wfN f l (q+1)=zcb f (wfN f l q) l[q]:=by
 unfold wfN;rw [List.take_succ_eq_append_getElem h,List.foldl_append];rfl
theorem zmi (f:Fl):∀ (l:List Fl) (a:List Fl),l.foldl (zcb f) (a,true)=(a++l.filter (fun y=>decide (¬ y.path=f.path)),true)
 | [],a=>by simp
 | x :: l,a=>by
  rw [List.foldl_cons]
  by_cases h:x.path=f.path
  ·have e:zcb f (a,true) x=(a,true):=by unfold zcb;rw [if_pos h,if_neg (by simp)]
   rw [e,zmi f l a,List.filter_cons_of_neg (by simpa using h)]
  ·have e:zcb f (a,true) x=(a++[x],true):=by unfold zcb;rw [if_neg h,if_neg (by simp)]
   rw [e,zmi f l _,List.filter_cons_of_pos (by simpa using h)]
   simp
theorem zgr (a b:ByteArray):leS a b = !ltS b a:=by
 cases h:leS a b with
 | false=>
  have:=(zdq b a).2 (zhP h)
  rw [this];rfl
 | true=>
  cases h2:ltS b a with
  | false=>rfl
  | true=>
   have h3:=(zdq b a).1 h2
   unfold leS at h
   rcases Bool.or_eq_true_iff.1 h with h4 | h4
   ·exact absurd (zeo h3 ((zdq a b).1 h4)) (zai _)
   ·have:=of_decide_eq_true h4
    subst this
    exact absurd h3 (zai _)
theorem zwX (f:Fl):∀ (l:List Fl) (a:List Fl),(if (l.foldl (zcb f) (a,false)).2=true then (l.foldl (zcb f) (a,false)).1 else (l.foldl (zcb f) (a,false)).1++[f])=a++wF f l
 | [],a=>by simp [wF]
 | x :: l,a=>by
  rw [List.foldl_cons,wF]
  cases h:ltS x.path f.path with
  | true=>
   have hne:¬ x.path=f.path:=zwm ((zdq _ _).1 h)
   have e:zcb f (a,false) x=(a++[x],false):=by
    unfold zcb
    rw [if_neg hne,zgr,h,if_neg (by simp)]
   rw [e,zwX f l _,if_pos rfl]
   simp
  | false=>
   rw [if_neg (show ¬ (false=true) by simp)]
   by_cases hp:x.path=f.path
   ·have e:zcb f (a,false) x=(a++[f],true):=by
     unfold zcb
     rw [if_pos hp,zgr,h,if_pos (by simp)]
    rw [e,zmi,List.filter_cons_of_neg (by simpa using hp)]
    simp
   ·have e:zcb f (a,false) x=(a++[f]++[x],true):=by
     unfold zcb
     rw [if_neg hp,zgr,h,if_pos (by simp)]
    rw [e,zmi,List.filter_cons_of_pos (by simpa using hp)]
    simp
theorem zDn (f:Fl) (l:List Fl):(if (wfN f l l.length).2=true then (wfN f l l.length).1 else (wfN f l l.length).1++[f])=wF f l:=by
 unfold wfN
 rw [List.take_length]
 exact zwX f l []
theorem zwY (f:Fl) (l:List Fl):∀ q,(wfN f l q).1.length≤2 * q
 | 0=>by simp [wfN]
 | q+1=>by
  have ih:=zwY f l q
  by_cases h:q<l.length
  ·rw [zsr f l q h]
   unfold zcb
   split <;> split <;> simp <;> omega
  ·have e:wfN f l (q+1)=wfN f l q:=by unfold wfN;rw [List.take_of_length_le (by omega),List.take_of_length_le (by omega)]
   rw [e];omega
theorem zoK (p:Ex→Bool) (l:List Ex) (q:Nat) (h:q<l.length):zdJ p (l.take (q+1))=(zdJ p (l.take q) || zcZ p l[q]):=by
 rw [List.take_succ_eq_append_getElem h,zfa]
 simp [zdJ]
theorem zyh (p:Ex→Bool):∀ (l:List Ex) (q:Nat) (h:q<l.length),zcZ p l[q]=true→zdJ p l=true
 | x :: xs,0,_,he=>by simp only [List.getElem_cons_zero] at he;simp [zdJ,he]
 | x :: xs,q+1,h,he=>by simp only [List.getElem_cons_succ] at he;simp [zdJ,zyh p xs q (by simpa using h) he]
def zkb (c:Tc) (k:Nat):Bool:=!zfp c k && neS (zal c k)
theorem zCU (c:Tc):((!c.inB && neS c.base) || (!c.inL && neS c.left) || (!c.inR && neS c.right))=(zkb c 0 || zkb c 1 || zkb c 2):=by
 unfold zkb zfp zal zfx
 simp only [if_true,if_neg (show ¬ (1:Nat)=0 by decide),if_neg (show ¬ (2:Nat)=0 by decide),if_neg (show ¬ (2:Nat)=1 by decide)]
 cases (!c.inB && neS c.base) <;> cases (!c.inL && neS c.left) <;> rfl
end
section
open Go Go.RowKit
theorem zkF {s:ByteArray} {j:Nat} (hj:j<s.size):s.data[j]! = s.data.toList.getD j 0:=by
 have h:j<s.data.size:=hj
 rw [getElem!_pos s.data j h]
 have h2:j<s.data.toList.length:=by simpa using h
 rw [List.getD_eq_getElem?_getD,Array.getElem?_toList,Array.getElem?_eq_getElem h]
 rfl
theorem zuH {s:ByteArray} {k:Nat} (hk:k≤s.size) (h:∀ j,k≤j→j<s.size→¬ (s.data.toList.getD j 0).toNat=47) (h1:k=0∨(s.data.toList.getD (k - 1) 0).toNat=47):Lib.lastIndexByte s 47+1=k:=by
 unfold Lib.lastIndexByte
 rcases Lib.lastIdx_spec s 47 s.size with⟨h5,h6⟩ | ⟨i,hi,h5,h6,h7⟩
 ·rw [h5]
  rcases h1 with h1 | h1
  ·omega
  ·by_cases h0:k=0
   ·omega
   ·have:=h6 (k - 1) (by omega)
    rw [zkF (by omega)] at this
    omega
 ·rw [h5]
  rw [zkF hi] at h6
  have h8:i<k:=by
   by_cases h9:k≤i
   ·exact absurd (by omega) (h i h9 hi)
   ·omega
  rcases h1 with h1 | h1
  ·omega
  ·by_cases h9:i<k - 1
   ·have:=h7 (k - 1) h9 (by omega)
    rw [zkF (by omega)] at this
    omega
   ·omega
abbrev zsY (s:ByteArray) (k:Nat):St:=⟨[(0,.d (.raw (.string s))),(3,.d (.raw (.int .i64 k)))],[],[]⟩
theorem znp (s:ByteArray):Con Tryz.prog 149 [.d (.raw (.string s))] (.d (.raw (.string (zZ s)))):=by
 refine zh Tryz.func149 rfl (by decide +kernel) rfl rfl (by simp [Tryz.ntmps149]) fun A hA=>?_
 rw [Tryz.ntmps149] at hA
 refine goC 400 ?_
 simp only [go_sem,hA]
 refine zb 400 (zhb s) rfl (by simp only [go_sem]) (by simp only [go_sem,hA]) ?_
 cases hl:zX s.data.toList with
 | false=>
  have hr:zZ s=⟨#[]⟩:=by unfold zZ;rw [hl];rfl
  simp only [go_sem,hA,hr,Tryz.results149]
 | true=>
  have hr:zZ s=s.extract (Lib.lastIndexByte s 47+1).toNat s.size:=by unfold zZ;rw [hl];rfl
  have hsz:s.size≤90:=by
   unfold zX at hl
   simp only [Bool.and_eq_true,decide_eq_true_eq] at hl
   exact hl.1
  simp only [go_sem,hA]
  refine zd [0,3] [] [] (fun y σ=>∃ k:Nat,k≤s.size∧y=k∧(∀ j,k≤j→j<s.size→¬ (s.data.toList.getD j 0).toNat=47)∧σ=zsY s k) s.size ⟨s.size,by omega,rfl,fun j h1 h2=>by omega,by simp only [go_sem,zsY]⟩ ?_
  rintro k σ ⟨k',hk,rfl,hf,rfl⟩
  refine goC 400 ?_
  by_cases hlt:0<k
  ·have k1:decide ((0:Int)<(k:Int))=true:=decide_eq_true (by omega)
   have hk1:((k:Int) - 1).toNat=k - 1:=by omega
   have hin:zc ((k:Int) - 1):=by unfold zc;omega
   by_cases h47:((s.data.toList.getD (k - 1) 0).toNat:Int)=47
   ·have g:(decide ¬ ((s.data.toList.getD (k - 1) 0).toNat:Int)=47)=false:=decide_eq_false fun h=>h h47
    have he:=zuH hk hf (.inr (by omega))
    have hr2:zZ s=s.extract k s.size:=by rw [hr,he,Int.toNat_natCast]
    simp only [go_sem,hA,zsY,k1,hk1,g,hr2,Int.toNat_natCast,Tryz.results149]
    exact⟨hin,⟨by omega,by omega⟩,⟨by omega,by omega⟩⟩
   ·have g:(decide ¬ ((s.data.toList.getD (k - 1) 0).toNat:Int)=47)=true:=decide_eq_true h47
    simp only [go_sem,hA,zsY,k1,hk1,g]
    refine⟨hin,⟨by omega,by omega⟩,hin,k - 1,by omega,k - 1,by omega,rfl,fun j h1 h2=>?_,?_⟩
    ·by_cases e:j=k - 1
     ·subst e;omega
     ·exact hf j (by omega) h2
    ·have e:((k - 1:Nat):Int)=(k:Int) - 1:=by omega
     simp only [e]
  ·have k1:decide ((0:Int)<(k:Int))=false:=decide_eq_false (by omega)
   obtain rfl:k=0:=by omega
   have he:=zuH hk hf (.inl rfl)
   have hr2:zZ s=s.extract 0 s.size:=by rw [hr,he];rfl
   simp only [go_sem,hA,zsY,undef,hr2,Tryz.results149]
   exact⟨by omega,by rfl⟩
abbrev zxi (label:ByteArray) (l:List ByteArray) (q:Nat):St:=⟨[(0,.d (.raw (.string label))),(1,.d (.sl (zv l))),(5,.d (.raw (.int .i64 q)))],[],[]⟩
abbrev zxh (label:ByteArray) (l:List ByteArray) (q k:Nat):St:=⟨[(0,.d (.raw (.string label))),(1,.d (.sl (zv l))),(5,.d (.raw (.int .i64 q))),(6,.d (.raw (.int .i64 k)))],[],[]⟩
theorem zAV (label:ByteArray) (l:List ByteArray) (hl:l.length≤1048576):Con Tryz.prog 84 [.d (.raw (.string label)),.d (.sl (zv l))] (.d (.raw (.int .i64 (zj (zcM label l) l.length)))):=by
 refine zh Tryz.func84 rfl (by decide +kernel) rfl rfl (by simp [Tryz.ntmps84]) fun A hA=>?_
 rw [Tryz.ntmps84] at hA
 refine goC 400 ?_
 simp only [go_sem,hA]
 refine zd [0,1,5] [] [] (fun y σ=>∃ q:Nat,q≤l.length∧y=l.length - q∧zj (zcM label l) q=0∧σ=zxi label l q) l.length ⟨0,by omega,by omega,rfl,by simp only [go_sem,zxi]⟩ ?_
 rintro y σ ⟨q,hq,rfl,hf,rfl⟩
 refine goC 400 ?_
 by_cases hlt:q<l.length
 case neg=>
  have k1:decide ((q:Int)<(l.length:Int))=false:=decide_eq_false (by omega)
  obtain rfl:q=l.length:=by omega
  simp only [go_sem,hA,zxi,za,k1,hf,Tryz.results84]
 have k1:decide ((q:Int)<(l.length:Int))=true:=decide_eq_true (by omega)
 have hat:=zhX l q hlt
 have hhit:∀ e:Int,¬ e=0→zcM label l q=e→zj (zcM label l) l.length=e:=fun e h0 h=>by
  have h2:=zx (n:=l.length) hf hlt (by rw [h];exact h0)
  rw [h2,h]
 simp only [go_sem,hA,zxi,za,k1,Int.toNat_natCast,zF l q hlt]
 refine⟨⟨by omega,by omega⟩,?_⟩
 refine zb 400 (znp l[q]) rfl (by simp only [go_sem]) (by simp only [go_sem,hA]) ?_
 simp only [go_sem]
 refine zb 400 (zeV (zZ l[q])) rfl (by simp only [go_sem]) (by simp only [go_sem,hA]) ?_
 cases hn:zI (zZ l[q]) with
 | false=>
  have hr:=hhit 6 (by decide) (by unfold zcM;rw [hat,hn];rfl)
  simp only [go_sem,hA,hr,Tryz.results84]
 | true=>
 have hu:zcM label l q=if (l.take q).any (fun u=>decide (zZ u=zZ l[q])) then 7 else if l[q]=label then 23 else 0:=by unfold zcM;rw [hat,hn];rfl
 simp only [go_sem,hA]
 refine zd [0,1,5,6] [] [] (fun y σ=>∃ k:Nat,k≤q∧y=q - k∧(l.take k).any (fun u=>decide (zZ u=zZ l[q]))=false∧σ=zxh label l q k) q ⟨0,by omega,by omega,rfl,by simp only [go_sem,zxh]⟩ ?_
 rintro y σ ⟨k,hk,rfl,hf2,rfl⟩
 refine goC 400 ?_
 by_cases hlt2:k<q
 ·have k2:decide ((k:Int)<(q:Int))=true:=decide_eq_true (by omega)
  have hkl:k<l.length:=by omega
  simp only [go_sem,hA,zxh,za,k2,Int.toNat_natCast,zF l k hkl,mixed]
  refine⟨⟨by omega,by omega⟩,?_⟩
  refine zbO 400 (znp l[k]) rfl (by simp only [go_sem]) (by simp only [go_sem,hA]) ?_
  simp only [go_sem,hA,za,Int.toNat_natCast,zF l q hlt]
  refine⟨⟨by omega,by omega⟩,?_⟩
  refine zbO 400 (znp l[q]) rfl (by simp only [go_sem]) (by simp only [go_sem,hA]) ?_
  cases he:decide (zZ l[k]=zZ l[q]) with
  | true=>
   have hr:=hhit 7 (by decide) (by
    rw [hu,if_pos]
    exact List.any_eq_true.2 ⟨l[k],List.mem_take_iff_getElem.2 ⟨k,by omega,rfl⟩,he⟩)
   simp only [go_sem,hA,he,hr,Tryz.results84]
   show chk _ _ _=true
   kernel_rfl
  | false=>
   simp only [go_sem,hA,he]
   refine⟨by show chk _ _ _=true;kernel_rfl,by unfold zc;omega,q - (k+1),by omega,k+1,by omega,rfl,?_,rfl⟩
   rw [List.take_succ_eq_append_getElem hkl,List.any_append,hf2]
   simp [he]
 ·have k2:decide ((k:Int)<(q:Int))=false:=decide_eq_false (by omega)
  obtain rfl:k=q:=by omega
  rw [hf2] at hu
  simp only [go_sem,hA,zxh,za,k2,Int.toNat_natCast,zF l k hlt]
  refine⟨⟨by omega,by omega⟩,?_⟩
  by_cases h2:l[k]=label
  ·have g2:decide (l[k]=label)=true:=decide_eq_true h2
   have hr:=hhit 23 (by decide) (by rw [hu];exact if_pos h2)
   simp only [go_sem,hA,g2,hr,Tryz.results84]
  ·have g2:decide (l[k]=label)=false:=decide_eq_false h2
   have hz:=zp hf (by rw [hu];exact if_neg h2)
   simp only [go_sem,hA,g2]
   exact⟨by unfold zc;omega,l.length - (k+1),by omega,k+1,by omega,rfl,hz,rfl⟩
abbrev zDF (k:Int) (n m:ByteArray) (i d:Int) (s:List Ex) (nm:ByteArray) (q:Nat):St:=⟨[(1,.d (.raw (.string nm))),(2,.box 0 0),(5,.d (.raw (.int .i64 q)))],[(0,some (.cell 105 (zcX k n m i d s)))],[]⟩
theorem rRefers_step (N:Nat) (nm:ByteArray) (ih:∀ t:Ex,nodesE t<N→nodesE t≤1048576→Con Tryz.prog 153 [avE t,.d (.raw (.string nm))] (.d (.raw (.bool (zcZ (zck nm) t)))))
  (k:Int) (n m:ByteArray) (i d:Int) (s:List Ex) (hN:nodesE (.mk k n m i d s)<N+1) (hb:nodesE (.mk k n m i d s)≤1048576):Con Tryz.prog 153 [avE (.mk k n m i d s),.d (.raw (.string nm))] (.d (.raw (.bool (zcZ (zck nm) (.mk k n m i d s))))):=by
 rw [nodesE] at hN hb
 have hlen:=zC s
 refine zh Tryz.func153 rfl (by decide +kernel) rfl (by simp only [AV.closed,zt,avE,zU,Bool.and_self]) (by simp [Tryz.ntmps153]) fun A hA=>?_
 rw [Tryz.ntmps153] at hA
 refine goC 300 ?_
 have hr0:zcZ (zck nm) (.mk k n m i d s)=(decide (k=5) && decide (n=nm) || zdJ (zck nm) s):=by rw [zcZ];rfl
 cases hk:decide (k=5)
 case' true=>cases hn:decide (n=nm)
 case true.true=>
  rw [hk,hn] at hr0
  simp only [go_sem,hA,avE,zaZ,hk,hn,hr0,Bool.true_and,Bool.true_or,Tryz.results153]
 all_goals
  rw [hk] at hr0
  try rw [hn] at hr0
  simp only [Bool.false_and,Bool.true_and,Bool.false_or] at hr0
  first | simp only [go_sem,hA,avE,zaZ,hk,hn] | simp only [go_sem,hA,avE,zaZ,hk,undef]
  refine zd [1,2,5] [0] [] (fun x σ=>∃ q:Nat,q≤s.length∧x=s.length - q∧zdJ (zck nm) (s.take q)=false∧σ=zDF k n m i d s nm q) s.length ⟨0,by omega,by omega,rfl,by simp only [go_sem,zDF]⟩ ?_
  rintro x σ ⟨q,hq,rfl,hf,rfl⟩
  refine goC 300 ?_
  by_cases hlt:q<s.length
  ·have g1:decide ((q:Int)<(s.length:Int))=true:=decide_eq_true (by omega)
   have hn1:=zam s q hlt
   have hc:=ih s[q] (by omega) (by omega)
   simp only [go_sem,hA,zDF,zg,g1,Int.toNat_natCast,zap s q hlt]
   refine⟨⟨by omega,by omega⟩,?_⟩
   refine zb 300 hc rfl (by simp only [go_sem,zl]) (by simp only [go_sem,hA]) ?_
   cases he:zcZ (zck nm) s[q] with
   | true=>
    rw [zyh _ s q hlt he] at hr0
    simp only [go_sem,hA,hr0,Tryz.results153]
   | false=>
    simp only [go_sem,hA]
    exact⟨by unfold zc;omega,s.length - (q+1),by omega,q+1,by omega,rfl,by rw [zoK _ s q hlt,hf,he];rfl,rfl⟩
  ·have g1:decide ((q:Int)<(s.length:Int))=false:=decide_eq_false (by omega)
   obtain rfl:q=s.length:=by omega
   rw [List.take_length] at hf
   rw [hf] at hr0
   simp only [go_sem,hA,zDF,zg,g1,hr0,Tryz.results153]
theorem zyR (nm:ByteArray) (N:Nat):∀ t:Ex,nodesE t<N→nodesE t≤1048576→Con Tryz.prog 153 [avE t,.d (.raw (.string nm))] (.d (.raw (.bool (zcZ (zck nm) t)))):=by
 induction N with
 | zero=>intro t h;omega
 | succ N ih=>intro t h hb;cases t;exact rRefers_step N nm ih _ _ _ _ _ _ h hb
end
section
open Go Go.RowKit
theorem zAX (label:ByteArray) (d:Dc) (hb:nodesE d.body≤524288):Con Tryz.prog 85 [.d (.raw (.string label)),avD d] (.d (.raw (.int .i64 (zDJ label d)))):=by
 refine zh Tryz.func85 rfl (by decide +kernel) rfl rfl (by simp [Tryz.ntmps85]) fun A hA=>?_
 rw [Tryz.ntmps85] at hA
 have hr0:zDJ label d=if d.id<1 then 2 else if ¬ zaE d=0 then zaE d else if zbd 4 d.body then 9 else if 0<(zir d.body).length then 21 else if zcZ (zck label) d.body then 1 else 0:=rfl
 refine goC 400 ?_
 by_cases h1:d.id<1
 ·have g1:decide (d.id<1)=true:=decide_eq_true h1
  rw [if_pos h1] at hr0
  simp only [go_sem,hA,avD,g1,hr0,Tryz.results85]
 have g1:decide (d.id<1)=false:=decide_eq_false h1
 rw [if_neg h1] at hr0
 simp only [go_sem,hA,avD,g1]
 refine zb 400 (zrm d hb) rfl (by simp only [go_sem,avD]) (by simp only [go_sem,hA]) ?_
 by_cases h2:zaE d=0
 case neg=>
  have g2:(decide ¬ zaE d=0)=true:=decide_eq_true h2
  rw [if_pos h2] at hr0
  simp only [go_sem,hA,g2,hr0,Tryz.results85]
 have g2:(decide ¬ zaE d=0)=false:=by simp [h2]
 rw [if_neg (by simp [h2])] at hr0
 simp only [go_sem,hA,g2]
 refine zb 400 (zAQ 4 (nodesE d.body+1) d.body (by omega) (by omega)) rfl (by simp only [go_sem,zl]) (by simp only [go_sem,hA]) ?_
 cases h3:zbd 4 d.body with
 | true=>
  rw [h3,if_pos rfl] at hr0
  simp only [go_sem,hA,hr0,Tryz.results85]
 | false=>
 rw [h3,if_neg (by simp)] at hr0
 simp only [go_sem,hA]
 refine zb 400 (zDR d.body hb) rfl (by simp only [go_sem,zl]) (by simp only [go_sem,hA]) ?_
 by_cases hf:0<(zir d.body).length
 ·have g5:decide ((0:Int)<((zir d.body).length:Int))=true:=decide_eq_true (by omega)
  rw [if_pos hf] at hr0
  simp only [go_sem,hA,za,g5,hr0,Tryz.results85]
 have g5:decide ((0:Int)<((zir d.body).length:Int))=false:=decide_eq_false (by omega)
 rw [if_neg hf] at hr0
 simp only [go_sem,hA,za,g5]
 refine zb 400 (zyR label (nodesE d.body+1) d.body (by omega) (by omega)) rfl (by simp only [go_sem,zl]) (by simp only [go_sem,hA]) ?_
 cases h6:zcZ (zck label) d.body with
 | true=>
  rw [h6,if_pos rfl] at hr0
  simp only [go_sem,hA,hr0,Tryz.results85]
 | false=>
  rw [h6,if_neg (by simp)] at hr0
  simp only [go_sem,hA,hr0,Tryz.results85]
abbrev zxu (x:Mo) (q:Nat):St:=⟨[(1,.box 0 0),(5,.d (.raw (.int .i64 q)))],[(0,some (.cell 56 [.d (.raw (.string x.label)),.d (.sl (zv x.uses)),.d (.sl (zak x.decls))]))],[]⟩
theorem zrn (x:Mo) (hb:∀ d ∈ x.decls,nodesE d.body≤524288):Con Tryz.prog 34 [avM x] (.d (.raw (.int .i64 (zN x)))):=by
 refine zh Tryz.func34 rfl (by decide +kernel) rfl rfl (by simp [Tryz.ntmps34]) fun A hA=>?_
 rw [Tryz.ntmps34] at hA
 refine goC 400 ?_
 simp only [go_sem,hA,avM]
 refine zb 400 (zhb x.label) rfl (by simp only [go_sem]) (by simp only [go_sem,hA]) ?_
 cases hl:zX x.label.data.toList with
 | false=>
  have hr:zN x=6:=by unfold zN;rw [hl];rfl
  simp only [go_sem,hA,hr,Tryz.results34]
 | true=>
 have hr0:zN x=if ¬ zeQ x.uses=0 then zeQ x.uses else if ¬ zj (zcM x.label x.uses) x.uses.length=0 then zj (zcM x.label x.uses) x.uses.length
   else if 100<x.decls.length then 4 else zj (bdE x.label x.decls) x.decls.length:=by unfold zN;rw [hl,if_pos rfl,zvn]
 simp only [go_sem,hA]
 refine zb 400 (zDL x.uses) rfl (by simp only [go_sem]) (by simp only [go_sem,hA]) ?_
 by_cases hs:zeQ x.uses=0
 case neg=>
  have g4:(decide ¬ zeQ x.uses=0)=true:=decide_eq_true hs
  rw [if_pos hs] at hr0
  simp only [go_sem,hA,g4,hr0,Tryz.results34]
 have g4:(decide ¬ zeQ x.uses=0)=false:=by simp [hs]
 have hul:x.uses.length≤20:=by
  unfold zeQ at hs
  split at hs
  ·cases hs
  ·omega
 rw [if_neg (by simp [hs])] at hr0
 simp only [go_sem,hA,g4]
 refine zb 400 (zAV x.label x.uses (by omega)) rfl (by simp only [go_sem]) (by simp only [go_sem,hA]) ?_
 by_cases hu:zj (zcM x.label x.uses) x.uses.length=0
 case neg=>
  have g5:(decide ¬ zj (zcM x.label x.uses) x.uses.length=0)=true:=decide_eq_true hu
  rw [if_pos hu] at hr0
  simp only [go_sem,hA,g5,hr0,Tryz.results34]
 have g5:(decide ¬ zj (zcM x.label x.uses) x.uses.length=0)=false:=by simp [hu]
 rw [if_neg (by simp [hu])] at hr0
 by_cases h2:100<x.decls.length
 ·have g2:decide ((100:Int)<(x.decls.length:Int))=true:=decide_eq_true (by omega)
  rw [if_pos h2] at hr0
  simp only [go_sem,hA,zf,g5,g2,hr0,Tryz.results34]
 have g2:decide ((100:Int)<(x.decls.length:Int))=false:=decide_eq_false (by omega)
 rw [if_neg h2] at hr0
 simp only [go_sem,hA,zf,g5,g2]
 refine zd [1,5] [0] [] (fun y σ=>∃ q:Nat,q≤x.decls.length∧y=x.decls.length - q∧zj (bdE x.label x.decls) q=0∧σ=zxu x q) x.decls.length ⟨0,by omega,by omega,rfl,by simp only [go_sem,zxu]⟩ ?_
 rintro y σ ⟨q,hq,rfl,hf2,rfl⟩
 refine goC 400 ?_
 by_cases hlt:q<x.decls.length
 case neg=>
  have k1:decide ((q:Int)<(x.decls.length:Int))=false:=decide_eq_false (by omega)
  obtain rfl:q=x.decls.length:=by omega
  rw [hf2] at hr0
  simp only [go_sem,hA,zxu,zf,k1,hr0,Tryz.results34]
 have k1:decide ((q:Int)<(x.decls.length:Int))=true:=decide_eq_true (by omega)
 have hat:=zce x.decls q hlt
 obtain⟨d,hd⟩:∃ d,x.decls[q]=d:=⟨_,rfl⟩
 rw [hd] at hat
 have hc:=zAX x.label d (hb d (by rw [← hd];exact List.getElem_mem hlt))
 rw [zDI] at hc
 simp only [go_sem,hA,zxu,zf,k1,Int.toNat_natCast,zS x.decls q hlt,hd,zcW,mixed]
 refine⟨⟨by omega,by omega⟩,?_⟩
 refine zbO 400 hc rfl (by simp only [go_sem,avD]) (by simp only [go_sem,hA]) ?_
 have hbe:bdE x.label x.decls q=if ¬ zbj x.label d=0 then zbj x.label d else if 0<q∧d.id≤(atD x.decls (q - 1)).id then 10 else 0:=by unfold bdE;rw [hat]
 by_cases he:zbj x.label d=0
 case neg=>
  have g6:(decide ¬ zbj x.label d=0)=true:=decide_eq_true he
  rw [if_pos he] at hbe
  rw [zx hf2 hlt (by rw [hbe];exact he),hbe] at hr0
  simp only [go_sem,hA,g6,hr0,Tryz.results34]
  show chk _ _ _=true
  kernel_rfl
 have g6:(decide ¬ zbj x.label d=0)=false:=by simp [he]
 rw [if_neg (by simp [he])] at hbe
 by_cases hq0:0<q
 ·have k2:decide ((0:Int)<(q:Int))=true:=decide_eq_true (by omega)
  have hq1:((q:Int) - 1).toNat=q - 1:=by omega
  have hat1:=zce x.decls (q - 1) (by omega)
  have hin:zc ((q:Int) - 1):=by unfold zc;omega
  rw [hat1] at hbe
  by_cases hi:d.id≤x.decls[q - 1].id
  ·have k3:decide (d.id≤x.decls[q - 1].id)=true:=decide_eq_true hi
   rw [if_pos ⟨hq0,hi⟩] at hbe
   rw [zx hf2 hlt (by rw [hbe];decide),hbe] at hr0
   simp only [go_sem,hA,g6,k2,zf,hq1,Int.toNat_natCast,zS x.decls (q - 1) (by omega),zS x.decls q hlt,hd,zcW,k3,hr0,mixed,Tryz.results34]
   exact⟨by show chk _ _ _=true;kernel_rfl,hin,⟨by omega,by omega⟩,⟨by omega,by omega⟩,by show chk _ _ _=true;kernel_rfl⟩
  ·have k3:decide (d.id≤x.decls[q - 1].id)=false:=decide_eq_false hi
   rw [if_neg fun h=>hi h.2] at hbe
   simp only [go_sem,hA,g6,k2,zf,hq1,Int.toNat_natCast,zS x.decls (q - 1) (by omega),zS x.decls q hlt,hd,zcW,k3,mixed]
   exact⟨by show chk _ _ _=true;kernel_rfl,hin,⟨by omega,by omega⟩,⟨by omega,by omega⟩,by show chk _ _ _=true;kernel_rfl,by unfold zc;omega,x.decls.length - (q+1),by omega,q+1,by omega,rfl,zp hf2 hbe,rfl⟩
 ·have k2:decide ((0:Int)<(q:Int))=false:=decide_eq_false (by omega)
  rw [if_neg fun h=>hq0 h.1] at hbe
  simp only [go_sem,hA,g6,k2,undef,mixed]
  exact⟨by show chk _ _ _=true;kernel_rfl,by show chk _ _ _=true;kernel_rfl,by unfold zc;omega,x.decls.length - (q+1),by omega,q+1,by omega,rfl,zp hf2 hbe,rfl⟩
end
section
open Go Go.RowKit
abbrev zsN (s:ByteArray) (q:Nat):St:=⟨[(0,.d (.raw (.string s))),(3,.d (.raw (.int .i64 q)))],[],[]⟩
theorem zAK (s:ByteArray):Con Tryz.prog 155 [.d (.raw (.string s))] (.d (.raw (.bool (zaq s.data.toList)))):=by
 refine zh Tryz.func155 rfl (by decide +kernel) rfl rfl (by simp [Tryz.ntmps155]) fun A hA=>?_
 rw [Tryz.ntmps155] at hA
 have hsl:s.data.toList.length=s.size:=by simp
 refine goC 400 ?_
 by_cases h1:s.size<1
 ·have g1:decide ((s.size:Int)<1)=true:=decide_eq_true (by omega)
  have hr:zaq s.data.toList=false:=by unfold zaq;rw [hsl,decide_eq_false (by omega:¬ 1≤s.size)];rfl
  simp only [go_sem,hA,g1,hr,undef,Tryz.results155]
 have g1:decide ((s.size:Int)<1)=false:=decide_eq_false (by omega)
 by_cases h2:24<s.size
 ·have g2:decide ((24:Int)<(s.size:Int))=true:=decide_eq_true (by omega)
  have hr:zaq s.data.toList=false:=by unfold zaq;rw [hsl,decide_eq_false (by omega:¬ s.size≤24),Bool.and_false];rfl
  simp only [go_sem,hA,g1,g2,hr,undef,Tryz.results155]
 have g2:decide ((24:Int)<(s.size:Int))=false:=decide_eq_false (by omega)
 have e3:(s=⟨#[46]⟩) ↔ s.data.toList=[46]:=zmG s [46]
 have e4:(s=⟨#[46,46]⟩) ↔ s.data.toList=[46,46]:=zmG s [46,46]
 by_cases h3:s=⟨#[46]⟩
 ·have g3:decide (s=⟨#[46]⟩)=true:=decide_eq_true h3
  have hr:zaq s.data.toList=false:=by rw [e3.1 h3];decide
  simp only [go_sem,hA,g1,g2,g3,hr,undef,Tryz.results155]
 have g3:decide (s=⟨#[46]⟩)=false:=decide_eq_false h3
 by_cases h4:s=⟨#[46,46]⟩
 ·have g4:decide (s=⟨#[46,46]⟩)=true:=decide_eq_true h4
  have hr:zaq s.data.toList=false:=by rw [e4.1 h4];decide
  simp only [go_sem,hA,g1,g2,g3,g4,hr,Tryz.results155]
 have g4:decide (s=⟨#[46,46]⟩)=false:=decide_eq_false h4
 have hv:zaq s.data.toList=s.data.toList.all fun c=>nmC c.toNat:=by
  unfold zaq
  have n3:decide (¬ s.data.toList=[46])=true:=decide_eq_true fun h=>h3 (e3.2 h)
  have n4:decide (¬ s.data.toList=[46,46])=true:=decide_eq_true fun h=>h4 (e4.2 h)
  rw [hsl,decide_eq_true (by omega:1≤s.size),decide_eq_true (by omega:s.size≤24),n3,n4]
  rfl
 simp only [go_sem,hA,g1,g2,g3,g4]
 refine zd [0,3] [] [] (fun y σ=>∃ q:Nat,q≤s.size∧y=s.size - q∧((s.data.toList.take q).all fun c=>nmC c.toNat)=true∧σ=zsN s q) s.size ⟨0,by omega,by omega,rfl,by simp only [go_sem,zsN]⟩ ?_
 rintro y σ ⟨q,hq,rfl,hf,rfl⟩
 refine goC 400 ?_
 by_cases hlt:q<s.size
 ·have k1:decide ((q:Int)<(s.size:Int))=true:=decide_eq_true (by omega)
  have hql:q<s.data.toList.length:=by omega
  have hgd:s.data.toList.getD q 0=s.data.toList[q]:=by simp only [List.getD_eq_getElem?_getD,List.getElem?_eq_getElem hql,Option.getD_some]
  have hstep:nmC ((s.data.toList.getD q 0).toNat:Int)=true→((s.data.toList.take (q+1)).all fun c=>nmC c.toNat)=true:=fun hc=>by
   rw [hgd] at hc
   rw [List.take_succ_eq_append_getElem hql,List.all_append,hf]
   simp only [List.all_cons,List.all_nil,hc,Bool.and_true]
  have hbad:nmC ((s.data.toList.getD q 0).toNat:Int)=false→zaq s.data.toList=false:=fun hc=>by
   rw [hgd] at hc
   rw [hv,List.all_eq_false]
   exact⟨_,List.getElem_mem hql,by rw [hc];decide⟩
  obtain⟨c,hcq⟩:∃ c,((s.data.toList.getD q 0).toNat:Int)=c:=⟨_,rfl⟩
  rw [hcq] at hstep hbad
  clear hf hv hgd hql hsl
  rcases zdk (decide ((97:Int)≤c)) (decide (c≤122)) with⟨l0,u0⟩ | l0 | ⟨l0,u0⟩
  all_goals first | have hn:nmC c=true:=by(unfold nmC;simp only [*,Bool.and_true,Bool.false_and,Bool.and_false,Bool.false_or,Bool.true_or]) | rcases zdk (decide ((65:Int)≤c)) (decide (c≤90)) with⟨l1,u1⟩ | l1 | ⟨l1,u1⟩
  all_goals first | have hn:nmC c=true:=by(unfold nmC;simp only [*,Bool.and_true,Bool.false_and,Bool.and_false,Bool.false_or,Bool.true_or,Bool.or_true]) | rcases zdk (decide ((48:Int)≤c)) (decide (c≤57)) with⟨l2,u2⟩ | l2 | ⟨l2,u2⟩
  all_goals first | have hn:nmC c=true:=by(unfold nmC;simp only [*,Bool.and_true,Bool.false_and,Bool.and_false,Bool.false_or,Bool.true_or,Bool.or_true]) | cases e0:decide (c=46)
  all_goals first | have hn:nmC c=true:=by(unfold nmC;simp only [*,Bool.and_true,Bool.false_and,Bool.and_false,Bool.false_or,Bool.true_or,Bool.or_true]) | cases e1:decide (c=95)
  all_goals first | have hn:nmC c=true:=by(unfold nmC;simp only [*,Bool.and_true,Bool.false_and,Bool.and_false,Bool.false_or,Bool.true_or,Bool.or_true]) | cases e2:decide (c=45)
  all_goals first | have hn:nmC c=true:=by(unfold nmC;simp only [*,Bool.and_true,Bool.false_and,Bool.and_false,Bool.true_or,Bool.or_true,Bool.or_false]) | have hn:nmC c=false:=by(unfold nmC;simp only [*,Bool.false_and,Bool.and_false,Bool.or_false])
  all_goals first | (simp only [go_sem,zsN,Int.toNat_natCast, *,undef];exact⟨⟨by omega,by omega⟩,by unfold zc;omega,s.size - (q+1),by omega,q+1,by omega,rfl,hstep hn,rfl⟩) | (simp only [go_sem,zsN,Int.toNat_natCast, *,undef,hbad hn,Tryz.results155];exact⟨by omega,by omega⟩)
 ·have k1:decide ((q:Int)<(s.size:Int))=false:=decide_eq_false (by omega)
  obtain rfl:q=s.size:=by omega
  rw [List.take_of_length_le (by omega)] at hf
  rw [hf] at hv
  simp only [go_sem,hA,zsN,k1,hv,Tryz.results155]
end
end Go.Proofs.YtpnjjmcimjlfkaaGreatDoor
