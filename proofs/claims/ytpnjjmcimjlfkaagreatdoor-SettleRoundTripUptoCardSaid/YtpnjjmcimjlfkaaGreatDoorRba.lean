/- Texts of this proof, part 27: what the proof uses of them. -/
import Derived.Test.YtpnjjmcimjlfkaaGreatDoorRaz
import Derived.Test.YtpnjjmcimjlfkaaGreatDoorRau
set_option maxRecDepth 100000
set_option maxHeartbeats 64000000
namespace Go.Proofs.YtpnjjmcimjlfkaaGreatDoor
section
open Go Go.RowKit Go.Shelf
attribute [local go_sem] Oper.semAt_some St.ren zhZ zgU AV.ren zdd Blk.ren St.setBlk List.getD_cons_zero
abbrev cwO (ver:Nat) (l:List UInt8) (bs:List (Nat × Option Blk)):Lent:=cwL (.box 901 1) ver l bs
theorem zyp (l:List Mo) (i:Nat) (h:i<l.length):(zbS l).getD i []=zhu l[i]:=by simp [zbS,List.getD_eq_getElem?_getD,h]
theorem zyq (l:List Fl) (i:Nat) (h:i<l.length):(zap l).getD i []=zib l[i]:=by simp [zap,List.getD_eq_getElem?_getD,h]
theorem zyt (l:List Tc) (i:Nat) (h:i<l.length):(zbc l).getD i []=zea l[i]:=by simp [zbc,List.getD_eq_getElem?_getD,h]
theorem zyr (l:List Dc) (i:Nat) (h:i<l.length):(zbf l).getD i []=zcb l[i]:=by simp [zbf,List.getD_eq_getElem?_getD,h]
theorem zeF {α:Type} (f:α->List UInt8) (l:List α) (q:Nat) (h:q<l.length):(l.take (q+1)).flatMap f=(l.take q).flatMap f++f l[q]:=by
 rw [List.take_succ_eq_append_getElem h,List.flatMap_append];simp
theorem zjC {α:Type} (f:α->List UInt8) (l:List α) (q:Nat) (h:q<l.length):((l.take q).flatMap f).length+(f l[q]).length<=(l.flatMap f).length:=by
 have h1:(l.take (q+1)).flatMap f++(l.drop (q+1)).flatMap f=l.flatMap f:=by rw [<- List.flatMap_append,List.take_append_drop]
 rw [<- h1,zeF f l q h,List.length_append,List.length_append];omega
abbrev gBx (m:Mg):List (Nat × Option Blk):=[(909,some (.cell 26 [.d (.sl (zbS m.ms)),.d (.sl (zap m.fs)),.d (.sl (zbc m.ts))]))]
abbrev zAS (m:Mg) (ver:Nat) (l:List UInt8) (q:Nat):St:=⟨[(0,.box 901 0),(1,.box 909 0),(2,.bnd 180 (.box 901 0)),(23,.d (.raw (.int .i64 m.ms.length))),(24,.d (.raw (.int .i64 q)))],(901,some (zim (.box 901 1) ver l)) :: gBx m,[(910,some (zil ver l))]⟩
theorem zGa (m:Mg) (hn:m.ms.length<=1048576) (hE:∀ x ∈ m.ms,∀ ver l,l.length+(moP x).length<=1099511627776->zI Tryz.prog 180 [.box 901 0,.at_ (zhu x)] (cwO ver l []) (zaG l (moP x) [])) (a:AV) (ha:cwA a) (ver:Nat) (l:List UInt8) (hb:l.length+((zb m.ms.length).length+(m.ms.flatMap moP).length)<=1099511627776):zI Tryz.prog 179 [.box 901 0,.box 909 0,.bnd 180 (.box 901 0)] (cwL a ver l (gBx m)) (zaG l (zb m.ms.length++m.ms.flatMap moP) (gBx m)):=by
 refine kL [901,909] [910] Tryz.func179 Tryz.ntmps179 fun A hA hX=>?_
 have hm7:AV.ment 907 a=false:=by rcases ha with rfl | rfl <;> rfl
 have hm0:AV.ment 4 a=false:=by rcases ha with rfl | rfl <;> rfl
 have hr7:a.ren 4 907=a:=by rcases ha with rfl | rfl <;> rfl
 refine goC 400 ?_
 simp only [go_sem,hA,zZ,hm0]
 refine zaA 4 907 rfl ⟨by rw [hX.1];rfl,by rw [hX.2];rfl⟩ (by simp only [go_sem,zai,zP,hm7]) rfl _ (by simp only [go_sem,hr7];rfl) ?_
 refine zae [901,907] [910] 400 (zcT a ver l ha m.ms.length (by omega) (by omega)) rfl rfl rfl rfl (by rcases ha with rfl | rfl <;> rfl) (by simp only [go_sem,hA]) (fun res L' h=>?_) (fun pv h=>(zn h).elim)
 obtain⟨rfl,ver1,rfl⟩:=zm h
 simp only [go_sem,hA,zZ]
 refine zc [0,1,2,23,24] [901,909] [910] (fun x σ=>∃ q ver,q<=m.ms.length/\x=m.ms.length - q/\σ=zAS m ver (l++(zb m.ms.length++(m.ms.take q).flatMap moP)) q) m.ms.length ⟨0,ver1,by omega,by omega,by simp only [List.take_zero,List.flatMap_nil,List.append_nil,go_sem];rfl⟩ ?_
 rintro x σ ⟨q,ver2,hq,rfl,rfl⟩
 refine goC 400 ?_
 by_cases hlt:q<m.ms.length
 ·have k1:decide ((q:Int)<(m.ms.length:Int))=true:=decide_eq_true (by omega)
  have hle:=zjC moP m.ms q hlt
  simp only [go_sem,hA,zAS,zZ,k1,Int.toNat_natCast,zyp m.ms q hlt]
  refine⟨⟨by omega,by omega,rfl⟩,?_⟩
  refine zcG [901] [910] 400 (hE _ (List.getElem_mem hlt) _ _ (by simp only [List.length_append];omega)) rfl rfl rfl rfl rfl (by simp only [go_sem,hA]) (fun res L' h=>?_) (fun pv h=>(zn h).elim)
  obtain⟨rfl,ver3,rfl⟩:=zm h
  simp only [go_sem,hA]
  exact⟨by unfold za;omega,m.ms.length - (q+1),by omega,q+1,ver3,by omega,rfl,by rw [zeF moP m.ms q hlt];simp only [List.append_assoc];rfl⟩
 ·have k1:decide ((q:Int)<(m.ms.length:Int))=false:=decide_eq_false (by omega)
  obtain rfl:q=m.ms.length:=by omega
  simp only [go_sem,hA,zAS,k1,List.take_length,Tryz.results179]
  exact⟨_,rfl,rfl,ver2,rfl⟩
abbrev zAU (m:Mg) (ver:Nat) (l:List UInt8) (q:Nat):St:=⟨[(0,.box 901 0),(1,.box 909 1),(2,.bnd 182 (.box 901 0)),(23,.d (.raw (.int .i64 m.fs.length))),(24,.d (.raw (.int .i64 q)))],(901,some (zim (.box 901 1) ver l)) :: gBx m,[(910,some (zil ver l))]⟩
theorem zGc (m:Mg) (hn:m.fs.length<=1048576) (hE:∀ x ∈ m.fs,∀ ver l,l.length+(flP x).length<=1099511627776->zI Tryz.prog 182 [.box 901 0,.at_ (zib x)] (cwO ver l []) (zaG l (flP x) [])) (ver:Nat) (l:List UInt8) (hb:l.length+((zb m.fs.length).length+(m.fs.flatMap flP).length)<=1099511627776):zI Tryz.prog 181 [.box 901 0,.box 909 1,.bnd 182 (.box 901 0)] (cwL (.box 901 1) ver l (gBx m)) (zaG l (zb m.fs.length++m.fs.flatMap flP) (gBx m)):=by
 refine kL [901,909] [910] Tryz.func181 Tryz.ntmps181 fun A hA hX=>?_
 refine goC 400 ?_
 simp only [go_sem,hA,zq]
 refine zaA 4 907 rfl ⟨by rw [hX.1];rfl,by rw [hX.2];rfl⟩ rfl rfl _ (by simp only [go_sem];rfl) ?_
 refine gL [901,907] [910] (zcT (.box 901 1) ver l (.inr rfl) m.fs.length (by omega) (by omega)) (fun pv h=>(zn h).elim) fun res L' h=>?_
 obtain⟨rfl,ver1,rfl⟩:=zm h
 simp only [go_sem,hA,zq]
 refine zc [0,1,2,23,24] [901,909] [910] (fun x σ=>∃ q ver,q<=m.fs.length/\x=m.fs.length - q/\σ=zAU m ver (l++(zb m.fs.length++(m.fs.take q).flatMap flP)) q) m.fs.length ⟨0,ver1,by omega,by omega,by simp only [List.take_zero,List.flatMap_nil,List.append_nil,go_sem];rfl⟩ ?_
 rintro x σ ⟨q,ver2,hq,rfl,rfl⟩
 refine goC 400 ?_
 by_cases hlt:q<m.fs.length
 ·have k1:decide ((q:Int)<(m.fs.length:Int))=true:=decide_eq_true (by omega)
  have hle:=zjC flP m.fs q hlt
  simp only [go_sem,hA,zAU,zq,k1,Int.toNat_natCast,zyq m.fs q hlt]
  refine⟨⟨by omega,by omega,rfl⟩,?_⟩
  refine zcG [901] [910] 400 (hE _ (List.getElem_mem hlt) _ _ (by simp only [List.length_append];omega)) rfl rfl rfl rfl rfl (by simp only [go_sem,hA]) (fun res L' h=>?_) (fun pv h=>(zn h).elim)
  obtain⟨rfl,ver3,rfl⟩:=zm h
  simp only [go_sem,hA]
  exact⟨by unfold za;omega,m.fs.length - (q+1),by omega,q+1,ver3,by omega,rfl,by rw [zeF flP m.fs q hlt];simp only [List.append_assoc];rfl⟩
 ·have k1:decide ((q:Int)<(m.fs.length:Int))=false:=decide_eq_false (by omega)
  obtain rfl:q=m.fs.length:=by omega
  simp only [go_sem,hA,zAU,k1,List.take_length,Tryz.results181]
  exact⟨_,rfl,rfl,ver2,rfl⟩
abbrev zAY (m:Mg) (ver:Nat) (l:List UInt8) (q:Nat):St:=⟨[(0,.box 901 0),(1,.box 909 2),(2,.bnd 184 (.box 901 0)),(23,.d (.raw (.int .i64 m.ts.length))),(24,.d (.raw (.int .i64 q)))],(901,some (zim (.box 901 1) ver l)) :: gBx m,[(910,some (zil ver l))]⟩
theorem zGg (m:Mg) (hn:m.ts.length<=1048576) (hE:∀ x ∈ m.ts,∀ ver l,l.length+(tcP x).length<=1099511627776->zI Tryz.prog 184 [.box 901 0,.at_ (zea x)] (cwO ver l []) (zaG l (tcP x) [])) (ver:Nat) (l:List UInt8) (hb:l.length+((zb m.ts.length).length+(m.ts.flatMap tcP).length)<=1099511627776):zI Tryz.prog 183 [.box 901 0,.box 909 2,.bnd 184 (.box 901 0)] (cwL (.box 901 1) ver l (gBx m)) (zaG l (zb m.ts.length++m.ts.flatMap tcP) (gBx m)):=by
 refine kL [901,909] [910] Tryz.func183 Tryz.ntmps183 fun A hA hX=>?_
 refine goC 400 ?_
 simp only [go_sem,hA,zD]
 refine zaA 4 907 rfl ⟨by rw [hX.1];rfl,by rw [hX.2];rfl⟩ rfl rfl _ (by simp only [go_sem];rfl) ?_
 refine gL [901,907] [910] (zcT (.box 901 1) ver l (.inr rfl) m.ts.length (by omega) (by omega)) (fun pv h=>(zn h).elim) fun res L' h=>?_
 obtain⟨rfl,ver1,rfl⟩:=zm h
 simp only [go_sem,hA,zD]
 refine zc [0,1,2,23,24] [901,909] [910] (fun x σ=>∃ q ver,q<=m.ts.length/\x=m.ts.length - q/\σ=zAY m ver (l++(zb m.ts.length++(m.ts.take q).flatMap tcP)) q) m.ts.length ⟨0,ver1,by omega,by omega,by simp only [List.take_zero,List.flatMap_nil,List.append_nil,go_sem];rfl⟩ ?_
 rintro x σ ⟨q,ver2,hq,rfl,rfl⟩
 refine goC 400 ?_
 by_cases hlt:q<m.ts.length
 ·have k1:decide ((q:Int)<(m.ts.length:Int))=true:=decide_eq_true (by omega)
  have hle:=zjC tcP m.ts q hlt
  simp only [go_sem,hA,zAY,zD,k1,Int.toNat_natCast,zyt m.ts q hlt]
  refine⟨⟨by omega,by omega,rfl⟩,?_⟩
  refine zcG [901] [910] 400 (hE _ (List.getElem_mem hlt) _ _ (by simp only [List.length_append];omega)) rfl rfl rfl rfl rfl (by simp only [go_sem,hA]) (fun res L' h=>?_) (fun pv h=>(zn h).elim)
  obtain⟨rfl,ver3,rfl⟩:=zm h
  simp only [go_sem,hA]
  exact⟨by unfold za;omega,m.ts.length - (q+1),by omega,q+1,ver3,by omega,rfl,by rw [zeF tcP m.ts q hlt];simp only [List.append_assoc];rfl⟩
 ·have k1:decide ((q:Int)<(m.ts.length:Int))=false:=decide_eq_false (by omega)
  obtain rfl:q=m.ts.length:=by omega
  simp only [go_sem,hA,zAY,k1,List.take_length,Tryz.results183]
  exact⟨_,rfl,rfl,ver2,rfl⟩
abbrev zAW (ds:List Dc) (ver:Nat) (l:List UInt8) (q:Nat):St:=⟨[(0,.box 901 0),(1,.at_ [.sl (zbf ds)]),(2,.bnd 247 (.box 901 0)),(23,.d (.raw (.int .i64 ds.length))),(24,.d (.raw (.int .i64 q)))],(901,some (zim (.box 901 1) ver l)) :: [],[(910,some (zil ver l))]⟩
theorem zGe (ds:List Dc) (hn:ds.length<=1048576) (hE:∀ x ∈ ds,∀ ver l,l.length+(dcP x).length<=1099511627776->zI Tryz.prog 247 [.box 901 0,.at_ (zcb x)] (cwO ver l []) (zaG l (dcP x) [])) (ver:Nat) (l:List UInt8) (hb:l.length+((zb ds.length).length+(ds.flatMap dcP).length)<=1099511627776):zI Tryz.prog 246 [.box 901 0,.at_ [.sl (zbf ds)],.bnd 247 (.box 901 0)] (cwL (.box 901 1) ver l ([])) (zaG l (zb ds.length++ds.flatMap dcP) ([])):=by
 refine kL [901] [910] Tryz.func246 Tryz.ntmps246 fun A hA hX=>?_
 refine goC 400 ?_
 simp only [go_sem,hA,zr]
 refine zaA 4 907 rfl ⟨by rw [hX.1];rfl,by rw [hX.2];rfl⟩ rfl rfl _ (by simp only [go_sem];rfl) ?_
 refine gL [901,907] [910] (zcT (.box 901 1) ver l (.inr rfl) ds.length (by omega) (by omega)) (fun pv h=>(zn h).elim) fun res L' h=>?_
 obtain⟨rfl,ver1,rfl⟩:=zm h
 simp only [go_sem,hA,zr]
 refine zc [0,1,2,23,24] [901] [910] (fun x σ=>∃ q ver,q<=ds.length/\x=ds.length - q/\σ=zAW ds ver (l++(zb ds.length++(ds.take q).flatMap dcP)) q) ds.length ⟨0,ver1,by omega,by omega,by simp only [List.take_zero,List.flatMap_nil,List.append_nil,go_sem];rfl⟩ ?_
 rintro x σ ⟨q,ver2,hq,rfl,rfl⟩
 refine goC 400 ?_
 by_cases hlt:q<ds.length
 ·have k1:decide ((q:Int)<(ds.length:Int))=true:=decide_eq_true (by omega)
  have hle:=zjC dcP ds q hlt
  simp only [go_sem,hA,zAW,zr,k1,Int.toNat_natCast,zyr ds q hlt]
  refine⟨⟨by omega,by omega,rfl⟩,?_⟩
  refine zcG [901] [910] 400 (hE _ (List.getElem_mem hlt) _ _ (by simp only [List.length_append];omega)) rfl rfl rfl rfl rfl (by simp only [go_sem,hA]) (fun res L' h=>?_) (fun pv h=>(zn h).elim)
  obtain⟨rfl,ver3,rfl⟩:=zm h
  simp only [go_sem,hA]
  exact⟨by unfold za;omega,ds.length - (q+1),by omega,q+1,ver3,by omega,rfl,by rw [zeF dcP ds q hlt];simp only [List.append_assoc];rfl⟩
 ·have k1:decide ((q:Int)<(ds.length:Int))=false:=decide_eq_false (by omega)
  obtain rfl:q=ds.length:=by omega
  simp only [go_sem,hA,zAW,k1,List.take_length,Tryz.results246]
  exact⟨_,rfl,rfl,ver2,rfl⟩
theorem zEZ (x:Fl) (hx:zAE x) (ver:Nat) (l:List UInt8) (hb:l.length+(flP x).length<=1099511627776):zI Tryz.prog 182 [.box 901 0,.at_ (zib x)] (cwO ver l []) (zaG l (flP x) []):=by
 refine kL [901] [910] Tryz.func182 Tryz.ntmps182 fun A hA hX=>?_
 unfold flP at hb ⊢
 rw [List.length_append] at hb
 refine goC 400 ?_
 simp only [go_sem,hA,zib]
 refine zae [901] [910] 400 (zgj _ _ x.path hx.1 _ (by omega)) rfl rfl rfl rfl rfl (by simp only [go_sem,hA]) (fun res L' h=>?_) (fun pv h=>(zn h).elim)
 obtain⟨rfl,ver,rfl⟩:=zm h
 simp only [go_sem,hA]
 refine zae [901] [910] 400 (zgj _ _ x.data hx.2 _ (by rw [List.length_append];omega)) rfl rfl rfl rfl rfl (by simp only [go_sem,hA]) (fun res L' h=>?_) (fun pv h=>(zn h).elim)
 obtain⟨rfl,ver,rfl⟩:=zm h
 simp only [go_sem,Tryz.results182]
 exact⟨_,rfl,rfl,ver,by rw [List.append_assoc]⟩
theorem zAb (hPT:zeI) (x:Mo) (hx:zyf x) (hE:∀ d ∈ x.decls,∀ ver l,l.length+(dcP d).length<=1099511627776->zI Tryz.prog 247 [.box 901 0,.at_ (zcb d)] (cwO ver l []) (zaG l (dcP d) [])) (ver:Nat) (l:List UInt8) (hb:l.length+(moP x).length<=1099511627776):zI Tryz.prog 180 [.box 901 0,.at_ (zhu x)] (cwO ver l []) (zaG l (moP x) []):=by
 refine kL [901] [910] Tryz.func180 Tryz.ntmps180 fun A hA hX=>?_
 unfold moP at hb ⊢
 simp only [List.length_append] at hb
 refine goC 400 ?_
 simp only [go_sem,hA,zhu]
 refine zae [901] [910] 400 (zgj _ _ x.label hx.1 _ (by omega)) rfl rfl rfl rfl rfl (by simp only [go_sem,hA]) (fun res L' h=>?_) (fun pv h=>(zn h).elim)
 obtain⟨rfl,ver,rfl⟩:=zm h
 simp only [go_sem,hA]
 refine zae [901] [910] 400 (zvS hPT _ _ x.uses hx.2.1 _ (by simp only [List.length_append];omega)) rfl rfl rfl rfl rfl (by simp only [go_sem,hA]) (fun res L' h=>?_) (fun pv h=>(zn h).elim)
 obtain⟨rfl,ver,rfl⟩:=zm h
 simp only [go_sem,hA]
 refine zae [901] [910] 400 (zGe x.decls hx.2.2.1 hE _ _ (by simp only [List.length_append];omega)) rfl rfl rfl rfl rfl (by simp only [go_sem,hA]) (fun res L' h=>?_) (fun pv h=>(zn h).elim)
 obtain⟨rfl,ver,rfl⟩:=zm h
 simp only [go_sem,Tryz.results180]
 exact⟨_,rfl,rfl,ver,by simp only [List.append_assoc]⟩
theorem zAe (m:Mg) (hm:m.Fit) (hEM:∀ x ∈ m.ms,∀ ver l,l.length+(moP x).length<=1099511627776->zI Tryz.prog 180 [.box 901 0,.at_ (zhu x)] (cwO ver l []) (zaG l (moP x) [])) (hEC:∀ x ∈ m.ts,∀ ver l,l.length+(tcP x).length<=1099511627776->zI Tryz.prog 184 [.box 901 0,.at_ (zea x)] (cwO ver l []) (zaG l (tcP x) []))
  (a:AV) (ha:cwA a) (ver:Nat) (l:List UInt8) (hb:l.length+(mgP m).length<=1099511627776):zI Tryz.prog 111 [.box 901 0,.box 909 0] (cwL a ver l (gBx m)) (zaG l (mgP m) (gBx m)):=by
 refine kL [901,909] [910] Tryz.func111 Tryz.ntmps111 fun A hA hX=>?_
 unfold mgP at hb ⊢
 simp only [List.length_append] at hb
 refine goC 400 ?_
 simp only [go_sem,hA]
 refine zae [901,909] [910] 400 (zGa m hm.ml hEM a ha _ _ (by omega)) rfl rfl rfl rfl (by rcases ha with rfl | rfl <;> rfl) (by simp only [go_sem,hA]) (fun res L' h=>?_) (fun pv h=>(zn h).elim)
 obtain⟨rfl,ver,rfl⟩:=zm h
 simp only [go_sem,hA]
 refine zae [901,909] [910] 400 (zGc m hm.fl (fun x hx ver l h=>zEZ x (hm.fs x hx) ver l h) _ _ (by simp only [List.length_append];omega)) rfl rfl rfl rfl rfl (by simp only [go_sem,hA]) (fun res L' h=>?_) (fun pv h=>(zn h).elim)
 obtain⟨rfl,ver,rfl⟩:=zm h
 simp only [go_sem,hA]
 refine zae [901,909] [910] 400 (zGg m hm.tl hEC _ _ (by simp only [List.length_append];omega)) rfl rfl rfl rfl rfl (by simp only [go_sem,hA]) (fun res L' h=>?_) (fun pv h=>(zn h).elim)
 obtain⟨rfl,ver,rfl⟩:=zm h
 simp only [go_sem,Tryz.results111]
 exact⟨_,rfl,rfl,ver,by simp only [List.append_assoc]⟩
theorem zhO (ver:Nat) (l:List UInt8) {n:Int} (hn:inM n) (rest:List D) (hb:l.length+(zb n.toNat).length<=1099511627776):zI Tryz.prog 243 [.box 901 0,.at_ (.raw (.int .i64 n) :: rest)] (cwO ver l []) (zaG l (zb n.toNat) []):=by
 have h:=zxN ver l n.toNat (zcl hn) rest hb
 rw [Int.toNat_of_nonneg hn.1] at h
 exact h
abbrev zbZ (bs:List (Nat × Option Blk)):List (Nat × Option Blk):=(904,some (.cell 142 [.box 901 0])) :: bs
theorem zGA (d:Dc) (hd:zjE d) (ver:Nat) (l:List UInt8) (hb:l.length+(zb d.id.toNat).length<=1099511627776):zI Tryz.prog 280 [.box 904 0,.box 905 0] (cwO ver l (zbZ [(905,some (.cell 310 [.at_ (zcb d)]))])) (zaG l (zb d.id.toNat) (zbZ [(905,some (.cell 310 [.at_ (zcb d)]))])):=by
 refine kL [901,904,905] [910] Tryz.func280 Tryz.ntmps280 fun A hA hX=>?_
 refine zev 0 [901] [910] rfl rfl mixed hA.2 (by rw [hA.1];decide) (by simp only [go_sem,hA]) (by decide +kernel) rfl rfl rfl rfl (by simp only [go_sem]) (by simp only [go_sem]) rfl (by kernel_rfl) rfl rfl (fun _=>rfl) rfl (zhO ver l hd.1 _ hb) rfl zac (fun env res L' h=>?_) (fun pv h=>(zn h).elim)
 obtain⟨rfl,ver',rfl⟩:=zm h
 exact⟨_,rfl,rfl,rfl,ver',rfl⟩
theorem zGy (d:Dc) (hd:zjE d) (ver:Nat) (l:List UInt8) (hb:l.length+(zb d.kind.toNat).length<=1099511627776):zI Tryz.prog 281 [.box 904 0,.box 905 0] (cwO ver l (zbZ [(905,some (.cell 310 [.at_ (zcb d)]))])) (zaG l (zb d.kind.toNat) (zbZ [(905,some (.cell 310 [.at_ (zcb d)]))])):=by
 refine kL [901,904,905] [910] Tryz.func281 Tryz.ntmps281 fun A hA hX=>?_
 refine zev 1 [901] [910] rfl rfl mixed hA.2 (by rw [hA.1];decide) (by simp only [go_sem,hA]) (by decide +kernel) rfl rfl rfl rfl (by simp only [go_sem]) (by simp only [go_sem]) rfl (by kernel_rfl) rfl rfl (fun _=>rfl) rfl (zhO ver l hd.2.1 _ hb) rfl zac (fun env res L' h=>?_) (fun pv h=>(zn h).elim)
 obtain⟨rfl,ver',rfl⟩:=zm h
 exact⟨_,rfl,rfl,rfl,ver',rfl⟩
theorem zGw (d:Dc) (ver:Nat) (l:List UInt8) (hb:l.length+(zL d.pub).length<=1099511627776):zI Tryz.prog 282 [.box 904 0,.box 905 0] (cwO ver l (zbZ [(905,some (.cell 310 [.at_ (zcb d)]))])) (zaG l (zL d.pub) (zbZ [(905,some (.cell 310 [.at_ (zcb d)]))])):=by
 refine kL [901,904,905] [910] Tryz.func282 Tryz.ntmps282 fun A hA hX=>?_
 refine zev 2 [901] [910] rfl rfl mixed hA.2 (by rw [hA.1];decide) (by simp only [go_sem,hA]) (by decide +kernel) rfl rfl rfl rfl (by simp only [go_sem]) (by simp only [go_sem]) rfl (by kernel_rfl) rfl rfl (fun _=>rfl) rfl (zgX ver l d.pub _ hb) rfl zac (fun env res L' h=>?_) (fun pv h=>(zn h).elim)
 obtain⟨rfl,ver',rfl⟩:=zm h
 exact⟨_,rfl,rfl,rfl,ver',rfl⟩
theorem zGu (hPT:zeI) (d:Dc) (hd:zjE d) (ver:Nat) (l:List UInt8) (hb:l.length+(zaQ d.names).length<=1099511627776):zI Tryz.prog 283 [.box 904 0,.box 905 0] (cwO ver l (zbZ [(905,some (.cell 310 [.at_ (zcb d)]))])) (zaG l (zaQ d.names) (zbZ [(905,some (.cell 310 [.at_ (zcb d)]))])):=by
 refine kL [901,904,905] [910] Tryz.func283 Tryz.ntmps283 fun A hA hX=>?_
 refine zev 3 [901] [910] rfl rfl mixed hA.2 (by rw [hA.1];decide) (by simp only [go_sem,hA]) (by decide +kernel) rfl rfl rfl rfl (by simp only [go_sem]) (by simp only [go_sem]) rfl (by kernel_rfl) rfl rfl (fun _=>rfl) rfl (zvS hPT ver l d.names hd.2.2.1 _ hb) rfl zac (fun env res L' h=>?_) (fun pv h=>(zn h).elim)
 obtain⟨rfl,ver',rfl⟩:=zm h
 exact⟨_,rfl,rfl,rfl,ver',rfl⟩
theorem zGs (d:Dc) (ver:Nat) (l:List UInt8) (hb:l.length+(zL d.doubt).length<=1099511627776):zI Tryz.prog 284 [.box 904 0,.box 905 0] (cwO ver l (zbZ [(905,some (.cell 310 [.at_ (zcb d)]))])) (zaG l (zL d.doubt) (zbZ [(905,some (.cell 310 [.at_ (zcb d)]))])):=by
 refine kL [901,904,905] [910] Tryz.func284 Tryz.ntmps284 fun A hA hX=>?_
 refine zev 4 [901] [910] rfl rfl mixed hA.2 (by rw [hA.1];decide) (by simp only [go_sem,hA]) (by decide +kernel) rfl rfl rfl rfl (by simp only [go_sem]) (by simp only [go_sem]) rfl (by kernel_rfl) rfl rfl (fun _=>rfl) rfl (zgX ver l d.doubt _ hb) rfl zac (fun env res L' h=>?_) (fun pv h=>(zn h).elim)
 obtain⟨rfl,ver',rfl⟩:=zm h
 exact⟨_,rfl,rfl,rfl,ver',rfl⟩
def zlo (k:Nat):Prop:=∀ e:Ex,zfc k e->∀ ver l,l.length+(exP e).length<=1099511627776->zI Tryz.prog 286 [.box 901 0,.at_ (zbj e),.d (.raw (.int .i64 k))] (cwO ver l []) (zaG l (exP e) [])
theorem zys (d:Dc):(zcb d).drop 5=zbj d.body:=by rw [zax];rfl
theorem zGq (hX:zlo 40) (d:Dc) (hd:zjE d) (ver:Nat) (l:List UInt8) (hb:l.length+(exP d.body).length<=1099511627776):zI Tryz.prog 285 [.box 904 0,.box 905 0] (cwO ver l (zbZ [(905,some (.cell 310 [.at_ (zcb d)]))])) (zaG l (exP d.body) (zbZ [(905,some (.cell 310 [.at_ (zcb d)]))])):=by
 refine kL [901,904,905] [910] Tryz.func285 Tryz.ntmps285 fun A hA hXA=>?_
 have hX':=fun ver l=>hX d.body hd.2.2.2 ver l
 rw [<- zys] at hX'
 refine zev (vx:=[.d (.raw (.int .i64 40))]) 5 [901] [910] rfl rfl mixed hA.2 (by rw [hA.1];decide) (by simp only [go_sem,hA]) (by decide +kernel) rfl rfl rfl rfl (by simp only [go_sem]) (by simp only [go_sem]) rfl (by kernel_rfl) rfl rfl (fun _=>rfl) rfl (hX' ver l hb) rfl zac (fun env res L' h=>?_) (fun pv h=>(zn h).elim)
 obtain⟨rfl,ver',rfl⟩:=zm h
 exact⟨_,rfl,rfl,rfl,ver',rfl⟩
theorem zGp (k:Nat) (e:Ex) (he:zfc (k+1) e) (ver:Nat) (l:List UInt8) (hb:l.length+(zb e.kind.toNat).length<=1099511627776):zI Tryz.prog 315 [.box 904 0,.box 905 0] (cwO ver l (zbZ [(905,some (.cell 312 [.at_ (zbj e)]))])) (zaG l (zb e.kind.toNat) (zbZ [(905,some (.cell 312 [.at_ (zbj e)]))])):=by
 refine kL [901,904,905] [910] Tryz.func315 Tryz.ntmps315 fun A hA hX=>?_
 obtain⟨h1,h2,h3,h4,h5,h6,h7⟩:=he
 rw [zax]
 refine zev 0 [901] [910] rfl rfl mixed hA.2 (by rw [hA.1];decide) (by simp only [go_sem,hA]) (by decide +kernel) rfl rfl rfl rfl (by simp only [go_sem]) (by simp only [go_sem]) rfl (by kernel_rfl) rfl rfl (fun _=>rfl) rfl (zhO ver l h1 _ hb) rfl zac (fun env res L' h=>?_) (fun pv h=>(zn h).elim)
 obtain⟨rfl,ver',rfl⟩:=zm h
 exact⟨_,rfl,rfl,rfl,ver',rfl⟩
theorem zGo (k:Nat) (e:Ex) (he:zfc (k+1) e) (ver:Nat) (l:List UInt8) (hb:l.length+(zi e.name).length<=1099511627776):zI Tryz.prog 316 [.box 904 0,.box 905 0] (cwO ver l (zbZ [(905,some (.cell 312 [.at_ (zbj e)]))])) (zaG l (zi e.name) (zbZ [(905,some (.cell 312 [.at_ (zbj e)]))])):=by
 refine kL [901,904,905] [910] Tryz.func316 Tryz.ntmps316 fun A hA hX=>?_
 obtain⟨h1,h2,h3,h4,h5,h6,h7⟩:=he
 rw [zax]
 refine zev 1 [901] [910] rfl rfl mixed hA.2 (by rw [hA.1];decide) (by simp only [go_sem,hA]) (by decide +kernel) rfl rfl rfl rfl (by simp only [go_sem]) (by simp only [go_sem]) rfl (by kernel_rfl) rfl rfl (fun _=>rfl) rfl (zgj ver l e.name h2 _ hb) rfl zac (fun env res L' h=>?_) (fun pv h=>(zn h).elim)
 obtain⟨rfl,ver',rfl⟩:=zm h
 exact⟨_,rfl,rfl,rfl,ver',rfl⟩
theorem zGn (k:Nat) (e:Ex) (he:zfc (k+1) e) (ver:Nat) (l:List UInt8) (hb:l.length+(zi e.more).length<=1099511627776):zI Tryz.prog 317 [.box 904 0,.box 905 0] (cwO ver l (zbZ [(905,some (.cell 312 [.at_ (zbj e)]))])) (zaG l (zi e.more) (zbZ [(905,some (.cell 312 [.at_ (zbj e)]))])):=by
 refine kL [901,904,905] [910] Tryz.func317 Tryz.ntmps317 fun A hA hX=>?_
 obtain⟨h1,h2,h3,h4,h5,h6,h7⟩:=he
 rw [zax]
 refine zev 2 [901] [910] rfl rfl mixed hA.2 (by rw [hA.1];decide) (by simp only [go_sem,hA]) (by decide +kernel) rfl rfl rfl rfl (by simp only [go_sem]) (by simp only [go_sem]) rfl (by kernel_rfl) rfl rfl (fun _=>rfl) rfl (zgj ver l e.more h3 _ hb) rfl zac (fun env res L' h=>?_) (fun pv h=>(zn h).elim)
 obtain⟨rfl,ver',rfl⟩:=zm h
 exact⟨_,rfl,rfl,rfl,ver',rfl⟩
theorem zGk (k:Nat) (e:Ex) (he:zfc (k+1) e) (ver:Nat) (l:List UInt8) (hb:l.length+(zb e.den.toNat).length<=1099511627776):zI Tryz.prog 320 [.box 904 0,.box 905 0] (cwO ver l (zbZ [(905,some (.cell 312 [.at_ (zbj e)]))])) (zaG l (zb e.den.toNat) (zbZ [(905,some (.cell 312 [.at_ (zbj e)]))])):=by
 refine kL [901,904,905] [910] Tryz.func320 Tryz.ntmps320 fun A hA hX=>?_
 obtain⟨h1,h2,h3,h4,h5,h6,h7⟩:=he
 rw [zax]
 refine zev 4 [901] [910] rfl rfl mixed hA.2 (by rw [hA.1];decide) (by simp only [go_sem,hA]) (by decide +kernel) rfl rfl rfl rfl (by simp only [go_sem]) (by simp only [go_sem]) rfl (by kernel_rfl) rfl rfl (fun _=>rfl) rfl (zhO ver l h5 _ hb) rfl zac (fun env res L' h=>?_) (fun pv h=>(zn h).elim)
 obtain⟨rfl,ver',rfl⟩:=zm h
 exact⟨_,rfl,rfl,rfl,ver',rfl⟩
theorem zGm (b:Bool) (ver:Nat) (l:List UInt8) (hb:l.length+(zL b).length<=1099511627776):zI Tryz.prog 318 [.box 904 0,.box 908 0] (cwO ver l (zbZ [(908,some (.cell 4 [.d (.raw (.bool b))]))])) (zaG l (zL b) (zbZ [(908,some (.cell 4 [.d (.raw (.bool b))]))])):=by
 refine kL [901,904,908] [910] Tryz.func318 Tryz.ntmps318 fun A hA hX=>?_
 refine goC 400 ?_
 simp only [go_sem,hA]
 refine gL [901,908] [910] (zzi ver l b hb) (fun pv h=>(zn h).elim) fun res L' h=>?_
 obtain⟨rfl,ver',rfl⟩:=zm h
 simp only [go_sem,Tryz.results318]
 exact⟨_,rfl,rfl,ver',rfl⟩
theorem zGl (n:Nat) (hn:n<=1099511627776) (ver:Nat) (l:List UInt8) (hb:l.length+(zb n).length<=1099511627776):zI Tryz.prog 319 [.box 904 0,.box 907 0] (cwO ver l (zbZ [(907,some (.cell 3 [.d (.raw (.int .i64 n))]))])) (zaG l (zb n) (zbZ [(907,some (.cell 3 [.d (.raw (.int .i64 n))]))])):=by
 refine kL [901,904,907] [910] Tryz.func319 Tryz.ntmps319 fun A hA hX=>?_
 refine goC 400 ?_
 simp only [go_sem,hA]
 refine gL [901,907] [910] (zcT (.box 901 1) ver l (.inr rfl) n hn hb) (fun pv h=>(zn h).elim) fun res L' h=>?_
 obtain⟨rfl,ver',rfl⟩:=zm h
 simp only [go_sem,Tryz.results319]
 exact⟨_,rfl,rfl,ver',rfl⟩
abbrev dB (k:Nat):List (Nat × Option Blk):=[(904,some (.cell 142 [.box 901 0])),(906,some (.cell 3 [.d (.raw (.int .i64 (k+1:Nat)))]))]
theorem zGi (k:Nat) (hk:k<=1048576) (hX:zlo k) (e:Ex) (he:zfc k e) (ver:Nat) (l:List UInt8) (hb:l.length+(exP e).length<=1099511627776):zI Tryz.prog 323 [.at_ (zbj e),.box 904 0,.box 906 0] (cwO ver l (dB k)) (zaG l (exP e) (dB k)):=by
 refine kL [901,904,906] [910] Tryz.func323 Tryz.ntmps323 fun A hA hXA=>?_
 have hk1:((k+1:Nat):Int) - 1=(k:Int):=by omega
 refine goC 400 ?_
 simp only [go_sem,hA,hk1]
 refine⟨by unfold za;omega,?_⟩
 refine gL [901] [910] (hX e he ver l hb) (fun pv h=>(zn h).elim) fun res L' h=>?_
 obtain⟨rfl,ver',rfl⟩:=zm h
 simp only [go_sem,Tryz.results323]
 exact⟨_,rfl,rfl,ver',rfl⟩
abbrev zAR (k:Nat) (es:List Ex) (ver:Nat) (l:List UInt8) (q:Nat):St:=⟨[(0,.box 901 0),(1,.at_ [.sl (zaF es)]),(2,.fn 323 [.box 904 0,.box 906 0]),(23,.d (.raw (.int .i64 es.length))),(24,.d (.raw (.int .i64 q)))],(901,some (zim (.box 901 1) ver l)) :: dB k,[(910,some (zil ver l))]⟩
theorem zFZ (k:Nat) (hk:k<=1048576) (hX:zlo k) (es:List Ex) (hn:es.length<=1048576) (he:∀ x ∈ es,zfc k x) (ver:Nat) (l:List UInt8) (hb:l.length+((zb es.length).length+(es.flatMap exP).length)<=1099511627776):zI Tryz.prog 322 [.box 901 0,.at_ [.sl (zaF es)],.fn 323 [.box 904 0,.box 906 0]] (cwO ver l (dB k)) (zaG l (zb es.length++es.flatMap exP) (dB k)):=by
 refine kL [901,904,906] [910] Tryz.func322 Tryz.ntmps322 fun A hA hXA=>?_
 refine goC 400 ?_
 simp only [go_sem,hA,zK]
 refine zaA 4 907 rfl ⟨by rw [hXA.1];rfl,by rw [hXA.2];rfl⟩ rfl rfl _ (by simp only [go_sem];rfl) ?_
 refine gL [901,907] [910] (zcT (.box 901 1) ver l (.inr rfl) es.length (by omega) (by omega)) (fun pv h=>(zn h).elim) fun res L' h=>?_
 obtain⟨rfl,ver1,rfl⟩:=zm h
 simp only [go_sem,hA,zK]
 refine zc [0,1,2,23,24] [901,904,906] [910] (fun x σ=>∃ q ver,q<=es.length/\x=es.length - q/\σ=zAR k es ver (l++(zb es.length++(es.take q).flatMap exP)) q) es.length ⟨0,ver1,by omega,by omega,by simp only [List.take_zero,List.flatMap_nil,List.append_nil,go_sem];rfl⟩ ?_
 rintro x σ ⟨q,ver2,hq,rfl,rfl⟩
 refine goC 400 ?_
 by_cases hlt:q<es.length
 ·have k1:decide ((q:Int)<(es.length:Int))=true:=decide_eq_true (by omega)
  have hle:=zjC exP es q hlt
  simp only [go_sem,hA,zAR,zK,k1,Int.toNat_natCast,zps es q hlt]
  refine⟨⟨by omega,by omega,zbo _⟩,?_⟩
  refine zae [901,904,906] [910] 400 (zGi k hk hX _ (he _ (List.getElem_mem hlt)) _ _ (by simp only [List.length_append];omega)) rfl rfl rfl rfl rfl (by simp only [go_sem,hA]) (fun res L' h=>?_) (fun pv h=>(zn h).elim)
  obtain⟨rfl,ver3,rfl⟩:=zm h
  simp only [go_sem,hA]
  exact⟨by unfold za;omega,es.length - (q+1),by omega,q+1,ver3,by omega,rfl,by rw [zeF exP es q hlt];simp only [List.append_assoc];rfl⟩
 ·have k1:decide ((q:Int)<(es.length:Int))=false:=decide_eq_false (by omega)
  obtain rfl:q=es.length:=by omega
  simp only [go_sem,hA,zAR,k1,List.take_length,Tryz.results322]
  exact⟨_,rfl,rfl,ver2,rfl⟩
theorem zGj (k:Nat) (hk:k<=1048576) (hX:zlo k) (e:Ex) (he:zfc (k+1) e) (ver:Nat) (l:List UInt8) (hb:l.length+(zb e.sub.length++e.sub.flatMap exP).length<=1099511627776):zI Tryz.prog 321 [.box 904 0,.box 905 0,.box 906 0] (cwO ver l (zbZ [(905,some (.cell 312 [.at_ (zbj e)])),(906,some (.cell 3 [.d (.raw (.int .i64 (k+1:Nat)))]))])) (zaG l (zb e.sub.length++e.sub.flatMap exP) (zbZ [(905,some (.cell 312 [.at_ (zbj e)])),(906,some (.cell 3 [.d (.raw (.int .i64 (k+1:Nat)))]))])):=by
 refine kL [901,904,905,906] [910] Tryz.func321 Tryz.ntmps321 fun A hA hXA=>?_
 obtain⟨h1,h2,h3,h4,h5,h6,h7⟩:=he
 rw [zax]
 refine zFj 5 [901,904,906] [910] rfl rfl mixed hA.2 (by rw [hA.1];decide) (by simp only [go_sem,hA]) (by decide +kernel) rfl rfl rfl rfl rfl (by simp only [go_sem]) (by simp only [go_sem]) rfl (by kernel_rfl) rfl rfl rfl (zFZ k hk hX e.sub h6 h7 ver l (by rw [List.length_append] at hb;exact hb)) rfl zac (fun env res L' h=>?_) (fun pv h=>(zn h).elim)
 obtain⟨rfl,ver',rfl⟩:=zm h
 exact⟨_,rfl,rfl,rfl,ver',rfl⟩
abbrev zts (d:Dc) (ver:Nat) (l:List UInt8) (i:Int):St:=⟨[(12,.own 1006 6),(13,.d (.raw (.int .i64 6))),(14,.d (.raw (.int .i64 i)))],(901,some (zim (.box 901 1) ver l)) :: (904,some (.cell 142 [.box 901 0])) :: (905,some (.cell 310 [.at_ (zcb d)])) :: [(1006,some (.cell 1 [.fn 280 [.box 904 0,.box 905 0],.fn 281 [.box 904 0,.box 905 0],.fn 282 [.box 904 0,.box 905 0],.fn 283 [.box 904 0,.box 905 0],.fn 284 [.box 904 0,.box 905 0],.fn 285 [.box 904 0,.box 905 0]]))],[(910,some (zil ver l))]⟩
theorem zFh (hPT:zeI) (hX:zlo 40) (d:Dc) (hd:zjE d) (ver:Nat) (l:List UInt8) (hb:l.length+(dcP d).length<=1099511627776):zI Tryz.prog 247 [.box 901 0,.at_ (zcb d)] (cwO ver l []) (zaG l (dcP d) []):=by
 refine kL [901] [910] Tryz.func247 Tryz.ntmps247 fun A hA hXA=>?_
 simp only [dcP,List.length_append] at hb
 refine goC 400 ?_
 simp only [go_sem,hA]
 refine zan 0 904 rfl ⟨by rw [hXA.1];rfl,by rw [hXA.2];rfl⟩ rfl rfl ?_
 simp only [go_sem]
 refine zan 1 905 rfl ⟨by rw [hXA.1];rfl,by rw [hXA.2];rfl⟩ rfl rfl ?_
 simp only [go_sem]
 refine zc [12,13,14] [901,904,905,1006] [910] (fun x σ=>∃ (i:Nat) (j:Int) (p:List UInt8) (ver:Nat),((i=0/\j=0/\p=[])\/(i=1/\j=1/\p=zb d.id.toNat)\/(i=2/\j=2/\p=zb d.id.toNat++zb d.kind.toNat)\/(i=3/\j=3/\p=zb d.id.toNat++zb d.kind.toNat++zL d.pub)\/(i=4/\j=4/\p=zb d.id.toNat++zb d.kind.toNat++zL d.pub++zaQ d.names)\/(i=5/\j=5/\p=zb d.id.toNat++zb d.kind.toNat++zL d.pub++zaQ d.names++zL d.doubt)\/(i=6/\j=6/\p=zb d.id.toNat++zb d.kind.toNat++zL d.pub++zaQ d.names++zL d.doubt++exP d.body))/\x=6 - i/\σ=zts d ver (l++p) j) 6 ⟨0,0,[],ver,.inl ⟨rfl,rfl,rfl⟩,rfl,by simp only [List.append_nil,go_sem]⟩ ?_
 rintro x σ ⟨i,j,p,ver2,hi,rfl,rfl⟩
 rcases hi with⟨rfl,rfl,rfl⟩ | ⟨rfl,rfl,rfl⟩ | ⟨rfl,rfl,rfl⟩ | ⟨rfl,rfl,rfl⟩ | ⟨rfl,rfl,rfl⟩ | ⟨rfl,rfl,rfl⟩ | ⟨rfl,rfl,rfl⟩
 ·refine goC 400 ?_
  simp only [go_sem,hA,zts]
  refine gL [901,904,905] [910] (zGA d hd ver2 _ (by first | omega | (simp only [List.length_append,List.length_nil];omega))) (fun pv h=>(zn h).elim) fun res L' h=>?_
  obtain⟨rfl,ver3,rfl⟩:=zm h
  simp only [go_sem,hA]
  exact⟨by unfold za;omega,5,by omega,1,1,zb d.id.toNat,ver3,.inr (.inl ⟨rfl,rfl,rfl⟩),rfl,by first | rfl | (simp only [List.append_assoc,List.nil_append];rfl) | simp only [List.append_assoc,List.nil_append]⟩
 ·refine goC 400 ?_
  simp only [go_sem,hA,zts]
  refine gL [901,904,905] [910] (zGy d hd ver2 _ (by first | omega | (simp only [List.length_append];omega))) (fun pv h=>(zn h).elim) fun res L' h=>?_
  obtain⟨rfl,ver3,rfl⟩:=zm h
  simp only [go_sem,hA]
  exact⟨by unfold za;omega,4,by omega,2,2,zb d.id.toNat++zb d.kind.toNat,ver3,.inr (.inr (.inl ⟨rfl,rfl,rfl⟩)),rfl,by first | rfl | (simp only [List.append_assoc];rfl) | simp only [List.append_assoc,List.nil_append]⟩
 ·refine goC 400 ?_
  simp only [go_sem,hA,zts]
  refine gL [901,904,905] [910] (zGw d ver2 _ (by first | omega | (simp only [List.length_append];omega))) (fun pv h=>(zn h).elim) fun res L' h=>?_
  obtain⟨rfl,ver3,rfl⟩:=zm h
  simp only [go_sem,hA]
  exact⟨by unfold za;omega,3,by omega,3,3,zb d.id.toNat++zb d.kind.toNat++zL d.pub,ver3,.inr (.inr (.inr (.inl ⟨rfl,rfl,rfl⟩))),rfl,by first | rfl | (simp only [List.append_assoc];rfl) | simp only [List.append_assoc,List.nil_append]⟩
 ·refine goC 400 ?_
  simp only [go_sem,hA,zts]
  refine gL [901,904,905] [910] (zGu hPT d hd ver2 _ (by first | omega | (simp only [List.length_append];omega))) (fun pv h=>(zn h).elim) fun res L' h=>?_
  obtain⟨rfl,ver3,rfl⟩:=zm h
  simp only [go_sem,hA]
  exact⟨by unfold za;omega,2,by omega,4,4,zb d.id.toNat++zb d.kind.toNat++zL d.pub++zaQ d.names,ver3,.inr (.inr (.inr (.inr (.inl ⟨rfl,rfl,rfl⟩)))),rfl,by first | rfl | (simp only [List.append_assoc];rfl) | simp only [List.append_assoc,List.nil_append]⟩
 ·refine goC 400 ?_
  simp only [go_sem,hA,zts]
  refine gL [901,904,905] [910] (zGs d ver2 _ (by first | omega | (simp only [List.length_append];omega))) (fun pv h=>(zn h).elim) fun res L' h=>?_
  obtain⟨rfl,ver3,rfl⟩:=zm h
  simp only [go_sem,hA]
  exact⟨by unfold za;omega,1,by omega,5,5,zb d.id.toNat++zb d.kind.toNat++zL d.pub++zaQ d.names++zL d.doubt,ver3,.inr (.inr (.inr (.inr (.inr (.inl ⟨rfl,rfl,rfl⟩))))),rfl,by first | rfl | (simp only [List.append_assoc];rfl) | simp only [List.append_assoc,List.nil_append]⟩
 ·refine goC 400 ?_
  simp only [go_sem,hA,zts]
  refine gL [901,904,905] [910] (zGq hX d hd ver2 _ (by first | omega | (simp only [List.length_append];omega))) (fun pv h=>(zn h).elim) fun res L' h=>?_
  obtain⟨rfl,ver3,rfl⟩:=zm h
  simp only [go_sem,hA]
  exact⟨by unfold za;omega,0,by omega,6,6,zb d.id.toNat++zb d.kind.toNat++zL d.pub++zaQ d.names++zL d.doubt++exP d.body,ver3,.inr (.inr (.inr (.inr (.inr (.inr (⟨rfl,rfl,rfl⟩)))))),rfl,by first | rfl | (simp only [List.append_assoc];rfl) | simp only [List.append_assoc,List.nil_append]⟩
 ·refine goC 400 ?_
  simp only [go_sem,hA,zts,Tryz.results247]
  exact⟨_,rfl,rfl,ver2,by first | rfl | simp only [dcP,List.append_assoc]⟩
abbrev zow (k:Nat) (e:Ex) (ver:Nat) (l:List UInt8) (i:Int):St:=⟨[(3,.box 904 0),(4,.box 905 0),(6,.box 908 0),(7,.box 907 0),(37,.own 4007 7),(38,.d (.raw (.int .i64 7))),(39,.d (.raw (.int .i64 i)))],(901,some (zim (.box 901 1) ver l)) :: (904,some (.cell 142 [.box 901 0])) :: (905,some (.cell 312 [.at_ (zbj e)])) :: (906,some (.cell 3 [.d (.raw (.int .i64 (k+1:Nat)))])) :: (907,some (.cell 3 [.d (.raw (.int .i64 e.int.natAbs))])) :: (908,some (.cell 4 [.d (.raw (.bool (decide (e.int<0))))])) :: [(4007,some (.cell 1 [.fn 315 [.box 904 0,.box 905 0],.fn 316 [.box 904 0,.box 905 0],.fn 317 [.box 904 0,.box 905 0],.fn 318 [.box 904 0,.box 908 0],.fn 319 [.box 904 0,.box 907 0],.fn 320 [.box 904 0,.box 905 0],.fn 321 [.box 904 0,.box 905 0,.box 906 0]]))],[(910,some (zil ver l))]⟩
theorem zyh (k:Nat) (hk:k<1048576) (ih:zlo k):zlo (k+1):=by
 intro e he ver l hb
 refine kL [901] [910] Tryz.func286 Tryz.ntmps286 fun A hA hXA=>?_
 have z1:decide (((k+1:Nat):Int)=0)=false:=decide_eq_false (by omega)
 rw [zvx,zfV] at hb ⊢
 simp only [List.length_append] at hb
 have hi:=he.2.2.2.1
 have habs:(if e.int < -e.int then -e.int else e.int)=((e.int.natAbs:Nat):Int):=by split <;> omega
 refine goC 600 ?_
 simp only [go_sem,hA,mixed,z1,zax,habs]
 refine⟨by unfold za;omega,by show chk _ _ _=true;kernel_rfl,?_⟩
 refine zan 0 904 rfl ⟨by rw [hXA.1];rfl,by rw [hXA.2];rfl⟩ rfl rfl ?_
 simp only [go_sem]
 refine zan 1 905 rfl ⟨by rw [hXA.1];rfl,by rw [hXA.2];rfl⟩ rfl rfl ?_
 simp only [go_sem]
 refine zan 2 906 rfl ⟨by rw [hXA.1];rfl,by rw [hXA.2];rfl⟩ rfl rfl ?_
 simp only [go_sem]
 refine zan 3016 907 rfl ⟨by rw [hXA.1];rfl,by rw [hXA.2];rfl⟩ rfl rfl ?_
 simp only [go_sem]
 refine zan 3015 908 rfl ⟨by rw [hXA.1];rfl,by rw [hXA.2];rfl⟩ rfl rfl ?_
 simp only [go_sem]
 refine zc [3,4,6,7,37,38,39] [901,904,905,906,907,908,4007] [910] (fun x σ=>∃ (i:Nat) (j:Int) (p:List UInt8) (ver:Nat),((i=0/\j=0/\p=[])\/(i=1/\j=1/\p=zb e.kind.toNat)\/(i=2/\j=2/\p=zb e.kind.toNat++zi e.name)\/(i=3/\j=3/\p=zb e.kind.toNat++zi e.name++zi e.more)\/(i=4/\j=4/\p=zb e.kind.toNat++zi e.name++zi e.more++zL (decide (e.int<0)))\/(i=5/\j=5/\p=zb e.kind.toNat++zi e.name++zi e.more++zL (decide (e.int<0))++zb e.int.natAbs)\/(i=6/\j=6/\p=zb e.kind.toNat++zi e.name++zi e.more++zL (decide (e.int<0))++zb e.int.natAbs++zb e.den.toNat)\/(i=7/\j=7/\p=zb e.kind.toNat++zi e.name++zi e.more++zL (decide (e.int<0))++zb e.int.natAbs++zb e.den.toNat++(zb e.sub.length++e.sub.flatMap exP)))/\x=7 - i/\σ=zow k e ver (l++p) j) 7 ⟨0,0,[],ver,.inl ⟨rfl,rfl,rfl⟩,rfl,by simp only [List.append_nil,go_sem,zow,zax]⟩ ?_
 rintro x σ ⟨i,j,p,ver2,hi,rfl,rfl⟩
 rcases hi with⟨rfl,rfl,rfl⟩ | ⟨rfl,rfl,rfl⟩ | ⟨rfl,rfl,rfl⟩ | ⟨rfl,rfl,rfl⟩ | ⟨rfl,rfl,rfl⟩ | ⟨rfl,rfl,rfl⟩ | ⟨rfl,rfl,rfl⟩ | ⟨rfl,rfl,rfl⟩
 ·refine goC 400 ?_
  simp only [go_sem,hA,zow]
  refine gL [901,904,905] [910] (zGp k e he ver2 _ (by first | omega | (simp only [List.length_append,List.length_nil];omega))) (fun pv h=>(zn h).elim) fun res L' h=>?_
  obtain⟨rfl,ver3,rfl⟩:=zm h
  simp only [go_sem,hA]
  exact⟨by unfold za;omega,6,by omega,1,1,zb e.kind.toNat,ver3,.inr (.inl ⟨rfl,rfl,rfl⟩),rfl,by first | rfl | (simp only [List.append_assoc,List.nil_append];rfl) | simp only [List.append_assoc,List.nil_append]⟩
 ·refine goC 400 ?_
  simp only [go_sem,hA,zow]
  refine gL [901,904,905] [910] (zGo k e he ver2 _ (by first | omega | (simp only [List.length_append];omega))) (fun pv h=>(zn h).elim) fun res L' h=>?_
  obtain⟨rfl,ver3,rfl⟩:=zm h
  simp only [go_sem,hA]
  exact⟨by unfold za;omega,5,by omega,2,2,zb e.kind.toNat++zi e.name,ver3,.inr (.inr (.inl ⟨rfl,rfl,rfl⟩)),rfl,by first | rfl | (simp only [List.append_assoc];rfl) | simp only [List.append_assoc,List.nil_append]⟩
 ·refine goC 400 ?_
  simp only [go_sem,hA,zow]
  refine gL [901,904,905] [910] (zGn k e he ver2 _ (by first | omega | (simp only [List.length_append];omega))) (fun pv h=>(zn h).elim) fun res L' h=>?_
  obtain⟨rfl,ver3,rfl⟩:=zm h
  simp only [go_sem,hA]
  exact⟨by unfold za;omega,4,by omega,3,3,zb e.kind.toNat++zi e.name++zi e.more,ver3,.inr (.inr (.inr (.inl ⟨rfl,rfl,rfl⟩))),rfl,by first | rfl | (simp only [List.append_assoc];rfl) | simp only [List.append_assoc,List.nil_append]⟩
 ·refine goC 400 ?_
  simp only [go_sem,hA,zow]
  refine gL [901,904,908] [910] (zGm _ ver2 _ (by first | omega | (simp only [List.length_append];omega))) (fun pv h=>(zn h).elim) fun res L' h=>?_
  obtain⟨rfl,ver3,rfl⟩:=zm h
  simp only [go_sem,hA]
  exact⟨by unfold za;omega,3,by omega,4,4,zb e.kind.toNat++zi e.name++zi e.more++zL (decide (e.int<0)),ver3,.inr (.inr (.inr (.inr (.inl ⟨rfl,rfl,rfl⟩)))),rfl,by first | rfl | (simp only [List.append_assoc];rfl) | simp only [List.append_assoc,List.nil_append]⟩
 ·refine goC 400 ?_
  simp only [go_sem,hA,zow]
  refine gL [901,904,907] [910] (zGl _ he.2.2.2.1 ver2 _ (by first | omega | (simp only [List.length_append];omega))) (fun pv h=>(zn h).elim) fun res L' h=>?_
  obtain⟨rfl,ver3,rfl⟩:=zm h
  simp only [go_sem,hA]
  exact⟨by unfold za;omega,2,by omega,5,5,zb e.kind.toNat++zi e.name++zi e.more++zL (decide (e.int<0))++zb e.int.natAbs,ver3,.inr (.inr (.inr (.inr (.inr (.inl ⟨rfl,rfl,rfl⟩))))),rfl,by first | rfl | (simp only [List.append_assoc];rfl) | simp only [List.append_assoc,List.nil_append]⟩
 ·refine goC 400 ?_
  simp only [go_sem,hA,zow]
  refine gL [901,904,905] [910] (zGk k e he ver2 _ (by first | omega | (simp only [List.length_append];omega))) (fun pv h=>(zn h).elim) fun res L' h=>?_
  obtain⟨rfl,ver3,rfl⟩:=zm h
  simp only [go_sem,hA]
  exact⟨by unfold za;omega,1,by omega,6,6,zb e.kind.toNat++zi e.name++zi e.more++zL (decide (e.int<0))++zb e.int.natAbs++zb e.den.toNat,ver3,.inr (.inr (.inr (.inr (.inr (.inr (.inl ⟨rfl,rfl,rfl⟩)))))),rfl,by first | rfl | (simp only [List.append_assoc];rfl) | simp only [List.append_assoc,List.nil_append]⟩
 ·refine goC 400 ?_
  simp only [go_sem,hA,zow]
  refine gL [901,904,905,906] [910] (zGj k (by omega) ih e he ver2 _ (by first | omega | (simp only [List.length_append];omega))) (fun pv h=>(zn h).elim) fun res L' h=>?_
  obtain⟨rfl,ver3,rfl⟩:=zm h
  simp only [go_sem,hA]
  exact⟨by unfold za;omega,0,by omega,7,7,zb e.kind.toNat++zi e.name++zi e.more++zL (decide (e.int<0))++zb e.int.natAbs++zb e.den.toNat++(zb e.sub.length++e.sub.flatMap exP),ver3,.inr (.inr (.inr (.inr (.inr (.inr (.inr (⟨rfl,rfl,rfl⟩))))))),rfl,by first | rfl | (simp only [List.append_assoc];rfl) | simp only [List.append_assoc,List.nil_append]⟩
 ·refine goC 400 ?_
  simp only [go_sem,hA,zow,Tryz.results286]
  exact⟨_,rfl,rfl,ver2,by first | rfl | simp only [List.append_assoc]⟩
theorem zFb (k:Nat) (hk:k<=1048576):zlo k:=by
 induction k with
 | zero=>exact fun e he=>he.elim
 | succ k ih=>exact zyh k hk (ih (by omega))
abbrev zpB (x:Tc) (ver:Nat) (l:List UInt8) (i:Int):St:=⟨[(0,.box 901 0),(1,.at_ (zea x)),(22,.own 1009 3),(23,.d (.raw (.int .i64 3))),(24,.d (.raw (.int .i64 i)))],(901,some (zim (.box 901 1) ver l)) :: [(1009,some (.cell 279 [.at_ [.raw (.bool x.inB),.raw (.bool x.inL),.raw (.bool x.inR),.raw (.string x.base),.raw (.string x.left),.raw (.string x.right)],.at_ [.raw (.bool x.inL),.raw (.bool x.inR),.raw (.string x.base),.raw (.string x.left),.raw (.string x.right)],.at_ [.raw (.bool x.inR),.raw (.string x.base),.raw (.string x.left),.raw (.string x.right)]]))],[(910,some (zil ver l))]⟩
abbrev zpA (x:Tc) (ver:Nat) (l:List UInt8) (i:Int):St:=⟨[(0,.box 901 0),(1,.at_ (zea x)),(41,.own 6009 3),(42,.d (.raw (.int .i64 3))),(43,.d (.raw (.int .i64 i)))],(901,some (zim (.box 901 1) ver l)) :: [(6009,some (.cell 271 [.at_ [.raw (.string x.base),.raw (.string x.left),.raw (.string x.right)],.at_ [.raw (.string x.left),.raw (.string x.right)],.at_ [.raw (.string x.right)]]))],[(910,some (zil ver l))]⟩
theorem zvA (x:Tc) (hx:zAF x) (ver:Nat) (l:List UInt8) (hb:l.length+(tcP x).length<=1099511627776):zI Tryz.prog 184 [.box 901 0,.at_ (zea x)] (cwO ver l []) (zaG l (tcP x) []):=by
 refine kL [901] [910] Tryz.func184 Tryz.ntmps184 fun A hA hXA=>?_
 unfold tcP at hb ⊢
 simp only [List.length_append] at hb
 refine goC 400 ?_
 simp only [go_sem,hA]
 refine gL [901] [910] (zgj ver l x.path hx.1 _ (by omega)) (fun pv h=>(zn h).elim) fun res L' h=>?_
 obtain⟨rfl,ver,rfl⟩:=zm h
 simp only [go_sem,hA,mixed,zea]
 refine⟨by show chk _ _ _=true;kernel_rfl,?_⟩
 refine zc [0,1,22,23,24] [901,1009] [910] (fun y σ=>∃ (i:Nat) (j:Int) (p:List UInt8) (ver:Nat),((i=0/\j=0/\p=zi x.path)\/(i=1/\j=1/\p=zi x.path++zL x.inB)\/(i=2/\j=2/\p=zi x.path++zL x.inB++zL x.inL)\/(i=3/\j=3/\p=zi x.path++zL x.inB++zL x.inL++zL x.inR))/\y=3 - i/\σ=zpB x ver (l++p) j) 3 ⟨0,0,_,ver,.inl ⟨rfl,rfl,rfl⟩,rfl,by simp only [go_sem,zpB,zea]⟩ ?_
 rintro y σ ⟨i,j,p,ver2,hi,rfl,rfl⟩
 rcases hi with⟨rfl,rfl,rfl⟩ | ⟨rfl,rfl,rfl⟩ | ⟨rfl,rfl,rfl⟩ | ⟨rfl,rfl,rfl⟩
 ·refine goC 400 ?_
  simp only [go_sem,hA,zpB]
  refine zae [901] [910] 400 (zgX _ _ x.inB _ (by simp only [List.length_append];omega)) rfl rfl rfl rfl rfl (by simp only [go_sem,hA]) (fun res L' h=>?_) (fun pv h=>(zn h).elim)
  obtain⟨rfl,ver3,rfl⟩:=zm h
  simp only [go_sem,hA]
  exact⟨by unfold za;omega,2,by omega,1,1,zi x.path++zL x.inB,ver3,.inr (.inl ⟨rfl,rfl,rfl⟩),rfl,by first | rfl | (simp only [List.append_assoc];rfl) | simp only [List.append_assoc]⟩
 ·refine goC 400 ?_
  simp only [go_sem,hA,zpB]
  refine zae [901] [910] 400 (zgX _ _ x.inL _ (by simp only [List.length_append];omega)) rfl rfl rfl rfl rfl (by simp only [go_sem,hA]) (fun res L' h=>?_) (fun pv h=>(zn h).elim)
  obtain⟨rfl,ver3,rfl⟩:=zm h
  simp only [go_sem,hA]
  exact⟨by unfold za;omega,1,by omega,2,2,zi x.path++zL x.inB++zL x.inL,ver3,.inr (.inr (.inl ⟨rfl,rfl,rfl⟩)),rfl,by first | rfl | (simp only [List.append_assoc];rfl) | simp only [List.append_assoc]⟩
 ·refine goC 400 ?_
  simp only [go_sem,hA,zpB]
  refine zae [901] [910] 400 (zgX _ _ x.inR _ (by simp only [List.length_append];omega)) rfl rfl rfl rfl rfl (by simp only [go_sem,hA]) (fun res L' h=>?_) (fun pv h=>(zn h).elim)
  obtain⟨rfl,ver3,rfl⟩:=zm h
  simp only [go_sem,hA]
  exact⟨by unfold za;omega,0,by omega,3,3,zi x.path++zL x.inB++zL x.inL++zL x.inR,ver3,.inr (.inr (.inr (⟨rfl,rfl,rfl⟩))),rfl,by first | rfl | (simp only [List.append_assoc];rfl) | simp only [List.append_assoc]⟩
 ·refine goC 400 ?_
  simp only [go_sem,hA,mixed,zpB,zea]
  refine⟨by show chk _ _ _=true;kernel_rfl,?_⟩
  refine zc [0,1,41,42,43] [901,6009] [910] (fun y σ=>∃ (i:Nat) (j:Int) (p:List UInt8) (ver:Nat),((i=0/\j=0/\p=zi x.path++zL x.inB++zL x.inL++zL x.inR)\/(i=1/\j=1/\p=zi x.path++zL x.inB++zL x.inL++zL x.inR++zi x.base)\/(i=2/\j=2/\p=zi x.path++zL x.inB++zL x.inL++zL x.inR++zi x.base++zi x.left)\/(i=3/\j=3/\p=zi x.path++zL x.inB++zL x.inL++zL x.inR++zi x.base++zi x.left++zi x.right))/\y=3 - i/\σ=zpA x ver (l++p) j) 3 ⟨0,0,_,ver2,.inl ⟨rfl,rfl,rfl⟩,rfl,by simp only [go_sem,zpA,zea,List.append_assoc]⟩ ?_
  rintro y σ ⟨i,j,p,ver2,hi,rfl,rfl⟩
  rcases hi with⟨rfl,rfl,rfl⟩ | ⟨rfl,rfl,rfl⟩ | ⟨rfl,rfl,rfl⟩ | ⟨rfl,rfl,rfl⟩
  ·refine goC 400 ?_
   simp only [go_sem,hA,zpA]
   refine zae [901] [910] 400 (zgj _ _ x.base hx.2.1 _ (by simp only [List.length_append];omega)) rfl rfl rfl rfl rfl (by simp only [go_sem,hA]) (fun res L' h=>?_) (fun pv h=>(zn h).elim)
   obtain⟨rfl,ver3,rfl⟩:=zm h
   simp only [go_sem,hA]
   exact⟨by unfold za;omega,2,by omega,1,1,zi x.path++zL x.inB++zL x.inL++zL x.inR++zi x.base,ver3,.inr (.inl ⟨rfl,rfl,rfl⟩),rfl,by first | rfl | (simp only [List.append_assoc];rfl) | simp only [List.append_assoc]⟩
  ·refine goC 400 ?_
   simp only [go_sem,hA,zpA]
   refine zae [901] [910] 400 (zgj _ _ x.left hx.2.2.1 _ (by simp only [List.length_append];omega)) rfl rfl rfl rfl rfl (by simp only [go_sem,hA]) (fun res L' h=>?_) (fun pv h=>(zn h).elim)
   obtain⟨rfl,ver3,rfl⟩:=zm h
   simp only [go_sem,hA]
   exact⟨by unfold za;omega,1,by omega,2,2,zi x.path++zL x.inB++zL x.inL++zL x.inR++zi x.base++zi x.left,ver3,.inr (.inr (.inl ⟨rfl,rfl,rfl⟩)),rfl,by first | rfl | (simp only [List.append_assoc];rfl) | simp only [List.append_assoc]⟩
  ·refine goC 400 ?_
   simp only [go_sem,hA,zpA]
   refine zae [901] [910] 400 (zgj _ _ x.right hx.2.2.2 _ (by simp only [List.length_append];omega)) rfl rfl rfl rfl rfl (by simp only [go_sem,hA]) (fun res L' h=>?_) (fun pv h=>(zn h).elim)
   obtain⟨rfl,ver3,rfl⟩:=zm h
   simp only [go_sem,hA]
   exact⟨by unfold za;omega,0,by omega,3,3,zi x.path++zL x.inB++zL x.inL++zL x.inR++zi x.base++zi x.left++zi x.right,ver3,.inr (.inr (.inr (⟨rfl,rfl,rfl⟩))),rfl,by first | rfl | (simp only [List.append_assoc];rfl) | simp only [List.append_assoc]⟩
  ·refine goC 400 ?_
   simp only [go_sem,hA,zpA,Tryz.results184]
   exact⟨_,rfl,rfl,ver2,by first | rfl | simp only [List.append_assoc]⟩
theorem ztm (hPT:zeI) (m:Mg) (hm:m.Fit) (hb:(mgP m).length<=1099511627776):Con Tryz.prog 52 [avG m] (.d (.raw (.string ⟨(mgP m).toArray⟩))):=by
 refine kY Tryz.func52 Tryz.ntmps52 fun A hA hY=>?_
 have hne:mgP m≠[]:=fun h0=>by
  have h1:(mgP m).length=0:=by rw [h0];rfl
  have h2:=zhf m.ms.length
  unfold mgP at h1
  rw [List.length_append] at h1
  omega
 refine goC 29 ?_
 simp only [go_sem,hA,avG]
 refine zan 1001 901 rfl (hY.1 _) rfl rfl ?_
 simp only [go_sem]
 refine zan 0 909 rfl (hY.1 _) rfl rfl ?_
 simp only [go_sem]
 refine zgo 910 901 2 1 1 5 (hY.1 _) rfl rfl rfl ?_
 simp only [go_sem,List.set]
 refine goC 400 ?_
 simp only [go_sem,hA]
 refine zae [901,909] [910] 2 (zAe m hm (fun x hx ver l h=>zAb hPT x (hm.ms x hx) (fun d hd ver l h=>zFh hPT (zFb 40 (by decide)) d ((hm.ms x hx).2.2.2 d hd) ver l h) ver l h) (fun x hx ver l h=>zvA x (hm.ts x hx) ver l h) _ (.inl rfl) 1 [] (by simp only [List.length_nil];omega)) rfl rfl rfl rfl rfl (by simp only [go_sem,hA]) (fun res L' h=>?_) (fun pv h=>(zn h).elim)
 obtain⟨rfl,ver3,rfl⟩:=zm h
 simp only [go_sem]
 refine zdb hY.2 910 901 2 99 rfl rfl rfl (zh _).symm (fun h0=>hne (List.eq_nil_of_length_eq_zero (by rw [<- zh,h0];rfl))) (hY.1 _) rfl ?_
 simp only [go_sem,List.set,zh]
 refine goC 14 ?_
 simp only [go_sem,hA]
 refine ziJ 300 (by simp only [go_sem]) (zkU (q:=99) (l:=mgP m) rfl rfl rfl rfl rfl rfl rfl rfl hne) (by simp only [go_sem,hA]) ?_
 simp only [go_sem,hA,Tryz.results52]
end
end Go.Proofs.YtpnjjmcimjlfkaaGreatDoor
