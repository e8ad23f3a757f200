/- Texts of this proof, part 28: what the proof uses of them. -/
import Derived.Test.YtpnjjmcimjlfkaaGreatDoorRaz
import Derived.Test.YtpnjjmcimjlfkaaGreatDoorRba
set_option maxRecDepth 100000
set_option maxHeartbeats 64000000
namespace Go.Proofs.YtpnjjmcimjlfkaaGreatDoor
section
open Go Go.RowKit Go.Shelf
attribute [local go_sem] Oper.semAt_some St.ren zhZ zgU AV.ren zdd Blk.ren St.setBlk List.getD_cons_zero
abbrev zM:D:=.raw (.slice none 0 0)
abbrev zu:D:=.raw (.string ⟨#[]⟩)
theorem zeG {α:Type} (f:α->List UInt8) (l:List α) (q:Nat) (h:q<l.length):(l.drop q).flatMap f=f l[q]++(l.drop (q+1)).flatMap f:=by
 rw [List.drop_eq_getElem_cons h,List.flatMap_cons]
theorem zht {α β:Type} (f:α->β) (l:List α) (q:Nat) (h:q<l.length):(l.take q).map f++[f l[q]]=(l.take (q+1)).map f:=by
 rw [List.take_succ_eq_append_getElem h,List.map_append];rfl
abbrev zAV (xs:List Fl) (c0:D) (c2:D) (t:List UInt8) (q:Nat):St:=⟨[(0,.box 901 0),(1,.box 909 1),(2,.bnd 182 (.box 901 0)),(6,.box 907 0),(8,.d (.raw (.int .i64 q)))],[(901,some (zgR ((xs.drop q).flatMap flP++t))),(907,some (.cell 3 [.d (.raw (.int .i64 xs.length))])),(909,some (.cell 26 [.d c0,.grow 99 (zap (xs.take q)),.d c2]))],[(99,some ⟨2,62,q,none⟩)]⟩
theorem zGd (xs:List Fl) (c0:D) (c2:D) (hn:xs.length<=1048576) (hE:∀ x ∈ xs,∀ t,(flP x++t).length<=1048576->zI Tryz.prog 182 [.box 901 0,.box 902 0] (crL (flP x++t) [(902,some (.cell 62 [.d (zu),.d (zu)]))]) (zG t [(902,some (.cell 62 [.d (.raw (.string x.path)),.d (.raw (.string x.data))]))])) (t:List UInt8) (hb:((zb xs.length++xs.flatMap flP)++t).length<=1048576):zI Tryz.prog 181 [.box 901 0,.box 909 1,.bnd 182 (.box 901 0)] (crL ((zb xs.length++xs.flatMap flP)++t) [(909,some (.cell 26 [.d c0,.d zM,.d c2]))]) (zG t [(909,some (.cell 26 [.d c0,.d (.sl (zap xs)),.d c2]))]):=by
 rw [List.append_assoc] at hb ⊢
 refine kL [901,909] [] Tryz.func181 Tryz.ntmps181 fun A hA hX=>?_
 refine goC 400 ?_
 simp only [go_sem,hA]
 refine zaA 4 907 rfl ⟨by rw [hX.1];rfl,by rw [hX.2];rfl⟩ rfl rfl _ (by simp only [go_sem];rfl) ?_
 refine gL [901,907] [] (zdT xs.length (by omega) _ hb) (fun pv h=>(zf h).elim) fun res L' h=>?_
 cases h
 simp only [go_sem,hA]
 refine zbG 99 909 1 2 62 (by simp only [go_sem]) rfl rfl ?_
 simp only [go_sem,List.set]
 refine zc [0,1,2,6,8] [901,907,909] [99] (fun n σ=>∃ q,q<=xs.length/\n=xs.length - q/\σ=zAV xs c0 c2 t q) xs.length ⟨0,by omega,by omega,by simp only [go_sem];rfl⟩ ?_
 rintro n σ ⟨q,hq,rfl,rfl⟩
 by_cases hlt:q<xs.length
 ·have k1:decide ((q:Int)<(xs.length:Int))=true:=decide_eq_true (by omega)
  have hd:=zeG flP xs q hlt
  have hlen:((xs.drop q).flatMap flP++t).length<=1048576:=by
   have h1:(xs.take q).flatMap flP++(xs.drop q).flatMap flP=xs.flatMap flP:=by rw [<- List.flatMap_append,List.take_append_drop]
   rw [<- h1] at hb
   simp only [List.length_append] at hb ⊢;omega
  rw [hd,List.append_assoc] at hlen
  refine goC 400 ?_
  simp only [go_sem,hA,zAV,k1]
  refine zaA 11000 902 rfl ⟨by rw [hX.1];rfl,by rw [hX.2];rfl⟩ rfl rfl _ (by simp only [go_sem,hd,List.append_assoc];rfl) ?_
  refine zcG [901,902] [] 400 (hE _ (List.getElem_mem hlt) _ hlen) rfl rfl rfl rfl rfl (by simp only [go_sem,hA]) (fun res L' h=>?_) (fun pv h=>(zf h).elim)
  cases h
  simp only [go_sem,hA,mixed]
  have hl:(zap (xs.take q)).length=q:=by rw [zq,List.length_take];omega
  have henc:zap (xs.take (q+1))=zap (xs.take q)++[zib xs[q]]:=(zht zib xs q hlt).symm
  exact⟨⟨hl,zeH [xs[q]],fun r hr=>(zeH _ r hr).1,by omega⟩,by show chk _ _ _=true;kernel_rfl,by unfold za;omega,xs.length - (q+1),by omega,q+1,by omega,rfl,by rw [henc];rfl⟩
 ·have k1:decide ((q:Int)<(xs.length:Int))=false:=decide_eq_false (by omega)
  obtain rfl:q=xs.length:=by omega
  refine zdD 909 1 rfl rfl ?_
  simp only [go_sem,List.set]
  refine goC 400 ?_
  simp only [go_sem,hA,zAV,k1,undef,List.drop_length,List.flatMap_nil,List.nil_append,List.take_length,Tryz.results181]
  exact⟨_,rfl,rfl,rfl⟩
abbrev zAT (xs:List Mo) (c1:D) (c2:D) (t:List UInt8) (q:Nat):St:=⟨[(0,.box 901 0),(1,.box 909 0),(2,.bnd 180 (.box 901 0)),(6,.box 907 0),(8,.d (.raw (.int .i64 q)))],[(901,some (zgR ((xs.drop q).flatMap moP++t))),(907,some (.cell 3 [.d (.raw (.int .i64 xs.length))])),(909,some (.cell 26 [.grow 99 (zbS (xs.take q)),.d c1,.d c2]))],[(99,some ⟨3,56,q,none⟩)]⟩
theorem zGb (xs:List Mo) (c1:D) (c2:D) (hn:xs.length<=1048576) (hE:∀ x ∈ xs,∀ t,(moP x++t).length<=1048576->zI Tryz.prog 180 [.box 901 0,.box 902 0] (crL (moP x++t) [(902,some (.cell 56 [.d (zu),.d (zM),.d (zM)]))]) (zG t [(902,some (.cell 56 [.d (.raw (.string x.label)),.d (.sl (zQ x.uses)),.d (.sl (zbf x.decls))]))])) (t:List UInt8) (hb:((zb xs.length++xs.flatMap moP)++t).length<=1048576):zI Tryz.prog 179 [.box 901 0,.box 909 0,.bnd 180 (.box 901 0)] (crL ((zb xs.length++xs.flatMap moP)++t) [(909,some (.cell 26 [.d zM,.d c1,.d c2]))]) (zG t [(909,some (.cell 26 [.d (.sl (zbS xs)),.d c1,.d c2]))]):=by
 rw [List.append_assoc] at hb ⊢
 refine kL [901,909] [] Tryz.func179 Tryz.ntmps179 fun A hA hX=>?_
 refine goC 400 ?_
 simp only [go_sem,hA]
 refine zaA 4 907 rfl ⟨by rw [hX.1];rfl,by rw [hX.2];rfl⟩ rfl rfl _ (by simp only [go_sem];rfl) ?_
 refine gL [901,907] [] (zdT xs.length (by omega) _ hb) (fun pv h=>(zf h).elim) fun res L' h=>?_
 cases h
 simp only [go_sem,hA]
 refine zbG 99 909 0 3 56 (by simp only [go_sem]) rfl rfl ?_
 simp only [go_sem,List.set]
 refine zc [0,1,2,6,8] [901,907,909] [99] (fun n σ=>∃ q,q<=xs.length/\n=xs.length - q/\σ=zAT xs c1 c2 t q) xs.length ⟨0,by omega,by omega,by simp only [go_sem];rfl⟩ ?_
 rintro n σ ⟨q,hq,rfl,rfl⟩
 by_cases hlt:q<xs.length
 ·have k1:decide ((q:Int)<(xs.length:Int))=true:=decide_eq_true (by omega)
  have hd:=zeG moP xs q hlt
  have hlen:((xs.drop q).flatMap moP++t).length<=1048576:=by
   have h1:(xs.take q).flatMap moP++(xs.drop q).flatMap moP=xs.flatMap moP:=by rw [<- List.flatMap_append,List.take_append_drop]
   rw [<- h1] at hb
   simp only [List.length_append] at hb ⊢;omega
  rw [hd,List.append_assoc] at hlen
  refine goC 400 ?_
  simp only [go_sem,hA,zAT,k1]
  refine zaA 11000 902 rfl ⟨by rw [hX.1];rfl,by rw [hX.2];rfl⟩ rfl rfl _ (by simp only [go_sem,hd,List.append_assoc];rfl) ?_
  refine zcG [901,902] [] 400 (hE _ (List.getElem_mem hlt) _ hlen) rfl rfl rfl rfl rfl (by simp only [go_sem,hA]) (fun res L' h=>?_) (fun pv h=>(zf h).elim)
  cases h
  simp only [go_sem,hA,mixed]
  have hl:(zbS (xs.take q)).length=q:=by rw [zZ,List.length_take];omega
  have henc:zbS (xs.take (q+1))=zbS (xs.take q)++[zhu xs[q]]:=(zht zhu xs q hlt).symm
  exact⟨⟨hl,zpq [xs[q]],fun r hr=>(zpq _ r hr).1,by omega⟩,by show chk _ _ _=true;kernel_rfl,by unfold za;omega,xs.length - (q+1),by omega,q+1,by omega,rfl,by rw [henc];rfl⟩
 ·have k1:decide ((q:Int)<(xs.length:Int))=false:=decide_eq_false (by omega)
  obtain rfl:q=xs.length:=by omega
  refine zdD 909 0 rfl rfl ?_
  simp only [go_sem,List.set]
  refine goC 400 ?_
  simp only [go_sem,hA,zAT,k1,undef,List.drop_length,List.flatMap_nil,List.nil_append,List.take_length,Tryz.results179]
  exact⟨_,rfl,rfl,rfl⟩
abbrev zAZ (xs:List Tc) (c0:D) (c1:D) (t:List UInt8) (q:Nat):St:=⟨[(0,.box 901 0),(1,.box 909 2),(2,.bnd 184 (.box 901 0)),(6,.box 907 0),(8,.d (.raw (.int .i64 q)))],[(901,some (zgR ((xs.drop q).flatMap tcP++t))),(907,some (.cell 3 [.d (.raw (.int .i64 xs.length))])),(909,some (.cell 26 [.d c0,.d c1,.grow 99 (zbc (xs.take q))]))],[(99,some ⟨7,58,q,none⟩)]⟩
theorem zGh (xs:List Tc) (c0:D) (c1:D) (hn:xs.length<=1048576) (hE:∀ x ∈ xs,∀ t,(tcP x++t).length<=1048576->zI Tryz.prog 184 [.box 901 0,.box 902 0] (crL (tcP x++t) [(902,some (.cell 58 [.d (zu),.d (.raw (.bool false)),.d (.raw (.bool false)),.d (.raw (.bool false)),.d (zu),.d (zu),.d (zu)]))]) (zG t [(902,some (.cell 58 [.d (.raw (.string x.path)),.d (.raw (.bool x.inB)),.d (.raw (.bool x.inL)),.d (.raw (.bool x.inR)),.d (.raw (.string x.base)),.d (.raw (.string x.left)),.d (.raw (.string x.right))]))])) (t:List UInt8) (hb:((zb xs.length++xs.flatMap tcP)++t).length<=1048576):zI Tryz.prog 183 [.box 901 0,.box 909 2,.bnd 184 (.box 901 0)] (crL ((zb xs.length++xs.flatMap tcP)++t) [(909,some (.cell 26 [.d c0,.d c1,.d zM]))]) (zG t [(909,some (.cell 26 [.d c0,.d c1,.d (.sl (zbc xs))]))]):=by
 rw [List.append_assoc] at hb ⊢
 refine kL [901,909] [] Tryz.func183 Tryz.ntmps183 fun A hA hX=>?_
 refine goC 400 ?_
 simp only [go_sem,hA]
 refine zaA 4 907 rfl ⟨by rw [hX.1];rfl,by rw [hX.2];rfl⟩ rfl rfl _ (by simp only [go_sem];rfl) ?_
 refine gL [901,907] [] (zdT xs.length (by omega) _ hb) (fun pv h=>(zf h).elim) fun res L' h=>?_
 cases h
 simp only [go_sem,hA]
 refine zbG 99 909 2 7 58 (by simp only [go_sem]) rfl rfl ?_
 simp only [go_sem,List.set]
 refine zc [0,1,2,6,8] [901,907,909] [99] (fun n σ=>∃ q,q<=xs.length/\n=xs.length - q/\σ=zAZ xs c0 c1 t q) xs.length ⟨0,by omega,by omega,by simp only [go_sem];rfl⟩ ?_
 rintro n σ ⟨q,hq,rfl,rfl⟩
 by_cases hlt:q<xs.length
 ·have k1:decide ((q:Int)<(xs.length:Int))=true:=decide_eq_true (by omega)
  have hd:=zeG tcP xs q hlt
  have hlen:((xs.drop q).flatMap tcP++t).length<=1048576:=by
   have h1:(xs.take q).flatMap tcP++(xs.drop q).flatMap tcP=xs.flatMap tcP:=by rw [<- List.flatMap_append,List.take_append_drop]
   rw [<- h1] at hb
   simp only [List.length_append] at hb ⊢;omega
  rw [hd,List.append_assoc] at hlen
  refine goC 400 ?_
  simp only [go_sem,hA,zAZ,k1]
  refine zaA 11000 902 rfl ⟨by rw [hX.1];rfl,by rw [hX.2];rfl⟩ rfl rfl _ (by simp only [go_sem,hd,List.append_assoc];rfl) ?_
  refine zcG [901,902] [] 400 (hE _ (List.getElem_mem hlt) _ hlen) rfl rfl rfl rfl rfl (by simp only [go_sem,hA]) (fun res L' h=>?_) (fun pv h=>(zf h).elim)
  cases h
  simp only [go_sem,hA,mixed]
  have hl:(zbc (xs.take q)).length=q:=by rw [zD,List.length_take];omega
  have henc:zbc (xs.take (q+1))=zbc (xs.take q)++[zea xs[q]]:=(zht zea xs q hlt).symm
  exact⟨⟨hl,zgd [xs[q]],fun r hr=>(zgd _ r hr).1,by omega⟩,by show chk _ _ _=true;kernel_rfl,by unfold za;omega,xs.length - (q+1),by omega,q+1,by omega,rfl,by rw [henc];rfl⟩
 ·have k1:decide ((q:Int)<(xs.length:Int))=false:=decide_eq_false (by omega)
  obtain rfl:q=xs.length:=by omega
  refine zdD 909 2 rfl rfl ?_
  simp only [go_sem,List.set]
  refine goC 400 ?_
  simp only [go_sem,hA,zAZ,k1,undef,List.drop_length,List.flatMap_nil,List.nil_append,List.take_length,Tryz.results183]
  exact⟨_,rfl,rfl,rfl⟩
theorem zeC (q:Nat) (hq:q=902\/q=903\/q=907) (ty:TypeId) (pre post:List D) (x:D) {n:Int} (hn:inM n) (t:List UInt8) (hb:(zb n.toNat++t).length<=1048576):zI Tryz.prog 243 [.box 901 0,.box q pre.length] (crL (zb n.toNat++t) [(q,some (.cell ty (mdB pre x post)))]) (zG t [(q,some (.cell ty (mdB pre (.raw (.int .i64 n)) post)))]):=by
 have h:=zsC q hq ty pre post x n.toNat (zcl hn) t hb
 rw [Int.toNat_of_nonneg hn.1] at h
 exact h
theorem zFa (x:Fl) (hx:zAE x) (t:List UInt8) (hb:(flP x++t).length<=1048576):zI Tryz.prog 182 [.box 901 0,.box 902 0] (crL (flP x++t) [(902,some (.cell 62 [.d (zu),.d (zu)]))]) (zG t [(902,some (.cell 62 [.d (.raw (.string x.path)),.d (.raw (.string x.data))]))]):=by
 unfold flP at hb ⊢
 rw [List.append_assoc] at hb ⊢
 refine kL [901,902] [] Tryz.func182 Tryz.ntmps182 fun A hA hX=>?_
 refine goC 400 ?_
 simp only [go_sem,hA]
 refine gL [901,902] [] (zeK 902 (.inl rfl) _ [] [zu] zu x.path hx.1 _ hb) (fun pv h=>(zf h).elim) fun res L' h=>?_
 cases h
 simp only [go_sem,hA,mdB,List.nil_append,List.cons_append,List.map_cons,List.map_nil]
 refine gL [901,902] [] (zeK 902 (.inl rfl) _ [.raw (.string x.path)] [] zu x.data hx.2 _ (by simp only [List.length_append] at hb ⊢;omega)) (fun pv h=>(zf h).elim) fun res L' h=>?_
 cases h
 simp only [go_sem,mdB,List.nil_append,List.cons_append,List.map_cons,List.map_nil,Tryz.results182]
 exact⟨_,rfl,rfl,rfl⟩
abbrev zpy (_x:Tc) (c:Blk) (t:List UInt8) (i:Int):St:=⟨[(0,.box 901 0),(1,.box 902 0),(22,.own 1009 3),(23,.d (.raw (.int .i64 3))),(24,.d (.raw (.int .i64 i)))],[(901,some (zgR t)),(902,some c),(1009,some (.cell 279 [.box 902 1,.box 902 2,.box 902 3]))],[]⟩
abbrev zpx (_x:Tc) (c:Blk) (t:List UInt8) (i:Int):St:=⟨[(0,.box 901 0),(1,.box 902 0),(41,.own 6009 3),(42,.d (.raw (.int .i64 3))),(43,.d (.raw (.int .i64 i)))],[(901,some (zgR t)),(902,some c),(6009,some (.cell 271 [.box 902 4,.box 902 5,.box 902 6]))],[]⟩
theorem zvB (x:Tc) (hx:zAF x) (t:List UInt8) (hb:(tcP x++t).length<=1048576):zI Tryz.prog 184 [.box 901 0,.box 902 0] (crL (tcP x++t) [(902,some (.cell 58 [.d (zu),.d (.raw (.bool false)),.d (.raw (.bool false)),.d (.raw (.bool false)),.d (zu),.d (zu),.d (zu)]))]) (zG t [(902,some (.cell 58 [.d (.raw (.string x.path)),.d (.raw (.bool x.inB)),.d (.raw (.bool x.inL)),.d (.raw (.bool x.inR)),.d (.raw (.string x.base)),.d (.raw (.string x.left)),.d (.raw (.string x.right))]))]):=by
 unfold tcP at hb ⊢
 simp only [List.append_assoc] at hb ⊢
 refine kL [901,902] [] Tryz.func184 Tryz.ntmps184 fun A hA hX=>?_
 refine goC 400 ?_
 simp only [go_sem,hA]
 refine gL [901,902] [] (zeK 902 (.inl rfl) _ [] [.raw (.bool false),.raw (.bool false),.raw (.bool false),zu,zu,zu] zu x.path hx.1 _ hb) (fun pv h=>(zf h).elim) fun res L' h=>?_
 cases h
 simp only [go_sem,hA,mixed,mdB,List.nil_append,List.cons_append,List.map_cons,List.map_nil]
 refine⟨by show chk _ _ _=true;kernel_rfl,?_⟩
 refine zc [0,1,22,23,24] [901,902,1009] [] (fun y σ=>∃ (i:Nat) (j:Int) (p:List UInt8) (c:Blk),((i=0/\j=0/\p=zL x.inB++(zL x.inL++(zL x.inR++(zi x.base++(zi x.left++(zi x.right++t)))))/\c = .cell 58 [.d (.raw (.string x.path)),.d (.raw (.bool false)),.d (.raw (.bool false)),.d (.raw (.bool false)),.d (zu),.d (zu),.d (zu)])\/(i=1/\j=1/\p=zL x.inL++(zL x.inR++(zi x.base++(zi x.left++(zi x.right++t))))/\c = .cell 58 [.d (.raw (.string x.path)),.d (.raw (.bool x.inB)),.d (.raw (.bool false)),.d (.raw (.bool false)),.d (zu),.d (zu),.d (zu)])\/(i=2/\j=2/\p=zL x.inR++(zi x.base++(zi x.left++(zi x.right++t)))/\c = .cell 58 [.d (.raw (.string x.path)),.d (.raw (.bool x.inB)),.d (.raw (.bool x.inL)),.d (.raw (.bool false)),.d (zu),.d (zu),.d (zu)])\/(i=3/\j=3/\p=zi x.base++(zi x.left++(zi x.right++t))/\c = .cell 58 [.d (.raw (.string x.path)),.d (.raw (.bool x.inB)),.d (.raw (.bool x.inL)),.d (.raw (.bool x.inR)),.d (zu),.d (zu),.d (zu)]))/\y=3 - i/\σ=zpy x c p j) 3 ⟨0,0,_,_,.inl ⟨rfl,rfl,rfl,rfl⟩,rfl,by simp only [go_sem,zpy]⟩ ?_
 rintro y σ ⟨i,j,p,c,hi,rfl,rfl⟩
 rcases hi with⟨rfl,rfl,rfl,rfl⟩ | ⟨rfl,rfl,rfl,rfl⟩ | ⟨rfl,rfl,rfl,rfl⟩ | ⟨rfl,rfl,rfl,rfl⟩
 ·refine goC 400 ?_
  simp only [go_sem,hA,zpy]
  refine gL [901,902] [] (zhF 902 (.inl rfl) _ [.raw (.string x.path)] [.raw (.bool false),.raw (.bool false),zu,zu,zu] x.inB _ (by simp only [List.length_append] at hb ⊢;omega)) (fun pv h=>(zf h).elim) fun res L' h=>?_
  cases h
  simp only [go_sem,hA,mdB,List.nil_append,List.cons_append,List.map_cons,List.map_nil]
  exact⟨by unfold za;omega,2,by omega,1,1,_,_,.inr (.inl ⟨rfl,rfl,rfl,rfl⟩),rfl,rfl⟩
 ·refine goC 400 ?_
  simp only [go_sem,hA,zpy]
  refine gL [901,902] [] (zhF 902 (.inl rfl) _ [.raw (.string x.path),.raw (.bool x.inB)] [.raw (.bool false),zu,zu,zu] x.inL _ (by simp only [List.length_append] at hb ⊢;omega)) (fun pv h=>(zf h).elim) fun res L' h=>?_
  cases h
  simp only [go_sem,hA,mdB,List.nil_append,List.cons_append,List.map_cons,List.map_nil]
  exact⟨by unfold za;omega,1,by omega,2,2,_,_,.inr (.inr (.inl ⟨rfl,rfl,rfl,rfl⟩)),rfl,rfl⟩
 ·refine goC 400 ?_
  simp only [go_sem,hA,zpy]
  refine gL [901,902] [] (zhF 902 (.inl rfl) _ [.raw (.string x.path),.raw (.bool x.inB),.raw (.bool x.inL)] [zu,zu,zu] x.inR _ (by simp only [List.length_append] at hb ⊢;omega)) (fun pv h=>(zf h).elim) fun res L' h=>?_
  cases h
  simp only [go_sem,hA,mdB,List.nil_append,List.cons_append,List.map_cons,List.map_nil]
  exact⟨by unfold za;omega,0,by omega,3,3,_,_,.inr (.inr (.inr (⟨rfl,rfl,rfl,rfl⟩))),rfl,rfl⟩
 ·refine goC 400 ?_
  simp only [go_sem,hA,mixed,zpy]
  refine⟨by show chk _ _ _=true;kernel_rfl,?_⟩
  refine zc [0,1,41,42,43] [901,902,6009] [] (fun y σ=>∃ (i:Nat) (j:Int) (p:List UInt8) (c:Blk),((i=0/\j=0/\p=zi x.base++(zi x.left++(zi x.right++t))/\c = .cell 58 [.d (.raw (.string x.path)),.d (.raw (.bool x.inB)),.d (.raw (.bool x.inL)),.d (.raw (.bool x.inR)),.d (zu),.d (zu),.d (zu)])\/(i=1/\j=1/\p=zi x.left++(zi x.right++t)/\c = .cell 58 [.d (.raw (.string x.path)),.d (.raw (.bool x.inB)),.d (.raw (.bool x.inL)),.d (.raw (.bool x.inR)),.d (.raw (.string x.base)),.d (zu),.d (zu)])\/(i=2/\j=2/\p=zi x.right++t/\c = .cell 58 [.d (.raw (.string x.path)),.d (.raw (.bool x.inB)),.d (.raw (.bool x.inL)),.d (.raw (.bool x.inR)),.d (.raw (.string x.base)),.d (.raw (.string x.left)),.d (zu)])\/(i=3/\j=3/\p=t/\c = .cell 58 [.d (.raw (.string x.path)),.d (.raw (.bool x.inB)),.d (.raw (.bool x.inL)),.d (.raw (.bool x.inR)),.d (.raw (.string x.base)),.d (.raw (.string x.left)),.d (.raw (.string x.right))]))/\y=3 - i/\σ=zpx x c p j) 3 ⟨0,0,_,_,.inl ⟨rfl,rfl,rfl,rfl⟩,rfl,by simp only [go_sem,zpx]⟩ ?_
  rintro y σ ⟨i,j,p,c,hi,rfl,rfl⟩
  rcases hi with⟨rfl,rfl,rfl,rfl⟩ | ⟨rfl,rfl,rfl,rfl⟩ | ⟨rfl,rfl,rfl,rfl⟩ | ⟨rfl,rfl,rfl,rfl⟩
  ·refine goC 400 ?_
   simp only [go_sem,hA,zpx]
   refine gL [901,902] [] (zeK 902 (.inl rfl) _ [.raw (.string x.path),.raw (.bool x.inB),.raw (.bool x.inL),.raw (.bool x.inR)] [zu,zu] zu x.base hx.2.1 _ (by simp only [List.length_append] at hb ⊢;omega)) (fun pv h=>(zf h).elim) fun res L' h=>?_
   cases h
   simp only [go_sem,hA,mdB,List.nil_append,List.cons_append,List.map_cons,List.map_nil]
   exact⟨by unfold za;omega,2,by omega,1,1,_,_,.inr (.inl ⟨rfl,rfl,rfl,rfl⟩),rfl,rfl⟩
  ·refine goC 400 ?_
   simp only [go_sem,hA,zpx]
   refine gL [901,902] [] (zeK 902 (.inl rfl) _ [.raw (.string x.path),.raw (.bool x.inB),.raw (.bool x.inL),.raw (.bool x.inR),.raw (.string x.base)] [zu] zu x.left hx.2.2.1 _ (by simp only [List.length_append] at hb ⊢;omega)) (fun pv h=>(zf h).elim) fun res L' h=>?_
   cases h
   simp only [go_sem,hA,mdB,List.nil_append,List.cons_append,List.map_cons,List.map_nil]
   exact⟨by unfold za;omega,1,by omega,2,2,_,_,.inr (.inr (.inl ⟨rfl,rfl,rfl,rfl⟩)),rfl,rfl⟩
  ·refine goC 400 ?_
   simp only [go_sem,hA,zpx]
   refine gL [901,902] [] (zeK 902 (.inl rfl) _ [.raw (.string x.path),.raw (.bool x.inB),.raw (.bool x.inL),.raw (.bool x.inR),.raw (.string x.base),.raw (.string x.left)] [] zu x.right hx.2.2.2 _ (by simp only [List.length_append] at hb ⊢;omega)) (fun pv h=>(zf h).elim) fun res L' h=>?_
   cases h
   simp only [go_sem,hA,mdB,List.nil_append,List.cons_append,List.map_cons,List.map_nil]
   exact⟨by unfold za;omega,0,by omega,3,3,_,_,.inr (.inr (.inr (⟨rfl,rfl,rfl,rfl⟩))),rfl,rfl⟩
  ·refine goC 400 ?_
   simp only [go_sem,hA,zpx,Tryz.results184]
   exact⟨_,rfl,rfl,rfl⟩
theorem znv (l:List Dc):zam 11 (zbf l):=by
 intro r hr
 obtain⟨t,_,rfl⟩:=List.mem_map.1 hr
 refine⟨rfl,fun x hx=>?_⟩
 simp only [zcb,List.mem_cons,List.not_mem_nil,or_false] at hx
 rcases hx with rfl | rfl | rfl | rfl | rfl | rfl | rfl | rfl | rfl | rfl | rfl <;> rfl
abbrev zAX (xs:List Dc) (c0:D) (c1:D) (t:List UInt8) (q:Nat):St:=⟨[(0,.box 901 0),(1,.box 902 2),(2,.bnd 247 (.box 901 0)),(6,.box 907 0),(8,.d (.raw (.int .i64 q)))],[(901,some (zgR ((xs.drop q).flatMap dcP++t))),(907,some (.cell 3 [.d (.raw (.int .i64 xs.length))])),(902,some (.cell 56 [.d c0,.d c1,.grow 99 (zbf (xs.take q))]))],[(99,some ⟨11,107,q,none⟩)]⟩
theorem zGf (xs:List Dc) (c0:D) (c1:D) (hn:xs.length<=1048576) (hE:∀ x ∈ xs,∀ t,(dcP x++t).length<=1048576->zI Tryz.prog 247 [.box 901 0,.box 903 0] (crL (dcP x++t) [(903,some (.cell 107 [.d (.raw (.int .i64 0)),.d (.raw (.int .i64 0)),.d (.raw (.bool false)),.d (zM),.d (.raw (.bool false)),.d (.raw (.int .i64 0)),.d (zu),.d (zu),.d (.raw (.int .i64 0)),.d (.raw (.int .i64 0)),.d (zM)]))]) (zG t [(903,some (.cell 107 [.d (.raw (.int .i64 x.id)),.d (.raw (.int .i64 x.kind)),.d (.raw (.bool x.pub)),.d (.sl (zQ x.names)),.d (.raw (.bool x.doubt)),.d (.raw (.int .i64 x.body.kind)),.d (.raw (.string x.body.name)),.d (.raw (.string x.body.more)),.d (.raw (.int .i64 x.body.int)),.d (.raw (.int .i64 x.body.den)),.d (.sl (zaF x.body.sub))]))])) (t:List UInt8) (hb:((zb xs.length++xs.flatMap dcP)++t).length<=1048576):zI Tryz.prog 246 [.box 901 0,.box 902 2,.bnd 247 (.box 901 0)] (crL ((zb xs.length++xs.flatMap dcP)++t) [(902,some (.cell 56 [.d c0,.d c1,.d zM]))]) (zG t [(902,some (.cell 56 [.d c0,.d c1,.d (.sl (zbf xs))]))]):=by
 rw [List.append_assoc] at hb ⊢
 refine kL [901,902] [] Tryz.func246 Tryz.ntmps246 fun A hA hX=>?_
 refine goC 400 ?_
 simp only [go_sem,hA]
 refine zaA 4 907 rfl ⟨by rw [hX.1];rfl,by rw [hX.2];rfl⟩ rfl rfl _ (by simp only [go_sem];rfl) ?_
 refine gL [901,907] [] (zdT xs.length (by omega) _ hb) (fun pv h=>(zf h).elim) fun res L' h=>?_
 cases h
 simp only [go_sem,hA]
 refine zbG 99 902 2 11 107 (by simp only [go_sem]) rfl rfl ?_
 simp only [go_sem,List.set]
 refine zc [0,1,2,6,8] [901,907,902] [99] (fun n σ=>∃ q,q<=xs.length/\n=xs.length - q/\σ=zAX xs c0 c1 t q) xs.length ⟨0,by omega,by omega,by simp only [go_sem];rfl⟩ ?_
 rintro n σ ⟨q,hq,rfl,rfl⟩
 by_cases hlt:q<xs.length
 ·have k1:decide ((q:Int)<(xs.length:Int))=true:=decide_eq_true (by omega)
  have hd:=zeG dcP xs q hlt
  have hlen:((xs.drop q).flatMap dcP++t).length<=1048576:=by
   have h1:(xs.take q).flatMap dcP++(xs.drop q).flatMap dcP=xs.flatMap dcP:=by rw [<- List.flatMap_append,List.take_append_drop]
   rw [<- h1] at hb
   simp only [List.length_append] at hb ⊢;omega
  rw [hd,List.append_assoc] at hlen
  refine goC 400 ?_
  simp only [go_sem,hA,zAX,k1]
  refine zaA 11000 903 rfl ⟨by rw [hX.1];rfl,by rw [hX.2];rfl⟩ rfl rfl _ (by simp only [go_sem,hd,List.append_assoc];rfl) ?_
  refine zcG [901,903] [] 27 (hE _ (List.getElem_mem hlt) _ hlen) rfl rfl rfl rfl rfl (by simp only [go_sem,hA]) (fun res L' h=>?_) (fun pv h=>(zf h).elim)
  cases h
  simp only [go_sem,hA,mixed]
  have hl:(zbf (xs.take q)).length=q:=by rw [zr,List.length_take];omega
  have henc:zbf (xs.take (q+1))=zbf (xs.take q)++[zcb xs[q]]:=(zht zcb xs q hlt).symm
  refine zEY 400 (by simp only [go_sem]) rfl rfl (rows2:=zbf [xs[q]]) rfl (k:=⟨11,107,q,none⟩) rfl rfl (by kernel_rfl) zrw (by kernel_rfl) (by rw [show Tryz.prog.cellsOf 107=11 by kernel_rfl];decide) (by kernel_rfl) (by rw [show Tryz.prog.bytesOf 107=136 by kernel_rfl];decide) hl (znv _) (fun r hr=>(znv _ r hr).1) (by rw [hl,zr,List.length_singleton];omega) (by simp only [go_sem,hA]) (by decide) ?_
  simp only [go_sem,hA,zr,List.length_cons,List.length_nil]
  exact⟨by show chk _ _ _=true;kernel_rfl,by unfold za;omega,xs.length - (q+1),by omega,q+1,by omega,rfl,by rw [henc];rfl⟩
 ·have k1:decide ((q:Int)<(xs.length:Int))=false:=decide_eq_false (by omega)
  obtain rfl:q=xs.length:=by omega
  refine zdD 902 2 rfl rfl ?_
  simp only [go_sem,List.set]
  refine goC 400 ?_
  simp only [go_sem,hA,zAX,k1,undef,List.drop_length,List.flatMap_nil,List.nil_append,List.take_length,Tryz.results246]
  exact⟨_,rfl,rfl,rfl⟩
abbrev zcF (r:Nat) (c:Blk) (ty:TypeId) (p:AV):List (Nat × Option Blk):=[(r,some c),(904,some (.cell 142 [.box 901 0])),(905,some (.cell ty [p]))]
abbrev exZ:List D:=[.raw (.int .i64 0),zu,zu,.raw (.int .i64 0),.raw (.int .i64 0),zM]
def zsg (pre:List D):Prop:=pre=[]\/∃ a b c d e,pre=[a,b,c,d,e]
def zgS (k:Nat):Prop:=∀ e:Ex,zfc k e->∀ (r:Nat) (_:r=902\/r=903) (ty:TypeId) (pre:List D) (_:zsg pre) (t:List UInt8),(exP e++t).length<=1048576->zI Tryz.prog 286 [.box 901 0,.box r pre.length,.d (.raw (.int .i64 k))] (crL (exP e++t) [(r,some (.cell ty ((pre++exZ).map AV.d)))]) (zG t [(r,some (.cell ty ((pre++zbj e).map AV.d)))])
theorem zGB (d:Dc) (hd:zjE d) (t:List UInt8) (hb:(zb d.id.toNat++t).length<=1048576):zI Tryz.prog 280 [.box 904 0,.box 905 0] (crL (zb d.id.toNat++t) (zcF 903 (.cell 107 [.d (.raw (.int .i64 0)),.d (.raw (.int .i64 0)),.d (.raw (.bool false)),.d (zM),.d (.raw (.bool false)),.d (.raw (.int .i64 0)),.d (zu),.d (zu),.d (.raw (.int .i64 0)),.d (.raw (.int .i64 0)),.d (zM)]) 310 (.box 903 0))) (zG t (zcF 903 (.cell 107 [.d (.raw (.int .i64 d.id)),.d (.raw (.int .i64 0)),.d (.raw (.bool false)),.d (zM),.d (.raw (.bool false)),.d (.raw (.int .i64 0)),.d (zu),.d (zu),.d (.raw (.int .i64 0)),.d (.raw (.int .i64 0)),.d (zM)]) 310 (.box 903 0))):=by
 refine kL [901,903,904,905] [] Tryz.func280 Tryz.ntmps280 fun A hA hX=>?_
 refine zev 0 [901,903] [] rfl rfl mixed hA.2 (by rw [hA.1];decide) (by simp only [go_sem,hA]) (by decide +kernel) rfl rfl rfl rfl (by simp only [go_sem]) (by simp only [go_sem]) rfl (by kernel_rfl) rfl rfl (fun _=>rfl) rfl (zeC 903 (.inr (.inl rfl)) _ [] [.raw (.int .i64 0),.raw (.bool false),zM,.raw (.bool false),.raw (.int .i64 0),zu,zu,.raw (.int .i64 0),.raw (.int .i64 0),zM] (.raw (.int .i64 0)) hd.1 t hb) rfl zac (fun env res L' h=>?_) (fun pv h=>(zf h).elim)
 cases h
 exact⟨_,rfl,rfl,rfl,rfl⟩
theorem zGz (d:Dc) (hd:zjE d) (t:List UInt8) (hb:(zb d.kind.toNat++t).length<=1048576):zI Tryz.prog 281 [.box 904 0,.box 905 0] (crL (zb d.kind.toNat++t) (zcF 903 (.cell 107 [.d (.raw (.int .i64 d.id)),.d (.raw (.int .i64 0)),.d (.raw (.bool false)),.d (zM),.d (.raw (.bool false)),.d (.raw (.int .i64 0)),.d (zu),.d (zu),.d (.raw (.int .i64 0)),.d (.raw (.int .i64 0)),.d (zM)]) 310 (.box 903 0))) (zG t (zcF 903 (.cell 107 [.d (.raw (.int .i64 d.id)),.d (.raw (.int .i64 d.kind)),.d (.raw (.bool false)),.d (zM),.d (.raw (.bool false)),.d (.raw (.int .i64 0)),.d (zu),.d (zu),.d (.raw (.int .i64 0)),.d (.raw (.int .i64 0)),.d (zM)]) 310 (.box 903 0))):=by
 refine kL [901,903,904,905] [] Tryz.func281 Tryz.ntmps281 fun A hA hX=>?_
 refine zev 1 [901,903] [] rfl rfl mixed hA.2 (by rw [hA.1];decide) (by simp only [go_sem,hA]) (by decide +kernel) rfl rfl rfl rfl (by simp only [go_sem]) (by simp only [go_sem]) rfl (by kernel_rfl) rfl rfl (fun _=>rfl) rfl (zeC 903 (.inr (.inl rfl)) _ [.raw (.int .i64 d.id)] [.raw (.bool false),zM,.raw (.bool false),.raw (.int .i64 0),zu,zu,.raw (.int .i64 0),.raw (.int .i64 0),zM] (.raw (.int .i64 0)) hd.2.1 t hb) rfl zac (fun env res L' h=>?_) (fun pv h=>(zf h).elim)
 cases h
 exact⟨_,rfl,rfl,rfl,rfl⟩
theorem zGx (d:Dc) (t:List UInt8) (hb:(zL d.pub++t).length<=1048576):zI Tryz.prog 282 [.box 904 0,.box 905 0] (crL (zL d.pub++t) (zcF 903 (.cell 107 [.d (.raw (.int .i64 d.id)),.d (.raw (.int .i64 d.kind)),.d (.raw (.bool false)),.d (zM),.d (.raw (.bool false)),.d (.raw (.int .i64 0)),.d (zu),.d (zu),.d (.raw (.int .i64 0)),.d (.raw (.int .i64 0)),.d (zM)]) 310 (.box 903 0))) (zG t (zcF 903 (.cell 107 [.d (.raw (.int .i64 d.id)),.d (.raw (.int .i64 d.kind)),.d (.raw (.bool d.pub)),.d (zM),.d (.raw (.bool false)),.d (.raw (.int .i64 0)),.d (zu),.d (zu),.d (.raw (.int .i64 0)),.d (.raw (.int .i64 0)),.d (zM)]) 310 (.box 903 0))):=by
 refine kL [901,903,904,905] [] Tryz.func282 Tryz.ntmps282 fun A hA hX=>?_
 refine zev 2 [901,903] [] rfl rfl mixed hA.2 (by rw [hA.1];decide) (by simp only [go_sem,hA]) (by decide +kernel) rfl rfl rfl rfl (by simp only [go_sem]) (by simp only [go_sem]) rfl (by kernel_rfl) rfl rfl (fun _=>rfl) rfl (zhF 903 (.inr (.inl rfl)) _ [.raw (.int .i64 d.id),.raw (.int .i64 d.kind)] [zM,.raw (.bool false),.raw (.int .i64 0),zu,zu,.raw (.int .i64 0),.raw (.int .i64 0),zM] d.pub t hb) rfl zac (fun env res L' h=>?_) (fun pv h=>(zf h).elim)
 cases h
 exact⟨_,rfl,rfl,rfl,rfl⟩
theorem zGv (d:Dc) (hd:zjE d) (t:List UInt8) (hb:(zaQ d.names++t).length<=1048576):zI Tryz.prog 283 [.box 904 0,.box 905 0] (crL (zaQ d.names++t) (zcF 903 (.cell 107 [.d (.raw (.int .i64 d.id)),.d (.raw (.int .i64 d.kind)),.d (.raw (.bool d.pub)),.d (zM),.d (.raw (.bool false)),.d (.raw (.int .i64 0)),.d (zu),.d (zu),.d (.raw (.int .i64 0)),.d (.raw (.int .i64 0)),.d (zM)]) 310 (.box 903 0))) (zG t (zcF 903 (.cell 107 [.d (.raw (.int .i64 d.id)),.d (.raw (.int .i64 d.kind)),.d (.raw (.bool d.pub)),.d (.sl (zQ d.names)),.d (.raw (.bool false)),.d (.raw (.int .i64 0)),.d (zu),.d (zu),.d (.raw (.int .i64 0)),.d (.raw (.int .i64 0)),.d (zM)]) 310 (.box 903 0))):=by
 refine kL [901,903,904,905] [] Tryz.func283 Tryz.ntmps283 fun A hA hX=>?_
 refine zev 3 [901,903] [] rfl rfl mixed hA.2 (by rw [hA.1];decide) (by simp only [go_sem,hA]) (by decide +kernel) rfl rfl rfl rfl (by simp only [go_sem]) (by simp only [go_sem]) rfl (by kernel_rfl) rfl rfl (fun _=>rfl) rfl (zvT 903 (.inr (.inl rfl)) _ [.raw (.int .i64 d.id),.raw (.int .i64 d.kind),.raw (.bool d.pub)] [.raw (.bool false),.raw (.int .i64 0),zu,zu,.raw (.int .i64 0),.raw (.int .i64 0),zM] zM d.names hd.2.2.1 t hb) rfl zac (fun env res L' h=>?_) (fun pv h=>(zf h).elim)
 cases h
 exact⟨_,rfl,rfl,rfl,rfl⟩
theorem zGt (d:Dc) (t:List UInt8) (hb:(zL d.doubt++t).length<=1048576):zI Tryz.prog 284 [.box 904 0,.box 905 0] (crL (zL d.doubt++t) (zcF 903 (.cell 107 [.d (.raw (.int .i64 d.id)),.d (.raw (.int .i64 d.kind)),.d (.raw (.bool d.pub)),.d (.sl (zQ d.names)),.d (.raw (.bool false)),.d (.raw (.int .i64 0)),.d (zu),.d (zu),.d (.raw (.int .i64 0)),.d (.raw (.int .i64 0)),.d (zM)]) 310 (.box 903 0))) (zG t (zcF 903 (.cell 107 [.d (.raw (.int .i64 d.id)),.d (.raw (.int .i64 d.kind)),.d (.raw (.bool d.pub)),.d (.sl (zQ d.names)),.d (.raw (.bool d.doubt)),.d (.raw (.int .i64 0)),.d (zu),.d (zu),.d (.raw (.int .i64 0)),.d (.raw (.int .i64 0)),.d (zM)]) 310 (.box 903 0))):=by
 refine kL [901,903,904,905] [] Tryz.func284 Tryz.ntmps284 fun A hA hX=>?_
 refine zev 4 [901,903] [] rfl rfl mixed hA.2 (by rw [hA.1];decide) (by simp only [go_sem,hA]) (by decide +kernel) rfl rfl rfl rfl (by simp only [go_sem]) (by simp only [go_sem]) rfl (by kernel_rfl) rfl rfl (fun _=>rfl) rfl (zhF 903 (.inr (.inl rfl)) _ [.raw (.int .i64 d.id),.raw (.int .i64 d.kind),.raw (.bool d.pub),.sl (zQ d.names)] [.raw (.int .i64 0),zu,zu,.raw (.int .i64 0),.raw (.int .i64 0),zM] d.doubt t hb) rfl zac (fun env res L' h=>?_) (fun pv h=>(zf h).elim)
 cases h
 exact⟨_,rfl,rfl,rfl,rfl⟩
theorem zGr (hX:zgS 40) (d:Dc) (hd:zjE d) (t:List UInt8) (hb:(exP d.body++t).length<=1048576):zI Tryz.prog 285 [.box 904 0,.box 905 0] (crL (exP d.body++t) (zcF 903 (.cell 107 [.d (.raw (.int .i64 d.id)),.d (.raw (.int .i64 d.kind)),.d (.raw (.bool d.pub)),.d (.sl (zQ d.names)),.d (.raw (.bool d.doubt)),.d (.raw (.int .i64 0)),.d (zu),.d (zu),.d (.raw (.int .i64 0)),.d (.raw (.int .i64 0)),.d (zM)]) 310 (.box 903 0))) (zG t (zcF 903 (.cell 107 [.d (.raw (.int .i64 d.id)),.d (.raw (.int .i64 d.kind)),.d (.raw (.bool d.pub)),.d (.sl (zQ d.names)),.d (.raw (.bool d.doubt)),.d (.raw (.int .i64 d.body.kind)),.d (.raw (.string d.body.name)),.d (.raw (.string d.body.more)),.d (.raw (.int .i64 d.body.int)),.d (.raw (.int .i64 d.body.den)),.d (.sl (zaF d.body.sub))]) 310 (.box 903 0))):=by
 have hX':=hX d.body hd.2.2.2 903 (.inr rfl) 107 [.raw (.int .i64 d.id),.raw (.int .i64 d.kind),.raw (.bool d.pub),.sl (zQ d.names),.raw (.bool d.doubt)] (.inr ⟨_,_,_,_,_,rfl⟩) t hb
 rw [zax] at hX'
 refine kL [901,903,904,905] [] Tryz.func285 Tryz.ntmps285 fun A hA hX=>?_
 refine zev (vx:=[.d (.raw (.int .i64 40))]) 5 [901,903] [] rfl rfl mixed hA.2 (by rw [hA.1];decide) (by simp only [go_sem,hA]) (by decide +kernel) rfl rfl rfl rfl (by simp only [go_sem]) (by simp only [go_sem]) rfl (by kernel_rfl) rfl rfl (fun _=>rfl) rfl (hX') rfl zac (fun env res L' h=>?_) (fun pv h=>(zf h).elim)
 cases h
 exact⟨_,rfl,rfl,rfl,rfl⟩
abbrev ztp (c:Blk) (t:List UInt8) (i:Int):St:=⟨[(12,.own 1006 6),(13,.d (.raw (.int .i64 6))),(14,.d (.raw (.int .i64 i)))],[(901,some (zgR t)),(903,some c),(904,some (.cell 142 [.box 901 0])),(905,some (.cell 310 [.box 903 0])),(1006,some (.cell 1 [.fn 280 [.box 904 0,.box 905 0],.fn 281 [.box 904 0,.box 905 0],.fn 282 [.box 904 0,.box 905 0],.fn 283 [.box 904 0,.box 905 0],.fn 284 [.box 904 0,.box 905 0],.fn 285 [.box 904 0,.box 905 0]]))],[]⟩
theorem zFi (hX:zgS 40) (x:Dc) (hd:zjE x) (t:List UInt8) (hb:(dcP x++t).length<=1048576):zI Tryz.prog 247 [.box 901 0,.box 903 0] (crL (dcP x++t) [(903,some (.cell 107 [.d (.raw (.int .i64 0)),.d (.raw (.int .i64 0)),.d (.raw (.bool false)),.d (zM),.d (.raw (.bool false)),.d (.raw (.int .i64 0)),.d (zu),.d (zu),.d (.raw (.int .i64 0)),.d (.raw (.int .i64 0)),.d (zM)]))]) (zG t [(903,some (.cell 107 [.d (.raw (.int .i64 x.id)),.d (.raw (.int .i64 x.kind)),.d (.raw (.bool x.pub)),.d (.sl (zQ x.names)),.d (.raw (.bool x.doubt)),.d (.raw (.int .i64 x.body.kind)),.d (.raw (.string x.body.name)),.d (.raw (.string x.body.more)),.d (.raw (.int .i64 x.body.int)),.d (.raw (.int .i64 x.body.den)),.d (.sl (zaF x.body.sub))]))]):=by
 obtain⟨d,hdx⟩:∃ d,d=x:=⟨x,rfl⟩
 subst hdx
 unfold dcP at hb ⊢
 simp only [List.append_assoc] at hb ⊢
 refine kL [901,903] [] Tryz.func247 Tryz.ntmps247 fun A hA hXA=>?_
 refine goC 400 ?_
 simp only [go_sem,hA]
 refine zan 0 904 rfl ⟨by rw [hXA.1];rfl,by rw [hXA.2];rfl⟩ rfl rfl ?_
 simp only [go_sem]
 refine zan 1 905 rfl ⟨by rw [hXA.1];rfl,by rw [hXA.2];rfl⟩ rfl rfl ?_
 simp only [go_sem]
 refine zc [12,13,14] [901,903,904,905,1006] [] (fun y σ=>∃ (i:Nat) (j:Int) (p:List UInt8) (c:Blk),((i=0/\j=0/\p=zb d.id.toNat++(zb d.kind.toNat++(zL d.pub++(zaQ d.names++(zL d.doubt++(exP d.body++t)))))/\c = .cell 107 [.d (.raw (.int .i64 0)),.d (.raw (.int .i64 0)),.d (.raw (.bool false)),.d (zM),.d (.raw (.bool false)),.d (.raw (.int .i64 0)),.d (zu),.d (zu),.d (.raw (.int .i64 0)),.d (.raw (.int .i64 0)),.d (zM)])\/(i=1/\j=1/\p=zb d.kind.toNat++(zL d.pub++(zaQ d.names++(zL d.doubt++(exP d.body++t))))/\c = .cell 107 [.d (.raw (.int .i64 d.id)),.d (.raw (.int .i64 0)),.d (.raw (.bool false)),.d (zM),.d (.raw (.bool false)),.d (.raw (.int .i64 0)),.d (zu),.d (zu),.d (.raw (.int .i64 0)),.d (.raw (.int .i64 0)),.d (zM)])\/(i=2/\j=2/\p=zL d.pub++(zaQ d.names++(zL d.doubt++(exP d.body++t)))/\c = .cell 107 [.d (.raw (.int .i64 d.id)),.d (.raw (.int .i64 d.kind)),.d (.raw (.bool false)),.d (zM),.d (.raw (.bool false)),.d (.raw (.int .i64 0)),.d (zu),.d (zu),.d (.raw (.int .i64 0)),.d (.raw (.int .i64 0)),.d (zM)])\/(i=3/\j=3/\p=zaQ d.names++(zL d.doubt++(exP d.body++t))/\c = .cell 107 [.d (.raw (.int .i64 d.id)),.d (.raw (.int .i64 d.kind)),.d (.raw (.bool d.pub)),.d (zM),.d (.raw (.bool false)),.d (.raw (.int .i64 0)),.d (zu),.d (zu),.d (.raw (.int .i64 0)),.d (.raw (.int .i64 0)),.d (zM)])\/(i=4/\j=4/\p=zL d.doubt++(exP d.body++t)/\c = .cell 107 [.d (.raw (.int .i64 d.id)),.d (.raw (.int .i64 d.kind)),.d (.raw (.bool d.pub)),.d (.sl (zQ d.names)),.d (.raw (.bool false)),.d (.raw (.int .i64 0)),.d (zu),.d (zu),.d (.raw (.int .i64 0)),.d (.raw (.int .i64 0)),.d (zM)])\/(i=5/\j=5/\p=exP d.body++t/\c = .cell 107 [.d (.raw (.int .i64 d.id)),.d (.raw (.int .i64 d.kind)),.d (.raw (.bool d.pub)),.d (.sl (zQ d.names)),.d (.raw (.bool d.doubt)),.d (.raw (.int .i64 0)),.d (zu),.d (zu),.d (.raw (.int .i64 0)),.d (.raw (.int .i64 0)),.d (zM)])\/(i=6/\j=6/\p=t/\c = .cell 107 [.d (.raw (.int .i64 d.id)),.d (.raw (.int .i64 d.kind)),.d (.raw (.bool d.pub)),.d (.sl (zQ d.names)),.d (.raw (.bool d.doubt)),.d (.raw (.int .i64 d.body.kind)),.d (.raw (.string d.body.name)),.d (.raw (.string d.body.more)),.d (.raw (.int .i64 d.body.int)),.d (.raw (.int .i64 d.body.den)),.d (.sl (zaF d.body.sub))]))/\y=6 - i/\σ=ztp c p j) 6 ⟨0,0,_,_,.inl ⟨rfl,rfl,rfl,rfl⟩,rfl,by simp only [go_sem]⟩ ?_
 rintro y σ ⟨i,j,p,c,hi,rfl,rfl⟩
 rcases hi with⟨rfl,rfl,rfl,rfl⟩ | ⟨rfl,rfl,rfl,rfl⟩ | ⟨rfl,rfl,rfl,rfl⟩ | ⟨rfl,rfl,rfl,rfl⟩ | ⟨rfl,rfl,rfl,rfl⟩ | ⟨rfl,rfl,rfl,rfl⟩ | ⟨rfl,rfl,rfl,rfl⟩
 ·refine goC 400 ?_
  simp only [go_sem,hA,ztp]
  refine gL [901,903,904,905] [] (zGB d hd _ (by first | exact hb | (simp only [List.length_append] at hb ⊢;omega))) (fun pv h=>(zf h).elim) fun res L' h=>?_
  cases h
  simp only [go_sem,hA]
  exact⟨by unfold za;omega,5,by omega,1,1,_,_,.inr (.inl ⟨rfl,rfl,rfl,rfl⟩),rfl,rfl⟩
 ·refine goC 400 ?_
  simp only [go_sem,hA,ztp]
  refine gL [901,903,904,905] [] (zGz d hd _ (by first | exact hb | (simp only [List.length_append] at hb ⊢;omega))) (fun pv h=>(zf h).elim) fun res L' h=>?_
  cases h
  simp only [go_sem,hA]
  exact⟨by unfold za;omega,4,by omega,2,2,_,_,.inr (.inr (.inl ⟨rfl,rfl,rfl,rfl⟩)),rfl,rfl⟩
 ·refine goC 400 ?_
  simp only [go_sem,hA,ztp]
  refine gL [901,903,904,905] [] (zGx d _ (by first | exact hb | (simp only [List.length_append] at hb ⊢;omega))) (fun pv h=>(zf h).elim) fun res L' h=>?_
  cases h
  simp only [go_sem,hA]
  exact⟨by unfold za;omega,3,by omega,3,3,_,_,.inr (.inr (.inr (.inl ⟨rfl,rfl,rfl,rfl⟩))),rfl,rfl⟩
 ·refine goC 400 ?_
  simp only [go_sem,hA,ztp]
  refine gL [901,903,904,905] [] (zGv d hd _ (by first | exact hb | (simp only [List.length_append] at hb ⊢;omega))) (fun pv h=>(zf h).elim) fun res L' h=>?_
  cases h
  simp only [go_sem,hA]
  exact⟨by unfold za;omega,2,by omega,4,4,_,_,.inr (.inr (.inr (.inr (.inl ⟨rfl,rfl,rfl,rfl⟩)))),rfl,rfl⟩
 ·refine goC 400 ?_
  simp only [go_sem,hA,ztp]
  refine gL [901,903,904,905] [] (zGt d _ (by first | exact hb | (simp only [List.length_append] at hb ⊢;omega))) (fun pv h=>(zf h).elim) fun res L' h=>?_
  cases h
  simp only [go_sem,hA]
  exact⟨by unfold za;omega,1,by omega,5,5,_,_,.inr (.inr (.inr (.inr (.inr (.inl ⟨rfl,rfl,rfl,rfl⟩))))),rfl,rfl⟩
 ·refine goC 400 ?_
  simp only [go_sem,hA,ztp]
  refine gL [901,903,904,905] [] (zGr hX d hd _ (by first | exact hb | (simp only [List.length_append] at hb ⊢;omega))) (fun pv h=>(zf h).elim) fun res L' h=>?_
  cases h
  simp only [go_sem,hA]
  exact⟨by unfold za;omega,0,by omega,6,6,_,_,.inr (.inr (.inr (.inr (.inr (.inr (⟨rfl,rfl,rfl,rfl⟩)))))),rfl,rfl⟩
 ·refine goC 400 ?_
  simp only [go_sem,hA,ztp,Tryz.results247]
  exact⟨_,rfl,rfl,rfl⟩
theorem zAc (hX:zgS 40) (x:Mo) (hx:zyf x) (t:List UInt8) (hb:(moP x++t).length<=1048576):zI Tryz.prog 180 [.box 901 0,.box 902 0] (crL (moP x++t) [(902,some (.cell 56 [.d (zu),.d (zM),.d (zM)]))]) (zG t [(902,some (.cell 56 [.d (.raw (.string x.label)),.d (.sl (zQ x.uses)),.d (.sl (zbf x.decls))]))]):=by
 unfold moP at hb ⊢
 have e:(zi x.label++(zaQ x.uses++(zb x.decls.length++x.decls.flatMap dcP)))++t=zi x.label++(zaQ x.uses++((zb x.decls.length++x.decls.flatMap dcP)++t)):=by simp only [List.append_assoc]
 rw [e] at hb ⊢
 refine kL [901,902] [] Tryz.func180 Tryz.ntmps180 fun A hA hXA=>?_
 refine goC 400 ?_
 simp only [go_sem,hA]
 refine gL [901,902] [] (zeK 902 (.inl rfl) _ [] [zM,zM] zu x.label hx.1 _ hb) (fun pv h=>(zf h).elim) fun res L' h=>?_
 cases h
 simp only [go_sem,hA,mdB,List.nil_append,List.cons_append,List.map_cons,List.map_nil]
 refine gL [901,902] [] (zvT 902 (.inl rfl) _ [.raw (.string x.label)] [zM] zM x.uses hx.2.1 _ (by simp only [List.length_append] at hb ⊢;omega)) (fun pv h=>(zf h).elim) fun res L' h=>?_
 cases h
 simp only [go_sem,hA,mdB,List.nil_append,List.cons_append,List.map_cons,List.map_nil]
 refine zae [901,902] [] 400 (zGf x.decls _ _ hx.2.2.1 (fun d hd t h=>zFi hX d (hx.2.2.2 d hd) t h) t (by simp only [List.length_append] at hb ⊢;omega)) rfl rfl rfl rfl rfl (by simp only [go_sem,hA]) (fun res L' h=>?_) (fun pv h=>(zf h).elim)
 cases h
 simp only [go_sem,Tryz.results180]
 exact⟨_,rfl,rfl,rfl⟩
end
end Go.Proofs.YtpnjjmcimjlfkaaGreatDoor
