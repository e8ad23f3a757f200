/- Texts of this proof, part 29: what the proof uses of them. -/
import Derived.Test.YtpnjjmcimjlfkaaGreatDoorRbb
import Derived.Test.YtpnjjmcimjlfkaaGreatDoorRau
import Derived.Test.YtpnjjmcimjlfkaaGreatDoorRax
import Derived.Test.YtpnjjmcimjlfkaaGreatDoorRaz
set_option maxRecDepth 100000
set_option maxHeartbeats 64000000
namespace Go.Proofs.YtpnjjmcimjlfkaaGreatDoor
section
open Go Go.RowKit Go.Shelf
attribute [local go_sem] Oper.semAt_some St.ren zhZ zgU AV.ren zdd Blk.ren St.setBlk List.getD_cons_zero
def exB (pre l:List D):List AV:=(pre++l).map AV.d
theorem zns (pre l:List D) (n:Nat):(exB pre l).drop (pre.length+n)=(l.drop n).map AV.d:=by
 unfold exB
 rw [<- List.map_drop,<- List.drop_drop,List.drop_left]
theorem zqT (pre:List D) (a b c d e f:D):decide (pre.length+3+1<=(exB pre [a,b,c,d,e,f]).length)=true:=decide_eq_true (by simp [exB])
theorem zlL (pre:List D) (a b c d e f x:D):List.take (pre.length+3) (exB pre [a,b,c,d,e,f])++[.d x]++List.drop (pre.length+3+1) (exB pre [a,b,c,d,e,f])=exB pre [a,b,c,x,e,f]:=by
 have h1:List.drop (pre.length+3+1) (exB pre [a,b,c,d,e,f])=[.d e,.d f]:=zns pre _ 4
 rw [h1]
 unfold exB
 rw [<- List.map_take,List.take_length_add_append]
 simp
theorem zcf (r:Nat) (pre l:List D):zbq r (exB pre l)=false:=zvd r _
theorem zdK (q r:Nat) (pre l:List D):zdd q r (exB pre l)=exB pre l:=zzz q r _
theorem zaq (h:Nat->Bool) (pre l:List D):(exB pre l).all (AV.lentOk h)=true:=zBU h _
theorem zhm (pre a b:List D) (x:D):mdB (pre++a) x b=exB pre (a++x :: b):=by simp [mdB,exB]
def exS (pre:List D) (x:AV):List AV:=pre.map AV.d++[x]
theorem zjG (pre:List D) (x:AV):(exS pre x).drop pre.length=[x]:=by
 unfold exS
 rw [List.drop_left' (by simp)]
theorem zAK (pre:List D) (x:AV):decide (pre.length+1<=(exS pre x).length)=true:=decide_eq_true (by simp [exS])
theorem zwE (pre:List D) (x y:AV):List.take pre.length (exS pre x)++[y]++List.drop (pre.length+1) (exS pre x)=exS pre y:=by
 unfold exS
 rw [List.take_left' (by simp),<- List.drop_drop,List.drop_left' (by simp)]
 simp
theorem zlJ (pre:List D) (x y:AV):(exS pre x).set pre.length y=exS pre y:=by
 unfold exS
 rw [List.set_append_right _ _ (by simp)]
 simp
theorem zlK (pre:List D) (x:AV):(exS pre x)[pre.length]? = some x:=by
 unfold exS
 rw [List.getElem?_append_right (by simp)]
 simp
theorem zbB (r:Nat) (pre:List D) (x:AV):zbq r (exS pre x)=x.ment r:=by
 unfold exS
 induction pre with
 | nil=>rw [List.map_nil,List.nil_append,zbq,zbq,Bool.or_false]
 | cons y l ih=>rw [List.map_cons,List.cons_append,zbq,ih];rfl
theorem zlI (q r:Nat) (pre:List D) (x:AV):zdd q r (exS pre x)=exS pre (x.ren q r):=by
 unfold exS
 induction pre with
 | nil=>rfl
 | cons y l ih=>rw [List.map_cons,List.cons_append,zdd,ih];rfl
theorem zEt (pre:List D) (x:D):exS pre (.d x)=exB pre [x]:=by simp [exS,exB]
theorem zAL (pre a:List D) (x:D):exS (pre++a) (.d x)=exB pre (a++[x]):=by simp [exS,exB]
theorem ztb {l:List (List D)} {n:Nat} (h:l.length=n) (z:List D):(l++[z]).getD n []=z:=by subst h;simp [List.getD_eq_getElem?_getD]
theorem zrM {l:List (List D)} {n:Nat} (h:l.length=n) (z r:List D):(l++[z]).set n r=l++[r]:=by subst h;simp
theorem zwB (x:Ex):zam 6 [[.raw (.int .i64 x.kind),.raw (.string x.name),.raw (.string x.more),.raw (.int .i64 x.int),.raw (.int .i64 x.den),.sl (zaF x.sub)]]:=by
 have h:=zjI [x]
 rw [zaF,zaF,zax] at h
 exact h
theorem zpr (l:List Ex) (q:Nat) (h:q<l.length):zaF (l.take (q+1))=zaF (l.take q)++[zbj l[q]]:=by
 rw [zdZ,zdZ];exact(zht zbj l q h).symm
theorem zDs (ty:TypeId) (pre:List D) (e:Ex) (hn:inM e.kind) (t:List UInt8) (hb:(zb e.kind.toNat++t).length<=1048576):zI Tryz.prog 315 [.box 904 0,.box 905 0] (crL (zb e.kind.toNat++t) (zcF 902 (.cell ty (exB pre [.raw (.int .i64 0),zu,zu,.raw (.int .i64 0),.raw (.int .i64 0),zM])) 312 (.box 902 pre.length))) (zG t (zcF 902 (.cell ty (exB pre [.raw (.int .i64 e.kind),zu,zu,.raw (.int .i64 0),.raw (.int .i64 0),zM])) 312 (.box 902 pre.length))):=by
 have h0:=zeC 902 (.inl rfl) ty (pre++[]) [zu,zu,.raw (.int .i64 0),.raw (.int .i64 0),zM] (.raw (.int .i64 0)) hn t hb
 simp only [zhm,List.length_append] at h0
 refine kL [901,902,904,905] [] Tryz.func315 Tryz.ntmps315 fun A hA hXA=>?_
 refine zev 0 [901,902] [] rfl rfl mixed hA.2 (by rw [hA.1];decide) (by simp only [go_sem,hA]) (by decide +kernel) rfl rfl rfl rfl (by simp only [go_sem]) (by simp only [go_sem]) rfl (by kernel_rfl) rfl rfl (fun _=>rfl) rfl h0 (by simp only [go_sem,zaq]) zac (fun env res L' h=>?_) (fun pv h=>(zf h).elim)
 cases h
 exact⟨_,rfl,rfl,by simp only [go_sem,zaq],rfl⟩
theorem zDq (ty:TypeId) (pre:List D) (e:Ex) (hn:e.name.size<=65536) (t:List UInt8) (hb:(zi e.name++t).length<=1048576):zI Tryz.prog 316 [.box 904 0,.box 905 0] (crL (zi e.name++t) (zcF 902 (.cell ty (exB pre [.raw (.int .i64 e.kind),zu,zu,.raw (.int .i64 0),.raw (.int .i64 0),zM])) 312 (.box 902 pre.length))) (zG t (zcF 902 (.cell ty (exB pre [.raw (.int .i64 e.kind),.raw (.string e.name),zu,.raw (.int .i64 0),.raw (.int .i64 0),zM])) 312 (.box 902 pre.length))):=by
 have h0:=zeK 902 (.inl rfl) ty (pre++[.raw (.int .i64 e.kind)]) [zu,.raw (.int .i64 0),.raw (.int .i64 0),zM] zu e.name hn t hb
 simp only [zhm,List.length_append] at h0
 refine kL [901,902,904,905] [] Tryz.func316 Tryz.ntmps316 fun A hA hXA=>?_
 refine zev 1 [901,902] [] rfl rfl mixed hA.2 (by rw [hA.1];decide) (by simp only [go_sem,hA]) (by decide +kernel) rfl rfl rfl rfl (by simp only [go_sem]) (by simp only [go_sem]) rfl (by kernel_rfl) rfl rfl (fun _=>rfl) rfl h0 (by simp only [go_sem,zaq]) zac (fun env res L' h=>?_) (fun pv h=>(zf h).elim)
 cases h
 exact⟨_,rfl,rfl,by simp only [go_sem,zaq],rfl⟩
theorem zDr (ty:TypeId) (pre:List D) (e:Ex) (hn:inM e.kind) (t:List UInt8) (hb:(zb e.kind.toNat++t).length<=1048576):zI Tryz.prog 315 [.box 904 0,.box 905 0] (crL (zb e.kind.toNat++t) (zcF 903 (.cell ty (exB pre [.raw (.int .i64 0),zu,zu,.raw (.int .i64 0),.raw (.int .i64 0),zM])) 312 (.box 903 pre.length))) (zG t (zcF 903 (.cell ty (exB pre [.raw (.int .i64 e.kind),zu,zu,.raw (.int .i64 0),.raw (.int .i64 0),zM])) 312 (.box 903 pre.length))):=by
 have h0:=zeC 903 (.inr (.inl rfl)) ty (pre++[]) [zu,zu,.raw (.int .i64 0),.raw (.int .i64 0),zM] (.raw (.int .i64 0)) hn t hb
 simp only [zhm,List.length_append] at h0
 refine kL [901,903,904,905] [] Tryz.func315 Tryz.ntmps315 fun A hA hXA=>?_
 refine zev 0 [901,903] [] rfl rfl mixed hA.2 (by rw [hA.1];decide) (by simp only [go_sem,hA]) (by decide +kernel) rfl rfl rfl rfl (by simp only [go_sem]) (by simp only [go_sem]) rfl (by kernel_rfl) rfl rfl (fun _=>rfl) rfl h0 (by simp only [go_sem,zaq]) zac (fun env res L' h=>?_) (fun pv h=>(zf h).elim)
 cases h
 exact⟨_,rfl,rfl,by simp only [go_sem,zaq],rfl⟩
theorem zDp (ty:TypeId) (pre:List D) (e:Ex) (hn:e.name.size<=65536) (t:List UInt8) (hb:(zi e.name++t).length<=1048576):zI Tryz.prog 316 [.box 904 0,.box 905 0] (crL (zi e.name++t) (zcF 903 (.cell ty (exB pre [.raw (.int .i64 e.kind),zu,zu,.raw (.int .i64 0),.raw (.int .i64 0),zM])) 312 (.box 903 pre.length))) (zG t (zcF 903 (.cell ty (exB pre [.raw (.int .i64 e.kind),.raw (.string e.name),zu,.raw (.int .i64 0),.raw (.int .i64 0),zM])) 312 (.box 903 pre.length))):=by
 have h0:=zeK 903 (.inr (.inl rfl)) ty (pre++[.raw (.int .i64 e.kind)]) [zu,.raw (.int .i64 0),.raw (.int .i64 0),zM] zu e.name hn t hb
 simp only [zhm,List.length_append] at h0
 refine kL [901,903,904,905] [] Tryz.func316 Tryz.ntmps316 fun A hA hXA=>?_
 refine zev 1 [901,903] [] rfl rfl mixed hA.2 (by rw [hA.1];decide) (by simp only [go_sem,hA]) (by decide +kernel) rfl rfl rfl rfl (by simp only [go_sem]) (by simp only [go_sem]) rfl (by kernel_rfl) rfl rfl (fun _=>rfl) rfl h0 (by simp only [go_sem,zaq]) zac (fun env res L' h=>?_) (fun pv h=>(zf h).elim)
 cases h
 exact⟨_,rfl,rfl,by simp only [go_sem,zaq],rfl⟩
abbrev dBr (k:Nat):List (Nat × Option Blk):=[(904,some (.cell 142 [.box 901 0])),(906,some (.cell 3 [.d (.raw (.int .i64 (k+1:Nat)))]))]
theorem zEv (b:Bool) (t:List UInt8) (hb:(zL b++t).length<=1048576):zI Tryz.prog 318 [.box 904 0,.box 908 0] (crL (zL b++t) [(904,some (.cell 142 [.box 901 0])),(908,some (.cell 4 [.d (.raw (.bool false))]))]) (zG t [(904,some (.cell 142 [.box 901 0])),(908,some (.cell 4 [.d (.raw (.bool b))]))]):=by
 refine kL [901,904,908] [] Tryz.func318 Tryz.ntmps318 fun A hA hXA=>?_
 refine goC 400 ?_
 simp only [go_sem,hA]
 refine gL [901,908] [] (zhF 908 (.inr (.inr rfl)) 4 [] [] b t hb) (fun pv h=>(zf h).elim) fun res L' h=>?_
 cases h
 simp only [go_sem,mdB,List.nil_append,List.map_cons,List.map_nil,Tryz.results318]
 exact⟨_,rfl,rfl,rfl⟩
theorem zEu (n:Nat) (hn:n<=1099511627776) (t:List UInt8) (hb:(zb n++t).length<=1048576):zI Tryz.prog 319 [.box 904 0,.box 907 0] (crL (zb n++t) [(904,some (.cell 142 [.box 901 0])),(907,some (.cell 3 [.d (.raw (.int .i64 0))]))]) (zG t [(904,some (.cell 142 [.box 901 0])),(907,some (.cell 3 [.d (.raw (.int .i64 n))]))]):=by
 refine kL [901,904,907] [] Tryz.func319 Tryz.ntmps319 fun A hA hXA=>?_
 refine goC 400 ?_
 simp only [go_sem,hA]
 refine gL [901,907] [] (zdT n hn t hb) (fun pv h=>(zf h).elim) fun res L' h=>?_
 cases h
 simp only [go_sem,List.nil_append,List.map_cons,List.map_nil,Tryz.results319]
 exact⟨_,rfl,rfl,rfl⟩
theorem zDo (ty:TypeId) (pre:List D) (e:Ex) (hn:e.more.size<=65536) (t:List UInt8) (hb:(zi e.more++t).length<=1048576):zI Tryz.prog 317 [.box 904 0,.box 905 0] (crL (zi e.more++t) (zcF 902 (.cell ty (exB pre [.raw (.int .i64 e.kind),.raw (.string e.name),zu,.raw (.int .i64 0),.raw (.int .i64 0),zM])) 312 (.box 902 pre.length))) (zG t (zcF 902 (.cell ty (exB pre [.raw (.int .i64 e.kind),.raw (.string e.name),.raw (.string e.more),.raw (.int .i64 0),.raw (.int .i64 0),zM])) 312 (.box 902 pre.length))):=by
 have h0:=zeK 902 (.inl rfl) ty (pre++[.raw (.int .i64 e.kind),.raw (.string e.name)]) [.raw (.int .i64 0),.raw (.int .i64 0),zM] zu e.more hn t hb
 simp only [zhm,List.length_append] at h0
 refine kL [901,902,904,905] [] Tryz.func317 Tryz.ntmps317 fun A hA hXA=>?_
 refine zev 2 [901,902] [] rfl rfl mixed hA.2 (by rw [hA.1];decide) (by simp only [go_sem,hA]) (by decide +kernel) rfl rfl rfl rfl (by simp only [go_sem]) (by simp only [go_sem]) rfl (by kernel_rfl) rfl rfl (fun _=>rfl) rfl h0 (by simp only [go_sem,zaq]) zac (fun env res L' h=>?_) (fun pv h=>(zf h).elim)
 cases h
 exact⟨_,rfl,rfl,by simp only [go_sem,zaq],rfl⟩
theorem zDm (ty:TypeId) (pre:List D) (e:Ex) (hn:inM e.den) (t:List UInt8) (hb:(zb e.den.toNat++t).length<=1048576):zI Tryz.prog 320 [.box 904 0,.box 905 0] (crL (zb e.den.toNat++t) (zcF 902 (.cell ty (exB pre [.raw (.int .i64 e.kind),.raw (.string e.name),.raw (.string e.more),.raw (.int .i64 0),.raw (.int .i64 0),zM])) 312 (.box 902 pre.length))) (zG t (zcF 902 (.cell ty (exB pre [.raw (.int .i64 e.kind),.raw (.string e.name),.raw (.string e.more),.raw (.int .i64 0),.raw (.int .i64 e.den),zM])) 312 (.box 902 pre.length))):=by
 have h0:=zeC 902 (.inl rfl) ty (pre++[.raw (.int .i64 e.kind),.raw (.string e.name),.raw (.string e.more),.raw (.int .i64 0)]) [zM] (.raw (.int .i64 0)) hn t hb
 simp only [zhm,List.length_append] at h0
 refine kL [901,902,904,905] [] Tryz.func320 Tryz.ntmps320 fun A hA hXA=>?_
 refine zev 4 [901,902] [] rfl rfl mixed hA.2 (by rw [hA.1];decide) (by simp only [go_sem,hA]) (by decide +kernel) rfl rfl rfl rfl (by simp only [go_sem]) (by simp only [go_sem]) rfl (by kernel_rfl) rfl rfl (fun _=>rfl) rfl h0 (by simp only [go_sem,zaq]) zac (fun env res L' h=>?_) (fun pv h=>(zf h).elim)
 cases h
 exact⟨_,rfl,rfl,by simp only [go_sem,zaq],rfl⟩
theorem zDi (k:Nat) (hk:k<=1048576) (hX:zgS k) (e:Ex) (he:zfc k e) (t:List UInt8) (hb:(exP e++t).length<=1048576):zI Tryz.prog 323 [.box 902 0,.box 904 0,.box 906 0] (crL (exP e++t) ((902,some (.cell 105 [.d (.raw (.int .i64 0)),.d (zu),.d (zu),.d (.raw (.int .i64 0)),.d (.raw (.int .i64 0)),.d (zM)])) :: dBr k)) (zG t ((902,some (.cell 105 [.d (.raw (.int .i64 e.kind)),.d (.raw (.string e.name)),.d (.raw (.string e.more)),.d (.raw (.int .i64 e.int)),.d (.raw (.int .i64 e.den)),.d (.sl (zaF e.sub))])) :: dBr k)):=by
 have hX':=hX e he 902 (.inl rfl) 105 [] (.inl rfl) t hb
 rw [zax] at hX'
 refine kL [901,902,904,906] [] Tryz.func323 Tryz.ntmps323 fun A hA hXA=>?_
 have hk1:((k+1:Nat):Int) - 1=(k:Int):=by omega
 refine goC 400 ?_
 simp only [go_sem,hA,hk1]
 refine⟨by unfold za;omega,?_⟩
 refine gL [901,902] [] (hX') (fun pv h=>(zf h).elim) fun res L' h=>?_
 cases h
 simp only [go_sem,Tryz.results323]
 exact⟨_,rfl,rfl,rfl⟩
theorem zDn (ty:TypeId) (pre:List D) (e:Ex) (hn:e.more.size<=65536) (t:List UInt8) (hb:(zi e.more++t).length<=1048576):zI Tryz.prog 317 [.box 904 0,.box 905 0] (crL (zi e.more++t) (zcF 903 (.cell ty (exB pre [.raw (.int .i64 e.kind),.raw (.string e.name),zu,.raw (.int .i64 0),.raw (.int .i64 0),zM])) 312 (.box 903 pre.length))) (zG t (zcF 903 (.cell ty (exB pre [.raw (.int .i64 e.kind),.raw (.string e.name),.raw (.string e.more),.raw (.int .i64 0),.raw (.int .i64 0),zM])) 312 (.box 903 pre.length))):=by
 have h0:=zeK 903 (.inr (.inl rfl)) ty (pre++[.raw (.int .i64 e.kind),.raw (.string e.name)]) [.raw (.int .i64 0),.raw (.int .i64 0),zM] zu e.more hn t hb
 simp only [zhm,List.length_append] at h0
 refine kL [901,903,904,905] [] Tryz.func317 Tryz.ntmps317 fun A hA hXA=>?_
 refine zev 2 [901,903] [] rfl rfl mixed hA.2 (by rw [hA.1];decide) (by simp only [go_sem,hA]) (by decide +kernel) rfl rfl rfl rfl (by simp only [go_sem]) (by simp only [go_sem]) rfl (by kernel_rfl) rfl rfl (fun _=>rfl) rfl h0 (by simp only [go_sem,zaq]) zac (fun env res L' h=>?_) (fun pv h=>(zf h).elim)
 cases h
 exact⟨_,rfl,rfl,by simp only [go_sem,zaq],rfl⟩
theorem zDl (ty:TypeId) (pre:List D) (e:Ex) (hn:inM e.den) (t:List UInt8) (hb:(zb e.den.toNat++t).length<=1048576):zI Tryz.prog 320 [.box 904 0,.box 905 0] (crL (zb e.den.toNat++t) (zcF 903 (.cell ty (exB pre [.raw (.int .i64 e.kind),.raw (.string e.name),.raw (.string e.more),.raw (.int .i64 0),.raw (.int .i64 0),zM])) 312 (.box 903 pre.length))) (zG t (zcF 903 (.cell ty (exB pre [.raw (.int .i64 e.kind),.raw (.string e.name),.raw (.string e.more),.raw (.int .i64 0),.raw (.int .i64 e.den),zM])) 312 (.box 903 pre.length))):=by
 have h0:=zeC 903 (.inr (.inl rfl)) ty (pre++[.raw (.int .i64 e.kind),.raw (.string e.name),.raw (.string e.more),.raw (.int .i64 0)]) [zM] (.raw (.int .i64 0)) hn t hb
 simp only [zhm,List.length_append] at h0
 refine kL [901,903,904,905] [] Tryz.func320 Tryz.ntmps320 fun A hA hXA=>?_
 refine zev 4 [901,903] [] rfl rfl mixed hA.2 (by rw [hA.1];decide) (by simp only [go_sem,hA]) (by decide +kernel) rfl rfl rfl rfl (by simp only [go_sem]) (by simp only [go_sem]) rfl (by kernel_rfl) rfl rfl (fun _=>rfl) rfl h0 (by simp only [go_sem,zaq]) zac (fun env res L' h=>?_) (fun pv h=>(zf h).elim)
 cases h
 exact⟨_,rfl,rfl,by simp only [go_sem,zaq],rfl⟩
theorem zDh (k:Nat) (hk:k<=1048576) (hX:zgS k) (e:Ex) (he:zfc k e) (t:List UInt8) (hb:(exP e++t).length<=1048576):zI Tryz.prog 323 [.box 903 0,.box 904 0,.box 906 0] (crL (exP e++t) ((903,some (.cell 105 [.d (.raw (.int .i64 0)),.d (zu),.d (zu),.d (.raw (.int .i64 0)),.d (.raw (.int .i64 0)),.d (zM)])) :: dBr k)) (zG t ((903,some (.cell 105 [.d (.raw (.int .i64 e.kind)),.d (.raw (.string e.name)),.d (.raw (.string e.more)),.d (.raw (.int .i64 e.int)),.d (.raw (.int .i64 e.den)),.d (.sl (zaF e.sub))])) :: dBr k)):=by
 have hX':=hX e he 903 (.inr rfl) 105 [] (.inl rfl) t hb
 rw [zax] at hX'
 refine kL [901,903,904,906] [] Tryz.func323 Tryz.ntmps323 fun A hA hXA=>?_
 have hk1:((k+1:Nat):Int) - 1=(k:Int):=by omega
 refine goC 400 ?_
 simp only [go_sem,hA,hk1]
 refine⟨by unfold za;omega,?_⟩
 refine gL [901,903] [] (hX') (fun pv h=>(zf h).elim) fun res L' h=>?_
 cases h
 simp only [go_sem,Tryz.results323]
 exact⟨_,rfl,rfl,rfl⟩
abbrev zqV (k:Nat) (ty:TypeId) (pre:List D) (xs:List Ex) (t:List UInt8) (q:Nat):St:=⟨[(0,.box 901 0),(1,.box 902 pre.length),(2,.fn 323 [.box 904 0,.box 906 0]),(6,.box 907 0),(8,.d (.raw (.int .i64 q)))],[(901,some (zgR ((xs.drop q).flatMap exP++t))),(904,some (.cell 142 [.box 901 0])),(906,some (.cell 3 [.d (.raw (.int .i64 (k+1:Nat)))])),(907,some (.cell 3 [.d (.raw (.int .i64 xs.length))])),(902,some (.cell ty (exS pre (.stk 98 6 (q+1) 0 q))))],[(98,some ⟨6,105,q+1,some (zaF (xs.take q))⟩)]⟩
theorem zDg (k:Nat) (hk:k<=1048576) (hX:zgS k) (ty:TypeId) (pre:List D) (h5:(∃ a b c d e,pre=[a,b,c,d,e])\/∃ a b c d e a' b' c' d' e',pre=[a,b,c,d,e,a',b',c',d',e']) (xs:List Ex) (hn:xs.length<=1048576) (he:∀ x ∈ xs,zfc k x) (t:List UInt8) (hb:((zb xs.length++xs.flatMap exP)++t).length<=1048576):zI Tryz.prog 322 [.box 901 0,.box 902 pre.length,.fn 323 [.box 904 0,.box 906 0]] (crL ((zb xs.length++xs.flatMap exP)++t) ((902,some (.cell ty (exS pre (.d zM)))) :: dBr k)) (zG t ((902,some (.cell ty (exS pre (.d (.sl (zaF xs)))))) :: dBr k)):=by
 rw [List.append_assoc] at hb ⊢
 refine kL [901,902,904,906] [] Tryz.func322 Tryz.ntmps322 fun A hA hXA=>?_
 refine goC 400 ?_
 simp only [go_sem,hA,zjG,zbB,List.getElem?_cons_zero]
 refine zaA 4 907 rfl ⟨by rw [hXA.1];rfl,by rw [hXA.2];rfl⟩ (by simp only [go_sem,zai,zP,zbB]) rfl _ (by simp only [go_sem,zlI];rfl) ?_
 refine gL [901,907] [] (zdT xs.length (by omega) _ hb) (fun pv h=>(zf h).elim) fun res L' h=>?_
 cases h
 simp only [go_sem,hA]
 refine zgo 98 902 pre.length 6 1 105 ⟨by rw [hXA.1];rfl,by rw [hXA.2];rfl⟩ (by simp only [go_sem,zbB]) rfl (zlK _ _) ?_
 simp only [go_sem,zlJ]
 refine zc [0,1,2,6,8] [901,904,906,907,902] [98] (fun n σ=>∃ q,q<=xs.length/\n=xs.length - q/\σ=zqV k ty pre xs t q) xs.length ⟨0,by omega,by omega,by simp only [go_sem];rfl⟩ ?_
 rintro n σ ⟨q,hq,rfl,rfl⟩
 by_cases hlt:q<xs.length
 ·have k1:decide ((q:Int)<(xs.length:Int))=true:=decide_eq_true (by omega)
  have hd:=zeG exP xs q hlt
  have hlen:((xs.drop q).flatMap exP++t).length<=1048576:=by
   have h1:(xs.take q).flatMap exP++(xs.drop q).flatMap exP=xs.flatMap exP:=by rw [<- List.flatMap_append,List.take_append_drop]
   rw [<- h1] at hb
   simp only [List.length_append] at hb ⊢;omega
  rw [hd,List.append_assoc] at hlen
  refine goC 400 ?_
  simp only [go_sem,hA,zqV,k1,zbB]
  refine zaA 11000 903 rfl ⟨by rw [hXA.1];rfl,by rw [hXA.2];rfl⟩ (by simp only [go_sem,zai,zP,zbB]) rfl _ (by simp only [go_sem,hd,List.append_assoc,zlI];rfl) ?_
  refine zae [901,903,904,906] [] 3 (zDh k hk hX _ (he _ (List.getElem_mem hlt)) _ hlen) rfl rfl rfl rfl rfl (by simp only [go_sem,hA]) (fun res L' h=>?_) (fun pv h=>(zf h).elim)
  cases h
  simp only [go_sem]
  refine zoI 13000 rfl mixed (by decide +kernel) (by kernel_rfl) (by kernel_rfl) (by kernel_rfl) (by simp only [go_sem,zbB]) (by rw [hA.1];decide) (by rw [hA.1];decide) (by decide) fun b=>?_
  have hl:(zaF (xs.take q)).length=q:=by rw [zK,List.length_take];omega
  have hS:List.take q (zaF (xs.take q))=zaF (xs.take q):=List.take_of_length_le (by omega)
  have hT:=zpr xs q hlt
  rw [zax] at hT
  cases b
  all_goals
   refine goC 400 ?_
   simp only [go_sem,hA,mixed,zjG,zAK,zwE,zbB,List.getElem?_cons_zero,hl,hS,Int.toNat_natCast,Nat.zero_add,ztb hl,zrM hl,List.drop_succ_cons,List.drop_nil,List.length_append,List.length_cons,List.length_nil]
  ·exact⟨⟨zwB _,by omega,by omega⟩,by rcases h5 with⟨a,b,c,d,e,rfl⟩ | ⟨a,b,c,d,e,a',b',c',d',e',rfl⟩ <;> (show chk _ _ _=true;kernel_rfl),by unfold za;omega,xs.length - (q+1),by omega,q+1,by omega,rfl,by rw [hT];rfl⟩
  ·exact⟨⟨zjI [.mk 0 ⟨#[]⟩ ⟨#[]⟩ 0 0 []],by omega,by omega⟩,⟨by omega,by omega⟩,by omega,by unfold za;omega,xs.length - (q+1),by omega,q+1,by omega,rfl,by rw [hT];rfl⟩
 ·have k1:decide ((q:Int)<(xs.length:Int))=false:=decide_eq_false (by omega)
  obtain rfl:q=xs.length:=by omega
  refine ziY 98 902 pre.length (e:=105) (rows:=zaF xs) rfl (zlK _ _) (by simp only [go_sem,List.take_length]) (zK xs).symm (fun g a w x hk hx=>?_) ?_
  ·refine hk.notX hXA (fun r k h=>by cases h) (by simp only [go_sem];rfl) hx fun r h=>?_
   have hm:=Lent.has_mem h
   simp only [List.map_cons,List.map_nil,List.mem_cons,List.not_mem_nil,or_false] at hm
   rcases hm with rfl | rfl | rfl | rfl <;> rfl
  simp only [go_sem,zlJ]
  refine goC 400 ?_
  simp only [go_sem,hA,zqV,k1,undef,zEt,zaq,List.drop_length,List.flatMap_nil,List.nil_append,List.take_length,Tryz.results322]
  exact⟨_,rfl,rfl,rfl⟩
abbrev zqU (k:Nat) (ty:TypeId) (pre:List D) (xs:List Ex) (t:List UInt8) (q:Nat):St:=⟨[(0,.box 901 0),(1,.box 903 pre.length),(2,.fn 323 [.box 904 0,.box 906 0]),(6,.box 907 0),(8,.d (.raw (.int .i64 q)))],[(901,some (zgR ((xs.drop q).flatMap exP++t))),(904,some (.cell 142 [.box 901 0])),(906,some (.cell 3 [.d (.raw (.int .i64 (k+1:Nat)))])),(907,some (.cell 3 [.d (.raw (.int .i64 xs.length))])),(903,some (.cell ty (exS pre (.stk 98 6 (q+1) 0 q))))],[(98,some ⟨6,105,q+1,some (zaF (xs.take q))⟩)]⟩
theorem zDf (k:Nat) (hk:k<=1048576) (hX:zgS k) (ty:TypeId) (pre:List D) (h5:(∃ a b c d e,pre=[a,b,c,d,e])\/∃ a b c d e a' b' c' d' e',pre=[a,b,c,d,e,a',b',c',d',e']) (xs:List Ex) (hn:xs.length<=1048576) (he:∀ x ∈ xs,zfc k x) (t:List UInt8) (hb:((zb xs.length++xs.flatMap exP)++t).length<=1048576):zI Tryz.prog 322 [.box 901 0,.box 903 pre.length,.fn 323 [.box 904 0,.box 906 0]] (crL ((zb xs.length++xs.flatMap exP)++t) ((903,some (.cell ty (exS pre (.d zM)))) :: dBr k)) (zG t ((903,some (.cell ty (exS pre (.d (.sl (zaF xs)))))) :: dBr k)):=by
 rw [List.append_assoc] at hb ⊢
 refine kL [901,903,904,906] [] Tryz.func322 Tryz.ntmps322 fun A hA hXA=>?_
 refine goC 400 ?_
 simp only [go_sem,hA,zjG,zbB,List.getElem?_cons_zero]
 refine zaA 4 907 rfl ⟨by rw [hXA.1];rfl,by rw [hXA.2];rfl⟩ (by simp only [go_sem,zai,zP,zbB]) rfl _ (by simp only [go_sem,zlI];rfl) ?_
 refine gL [901,907] [] (zdT xs.length (by omega) _ hb) (fun pv h=>(zf h).elim) fun res L' h=>?_
 cases h
 simp only [go_sem,hA]
 refine zgo 98 903 pre.length 6 1 105 ⟨by rw [hXA.1];rfl,by rw [hXA.2];rfl⟩ (by simp only [go_sem,zbB]) rfl (zlK _ _) ?_
 simp only [go_sem,zlJ]
 refine zc [0,1,2,6,8] [901,904,906,907,903] [98] (fun n σ=>∃ q,q<=xs.length/\n=xs.length - q/\σ=zqU k ty pre xs t q) xs.length ⟨0,by omega,by omega,by simp only [go_sem];rfl⟩ ?_
 rintro n σ ⟨q,hq,rfl,rfl⟩
 by_cases hlt:q<xs.length
 ·have k1:decide ((q:Int)<(xs.length:Int))=true:=decide_eq_true (by omega)
  have hd:=zeG exP xs q hlt
  have hlen:((xs.drop q).flatMap exP++t).length<=1048576:=by
   have h1:(xs.take q).flatMap exP++(xs.drop q).flatMap exP=xs.flatMap exP:=by rw [<- List.flatMap_append,List.take_append_drop]
   rw [<- h1] at hb
   simp only [List.length_append] at hb ⊢;omega
  rw [hd,List.append_assoc] at hlen
  refine goC 400 ?_
  simp only [go_sem,hA,zqU,k1,zbB]
  refine zaA 11000 902 rfl ⟨by rw [hXA.1];rfl,by rw [hXA.2];rfl⟩ (by simp only [go_sem,zai,zP,zbB]) rfl _ (by simp only [go_sem,hd,List.append_assoc,zlI];rfl) ?_
  refine zae [901,902,904,906] [] 3 (zDi k hk hX _ (he _ (List.getElem_mem hlt)) _ hlen) rfl rfl rfl rfl rfl (by simp only [go_sem,hA]) (fun res L' h=>?_) (fun pv h=>(zf h).elim)
  cases h
  simp only [go_sem]
  refine zoI 13000 rfl mixed (by decide +kernel) (by kernel_rfl) (by kernel_rfl) (by kernel_rfl) (by simp only [go_sem,zbB]) (by rw [hA.1];decide) (by rw [hA.1];decide) (by decide) fun b=>?_
  have hl:(zaF (xs.take q)).length=q:=by rw [zK,List.length_take];omega
  have hS:List.take q (zaF (xs.take q))=zaF (xs.take q):=List.take_of_length_le (by omega)
  have hT:=zpr xs q hlt
  rw [zax] at hT
  cases b
  all_goals
   refine goC 400 ?_
   simp only [go_sem,hA,mixed,zjG,zAK,zwE,zbB,List.getElem?_cons_zero,hl,hS,Int.toNat_natCast,Nat.zero_add,ztb hl,zrM hl,List.drop_succ_cons,List.drop_nil,List.length_append,List.length_cons,List.length_nil]
  ·exact⟨⟨zwB _,by omega,by omega⟩,by rcases h5 with⟨a,b,c,d,e,rfl⟩ | ⟨a,b,c,d,e,a',b',c',d',e',rfl⟩ <;> (show chk _ _ _=true;kernel_rfl),by unfold za;omega,xs.length - (q+1),by omega,q+1,by omega,rfl,by rw [hT];rfl⟩
  ·exact⟨⟨zjI [.mk 0 ⟨#[]⟩ ⟨#[]⟩ 0 0 []],by omega,by omega⟩,⟨by omega,by omega⟩,by omega,by unfold za;omega,xs.length - (q+1),by omega,q+1,by omega,rfl,by rw [hT];rfl⟩
 ·have k1:decide ((q:Int)<(xs.length:Int))=false:=decide_eq_false (by omega)
  obtain rfl:q=xs.length:=by omega
  refine ziY 98 903 pre.length (e:=105) (rows:=zaF xs) rfl (zlK _ _) (by simp only [go_sem,List.take_length]) (zK xs).symm (fun g a w x hk hx=>?_) ?_
  ·refine hk.notX hXA (fun r k h=>by cases h) (by simp only [go_sem];rfl) hx fun r h=>?_
   have hm:=Lent.has_mem h
   simp only [List.map_cons,List.map_nil,List.mem_cons,List.not_mem_nil,or_false] at hm
   rcases hm with rfl | rfl | rfl | rfl <;> rfl
  simp only [go_sem,zlJ]
  refine goC 400 ?_
  simp only [go_sem,hA,zqU,k1,undef,zEt,zaq,List.drop_length,List.flatMap_nil,List.nil_append,List.take_length,Tryz.results322]
  exact⟨_,rfl,rfl,rfl⟩
theorem zDk (k:Nat) (hk:k<=1048576) (hX:zgS k) (ty:TypeId) (pre:List D) (hp:zsg pre) (e:Ex) (hn:e.sub.length<=1048576) (he:∀ x ∈ e.sub,zfc k x) (t:List UInt8) (hb:((zb e.sub.length++e.sub.flatMap exP)++t).length<=1048576):zI Tryz.prog 321 [.box 904 0,.box 905 0,.box 906 0] (crL ((zb e.sub.length++e.sub.flatMap exP)++t) ((zcF 902 (.cell ty (exB pre [.raw (.int .i64 e.kind),.raw (.string e.name),.raw (.string e.more),.raw (.int .i64 0),.raw (.int .i64 e.den),zM])) 312 (.box 902 pre.length))++[(906,some (.cell 3 [.d (.raw (.int .i64 (k+1:Nat)))]))])) (zG t ((zcF 902 (.cell ty (exB pre [.raw (.int .i64 e.kind),.raw (.string e.name),.raw (.string e.more),.raw (.int .i64 0),.raw (.int .i64 e.den),.sl (zaF e.sub)])) 312 (.box 902 pre.length))++[(906,some (.cell 3 [.d (.raw (.int .i64 (k+1:Nat)))]))])):=by
 have h5:(∃ a b c d e',pre++[.raw (.int .i64 e.kind),.raw (.string e.name),.raw (.string e.more),.raw (.int .i64 0),.raw (.int .i64 e.den)]=[a,b,c,d,e'])\/∃ a b c d e' a' b' c' d' f',pre++[.raw (.int .i64 e.kind),.raw (.string e.name),.raw (.string e.more),.raw (.int .i64 0),.raw (.int .i64 e.den)]=[a,b,c,d,e',a',b',c',d',f']:=by
  rcases hp with rfl | ⟨a,b,c,d,e',rfl⟩
  ·exact .inl ⟨_,_,_,_,_,rfl⟩
  ·exact .inr ⟨_,_,_,_,_,_,_,_,_,_,rfl⟩
 have h0:=zDg k hk hX ty (pre++[.raw (.int .i64 e.kind),.raw (.string e.name),.raw (.string e.more),.raw (.int .i64 0),.raw (.int .i64 e.den)]) h5 e.sub hn he t hb
 simp only [zAL,List.length_append] at h0
 refine kL [901,902,904,905,906] [] Tryz.func321 Tryz.ntmps321 fun A hA hXA=>?_
 refine zFj 5 [901,902,904,906] [] rfl rfl mixed hA.2 (by rw [hA.1];decide) (by simp only [go_sem,hA]) (by decide +kernel) rfl rfl rfl rfl rfl (by simp only [go_sem]) (by simp only [go_sem]) rfl (by kernel_rfl) rfl rfl rfl h0 (by simp only [go_sem,zaq]) zac (fun env res L' h=>?_) (fun pv h=>(zf h).elim)
 cases h
 exact⟨_,rfl,rfl,by simp only [go_sem,zaq],rfl⟩
abbrev zdJ (k:Nat) (ty:TypeId) (pre:List D) (c:List D) (b:Bool) (n:Int) (t:List UInt8) (i:Int):St:=⟨[(3,.box 904 0),(4,.box 905 0),(6,.box 908 0),(7,.box 907 0),(37,.own 4007 7),(38,.d (.raw (.int .i64 7))),(39,.d (.raw (.int .i64 i)))],[(901,some (zgR t)),(902,some (.cell ty (exB pre c))),(904,some (.cell 142 [.box 901 0])),(905,some (.cell 312 [.box 902 pre.length])),(906,some (.cell 3 [.d (.raw (.int .i64 (k+1:Nat)))])),(907,some (.cell 3 [.d (.raw (.int .i64 n))])),(908,some (.cell 4 [.d (.raw (.bool b))])),(4007,some (.cell 1 [.fn 315 [.box 904 0,.box 905 0],.fn 316 [.box 904 0,.box 905 0],.fn 317 [.box 904 0,.box 905 0],.fn 318 [.box 904 0,.box 908 0],.fn 319 [.box 904 0,.box 907 0],.fn 320 [.box 904 0,.box 905 0],.fn 321 [.box 904 0,.box 905 0,.box 906 0]]))],[]⟩
theorem zAJ (k:Nat) (hk:k<1048576) (ih:zgS k) (e:Ex) (he:zfc (k+1) e) (ty:TypeId) (pre:List D) (hp:zsg pre) (t:List UInt8) (hb:(exP e++t).length<=1048576):zI Tryz.prog 286 [.box 901 0,.box 902 pre.length,.d (.raw (.int .i64 (k+1:Nat)))] (crL (exP e++t) [(902,some (.cell ty (exB pre exZ)))]) (zG t [(902,some (.cell ty (exB pre (zbj e))))]):=by
 rw [zvx,zfV] at hb ⊢
 have ea:(zb e.kind.toNat++(zi e.name++(zi e.more++(zL (decide (e.int<0))++(zb e.int.natAbs++(zb e.den.toNat++(zb e.sub.length++e.sub.flatMap exP)))))))++t=zb e.kind.toNat++(zi e.name++(zi e.more++(zL (decide (e.int<0))++(zb e.int.natAbs++(zb e.den.toNat++((zb e.sub.length++e.sub.flatMap exP)++t)))))):=by simp only [List.append_assoc]
 rw [ea] at hb ⊢
 rw [zax]
 refine kL [901,902] [] Tryz.func286 Tryz.ntmps286 fun A hA hXA=>?_
 have z1:decide (((k+1:Nat):Int)=0)=false:=decide_eq_false (by omega)
 refine goC 600 ?_
 simp only [go_sem,hA,mixed,z1,zns,zcf,List.drop_succ_cons,List.drop_zero,List.map_cons,List.getElem?_cons_zero]
 refine⟨by unfold za;omega,by show chk _ _ _=true;kernel_rfl,?_⟩
 refine zan 0 904 rfl ⟨by rw [hXA.1];rfl,by rw [hXA.2];rfl⟩ (by simp only [go_sem,zai,zP,zcf]) rfl ?_
 simp only [go_sem,zdK]
 refine zan 1 905 rfl ⟨by rw [hXA.1];rfl,by rw [hXA.2];rfl⟩ (by simp only [go_sem,zai,zP,zcf]) rfl ?_
 simp only [go_sem,zdK]
 refine zan 2 906 rfl ⟨by rw [hXA.1];rfl,by rw [hXA.2];rfl⟩ (by simp only [go_sem,zai,zP,zcf]) rfl ?_
 simp only [go_sem,zdK]
 refine zan 3016 907 rfl ⟨by rw [hXA.1];rfl,by rw [hXA.2];rfl⟩ (by simp only [go_sem,zai,zP,zcf]) rfl ?_
 simp only [go_sem,zdK]
 refine zan 3015 908 rfl ⟨by rw [hXA.1];rfl,by rw [hXA.2];rfl⟩ (by simp only [go_sem,zai,zP,zcf]) rfl ?_
 simp only [go_sem,zdK]
 refine zc [3,4,6,7,37,38,39] [901,902,904,905,906,907,908,4007] [] (fun y σ=>∃ (i:Nat) (j:Int) (p:List UInt8) (c:List D) (b:Bool) (n:Int),((i=0/\j=0/\p=zb e.kind.toNat++(zi e.name++(zi e.more++(zL (decide (e.int<0))++(zb e.int.natAbs++(zb e.den.toNat++((zb e.sub.length++e.sub.flatMap exP)++t))))))/\c=[.raw (.int .i64 0),zu,zu,.raw (.int .i64 0),.raw (.int .i64 0),zM]/\b=false/\n=0)\/(i=1/\j=1/\p=zi e.name++(zi e.more++(zL (decide (e.int<0))++(zb e.int.natAbs++(zb e.den.toNat++((zb e.sub.length++e.sub.flatMap exP)++t)))))/\c=[.raw (.int .i64 e.kind),zu,zu,.raw (.int .i64 0),.raw (.int .i64 0),zM]/\b=false/\n=0)\/(i=2/\j=2/\p=zi e.more++(zL (decide (e.int<0))++(zb e.int.natAbs++(zb e.den.toNat++((zb e.sub.length++e.sub.flatMap exP)++t))))/\c=[.raw (.int .i64 e.kind),.raw (.string e.name),zu,.raw (.int .i64 0),.raw (.int .i64 0),zM]/\b=false/\n=0)\/(i=3/\j=3/\p=zL (decide (e.int<0))++(zb e.int.natAbs++(zb e.den.toNat++((zb e.sub.length++e.sub.flatMap exP)++t)))/\c=[.raw (.int .i64 e.kind),.raw (.string e.name),.raw (.string e.more),.raw (.int .i64 0),.raw (.int .i64 0),zM]/\b=false/\n=0)\/(i=4/\j=4/\p=zb e.int.natAbs++(zb e.den.toNat++((zb e.sub.length++e.sub.flatMap exP)++t))/\c=[.raw (.int .i64 e.kind),.raw (.string e.name),.raw (.string e.more),.raw (.int .i64 0),.raw (.int .i64 0),zM]/\b=decide (e.int<0)/\n=0)\/(i=5/\j=5/\p=zb e.den.toNat++((zb e.sub.length++e.sub.flatMap exP)++t)/\c=[.raw (.int .i64 e.kind),.raw (.string e.name),.raw (.string e.more),.raw (.int .i64 0),.raw (.int .i64 0),zM]/\b=decide (e.int<0)/\n=(e.int.natAbs:Int))\/(i=6/\j=6/\p=(zb e.sub.length++e.sub.flatMap exP)++t/\c=[.raw (.int .i64 e.kind),.raw (.string e.name),.raw (.string e.more),.raw (.int .i64 0),.raw (.int .i64 e.den),zM]/\b=decide (e.int<0)/\n=(e.int.natAbs:Int))\/(i=7/\j=7/\p=t/\c=[.raw (.int .i64 e.kind),.raw (.string e.name),.raw (.string e.more),.raw (.int .i64 0),.raw (.int .i64 e.den),.sl (zaF e.sub)]/\b=decide (e.int<0)/\n=(e.int.natAbs:Int)))/\y=7 - i/\σ=zdJ k ty pre c b n p j) 7 ⟨0,0,_,_,_,_,.inl ⟨rfl,rfl,rfl,rfl,rfl,rfl⟩,rfl,by simp only [go_sem]⟩ ?_
 rintro y σ ⟨i,j,p,c,b,n,hi,rfl,rfl⟩
 rcases hi with⟨rfl,rfl,rfl,rfl,rfl,rfl⟩ | ⟨rfl,rfl,rfl,rfl,rfl,rfl⟩ | ⟨rfl,rfl,rfl,rfl,rfl,rfl⟩ | ⟨rfl,rfl,rfl,rfl,rfl,rfl⟩ | ⟨rfl,rfl,rfl,rfl,rfl,rfl⟩ | ⟨rfl,rfl,rfl,rfl,rfl,rfl⟩ | ⟨rfl,rfl,rfl,rfl,rfl,rfl⟩ | ⟨rfl,rfl,rfl,rfl,rfl,rfl⟩
 ·refine goC 400 ?_
  simp only [go_sem,hA,zdJ]
  refine gL [901,902,904,905] [] (zDs ty pre e he.1 _ (by first | exact hb | (simp only [List.length_append] at hb ⊢;omega))) (fun pv h=>(zf h).elim) (fun res L' h=>?_) (by simp only [go_sem,zaq])
  cases h
  simp only [go_sem,hA]
  exact⟨by unfold za;omega,6,by omega,1,1,_,_,_,_,.inr (.inl ⟨rfl,rfl,rfl,rfl,rfl,rfl⟩),rfl,rfl⟩
 ·refine goC 400 ?_
  simp only [go_sem,hA,zdJ]
  refine gL [901,902,904,905] [] (zDq ty pre e he.2.1 _ (by first | exact hb | (simp only [List.length_append] at hb ⊢;omega))) (fun pv h=>(zf h).elim) (fun res L' h=>?_) (by simp only [go_sem,zaq])
  cases h
  simp only [go_sem,hA]
  exact⟨by unfold za;omega,5,by omega,2,2,_,_,_,_,.inr (.inr (.inl ⟨rfl,rfl,rfl,rfl,rfl,rfl⟩)),rfl,rfl⟩
 ·refine goC 400 ?_
  simp only [go_sem,hA,zdJ]
  refine gL [901,902,904,905] [] (zDo ty pre e he.2.2.1 _ (by first | exact hb | (simp only [List.length_append] at hb ⊢;omega))) (fun pv h=>(zf h).elim) (fun res L' h=>?_) (by simp only [go_sem,zaq])
  cases h
  simp only [go_sem,hA]
  exact⟨by unfold za;omega,4,by omega,3,3,_,_,_,_,.inr (.inr (.inr (.inl ⟨rfl,rfl,rfl,rfl,rfl,rfl⟩))),rfl,rfl⟩
 ·refine goC 400 ?_
  simp only [go_sem,hA,zdJ]
  refine zae [901,904,908] [] 400 (zEv _ _ (by first | exact hb | (simp only [List.length_append] at hb ⊢;omega))) rfl rfl rfl rfl (by simp only [go_sem]) (by simp only [go_sem,hA]) (fun res L' h=>?_) (fun pv h=>(zf h).elim)
  cases h
  simp only [go_sem,hA]
  exact⟨by unfold za;omega,3,by omega,4,4,_,_,_,_,.inr (.inr (.inr (.inr (.inl ⟨rfl,rfl,rfl,rfl,rfl,rfl⟩)))),rfl,rfl⟩
 ·refine goC 400 ?_
  simp only [go_sem,hA,zdJ]
  refine gL [901,904,907] [] (zEu _ he.2.2.2.1 _ (by first | exact hb | (simp only [List.length_append] at hb ⊢;omega))) (fun pv h=>(zf h).elim) (fun res L' h=>?_) (by simp only [go_sem])
  cases h
  simp only [go_sem,hA]
  exact⟨by unfold za;omega,2,by omega,5,5,_,_,_,_,.inr (.inr (.inr (.inr (.inr (.inl ⟨rfl,rfl,rfl,rfl,rfl,rfl⟩))))),rfl,rfl⟩
 ·refine goC 400 ?_
  simp only [go_sem,hA,zdJ]
  refine gL [901,902,904,905] [] (zDm ty pre e he.2.2.2.2.1 _ (by first | exact hb | (simp only [List.length_append] at hb ⊢;omega))) (fun pv h=>(zf h).elim) (fun res L' h=>?_) (by simp only [go_sem,zaq])
  cases h
  simp only [go_sem,hA]
  exact⟨by unfold za;omega,1,by omega,6,6,_,_,_,_,.inr (.inr (.inr (.inr (.inr (.inr (.inl ⟨rfl,rfl,rfl,rfl,rfl,rfl⟩)))))),rfl,rfl⟩
 ·refine goC 400 ?_
  simp only [go_sem,hA,zdJ]
  refine gL [901,902,904,905,906] [] (zDk k (by omega) ih ty pre hp e he.2.2.2.2.2.1 he.2.2.2.2.2.2 _ (by first | exact hb | (simp only [List.length_append] at hb ⊢;omega))) (fun pv h=>(zf h).elim) (fun res L' h=>?_) (by simp only [go_sem,zaq])
  cases h
  simp only [go_sem,hA]
  exact⟨by unfold za;omega,0,by omega,7,7,_,_,_,_,.inr (.inr (.inr (.inr (.inr (.inr (.inr (⟨rfl,rfl,rfl,rfl,rfl,rfl⟩))))))),rfl,rfl⟩
 ·refine goC 400 ?_
  by_cases hi:e.int<0
  ·have h1:-(e.int.natAbs:Int)=e.int:=by omega
   have h2:decide (e.int<0)=true:=decide_eq_true hi
   simp only [go_sem,hA,zdJ,h2,zqT,zlL,zaq,h1,Tryz.results286]
   exact⟨by have:=he.2.2.2.1;unfold za;omega,_,rfl,rfl,rfl⟩
  ·have h1:(e.int.natAbs:Int)=e.int:=by omega
   have h2:decide (e.int<0)=false:=decide_eq_false hi
   simp only [go_sem,hA,zdJ,h2,zqT,zlL,zaq,h1,Tryz.results286]
   exact⟨_,rfl,rfl,rfl⟩
theorem zDj (k:Nat) (hk:k<=1048576) (hX:zgS k) (ty:TypeId) (pre:List D) (hp:zsg pre) (e:Ex) (hn:e.sub.length<=1048576) (he:∀ x ∈ e.sub,zfc k x) (t:List UInt8) (hb:((zb e.sub.length++e.sub.flatMap exP)++t).length<=1048576):zI Tryz.prog 321 [.box 904 0,.box 905 0,.box 906 0] (crL ((zb e.sub.length++e.sub.flatMap exP)++t) ((zcF 903 (.cell ty (exB pre [.raw (.int .i64 e.kind),.raw (.string e.name),.raw (.string e.more),.raw (.int .i64 0),.raw (.int .i64 e.den),zM])) 312 (.box 903 pre.length))++[(906,some (.cell 3 [.d (.raw (.int .i64 (k+1:Nat)))]))])) (zG t ((zcF 903 (.cell ty (exB pre [.raw (.int .i64 e.kind),.raw (.string e.name),.raw (.string e.more),.raw (.int .i64 0),.raw (.int .i64 e.den),.sl (zaF e.sub)])) 312 (.box 903 pre.length))++[(906,some (.cell 3 [.d (.raw (.int .i64 (k+1:Nat)))]))])):=by
 have h5:(∃ a b c d e',pre++[.raw (.int .i64 e.kind),.raw (.string e.name),.raw (.string e.more),.raw (.int .i64 0),.raw (.int .i64 e.den)]=[a,b,c,d,e'])\/∃ a b c d e' a' b' c' d' f',pre++[.raw (.int .i64 e.kind),.raw (.string e.name),.raw (.string e.more),.raw (.int .i64 0),.raw (.int .i64 e.den)]=[a,b,c,d,e',a',b',c',d',f']:=by
  rcases hp with rfl | ⟨a,b,c,d,e',rfl⟩
  ·exact .inl ⟨_,_,_,_,_,rfl⟩
  ·exact .inr ⟨_,_,_,_,_,_,_,_,_,_,rfl⟩
 have h0:=zDf k hk hX ty (pre++[.raw (.int .i64 e.kind),.raw (.string e.name),.raw (.string e.more),.raw (.int .i64 0),.raw (.int .i64 e.den)]) h5 e.sub hn he t hb
 simp only [zAL,List.length_append] at h0
 refine kL [901,903,904,905,906] [] Tryz.func321 Tryz.ntmps321 fun A hA hXA=>?_
 refine zFj 5 [901,903,904,906] [] rfl rfl mixed hA.2 (by rw [hA.1];decide) (by simp only [go_sem,hA]) (by decide +kernel) rfl rfl rfl rfl rfl (by simp only [go_sem]) (by simp only [go_sem]) rfl (by kernel_rfl) rfl rfl rfl h0 (by simp only [go_sem,zaq]) zac (fun env res L' h=>?_) (fun pv h=>(zf h).elim)
 cases h
 exact⟨_,rfl,rfl,by simp only [go_sem,zaq],rfl⟩
abbrev zdI (k:Nat) (ty:TypeId) (pre:List D) (c:List D) (b:Bool) (n:Int) (t:List UInt8) (i:Int):St:=⟨[(3,.box 904 0),(4,.box 905 0),(6,.box 908 0),(7,.box 907 0),(37,.own 4007 7),(38,.d (.raw (.int .i64 7))),(39,.d (.raw (.int .i64 i)))],[(901,some (zgR t)),(903,some (.cell ty (exB pre c))),(904,some (.cell 142 [.box 901 0])),(905,some (.cell 312 [.box 903 pre.length])),(906,some (.cell 3 [.d (.raw (.int .i64 (k+1:Nat)))])),(907,some (.cell 3 [.d (.raw (.int .i64 n))])),(908,some (.cell 4 [.d (.raw (.bool b))])),(4007,some (.cell 1 [.fn 315 [.box 904 0,.box 905 0],.fn 316 [.box 904 0,.box 905 0],.fn 317 [.box 904 0,.box 905 0],.fn 318 [.box 904 0,.box 908 0],.fn 319 [.box 904 0,.box 907 0],.fn 320 [.box 904 0,.box 905 0],.fn 321 [.box 904 0,.box 905 0,.box 906 0]]))],[]⟩
theorem zAI (k:Nat) (hk:k<1048576) (ih:zgS k) (e:Ex) (he:zfc (k+1) e) (ty:TypeId) (pre:List D) (hp:zsg pre) (t:List UInt8) (hb:(exP e++t).length<=1048576):zI Tryz.prog 286 [.box 901 0,.box 903 pre.length,.d (.raw (.int .i64 (k+1:Nat)))] (crL (exP e++t) [(903,some (.cell ty (exB pre exZ)))]) (zG t [(903,some (.cell ty (exB pre (zbj e))))]):=by
 rw [zvx,zfV] at hb ⊢
 have ea:(zb e.kind.toNat++(zi e.name++(zi e.more++(zL (decide (e.int<0))++(zb e.int.natAbs++(zb e.den.toNat++(zb e.sub.length++e.sub.flatMap exP)))))))++t=zb e.kind.toNat++(zi e.name++(zi e.more++(zL (decide (e.int<0))++(zb e.int.natAbs++(zb e.den.toNat++((zb e.sub.length++e.sub.flatMap exP)++t)))))):=by simp only [List.append_assoc]
 rw [ea] at hb ⊢
 rw [zax]
 refine kL [901,903] [] Tryz.func286 Tryz.ntmps286 fun A hA hXA=>?_
 have z1:decide (((k+1:Nat):Int)=0)=false:=decide_eq_false (by omega)
 refine goC 600 ?_
 simp only [go_sem,hA,mixed,z1,zns,zcf,List.drop_succ_cons,List.drop_zero,List.map_cons,List.getElem?_cons_zero]
 refine⟨by unfold za;omega,by show chk _ _ _=true;kernel_rfl,?_⟩
 refine zan 0 904 rfl ⟨by rw [hXA.1];rfl,by rw [hXA.2];rfl⟩ (by simp only [go_sem,zai,zP,zcf]) rfl ?_
 simp only [go_sem,zdK]
 refine zan 1 905 rfl ⟨by rw [hXA.1];rfl,by rw [hXA.2];rfl⟩ (by simp only [go_sem,zai,zP,zcf]) rfl ?_
 simp only [go_sem,zdK]
 refine zan 2 906 rfl ⟨by rw [hXA.1];rfl,by rw [hXA.2];rfl⟩ (by simp only [go_sem,zai,zP,zcf]) rfl ?_
 simp only [go_sem,zdK]
 refine zan 3016 907 rfl ⟨by rw [hXA.1];rfl,by rw [hXA.2];rfl⟩ (by simp only [go_sem,zai,zP,zcf]) rfl ?_
 simp only [go_sem,zdK]
 refine zan 3015 908 rfl ⟨by rw [hXA.1];rfl,by rw [hXA.2];rfl⟩ (by simp only [go_sem,zai,zP,zcf]) rfl ?_
 simp only [go_sem,zdK]
 refine zc [3,4,6,7,37,38,39] [901,903,904,905,906,907,908,4007] [] (fun y σ=>∃ (i:Nat) (j:Int) (p:List UInt8) (c:List D) (b:Bool) (n:Int),((i=0/\j=0/\p=zb e.kind.toNat++(zi e.name++(zi e.more++(zL (decide (e.int<0))++(zb e.int.natAbs++(zb e.den.toNat++((zb e.sub.length++e.sub.flatMap exP)++t))))))/\c=[.raw (.int .i64 0),zu,zu,.raw (.int .i64 0),.raw (.int .i64 0),zM]/\b=false/\n=0)\/(i=1/\j=1/\p=zi e.name++(zi e.more++(zL (decide (e.int<0))++(zb e.int.natAbs++(zb e.den.toNat++((zb e.sub.length++e.sub.flatMap exP)++t)))))/\c=[.raw (.int .i64 e.kind),zu,zu,.raw (.int .i64 0),.raw (.int .i64 0),zM]/\b=false/\n=0)\/(i=2/\j=2/\p=zi e.more++(zL (decide (e.int<0))++(zb e.int.natAbs++(zb e.den.toNat++((zb e.sub.length++e.sub.flatMap exP)++t))))/\c=[.raw (.int .i64 e.kind),.raw (.string e.name),zu,.raw (.int .i64 0),.raw (.int .i64 0),zM]/\b=false/\n=0)\/(i=3/\j=3/\p=zL (decide (e.int<0))++(zb e.int.natAbs++(zb e.den.toNat++((zb e.sub.length++e.sub.flatMap exP)++t)))/\c=[.raw (.int .i64 e.kind),.raw (.string e.name),.raw (.string e.more),.raw (.int .i64 0),.raw (.int .i64 0),zM]/\b=false/\n=0)\/(i=4/\j=4/\p=zb e.int.natAbs++(zb e.den.toNat++((zb e.sub.length++e.sub.flatMap exP)++t))/\c=[.raw (.int .i64 e.kind),.raw (.string e.name),.raw (.string e.more),.raw (.int .i64 0),.raw (.int .i64 0),zM]/\b=decide (e.int<0)/\n=0)\/(i=5/\j=5/\p=zb e.den.toNat++((zb e.sub.length++e.sub.flatMap exP)++t)/\c=[.raw (.int .i64 e.kind),.raw (.string e.name),.raw (.string e.more),.raw (.int .i64 0),.raw (.int .i64 0),zM]/\b=decide (e.int<0)/\n=(e.int.natAbs:Int))\/(i=6/\j=6/\p=(zb e.sub.length++e.sub.flatMap exP)++t/\c=[.raw (.int .i64 e.kind),.raw (.string e.name),.raw (.string e.more),.raw (.int .i64 0),.raw (.int .i64 e.den),zM]/\b=decide (e.int<0)/\n=(e.int.natAbs:Int))\/(i=7/\j=7/\p=t/\c=[.raw (.int .i64 e.kind),.raw (.string e.name),.raw (.string e.more),.raw (.int .i64 0),.raw (.int .i64 e.den),.sl (zaF e.sub)]/\b=decide (e.int<0)/\n=(e.int.natAbs:Int)))/\y=7 - i/\σ=zdI k ty pre c b n p j) 7 ⟨0,0,_,_,_,_,.inl ⟨rfl,rfl,rfl,rfl,rfl,rfl⟩,rfl,by simp only [go_sem]⟩ ?_
 rintro y σ ⟨i,j,p,c,b,n,hi,rfl,rfl⟩
 rcases hi with⟨rfl,rfl,rfl,rfl,rfl,rfl⟩ | ⟨rfl,rfl,rfl,rfl,rfl,rfl⟩ | ⟨rfl,rfl,rfl,rfl,rfl,rfl⟩ | ⟨rfl,rfl,rfl,rfl,rfl,rfl⟩ | ⟨rfl,rfl,rfl,rfl,rfl,rfl⟩ | ⟨rfl,rfl,rfl,rfl,rfl,rfl⟩ | ⟨rfl,rfl,rfl,rfl,rfl,rfl⟩ | ⟨rfl,rfl,rfl,rfl,rfl,rfl⟩
 ·refine goC 400 ?_
  simp only [go_sem,hA,zdI]
  refine gL [901,903,904,905] [] (zDr ty pre e he.1 _ (by first | exact hb | (simp only [List.length_append] at hb ⊢;omega))) (fun pv h=>(zf h).elim) (fun res L' h=>?_) (by simp only [go_sem,zaq])
  cases h
  simp only [go_sem,hA]
  exact⟨by unfold za;omega,6,by omega,1,1,_,_,_,_,.inr (.inl ⟨rfl,rfl,rfl,rfl,rfl,rfl⟩),rfl,rfl⟩
 ·refine goC 400 ?_
  simp only [go_sem,hA,zdI]
  refine gL [901,903,904,905] [] (zDp ty pre e he.2.1 _ (by first | exact hb | (simp only [List.length_append] at hb ⊢;omega))) (fun pv h=>(zf h).elim) (fun res L' h=>?_) (by simp only [go_sem,zaq])
  cases h
  simp only [go_sem,hA]
  exact⟨by unfold za;omega,5,by omega,2,2,_,_,_,_,.inr (.inr (.inl ⟨rfl,rfl,rfl,rfl,rfl,rfl⟩)),rfl,rfl⟩
 ·refine goC 400 ?_
  simp only [go_sem,hA,zdI]
  refine gL [901,903,904,905] [] (zDn ty pre e he.2.2.1 _ (by first | exact hb | (simp only [List.length_append] at hb ⊢;omega))) (fun pv h=>(zf h).elim) (fun res L' h=>?_) (by simp only [go_sem,zaq])
  cases h
  simp only [go_sem,hA]
  exact⟨by unfold za;omega,4,by omega,3,3,_,_,_,_,.inr (.inr (.inr (.inl ⟨rfl,rfl,rfl,rfl,rfl,rfl⟩))),rfl,rfl⟩
 ·refine goC 400 ?_
  simp only [go_sem,hA,zdI]
  refine zae [901,904,908] [] 400 (zEv _ _ (by first | exact hb | (simp only [List.length_append] at hb ⊢;omega))) rfl rfl rfl rfl (by simp only [go_sem]) (by simp only [go_sem,hA]) (fun res L' h=>?_) (fun pv h=>(zf h).elim)
  cases h
  simp only [go_sem,hA]
  exact⟨by unfold za;omega,3,by omega,4,4,_,_,_,_,.inr (.inr (.inr (.inr (.inl ⟨rfl,rfl,rfl,rfl,rfl,rfl⟩)))),rfl,rfl⟩
 ·refine goC 400 ?_
  simp only [go_sem,hA,zdI]
  refine gL [901,904,907] [] (zEu _ he.2.2.2.1 _ (by first | exact hb | (simp only [List.length_append] at hb ⊢;omega))) (fun pv h=>(zf h).elim) (fun res L' h=>?_) (by simp only [go_sem])
  cases h
  simp only [go_sem,hA]
  exact⟨by unfold za;omega,2,by omega,5,5,_,_,_,_,.inr (.inr (.inr (.inr (.inr (.inl ⟨rfl,rfl,rfl,rfl,rfl,rfl⟩))))),rfl,rfl⟩
 ·refine goC 400 ?_
  simp only [go_sem,hA,zdI]
  refine gL [901,903,904,905] [] (zDl ty pre e he.2.2.2.2.1 _ (by first | exact hb | (simp only [List.length_append] at hb ⊢;omega))) (fun pv h=>(zf h).elim) (fun res L' h=>?_) (by simp only [go_sem,zaq])
  cases h
  simp only [go_sem,hA]
  exact⟨by unfold za;omega,1,by omega,6,6,_,_,_,_,.inr (.inr (.inr (.inr (.inr (.inr (.inl ⟨rfl,rfl,rfl,rfl,rfl,rfl⟩)))))),rfl,rfl⟩
 ·refine goC 400 ?_
  simp only [go_sem,hA,zdI]
  refine gL [901,903,904,905,906] [] (zDj k (by omega) ih ty pre hp e he.2.2.2.2.2.1 he.2.2.2.2.2.2 _ (by first | exact hb | (simp only [List.length_append] at hb ⊢;omega))) (fun pv h=>(zf h).elim) (fun res L' h=>?_) (by simp only [go_sem,zaq])
  cases h
  simp only [go_sem,hA]
  exact⟨by unfold za;omega,0,by omega,7,7,_,_,_,_,.inr (.inr (.inr (.inr (.inr (.inr (.inr (⟨rfl,rfl,rfl,rfl,rfl,rfl⟩))))))),rfl,rfl⟩
 ·refine goC 400 ?_
  by_cases hi:e.int<0
  ·have h1:-(e.int.natAbs:Int)=e.int:=by omega
   have h2:decide (e.int<0)=true:=decide_eq_true hi
   simp only [go_sem,hA,zdI,h2,zqT,zlL,zaq,h1,Tryz.results286]
   exact⟨by have:=he.2.2.2.1;unfold za;omega,_,rfl,rfl,rfl⟩
  ·have h1:(e.int.natAbs:Int)=e.int:=by omega
   have h2:decide (e.int<0)=false:=decide_eq_false hi
   simp only [go_sem,hA,zdI,h2,zqT,zlL,zaq,h1,Tryz.results286]
   exact⟨_,rfl,rfl,rfl⟩
theorem zFc (k:Nat) (hk:k<=1048576):zgS k:=by
 induction k with
 | zero=>exact fun e he=>he.elim
 | succ k ih=>
  intro e he r hr ty pre hp t hb
  rcases hr with rfl | rfl
  ·exact zAJ k (by omega) (ih (by omega)) e he ty pre hp t hb
  ·exact zAI k (by omega) (ih (by omega)) e he ty pre hp t hb
theorem zAf (m:Mg) (hm:m.Fit) (t:List UInt8) (hb:(mgP m++t).length<=1048576):zI Tryz.prog 111 [.box 901 0,.box 909 0] (crL (mgP m++t) [(909,some (.cell 26 [.d (zM),.d (zM),.d (zM)]))]) (zG t [(909,some (.cell 26 [.d (.sl (zbS m.ms)),.d (.sl (zap m.fs)),.d (.sl (zbc m.ts))]))]):=by
 unfold mgP at hb ⊢
 have e:(zb m.ms.length++(m.ms.flatMap moP++(zb m.fs.length++(m.fs.flatMap flP++(zb m.ts.length++m.ts.flatMap tcP)))))++t=(zb m.ms.length++m.ms.flatMap moP)++((zb m.fs.length++m.fs.flatMap flP)++((zb m.ts.length++m.ts.flatMap tcP)++t)):=by simp only [List.append_assoc]
 rw [e] at hb ⊢
 refine kL [901,909] [] Tryz.func111 Tryz.ntmps111 fun A hA hXA=>?_
 refine goC 400 ?_
 simp only [go_sem,hA]
 refine gL [901,909] [] (zGb m.ms zM zM hm.ml (fun x hx t h=>zAc (zFc 40 (by decide)) x (hm.ms x hx) t h) _ hb) (fun pv h=>(zf h).elim) fun res L' h=>?_
 cases h
 simp only [go_sem,hA]
 refine gL [901,909] [] (zGd m.fs _ zM hm.fl (fun x hx t h=>zFa x (hm.fs x hx) t h) _ (by simp only [List.length_append] at hb ⊢;omega)) (fun pv h=>(zf h).elim) fun res L' h=>?_
 cases h
 simp only [go_sem,hA]
 refine zae [901,909] [] 400 (zGh m.ts _ _ hm.tl (fun x hx t h=>zvB x (hm.ts x hx) t h) t (by simp only [List.length_append] at hb ⊢;omega)) rfl rfl rfl rfl rfl (by simp only [go_sem,hA]) (fun res L' h=>?_) (fun pv h=>(zf h).elim)
 cases h
 simp only [go_sem,Tryz.results111]
 exact⟨_,rfl,rfl,rfl⟩
theorem zBa (m:Mg) (hm:m.Fit) (hb:(mgP m).length<=1048576):Con Tryz.prog 57 [.d (.raw (.string ⟨(mgP m).toArray⟩))] (.tup [avG m,.d (.raw (.bool true))]):=by
 have hb':(mgP m++[]).length<=1048576:=by rw [List.append_nil];exact hb
 have hr:=zAf m hm [] hb'
 rw [List.append_nil] at hr
 refine kY Tryz.func57 Tryz.ntmps57 fun A hA hY=>?_
 refine goC 400 ?_
 simp only [go_sem,hA]
 refine zaA 1002 901 rfl (hY.1 _) rfl rfl _ (by simp only [go_sem];rfl) ?_
 refine zaA 2000 909 rfl (hY.1 _) rfl rfl _ (by simp only [go_sem];rfl) ?_
 refine gL [901,909] [] (hr) (fun pv h=>(zf h).elim) fun res L' h=>?_
 cases h
 simp only [go_sem,hA,mixed,Tryz.results57]
 exact⟨by show chk _ _ _=true;kernel_rfl,rfl⟩
end
section
open Go Go.RowKit Go.Shelf
theorem zvW (p:List It) (m:Mg) (hp:p.length<=1000000) (hg:zfw m=false):Con Tryz.prog 18 [.d (.sl (zaR p)),avG m] (.tup [.d (.sl (zaR (zaz p m).1)),zew (zaz p m).2.1,.d (.raw (.int .i64 (zaz p m).2.2))]):=by
 refine kO Tryz.func18 Tryz.ntmps18 fun A hA=>?_
 refine goC 400 ?_
 simp only [go_sem,hA,avG]
 refine gC (zha m (zeW hg).fine) ?_ rfl (by simp only [go_sem,avG])
 by_cases h0:zcE m=0
 ·have k0:(decide ¬ zcE m=0)=false:=by simp [h0]
  obtain⟨hf,hl⟩:=zwC h0 hg
  have hr:zaz p m=ziz p m:=if_neg (by simp [h0])
  simp only [go_sem,hA,k0]
  refine gC (ztm zmt m hf (by omega)) ?_ rfl (by simp only [go_sem,avG])
  simp only [go_sem,hA]
  refine gC (zEL p m hp) ?_ rfl (by simp only [go_sem,mgO];first | done | rfl)
  simp only [go_sem,hA,hr,Tryz.results18]
 ·have k0:(decide ¬ zcE m=0)=true:=decide_eq_true h0
  have hr:zaz p m=([],(0,0),zcE m):=if_pos h0
  simp only [go_sem,hA,k0,hr,Tryz.results18]
  rfl
theorem zAk (q:List It) (m:Mg) (hq:q.length<=1048576) (hk:PoolOk q) (hx:mgI m ∈ q) (h0:zcE m=0) (hbig:¬ 65536<(obL (mgO m)).length) (hg:zfw m=false):Con Tryz.prog 20 [.d (.sl (zaR q)),zew (mgI m).dg] (.tup [avG m,.d (.raw (.int .i64 0))]):=by
 refine kO Tryz.func20 Tryz.ntmps20 fun A hA=>?_
 obtain⟨e1,e2,e3⟩:=zni hk.asc hx
 obtain⟨hf,hl⟩:=zwC h0 hg
 have hG:=zEO q hq (mgI m).dg (mgO m) e3 (by rw [e2];rfl) (zsI hbig) (zws m)
 have z0:(decide ¬ (0:Int)=0)=false:=by decide
 have z4:(decide ¬ (4:Int)=4)=false:=by decide
 have ze:(decide ¬ (⟨(mgP m).toArray⟩:ByteArray)=⟨(mgP m).toArray⟩)=false:=by simp
 have hS:=zha m (zeW hg).fine
 rw [h0] at hS
 refine goC 400 ?_
 simp only [go_sem,hA]
 refine gC hG ?_
 simp only [go_sem,hA,mgO]
 refine gC (zBa m hf (by omega)) ?_
 simp only [go_sem,hA,avG,mixed]
 refine gD hS ?_ rfl (by simp only [go_sem,avG])
 simp only [go_sem,hA]
 refine gD (ztm zmt m hf (by omega)) ?_ rfl (by simp only [go_sem,avG])
 simp only [go_sem,hA]
 refine⟨by show chk _ _ _=true;kernel_rfl,?_⟩
 simp only [go_sem,Tryz.results20]
end
end Go.Proofs.YtpnjjmcimjlfkaaGreatDoor
