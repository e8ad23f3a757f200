/- Texts of this proof, part 14: what the proof uses of them. -/
import Derived.Test.YtpnjjmcimjlfkaaGreatDoorDam
import Derived.Lib.LastIndexByte
import Derived.Test.YtpnjjmcimjlfkaaGreatDoorDal
import Derived.Test.YtpnjjmcimjlfkaaGreatDoorDak
set_option maxRecDepth 100000
set_option maxHeartbeats 64000000
namespace Go.Proofs.YtpnjjmcimjlfkaaGreatDoor
section
open Go Go.RowKit
theorem zsa {P:Program} {f:FuncId} {vs:List Value} {y:AV} {r:Value} (he:zdm P f) (hc:y.closed=true) (hy:∀ w F,zcw w F y r) (h:∀ (w:World),Calls P f vs.toArray w fun e w'=>e = .returned r∧Below w.heap.size w w'):Con P f (vs.map fun v=>.d (.raw v)) y:=by
 refine⟨he,hc,fun F w us hF _ hl hv=>?_⟩
 obtain rfl:us=vs:=by
  refine List.ext_getElem (by simpa using hl.symm) fun i h1 h2=>?_
  have h0:=hv i (by simpa using h2) h1
  rw [List.getElem_map] at h0
  exact h0.raw_eq
 exact(h w).mono fun e w' h'=>⟨r,h'.1,hy _ _,h'.2⟩
theorem zgl (n:ByteArray):zB (.mk 3 n ⟨#[]⟩ 0 0 [])=0 ↔ zI n=true:=by
 have hs:zaU 3=some (1,0,0):=rfl
 have ha:zaJ 1 0 0 n ⟨#[]⟩ 0 0 0=true:=rfl
 rw [zhx (by simp [nodesE,nodesL]) (by simp [depthE,depthL]),zaj]
 show(if zaW 3 n ⟨#[]⟩ 0 0 0=0 then zad [] else zaW 3 n ⟨#[]⟩ 0 0 0)=0 ↔ _
 cases h:zI n with
 | true=>
  have hn:zi 3 n ⟨#[]⟩ (decide (1≤1)) (decide (2≤1))=0:=by simp [zi,zag,zas,h]
  rw [zgD hs ha hn]
  exact⟨fun _=>rfl,fun _=>rfl⟩
 | false=>
  have hn:zi 3 n ⟨#[]⟩ (decide (1≤1)) (decide (2≤1))=6:=by simp [zi,zag,zas,h]
  rw [zgE hs ha (by rw [hn];decide),hn]
  exact⟨fun h=>absurd h (by decide),fun h=>(by cases h)⟩
theorem zye (s:ByteArray):Con Tryz.prog 135 [.d (.raw (.string s))] (.d (.raw (.bool (zI s)))):=by
 refine zh Tryz.func135 rfl (by decide +kernel) rfl rfl (by simp [Tryz.ntmps135]) fun A hA=>?_
 rw [Tryz.ntmps135] at hA
 have hx:decide (zB (.mk 3 s ⟨#[]⟩ 0 0 [])=0)=zI s:=by
  cases h:zI s with
  | true=>exact decide_eq_true ((zgl s).2 h)
  | false=>exact decide_eq_false fun h'=>by rw [(zgl s).1 h'] at h;cases h
 refine goC 400 ?_
 simp only [go_sem,hA]
 refine zb 400 (zcr (.mk 3 s ⟨#[]⟩ 0 0 []) (by simp [nodesE,nodesL])) rfl (by simp only [go_sem,zl,Ex.kind,Ex.name,Ex.more,Ex.int,Ex.den,Ex.sub,zaz]) (by simp only [go_sem,hA]) ?_
 simp only [go_sem,hA,hx,Tryz.results135]
theorem zwp (s:ByteArray) (hs:s.size<4611686018427387904):Con Tryz.prog 144 [.d (.raw (.string s)),.d (.raw (.int .u8 47))] (.d (.raw (.int .i64 (Lib.lastIndexByte s 47)))):=
 zsa (vs:=[.string s,.int .u8 47]) ⟨_,Tryz.func144,by decide +kernel,rfl⟩ rfl (fun _ _=>.d (.raw _)) fun w=>(Tryz.strings_LastIndexByte s 47 hs w).mono fun e w' h=>⟨h.1,h.2 ▸ Below.refl _ _⟩
def zZ (s:ByteArray):ByteArray:=if zX s.data.toList then s.extract (Lib.lastIndexByte s 47+1).toNat s.size else ⟨#[]⟩
theorem zjB (s:ByteArray):-1≤Lib.lastIndexByte s 47∧Lib.lastIndexByte s 47<(s.size:Int):=by
 unfold Lib.lastIndexByte
 rcases Lib.lastIdx_spec s 47 s.size with⟨h,_⟩ | ⟨i,h1,h2,_⟩
 ·rw [h];omega
 ·rw [h2];omega
theorem zsn (s:ByteArray):Con Tryz.prog 76 [.d (.raw (.string s))] (.d (.raw (.string (zZ s)))):=by
 refine zh Tryz.func76 rfl (by decide +kernel) rfl rfl (by simp [Tryz.ntmps76]) fun A hA=>?_
 rw [Tryz.ntmps76] at hA
 refine goC 400 ?_
 simp only [go_sem,hA]
 refine zb 400 (zmV s) rfl (by simp only [go_sem]) (by simp only [go_sem,hA]) ?_
 cases hl:zX s.data.toList with
 | false=>
  have hr:zZ s=⟨#[]⟩:=by unfold zZ;rw [hl];rfl
  simp only [go_sem,hA,hr,Tryz.results76]
 | true=>
  have hr:zZ s=s.extract (Lib.lastIndexByte s 47+1).toNat s.size:=by unfold zZ;rw [hl];rfl
  have hsz:s.size≤90:=by
   unfold zX at hl
   simp only [Bool.and_eq_true,decide_eq_true_eq] at hl
   exact hl.1
  obtain⟨h1,h2⟩:=zjB s
  simp only [go_sem,hA]
  refine zb 400 (zwp s (by omega)) rfl (by simp only [go_sem]) (by simp only [go_sem,hA]) ?_
  simp only [go_sem,hA,hr,Tryz.results76]
  exact⟨by unfold zc;omega,⟨by omega,by omega⟩,by rw [Int.toNat_natCast]⟩
def zcM (label:ByteArray) (l:List ByteArray) (q:Nat):Int:=
 if zI (zZ (atB l q)) then (if (l.take q).any (fun u=>decide (zZ u=zZ (atB l q))) then 7 else if atB l q=label then 23 else 0) else 6
abbrev zEr (label:ByteArray) (l:List ByteArray) (q k:Nat):St:=⟨[(0,.d (.raw (.string label))),(1,.d (.sl (zv l))),(2,.d (.raw (.int .i64 q))),(7,.d (.raw (.string (zZ (atB l q))))),(20,.d (.sl (zv (l.take q)))),(21,.d (.raw (.int .i64 q))),(22,.d (.raw (.int .i64 k)))],[],[]⟩
theorem zwJ (label:ByteArray) (l:List ByteArray) (q:Nat) (hq:q<l.length) (hl:l.length≤1048576):Con Tryz.prog 69 [.d (.raw (.string label)),.d (.sl (zv l)),.d (.raw (.int .i64 q))] (.d (.raw (.int .i64 (zcM label l q)))):=by
 refine zh Tryz.func69 rfl (by decide +kernel) rfl rfl (by simp [Tryz.ntmps69]) fun A hA=>?_
 rw [Tryz.ntmps69] at hA
 have hat:=zhX l q hq
 refine goC 400 ?_
 simp only [go_sem,hA,Int.toNat_natCast,za,zF l q hq]
 refine⟨⟨by omega,by omega⟩,?_⟩
 refine zb 400 (zsn l[q]) rfl (by simp only [go_sem]) (by simp only [go_sem,hA]) ?_
 simp only [go_sem,hA]
 refine zb 400 (zye (zZ l[q])) rfl (by simp only [go_sem]) (by simp only [go_sem,hA]) ?_
 cases hn:zI (zZ l[q]) with
 | false=>
  have hr:zcM label l q=6:=by unfold zcM;rw [hat,hn];rfl
  simp only [go_sem,hA,hr,Tryz.results69]
 | true=>
 have hu:zcM label l q=if (l.take q).any (fun u=>decide (zZ u=zZ l[q])) then 7 else if l[q]=label then 23 else 0:=by unfold zcM;rw [hat,hn];rfl
 have htl:(l.take q).length=q:=by rw [List.length_take];omega
 simp only [go_sem,hA,Int.toNat_natCast,za,zkO,htl]
 refine⟨⟨fun r hr=>?_,by omega,by omega⟩,?_⟩
 ·exact zaG l r hr
 refine zd [0,1,2,7,20,21,22] [] [] (fun y σ=>∃ k:Nat,k≤q∧y=q - k∧(l.take k).any (fun u=>decide (zZ u=zZ l[q]))=false∧σ=zEr label l q k) q ⟨0,by omega,by omega,rfl,by simp only [go_sem,zEr,hat]⟩ ?_
 rintro y σ ⟨k,hk,rfl,hf,rfl⟩
 refine goC 400 ?_
 by_cases hlt:k<q
 ·have k1:decide ((k:Int)<(q:Int))=true:=decide_eq_true (by omega)
  have hkl:k<(l.take q).length:=by omega
  have hk2:(l.take q)[k]=l[k]:=List.getElem_take
  simp only [go_sem,hA,zEr,za,htl,k1,Int.toNat_natCast,zF (l.take q) k hkl,hk2]
  refine⟨⟨by omega,by omega⟩,?_⟩
  refine zb 400 (zsn l[k]) rfl (by simp only [go_sem]) (by simp only [go_sem,hA]) ?_
  cases he:decide (zZ l[k]=zZ l[q]) with
  | true=>
   have hr:zcM label l q=7:=by
    rw [hu,if_pos]
    exact List.any_eq_true.2 ⟨l[k],List.mem_take_iff_getElem.2 ⟨k,by omega,rfl⟩,he⟩
   simp only [go_sem,hA,hat,he,hr,Tryz.results69]
  | false=>
   simp only [go_sem,hA,hat,he]
   refine⟨by unfold zc;omega,q - (k+1),by omega,k+1,by omega,rfl,?_,rfl⟩
   rw [List.take_succ_eq_append_getElem (by omega),List.any_append,hf]
   simp [he]
 ·obtain rfl:k=q:=by omega
  have k1:decide ((k:Int)<(k:Int))=false:=decide_eq_false (by omega)
  simp only [go_sem,hA,zEr,k1,Int.toNat_natCast,za,zF l k hq]
  refine⟨⟨by omega,by omega⟩,?_⟩
  rw [hf] at hu
  by_cases h2:l[k]=label
  ·have g2:decide (l[k]=label)=true:=decide_eq_true h2
   have hr:zcM label l k=23:=by rw [hu];exact if_pos h2
   simp only [go_sem,hA,g2,hr,Tryz.results69]
  ·have g2:decide (l[k]=label)=false:=decide_eq_false h2
   have hr:zcM label l k=0:=by rw [hu];exact if_neg h2
   simp only [go_sem,hA,g2,hr,Tryz.results69]
end
section
open Go Go.RowKit
mutual
def zcZ (p:Ex→Bool):Ex→Bool
 | .mk k n m i d s=>p (.mk k n m i d s) || zdJ p s
def zdJ (p:Ex→Bool):List Ex→Bool
 | []=>false
 | e :: es=>zcZ p e || zdJ p es
end
theorem zEK (p:Ex→Bool) (t:Ex):zcZ p t=(p t || zdJ p t.sub):=by cases t;rw [zcZ];rfl
theorem zfa (p:Ex→Bool):∀ a b:List Ex,zdJ p (a++b)=(zdJ p a || zdJ p b)
 | [],b=>by rw [zdJ];rfl
 | e :: a,b=>by rw [List.cons_append,zdJ,zdJ,zfa p a b,Bool.or_assoc]
mutual
theorem zuv (r:Nat):∀ x:AV,x.closed=true→x.ment r=false
 | .d _,_=>rfl
 | .at_ _,_=>rfl
 | .agg cs,h=>by rw [AV.ment];exact zcv r cs h
 | .tup cs,h=>by rw [AV.ment];exact zcv r cs h
 | .fn _ cs,h=>by rw [AV.ment];exact zcv r cs h
 | .mapd _ cs,h=>by rw [AV.ment];exact zcv r cs h
theorem zcv (r:Nat):∀ cs:List AV,zt cs=true→zcm r cs=false
 | [],_=>rfl
 | x :: cs,h=>by
  rw [zt,Bool.and_eq_true] at h
  rw [zcm,zuv r x h.1,zcv r cs h.2];rfl
end
abbrev zDo (f:FuncId) (cs:List AV) (ver n:Nat) (rows:List (List D)):St:=⟨[(1,.fn 218 [.box 1 0,.box 1000 0]),(4,.stk 99 6 ver 0 n),(1000005,.box 1000 0)],[(1,some (.cell 171 [.fn f cs])),(1000,some (.cell 4 [.d (.raw (.bool false))]))],[(99,some ⟨6,105,ver,some rows⟩)]⟩
theorem zlK (e:Ex) (f:FuncId) (cs:List AV) (p:Ex→Bool) (hcs:zt cs=true) (hcl:zY cs=some cs) (hsz:nodesE e≤1048576) (hp:∀ x,nodesE x≤nodesE e→Con Tryz.prog f (avE x :: cs) (.d (.raw (.bool (p x))))):Con Tryz.prog 138 [avE e,.fn f cs] (.d (.raw (.bool (zcZ p e)))):=by
 refine zh Tryz.func138 rfl (by decide +kernel) rfl (by simp only [go_sem,zl,hcs]) (by simp [Tryz.ntmps138]) fun A hA=>?_
 rw [Tryz.ntmps138] at hA
 refine goC 400 ?_
 have hm:=fun r=>zcv r cs hcs
 simp only [go_sem,hA,zl,hm]
 refine zjI 100000 400 rfl rfl rfl Tryz.func217 rfl (by decide +kernel) (by simp [Tryz.ntmps217]) (by simp [Tryz.ntmps217]) (by simp only [go_sem,hA]) fun B hB hBf=>?_
 rw [Tryz.ntmps217] at hB
 refine goC 14 ?_
 simp only [go_sem,hB,hm]
 refine zBL 99 400 (by simp only [go_sem]) rfl (by simp only [go_sem];rfl) (by simp only [go_sem,hm]) (by simp only [go_sem,hB]) ?_
 simp only [go_sem,hB,hm]
 refine zd [1,4,1000005] [1,1000] [99] (fun y σ=>∃ (l:List Ex) (ver:Nat) (rows:List (List D)),rows.take l.length=zaz l∧y=nodesL l∧nodesL l≤nodesE e∧zcZ p e=zdJ p l∧σ=zDo f cs ver l.length rows) (nodesE e) ⟨[e],0,[zaZ e],rfl,by simp [nodesL],by simp [nodesL],by simp [zdJ],by simp only [go_sem,zbP,zDo]⟩ ?_
 rintro y σ ⟨l,ver,rows,hrows,rfl,hn,hany,rfl⟩
 refine goC 400 ?_
 rcases List.eq_nil_or_concat l with rfl | ⟨l',x,rfl⟩
 ·have hr:zcZ p e=false:=hany
  simp only [go_sem,hA,hB,zDo,hr,Tryz.results217,Tryz.results138]
 ·rw [List.concat_eq_append] at *
  have hl:(l'++[x]).length=l'.length+1:=by simp
  rw [hl] at hrows ⊢
  have hrl:l'.length<rows.length:=by
   have:=congrArg List.length hrows
   rw [zg,hl,List.length_take] at this
   omega
  have hrow:rows.getD l'.length []=[.raw (.int .i64 x.kind),.raw (.string x.name),.raw (.string x.more),.raw (.int .i64 x.int),.raw (.int .i64 x.den),.sl (zaz x.sub)]:=by
   have h1:(rows.take (l'.length+1)).getD l'.length []=rows.getD l'.length []:=by simp [List.getD_eq_getElem?_getD]
   rw [← h1,hrows,zap _ _ (by simp)]
   simp
  have k1:decide ((0:Int)<((l'.length+1:Nat):Int))=true:=decide_eq_true (by omega)
  have k2:(((l'.length+1:Nat):Int) - 1).toNat=l'.length:=by omega
  have hll:l'.length+1≤1048576:=by have:=zC (l'++[x]);omega
  have hx:nodesE x≤nodesE e:=by rw [zaK,nodesL] at hn;omega
  simp only [go_sem,hB,zDo,k1,k2,Nat.zero_add,hrow,hm]
  refine⟨by unfold zc;omega,⟨by omega,by omega⟩,by omega,by unfold zc;omega,⟨by omega,by omega⟩,?_⟩
  refine zjI 200000 400 (cs:=[.box 1 0,.box 1000 0]) rfl rfl (by simp only [go_sem]) Tryz.func218 rfl (by decide +kernel) (by simp [Tryz.ntmps218]) (by simp [Tryz.ntmps218]) (by simp only [go_sem,hB]) fun C hC hCf=>?_
  rw [Tryz.ntmps218] at hC
  refine goC 400 ?_
  simp only [go_sem,hC,hm]
  refine zgv 400 (cs:=cs) (hp x hx) rfl rfl (by simp only [go_sem]) (by simp only [go_sem,hcl,zl]) (by simp only [go_sem,hC]) ?_
  have hex:zcZ p e=(p x || (zdJ p l' || zdJ p x.sub)):=by
   rw [hany,zfa,zdJ,zEK,zdJ,Bool.or_false]
   cases zdJ p l' <;> cases p x <;> rfl
  cases hpx:p x with
  | true=>
   have hr:zcZ p e=true:=by rw [hex,hpx];rfl
   simp only [go_sem,hA,hB,hC,hm,hr,Tryz.results217,Tryz.results138,Tryz.results218]
  | false=>
   have h0:rows.take l'.length=zaz l':=by
    have:=congrArg (List.take l'.length) hrows
    rwa [List.take_take,Nat.min_eq_left (by omega),← zhu,List.take_append_of_le_length (by rw [zg];omega),List.take_of_length_le (l:=zaz l') (by rw [zg];omega)] at this
   have h1:=zC x.sub
   have h2:nodesE x=1+nodesL x.sub:=by cases x;rw [nodesE];simp only [Ex.sub];omega
   have h3:nodesL (l'++[x])=nodesL l'+nodesE x:=by rw [zaK,nodesL,nodesL];omega
   simp only [go_sem,hB,hC,hm,Nat.sub_zero,zg,Tryz.results217,Tryz.results138,Tryz.results218]
   refine⟨⟨zht x.sub,by omega,by omega⟩,nodesL (l'++x.sub),by rw [h3,zaK];omega,l'++x.sub,ver+1,rows.take l'.length++zaz x.sub,?_,rfl,by rw [h3] at hn;rw [zaK];omega,?_,by rw [List.length_append]⟩
   ·rw [h0,zhu];exact List.take_of_length_le (by rw [zg];exact Nat.le_refl _)
   ·rw [hex,hpx,zfa];rfl
end
section
open Go Go.RowKit
end
section
open Go Go.RowKit
end
section
open Go Go.RowKit Go.MapKept
def zcz (l:List ByteArray):List ByteArray:=((l.map fun s=>s.data.toList).mergeSort fun x y=>decide (x≤y)).map fun x=>⟨x.toArray⟩
theorem zjh (l:List ByteArray):(zcz l).length=l.length:=by simp [zcz]
variable {A:Base Tryz.prog} {σ:St} {g:Gh} {a:Act} {w:World}
theorem zFx (t:Nat) (l:List ByteArray) {q:Nat} (n:Nat) {all:List Oper} {f:FuncId} {o:Oper} {rest:List Oper} {i base:Nat} {st:List Itm} {Q:Exit→St→Prop} {c:Call} {p m:Operand} (ho:o.op = .call c) (hp:c.callee = .value p) (hf:σ.eval p = .fn 220 []) (hargs:c.args.toList=[m]) (hm:σ.eval m = .grow q (zv l)) (hv:σ.get t = .grow q (zv l))
  (ht:σ.tok q=some ⟨1,9,l.length,none⟩) (hlen:l.length<4611686018427387904) (hd:zat A.N o=true) (_hdt:o.dst≠some t)
  (hr:go Tryz.prog A n (.ops all rest (i+1) base) st (St.put ⟨[(t,.d (.sl (zv (zcz l))))],[],[]⟩ o.dst (.tup [])) Q):zcy Tryz.prog A (.exe (some f) all o rest i base) st σ Q:=by
 intro g a w hk
 have hrun:=zpC hk ho hp hf ⟨_,Tryz.func220,by decide +kernel,rfl⟩
 have hme:=hk.eval m
 rw [hm] at hme
 have hte:Has g σ.tk w (σ.get t) (A.val a t):=hk.env t
 rw [hv] at hte
 have htk:σ.tk q=some l.length:=by simp [St.tk,ht]
 obtain⟨hrd,hv1⟩:=hme.grow_eq
 obtain⟨_,hv2⟩:=hte.grow_eq
 have e1:a.eval m=g.tv q:=(hv1 _ htk).2 (za l)
 have e2:A.val a t=g.tv q:=(hv2 _ htk).2 (za l)
 obtain⟨xs,hown⟩:=(hk.tok q _ ht).own rfl
 refine zcN hrun ?_
 rw [hargs]
 simp only [List.map_cons,List.map_nil,e1]
 rw [e1] at hrd
 have fin:∀ (F':Nat→Nat→Prop) (w':World),Below A.B w w'→(∀ b o,A.F0 b o→F' b o)→(∀ b o,F' b o→A.F0 b o∨(A.B≤b∧b<w'.heap.size))→Reads w' F' (.sl (zv (zcz l))) (g.tv q)→wpListIn A.fe 0 Tryz.prog all.toArray (zgh A (stk Tryz.prog A st Q)) rest (a.put o.dst (.tuple #[])) w':=fun F' w' hbel hF0 hFn hR=>by
  have hs:=hbel.size
  have hB:=hk.hB
  have hk2:Ok A ⟨[(t,.d (.sl (zv (zcz l))))],[],[]⟩ ⟨g.m,g.tv,F'⟩ a w':=by
   refine⟨hk.below.trans (.of hbel),by omega,hF0,fun b o hf=>(hFn b o hf).imp id And.left,fun b o hf=>?_,hk.defers,hk.size,fun t'=>?_,fun r b h=>by simp [St.blk,zQ] at h,fun r b h=>by simp [St.blk,zQ] at h,fun r b r' b' h=>by simp [St.blk,zQ] at h,fun r k h=>by simp [St.tok,zQ] at h,fun r k x h=>by simp [St.tok,zQ] at h,fun r k r' b x h=>by simp [St.tok,zQ] at h,fun r k r' k' x h=>by simp [St.tok,zQ] at h,hk.fix,fun r n0 _ n hn=>by simp [St.tk,St.tok,zQ] at hn⟩
   ·rcases hFn b o hf with h | h
    ·have:=hk.Fb b o (hk.F0 b o h);omega
    ·exact h.2
   ·unfold St.get
    simp only [zQ]
    by_cases e:t=t'
    ·subst e
     rw [if_pos rfl,e2]
     exact .d hR
    ·rw [if_neg e];exact .dead _
  exact zR n _ _ _ _ hr _ _ _ (hk2.put o.dst (zcn hd) (.tup [] [] rfl fun i hi=>by simp at hi))
 rcases hown.2 with⟨h1,h0⟩ | ⟨gb,cap,cur,h1,hgB,hgh,hcap,_⟩
 ·have hl0:l=[]:=List.eq_nil_of_length_eq_zero h0
  subst hl0
  rw [h1]
  refine(Tryz.slices_Sort_string_none none 0 w).mono ?_
  rintro e w' ⟨rfl,rfl⟩
  exact fin A.F0 _ (Below.refl _ _) (fun _ _ h=>h) (fun _ _ h=>.inl h) (by rw [h1,show zcz []=[] by simp [zcz]];exact .nil _ _)
 ·rw [h1] at hrd ⊢
  have hstr:∀ j (hj:j<l.length),w.cell? ⟨gb,0+j,none⟩=some (.string l[j]):=fun j hj=>by
   rcases ziI hrd with⟨rfl,_⟩ | ⟨_,b,off,cap',hb,_,_,hc⟩
   ·simp at hj
   ·injection hb with hb _ _
    injection hb with hb
    have e3:gb=b:=congrArg Addr.block hb
    have e4:0=off:=congrArg Addr.off hb
    subst e3 e4
    rw [hc j hj]
    simp [List.getD_eq_getElem?_getD,hj]
  have hlt:gb<w.heap.size:=(Array.getElem?_eq_some_iff.1 hgh).1
  have hH:Go.Sort.Holds encStr w gb 0 (l.map fun s=>s.data.toList).toArray:=fun j hj=>by
   have hj':j<l.length:=by simpa using hj
   refine⟨?_,Lib.frozen_of_heap hgh _⟩
   rw [hstr j hj',getElem!_pos _ j hj]
   simp [encStr]
  have hs:=Tryz.slices_Sort_string gb 0 cap (l.map fun s=>s.data.toList) w hH hlt (by simpa using hlen)
  rw [List.length_map] at hs
  refine hs.mono ?_
  rintro e w' ⟨rfl,k,os,rfl⟩
  have hsize:∀ k,(Go.Sort.putRow encStr (Go.Sort.ahead w k) gb 0 ((l.map fun s=>s.data.toList).mergeSort fun x y=>decide (x≤y)).toArray).heap.size=w.heap.size:=fun k=>by simp
  refine fin (fun b o=>A.F0 b o∨(b=gb∧o<l.length)) _ ⟨rfl,rfl,rfl,by simp,fun b hb=>?_⟩ (fun _ _ h=>.inl h) (fun b o h=>h.imp id fun h=>⟨by omega,by rw [h.1];simp;omega⟩) ?_
  ·have hBs:=hk.hB
   rw [Go.Sort.heap_grow_old _ _ (by rw [hsize];omega)]
   simp only [Go.Sort.putRow,Go.Sort.mapBlock,Array.getElem?_modify]
   rw [if_neg (by omega)]
   rfl
  ·rw [h1]
   have hll:(zv (zcz l)).length=l.length:=by rw [za,zjh]
   rw [← hll]
   refine Reads.mk (st:=1) (by rw [hll];exact hcap) (fun i hi=>zaG _ _ (List.getElem_mem hi)) fun i hi j hj=>?_
   have hil:i<(zcz l).length:=by rw [za] at hi;exact hi
   have hrow:(zv (zcz l))[i]=[.raw (.string (zcz l)[i])]:=by simp [zv]
   have hj0:j=0:=by rw [hrow] at hj;simpa using hj
   subst hj0
   rw [zjh] at hil
   have hsi:i<((l.map fun s=>s.data.toList).mergeSort fun x y=>decide (x≤y)).length:=by simpa using hil
   refine⟨.inr ⟨rfl,by omega⟩,.string (zcz l)[i],?_,?_⟩
   ·rw [Go.Sort.cell?_grow _ _ _ (by rw [hsize];exact hlt),show 0+i * 1+0=0+i by omega,Go.Sort.cell?_putRow _ _ gb 0 _ _ (Go.Sort.holds_ahead _ w k gb 0 _ hH) (by simp) i (by simpa using hil),getElem!_pos _ i (by simpa using hsi)]
    simp [zcz,encStr]
   ·simp only [hrow,List.getElem_cons_zero]
    exact .raw _
end
section
open Go Go.RowKit
def zib (l:List ByteArray) (s:ByteArray):Nat:=(l.takeWhile fun x=>ltS x s).length
def zdR (l:List ByteArray) (s:ByteArray):List ByteArray:=if l[zib l s]? = some s then l else l.take (zib l s)++[s]++l.drop (zib l s)
theorem zDV (l:List ByteArray) (s:ByteArray):zib l s≤l.length:=(List.takeWhile_sublist _).length_le
theorem zuj (s:ByteArray):[[D.raw (Value.string s)]]=zv [s]:=rfl
theorem zqI (l:List ByteArray) (s:ByteArray):(zdR l s).length≤l.length+1:=by
 have:=zDV l s
 unfold zdR
 split
 ·omega
 ·simp;omega
theorem zpM {l:List ByteArray} {s:ByteArray} {q:Nat} (hq:q≤l.length) (h:∀ i (hi:i<q),ltS (l[i]'(by omega)) s=true) (hn:q=l.length∨∃ h:q<l.length,ltS l[q] s=false):zib l s=q:=by
 unfold zib
 induction l generalizing q with
 | nil=>simp at hq;simp [hq]
 | cons x xs ih=>
  cases q with
  | zero=>
   rcases hn with hn | ⟨_,hn⟩
   ·simp at hn
   ·simp only [List.getElem_cons_zero] at hn
    rw [List.takeWhile_cons,hn];rfl
  | succ q=>
   have h0:=h 0 (by omega)
   simp only [List.getElem_cons_zero] at h0
   rw [List.takeWhile_cons,h0]
   simp only [if_true,List.length_cons]
   rw [ih (by simpa using hq) (fun i hi=>by have:=h (i+1) (by omega);simpa using this) (by
    rcases hn with hn | ⟨h1,hn⟩
    ·left;simpa using hn
    ·right;exact⟨by simpa using h1,by simpa using hn⟩)]
abbrev zyo (l:List ByteArray) (s:ByteArray) (q:Nat):St:=⟨[(0,.d (.sl (zv l))),(1,.d (.raw (.string s))),(5,.d (.raw (.int .i64 q)))],[],[]⟩
theorem zDK (l:List ByteArray) (s:ByteArray) (hl:l.length≤1048576):Con Tryz.prog 268 [.d (.sl (zv l)),.d (.raw (.string s))] (.d (.sl (zv (zdR l s)))):=by
 refine zh Tryz.func268 rfl (by decide +kernel) rfl rfl (by simp [Tryz.ntmps268]) fun A hA=>?_
 rw [Tryz.ntmps268] at hA
 refine goC 300 ?_
 simp only [go_sem,hA]
 refine zd [0,1,5] [] [] (fun x σ=>∃ q:Nat,q≤l.length∧x=l.length - q∧(∀ i (hi:i<q) (hi':i<l.length),ltS l[i] s=true)∧σ=zyo l s q) l.length ⟨0,by omega,by omega,by omega,by simp only [go_sem,zyo]⟩ ?_
 rintro x σ ⟨q,hq,rfl,hf,rfl⟩
 refine goC 300 ?_
 by_cases hlt:q<l.length
 ·have g1:decide ((q:Int)<(l.length:Int))=true:=decide_eq_true (by omega)
  cases he:ltS l[q] s with
  | true=>
   have g2:Op.bytesLess l[q].data.toList s.data.toList=true:=he
   simp only [go_sem,hA,zyo,za,g1,Int.toNat_natCast,zF l q hlt,g2]
   refine⟨⟨by omega,by omega⟩,by unfold zc;omega,l.length - (q+1),by omega,q+1,by omega,rfl,fun i hi hi'=>?_,rfl⟩
   by_cases e:i<q
   ·exact hf i e hi'
   ·obtain rfl:i=q:=by omega
    exact he
  | false=>
   have g2:Op.bytesLess l[q].data.toList s.data.toList=false:=he
   have hp:=zpM hq (fun i hi=>hf i hi (by omega)) (.inr ⟨hlt,he⟩)
   by_cases hs:l[q]=s
   ·have g3:decide (l[q]=s)=true:=decide_eq_true hs
    have hw:zdR l s=l:=by unfold zdR;rw [hp,if_pos (by simp [hlt,hs])]
    simp only [go_sem,hA,zyo,za,g1,Int.toNat_natCast,zF l q hlt,g2,g3,hw,Tryz.results268]
    exact⟨⟨by omega,by omega⟩,by omega,by omega⟩
   ·have g3:decide (l[q]=s)=false:=decide_eq_false hs
    have hw:zdR l s=l.take q++[s]++l.drop q:=by unfold zdR;rw [hp,if_neg (by simp [hlt,hs])]
    simp only [go_sem,hA,zyo,za,g1,Int.toNat_natCast,zF l q hlt,g2,g3,hw,Tryz.results268]
    simp only [zuj,zkO,zqr,zhr,za,List.take_length]
    have hql:(l.take q).length=q:=by simp;omega
    exact⟨⟨by omega,by omega⟩,⟨by omega,by omega⟩,⟨zaG _,by omega,by omega⟩,⟨zbn _,(fun r hr=>by cases hr),by omega⟩,⟨by omega,zbn _,zaG _,by omega⟩,⟨zaG _,by omega,by omega,Int.le_refl _⟩,⟨by simp,zbn _,zaG _,by simp;omega⟩,trivial⟩
 ·have g1:decide ((q:Int)<(l.length:Int))=false:=decide_eq_false (by omega)
  obtain rfl:q=l.length:=by omega
  have hp:=zpM (Nat.le_refl _) (fun i hi=>hf i hi hi) (.inl rfl)
  have hw:zdR l s=l.take l.length++[s]++l.drop l.length:=by unfold zdR;rw [hp,if_neg (by simp)]
  simp only [go_sem,hA,zyo,za,g1,hw,Int.toNat_natCast,Tryz.results268]
  simp only [zuj,zkO,zqr,zhr,za,List.take_length]
  exact⟨⟨zaG _,by omega,by omega⟩,⟨zbn _,(fun r hr=>by cases hr),by omega⟩,⟨by omega,zbn _,zaG _,by omega⟩,⟨zaG _,by omega,by omega,Int.le_refl _⟩,⟨by simp,zbn _,zaG _,by simp;omega⟩,trivial⟩
end
section
open Go Go.RowKit
def zah (k:Int) (n m:ByteArray) (i:Nat) (bd:List ByteArray):List ByteArray:=
 if k=6 then bd++[n] else if k=8 then (if i=1 then bd++[n] else bd) else if k=13 then (if i=2 then bd++[n,m] else bd) else bd
theorem zps (k:Int) (n m:ByteArray) (i:Nat) (bd:List ByteArray):(zah k n m i bd).length≤bd.length+2:=by
 unfold zah
 split
 ·simp
 split
 ·split <;> simp
 split
 ·split <;> simp
 ·simp
theorem zjO (n:ByteArray):zD 1 [[D.raw (Value.string n)]]:=zbn [n]
theorem zrV (n m:ByteArray):zD 1 [[D.raw (Value.string n)],[D.raw (Value.string m)]]:=zbn [n,m]
mutual
def zdG:Ex→List ByteArray→List ByteArray→List ByteArray
 | .mk k n m _ _ s,bd,l=>if k=3∧zbT bd n=false then zdR l n else zcB k n m 0 s bd l
def zcB (k:Int) (n m:ByteArray):Nat→List Ex→List ByteArray→List ByteArray→List ByteArray
 | _,[],_,l=>l
 | i,e :: es,bd,l=>zcB k n m (i+1) es bd (zdG e (zah k n m i bd) l)
end
theorem zjL (k:Int) (n m:ByteArray):∀ (i:Nat) (a b:List Ex) (bd l:List ByteArray),zcB k n m i (a++b) bd l=zcB k n m (i+a.length) b bd (zcB k n m i a bd l)
 | i,[],b,bd,l=>by simp [zcB]
 | i,e :: es,b,bd,l=>by
  simp only [List.cons_append,zcB,zjL k n m (i+1) es b,List.length_cons]
  rw [show i+1+es.length=i+(es.length+1) by omega]
theorem zmd (k:Int) (n m:ByteArray) (s:List Ex) (bd l:List ByteArray) (q:Nat) (h:q<s.length):zcB k n m 0 (s.take (q+1)) bd l=zdG s[q] (zah k n m q bd) (zcB k n m 0 (s.take q) bd l):=by
 rw [List.take_succ_eq_append_getElem h,zjL]
 simp only [zcB,List.length_take,Nat.zero_add]
 rw [Nat.min_eq_left (by omega)]
mutual
theorem zrT:∀ (t:Ex) (bd l:List ByteArray),(zdG t bd l).length≤l.length+nodesE t
 | .mk k n m i d s,bd,l=>by
  rw [zdG,nodesE]
  split
  ·have:=zqI l n;omega
  ·have:=zgx k n m 0 s bd l;omega
theorem zgx (k:Int) (n m:ByteArray):∀ (i:Nat) (s:List Ex) (bd l:List ByteArray),(zcB k n m i s bd l).length≤l.length+nodesL s
 | i,[],bd,l=>by rw [zcB,nodesL];omega
 | i,e :: es,bd,l=>by
  rw [zcB,nodesL]
  have h1:=zgx k n m (i+1) es bd (zdG e (zah k n m i bd) l)
  have h2:=zrT e (zah k n m i bd) l
  omega
end
abbrev zzG (k:Int) (n m:ByteArray) (i d:Int) (s:List Ex) (bd l:List ByteArray) (q:Nat):St:=⟨[(1,.d (.sl (zv bd))),(2,.d (.sl (zv (zcB k n m 0 (s.take q) bd l)))),(3,.box 0 0),(7,.d (.raw (.int .i64 q)))],[(0,some (.cell 105 (zcX k n m i d s)))],[]⟩
theorem rfree_step (N:Nat) (ih:∀ (t:Ex) (bd l:List ByteArray),nodesE t<N→2 * nodesE t+bd.length≤1048576→nodesE t+l.length≤1048576→Con Tryz.prog 231 [avE t,.d (.sl (zv bd)),.d (.sl (zv l))] (.d (.sl (zv (zdG t bd l)))))
  (k:Int) (n m:ByteArray) (i d:Int) (s:List Ex) (bd l:List ByteArray) (hN:nodesE (.mk k n m i d s)<N+1) (hb:2 * nodesE (.mk k n m i d s)+bd.length≤1048576) (hl:nodesE (.mk k n m i d s)+l.length≤1048576) :
  Con Tryz.prog 231 [avE (.mk k n m i d s),.d (.sl (zv bd)),.d (.sl (zv l))] (.d (.sl (zv (zdG (.mk k n m i d s) bd l)))):=by
 rw [nodesE] at hN hb hl
 have hlen:=zC s
 have cH:=zAR bd n (by omega)
 have cW:=zDK l n (by omega)
 refine zh Tryz.func231 rfl (by decide +kernel) rfl (by simp only [AV.closed,zt,avE,zU,Bool.and_self]) (by simp [Tryz.ntmps231]) fun A hA=>?_
 rw [Tryz.ntmps231] at hA
 refine goC 300 ?_
 by_cases hv:k=3∧zbT bd n=false
 ·obtain⟨h3,hh⟩:=hv
  have g0:decide (k=3)=true:=decide_eq_true h3
  rw [hh] at cH
  have hf:zdG (.mk k n m i d s) bd l=zdR l n:=by rw [zdG,if_pos ⟨h3,hh⟩]
  simp only [go_sem,hA,avE,zaZ,g0]
  refine zb 300 cH rfl (by simp only [go_sem]) (by simp only [go_sem,hA]) ?_
  simp only [go_sem,hA]
  refine zb 300 cW rfl (by simp only [go_sem]) (by simp only [go_sem,hA]) ?_
  simp only [go_sem,hA,hf,Tryz.results231]
 ·have hf:zdG (.mk k n m i d s) bd l=zcB k n m 0 s bd l:=by rw [zdG,if_neg hv]
  have h2:¬ k=3∨(k=3∧zbT bd n=true):=by
   by_cases h3:k=3
   ·right
    refine⟨h3,?_⟩
    cases hh:zbT bd n
    ·exact absurd ⟨h3,hh⟩ hv
    ·rfl
   ·exact .inl h3
  rcases h2 with h3 | ⟨h3,hh⟩
  case' inr=>
   have g0:decide (k=3)=true:=decide_eq_true h3
   rw [hh] at cH
   simp only [go_sem,hA,avE,zaZ,g0]
   refine zb 300 cH rfl (by simp only [go_sem]) (by simp only [go_sem,hA]) ?_
   simp only [go_sem,hA]
  case' inl=>
   have g0:decide (k=3)=false:=decide_eq_false h3
   simp only [go_sem,hA,avE,zaZ,g0]
  all_goals
   refine zd [1,2,3,7] [0] [] (fun x σ=>∃ q:Nat,q≤s.length∧x=s.length - q∧σ=zzG k n m i d s bd l q) s.length ⟨0,by omega,by omega,by simp only [go_sem,zzG,List.take_zero,zcB]⟩ ?_
   rintro x σ ⟨q,hq,rfl,rfl⟩
   refine goC 300 ?_
   by_cases hlt:q<s.length
   ·have g1:decide ((q:Int)<(s.length:Int))=true:=decide_eq_true (by omega)
    have hn1:=zam s q hlt
    have hil:=zps k n m q bd
    have hac:=zgx k n m 0 (s.take q) bd l
    have hnt:nodesL (s.take q)+nodesE s[q]≤nodesL s:=by
     have h1:=zaK (s.take (q+1)) (s.drop (q+1))
     rw [List.take_append_drop,List.take_succ_eq_append_getElem hlt,zaK] at h1
     simp only [nodesL] at h1
     omega
    have hc:=ih s[q] (zah k n m q bd) (zcB k n m 0 (s.take q) bd l) (by omega) (by omega) (by omega)
    have hts:=zmd k n m s bd l q hlt
    have hfin:zc ((q:Int)+1)∧∃ n',n'<s.length - q∧∃ q_1,q_1≤s.length∧n'=s.length - q_1∧zzG k n m i d s bd l (q+1)=zzG k n m i d s bd l q_1:=⟨by unfold zc;omega,s.length - (q+1),by omega,q+1,by omega,rfl,rfl⟩
    simp only [go_sem,hA,zzG,zg,g1]
    refine⟨⟨zbn _,(fun r hr=>by cases hr),by rw [za];omega⟩,?_⟩
    rcases (show k=6∨(k=8∧q=1)∨(k=8∧¬ q=1)∨(k=13∧q=2)∨(k=13∧¬ q=2)∨(¬ k=6∧¬ k=8∧¬ k=13) by omega) with h | ⟨h,h'⟩ | ⟨h,h'⟩ | ⟨h,h'⟩ | ⟨h,h'⟩ | ⟨h,h',h''⟩
    ·have d6:decide (k=6)=true:=decide_eq_true (by omega)
     have hin:zv (zah k n m q bd)=zv bd++[[.raw (.string n)]]:=by rw [show zah k n m q bd=bd++[n] by simp [zah,h]];simp [zv]
     simp only [go_sem,hA,d6,Int.toNat_natCast,zg,zap s q hlt]
     refine⟨⟨by omega,zjO n,zaG _,by rw [za];omega⟩,⟨by omega,by omega⟩,zb 300 hc rfl (by simp only [go_sem,zl,hin]) (by simp only [go_sem,hA]) ?_⟩
     simp only [go_sem,hA]
     exact⟨by unfold zc;omega,s.length - (q+1),by omega,q+1,by omega,rfl,by rw [hts];rfl⟩
    ·have d6:decide (k=6)=false:=decide_eq_false (by omega)
     have d8:decide (k=8)=true:=decide_eq_true (by omega)
     have dq:decide ((q:Int)=1)=true:=decide_eq_true (by omega)
     have hin:zv (zah k n m q bd)=zv bd++[[.raw (.string n)]]:=by rw [show zah k n m q bd=bd++[n] by simp [zah,h,h']];simp [zv]
     simp only [go_sem,hA,d6,d8,dq,Int.toNat_natCast,zg,zap s q hlt]
     refine⟨⟨by omega,zjO n,zaG _,by rw [za];omega⟩,⟨by omega,by omega⟩,zb 300 hc rfl (by simp only [go_sem,zl,hin]) (by simp only [go_sem,hA]) ?_⟩
     simp only [go_sem,hA]
     exact⟨by unfold zc;omega,s.length - (q+1),by omega,q+1,by omega,rfl,by rw [hts];rfl⟩
    ·have d6:decide (k=6)=false:=decide_eq_false (by omega)
     have d8:decide (k=8)=true:=decide_eq_true (by omega)
     have d13:decide (k=13)=false:=decide_eq_false (by omega)
     have dq:decide ((q:Int)=1)=false:=decide_eq_false (by omega)
     have hin:zv (zah k n m q bd)=zv bd:=by rw [show zah k n m q bd=bd by simp [zah,h,h']]
     simp only [go_sem,hA,d6,d8,d13,dq,Int.toNat_natCast,zg,zap s q hlt]
     refine⟨⟨by omega,by omega⟩,zb 300 hc rfl (by simp only [go_sem,zl,hin]) (by simp only [go_sem,hA]) ?_⟩
     simp only [go_sem,hA]
     exact⟨by unfold zc;omega,s.length - (q+1),by omega,q+1,by omega,rfl,by rw [hts];rfl⟩
    ·have d6:decide (k=6)=false:=decide_eq_false (by omega)
     have d8:decide (k=8)=false:=decide_eq_false (by omega)
     have d13:decide (k=13)=true:=decide_eq_true (by omega)
     have dq:decide ((q:Int)=2)=true:=decide_eq_true (by omega)
     have hin:zv (zah k n m q bd)=zv bd++[[.raw (.string n)],[.raw (.string m)]]:=by rw [show zah k n m q bd=bd++[n,m] by simp [zah,h,h']];simp [zv]
     simp only [go_sem,hA,d6,d8,d13,dq,Int.toNat_natCast,zg,zap s q hlt]
     refine⟨⟨by omega,zrV n m,zaG _,by rw [za];omega⟩,⟨by omega,by omega⟩,zb 300 hc rfl (by simp only [go_sem,zl,hin]) (by simp only [go_sem,hA]) ?_⟩
     simp only [go_sem,hA]
     exact⟨by unfold zc;omega,s.length - (q+1),by omega,q+1,by omega,rfl,by rw [hts];rfl⟩
    ·have d6:decide (k=6)=false:=decide_eq_false (by omega)
     have d8:decide (k=8)=false:=decide_eq_false (by omega)
     have d13:decide (k=13)=true:=decide_eq_true (by omega)
     have dq:decide ((q:Int)=2)=false:=decide_eq_false (by omega)
     have hin:zv (zah k n m q bd)=zv bd:=by rw [show zah k n m q bd=bd by simp [zah,h,h']]
     simp only [go_sem,hA,d6,d8,d13,dq,Int.toNat_natCast,zg,zap s q hlt]
     refine⟨⟨by omega,by omega⟩,zb 300 hc rfl (by simp only [go_sem,zl,hin]) (by simp only [go_sem,hA]) ?_⟩
     simp only [go_sem,hA]
     exact⟨by unfold zc;omega,s.length - (q+1),by omega,q+1,by omega,rfl,by rw [hts];rfl⟩
    ·have d6:decide (k=6)=false:=decide_eq_false (by omega)
     have d8:decide (k=8)=false:=decide_eq_false (by omega)
     have d13:decide (k=13)=false:=decide_eq_false (by omega)
     have hin:zv (zah k n m q bd)=zv bd:=by rw [show zah k n m q bd=bd by simp [zah,h,h',h'']]
     simp only [go_sem,hA,d6,d8,d13,Int.toNat_natCast,zg,zap s q hlt]
     refine⟨⟨by omega,by omega⟩,zb 300 hc rfl (by simp only [go_sem,zl,hin]) (by simp only [go_sem,hA]) ?_⟩
     simp only [go_sem,hA]
     exact⟨by unfold zc;omega,s.length - (q+1),by omega,q+1,by omega,rfl,by rw [hts];rfl⟩
   ·have g1:decide ((q:Int)<(s.length:Int))=false:=decide_eq_false (by omega)
    obtain rfl:q=s.length:=by omega
    simp only [go_sem,hA,zzG,zg,g1,Tryz.results231,hf,List.take_length]
end
section
open Go Go.RowKit
theorem zDE (N:Nat):∀ (t:Ex) (bd l:List ByteArray),nodesE t<N→2 * nodesE t+bd.length≤1048576→nodesE t+l.length≤1048576→Con Tryz.prog 231 [avE t,.d (.sl (zv bd)),.d (.sl (zv l))] (.d (.sl (zv (zdG t bd l)))):=by
 induction N with
 | zero=>intro t bd l h;omega
 | succ N ih=>intro t bd l h hb hl;cases t;exact rfree_step N ih _ _ _ _ _ _ bd l h hb hl
def zir (t:Ex):List ByteArray:=if zB t=0 then zdG t [] [] else []
theorem zDR (t:Ex) (hb:nodesE t≤524288):Con Tryz.prog 152 [avE t] (.d (.sl (zv (zir t)))):=by
 have cf:=zDE (nodesE t+1) t [] [] (by omega) (by simp;omega) (by simp;omega)
 have cc:=zgg t (by omega)
 refine zh Tryz.func152 rfl (by decide +kernel) rfl (by simp only [AV.closed,zt,avE,zU,Bool.and_self]) (by simp [Tryz.ntmps152]) fun A hA=>?_
 rw [Tryz.ntmps152] at hA
 refine goC 300 ?_
 simp only [go_sem,hA,zl]
 refine zb 300 cc rfl (by simp only [go_sem,zl]) (by simp only [go_sem,hA]) ?_
 by_cases h:zB t=0
 ·have g0:(decide ¬ zB t=0)=false:=by simpa using h
  have hx:zir t=zdG t [] []:=if_pos h
  simp only [go_sem,hA,g0]
  refine zb 300 cf rfl (by simp only [go_sem,zl];rfl) (by simp only [go_sem,hA]) ?_
  simp only [go_sem,hA,hx,Tryz.results152]
 ·have g0:(decide ¬ zB t=0)=true:=by simpa using h
  have hx:zir t=[]:=if_neg h
  simp only [go_sem,hA,g0,hx,Tryz.results152]
  rfl
end
section
open Go Go.RowKit
theorem zwF (l:List ByteArray) (s:ByteArray) (hl:l.length≤1048576):Con Tryz.prog 262 [.d (.sl (zv l)),.d (.raw (.string s))] (.d (.raw (.bool (zbT l s)))):=by
 refine⟨⟨_,Tryz.func262,by decide +kernel,rfl⟩,rfl,fun F w vs hF _ hlen hv=>?_⟩
 match vs,hlen with
 | [v,v'],_=>
  have h0:=hv 0 (by simp) (by simp)
  have h1:=hv 1 (by simp) (by simp)
  simp only [List.getElem_cons_zero,List.getElem_cons_succ] at h0 h1
  unfold zcw at h0 h1
  rw [h1.raw_eq]
  rcases ziI h0.sl with⟨rfl,p,cap,rfl⟩ | ⟨hpos,b,off,cap,rfl,_,_,hc⟩
  ·refine(Tryz.slices_Contains_string_empty p cap s w).mono ?_
   rintro e w' ⟨rfl,rfl⟩
   exact⟨_,rfl,.d (.raw _),Below.refl _ _⟩
  ·refine(Tryz.slices_Contains_string b off l.length cap l s w (Nat.le_refl _) (by omega) hc).mono ?_
   rintro e w' ⟨rfl,rfl⟩
   refine⟨_,rfl,?_,Below.refl _ _⟩
   have he:Lib.containsS (l.take l.length) s=zbT l s:=by
    rw [List.take_length,Bool.eq_iff_iff,Lib.containsS_iff,zbT,List.any_eq_true]
    simp
   rw [he]
   exact .d (.raw _)
theorem zEx (l:List ByteArray) (hl:l.length≤1048576):zuK Tryz.prog 263 [.d (.sl (zv l))] 1 9 (zv l):=by
 refine⟨⟨_,Tryz.func263,by decide +kernel,rfl⟩,fun i h=>zaG l _ (List.getElem_mem h),fun F w vs hF _ hlen hv=>?_⟩
 match vs,hlen with
 | [v],_=>
  have h0:=hv 0 (by simp) (by simp)
  simp only [List.getElem_cons_zero] at h0
  unfold zcw at h0
  rcases ziI h0.sl with⟨rfl,p,cap,rfl⟩ | ⟨hpos,b,off,cap,rfl,_,_,hc⟩
  ·cases p with
   | none=>
    refine(Tryz.slices_Clone_string_nil 0 cap w).mono ?_
    rintro e w' ⟨rfl,rfl⟩
    exact⟨_,[],rfl,World.ownsRow_nil _ _ _ _,fun i hi=>by simp [zv] at hi,Below.refl _ _⟩
   | some a=>
    refine(Tryz.slices_Clone_string_zero a cap w).mono ?_
    rintro e w' ⟨v',rfl,ho,_,hb⟩
    exact⟨_,[],rfl,ho,fun i hi=>by simp [zv] at hi,hb⟩
  ·refine(Tryz.slices_Clone_string b off l.length cap l w (Nat.le_refl _) (by omega) hc).mono ?_
   rintro e w' ⟨v',rfl,ho,_,hb⟩
   refine⟨v',_,rfl,by rw [za];exact ho,fun i hi j hj=>?_,hb⟩
   have hi':i<l.length:=by rw [za] at hi;exact hi
   have hrow:(zv l)[i]=[.raw (.string l[i])]:=by simp [zv]
   have hj0:j=0:=by
    rw [hrow] at hj
    simpa using hj
   subst hj0
   have e:(zv l)[i][0] = .raw (.string l[i]):=by simp only [hrow,List.getElem_cons_zero]
   rw [e]
   exact⟨.string l[i],by simp [hi'],.raw _⟩
mutual
/-- the free names of an expression, in the order in which they are met -/
def zbS:Ex→List ByteArray→List ByteArray→List ByteArray
 | .mk k n m _ _ s,bd,fs=>if k=3 then (if zbT bd n then fs else zeN fs n) else zei k n m 0 s bd fs
def zei (k:Int) (n m:ByteArray):Nat→List Ex→List ByteArray→List ByteArray→List ByteArray
 | _,[],_,fs=>fs
 | i,e :: es,bd,fs=>zei k n m (i+1) es bd (zbS e (zah k n m i bd) fs)
end
mutual
/-- parts asL the kind has them -/
def zmP:Ex→Bool
 | .mk k _ _ _ _ s=>(decide (k≠6) || decide (s.length=1)) && (decide (k≠8) || decide (s.length=2)) && (decide (k≠13) || decide (s.length=3)) && zoW s
def zoW:List Ex→Bool
 | []=>true
 | e :: es=>zmP e && zoW es
end
theorem zsI:∀ {l:List Ex} (i:Nat) (h:i<l.length),zoW l=true→zmP l[i]=true
 | e :: es,0,_,h=>by simp only [zoW,Bool.and_eq_true] at h;simpa using h.1
 | e :: es,i+1,hi,h=>by
  simp only [zoW,Bool.and_eq_true] at h
  simpa using zsI i (by simpa using hi) h.2
end
section
open Go Go.RowKit
def RI.strip (r:RI):RI:=⟨r.x,match r.e with
 | .blk q (.map tag _ _)=>.blk q (.map tag [] [])
 | e=>e,r.vs⟩
def zAu (rs:List RI):List RI:=
 match rs.getLast? with
 | some r=>rs.dropLast++[r.strip]
 | none=>rs
theorem zFH {all:List Oper} {base:Nat} {rs rs':List RI} (hl:rs.length=rs'.length) (he:∀ (i:Nat) (r r':RI),rs[i]? = some r→rs'[i]? = some r'→r.x=r'.x∧r.vs=r'.vs∧r.e.ref=r'.e.ref∧∀ q,r.e.ment q=r'.e.ment q) (h:chk all base rs'=true):chk all base rs=true:=by
 obtain⟨h1,h2⟩:=zjS h
 unfold chk
 simp only [Bool.and_eq_true]
 refine⟨?_,?_⟩
 ·rw [List.all_eq_true]
  intro x hx
  obtain⟨k,hk⟩:=List.mem_iff_getElem?.1 hx
  rw [List.getElem?_zipIdx] at hk
  cases ha:all[k]? with
  | none=>rw [ha] at hk;cases hk
  | some o=>
   rw [ha] at hk
   simp only [Option.map_some,Option.some.injEq,Nat.zero_add] at hk
   subst hk
   obtain⟨hkl,hko⟩:=List.getElem?_eq_some_iff.1 ha
   rw [List.all_eq_true]
   intro d hd
   simp only [decide_eq_true_eq]
   exact h1 k hkl d (by rw [hko];exact hd)
 ·have get:∀ a ∈ (all.zip rs).zipIdx,∃ k o r r',a=((o,r),k)∧all[k]? = some o∧rs[k]? = some r∧rs'[k]? = some r':=fun a ha=>by
   obtain⟨k,hk⟩:=List.mem_iff_getElem?.1 ha
   rw [List.getElem?_zipIdx] at hk
   cases hz:(all.zip rs)[k]? with
   | none=>rw [hz] at hk;cases hk
   | some p=>
    rw [hz] at hk
    simp only [Option.map_some,Option.some.injEq,Nat.zero_add] at hk
    obtain⟨o,r⟩:=p
    obtain⟨z1,z2⟩:=List.getElem?_zip_eq_some.1 hz
    have hlt:=(List.getElem?_eq_some_iff.1 z2).1
    exact⟨k,o,r,rs'[k]'(by omega),hk.symm,z1,z2,by simp [show k<rs'.length by omega]⟩
  rw [List.all_eq_true]
  intro a ha
  rw [List.all_eq_true]
  intro b hb
  obtain⟨i,oi,ri,ri',rfl,a1,a2,a3⟩:=get a ha
  obtain⟨j,oj,rj,rj',rfl,b1,b2,b3⟩:=get b hb
  have h3:=h2 i oi ri' j oj rj' a1 a3 b1 b3
  obtain⟨e1,e2,e3,e4⟩:=he i ri ri' a2 a3
  obtain⟨f1,f2,f3,f4⟩:=he j rj rj' b2 b3
  simp only [zkr,zie,e3,f1,f2,f3,f4] at h3 ⊢
  exact h3
theorem zoA {all:List Oper} {base:Nat} {rs:List RI} (hf:∀ r:RI,rs.getLast? = some r→∀ q,r.e.ment q=false) (h:chk all base (zAu rs)=true):chk all base rs=true:=by
 unfold zAu at h
 cases hg:rs.getLast? with
 | none=>rw [hg] at h;exact h
 | some r0=>
  rw [hg] at h
  simp only at h
  have hne:rs≠[]:=fun e=>by rw [e] at hg;cases hg
  have hdl:rs=rs.dropLast++[r0]:=by
   have h1:=List.dropLast_concat_getLast hne
   rw [List.getLast?_eq_some_getLast hne] at hg
   rw [← Option.some.inj hg]
   exact h1.symm
  have hlen:rs.length=(rs.dropLast++[r0.strip]).length:=by
   have:=congrArg List.length hdl
   simpa using this
  refine zFH hlen (fun i r r' h1 h2=>?_) h
  rw [hdl] at h1
  by_cases hlt:i<rs.dropLast.length
  ·rw [List.getElem?_append_left hlt] at h1 h2
   rw [h1] at h2
   cases h2
   exact⟨rfl,rfl,rfl,fun _=>rfl⟩
  ·rw [List.getElem?_append_right (by omega)] at h1 h2
   have hi0:i - rs.dropLast.length=0:=by
    have:=(List.getElem?_eq_some_iff.1 h1).1
    simp only [List.length_cons,List.length_nil] at this
    omega
   rw [hi0] at h1 h2
   simp only [List.getElem?_cons_zero,Option.some.injEq] at h1 h2
   subst h1 h2
   have hm:=hf r0 hg
   obtain⟨x,e,vs⟩:=r0
   refine⟨rfl,rfl,?_,fun q=>?_⟩
   ·cases e with
    | none | tok=>rfl
    | blk q b=>cases b <;> rfl
   ·have:=hm q
    cases e with
    | none | tok=>rfl
    | blk q' b=>cases b with
     | cell | row | iter | obj=>rfl
     | map tag ks cs=>rw [this];rfl
abbrev zER (k:Int) (n m:ByteArray) (i d:Int) (s:List Ex) (bd fs:List ByteArray) (b:Nat) (q:Nat):St:=⟨[(1,.d (.sl (zv bd))),(2,.mp zbB),(3,.box 0 0),(86,.d (.sl (zaz s))),(87,.d (.raw (.int .i64 s.length))),(88,.d (.raw (.int .i64 q)))],[(0,some (.cell 105 (zcX k n m i d s))),(zbB,some (.map (some b) (zax (zei k n m 0 (s.take q) bd fs)) (zar (zei k n m 0 (s.take q) bd fs))))],[]⟩
theorem zlN (k:Int) (n m:ByteArray):∀ (i:Nat) (a b:List Ex) (bd l:List ByteArray),zei k n m i (a++b) bd l=zei k n m (i+a.length) b bd (zei k n m i a bd l)
 | i,[],b,bd,l=>by simp [zei]
 | i,e :: es,b,bd,l=>by
  simp only [List.cons_append,zei,zlN k n m (i+1) es b,List.length_cons]
  rw [show i+1+es.length=i+(es.length+1) by omega]
theorem zoO (k:Int) (n m:ByteArray) (s:List Ex) (bd l:List ByteArray) (q:Nat) (h:q<s.length):zei k n m 0 (s.take (q+1)) bd l=zbS s[q] (zah k n m q bd) (zei k n m 0 (s.take q) bd l):=by
 rw [List.take_succ_eq_append_getElem h,zlN]
 simp only [zei,List.length_take,Nat.zero_add]
 rw [Nat.min_eq_left (by omega)]
theorem addFree_step (N:Nat) (ih:∀ (t:Ex) (bd fs:List ByteArray),nodesE t<N→2 * nodesE t+bd.length≤1048576→zmP t=true→zuL Tryz.prog 219 [avE t,.d (.sl (zv bd))] (zax fs) (zar fs) (zax (zbS t bd fs)) (zar (zbS t bd fs)) (.tup []))
  (k:Int) (n m:ByteArray) (i d:Int) (s:List Ex) (bd fs:List ByteArray) (hN:nodesE (.mk k n m i d s)<N+1) (hb:2 * nodesE (.mk k n m i d s)+bd.length≤1048576) (hs:zmP (.mk k n m i d s)=true) :
  zuL Tryz.prog 219 [avE (.mk k n m i d s),.d (.sl (zv bd))] (zax fs) (zar fs) (zax (zbS (.mk k n m i d s) bd fs)) (zar (zbS (.mk k n m i d s) bd fs)) (.tup []):=by
 rw [nodesE] at hN hb
 have hlen:=zC s
 simp only [zmP,Bool.and_eq_true,Bool.or_eq_true,decide_eq_true_eq] at hs
 obtain⟨⟨⟨hs6,hs8⟩,hs13⟩,hsL⟩:=hs
 have cC:=zwF bd n (by omega)
 have cK:=zEx bd (by omega)
 refine zEu Tryz.func219 rfl (by decide +kernel) rfl (by simp only [AV.closed,zt,avE,zU,Bool.and_self]) (zau _) (zau _) (by simp [Tryz.ntmps219]) fun A hA b=>?_
 rw [Tryz.ntmps219] at hA
 refine goC 300 ?_
 by_cases h3:k=3
 ·subst h3
  simp only [go_sem,hA,avE,zaZ,zbB,zH]
  cases hh:zbT bd n with
  | true=>
   rw [hh] at cC
   have he:zbS (.mk 3 n m i d s) bd fs=fs:=by rw [zbS,if_pos rfl,hh];rfl
   refine zb 300 cC rfl (by simp only [go_sem]) (by simp only [go_sem,hA]) ?_
   simp only [go_sem,hA,he,zbB,Tryz.results219]
  | false=>
   rw [hh] at cC
   have he:zbS (.mk 3 n m i d s) bd fs=zeN fs n:=by rw [zbS,if_pos rfl,hh];rfl
   refine zb 300 cC rfl (by simp only [go_sem]) (by simp only [go_sem,hA]) ?_
   simp only [go_sem,hA,he,zbB,Tryz.results219]
   exact⟨zbY fs,by rw [← znq,← znr];rfl⟩
 by_cases h6:k=6
 ·subst h6
  obtain⟨e0,rfl⟩:∃ e0,s=[e0]:=by
   rcases hs6 with h | h
   ·exact absurd rfl h
   ·match s,h with
    | [e0],_=>exact⟨e0,rfl⟩
  simp only [zoW,Bool.and_true] at hsL
  simp only [nodesL] at hN hb
  have hc:=ih e0 (bd++[n]) fs (by omega) (by simp;omega) hsL
  have he:zbS (.mk 6 n m i d [e0]) bd fs=zbS e0 (bd++[n]) fs:=by rw [zbS,if_neg (by decide)];simp [zei,zah]
  have hin:zv (bd++[n])=zv bd++[[.raw (.string n)]]:=by simp [zv]
  simp only [go_sem,hA,avE,zaZ,zaz,zbP,zbB,Int.reduceEq,zH,mixed,List.getD_cons_zero]
  refine zom 300 cK rfl rfl rfl (by simp only [go_sem]) (by simp only [go_sem,hA]) (by simp only [go_sem,zH]) ?_
  simp only [go_sem,hA,zH]
  refine⟨⟨zbn [n],zaG _,by rw [za];omega⟩,zon 300 (args:=[.tmp 25,.tmp 31]) (m:=.tmp 32) hc rfl rfl rfl rfl rfl rfl (zau _) (by simp only [go_sem,zl,hin]) (by simp only [go_sem,hA]) ?_⟩
  simp only [go_sem,he,zbB,Tryz.results219,and_true]
  exact zoA (fun r h q=>by rw [← Option.some.inj h];exact zH q _) (by kernel_rfl)
 by_cases h8:k=8
 ·subst h8
  obtain⟨e0,e1,rfl⟩:∃ e0 e1,s=[e0,e1]:=by
   rcases hs8 with h | h
   ·exact absurd rfl h
   ·match s,h with
    | [e0,e1],_=>exact⟨e0,e1,rfl⟩
  simp only [zoW,Bool.and_true,Bool.and_eq_true] at hsL
  simp only [nodesL] at hN hb
  have hc0:=ih e0 bd fs (by omega) (by omega) hsL.1
  have hc1:=ih e1 (bd++[n]) (zbS e0 bd fs) (by omega) (by simp;omega) hsL.2
  have he:zbS (.mk 8 n m i d [e0,e1]) bd fs=zbS e1 (bd++[n]) (zbS e0 bd fs):=by rw [zbS,if_neg (by decide)];simp [zei,zah]
  have hin:zv (bd++[n])=zv bd++[[.raw (.string n)]]:=by simp [zv]
  simp only [go_sem,hA,avE,zaZ,zaz,zbP,zbB,Int.reduceEq,zH,List.getD_cons_zero]
  refine zjJ 300 (args:=[.tmp 39,.tmp 40]) (m:=.tmp 41) hc0 rfl rfl rfl rfl rfl rfl (zau _) (by simp only [go_sem,zl]) (by simp only [go_sem,hA]) ?_
  simp only [go_sem,hA,zH,mixed,List.getD_cons_zero,List.getD_cons_succ]
  refine zom 300 cK rfl rfl rfl (by simp only [go_sem]) (by simp only [go_sem,hA]) (by simp only [go_sem,zH]) ?_
  simp only [go_sem,hA,zH]
  refine⟨⟨zbn [n],zaG _,by rw [za];omega⟩,zon 300 (args:=[.tmp 46,.tmp 52]) (m:=.tmp 53) hc1 rfl rfl rfl rfl rfl rfl (zau _) (by simp only [go_sem,zl,hin]) (by simp only [go_sem,hA]) ?_⟩
  simp only [go_sem,he,zbB,Tryz.results219,and_true]
  exact zoA (fun r h q=>by rw [← Option.some.inj h];exact zH q _) (by kernel_rfl)
 by_cases h13:k=13
 ·subst h13
  obtain⟨e0,e1,e2,rfl⟩:∃ e0 e1 e2,s=[e0,e1,e2]:=by
   rcases hs13 with h | h
   ·exact absurd rfl h
   ·match s,h with
    | [e0,e1,e2],_=>exact⟨e0,e1,e2,rfl⟩
  simp only [zoW,Bool.and_true,Bool.and_eq_true] at hsL
  simp only [nodesL] at hN hb
  have hc0:=ih e0 bd fs (by omega) (by omega) hsL.1
  have hc1:=ih e1 bd (zbS e0 bd fs) (by omega) (by omega) hsL.2.1
  have hc2:=ih e2 (bd++[n,m]) (zbS e1 bd (zbS e0 bd fs)) (by omega) (by simp;omega) hsL.2.2
  have he:zbS (.mk 13 n m i d [e0,e1,e2]) bd fs=zbS e2 (bd++[n,m]) (zbS e1 bd (zbS e0 bd fs)):=by rw [zbS,if_neg (by decide)];simp [zei,zah]
  have hin:zv (bd++[n,m])=zv bd++[[.raw (.string n)],[.raw (.string m)]]:=by simp [zv]
  simp only [go_sem,hA,avE,zaZ,zaz,zbP,zbB,Int.reduceEq,zH,List.getD_cons_zero]
  refine zjJ 300 (args:=[.tmp 60,.tmp 61]) (m:=.tmp 62) hc0 rfl rfl rfl rfl rfl rfl (zau _) (by simp only [go_sem,zl]) (by simp only [go_sem,hA]) ?_
  simp only [go_sem,hA,zH,List.getD_cons_zero,List.getD_cons_succ]
  refine zjJ 300 (args:=[.tmp 67,.tmp 68]) (m:=.tmp 69) hc1 rfl rfl rfl rfl rfl rfl (zau _) (by simp only [go_sem,zl]) (by simp only [go_sem,hA]) ?_
  simp only [go_sem,hA,zH,mixed,List.getD_cons_zero,List.getD_cons_succ]
  refine zom 300 cK rfl rfl rfl (by simp only [go_sem]) (by simp only [go_sem,hA]) (by simp only [go_sem,zH]) ?_
  simp only [go_sem,hA,zH]
  refine⟨⟨zbn [n,m],zaG _,by rw [za];omega⟩,zon 300 (args:=[.tmp 74,.tmp 82]) (m:=.tmp 83) hc2 rfl rfl rfl rfl rfl rfl (zau _) (by simp only [go_sem,zl,hin]) (by simp only [go_sem,hA]) ?_⟩
  simp only [go_sem,he,zbB,Tryz.results219,and_true]
  exact zoA (fun r h q=>by rw [← Option.some.inj h];exact zH q _) (by kernel_rfl)
 have he:zbS (.mk k n m i d s) bd fs=zei k n m 0 s bd fs:=by rw [zbS,if_neg h3]
 have g3:decide (k=3)=false:=decide_eq_false h3
 have g6:decide (k=6)=false:=decide_eq_false h6
 have g8:decide (k=8)=false:=decide_eq_false h8
 have g13:decide (k=13)=false:=decide_eq_false h13
 simp only [go_sem,hA,avE,zaZ,zbB,g3,g6,g8,g13,zH,zg]
 refine zd [1,2,3,86,87,88] [0,7700077] [] (fun x σ=>∃ q:Nat,q≤s.length∧x=s.length - q∧σ=zER k n m i d s bd fs b q) s.length ⟨0,by omega,by omega,by simp only [go_sem,zER,zbB,List.take_zero,zei]⟩ ?_
 rintro x σ ⟨q,hq,rfl,rfl⟩
 refine goC 300 ?_
 by_cases hlt:q<s.length
 ·have g1:decide ((q:Int)<(s.length:Int))=true:=decide_eq_true (by omega)
  have hn1:=zam s q hlt
  have hbd:zah k n m q bd=bd:=by simp [zah,h6,h8,h13]
  have hc:=ih s[q] bd (zei k n m 0 (s.take q) bd fs) (by omega) (by omega) (zsI q hlt hsL)
  have hts:=zoO k n m s bd fs q hlt
  rw [hbd] at hts
  rw [← hts] at hc
  simp only [go_sem,hA,zER,zbB,g1,Int.toNat_natCast,zg,zap s q hlt,zH]
  refine⟨⟨by omega,by omega⟩,zjJ 300 (args:=[.tmp 92,.tmp 93]) (m:=.tmp 94) hc rfl rfl rfl rfl rfl rfl (zau _) (by simp only [go_sem,zl]) (by simp only [go_sem,hA]) ?_⟩
  simp only [go_sem,hA]
  exact⟨by unfold zc;omega,s.length - (q+1),by omega,q+1,by omega,rfl,rfl⟩
 ·have g1:decide ((q:Int)<(s.length:Int))=false:=decide_eq_false (by omega)
  obtain rfl:q=s.length:=by omega
  simp only [go_sem,hA,zER,zbB,g1,he,List.take_length,Tryz.results219]
theorem zAh (N:Nat):∀ (t:Ex) (bd fs:List ByteArray),nodesE t<N→2 * nodesE t+bd.length≤1048576→zmP t=true→zuL Tryz.prog 219 [avE t,.d (.sl (zv bd))] (zax fs) (zar fs) (zax (zbS t bd fs)) (zar (zbS t bd fs)) (.tup []):=by
 induction N with
 | zero=>intro t bd fs h;omega
 | succ N ih=>intro t bd fs h hb hs;cases t;exact addFree_step N ih _ _ _ _ _ _ bd fs h hb hs
end
end Go.Proofs.YtpnjjmcimjlfkaaGreatDoor
