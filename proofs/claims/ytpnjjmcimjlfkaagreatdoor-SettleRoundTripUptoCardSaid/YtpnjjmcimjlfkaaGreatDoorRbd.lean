/- Texts of this proof, part 30: what the proof uses of them. -/
import Derived.Test.YtpnjjmcimjlfkaaGreatDoorRay
import Derived.Test.YtpnjjmcimjlfkaaGreatDoorRax
import Derived.Test.YtpnjjmcimjlfkaaGreatDoorRap
import Derived.Test.YtpnjjmcimjlfkaaGreatDoorRat
import Derived.Test.YtpnjjmcimjlfkaaGreatDoorRbc
set_option maxRecDepth 100000
set_option maxHeartbeats 64000000
namespace Go.Proofs.YtpnjjmcimjlfkaaGreatDoor
section
open Go Go.RowKit
def bytesOf:List (List D)->Option (List UInt8)
 | []=>some []
 | [.raw (.int .u8 n)] :: r=>if 0<=n/\n<256 then (bytesOf r).map (UInt8.ofNat n.toNat :: ·) else none
 | _=>none
theorem znL:∀ {rows:List (List D)} {l:List UInt8},bytesOf rows=some l->rows=zC l
 | [],l,h=>by cases h;rfl
 | r :: rows,l,h=>by
  unfold bytesOf at h
  split at h
  ·rename_i e;cases e
  ·rename_i n r' e
   cases e
   split at h
   ·rename_i hn
    cases hr:bytesOf rows with
    | none=>rw [hr] at h;cases h
    | some l'=>
     rw [hr] at h
     cases h
     rw [znL hr]
     simp only [zC,List.map_cons,List.cons.injEq,and_true,D.raw.injEq,Value.int.injEq,true_and]
     rw [UInt8.toNat_ofNat_of_lt' (by have:=hn.2;show n.toNat<256;omega)]
     omega
   ·cases h
  ·cases h
noncomputable def spX (σ:St) (_:Nat) (o:Oper):Option (St × AV):=
 match o.op with
 | .load t p=>match σ.eval p with
  | .elem r st i j=>match σ.blk r with
   | some (.cell _ cs)=>(zah Tryz.prog t (cs.drop (i * st+j))).map fun x=>(σ,x)
   | _=>none
  | _=>none
 | .convert src dst p=>match σ.eval p with
  | .box r j=>match σ.blk r with
   | some (.cell ty cs)=>match Tryz.prog.underlying src,Tryz.prog.underlying dst with
    | some (.pointer t),some .unsafePointer=>if j<cs.length/\Tryz.prog.cellsOf t≠0 then some (σ,.box r j) else none
    | some .unsafePointer,some (.pointer t)=>if Tryz.prog.cellsOf t≠0/\liesAt Tryz.prog Tryz.prog.depth ty (cs.length / Tryz.prog.cellsOf ty) j t 1=true then some (σ,.box r j) else none
    | _,_=>none
   | _=>none
  | _=>none
 | .call c=>match c.callee with
  | .value p=>match σ.eval p with
   | .fn f []=>if f=339 then (match c.args.toList with
     | [q]=>some (σ,σ.eval q)
     | _=>none) else if f=112 then (match c.args.toList with
     | [m]=>match σ.eval m with
      | .box r j=>match σ.blk r with
       | some (.cell _ cs)=>match cs[j+1]? with
        | some (.grow q rows)=>match σ.tok q,bytesOf rows with
         | some ⟨1,ty,n,none⟩,some l=>if ty=5/\n=l.length/\l≠[] then some (σ.setTok q none,.d (.raw (.string ⟨l.toArray⟩))) else none
         | _,_=>none
        | _=>none
       | _=>none
      | _=>none
     | _=>none) else none
   | _=>none
  | _=>none
 | _=>none
theorem zEI:zEg Tryz.prog spX:=by
 intro A σ me o σ' x h
 unfold spX at h
 split at h
 ·rename_i t p ho
  split at h
  ·rename_i r st i j hp
   split at h
   ·rename_i ty cs hb
    cases hx:zah Tryz.prog t (cs.drop (i * st+j)) with
    | none=>rw [hx] at h;cases h
    | some y=>rw [hx] at h;cases h;exact zeQ ho hp hb hx
   ·cases h
  ·cases h
 ·rename_i src dst p ho
  split at h
  ·rename_i r j hp
   split at h
   ·rename_i ty cs hb
    split at h
    ·rename_i t hs hd
     split at h
     ·rename_i hc;cases h;exact zii ho hp hb hc.1 hs hd hc.2
     ·cases h
    ·rename_i t hs hd
     split at h
     ·rename_i hc;cases h;exact zgM ho hp hb hs hd hc.1 hc.2
     ·cases h
    ·cases h
   ·cases h
  ·cases h
 ·rename_i c ho
  split at h
  ·rename_i p hp
   split at h
   ·rename_i f hf
    split at h
    ·rename_i he
     subst he
     split at h
     ·rename_i q hargs
      cases h
      exact zjr ho hp hf hargs fun v w=>by rw [run_callFunc_extern Tryz.func339 (by kernel_rfl) (by kernel_rfl) (by kernel_rfl) (e:=Extern.AbiNoEscape.same) (by kernel_rfl),Lib.run_noEscape];rfl
     ·cases h
    ·split at h
     ·rename_i he
      subst he
      split at h
      ·rename_i m hargs
       split at h
       ·rename_i r j hm
        split at h
        ·rename_i ty cs hb
         split at h
         ·rename_i q rows hj
          split at h
          ·rename_i ty' n l ht hl
           split at h
           ·rename_i hc
            obtain⟨rfl,rfl,h0⟩:=hc
            cases h
            rw [znL hl] at hj
            exact zkU ho hp hf hargs hm hb hj ht h0
           ·cases h
          ·cases h
         ·cases h
        ·cases h
       ·cases h
      ·cases h
     ·cases h
   ·cases h
  ·cases h
 ·cases h
def zDc:List UInt8->List UInt8->Bool
 | [],[]=>true
 | x :: l,y :: m=>Nat.beq x.toNat y.toNat && zDc l m
 | _,_=>false
theorem zwI:∀ {l m:List UInt8},zDc l m=true->l=m
 | [],[],_=>rfl
 | x :: l,y :: m,h=>by
  simp only [zDc,Bool.and_eq_true] at h
  rw [UInt8.toNat_inj.1 (Nat.eq_of_beq_eq_true h.1),zwI h.2]
 | [],_ :: _,h=>by cases h
 | _ :: _,[],h=>by cases h
def zFd:Value->Value->Bool
 | .string a,.string b=>zDc a.data.toList b.data.toList
 | .int k a,.int l b=>decide (k=l) && decide (a=b)
 | .bool a,.bool b=>a == b
 | .slice none 0 0,.slice none 0 0=>true
 | _,_=>false
theorem zDb {a b:Value} (h:zFd a b=true):a=b:=by
 unfold zFd at h
 split at h
 ·rename_i a b
  have:=zwI h
  obtain⟨⟨a⟩⟩:=a
  obtain⟨⟨b⟩⟩:=b
  simp only at this
  rw [this]
 ·simp only [Bool.and_eq_true,decide_eq_true_eq] at h
  rw [h.1,h.2]
 ·rw [beq_iff_eq] at h;rw [h]
 ·rfl
 ·cases h
mutual
def eqD:D->D->Bool
 | .raw a,.raw b=>zFd a b
 | .sl a,.sl b=>zyj a b
 | _,_=>false
def zyk:List D->List D->Bool
 | [],[]=>true
 | x :: l,y :: m=>eqD x y && zyk l m
 | _,_=>false
def zyj:List (List D)->List (List D)->Bool
 | [],[]=>true
 | x :: l,y :: m=>zyk x y && zyj l m
 | _,_=>false
end
mutual
theorem zAN:∀ {x y:D},eqD x y=true->x=y
 | .raw a,.raw b,h=>by
  unfold eqD at h
  rw [zDb h]
 | .sl a,.sl b,h=>by
  unfold eqD at h
  rw [zwG h]
 | .raw _,.sl _,h=>by unfold eqD at h;cases h
 | .sl _,.raw _,h=>by unfold eqD at h;cases h
theorem zwH:∀ {x y:List D},zyk x y=true->x=y
 | [],[],_=>rfl
 | x :: l,y :: m,h=>by
  unfold zyk at h
  rw [Bool.and_eq_true] at h
  rw [zAN h.1,zwH h.2]
 | [],_ :: _,h=>by unfold zyk at h;cases h
 | _ :: _,[],h=>by unfold zyk at h;cases h
theorem zwG:∀ {x y:List (List D)},zyj x y=true->x=y
 | [],[],_=>rfl
 | x :: l,y :: m,h=>by
  unfold zyj at h
  rw [Bool.and_eq_true] at h
  rw [zwH h.1,zwG h.2]
 | [],_ :: _,h=>by unfold zyj at h;cases h
 | _ :: _,[],h=>by unfold zyj at h;cases h
end
mutual
def eqA:AV->AV->Bool
 | .d a,.d b=>eqD a b
 | .agg a,.agg b=>ztl a b
 | .tup a,.tup b=>ztl a b
 | _,_=>false
def ztl:List AV->List AV->Bool
 | [],[]=>true
 | x :: l,y :: m=>eqA x y && ztl l m
 | _,_=>false
end
mutual
theorem zFe:∀ {x y:AV},eqA x y=true->x=y:=by
 intro x y h
 unfold eqA at h
 split at h
 ·rw [zAN h]
 ·rw [zlM h]
 ·rw [zlM h]
 ·cases h
theorem zlM:∀ {x y:List AV},ztl x y=true->x=y
 | [],[],_=>rfl
 | x :: l,y :: m,h=>by
  unfold ztl at h
  rw [Bool.and_eq_true] at h
  rw [zFe h.1,zlM h.2]
 | [],_ :: _,h=>by unfold ztl at h;cases h
 | _ :: _,[],h=>by unfold ztl at h;cases h
end
def zwt:List (FuncId × List AV × AV)->FuncId->List AV->Option AV
 | [],_,_=>none
 | (g,zs,r) :: t,f,ys=>if Nat.beq f g && ztl ys zs then some r else zwt t f ys
theorem zsK {P:Program}:∀ {l:List (FuncId × List AV × AV)},(∀ x ∈ l,Con P x.1 x.2.1 x.2.2)->∀ {f:FuncId} {ys:List AV} {r:AV},zwt l f ys=some r->Con P f ys r
 | [],_,_,_,_,h=>by cases h
 | (g,zs,r') :: t,hl,f,ys,r,h=>by
  unfold zwt at h
  split at h
  ·rename_i hc
   cases h
   rw [Bool.and_eq_true] at hc
   rw [Nat.eq_of_beq_eq_true hc.1,zlM hc.2]
   exact hl _ (List.mem_cons_self ..)
  ·exact zsK (fun x hx=>hl x (List.mem_cons_of_mem _ hx)) h
def zse:Nat->Nat->Option (List UInt8)
 | 0,_=>none
 | k+1,n=>if Nat.blt n 128 then some [n.toUInt8] else (zse k (n / 128)).map ((n % 128+128).toUInt8 :: ·)
theorem zqf:∀ {k n:Nat} {l:List UInt8},zse k n=some l->l=zb n
 | k+1,n,l,h=>by
  unfold zse at h
  split at h
  ·rename_i hc
   cases h
   rw [putL_lt (by simpa [Nat.blt_eq] using hc)]
  ·rename_i hc
   cases hr:zse k (n / 128) with
   | none=>rw [hr] at h;cases h
   | some l'=>
    rw [hr] at h
    cases h
    rw [zep (by simpa [Nat.blt_eq] using hc),zqf hr]
def ztg:List (List D)->Option (List (List (List D)))
 | []=>some []
 | [.sl l] :: r=>(ztg r).map (l :: ·)
 | _=>none
theorem ztf:∀ {l:List (List D)} {ll:List (List (List D))},ztg l=some ll->l=ll.map fun l=>[D.sl l]
 | [],ll,h=>by cases h;rfl
 | x :: r,ll,h=>by
  unfold ztg at h
  split at h
  ·rename_i e;cases e
  ·rename_i l' r' e
   cases e
   cases hr:ztg r with
   | none=>rw [hr] at h;cases h
   | some l''=>
    rw [hr] at h
    cases h
    rw [ztf hr];rfl
  ·cases h
def zEH (f:FuncId) (ys:List AV):Option AV:=
 if Nat.beq f 240 then (match ys with
  | [.d (.raw (.int .i64 (.ofNat n)))]=>if Nat.ble n 1099511627776 then (zse 10 n).map fun l=>.tup [.d (.raw (.string ⟨l.toArray⟩)),.d (.raw (.int .i64 0))] else none
  | _=>none)
 else if Nat.beq f 241 then (match ys with
  | [.d (.raw (.string s))]=>if Nat.ble s.size 65536 then (zse 10 s.size).map fun l=>.tup [.d (.raw (.string ⟨(l++s.data.toList).toArray⟩)),.d (.raw (.int .i64 0))] else none
  | _=>none)
 else if Nat.beq f 178 then (match ys with
  | [.d (.sl l)]=>match ztg l with
   | some ll=>if Nat.ble ll.length 1048576 && Nat.ble ll.flatten.length 1048576 && ll.all (fun l=>l.all fun r=>Nat.beq r.length 3 && r.all D.one) then some (.d (.sl ll.flatten)) else none
   | none=>none
  | _=>none)
 else none
theorem zCn:znX Tryz.prog zEH:=by
 intro f ys r h
 unfold zEH at h
 split at h
 ·rename_i hf
  rw [Nat.eq_of_beq_eq_true hf]
  split at h
  ·rename_i n
   split at h
   ·rename_i hn
    cases hr:zse 10 n with
    | none=>rw [hr] at h;cases h
    | some l=>
     rw [hr] at h
     cases h
     rw [zqf hr]
     exact zhg n (Nat.le_of_ble_eq_true hn)
   ·cases h
  ·cases h
 split at h
 ·rename_i hf
  rw [Nat.eq_of_beq_eq_true hf]
  split at h
  ·rename_i s
   split at h
   ·rename_i hn
    cases hr:zse 10 s.size with
    | none=>rw [hr] at h;cases h
    | some l=>
     rw [hr] at h
     cases h
     rw [zqf hr]
     exact zhK s (Nat.le_of_ble_eq_true hn)
   ·cases h
  ·cases h
 split at h
 ·rename_i hf
  rw [Nat.eq_of_beq_eq_true hf]
  split at h
  ·rename_i l
   split at h
   ·rename_i ll hl
    split at h
    ·rename_i hc
     cases h
     simp only [Bool.and_eq_true,List.all_eq_true] at hc
     obtain⟨⟨h1,h2⟩,h3⟩:=hc
     rw [ztf hl]
     refine zpz ll (Nat.le_of_ble_eq_true h1) (Nat.le_of_ble_eq_true h2) fun l hl r hr=>?_
     obtain⟨h4,h5⟩:=h3 l hl r hr
     exact⟨Nat.eq_of_beq_eq_true h4,h5⟩
    ·cases h
   ·cases h
  ·cases h
 ·cases h
def zoY:Mg:=⟨[],[],[⟨⟨#[110,111,116,101,115]⟩,true,true,true,⟨#[49]⟩,⟨#[50]⟩,⟨#[51]⟩⟩]⟩
def zzZ:Mg:=⟨[],[⟨⟨#[110,111,116,101,115]⟩,⟨#[51]⟩⟩],[]⟩
theorem zuZ:zoY.Fine:=⟨by decide,by decide,(fun _ h=>by cases h),(fun _ h=>by cases h),(fun x h=>by
 rw [List.mem_singleton.1 (show x ∈ [_] from h)]
 exact⟨by decide,by decide,by decide,by decide⟩)⟩
theorem zuY:zzZ.Fine:=⟨by decide,by decide,(fun _ h=>by cases h),(fun x h=>by
 rw [List.mem_singleton.1 (show x ∈ [_] from h)]
 exact⟨by decide,by decide⟩),(fun _ h=>by cases h)⟩
def zuv:List (FuncId × List AV × AV):=[(9,[avG zoY],.d (.raw (.int .i64 (zcE zoY)))),(9,[avG zzZ],.d (.raw (.int .i64 (zcE zzZ)))),(40,[avG zoY,.d (.raw (.string ⟨#[110,111,116,101,115]⟩)),.d (.raw (.int .i64 2))],avG (zwD zoY ⟨#[110,111,116,101,115]⟩ 0 2))]
theorem zxg:∀ x ∈ zuv,Con Tryz.prog x.1 x.2.1 x.2.2:=by
 intro x hx
 simp only [zuv,List.mem_cons,List.not_mem_nil,or_false] at hx
 rcases hx with rfl | rfl | rfl
 ·exact zha _ zuZ
 ·exact zha _ zuY
 ·exact zrd zoY ⟨#[110,111,116,101,115]⟩ 2 0 (by decide) (by decide) (by kernel_rfl) (by decide) (by decide) (zEU _ _ _ rfl)
def zEm (f:FuncId) (ys:List AV):Option AV:=match zwt zuv f ys with
 | some r=>some r
 | none=>zEH f ys
theorem zzl:znX Tryz.prog zEm:=by
 intro f ys r h
 unfold zEm at h
 split at h
 ·rename_i r' h1;cases h;exact zsK zxg h1
 ·exact zCn _ _ _ h
end
section
open Go Go.RowKit
theorem zcW:Con Tryz.prog 8 [] (.d (.raw (.bool true))):=
 zDw 20000 (by kernel_rfl) zzl zEI (zEK) (by kernel_rfl)
end
section
open Go Go.RowKit
end
section
open Go Go.RowKit
theorem zzv {x y:Mg} (hg:x.Good) (h:zcE x=0\/x=zFJ):Con Tryz.prog 16 [avG x,avG y] (.d (.raw (.bool (eqG x y)))):=by
 refine zzC x y hg.fine.ml hg.fine.fl hg.tl fun z hz=>?_
 rcases h with h | h
 ·have hb:=zwq h z hz
  refine⟨?_,hg.dl z hz,fun d hd=>⟨by have:=hg.fine.bd z hz d hd;omega,?_⟩⟩
  ·have:=hb
   unfold zdl at this
   split at this
   ·split at this
    ·exact absurd this (by assumption)
    ·rename_i h1
     have:=ziU (Decidable.not_not.1 h1)
     omega
   ·cases this
  ·have:=(ztF (zBP hb hd)).2.2.2.1
   unfold zaT at this
   split at this
   ·cases this
   ·omega
 ·subst h;cases hz
end
section
open Go Go.RowKit Go.Shelf
theorem zDt {q:List It} (hk:PoolOk q) {m n:Mg} (hx:mgI m ∈ q) (hm:m.Fit) (hn:n.Fit) (h1:¬ 65536<(obL (mgO m)).length) (h2:¬ 65536<(obL (mgO n)).length) (h0:(zcB q (mgI n)).2=0):(decide ((mgI n).dg.1=(mgI m).dg.1) && decide ((mgI n).dg.2=(mgI m).dg.2))=eqG m n:=by
 rw [Bool.eq_iff_iff,zwF,Bool.and_eq_true,decide_eq_true_eq,decide_eq_true_eq]
 constructor
 ·rintro⟨e1,e2⟩
  exact(zCP hn hm h2 h1 (zBY hk hx (Prod.ext e1 e2) h0)).symm
 ·rintro rfl
  exact⟨rfl,rfl⟩
theorem zvj (p:List It) (m n:Mg) (hp:p.length<=1048576) (hbm:∀ x ∈ m.ms,∀ d ∈ x.decls,nodesE d.body<=1048576) (hbn:∀ x ∈ n.ms,∀ d ∈ x.decls,nodesE d.body<=1048576):Con Tryz.prog 6 [.d (.sl (zaR p)),avG m,avG n] (.d (.raw (.bool true))):=by
 refine kO Tryz.func6 Tryz.ntmps6 fun A hA=>?_
 refine goC 400 ?_
 simp only [go_sem,hA,avG]
 refine gC (zzg p) ?_
 cases hv:(!zdG p && decide (zsh p=0)) with
 | false=>
  simp only [go_sem,hA,undef]
  refine gC zcW ?_ rfl rfl
  simp only [go_sem,hA,Tryz.results6]
 | true=>
 simp only [go_sem,hA]
 refine gC (zoL m hbm) ?_ rfl (by simp only [go_sem,avG])
 cases h1:zfw m with
 | true=>
  simp only [go_sem,hA,undef]
  refine gC zcW ?_ rfl rfl
  simp only [go_sem,hA,Tryz.results6]
 | false=>
 simp only [go_sem,hA]
 refine gC (zoL n hbn) ?_ rfl (by simp only [go_sem,avG])
 cases h2:zfw n with
 | true=>
  simp only [go_sem,hA]
  refine gC zcW ?_ rfl rfl
  simp only [go_sem,hA,Tryz.results6]
 | false=>
 simp only [Bool.and_eq_true,Bool.not_eq_true',decide_eq_true_eq] at hv
 obtain⟨v1,v2⟩:=hv
 have hpk:=zzN v2
 have hpl:p.length<=40:=by
  unfold zdG at v1
  simp only [Bool.or_eq_false_iff,decide_eq_false_iff_not] at v1
  omega
 have hS:=zvW p m (by omega) h1
 simp only [go_sem,hA]
 by_cases he:(zaz p m).2.2=0
 case neg=>
  have k1:(decide ¬ (zaz p m).2.2=0)=true:=decide_eq_true he
  obtain⟨hq,hc⟩:=zub he
  rw [hq] at hS
  generalize (zaz p m).2.2=e at *
  refine gC hS ?_ rfl (by simp only [go_sem,avG])
  simp only [go_sem,hA,k1]
  refine gC (zha m (zeW h1).fine) ?_ rfl (by simp only [go_sem,avG])
  have zl:decide (((0:Nat):Int)=0)=true:=by decide
  by_cases hs:zcE m=0
  ·have k2:(decide ¬ zcE m=0)=false:=by simp [hs]
   by_cases h16:e=16
   ·have k3:decide (e=16)=true:=decide_eq_true h16
    simp only [go_sem,hA,k2,k3,zy,List.length_nil,undef]
    refine gC zcW ?_ rfl rfl
    simp only [go_sem,hA,Tryz.results6]
   ·have k3:decide (e=16)=false:=decide_eq_false h16
    have k4:decide (e=4)=true:=decide_eq_true (hc.resolve_left (fun h=>h hs) |>.resolve_left h16)
    simp only [go_sem,hA,k2,k3,k4,zy,List.length_nil]
    refine gC zcW ?_ rfl rfl
    simp only [go_sem,hA,Tryz.results6]
  ·have k2:(decide ¬ zcE m=0)=true:=decide_eq_true hs
   simp only [go_sem,hA,k2,zy,List.length_nil,undef]
   refine gC zcW ?_ rfl rfl
   simp only [go_sem,hA,Tryz.results6]
 have k1:(decide ¬ (zaz p m).2.2=0)=false:=by simp [he]
 obtain⟨s1,s2,s3,s4,s5,s6,s7,s8,s9⟩:=zoB hpk he
 obtain⟨f1,l1⟩:=zwC s1 h1
 have hS2:Con Tryz.prog 18 [.d (.sl (zaR p)),avG m] (.tup [.d (.sl (zaR (zaz p m).1)),zew (mgI m).dg,.d (.raw (.int .i64 0))]):=by
  rw [he,s4] at hS;exact hS
 clear hS
 generalize (zaz p m).1=q at *
 have z0:(decide ¬ (0:Int)=0)=false:=by decide
 have ze:decide ((0:Int)=0)=true:=by decide
 have hsm:eqG m m=true:=(zwF m m).2 rfl
 have c1:=zzv (x:=m) (y:=m) (zeW h1) (.inl s1)
 rw [hsm] at c1
 have c2:=zzv (x:=m) (y:=n) (zeW h1) (.inl s1)
 have hL:=zAk q m (by omega) s6 s7 s1 s2 h1
 have hS3:=zvW q n (by omega) h2
 refine gC hS2 ?_ rfl (by simp only [go_sem,avG])
 simp only [go_sem,hA]
 refine gC hL ?_
 simp only [go_sem,hA,avG]
 refine gC c1 ?_ rfl (by simp only [go_sem,avG])
 simp only [go_sem,hA]
 refine gC (zCJ q (by omega) s6) ?_
 simp only [go_sem,hA]
 refine gC hS3 ?_ rfl (by simp only [go_sem,avG])
 by_cases hf:(zaz q n).2.2=0
 case neg=>
  have k2:(decide ¬ (zaz q n).2.2=0)=true:=decide_eq_true hf
  simp only [go_sem,hA,k2]
  refine gC zcW ?_ rfl rfl
  simp only [go_sem,hA,Tryz.results6]
 have k2:(decide ¬ (zaz q n).2.2=0)=false:=by simp [hf]
 obtain⟨t1,t2,t3,t4,t5,t6,t7,t8,t9⟩:=zoB s6 hf
 obtain⟨f2,l2⟩:=zwC t1 h2
 have hd:=zDt s6 s7 f1 f2 s2 t2 t3
 have hL2:=zAk (zaz q n).1 m (by omega) t6 (t8 _ s7) s1 s2 h1
 rw [t4]
 simp only [go_sem,hA,k2]
 refine gC hL2 ?_
 simp only [go_sem,hA,avG,mixed]
 refine gD c1 ?_ rfl (by simp only [go_sem,avG])
 simp only [go_sem,hA,zT,hd]
 refine gD c2 ?_ rfl (by simp only [go_sem,avG])
 have hbb:(eqG m n == eqG m n)=true:=by simp
 simp only [go_sem,hA,hbb]
 refine gD zcW ?_ rfl rfl
 simp only [go_sem,hA,Tryz.results6]
 show chk _ _ _=true
 kernel_rfl
end
end Go.Proofs.YtpnjjmcimjlfkaaGreatDoor
