/- Texts of this proof, part 25: what the proof uses of them. -/
import Derived.Test.YtpnjjmcimjlfkaaGreatDoorDav
import Derived.Test.YtpnjjmcimjlfkaaGreatDoorDax
import Derived.Test.YtpnjjmcimjlfkaaGreatDoorDap
import Derived.Test.YtpnjjmcimjlfkaaGreatDoorDaw
import Derived.Test.YtpnjjmcimjlfkaaGreatDoorDam
import Derived.Test.YtpnjjmcimjlfkaaGreatDoorDao
import Derived.Test.YtpnjjmcimjlfkaaGreatDoorDal
import Derived.Test.YtpnjjmcimjlfkaaGreatDoorDag
set_option maxRecDepth 100000
set_option maxHeartbeats 64000000
namespace Go.Proofs.YtpnjjmcimjlfkaaGreatDoor
section
open Go Go.RowKit
theorem ztU (n:Nat) (hn:n≤1048576) (w:World):Calls Tryz.prog 242 #[.slice none 0 0,.int .i64 n] w fun e w'=>∃ v,e = .returned v∧w'.ownsRow w.heap.size 93 3 v 0 []∧Below w.heap.size w w':=by
 have hI:(Tryz.prog.info? 93).map (fun i=>(i.zero,i.size,i.bytes))=some (some (.agg #[.int .u64 0,.int .u64 0,.string ⟨#[]⟩]),3,32):=by kernel_rfl
 cases hq:Tryz.prog.info? 93 with
 | none=>rw [hq] at hI;cases hI
 | some i0=>
 rw [hq] at hI
 simp only [Option.map_some,Option.some.injEq,Prod.mk.injEq] at hI
 obtain⟨hz0,hzs,hzb⟩:=hI
 by_cases h0:n=0
 ·subst h0
  go_enter Tryz.func242,Tryz.ntmps242
  go_wp2
  go_ret
  exact⟨_,rfl,World.ownsRow_nil _ _ _ _,Below.refl _ _⟩
 have hw1:IntKind.i64.wrap (n:Int)=(n:Int):=by rw [IntKind.wrap_i64];omega
 have hge:=grownCap_ge w n 0 93
 have hle:=grownCap_le_maxLen w n 0 93 (by unfold maxLen;omega)
 obtain⟨G,hG⟩:∃ G,G=grownCap w n 0 93:=⟨_,rfl⟩
 obtain⟨ROW,hROW⟩:∃ ROW:Array Value,ROW=([]:List Value).toArray++Builtin.zeroCells (Value.cells (.agg #[.int .u64 0,.int .u64 0,.string ⟨#[]⟩])) n++Builtin.zeroCells (Value.cells (.agg #[.int .u64 0,.int .u64 0,.string ⟨#[]⟩])) (G - n):=⟨_,rfl⟩
 have hrz:∀ ty,(Builtin.append_ #[39,3] ty #[.slice none 0 0,.int .i64 (n:Int)]).run Tryz.prog w = .ok (.slice (some ⟨w.heap.size,0,none⟩) n G) (w.drew.alloc (.cells ROW 93)):=fun ty=>by
  have h:=Lib.run_append_grow_zeros w 39 3 ty 93 i0 _ .i64 .i64 Tryz.underlying39 Tryz.underlying3 hq hz0 none 0 0 [] (by simp [Builtin.firstCells]) n (by omega) (by omega) (by omega) (by omega) (by rw [hzb];omega) (by rw [hzb];exact growslice_fits (by omega) (by omega))
  rw [Nat.zero_add,← hG,← hROW] at h
  exact h
 rw [← hG] at hge hle
 have hRl:ROW.size=G * 3:=by
  rw [hROW]
  simp only [Array.size_append,List.size_toArray,size_zeroCells]
  simp [Value.cells]
  omega
 have hpos:(0:Int)<(n:Int):=by omega
 clear hROW hG
 go_enter Tryz.func242,Tryz.ntmps242
 go_wp2_with (at_builtin;refine Lib.wpList_append_run _ rfl _ _ _ _ rfl _ _ rfl rfl _ _ (hrz _) ?_)
 go_ret
 exact⟨_,rfl,⟨by simp,.inr ⟨w.heap.size,G,ROW,rfl,Nat.le_refl _,heap_alloc_new w.drew _,Nat.zero_le _,hle,hRl,by simp⟩⟩,(Below.refl _ w).drew.alloc (Nat.le_refl _) _⟩
theorem zEh (n:Nat) (hn:n≤1048576):zuK Tryz.prog 242 [.d (.raw (.slice none 0 0)),.d (.raw (.int .i64 n))] 3 93 []:=by
 refine⟨⟨_,Tryz.func242,by decide +kernel,rfl⟩,fun i hi=>by simp at hi,fun F w vs hF hG hl hv=>?_⟩
 match vs,hl with
 | [a,b],_=>
  have h0:=hv 0 (by simp) (by simp)
  have h1:=hv 1 (by simp) (by simp)
  simp only [List.getElem_cons_zero,List.getElem_cons_succ] at h0 h1
  rw [h0.raw_eq,h1.raw_eq]
  refine(ztU n hn w).mono ?_
  rintro e w' ⟨v,rfl,h2,h3⟩
  exact⟨v,[],rfl,h2,fun i hi=>by simp at hi,h3⟩
theorem zqA (ll:List (List (List D))) (q:Nat) (h:q<ll.length):(ll.map fun l=>[D.sl l]).getD q []=[.sl ll[q]]:=by simp [List.getD_eq_getElem?_getD,h]
theorem zjV (ll:List (List (List D))) (q:Nat) (h:q<ll.length):(ll.take (q+1)).flatten=(ll.take q).flatten++ll[q]:=by rw [List.take_succ_eq_append_getElem h,List.flatten_append];simp only [List.flatten_cons,List.flatten_nil,List.append_nil]
theorem zgG (ll:List (List (List D))) (q:Nat):(ll.take q).flatten.length≤ll.flatten.length:=by
 conv=>rhs;rw [← List.take_append_drop q ll]
 simp only [List.flatten_append,List.length_append];omega
abbrev zsh (ll:List (List (List D))) (q:Nat):St:=⟨[(0,.d (.sl (ll.map fun l=>[D.sl l]))),(3,.d (.raw (.int .i64 (ll.take q).flatten.length))),(9,.d (.sl (ll.map fun l=>[D.sl l]))),(10,.d (.raw (.int .i64 ll.length))),(11,.d (.raw (.int .i64 q)))],[],[]⟩
abbrev zsg (ll:List (List (List D))) (q:Nat):St:=⟨[(6,.grow 9001 (ll.take q).flatten),(25,.d (.sl (ll.map fun l=>[D.sl l]))),(26,.d (.raw (.int .i64 ll.length))),(27,.d (.raw (.int .i64 q)))],[],[(9001,some ⟨3,93,(ll.take q).flatten.length,none⟩)]⟩
theorem zzS (ll:List (List (List D))) (hll:ll.length≤1048576) (hb:ll.flatten.length≤1048576) (hf:∀ l ∈ ll,zD 3 l):Con Tryz.prog 178 [.d (.sl (ll.map fun l=>[D.sl l]))] (.d (.sl ll.flatten)):=by
 refine zh Tryz.func178 rfl (by decide +kernel) rfl rfl (by simp [Tryz.ntmps178]) fun A hA=>?_
 rw [Tryz.ntmps178] at hA
 refine goC 400 ?_
 simp only [go_sem,hA,List.length_map]
 refine zd [0,3,9,10,11] [] [] (fun y σ=>∃ q:Nat,q≤ll.length∧y=ll.length - q∧σ=zsh ll q) ll.length ⟨0,by omega,by omega,by(simp only [go_sem,zsh]) <;> rfl⟩ ?_
 rintro y σ ⟨q,hq,rfl,rfl⟩
 refine goC 400 ?_
 by_cases hlt:q<ll.length
 ·have k1:decide ((q:Int)<(ll.length:Int))=true:=decide_eq_true (by omega)
  have h1:=zgG ll q
  have h2:=zgG ll (q+1)
  have h3:=zjV ll q hlt
  have h4:(ll.take (q+1)).flatten.length=(ll.take q).flatten.length+ll[q].length:=by rw [h3,List.length_append]
  have hs:((ll.take q).flatten.length:Int)+(ll[q].length:Int)=((ll.take (q+1)).flatten.length:Int):=by omega
  have k2:decide (((ll.take (q+1)).flatten.length:Int)<(0:Int))=false:=decide_eq_false (by omega)
  simp only [go_sem,hA,zsh,List.length_map,k1,Int.toNat_natCast,zqA ll q hlt,hs,k2]
  exact⟨⟨by omega,by omega⟩,by unfold zc;omega,by unfold zc;omega,ll.length - (q+1),by omega,q+1,by omega,rfl,rfl⟩
 have k1:decide ((q:Int)<(ll.length:Int))=false:=decide_eq_false (by omega)
 obtain rfl:q=ll.length:=by omega
 simp only [go_sem,hA,zsh,k1,List.take_length]
 refine ztZ 400 (zEh ll.flatten.length hb) rfl rfl (by simp only [go_sem]) (by simp only [go_sem]) rfl (by simp only [go_sem,hA]) (by simp only [go_sem]) ?_
 simp only [go_sem,hA,List.length_map]
 refine zd [6,25,26,27] [] [9001] (fun y σ=>∃ q:Nat,q≤ll.length∧y=ll.length - q∧σ=zsg ll q) ll.length ⟨0,by omega,by omega,by(simp only [go_sem,zsg]) <;> rfl⟩ ?_
 clear hlt k1 hq
 rintro y σ ⟨q,hq,rfl,rfl⟩
 refine goC 400 ?_
 by_cases hlt:q<ll.length
 ·have k1:decide ((q:Int)<(ll.length:Int))=true:=decide_eq_true (by omega)
  have h1:=zgG ll q
  have h2:=zgG ll (q+1)
  have h3:=zjV ll q hlt
  have h4:(ll.take (q+1)).flatten.length=(ll.take q).flatten.length+ll[q].length:=by rw [h3,List.length_append]
  simp only [go_sem,hA,zsg,List.length_map,k1,Int.toNat_natCast,zqA ll q hlt]
  exact⟨⟨by omega,by omega⟩,⟨hf _ (List.getElem_mem hlt),fun r hr=>by
   obtain⟨l,hl,hr⟩:=List.mem_flatten.1 hr
   exact(hf l (List.mem_of_mem_take hl) r hr).1,by omega⟩,by unfold zc;omega,ll.length - (q+1),by omega,q+1,by omega,rfl,by rw [h3,List.length_append];rfl⟩
 have k1:decide ((q:Int)<(ll.length:Int))=false:=decide_eq_false (by omega)
 obtain rfl:q=ll.length:=by omega
 simp only [go_sem,hA,zsg,k1,List.take_length,Tryz.results178]
end
section
open Go Go.RowKit
def zEo:List UInt8→List UInt8→Bool
 | [],[]=>true
 | x :: l,y :: m=>Nat.beq x.toNat y.toNat && zEo l m
 | _,_=>false
theorem zxS:∀ {l m:List UInt8},zEo l m=true→l=m
 | [],[],_=>rfl
 | x :: l,y :: m,h=>by
  simp only [zEo,Bool.and_eq_true] at h
  rw [UInt8.toNat_inj.1 (Nat.eq_of_beq_eq_true h.1),zxS h.2]
 | [],_ :: _,h=>by cases h
 | _ :: _,[],h=>by cases h
def zFD:Value→Value→Bool
 | .string a,.string b=>zEo a.data.toList b.data.toList
 | .int k a,.int l b=>decide (k=l) && decide (a=b)
 | .bool a,.bool b=>a == b
 | .slice none 0 0,.slice none 0 0=>true
 | _,_=>false
theorem zEm {a b:Value} (h:zFD a b=true):a=b:=by
 unfold zFD at h
 split at h
 ·rename_i a b
  have:=zxS h
  obtain⟨⟨a⟩⟩:=a
  obtain⟨⟨b⟩⟩:=b
  simp only at this
  rw [this]
 ·simp only [Bool.and_eq_true,decide_eq_true_eq] at h
  rw [h.1,h.2]
 ·rw [beq_iff_eq] at h;rw [h]
 ·rfl
 ·cases h
mutual
def eqD:D→D→Bool
 | .raw a,.raw b=>zFD a b
 | .sl a,.sl b=>zzK a b
 | _,_=>false
def zzL:List D→List D→Bool
 | [],[]=>true
 | x :: l,y :: m=>eqD x y && zzL l m
 | _,_=>false
def zzK:List (List D)→List (List D)→Bool
 | [],[]=>true
 | x :: l,y :: m=>zzL x y && zzK l m
 | _,_=>false
end
mutual
theorem zCb:∀ {x y:D},eqD x y=true→x=y
 | .raw a,.raw b,h=>by
  unfold eqD at h
  rw [zEm h]
 | .sl a,.sl b,h=>by
  unfold eqD at h
  rw [zxQ h]
 | .raw _,.sl _,h=>by unfold eqD at h;cases h
 | .sl _,.raw _,h=>by unfold eqD at h;cases h
theorem zxR:∀ {x y:List D},zzL x y=true→x=y
 | [],[],_=>rfl
 | x :: l,y :: m,h=>by
  unfold zzL at h
  rw [Bool.and_eq_true] at h
  rw [zCb h.1,zxR h.2]
 | [],_ :: _,h=>by unfold zzL at h;cases h
 | _ :: _,[],h=>by unfold zzL at h;cases h
theorem zxQ:∀ {x y:List (List D)},zzK x y=true→x=y
 | [],[],_=>rfl
 | x :: l,y :: m,h=>by
  unfold zzK at h
  rw [Bool.and_eq_true] at h
  rw [zxR h.1,zxQ h.2]
 | [],_ :: _,h=>by unfold zzK at h;cases h
 | _ :: _,[],h=>by unfold zzK at h;cases h
end
mutual
def eqA:AV→AV→Bool
 | .d a,.d b=>eqD a b
 | .agg a,.agg b=>zui a b
 | .tup a,.tup b=>zui a b
 | _,_=>false
def zui:List AV→List AV→Bool
 | [],[]=>true
 | x :: l,y :: m=>eqA x y && zui l m
 | _,_=>false
end
mutual
theorem zFE:∀ {x y:AV},eqA x y=true→x=y:=by
 intro x y h
 unfold eqA at h
 split at h
 ·rw [zCb h]
 ·rw [zmt h]
 ·rw [zmt h]
 ·cases h
theorem zmt:∀ {x y:List AV},zui x y=true→x=y
 | [],[],_=>rfl
 | x :: l,y :: m,h=>by
  unfold zui at h
  rw [Bool.and_eq_true] at h
  rw [zFE h.1,zmt h.2]
 | [],_ :: _,h=>by unfold zui at h;cases h
 | _ :: _,[],h=>by unfold zui at h;cases h
end
def zxJ:List (FuncId × List AV × AV)→FuncId→List AV→Option AV
 | [],_,_=>none
 | (g,zs,r) :: t,f,ys=>if Nat.beq f g && zui ys zs then some r else zxJ t f ys
theorem ztK {P:Program}:∀ {l:List (FuncId × List AV × AV)},(∀ x ∈ l,Con P x.1 x.2.1 x.2.2)→∀ {f:FuncId} {ys:List AV} {r:AV},zxJ l f ys=some r→Con P f ys r
 | [],_,_,_,_,h=>by cases h
 | (g,zs,r') :: t,hl,f,ys,r,h=>by
  unfold zxJ at h
  split at h
  ·rename_i hc
   cases h
   rw [Bool.and_eq_true] at hc
   rw [Nat.eq_of_beq_eq_true hc.1,zmt hc.2]
   exact hl _ (List.mem_cons_self ..)
  ·exact ztK (fun x hx=>hl x (List.mem_cons_of_mem _ hx)) h
def ztg:Nat→Nat→Option (List UInt8)
 | 0,_=>none
 | k+1,n=>if Nat.blt n 128 then some [n.toUInt8] else (ztg k (n / 128)).map ((n % 128+128).toUInt8 :: ·)
theorem zrp:∀ {k n:Nat} {l:List UInt8},ztg k n=some l→l=zbl n
 | k+1,n,l,h=>by
  unfold ztg at h
  split at h
  ·rename_i hc
   cases h
   rw [zhJ (by simpa [Nat.blt_eq] using hc)]
  ·rename_i hc
   cases hr:ztg k (n / 128) with
   | none=>rw [hr] at h;cases h
   | some l'=>
    rw [hr] at h
    cases h
    rw [zhK (by simpa [Nat.blt_eq] using hc),zrp hr]
def zuf:List (List D)→Option (List (List (List D)))
 | []=>some []
 | [.sl l] :: r=>(zuf r).map (l :: ·)
 | _=>none
theorem zue:∀ {l:List (List D)} {ll:List (List (List D))},zuf l=some ll→l=ll.map fun l=>[D.sl l]
 | [],ll,h=>by cases h;rfl
 | x :: r,ll,h=>by
  unfold zuf at h
  split at h
  ·rename_i e;cases e
  ·rename_i l' r' e
   cases e
   cases hr:zuf r with
   | none=>rw [hr] at h;cases h
   | some l''=>
    rw [hr] at h
    cases h
    rw [zue hr];rfl
  ·cases h
def zFl (f:FuncId) (ys:List AV):Option AV:=
 if Nat.beq f 240 then (match ys with
  | [.d (.raw (.int .i64 (.ofNat n)))]=>if Nat.ble n 1099511627776 then (ztg 10 n).map fun l=>.tup [.d (.raw (.string ⟨l.toArray⟩)),.d (.raw (.int .i64 0))] else none
  | _=>none)
 else if Nat.beq f 241 then (match ys with
  | [.d (.raw (.string s))]=>if Nat.ble s.size 65536 then (ztg 10 s.size).map fun l=>.tup [.d (.raw (.string ⟨(l++s.data.toList).toArray⟩)),.d (.raw (.int .i64 0))] else none
  | _=>none)
 else if Nat.beq f 178 then (match ys with
  | [.d (.sl l)]=>match zuf l with
   | some ll=>if Nat.ble ll.length 1048576 && Nat.ble ll.flatten.length 1048576 && ll.all (fun l=>l.all fun r=>Nat.beq r.length 3 && r.all D.one) then some (.d (.sl ll.flatten)) else none
   | none=>none
  | _=>none)
 else none
theorem zDr:zoP Tryz.prog zFl:=by
 intro f ys r h
 unfold zFl at h
 split at h
 ·rename_i hf
  rw [Nat.eq_of_beq_eq_true hf]
  split at h
  ·rename_i n
   split at h
   ·rename_i hn
    cases hr:ztg 10 n with
    | none=>rw [hr] at h;cases h
    | some l=>
     rw [hr] at h
     cases h
     rw [zrp hr]
     exact zti n (Nat.le_of_ble_eq_true hn)
   ·cases h
  ·cases h
 split at h
 ·rename_i hf
  rw [Nat.eq_of_beq_eq_true hf]
  split at h
  ·rename_i s
   split at h
   ·rename_i hn
    cases hr:ztg 10 s.size with
    | none=>rw [hr] at h;cases h
    | some l=>
     rw [hr] at h
     cases h
     rw [zrp hr]
     exact zpJ s (Nat.le_of_ble_eq_true hn)
   ·cases h
  ·cases h
 split at h
 ·rename_i hf
  rw [Nat.eq_of_beq_eq_true hf]
  split at h
  ·rename_i l
   split at h
   ·rename_i ll hl
    split at h
    ·rename_i hc
     cases h
     simp only [Bool.and_eq_true,List.all_eq_true] at hc
     obtain⟨⟨h1,h2⟩,h3⟩:=hc
     rw [zue hl]
     refine zzS ll (Nat.le_of_ble_eq_true h1) (Nat.le_of_ble_eq_true h2) fun l hl r hr=>?_
     obtain⟨h4,h5⟩:=h3 l hl r hr
     exact⟨Nat.eq_of_beq_eq_true h4,h5⟩
    ·cases h
   ·cases h
  ·cases h
 ·cases h
def zpW:Mg:=⟨[],[],[⟨⟨#[110,111,116,101,115]⟩,true,true,true,⟨#[49]⟩,⟨#[50]⟩,⟨#[51]⟩⟩]⟩
def zBo:Mg:=⟨[],[⟨⟨#[110,111,116,101,115]⟩,⟨#[51]⟩⟩],[]⟩
theorem znN:zpW.Good:=⟨⟨by decide,by decide,(fun _ h=>by cases h),(fun _ h=>by cases h),(fun x h=>by
 rw [List.mem_singleton.1 (show x ∈ [_] from h)]
 exact⟨by decide,by decide,by decide,by decide⟩)⟩,by decide,(fun _ h=>by cases h)⟩
theorem zwf:zBo.Good:=⟨⟨by decide,by decide,(fun _ h=>by cases h),(fun x h=>by
 rw [List.mem_singleton.1 (show x ∈ [_] from h)]
 exact⟨by decide,by decide⟩),(fun _ h=>by cases h)⟩,by decide,(fun _ h=>by cases h)⟩
def zvB:List (FuncId × List AV × AV):=[(9,[avG zpW],.d (.raw (.int .i64 (zw zpW)))),(9,[avG zBo],.d (.raw (.int .i64 (zw zBo)))),(14,[avG zpW,.d (.raw (.int .i64 0)),.d (.raw (.int .i64 2))],.tup [avG (zaT zpW 0 2).1,.d (.raw (.int .i64 (zaT zpW 0 2).2))])]
theorem zyH:∀ x ∈ zvB,Con Tryz.prog x.1 x.2.1 x.2.2:=by
 intro x hx
 simp only [zvB,List.mem_cons,List.not_mem_nil,or_false] at hx
 rcases hx with rfl | rfl | rfl
 ·exact zgW _ znN.fine
 ·exact zgW _ zwf.fine
 ·exact zux _ znN 0 2
def zEX (f:FuncId) (ys:List AV):Option AV:=match zxJ zvB f ys with
 | some r=>some r
 | none=>zFl f ys
theorem zAs:zoP Tryz.prog zEX:=by
 intro f ys r h
 unfold zEX at h
 split at h
 ·rename_i r' h1;cases h;exact ztK zyH h1
 ·exact zDr _ _ _ h
end
section
open Go Go.RowKit
theorem zqF:Con Tryz.prog 8 [] (.d (.raw (.bool true))):=
 zEs 20000 (by kernel_rfl) zAs zFm (zFn) (by kernel_rfl)
end
section
open Go Go.RowKit
def zeQ (l:List ByteArray):Int:=if 20<l.length then 4 else zj (zia l) l.length
abbrev zDD (l:List ByteArray) (q:Nat):St:=⟨[(0,.d (.sl (zv l))),(3,.d (.raw (.int .i64 q)))],[],[]⟩
theorem zDL (l:List ByteArray):Con Tryz.prog 83 [.d (.sl (zv l))] (.d (.raw (.int .i64 (zeQ l)))):=by
 refine zh Tryz.func83 rfl (by decide +kernel) rfl rfl (by simp [Tryz.ntmps83]) fun A hA=>?_
 rw [Tryz.ntmps83] at hA
 refine goC 400 ?_
 by_cases h1:20<l.length
 ·have g1:decide ((20:Int)<(l.length:Int))=true:=decide_eq_true (by omega)
  have he:zeQ l=4:=if_pos h1
  simp only [go_sem,hA,za,g1,he,Tryz.results83]
 have g1:decide ((20:Int)<(l.length:Int))=false:=decide_eq_false (by omega)
 have hs0:zeQ l=zj (zia l) l.length:=if_neg h1
 simp only [go_sem,hA,za,g1]
 refine zd [0,3] [] [] (fun y σ=>∃ q:Nat,q≤l.length∧y=l.length - q∧zj (zia l) q=0∧σ=zDD l q) l.length ⟨0,by omega,by omega,rfl,by simp only [go_sem,zDD]⟩ ?_
 rintro y σ ⟨q,hq,rfl,hf,rfl⟩
 refine goC 400 ?_
 by_cases hlt:q<l.length
 ·have k1:decide ((q:Int)<(l.length:Int))=true:=decide_eq_true (by omega)
  have hc:=zhb l[q]
  have hat:=zhX l q hlt
  have hhit:∀ e:Int,¬ e=0→zia l q=e→zeQ l=e:=fun e h0 h=>by
   have h2:=zx (n:=l.length) hf hlt (by rw [h];exact h0)
   rw [hs0,h2,h]
  simp only [go_sem,hA,zDD,za,k1,Int.toNat_natCast,zF l q hlt]
  refine⟨⟨by omega,by omega⟩,?_⟩
  refine zb 300 hc rfl (by simp only [go_sem]) (by simp only [go_sem,hA]) ?_
  cases hl:zX l[q].data.toList with
  | false=>
   have hr:=hhit 6 (by decide) (by unfold zia;rw [hat,hl];rfl)
   simp only [go_sem,hA,hr,Tryz.results83]
  | true=>
   have hu:zia l q=if 0<q∧ltS (atB l (q - 1)) (atB l q)=false then 10 else 0:=by unfold zia;rw [hat,hl];rfl
   by_cases hq0:0<q
   ·have k2:decide ((0:Int)<(q:Int))=true:=decide_eq_true (by omega)
    have hq1:((q:Int) - 1).toNat=q - 1:=by omega
    have hat1:=zhX l (q - 1) (by omega)
    have hin:zc ((q:Int) - 1):=by unfold zc;omega
    have hw:IntKind.i64.wrap ((q:Int) - 1)=(q:Int) - 1:=zfW hin
    cases hls:ltS l[q - 1] l[q] with
    | false=>
     have hls':Op.bytesLess l[q - 1].data.toList l[q].data.toList=false:=hls
     have hr:=hhit 10 (by decide) (by rw [hu,hat,hat1,if_pos ⟨hq0,hls⟩])
     simp only [go_sem,hA,k2,za,hq1,Int.toNat_natCast,zF l q hlt,zF l (q - 1) (by omega),hls',hr,mixed,Tryz.results83]
     exact⟨hin,⟨by omega,by omega⟩,⟨by omega,by omega⟩,by show chk _ _ _=true;kernel_rfl⟩
    | true=>
     have hls':Op.bytesLess l[q - 1].data.toList l[q].data.toList=true:=hls
     have hz:=zp hf (by rw [hu,hat,hat1,hls,if_neg (by simp)])
     simp only [go_sem,hA,k2,za,hq1,Int.toNat_natCast,zF l q hlt,zF l (q - 1) (by omega),hls',mixed]
     exact⟨hin,⟨by omega,by omega⟩,⟨by omega,by omega⟩,⟨by show chk _ _ _=true;kernel_rfl,by unfold zc;omega,l.length - (q+1),by omega,q+1,by omega,rfl,hz,rfl⟩⟩
   ·have k2:decide ((0:Int)<(q:Int))=false:=decide_eq_false (by omega)
    have hz:=zp hf (by rw [hu,if_neg (fun h=>hq0 h.1)])
    simp only [go_sem,hA,k2,undef,mixed]
    exact⟨by show chk _ _ _=true;kernel_rfl,by unfold zc;omega,l.length - (q+1),by omega,q+1,by omega,rfl,hz,rfl⟩
 have k1:decide ((q:Int)<(l.length:Int))=false:=decide_eq_false (by omega)
 obtain rfl:q=l.length:=by omega
 rw [hf] at hs0
 simp only [go_sem,hA,zDD,za,k1,hs0,Tryz.results83]
theorem zyz (e:Dc→Int) (x:Sr):zfY e x=if ¬ zeQ x.uses=0 then zeQ x.uses else if 100<x.decls.length then 4 else zj (zlG e x.decls) x.decls.length:=by
 unfold zfY zeQ
 by_cases h:20<x.uses.length
 ·rw [if_pos h,if_pos h,if_pos (by decide)]
 ·rw [if_neg h,if_neg h]
end
section
open Go Go.RowKit
mutual
theorem zod (k:Int):∀ t:Ex,zbd k t=zcZ (fun x=>decide (x.kind=k)) t
 | .mk k' n m i d s=>by rw [zbd,zcZ,zoc k s];rfl
theorem zoc (k:Int):∀ l:List Ex,zbM k l=zdJ (fun x=>decide (x.kind=k)) l
 | []=>rfl
 | e :: es=>by rw [zbM,zdJ,zod k e,zoc k es]
end
def zDJ (label:ByteArray) (d:Dc):Int:=
 if d.id<1 then 2 else if ¬ zaE d=0 then zaE d else if zbd 4 d.body then 9 else if 0<(zir d.body).length then 21 else if zcZ (zck label) d.body then 1 else 0
theorem zDI (label:ByteArray) (d:Dc):zDJ label d=zbj label d:=by
 unfold zDJ zbj zaE zaf
 rw [zod,zyA]
 by_cases h0:d.id<1
 ·rw [if_pos h0,if_pos (.inl h0)]
 rw [if_neg h0]
 by_cases h1:999999<d.id
 ·rw [if_pos (show d.id<0∨999999<d.id from .inr h1),if_pos (show d.id<1∨999999<d.id from .inr h1),if_pos (show ¬ (2:Int)=0 by decide)]
 rw [if_neg (show ¬ (d.id<0∨999999<d.id) by omega),if_neg (show ¬ (d.id<1∨999999<d.id) by omega)]
 by_cases h2:d.kind<1∨3<d.kind
 ·rw [if_pos h2,if_pos (show ¬ d.kind=1∧¬ d.kind=2∧¬ d.kind=3 by omega),if_pos (show ¬ (9:Int)=0 by decide)]
 rw [if_neg h2,if_neg (show ¬ (¬ d.kind=1∧¬ d.kind=2∧¬ d.kind=3) by omega)]
 by_cases h3:¬ d.names.length=1∧¬ d.names.length=3
 ·rw [if_pos h3,if_pos h3,if_pos (show ¬ (1:Int)=0 by decide),if_pos (show ¬ (1:Int)=0 by decide)]
 rw [if_neg h3,if_neg h3]
 by_cases h4:d.names.any (zM d.names)=true
 ·rw [if_pos h4,if_pos h4,if_pos (show ¬ (6:Int)=0 by decide),if_pos (show ¬ (6:Int)=0 by decide)]
 rw [if_neg h4,if_neg h4,if_neg (show ¬ ¬ (0:Int)=0 by decide)]
theorem zvn (e:Dc→Int) (l:List ByteArray):zfY e ⟨l,[]⟩=zeQ l:=by
 rw [zyz]
 split
 ·rfl
 ·rename_i h
  rw [if_neg (by simp)]
  exact(Decidable.not_not.1 h).symm
end
section
open Go Go.RowKit
theorem zxX:∀ a b:List UInt8,Lib.compareBytes a b<0 ↔ a<b
 | [],[]=>by simp [Lib.compareBytes]
 | [],_ :: _=>by simp [Lib.compareBytes]
 | _ :: _,[]=>by simp [Lib.compareBytes]
 | x :: a,y :: b=>by
  rw [Lib.compareBytes,List.cons_lt_cons_iff]
  split
  ·rename_i h;simp [h]
  ·rename_i h
   split
   ·rename_i h2
    have:x≠y:=fun e=>by subst e;exact h h2
    simp [h,this]
   ·rename_i h2
    have e:x=y:=UInt8.le_antisymm (UInt8.not_lt.1 h2) (UInt8.not_lt.1 h)
    rw [zxX a b]
    simp [e,UInt8.lt_irrefl]
theorem zxY:∀ a b:List UInt8,Lib.compareBytes a b=0 ↔ a=b
 | [],[]=>by simp [Lib.compareBytes]
 | [],_ :: _=>by simp [Lib.compareBytes]
 | _ :: _,[]=>by simp [Lib.compareBytes]
 | x :: a,y :: b=>by
  rw [Lib.compareBytes]
  split
  ·rename_i h
   have:x≠y:=fun e=>by subst e;exact UInt8.lt_irrefl _ h
   simp [this]
  ·rename_i h
   split
   ·rename_i h2
    have:x≠y:=fun e=>by subst e;exact h h2
    simp [this]
   ·rename_i h2
    have e:x=y:=UInt8.le_antisymm (UInt8.not_lt.1 h2) (UInt8.not_lt.1 h)
    rw [zxY a b]
    simp [e]
theorem zEw (a b:ByteArray):zsd a b<0 ↔ ltL a b:=zxX _ _
theorem zxW (a b:ByteArray):zsd a b=0 ↔ a=b:=(zxY _ _).trans ⟨zCV,fun h=>by rw [h]⟩
theorem zhP {a b:ByteArray} (h:leS a b=false):ltL b a:=by
 unfold leS at h
 simp only [Bool.or_eq_false_iff,decide_eq_false_iff_not] at h
 refine znX (fun h1=>?_) h.2
 rw [(zfn _ _).2 h1] at h
 exact absurd h.1 (by simp)
def Sk {α:Type} (f:α→ByteArray) (l:List α):Prop:=l.Pairwise fun x y=>ltL (f x) (f y)
theorem zvp {α:Type} {f:α→ByteArray} {l:List α} (h:∀ q (h:q+1<l.length),ltL (f l[q]) (f l[q+1])):Sk f l:=by
 refine List.pairwise_iff_getElem.2 fun i j hi hj hij=>?_
 induction j with
 | zero=>omega
 | succ j ih=>
  by_cases e:i=j
  ·subst e;exact h i hj
  ·exact zeo (ih (by omega) (by omega)) (h j hj)
theorem zqT {α:Type} {f:α→ByteArray}:∀ {l m:List α},Sk f l→Sk f m→(∀ x,x ∈ l ↔ x ∈ m)→l=m
 | [],[],_,_,_=>rfl
 | [],y :: m,_,_,h=>by have:=(h y).2 (List.mem_cons_self ..);cases this
 | x :: l,[],_,_,h=>by have:=(h x).1 (List.mem_cons_self ..);cases this
 | x :: l,y :: m,hl,hm,h=>by
  obtain⟨h1,h2⟩:=List.pairwise_cons.1 hl
  obtain⟨h3,h4⟩:=List.pairwise_cons.1 hm
  have e:x=y:=by
   rcases List.mem_cons.1 ((h x).1 (List.mem_cons_self ..)) with e | hx
   ·exact e
   rcases List.mem_cons.1 ((h y).2 (List.mem_cons_self ..)) with e | hy
   ·exact e.symm
   exact absurd (zeo (h1 y hy) (h3 x hx)) (zai _)
  subst e
  rw [zqT h2 h4 fun z=>?_]
  constructor
  ·intro hz
   rcases List.mem_cons.1 ((h z).1 (List.mem_cons_of_mem _ hz)) with e | hz'
   ·subst e;exact absurd (h1 z hz) (zai _)
   ·exact hz'
  ·intro hz
   rcases List.mem_cons.1 ((h z).2 (List.mem_cons_of_mem _ hz)) with e | hz'
   ·subst e;exact absurd (h3 z hz) (zai _)
   ·exact hz'
theorem zqS {α:Type} {f:α→ByteArray} {l:List α} (h:Sk f l) {x y:α} (hx:x ∈ l) (hy:y ∈ l) (e:f x=f y):x=y:=by
 obtain⟨i,hi,rfl⟩:=List.mem_iff_getElem.1 hx
 obtain⟨j,hj,rfl⟩:=List.mem_iff_getElem.1 hy
 have hp:=List.pairwise_iff_getElem.1 h
 rcases Nat.lt_trichotomy i j with h1 | h1 | h1
 ·exact absurd (e ▸ hp i j hi hj h1) (zai _)
 ·subst h1;rfl
 ·exact absurd (e ▸ hp j i hj hi h1) (zai _)
def rmL {α:Type} (l:List α) (a:Nat):List α:=l.take a++l.drop (a+1)
theorem zsU {α:Type} (l:List α) (a:Nat) (h:a<l.length):l=l.take a++l[a] :: l.drop (a+1):=by
 rw [← List.drop_eq_getElem_cons h,List.take_append_drop]
theorem zAE {α:Type} (l:List α) (a:Nat):(rmL l a).Sublist l:=by
 unfold rmL
 conv=>rhs;rw [← List.take_append_drop a l]
 have e:l.drop (a+1)=(l.drop a).drop 1:=by rw [List.drop_drop]
 rw [e]
 exact List.Sublist.append (List.Sublist.refl _) (List.drop_sublist _ _)
theorem zEZ {α:Type} {f:α→ByteArray} {l:List α} (h:Sk f l) (a:Nat):Sk f (rmL l a):=List.Pairwise.sublist (zAE l a) h
theorem zFp {α:Type} {f:α→ByteArray} {l:List α} (h:Sk f l) (a:Nat) (ha:a<l.length) (y:α):y ∈ rmL l a ↔ y ∈ l∧f y≠f l[a]:=by
 have hs:=zsU l a ha
 constructor
 ·intro hy
  refine⟨(zAE l a).subset hy,fun e=>?_⟩
  have h1:=h
  unfold Sk at h1
  rw [hs] at h1
  obtain⟨_,h3,h4⟩:=List.pairwise_append.1 h1
  rcases List.mem_append.1 hy with h5 | h5
  ·exact absurd (e ▸ h4 y h5 l[a] (List.mem_cons_self ..)) (zai _)
  ·exact absurd (e ▸ (List.pairwise_cons.1 h3).1 y h5) (zai _)
 ·rintro⟨hy,hne⟩
  rw [hs] at hy
  rcases List.mem_append.1 hy with h5 | h5
  ·exact List.mem_append_left _ h5
  ·rcases List.mem_cons.1 h5 with e | h6
   ·exact absurd (by rw [e]) hne
   ·exact List.mem_append_right _ h6
theorem zoF (lt:Nat→Bool) (n:Nat) (hm:∀ i j,i≤j→j<n→lt j=true→lt i=true):∀ k i j,i≤j→j≤n→j - i≤k→(∀ q,q<i→lt q=true)→(∀ q,j≤q→q<n→lt q=false) →
  (∀ q,q<bsR lt k i j→lt q=true)∧∀ q,bsR lt k i j≤q→q<n→lt q=false
 | 0,i,j,h1,h2,h3,h4,h5=>by
  have:i=j:=by omega
  subst this
  exact⟨h4,h5⟩
 | k+1,i,j,h1,h2,h3,h4,h5=>by
  rw [bsR]
  split
  ·rename_i hij
   split
   ·rename_i hl
    exact zoF lt n hm k _ j (by omega) h2 (by omega) (fun q hq=>hm q _ (by omega) (by omega) hl) h5
   ·rename_i hl
    refine zoF lt n hm k i _ (by omega) (by omega) (by omega) h4 fun q hq hqn=>?_
    cases hh:lt q with
    | false=>rfl
    | true=>exact absurd (hm _ q hq hqn hh) hl
  ·rename_i hij
   have:i=j:=by omega
   subst this
   exact⟨h4,h5⟩
theorem zgi {l:List Fl} (h:Sk Fl.path l) (s:ByteArray) (q:Nat) (hq:q<l.length):q<zbu l s ↔ ltL l[q].path s:=by
 have hlt:∀ i (hi:i<l.length),(zgz l s i=true ↔ ltL l[i].path s):=fun i hi=>by
  unfold zgz
  rw [List.getElem?_eq_getElem hi]
  simp only [decide_eq_true_eq]
  exact zEw _ _
 obtain⟨h1,h2⟩:=zoF (zgz l s) l.length (fun i j hij hj hh=>by
  rcases Nat.lt_or_ge i j with h1 | h1
  ·exact(hlt i (by omega)).2 (zeo (List.pairwise_iff_getElem.1 h i j (by omega) hj h1) ((hlt j hj).1 hh))
  ·have:i=j:=by omega
   subst this;exact hh) l.length 0 l.length (Nat.zero_le _) (Nat.le_refl _) (Nat.le_refl _) (fun q hq=>by omega) (fun q hq hqn=>by omega)
 constructor
 ·intro hp;exact(hlt q hq).1 (h1 q hp)
 ·intro hp
  rcases Nat.lt_or_ge q (zbu l s) with h3 | h3
  ·exact h3
  ·have:=h2 q h3 hq
   rw [(hlt q hq).2 hp] at this
   cases this
theorem zhk {l:List Fl} (h:Sk Fl.path l) (s:ByteArray):zdF l s=true ↔ ∃ x ∈ l,x.path=s:=by
 constructor
 ·intro hh
  unfold zdF at hh
  split at hh
  ·rename_i x hx
   exact⟨x,List.mem_of_getElem? hx,(zxW _ _).1 (by simpa using hh)⟩
  ·cases hh
 ·rintro⟨x,hx,rfl⟩
  obtain⟨i,hi,rfl⟩:=List.mem_iff_getElem.1 hx
  have e:zbu l l[i].path=i:=by
   have h1:¬ i<zbu l l[i].path:=fun h2=>zai _ ((zgi h _ i hi).1 h2)
   rcases Nat.lt_or_ge (zbu l l[i].path) i with h2 | h2
   ·exact absurd ((zgi h _ (zbu l l[i].path) (by omega)).2 (List.pairwise_iff_getElem.1 h _ i (by omega) hi h2)) (Nat.lt_irrefl _)
   ·omega
  unfold zdF
  rw [e,List.getElem?_eq_getElem hi]
  simp only [decide_eq_true_eq]
  exact(zxW _ _).2 rfl
theorem zxM {l:List Fl} {i:Nat} {x y:Fl}:y ∈ zeF l i x ↔ y ∈ l∨y=x:=by
 constructor
 ·exact zql
 ·unfold zeF
  rintro (h | h)
  ·rw [← List.take_append_drop i l] at h
   rcases List.mem_append.1 h with h | h
   ·exact List.mem_append_left _ h
   ·exact List.mem_append_right _ (List.mem_cons_of_mem _ h)
  ·exact List.mem_append_right _ (h ▸ List.mem_cons_self ..)
theorem zBC {l:List Fl} (h:Sk Fl.path l) (x:Fl) (hn:zdF l x.path=false):Sk Fl.path (zeF l (zbu l x.path) x):=by
 have hne:∀ y ∈ l,y.path≠x.path:=fun y hy e=>by rw [(zhk h _).2 ⟨y,hy,e⟩] at hn;cases hn
 unfold zeF Sk
 refine List.pairwise_append.2 ⟨h.sublist (List.take_sublist _ _),List.pairwise_cons.2 ⟨fun y hy=>?_,h.sublist (List.drop_sublist _ _)⟩,fun y hy z hz=>?_⟩
 ·obtain⟨j,hj,rfl⟩:=List.mem_iff_getElem.1 hy
  rw [List.length_drop] at hj
  rw [List.getElem_drop]
  have h1:¬ ltL l[zbu l x.path+j].path x.path:=fun h2=>by have:=(zgi h x.path _ (by omega)).2 h2;omega
  exact znX h1 (hne _ (List.getElem_mem _))
 ·obtain⟨j,hj,rfl⟩:=List.mem_iff_getElem.1 hy
  rw [List.length_take] at hj
  have h1:ltL (l.take (zbu l x.path))[j].path x.path:=by
   rw [List.getElem_take]
   exact(zgi h x.path j (by omega)).1 (by omega)
  rcases List.mem_cons.1 hz with rfl | hz
  ·exact h1
  ·obtain⟨k,hk,rfl⟩:=List.mem_iff_getElem.1 hz
   rw [List.length_drop] at hk
   rw [List.getElem_drop,List.getElem_take]
   exact List.pairwise_iff_getElem.1 h j _ (by omega) (by omega) (by omega)
theorem zqN {l:List Fl} (h:zch l=0):Sk Fl.path l:=by
 unfold zch at h
 split at h
 ·cases h
 split at h
 ·exact absurd h (by assumption)
 rename_i h1
 have h2:=zbH (Decidable.not_not.1 h1)
 refine zvp fun q hq=>?_
 have h3:=h2 (q+1) hq
 unfold zcC at h3
 split at h3
 ·split at h3
  ·cases h3
  ·rename_i h4
   rw [Nat.add_sub_cancel,zeZ l _ hq,zeZ l q (by omega)] at h4
   refine zhP ?_
   cases hl:leS l[q+1].path l[q].path with
   | false=>rfl
   | true=>exact absurd ⟨Nat.succ_pos q,hl⟩ h4
 ·cases h3
theorem zfZ {m:Mg} (h:zw m=0):zj (zgS m.ms) m.ms.length=0∧zch m.fs=0∧m.fs.any (fun x=>zdV x.path)=false∧m.ts.length≤200∧zj (zig m.fs m.ts) m.ts.length=0:=by
 unfold zw at h
 split at h
 ·exact absurd h (by assumption)
 rename_i h1
 split at h
 ·exact absurd h (by assumption)
 rename_i h2
 split at h
 ·cases h
 rename_i h3
 split at h
 ·cases h
 rename_i h4
 exact⟨Decidable.not_not.1 h1,Decidable.not_not.1 h2,by simpa using h3,by omega,h⟩
theorem zxC {m:Mg} (h:zw m=0):Sk Mo.label m.ms:=by
 have h1:=zbH (zfZ h).1
 refine zvp fun q hq=>?_
 have h3:=h1 (q+1) hq
 unfold zgS at h3
 split at h3
 ·exact absurd h3 (by assumption)
 split at h3
 ·cases h3
 rename_i h4
 rw [Nat.add_sub_cancel,zbR m.ms _ hq,zbR m.ms q (by omega)] at h4
 refine zhP ?_
 cases hl:leS m.ms[q+1].label m.ms[q].label with
 | false=>rfl
 | true=>exact absurd ⟨Nat.succ_pos q,hl⟩ h4
theorem zsu {m:Mg} (h:zw m=0) (q:Nat) (hq:q<m.ts.length):zdS m.ts[q]=0∧zdF m.fs m.ts[q].path=false∧(0<q→leS m.ts[q].path (atC m.ts (q - 1)).path=false):=by
 have h3:=zbH (zfZ h).2.2.2.2 q hq
 unfold zig at h3
 rw [zcY m.ts q hq] at h3
 split at h3
 ·exact absurd h3 (by assumption)
 rename_i h4
 split at h3
 ·cases h3
 rename_i h5
 split at h3
 ·cases h3
 rename_i h6
 refine⟨Decidable.not_not.1 h4,by simpa using h6,fun h0=>?_⟩
 cases hl:leS m.ts[q].path (atC m.ts (q - 1)).path with
 | false=>rfl
 | true=>exact absurd ⟨h0,hl⟩ h5
theorem zjb {m:Mg} (h:zw m=0):Sk Tc.path m.ts:=by
 refine zvp fun q hq=>?_
 have:=(zsu h (q+1) hq).2.2 (Nat.succ_pos q)
 rw [Nat.add_sub_cancel,zcY m.ts q (by omega)] at this
 exact zhP this
end
section
open Go Go.RowKit
def zDx (m:Mg) (s:Sq) (k:Nat):Mg × Int:=
 if ¬ (zaL m s k).2=0 then (zbz,(zaL m s k).2) else if ¬ zw (zaL m s k).1=0 then (zbz,zw (zaL m s k).1) else ((zaL m s k).1,0)
theorem zdi {m:Mg} {q:Sq}:q ∈ zK m ↔ (∃ x ∈ m.ms,q ∈ zbQ x)∨∃ c ∈ m.ts,(⟨c.path,5,0,0⟩:Sq)=q:=by
 unfold zK
 rw [List.mem_append,List.mem_flatMap,List.mem_map]
theorem zhW {x:Mo} {q:Sq} (h:q ∈ zbQ x):q.label=x.label∧¬ q.kind=5:=by
 unfold zbQ at h
 split at h
 ·obtain⟨d,_,h1,_,h2⟩:=zfP h
  exact⟨h1,by omega⟩
 ·cases h
theorem zqO {m:Mg} (h0:zw m=0) {c:Tc} (hc:c ∈ m.ts):m.ts.findIdx (zaD c.path)<m.ts.length∧atC m.ts (m.ts.findIdx (zaD c.path))=c:=by
 obtain⟨h1,h2⟩:=zlC (m:=m) (path:=c.path) (List.any_eq_true.2 ⟨c,hc,by simp [zaD]⟩)
 exact⟨h1,zqS (zjb h0) (zyg _ _ h1) hc h2⟩
def zhi (fs:List Fl) (c:Tc) (k:Nat):List Fl:=if zfp c k=true then zeF fs (zbu fs c.path) ⟨c.path,zal c k⟩ else fs
theorem zcq {m:Mg} (h0:zw m=0) {c:Tc} (hc:c ∈ m.ts) (k:Nat):zaL m ⟨c.path,5,0,0⟩ k=(⟨m.ms,zhi m.fs c k,rmL m.ts (m.ts.findIdx (zaD c.path))⟩,0):=by
 obtain⟨h1,h2⟩:=zqO h0 hc
 unfold zaL zis zhi rmL
 rw [if_pos rfl]
 simp only [h2]
theorem zeU {m:Mg} (h0:zw m=0) {c:Tc} (hc:c ∈ m.ts) (y:Tc):y ∈ rmL m.ts (m.ts.findIdx (zaD c.path)) ↔ y ∈ m.ts∧y.path≠c.path:=by
 obtain⟨h1,h2⟩:=zqO h0 hc
 rw [zFp (zjb h0) _ h1,← zcY m.ts _ h1,h2]
theorem zoh {fs:List Fl} {c:Tc} {k:Nat} {y:Fl}:y ∈ zhi fs c k ↔ y ∈ fs∨(zfp c k=true∧y=⟨c.path,zal c k⟩):=by
 unfold zhi
 split
 ·rename_i h;rw [zxM];simp [h]
 ·rename_i h;simp [h]
theorem zjH {fs:List Fl} (h:Sk Fl.path fs) (c:Tc) (k:Nat) (hn:zdF fs c.path=false):Sk Fl.path (zhi fs c k):=by
 unfold zhi
 split
 ·exact zBC h ⟨c.path,zal c k⟩ hn
 ·exact h
theorem zke {m:Mg} (h0:zw m=0) {c:Tc} (hc:c ∈ m.ts):zdF m.fs c.path=false:=by
 obtain⟨i,hi,rfl⟩:=List.mem_iff_getElem.1 hc
 exact(zsu h0 i hi).2.1
theorem zqm {fs:List Fl} (h:Sk Fl.path fs) (c:Tc) (k:Nat) (hn:zdF fs c.path=false) {p:ByteArray} (hp:zdF fs p=false) (hne:p≠c.path):zdF (zhi fs c k) p=false:=by
 cases hh:zdF (zhi fs c k) p with
 | false=>rfl
 | true=>
  obtain⟨x,hx,rfl⟩:=(zhk (zjH h c k hn) p).1 hh
  rcases zoh.1 hx with h1 | ⟨_,h1⟩
  ·rw [(zhk h _).2 ⟨x,h1,rfl⟩] at hp;cases hp
  ·rw [h1] at hne;exact absurd rfl hne
theorem zzA {fs:List Fl} (h:Sk Fl.path fs) (c d:Tc) (j k:Nat) (hc:zdF fs c.path=false) (hd:zdF fs d.path=false) (hne:c.path≠d.path):zhi (zhi fs c j) d k=zhi (zhi fs d k) c j:=by
 refine zqT (zjH (zjH h c j hc) d k (zqm h c j hc hd hne.symm)) (zjH (zjH h d k hd) c j (zqm h d k hd hc hne)) fun x=>?_
 simp only [zoh]
 constructor
 ·rintro ((h1 | h1) | h1)
  ·exact .inl (.inl h1)
  ·exact .inr h1
  ·exact .inl (.inr h1)
 ·rintro ((h1 | h1) | h1)
  ·exact .inl (.inl h1)
  ·exact .inr h1
  ·exact .inl (.inr h1)
theorem zrI {m:Mg} (h0:zw m=0) {x:Mo} (hx:x ∈ m.ms):m.ms.findIdx (zbD x.label)<m.ms.length∧atM m.ms (m.ms.findIdx (zbD x.label))=x:=by
 obtain⟨h1,h2⟩:=zqj (m:=m) (label:=x.label) (List.any_eq_true.2 ⟨x,hx,by simp [zbD]⟩)
 exact⟨h1,zqS (zxC h0) (zsl _ _ h1) hx h2⟩
theorem zcP {m:Mg} (h0:zw m=0) {x:Mo} (hx:x ∈ m.ms) {s:Sq} (hs:s ∈ zbQ x) (k:Nat):zaL m s k=if (zcI x s k).2=0 then (zlp m (m.ms.findIdx (zbD x.label)) (zcI x s k).1,0) else (zbz,(zcI x s k).2):=by
 obtain⟨h1,h2⟩:=zrI h0 hx
 obtain⟨h3,h4⟩:=zhW hs
 unfold zaL
 rw [if_neg h4,h3,h2]
theorem zqa {x:Mo} {s:Sq} {k:Nat} (h:(zcI x s k).2=0):(zcI x s k).1.label=x.label:=by
 unfold zcI at h ⊢
 split
 ·rename_i h1;rw [if_pos h1] at h;exact absurd h h1
 rename_i h1;rw [if_neg h1] at h
 split
 ·rename_i h2;rw [if_pos h2] at h;exact absurd h (by simp)
 rename_i h2;rw [if_neg h2] at h
 split
 ·rename_i h3;rw [if_pos h3] at h;exact absurd h (by simp)
 rename_i h3;rw [if_neg h3] at h
 split
 ·rename_i h4;rw [if_pos h4] at h;exact absurd h h4
 ·rfl
theorem zsL {l:List Mo} {a:Nat} (ha:a<l.length) {x:Mo} (hx:x.label=l[a].label) (p:ByteArray):(l.set a x).findIdx (zbD p)=l.findIdx (zbD p):=by
 have h1:∀ l:List Mo,l.findIdx (zbD p)=(l.map Mo.label).findIdx fun s=>decide (s=p):=fun l=>by rw [List.findIdx_map];rfl
 rw [h1,h1,List.map_set,hx]
 congr 1
 have:=List.set_getElem_self (show a<(l.map Mo.label).length by simpa using ha)
 simpa using this
theorem zes {m:Mg} {s:Sq} (hs:s ∈ zK m):(∃ c ∈ m.ts,s=⟨c.path,5,0,0⟩)∨∃ x ∈ m.ms,s ∈ zbQ x:=by
 rcases zdi.1 hs with h | ⟨c,hc,h⟩
 ·exact .inr h
 ·exact .inl ⟨c,hc,h.symm⟩
structure Apart (m:Mg) (s t:Sq) (j k:Nat) (a b:Mg):Prop where
 left:t ∈ zK a
 right:s ∈ zK b
 same:zaL a t k=zaL b s j
theorem Apart.symm {m:Mg} {s t:Sq} {j k:Nat} {a b:Mg} (h:Apart m s t j k a b):Apart m t s k j b a:=⟨h.right,h.left,h.same.symm⟩
theorem zCY {m a b:Mg} (h0:zw m=0) {c d:Tc} (hc:c ∈ m.ts) (hd:d ∈ m.ts) (hne:c.path≠d.path) {j k:Nat} (ha:zaL m ⟨c.path,5,0,0⟩ j=(a,0)) (hb:zaL m ⟨d.path,5,0,0⟩ k=(b,0)) (h1:zw a=0) (h2:zw b=0):Apart m ⟨c.path,5,0,0⟩ ⟨d.path,5,0,0⟩ j k a b:=by
 rw [zcq h0 hc] at ha
 rw [zcq h0 hd] at hb
 injection ha with ha _
 injection hb with hb _
 have hda:d ∈ a.ts:=by rw [← ha];exact(zeU h0 hc d).2 ⟨hd,hne.symm⟩
 have hcb:c ∈ b.ts:=by rw [← hb];exact(zeU h0 hd c).2 ⟨hc,hne⟩
 refine⟨zdi.2 (.inr ⟨d,hda,rfl⟩),zdi.2 (.inr ⟨c,hcb,rfl⟩),?_⟩
 rw [zcq h1 hda,zcq h2 hcb]
 have e1:a.ms=b.ms:=by rw [← ha,← hb]
 have e2:zhi a.fs d k=zhi b.fs c j:=by
  rw [← ha,← hb]
  exact zzA (zqN (zfZ h0).2.1) c d j k (zke h0 hc) (zke h0 hd) hne
 have e3:rmL a.ts (a.ts.findIdx (zaD d.path))=rmL b.ts (b.ts.findIdx (zaD c.path)):=by
  refine zqT (zEZ (zjb h1) _) (zEZ (zjb h2) _) fun y=>?_
  rw [zeU h1 hda,zeU h2 hcb]
  have f1:y ∈ a.ts ↔ y ∈ m.ts∧y.path≠c.path:=by rw [← ha];exact zeU h0 hc y
  have f2:y ∈ b.ts ↔ y ∈ m.ts∧y.path≠d.path:=by rw [← hb];exact zeU h0 hd y
  rw [f1,f2]
  constructor
  ·rintro⟨⟨x1,x2⟩,x3⟩;exact⟨⟨x1,x3⟩,x2⟩
  ·rintro⟨⟨x1,x2⟩,x3⟩;exact⟨⟨x1,x3⟩,x2⟩
 rw [e1,e2,e3]
theorem zuF {m a b:Mg} (h0:zw m=0) {c:Tc} (hc:c ∈ m.ts) {y:Mo} (hy:y ∈ m.ms) {t:Sq} (ht:t ∈ zbQ y) {j k:Nat} (ha:zaL m ⟨c.path,5,0,0⟩ j=(a,0)) (hb:zaL m t k=(b,0)) (h1:zw a=0) (h2:zw b=0):Apart m ⟨c.path,5,0,0⟩ t j k a b:=by
 rw [zcq h0 hc] at ha
 injection ha with ha _
 rw [zcP h0 hy ht] at hb
 split at hb
 rotate_left
 ·rename_i h3;injection hb with _ h4;exact absurd h4 h3
 rename_i h3
 injection hb with hb _
 have hya:y ∈ a.ms:=by rw [← ha];exact hy
 have hcb:c ∈ b.ts:=by rw [← hb];exact hc
 refine⟨zdi.2 (.inl ⟨y,hya,ht⟩),zdi.2 (.inr ⟨c,hcb,rfl⟩),?_⟩
 rw [zcP h1 hya ht,if_pos h3,zcq h2 hcb]
 rw [← ha,← hb]
 rfl
theorem zCX {m a b:Mg} (h0:zw m=0) {x y:Mo} (hx:x ∈ m.ms) (hy:y ∈ m.ms) (hne:x.label≠y.label) {s t:Sq} (hs:s ∈ zbQ x) (ht:t ∈ zbQ y) {j k:Nat} (ha:zaL m s j=(a,0)) (hb:zaL m t k=(b,0)) (h1:zw a=0) (h2:zw b=0):Apart m s t j k a b:=by
 rw [zcP h0 hx hs] at ha
 rw [zcP h0 hy ht] at hb
 split at ha
 rotate_left
 ·rename_i h3;injection ha with _ h4;exact absurd h4 h3
 rename_i h3
 split at hb
 rotate_left
 ·rename_i h4;injection hb with _ h5;exact absurd h5 h4
 rename_i h4
 injection ha with ha _
 injection hb with hb _
 obtain⟨i1,i2⟩:=zrI h0 hx
 obtain⟨j1,j2⟩:=zrI h0 hy
 rw [zbR m.ms _ i1] at i2
 rw [zbR m.ms _ j1] at j2
 have hij:m.ms.findIdx (zbD x.label)≠m.ms.findIdx (zbD y.label):=fun e=>hne (by
  have:m.ms[m.ms.findIdx (zbD x.label)]=m.ms[m.ms.findIdx (zbD y.label)]:=by congr 1
  rw [i2,j2] at this
  rw [this])
 have hya:y ∈ a.ms:=by
  rw [← ha]
  have:(m.ms.set (m.ms.findIdx (zbD x.label)) (zcI x s j).1)[m.ms.findIdx (zbD y.label)]'(by simpa using j1)=y:=by rw [List.getElem_set_ne hij,j2]
  rw [← this]
  exact List.getElem_mem _
 have hxb:x ∈ b.ms:=by
  rw [← hb]
  have:(m.ms.set (m.ms.findIdx (zbD y.label)) (zcI y t k).1)[m.ms.findIdx (zbD x.label)]'(by simpa using i1)=x:=by rw [List.getElem_set_ne hij.symm,i2]
  rw [← this]
  exact List.getElem_mem _
 refine⟨zdi.2 (.inl ⟨y,hya,ht⟩),zdi.2 (.inl ⟨x,hxb,hs⟩),?_⟩
 rw [zcP h1 hya ht,if_pos h4,zcP h2 hxb hs,if_pos h3]
 have e1:a.ms.findIdx (zbD y.label)=m.ms.findIdx (zbD y.label):=by
  rw [← ha]
  exact zsL i1 (by rw [zqa h3,i2]) _
 have e2:b.ms.findIdx (zbD x.label)=m.ms.findIdx (zbD x.label):=by
  rw [← hb]
  exact zsL j1 (by rw [zqa h4,j2]) _
 rw [e1,e2,← ha,← hb]
 unfold zlp
 rw [List.set_comm _ _ hij]
theorem apart {m a b:Mg} (h0:zw m=0) {s t:Sq} (hs:s ∈ zK m) (ht:t ∈ zK m) (hne:s.label≠t.label) {j k:Nat} (ha:zaL m s j=(a,0)) (hb:zaL m t k=(b,0)) (h1:zw a=0) (h2:zw b=0):Apart m s t j k a b:=by
 rcases zes hs with⟨c,hc,rfl⟩ | ⟨x,hx,hxs⟩
 ·rcases zes ht with⟨d,hd,rfl⟩ | ⟨y,hy,hyt⟩
  ·exact zCY h0 hc hd hne ha hb h1 h2
  ·exact zuF h0 hc hy hyt ha hb h1 h2
 ·rcases zes ht with⟨d,hd,rfl⟩ | ⟨y,hy,hyt⟩
  ·exact(zuF h0 hd hx hxs hb ha h2 h1).symm
  ·exact zCX h0 hx hy (by rw [← (zhW hxs).1,← (zhW hyt).1];exact hne) hxs hyt ha hb h1 h2
end
section
open Go Go.RowKit
def zdc:List Fl→ByteArray→ByteArray × Bool
 | [],_=>(⟨#[]⟩,false)
 | x :: l,s=>if x.path=s then (x.data,true) else zdc l s
abbrev zBW (l:List Fl) (s:ByteArray) (q:Nat):St:=⟨[(0,.d (.sl (zy l))),(1,.d (.raw (.string s))),(6,.d (.raw (.int .i64 q)))],[],[]⟩
theorem zAF (l:List Fl) (s:ByteArray) (hl:l.length≤1048576):Con Tryz.prog 156 [.d (.sl (zy l)),.d (.raw (.string s))] (.tup [.d (.raw (.string (zdc l s).1)),.d (.raw (.bool (zdc l s).2))]):=by
 refine zh Tryz.func156 rfl (by decide +kernel) rfl rfl (by simp [Tryz.ntmps156]) fun A hA=>?_
 rw [Tryz.ntmps156] at hA
 refine goC 400 ?_
 simp only [go_sem,hA]
 refine zd [0,1,6] [] [] (fun y σ=>∃ q:Nat,q≤l.length∧y=l.length - q∧zdc (l.drop q) s=zdc l s∧σ=zBW l s q) l.length ⟨0,by omega,by omega,rfl,by simp only [go_sem,zBW]⟩ ?_
 rintro y σ ⟨q,hq,rfl,hf,rfl⟩
 refine goC 400 ?_
 by_cases hlt:q<l.length
 ·have k1:decide ((q:Int)<(l.length:Int))=true:=decide_eq_true (by omega)
  rw [List.drop_eq_getElem_cons hlt,zdc] at hf
  by_cases hp:l[q].path=s
  ·rw [if_pos hp] at hf
   have k2:decide (l[q].path=s)=true:=decide_eq_true hp
   simp only [go_sem,hA,zBW,ze,k1,Int.toNat_natCast,zL l q hlt,k2,← hf,Tryz.results156]
   exact⟨⟨by omega,by omega⟩,⟨by omega,by omega⟩⟩
  ·rw [if_neg hp] at hf
   have k2:decide (l[q].path=s)=false:=decide_eq_false hp
   simp only [go_sem,hA,zBW,ze,k1,Int.toNat_natCast,zL l q hlt,k2]
   exact⟨⟨by omega,by omega⟩,by unfold zc;omega,l.length - (q+1),by omega,q+1,by omega,rfl,hf,rfl⟩
 ·have k1:decide ((q:Int)<(l.length:Int))=false:=decide_eq_false (by omega)
  have hd:l.drop q=[]:=List.drop_eq_nil_of_le (by omega)
  rw [hd,zdc] at hf
  simp only [go_sem,hA,zBW,ze,k1,← hf,Tryz.results156]
theorem zAH (l:List Fl) (s:ByteArray) (hl:l.length≤1048576):Con Tryz.prog 90 [.d (.sl (zy l)),.d (.raw (.string s))] (.tup [.d (.raw (.string (zdc l s).1)),.d (.raw (.bool (zdc l s).2))]):=by
 refine zh Tryz.func90 rfl (by decide +kernel) rfl rfl (by simp [Tryz.ntmps90]) fun A hA=>?_
 rw [Tryz.ntmps90] at hA
 refine goC 400 ?_
 simp only [go_sem,hA]
 refine zb 400 (zAF l s hl) rfl (by simp only [go_sem]) (by simp only [go_sem,hA]) ?_
 simp only [go_sem,hA,Tryz.results90]
theorem ziS {f:Nat→Int}:∀ n,(∀ i,i<n→f i=0)→zj f n=0
 | 0,_=>rfl
 | n+1,h=>zp (ziS n fun i hi=>h i (by omega)) (h n (by omega))
abbrev zFc (m:Mg) (c:Tc) (k:Nat):Mg:=⟨m.ms,zhi m.fs c k,rmL m.ts (m.ts.findIdx (zaD c.path))⟩
end
section
open Go Go.RowKit
def zcp (d p:ByteArray):Bool:=decide (d.size<p.size) && (decide (p.extract 0 d.size=d) && decide (p.data.toList.getD d.size 0=47))
def zev (l:List Fl):Int:=
 if 200<l.length then 4 else if ¬ zj (zcC l) l.length=0 then zj (zcC l) l.length else if l.any fun x=>l.any fun y=>zcp x.path y.path then 7 else 0
theorem zuI (fs:List ByteArray) (s x:ByteArray):x ∈ zeN fs s ↔ x ∈ fs∨x=s:=by
 unfold zeN
 split
 ·rename_i h
  have:=zhj.1 h
  constructor
  ·exact .inl
  ·rintro (h1 | rfl)
   ·exact h1
   ·exact this
 ·simp
theorem zBU (l:List Fl):∀ fs:List ByteArray,∀ s,s ∈ l.foldl (fun fs x=>zeN fs x.path) fs ↔ s ∈ fs∨∃ x ∈ l,x.path=s:=by
 induction l with
 | nil=>intro fs s;simp
 | cons y l ih=>
  intro fs s
  rw [List.foldl_cons,ih,zuI]
  constructor
  ·rintro ((h | h) | ⟨x,hx,h⟩)
   ·exact .inl h
   ·exact .inr ⟨y,List.mem_cons_self ..,h.symm⟩
   ·exact .inr ⟨x,List.mem_cons_of_mem _ hx,h⟩
  ·rintro (h | ⟨x,hx,h⟩)
   ·exact .inl (.inl h)
   ·rcases List.mem_cons.1 hx with rfl | hx
    ·exact .inl (.inr h.symm)
    ·exact .inr ⟨x,hx,h⟩
theorem zvP (l:List Fl) (s:ByteArray):zbT (zcH l) s=true ↔ ∃ x ∈ l,x.path=s:=by
 rw [zhj]
 unfold zcH
 rw [zBU]
 simp
theorem zug (s:ByteArray) (i:Nat) (h:i≤s.size):(s.extract 0 i).size=i:=by
 rw [ByteArray.size_extract];omega
theorem zpv (l:List Fl) (p:ByteArray):zuQ (zcH l) p=l.any fun x=>zcp x.path p:=by
 rw [Bool.eq_iff_iff]
 unfold zuQ ziw zcp
 simp only [List.any_eq_true,List.mem_range,Bool.and_eq_true,decide_eq_true_eq,zvP]
 constructor
 ·rintro⟨i,hi,h1,x,hx,h2⟩
  have h3:x.path.size=i:=by rw [h2];exact zug p i (by omega)
  exact⟨x,hx,by omega,by rw [h3,h2],by rw [h3];exact h1⟩
 ·rintro⟨x,hx,h1,h2,h3⟩
  exact⟨x.path.size,h1,h3,x,hx,h2.symm⟩
theorem zCZ {α:Type} (l:List α) (p:α→α→Bool):(l.any fun x=>l.any fun y=>p x y)=l.any fun y=>l.any fun x=>p x y:=by
 rw [Bool.eq_iff_iff]
 simp only [List.any_eq_true]
 constructor
 ·rintro⟨x,hx,y,hy,h⟩;exact⟨y,hy,x,hx,h⟩
 ·rintro⟨y,hy,x,hx,h⟩;exact⟨x,hx,y,hy,h⟩
theorem zkl (l:List Fl):zev l=zch l:=by
 unfold zev zch
 rw [zCZ]
 have:(fun y:Fl=>l.any fun x=>zcp x.path y.path)=fun y=>zuQ (zcH l) y.path:=funext fun y=>(zpv l y.path).symm
 rw [this]
end
section
open Go Go.RowKit
theorem znu:∀ a:List UInt8,∃ p ps,zaH (a++[47])=(p :: ps)++[[]]
 | []=>⟨[],[],rfl⟩
 | c :: a=>by
  obtain⟨p,ps,h⟩:=znu a
  rw [List.cons_append,zaH]
  split
  ·exact⟨[],p :: ps,by rw [h];rfl⟩
  ·rw [h]
   exact⟨c :: p,ps,rfl⟩
theorem ztO {t:ByteArray} (h:zX t.data.toList=true):¬ zZ t=⟨#[]⟩:=by
 intro e
 unfold zZ at e
 rw [if_pos h] at e
 have h1:(t.extract (Lib.lastIndexByte t 47+1).toNat t.size).size=0:=by rw [e];rfl
 rw [ByteArray.size_extract] at h1
 obtain⟨h2,h3⟩:=zjB t
 have hsz:t.data.toList.length=t.size:=Array.length_toList
 unfold zX at h
 simp only [Bool.and_eq_true,List.all_eq_true] at h
 have hbad:[] ∈ zaH t.data.toList:=by
  by_cases h0:t.size=0
  ·have:t.data.toList=[]:=List.eq_nil_of_length_eq_zero (by omega)
   rw [this];exact List.mem_singleton.2 rfl
  ·have h4:Lib.lastIndexByte t 47=(t.size:Int) - 1:=by omega
   unfold Lib.lastIndexByte at h4
   rcases Lib.lastIdx_spec t 47 t.size with⟨h5,_⟩ | ⟨i,h5,h6,h7,_⟩
   ·omega
   ·have h8:i=t.size - 1:=by omega
    subst h8
    have h9:t.data.toList.getLast? = some 47:=by
     rw [List.getLast?_eq_getElem?,hsz,Array.getElem?_toList,Array.getElem?_eq_getElem (by have:t.data.size=t.size:=rfl;omega)]
     have hlt:t.size - 1<t.data.size:=by have:t.data.size=t.size:=rfl;omega
     rw [getElem!_pos t.data (t.size - 1) hlt] at h7
     have:(t.data[t.size - 1]).toNat=(47:UInt8).toNat:=by
      have e47:(47:UInt8).toNat=47:=rfl
      omega
     rw [UInt8.toNat_inj.1 this]
    obtain⟨a,ha⟩:=List.getLast?_eq_some_iff.1 h9
    obtain⟨p,ps,hp⟩:=znu a
    rw [ha,hp]
    simp
 have:=h.2 _ hbad
 cases this
theorem zuG (t:ByteArray):decide (¬ zZ t=⟨#[]⟩)=zX t.data.toList:=by
 cases h:zX t.data.toList with
 | true=>exact decide_eq_true (ztO h)
 | false=>
  refine decide_eq_false ?_
  unfold zZ
  rw [h]
  simp
def zdb (s:ByteArray):Bool:=decide (3<s.size) && (decide (s.extract (s.size - 3) s.size=⟨#[46,112,107]⟩) && zX (s.extract 0 (s.size - 3)).data.toList)
theorem ztd (s:ByteArray):zdb s=zdV s:=by
 have hsz:s.data.toList.length=s.size:=Array.length_toList
 have h1:decide (s.extract (s.size - 3) s.size=⟨#[46,112,107]⟩)=decide (s.data.toList.drop (s.size - 3)=[46,112,107]):=by
  have:(s.extract (s.size - 3) s.size=⟨#[46,112,107]⟩) ↔ s.data.toList.drop (s.size - 3)=[46,112,107]:=by
   have h2:=zmG (s.extract (s.size - 3) s.size) [46,112,107]
   rw [zct,List.take_of_length_le (by rw [List.length_drop];omega)] at h2
   exact h2
  simp only [this]
 have h2:Lib.hasSuffix s.data.toList [46,112,107]=decide (s.data.toList.drop (s.size - 3)=[46,112,107]):=by
  rw [Bool.eq_iff_iff,decide_eq_true_eq]
  unfold Lib.hasSuffix
  rw [List.isSuffixOf_iff_suffix,List.suffix_iff_eq_drop,hsz]
  exact eq_comm
 unfold zdb zdV
 rw [h1,h2,zuG]
 cases h3:decide (s.data.toList.drop (s.size - 3)=[46,112,107]) with
 | false=>simp
 | true=>
  unfold Lib.trimSuffix
  rw [h2,h3,if_pos rfl,zct,hsz]
  simp only [Bool.true_and,List.drop_zero,Nat.sub_zero,List.length_cons,List.length_nil]
  by_cases h4:3<s.size
  ·rw [decide_eq_true h4,Bool.true_and]
  ·have h5:=of_decide_eq_true h3
   have h6:s.size=3:=by
    have:=congrArg List.length h5
    simp only [List.length_drop,List.length_cons,List.length_nil] at this
    omega
   rw [h6]
   rfl
end
end Go.Proofs.YtpnjjmcimjlfkaaGreatDoor
