/- Texts of this proof, part 20: what the proof uses of them. -/
import Derived.Test.YtpnjjmcimjlfkaaGreatDoorRas
import Derived.Test.YtpnjjmcimjlfkaaGreatDoorRam
import Derived.Test.YtpnjjmcimjlfkaaGreatDoorRal
import Derived.Test.YtpnjjmcimjlfkaaGreatDoorRao
import Derived.Test.YtpnjjmcimjlfkaaGreatDoorRai
set_option maxRecDepth 100000
set_option maxHeartbeats 64000000
namespace Go.Proofs.YtpnjjmcimjlfkaaGreatDoor
section
open Go Go.RowKit
theorem zsX (n:Nat) (hn:n<=1048576) (w:World):Calls Tryz.prog 157 #[.slice none 0 0,.int .i64 n] w fun e w'=>∃ v,e = .returned v/\w'.ownsRow w.heap.size 58 7 v 0 []/\Below w.heap.size w w':=by
 have hI:(Tryz.prog.info? 58).map (fun i=>(i.zero,i.size,i.bytes))=some (some (.agg #[.string ⟨#[]⟩,.bool false,.bool false,.bool false,.string ⟨#[]⟩,.string ⟨#[]⟩,.string ⟨#[]⟩]),7,72):=by kernel_rfl
 cases hq:Tryz.prog.info? 58 with
 | none=>rw [hq] at hI;cases hI
 | some i0=>
 rw [hq] at hI
 simp only [Option.map_some,Option.some.injEq,Prod.mk.injEq] at hI
 obtain⟨hz0,hzs,hzb⟩:=hI
 by_cases h0:n=0
 ·subst h0
  go_enter Tryz.func157,Tryz.ntmps157
  go_wp2
  go_ret
  exact⟨_,rfl,World.ownsRow_nil _ _ _ _,Below.refl _ _⟩
 have hw1:IntKind.i64.wrap (n:Int)=(n:Int):=by rw [IntKind.wrap_i64];omega
 have hge:=grownCap_ge w n 0 58
 have hle:=grownCap_le_maxLen w n 0 58 (by unfold maxLen;omega)
 obtain⟨G,hG⟩:∃ G,G=grownCap w n 0 58:=⟨_,rfl⟩
 obtain⟨ROW,hROW⟩:∃ ROW:Array Value,ROW=([]:List Value).toArray++Builtin.zeroCells (Value.cells (.agg #[.string ⟨#[]⟩,.bool false,.bool false,.bool false,.string ⟨#[]⟩,.string ⟨#[]⟩,.string ⟨#[]⟩])) n++Builtin.zeroCells (Value.cells (.agg #[.string ⟨#[]⟩,.bool false,.bool false,.bool false,.string ⟨#[]⟩,.string ⟨#[]⟩,.string ⟨#[]⟩])) (G - n):=⟨_,rfl⟩
 have hrz:∀ ty,(Builtin.append_ #[24,3] ty #[.slice none 0 0,.int .i64 (n:Int)]).run Tryz.prog w = .ok (.slice (some ⟨w.heap.size,0,none⟩) n G) (w.drew.alloc (.cells ROW 58)):=fun ty=>by
  have h:=Lib.run_append_grow_zeros w 24 3 ty 58 i0 _ .i64 .i64 Tryz.underlying24 Tryz.underlying3 hq hz0 none 0 0 [] (by simp [Builtin.firstCells]) n (by omega) (by omega) (by omega) (by omega) (by rw [hzb];omega) (by rw [hzb];exact growslice_fits (by omega) (by omega))
  rw [Nat.zero_add,<- hG,<- hROW] at h
  exact h
 rw [<- hG] at hge hle
 have hRl:ROW.size=G * 7:=by
  rw [hROW]
  simp only [Array.size_append,List.size_toArray,size_zeroCells]
  simp [Value.cells]
  omega
 have hpos:(0:Int)<(n:Int):=by omega
 clear hROW hG
 go_enter Tryz.func157,Tryz.ntmps157
 go_wp2_with (at_builtin;refine Lib.wpList_append_run _ rfl _ _ _ _ rfl _ _ rfl rfl _ _ (hrz _) ?_)
 go_ret
 exact⟨_,rfl,⟨by simp,.inr ⟨w.heap.size,G,ROW,rfl,Nat.le_refl _,heap_alloc_new w.drew _,Nat.zero_le _,hle,hRl,by simp⟩⟩,(Below.refl _ w).drew.alloc (Nat.le_refl _) _⟩
theorem zCY (n:Nat) (hn:n<=1048576):ztJ Tryz.prog 157 [.d (.raw (.slice none 0 0)),.d (.raw (.int .i64 n))] 7 58 []:=by
 refine⟨⟨_,Tryz.func157,by decide +kernel,rfl⟩,fun i hi=>by simp at hi,fun F w vs hF hG hl hv=>?_⟩
 match vs,hl with
 | [a,b],_=>
  have h0:=hv 0 (by simp) (by simp)
  have h1:=hv 1 (by simp) (by simp)
  simp only [List.getElem_cons_zero,List.getElem_cons_succ] at h0 h1
  rw [h0.raw_eq,h1.raw_eq]
  refine(zsX n hn w).mono ?_
  rintro e w' ⟨v,rfl,h2,h3⟩
  exact⟨v,[],rfl,h2,fun i hi=>by simp at hi,h3⟩
theorem zpD (ll:List (List (List D))) (q:Nat) (h:q<ll.length):(ll.map fun l=>[D.sl l]).getD q []=[.sl ll[q]]:=by simp [List.getD_eq_getElem?_getD,h]
theorem zjQ (ll:List (List (List D))) (q:Nat) (h:q<ll.length):(ll.take (q+1)).flatten=(ll.take q).flatten++ll[q]:=by rw [List.take_succ_eq_append_getElem h,List.flatten_append];simp only [List.flatten_cons,List.flatten_nil,List.append_nil]
theorem zgH (ll:List (List (List D))) (q:Nat):(ll.take q).flatten.length<=ll.flatten.length:=by
 conv=>rhs;rw [<- List.take_append_drop q ll]
 simp only [List.flatten_append,List.length_append];omega
abbrev zrk (ll:List (List (List D))) (q:Nat):St:=⟨[(0,.d (.sl (ll.map fun l=>[D.sl l]))),(3,.d (.raw (.int .i64 (ll.take q).flatten.length))),(9,.d (.sl (ll.map fun l=>[D.sl l]))),(10,.d (.raw (.int .i64 ll.length))),(11,.d (.raw (.int .i64 q)))],[],[]⟩
abbrev zrj (ll:List (List (List D))) (q:Nat):St:=⟨[(6,.grow 9001 (ll.take q).flatten),(25,.d (.sl (ll.map fun l=>[D.sl l]))),(26,.d (.raw (.int .i64 ll.length))),(27,.d (.raw (.int .i64 q)))],[],[(9001,some ⟨7,58,(ll.take q).flatten.length,none⟩)]⟩
theorem zyA (ll:List (List (List D))) (hll:ll.length<=1048576) (hb:ll.flatten.length<=1048576) (hf:∀ l ∈ ll,zam 7 l):Con Tryz.prog 96 [.d (.sl (ll.map fun l=>[D.sl l]))] (.d (.sl ll.flatten)):=by
 refine kO Tryz.func96 Tryz.ntmps96 fun A hA=>?_
 refine goC 400 ?_
 simp only [go_sem,hA,List.length_map]
 refine zc [0,3,9,10,11] [] [] (fun y σ=>∃ q:Nat,q<=ll.length/\y=ll.length - q/\σ=zrk ll q) ll.length ⟨0,by omega,by omega,by(simp only [go_sem,zrk]) <;> rfl⟩ ?_
 rintro y σ ⟨q,hq,rfl,rfl⟩
 refine goC 400 ?_
 by_cases hlt:q<ll.length
 ·have k1:decide ((q:Int)<(ll.length:Int))=true:=decide_eq_true (by omega)
  have h1:=zgH ll q
  have h2:=zgH ll (q+1)
  have h3:=zjQ ll q hlt
  have h4:(ll.take (q+1)).flatten.length=(ll.take q).flatten.length+ll[q].length:=by rw [h3,List.length_append]
  have hs:((ll.take q).flatten.length:Int)+(ll[q].length:Int)=((ll.take (q+1)).flatten.length:Int):=by omega
  have k2:decide (((ll.take (q+1)).flatten.length:Int)<(0:Int))=false:=decide_eq_false (by omega)
  simp only [go_sem,hA,zrk,List.length_map,k1,Int.toNat_natCast,zpD ll q hlt,hs,k2]
  exact⟨⟨by omega,by omega⟩,by unfold za;omega,by unfold za;omega,ll.length - (q+1),by omega,q+1,by omega,rfl,rfl⟩
 have k1:decide ((q:Int)<(ll.length:Int))=false:=decide_eq_false (by omega)
 obtain rfl:q=ll.length:=by omega
 simp only [go_sem,hA,zrk,k1,List.take_length]
 refine zsZ 400 (zCY ll.flatten.length hb) rfl rfl (by simp only [go_sem]) (by simp only [go_sem]) rfl (by simp only [go_sem,hA]) (by simp only [go_sem]) ?_
 simp only [go_sem,hA,List.length_map]
 refine zc [6,25,26,27] [] [9001] (fun y σ=>∃ q:Nat,q<=ll.length/\y=ll.length - q/\σ=zrj ll q) ll.length ⟨0,by omega,by omega,by(simp only [go_sem,zrj]) <;> rfl⟩ ?_
 clear hlt k1 hq
 rintro y σ ⟨q,hq,rfl,rfl⟩
 refine goC 400 ?_
 by_cases hlt:q<ll.length
 ·have k1:decide ((q:Int)<(ll.length:Int))=true:=decide_eq_true (by omega)
  have h1:=zgH ll q
  have h2:=zgH ll (q+1)
  have h3:=zjQ ll q hlt
  have h4:(ll.take (q+1)).flatten.length=(ll.take q).flatten.length+ll[q].length:=by rw [h3,List.length_append]
  simp only [go_sem,hA,zrj,List.length_map,k1,Int.toNat_natCast,zpD ll q hlt]
  exact⟨⟨by omega,by omega⟩,⟨hf _ (List.getElem_mem hlt),fun r hr=>by
   obtain⟨l,hl,hr⟩:=List.mem_flatten.1 hr
   exact(hf l (List.mem_of_mem_take hl) r hr).1,by omega⟩,by unfold za;omega,ll.length - (q+1),by omega,q+1,by omega,rfl,by rw [h3,List.length_append];rfl⟩
 have k1:decide ((q:Int)<(ll.length:Int))=false:=decide_eq_false (by omega)
 obtain rfl:q=ll.length:=by omega
 simp only [go_sem,hA,zrj,k1,List.take_length,Tryz.results96]
def zoS {α:Type} (k:Nat) (x y z:α):α:=if k=0 then x else if k=1 then y else z
theorem zsi {α:Type} (k:Nat) (hk:k<3) (x y z d:α):[x,y,z].getD k d=zoS k x y z:=by
 match k,hk with
 | 0,_=>rfl
 | 1,_=>rfl
 | 2,_=>rfl
theorem zoR {α β:Type} (f:α->β) (k:Nat) (x y z:α):zoS k (f x) (f y) (f z)=f (zoS k x y z):=by
 unfold zoS
 split
 ·rfl
 ·split <;> rfl
def zCm (c:Tc) (k:Nat):Bool:=zoS k c.inL c.inB c.inR
def zis (c:Tc) (k:Nat):ByteArray:=zoS k c.left c.base c.right
def zsT (l:List Fl) (i:Nat) (x:Fl):List Fl:=l.take i++x :: l.drop i
theorem zxW (l:List Fl) (i:Nat) (x:Fl):zdh (zap l) i (zib x)=zap (zsT l i x):=by simp [zdh,zsT,zap,List.map_take,List.map_drop]
def zqH (path:ByteArray) (x:Tc):Bool:=decide (x.path=path)
def zwD (m:Mg) (path:ByteArray) (a k:Nat):Mg:=
 ⟨m.ms,if zCm (atC m.ts a) k=true then zsT m.fs (zeP m.fs path) ⟨path,zis (atC m.ts a) k⟩ else m.fs,m.ts.take a++m.ts.drop (a+1)⟩
theorem zxx (l:List Fl) (s:ByteArray):zeP l s<=l.length:=(zrl (zkD l s) l.length 0 l.length (Nat.zero_le _)).2
theorem zBo (x:Tc) (path:ByteArray):Con Tryz.prog 95 [avC x,.at_ [.raw (.string path)]] (.d (.raw (.bool (zqH path x)))):=by
 refine kO Tryz.func95 Tryz.ntmps95 fun A hA=>?_
 refine goC 400 ?_
 simp only [go_sem,hA,avC,zqH,Tryz.results95]
theorem zrd (m:Mg) (path:ByteArray) (k a:Nat) (hk:k<3) (ha:a<m.ts.length) (hix:ixF (zqH path) m.ts=a) (ht:m.ts.length<=1048576) (hf:m.fs.length<=1048576)
  (hins:zru Tryz.prog 97 2 62 (zap m.fs) (zib ⟨path,zis m.ts[a] k⟩) (zeP m.fs path)) :
  Con Tryz.prog 40 [avG m,.d (.raw (.string path)),.d (.raw (.int .i64 k))] (avG (zwD m path a k)):=by
 refine kY Tryz.func40 Tryz.ntmps40 fun A hA hAX=>?_
 refine goC 400 ?_
 simp only [go_sem,hA,avG]
 refine zEr 1 ?_
 simp only [go_sem]
 refine gC (zAm m.ts 95 [.at_ [.raw (.string path)]] (zqH path) rfl rfl ht fun x _=>zBo x path) ?_
 have hat:=zrp m.ts a ha
 have hin:za ((a:Int)+1):=by unfold za;omega
 have hn1:((a:Int)+1).toNat=a+1:=by omega
 have htk:(zbc m.ts).take m.ts.length=zbc m.ts:=List.take_of_length_le (by rw [zD];exact Nat.le_refl _)
 have hrow:∀ r ∈ zbc m.ts,r.length=7:=fun r hr=>(zgd m.ts r hr).1
 have hcc:=zyA [(zbc m.ts).take a,(zbc m.ts).drop (a+1)] (by simp) (by simp [zD];omega) (by
  intro l hl
  simp at hl
  rcases hl with rfl | rfl
  ·exact fun r hr=>zgd m.ts r (List.mem_of_mem_take hr)
  ·exact fun r hr=>zgd m.ts r (List.mem_of_mem_drop hr))
 have hfl:[(zbc m.ts).take a,(zbc m.ts).drop (a+1)].flatten=zbc (m.ts.take a++m.ts.drop (a+1)):=by simp [zbc,List.map_take,List.map_drop]
 rw [hfl] at hcc
 have hp1:[[D.raw (Value.bool m.ts[a].inL)],[D.raw (Value.bool m.ts[a].inB)],[D.raw (Value.bool m.ts[a].inR)]].getD k []=[D.raw (Value.bool (zCm m.ts[a] k))]:=by
  rw [zsi k hk];exact zoR (fun b=>[D.raw (Value.bool b)]) k _ _ _
 have hp2:[[D.raw (Value.string m.ts[a].left)],[D.raw (Value.string m.ts[a].base)],[D.raw (Value.string m.ts[a].right)]].getD k []=[D.raw (Value.string (zis m.ts[a] k))]:=by
  rw [zsi k hk];exact zoR (fun b=>[D.raw (Value.string b)]) k _ _ _
 simp only [go_sem,hA,hix,zD,Int.toNat_natCast,zcs m.ts a ha,zea,mixed,hn1,htk]
 refine⟨⟨by omega,by omega⟩,⟨hrow,by omega,by omega⟩,hin,⟨hrow,by omega,by omega,by omega⟩,?_⟩
 refine gD hcc ?_ rfl (by simp only [go_sem,List.map])
 simp only [go_sem,hA,Int.toNat_natCast,hp1]
 refine⟨by show chk _ _ _=true;kernel_rfl,⟨by omega,by omega⟩,?_⟩
 have hr:zwD m path a k=⟨m.ms,if zCm m.ts[a] k=true then zsT m.fs (zeP m.fs path) ⟨path,zis m.ts[a] k⟩ else m.fs,m.ts.take a++m.ts.drop (a+1)⟩:=by unfold zwD;rw [hat]
 cases hb:zCm m.ts[a] k with
 | false=>
  rw [hb,if_neg (by simp)] at hr
  simp only [go_sem,hA,hr,Tryz.results40]
 | true=>
  rw [hb,if_pos rfl] at hr
  simp only [go_sem,hA]
  refine gC (zvw m.fs path hf) ?_
  simp only [go_sem,hA,Int.toNat_natCast,hp2,mixed]
  refine⟨⟨by omega,by omega⟩,by show chk _ _ _=true;kernel_rfl,?_⟩
  refine zAy 400 (zBj m.fs hf) rfl rfl (by simp only [go_sem]) (by simp only [go_sem]) (by simp only [go_sem,hA]) (by simp only [go_sem]) ?_
  simp only [go_sem,hA,zq]
  have hpl:=zxx m.fs path
  refine zEX 10 (r:=8002) (r2:=8005) (ver:=0) (rows:=zap m.fs) (row:=zib ⟨path,zis m.ts[a] k⟩) (k:=zeP m.fs path) hins rfl rfl (by simp only [go_sem]) rfl (by simp only [go_sem,zq]) (by simp only [go_sem] <;> rfl) (by simp only [go_sem]) (by rw [zq];exact hpl) (by simp only [go_sem,zib]) (by simp only [go_sem] <;> rfl) (by decide) (zeH _) (zeH [⟨path,zis m.ts[a] k⟩]) (by rw [zq];exact hf) (by simp only [go_sem,hA]) (by decide) ?_
  rw [zxW]
  simp only [go_sem,hA,zq]
  refine⟨by show chk _ _ _=true;kernel_rfl,?_⟩
  refine zrP hAX.2 8002 0 1 (rows:=zap (zsT m.fs (zeP m.fs path) ⟨path,zis m.ts[a] k⟩)) (by simp only [go_sem] <;> rfl) rfl (by simp only [go_sem] <;> rfl) (by rw [zq]) ?_
  refine goC 400 ?_
  simp only [go_sem,hA,hr,Tryz.results40]
def zFJ:Mg:=⟨[],[],[]⟩
structure Mg.Good (m:Mg):Prop where
 fine:m.Fine
 tl:m.ts.length<=1048576
 dl:∀ x ∈ m.ms,x.decls.length<=1048576
theorem zwq {m:Mg} (h:zcE m=0):∀ x ∈ m.ms,zdl x=0:=fun x hx=>by
 obtain⟨i,hi,rfl⟩:=List.mem_iff_getElem.1 hx
 unfold zcE at h
 split at h
 ·exact absurd h (by assumption)
 rename_i h1
 have h2:=zbn (Classical.not_not.1 h1) i hi
 unfold zsH at h2
 rw [zrn m.ms i hi] at h2
 split at h2
 ·exact absurd h2 (by assumption)
 ·rename_i h3;exact Classical.not_not.1 h3
def zgB (l:List ByteArray):Bool:=decide (10<l.length) || l.any fun s=>decide (120<s.size)
def zdi (d:Dc):Bool:=decide (5<d.names.length) || zkx d.body || d.names.any fun s=>decide (100<s.size)
def zdH (l:List Dc):Bool:=decide (8<l.length) || l.any zdi
abbrev zAw (l:List ByteArray) (q:Nat):St:=⟨[(0,.d (.sl (zQ l))),(3,.d (.raw (.int .i64 q)))],[],[]⟩
theorem zqe (l:List ByteArray):Con Tryz.prog 62 [.d (.sl (zQ l))] (.d (.raw (.bool (zgB l)))):=by
 refine kO Tryz.func62 Tryz.ntmps62 fun A hA=>?_
 refine goC 400 ?_
 by_cases h1:10<l.length
 ·have g1:decide ((10:Int)<(l.length:Int))=true:=decide_eq_true (by omega)
  have he:zgB l=true:=by unfold zgB;rw [decide_eq_true h1];rfl
  simp only [go_sem,hA,zg,g1,he,Tryz.results62]
 have g1:decide ((10:Int)<(l.length:Int))=false:=decide_eq_false (by omega)
 have he:zgB l=l.any fun s=>decide (120<s.size):=by unfold zgB;rw [decide_eq_false h1];rfl
 simp only [go_sem,hA,zg,g1]
 refine zc [0,3] [] [] (fun y σ=>∃ q:Nat,q<=l.length/\y=l.length - q/\((l.take q).any fun s=>decide (120<s.size))=false/\σ=zAw l q) l.length ⟨0,by omega,by omega,rfl,by simp only [go_sem,zAw]⟩ ?_
 rintro y σ ⟨q,hq,rfl,hf,rfl⟩
 refine goC 400 ?_
 by_cases hlt:q<l.length
 ·have k1:decide ((q:Int)<(l.length:Int))=true:=decide_eq_true (by omega)
  by_cases h2:120<l[q].size
  ·have k2:decide ((120:Int)<(l[q].size:Int))=true:=decide_eq_true (by omega)
   rw [zgK hlt (decide_eq_true h2)] at he
   simp only [go_sem,hA,zAw,zg,k1,Int.toNat_natCast,zbC l q hlt,k2,he,Tryz.results62]
   exact⟨by omega,by omega⟩
  ·have k2:decide ((120:Int)<(l[q].size:Int))=false:=decide_eq_false (by omega)
   simp only [go_sem,hA,zAw,zg,k1,Int.toNat_natCast,zbC l q hlt,k2]
   exact⟨⟨by omega,by omega⟩,by unfold za;omega,l.length - (q+1),by omega,q+1,by omega,rfl,zcJ hlt hf (decide_eq_false h2),rfl⟩
 ·have k1:decide ((q:Int)<(l.length:Int))=false:=decide_eq_false (by omega)
  obtain rfl:q=l.length:=by omega
  rw [List.take_length] at hf
  rw [hf] at he
  simp only [go_sem,hA,zAw,zg,k1,he,Tryz.results62]
abbrev zAB (l:List Dc) (q:Nat):St:=⟨[(0,.d (.sl (zbf l))),(3,.d (.raw (.int .i64 q)))],[],[]⟩
abbrev ztc (l:List Dc) (q k:Nat):St:=⟨[(0,.d (.sl (zbf l))),(3,.d (.raw (.int .i64 q))),(4,.d (.raw (.int .i64 k)))],[],[]⟩
theorem zof (l:List Dc) (hb:∀ d ∈ l,nodesE d.body<=1048576):Con Tryz.prog 63 [.d (.sl (zbf l))] (.d (.raw (.bool (zdH l)))):=by
 refine kO Tryz.func63 Tryz.ntmps63 fun A hA=>?_
 refine goC 400 ?_
 by_cases h1:8<l.length
 ·have g1:decide ((8:Int)<(l.length:Int))=true:=decide_eq_true (by omega)
  have he:zdH l=true:=by unfold zdH;rw [decide_eq_true h1];rfl
  simp only [go_sem,hA,zr,g1,he,Tryz.results63]
 have g1:decide ((8:Int)<(l.length:Int))=false:=decide_eq_false (by omega)
 have he:zdH l=l.any zdi:=by unfold zdH;rw [decide_eq_false h1];rfl
 simp only [go_sem,hA,zr,g1]
 refine zc [0,3] [] [] (fun y σ=>∃ q:Nat,q<=l.length/\y=l.length - q/\(l.take q).any zdi=false/\σ=zAB l q) l.length ⟨0,by omega,by omega,rfl,by simp only [go_sem,zAB]⟩ ?_
 rintro y σ ⟨q,hq,rfl,hf,rfl⟩
 refine goC 400 ?_
 by_cases hlt:q<l.length
 case neg=>
  have k1:decide ((q:Int)<(l.length:Int))=false:=decide_eq_false (by omega)
  obtain rfl:q=l.length:=by omega
  rw [List.take_length] at hf
  rw [hf] at he
  simp only [go_sem,hA,zAB,zr,k1,he,Tryz.results63]
 have k1:decide ((q:Int)<(l.length:Int))=true:=decide_eq_true (by omega)
 obtain⟨d,hd⟩:∃ d,l[q]=d:=⟨_,rfl⟩
 have cg:=zzF d.body (hb d (by rw [<- hd];exact List.getElem_mem hlt))
 have hhit:zdi d=true->zdH l=true:=fun h=>by rw [he];exact zgK hlt (by rw [hd];exact h)
 by_cases h2:5<d.names.length
 ·have k2:decide ((5:Int)<(d.names.length:Int))=true:=decide_eq_true (by omega)
  have hr:=hhit (by unfold zdi;rw [decide_eq_true h2];rfl)
  simp only [go_sem,hA,zAB,zr,zg,k1,Int.toNat_natCast,zbD l q hlt,hd,zcb,k2,undef,hr,Tryz.results63]
  exact⟨by omega,by omega⟩
 have k2:decide ((5:Int)<(d.names.length:Int))=false:=decide_eq_false (by omega)
 simp only [go_sem,hA,zAB,zr,zg,k1,Int.toNat_natCast,zbD l q hlt,hd,zcb,k2]
 refine⟨⟨by omega,by omega⟩,⟨by omega,by omega⟩,?_⟩
 refine zaU 300 cg rfl (by simp only [go_sem,zaB]) (by simp only [go_sem,hA]) ?_
 cases hg:zkx d.body with
 | true=>
  have hr:=hhit (by unfold zdi;rw [hg];simp)
  simp only [go_sem,hA,hr,Tryz.results63]
 | false=>
  have hdc:zdi d=d.names.any fun s=>decide (100<s.size):=by unfold zdi;rw [hg,decide_eq_false h2];rfl
  simp only [go_sem,hA]
  refine zc [0,3,4] [] [] (fun y σ=>∃ k:Nat,k<=d.names.length/\y=d.names.length - k/\((d.names.take k).any fun s=>decide (100<s.size))=false/\σ=ztc l q k) d.names.length ⟨0,by omega,by omega,rfl,by simp only [go_sem,ztc]⟩ ?_
  rintro y σ ⟨k,hk,rfl,hf2,rfl⟩
  refine goC 400 ?_
  by_cases hkl:k<d.names.length
  ·have k3:decide ((k:Int)<(d.names.length:Int))=true:=decide_eq_true (by omega)
   by_cases h4:100<d.names[k].size
   ·have k4:decide ((100:Int)<(d.names[k].size:Int))=true:=decide_eq_true (by omega)
    have hr:=hhit (by rw [hdc];exact zgK hkl (decide_eq_true h4))
    simp only [go_sem,hA,ztc,zr,zg,k3,Int.toNat_natCast,zbD l q hlt,hd,zcb,zbC d.names k hkl,k4,hr,Tryz.results63]
    exact⟨⟨by omega,by omega⟩,⟨by omega,by omega⟩,by omega,by omega⟩
   ·have k4:decide ((100:Int)<(d.names[k].size:Int))=false:=decide_eq_false (by omega)
    simp only [go_sem,hA,ztc,zr,zg,k3,Int.toNat_natCast,zbD l q hlt,hd,zcb,zbC d.names k hkl,k4]
    exact⟨⟨by omega,by omega⟩,⟨by omega,by omega⟩,⟨by omega,by omega⟩,by unfold za;omega,d.names.length - (k+1),by omega,k+1,by omega,rfl,zcJ hkl hf2 (decide_eq_false h4),rfl⟩
  ·have k3:decide ((k:Int)<(d.names.length:Int))=false:=decide_eq_false (by omega)
   obtain rfl:k=d.names.length:=by omega
   rw [List.take_length] at hf2
   simp only [go_sem,hA,ztc,zr,zg,k3,Int.toNat_natCast,zbD l q hlt,hd,zcb]
   exact⟨⟨by omega,by omega⟩,by unfold za;omega,l.length - (q+1),by omega,q+1,by omega,rfl,zcJ hlt hf (by rw [hd,hdc];exact hf2),rfl⟩
def zhR (x:Fl):Bool:=decide ((120:Int)<(x.path.size:Int)) || decide ((200:Int)<(x.data.size:Int))
def zfx (l:List Fl):Bool:=decide (10<l.length) || l.any zhR
def zet (x:Mo):Bool:=decide ((120:Int)<(x.label.size:Int)) || (zgB x.uses || zdH x.decls)
def zhQ (x:Tc):Bool:=decide ((120:Int)<(x.path.size:Int)) || (decide ((300:Int)<(x.base.size:Int)) || (decide ((300:Int)<(x.left.size:Int)) || decide ((300:Int)<(x.right.size:Int))))
def zfw (m:Mg):Bool:=decide ((4:Int)<(m.ms.length:Int)) || (zfx m.fs || (decide ((6:Int)<(m.ts.length:Int)) || (m.ms.any zet || m.ts.any zhQ)))
abbrev zAz (l:List Fl) (q:Nat):St:=⟨[(0,.d (.sl (zap l))),(3,.d (.raw (.int .i64 q)))],[],[]⟩
theorem zxm (l:List Fl):Con Tryz.prog 24 [.d (.sl (zap l))] (.d (.raw (.bool (zfx l)))):=by
 refine kO Tryz.func24 Tryz.ntmps24 fun A hA=>?_
 refine goC 400 ?_
 by_cases h1:10<l.length
 ·have g1:decide ((10:Int)<(l.length:Int))=true:=decide_eq_true (by omega)
  have he:zfx l=true:=by unfold zfx;rw [decide_eq_true h1];rfl
  simp only [go_sem,hA,zq,g1,he,Tryz.results24]
 have g1:decide ((10:Int)<(l.length:Int))=false:=decide_eq_false (by omega)
 have he:zfx l=l.any zhR:=by unfold zfx;rw [decide_eq_false h1];rfl
 simp only [go_sem,hA,zq,g1]
 refine zc [0,3] [] [] (fun y σ=>∃ q:Nat,q<=l.length/\y=l.length - q/\((l.take q).any zhR)=false/\σ=zAz l q) l.length ⟨0,by omega,by omega,rfl,by simp only [go_sem,zAz]⟩ ?_
 rintro y σ ⟨q,hq,rfl,hf,rfl⟩
 refine goC 400 ?_
 by_cases hlt:q<l.length
 ·have k1:decide ((q:Int)<(l.length:Int))=true:=decide_eq_true (by omega)
  have hx:zhR l[q]=(decide ((120:Int)<(l[q].path.size:Int)) || decide ((200:Int)<(l[q].data.size:Int))):=rfl
  cases d1:decide ((120:Int)<(l[q].path.size:Int)) <;> cases d2:decide ((200:Int)<(l[q].data.size:Int))
  all_goals rw [d1,d2] at hx
  ·simp only [go_sem,hA,zAz,zq,k1,Int.toNat_natCast,zbT l q hlt,d1,d2]
   exact⟨⟨by omega,by omega⟩,⟨by omega,by omega⟩,by unfold za;omega,l.length - (q+1),by omega,q+1,by omega,rfl,zcJ hlt hf hx,rfl⟩
  all_goals
   rw [zgK hlt hx] at he
   simp only [go_sem,hA,zAz,zq,k1,Int.toNat_natCast,zbT l q hlt,d1,d2,undef,he,Tryz.results24]
  ·exact⟨⟨by omega,by omega⟩,by omega,by omega⟩
  ·exact⟨by omega,by omega⟩
  ·exact⟨by omega,by omega⟩
 ·have k1:decide ((q:Int)<(l.length:Int))=false:=decide_eq_false (by omega)
  obtain rfl:q=l.length:=by omega
  rw [List.take_length] at hf
  rw [hf] at he
  simp only [go_sem,hA,zAz,zq,k1,he,Tryz.results24]
theorem zuB (x:Mo) (hb:∀ d ∈ x.decls,nodesE d.body<=1048576):Con Tryz.prog 25 [avM x] (.d (.raw (.bool (zet x)))):=by
 refine kO Tryz.func25 Tryz.ntmps25 fun A hA=>?_
 refine goC 400 ?_
 have hr:zet x=(decide ((120:Int)<(x.label.size:Int)) || (zgB x.uses || zdH x.decls)):=rfl
 cases d1:decide ((120:Int)<(x.label.size:Int)) with
 | true=>
  rw [d1] at hr
  simp only [go_sem,hA,avM,d1,undef,hr,Bool.true_or,Tryz.results25]
 | false=>
  rw [d1,Bool.false_or] at hr
  simp only [go_sem,hA,avM,d1]
  refine zaU 300 (zqe x.uses) rfl (by simp only [go_sem]) (by simp only [go_sem,hA]) ?_
  cases d2:zgB x.uses with
  | true=>
   rw [d2] at hr
   simp only [go_sem,hA,undef,hr,Bool.true_or,Tryz.results25]
  | false=>
   rw [d2,Bool.false_or] at hr
   simp only [go_sem,hA]
   refine zaU 300 (zof x.decls hb) rfl (by simp only [go_sem]) (by simp only [go_sem,hA]) ?_
   simp only [go_sem,hA,hr,Tryz.results25]
abbrev zwz (m:Mg) (q:Nat):St:=⟨[(1,.box 0 0),(3,.d (.raw (.int .i64 q)))],[(0,some (.cell 26 [.d (.sl (zbS m.ms)),.d (.sl (zap m.fs)),.d (.sl (zbc m.ts))]))],[]⟩
abbrev zta (m:Mg) (q:Nat):St:=⟨[(1,.box 0 0),(4,.d (.raw (.int .i64 q)))],[(0,some (.cell 26 [.d (.sl (zbS m.ms)),.d (.sl (zap m.fs)),.d (.sl (zbc m.ts))]))],[]⟩
theorem zoL (m:Mg) (hb:∀ x ∈ m.ms,∀ d ∈ x.decls,nodesE d.body<=1048576):Con Tryz.prog 7 [avG m] (.d (.raw (.bool (zfw m)))):=by
 refine kO Tryz.func7 Tryz.ntmps7 fun A hA=>?_
 refine goC 400 ?_
 have hr:zfw m=(decide ((4:Int)<(m.ms.length:Int)) || (zfx m.fs || (decide ((6:Int)<(m.ts.length:Int)) || (m.ms.any zet || m.ts.any zhQ)))):=rfl
 cases d1:decide ((4:Int)<(m.ms.length:Int)) with
 | true=>
  rw [d1] at hr
  simp only [go_sem,hA,avG,zZ,d1,undef,hr,Bool.true_or,Tryz.results7]
 | false=>
 rw [d1,Bool.false_or] at hr
 have hml:¬ 4<m.ms.length:=fun h=>by have:=of_decide_eq_false d1;omega
 simp only [go_sem,hA,avG,zZ,d1]
 refine zaU 300 (zxm m.fs) rfl (by simp only [go_sem]) (by simp only [go_sem,hA]) ?_
 cases d2:zfx m.fs with
 | true=>
  rw [d2] at hr
  simp only [go_sem,hA,undef,hr,Bool.true_or,Tryz.results7]
 | false=>
 rw [d2,Bool.false_or] at hr
 cases d3:decide ((6:Int)<(m.ts.length:Int)) with
 | true=>
  rw [d3] at hr
  simp only [go_sem,hA,zD,d3,hr,Bool.true_or,Tryz.results7]
 | false=>
 rw [d3,Bool.false_or] at hr
 have htl:¬ 6<m.ts.length:=fun h=>by have:=of_decide_eq_false d3;omega
 simp only [go_sem,hA,zD,d3]
 refine zc [1,3] [0] [] (fun y σ=>∃ q:Nat,q<=m.ms.length/\y=m.ms.length - q/\((m.ms.take q).any zet)=false/\σ=zwz m q) m.ms.length ⟨0,by omega,by omega,rfl,by simp only [go_sem,zwz]⟩ ?_
 rintro y σ ⟨q,hq,rfl,hf,rfl⟩
 refine goC 400 ?_
 by_cases hlt:q<m.ms.length
 ·have k1:decide ((q:Int)<(m.ms.length:Int))=true:=decide_eq_true (by omega)
  simp only [go_sem,hA,zwz,zZ,k1,Int.toNat_natCast,zgc m.ms q hlt,zhu]
  refine⟨⟨by omega,by omega⟩,?_⟩
  refine zaU 300 (zuB m.ms[q] (hb _ (List.getElem_mem hlt))) rfl (by simp only [go_sem,avM]) (by simp only [go_sem,hA]) ?_
  cases hx:zet m.ms[q] with
  | true=>
   rw [zgK hlt hx,Bool.true_or] at hr
   simp only [go_sem,hA,hr,Tryz.results7]
  | false=>
   simp only [go_sem,hA]
   exact⟨by unfold za;omega,m.ms.length - (q+1),by omega,q+1,by omega,rfl,zcJ hlt hf hx,rfl⟩
 have k1:decide ((q:Int)<(m.ms.length:Int))=false:=decide_eq_false (by omega)
 obtain rfl:q=m.ms.length:=by omega
 rw [List.take_length] at hf
 rw [hf,Bool.false_or] at hr
 simp only [go_sem,hA,zwz,zZ,k1]
 refine zc [1,4] [0] [] (fun y σ=>∃ q:Nat,q<=m.ts.length/\y=m.ts.length - q/\((m.ts.take q).any zhQ)=false/\σ=zta m q) m.ts.length ⟨0,by omega,by omega,rfl,by simp only [go_sem,zta]⟩ ?_
 clear hf hlt k1 hq
 rintro y σ ⟨q,hq,rfl,hf,rfl⟩
 refine goC 400 ?_
 by_cases hlt:q<m.ts.length
 ·have k1:decide ((q:Int)<(m.ts.length:Int))=true:=decide_eq_true (by omega)
  have hx:zhQ m.ts[q]=(decide ((120:Int)<(m.ts[q].path.size:Int)) || (decide ((300:Int)<(m.ts[q].base.size:Int)) || (decide ((300:Int)<(m.ts[q].left.size:Int)) || decide ((300:Int)<(m.ts[q].right.size:Int))))):=rfl
  cases e1:decide ((120:Int)<(m.ts[q].path.size:Int)) <;> cases e2:decide ((300:Int)<(m.ts[q].base.size:Int)) <;> cases e3:decide ((300:Int)<(m.ts[q].left.size:Int)) <;> cases e4:decide ((300:Int)<(m.ts[q].right.size:Int))
  all_goals rw [e1,e2,e3,e4] at hx
  ·simp only [go_sem,hA,zta,zD,k1,Int.toNat_natCast,zcs m.ts q hlt,zea,e1,e2,e3,e4]
   exact⟨⟨by omega,by omega⟩,by unfold za;omega,m.ts.length - (q+1),by omega,q+1,by omega,rfl,zcJ hlt hf hx,rfl⟩
  all_goals
   rw [zgK hlt hx] at hr
   simp only [go_sem,hA,zta,zD,k1,Int.toNat_natCast,zcs m.ts q hlt,zea,e1,e2,e3,e4,undef,hr,Tryz.results7]
   exact⟨by omega,by omega⟩
 ·have k1:decide ((q:Int)<(m.ts.length:Int))=false:=decide_eq_false (by omega)
  obtain rfl:q=m.ts.length:=by omega
  rw [List.take_length] at hf
  rw [hf] at hr
  simp only [go_sem,hA,zta,zD,k1,hr,Tryz.results7]
abbrev zzr (x y:Mg) (q:Nat):St:=⟨[(2,.box 0 0),(3,.box 1 0),(5,.d (.raw (.int .i64 q)))],[(0,some (.cell 26 [.d (.sl (zbS x.ms)),.d (.sl (zap x.fs)),.d (.sl (zbc x.ts))])),(1,some (.cell 26 [.d (.sl (zbS y.ms)),.d (.sl (zap y.fs)),.d (.sl (zbc y.ts))]))],[]⟩
theorem zzC (x y:Mg) (hm:x.ms.length<=1048576) (hf:x.fs.length<=1048576) (ht:x.ts.length<=1048576) (hb:∀ z ∈ x.ms,z.uses.length<=1048576/\z.decls.length<=1048576/\∀ d ∈ z.decls,nodesE d.body<=1048576/\d.names.length<=1048576) :
  Con Tryz.prog 16 [avG x,avG y] (.d (.raw (.bool (eqG x y)))):=by
 refine kO Tryz.func16 Tryz.ntmps16 fun A hA=>?_
 refine goC 400 ?_
 have hr:eqG x y=(zed zly x.ms y.ms && (zed znt x.fs y.fs && zed ztk x.ts y.ts)):=rfl
 simp only [go_sem,hA,avG]
 refine gC (zrX x.ms y.ms hm hb) ?_
 cases d1:zed zly x.ms y.ms with
 | false=>
  rw [d1,Bool.false_and] at hr
  simp only [go_sem,hA,undef,hr,Tryz.results16]
 | true=>
 rw [d1,Bool.true_and] at hr
 simp only [go_sem,hA]
 refine gC (zqc x.fs y.fs hf) ?_
 cases d2:zed znt x.fs y.fs with
 | false=>
  rw [d2,Bool.false_and] at hr
  simp only [go_sem,hA,undef,hr,Tryz.results16]
 | true=>
 rw [d2,Bool.true_and] at hr
 by_cases hlm:x.ts.length=y.ts.length
 ·have g0:(decide ¬ (x.ts.length:Int)=(y.ts.length:Int))=false:=decide_eq_false (by omega)
  simp only [go_sem,hA,zD,g0]
  refine zc [2,3,5] [0,1] [] (fun n σ=>∃ q:Nat,q<=x.ts.length/\n=x.ts.length - q/\x.ts.take q=y.ts.take q/\σ=zzr x y q) x.ts.length ⟨0,by omega,by omega,rfl,by simp only [go_sem,zzr]⟩ ?_
  rintro n σ ⟨q,hq,rfl,hf,rfl⟩
  refine goC 400 ?_
  by_cases hlt:q<x.ts.length
  ·have g1:decide ((q:Int)<(x.ts.length:Int))=true:=decide_eq_true (by omega)
   have hq2:q<y.ts.length:=by omega
   obtain⟨d,hd⟩:∃ d,x.ts[q]=d:=⟨_,rfl⟩
   obtain⟨e,he⟩:∃ e,y.ts[q]=e:=⟨_,rfl⟩
   have hrr:(decide (d.path=e.path) && ((d.inB == e.inB) && ((d.inL == e.inL) && ((d.inR == e.inR) && (decide (d.base=e.base) && (decide (d.left=e.left) && decide (d.right=e.right)))))))=ztk d e:=rfl
   cases hs:ztk d e with
   | true=>
    have hde:=(zfX d e).1 hs
    rw [hs] at hrr
    simp only [go_sem,hA,zzr,zD,g1,Int.toNat_natCast,zcs x.ts q hlt,zcs y.ts q hq2,hd,he,zea,String.reduceEq,hrr,Bool.not_true,mixed]
    exact⟨⟨by omega,by omega⟩,⟨by omega,by omega⟩,⟨by kernel_rfl,by kernel_rfl⟩,by show chk _ _ _=true;kernel_rfl,by unfold za;omega,x.ts.length - (q+1),by omega,q+1,by omega,rfl,by rw [List.take_succ_eq_append_getElem hlt,List.take_succ_eq_append_getElem hq2,hf,hd,he,hde],rfl⟩
   | false=>
    rw [hs] at hrr
    have hne:zed ztk x.ts y.ts=false:=zdC zfX fun e'=>by
     have:x.ts[q]=y.ts[q]:=by simp only [e']
     rw [hd,he] at this
     rw [(zfX d e).2 this] at hs
     cases hs
    rw [hne] at hr
    simp only [go_sem,hA,zzr,zD,g1,Int.toNat_natCast,zcs x.ts q hlt,zcs y.ts q hq2,hd,he,zea,String.reduceEq,hrr,Bool.not_false,hr,mixed,Tryz.results16]
    exact⟨⟨by omega,by omega⟩,⟨by omega,by omega⟩,⟨by kernel_rfl,by kernel_rfl⟩,by show chk _ _ _=true;kernel_rfl⟩
  ·have g1:decide ((q:Int)<(x.ts.length:Int))=false:=decide_eq_false (by omega)
   obtain rfl:q=x.ts.length:=by omega
   have he:x.ts=y.ts:=by rw [List.take_length,List.take_of_length_le (by omega)] at hf;exact hf
   rw [(zec zfX _ _).2 he] at hr
   simp only [go_sem,hA,zzr,zD,g1,Tryz.results16,hr]
 ·have g0:(decide ¬ (x.ts.length:Int)=(y.ts.length:Int))=true:=decide_eq_true (by omega)
  have hne:zed ztk x.ts y.ts=false:=zdC zfX fun e=>hlm (by rw [e])
  rw [hne] at hr
  simp only [go_sem,hA,zD,g0,Tryz.results16,hr]
theorem zbV {α:Type} {p:α->Bool} {l:List α} (h:l.any p=false) {x:α} (hx:x ∈ l):p x=false:=by
 cases hp:p x with
 | false=>rfl
 | true=>rw [List.any_eq_true.2 ⟨x,hx,hp⟩] at h;cases h
theorem zeW {m:Mg} (h:zfw m=false):m.Good:=by
 simp only [zfw,Bool.or_eq_false_iff,decide_eq_false_iff_not] at h
 obtain⟨h1,h2,h3,h4,h5⟩:=h
 simp only [zfx,Bool.or_eq_false_iff,decide_eq_false_iff_not] at h2
 have hm:∀ x ∈ m.ms,x.decls.length<=8/\∀ d ∈ x.decls,nodesE d.body<=40:=fun x hx=>by
  have:=zbV h4 hx
  simp only [zet,zdH,Bool.or_eq_false_iff,decide_eq_false_iff_not] at this
  refine⟨by omega,fun d hd=>?_⟩
  have h6:=zbV this.2.2.2 hd
  simp only [zdi,Bool.or_eq_false_iff] at h6
  have h7:=h6.1.2
  simp only [zkx,Bool.or_eq_false_iff,decide_eq_false_iff_not] at h7
  omega
 refine⟨⟨by omega,by omega,fun x hx d hd=>?_,fun x hx=>?_,fun x hx=>?_⟩,by omega,fun x hx=>?_⟩
 ·have:=(hm x hx).2 d hd;omega
 ·have:=zbV h2.2 hx
  simp only [zhR,Bool.or_eq_false_iff,decide_eq_false_iff_not] at this
  omega
 ·have:=zbV h5 hx
  simp only [zhQ,Bool.or_eq_false_iff,decide_eq_false_iff_not] at this
  omega
 ·have:=(hm x hx).1;omega
theorem zxS {a b:ByteArray} (h:leS a b=false):ltL b a:=by
 unfold leS at h
 simp only [Bool.or_eq_false_iff,decide_eq_false_iff_not] at h
 refine zES (fun h1=>?_) h.2
 rw [(zfA _ _).2 h1] at h
 exact absurd h.1 (by simp)
theorem znM (lt:Nat->Bool) (n:Nat) (hm:∀ i j,i<=j->j<n->lt j=true->lt i=true):∀ k i j,i<=j->j<=n->j - i<=k->(∀ q,q<i->lt q=true)->(∀ q,j<=q->q<n->lt q=false) ->
  (∀ q,q<bsR lt k i j->lt q=true)/\∀ q,bsR lt k i j<=q->q<n->lt q=false
 | 0,i,j,h1,h2,h3,h4,h5=>by
  have:i=j:=by omega
  subst this
  exact⟨h4,h5⟩
 | k+1,i,j,h1,h2,h3,h4,h5=>by
  rw [bsR]
  split
  ·rename_i hij
   split
   ·rename_i hl
    exact znM lt n hm k _ j (by omega) h2 (by omega) (fun q hq=>hm q _ (by omega) (by omega) hl) h5
   ·rename_i hl
    refine znM lt n hm k i _ (by omega) (by omega) (by omega) h4 fun q hq hqn=>?_
    cases hh:lt q with
    | false=>rfl
    | true=>exact absurd (hm _ q hq hqn hh) hl
  ·rename_i hij
   have:i=j:=by omega
   subst this
   exact⟨h4,h5⟩
theorem zCR (a b:ByteArray):leS a b = !ltS b a:=by
 cases h:leS a b with
 | false=>
  have:=(zqB b a).2 (zxS h)
  rw [this];rfl
 | true=>
  cases h2:ltS b a with
  | false=>rfl
  | true=>
   have h3:=(zqB b a).1 h2
   unfold leS at h
   rcases Bool.or_eq_true_iff.1 h with h4 | h4
   ·exact absurd (zxQ h3 ((zqB a b).1 h4)) (zna _)
   ·have:=of_decide_eq_true h4
    subst this
    exact absurd h3 (zna _)
end
section
open Go Go.RowKit Go.Shelf
attribute [local go_sem] Oper.semAt_some
theorem zfJ (d:Int × Int):Con Tryz.prog 250 [zew d] (.d (.raw (.bool (zbd d)))):=by
 refine kO Tryz.func250 Tryz.ntmps250 fun A hA=>?_
 refine goC 400 ?_
 by_cases h:d.1=0
 ·have k1:decide (d.1=0)=true:=decide_eq_true h
  have hz:zbd d=decide (d.2=0):=by unfold zbd;rw [k1];rfl
  simp only [go_sem,hA,k1,hz,Tryz.results250]
 ·have k1:decide (d.1=0)=false:=decide_eq_false h
  have hz:zbd d=false:=by unfold zbd;rw [k1];rfl
  simp only [go_sem,hA,k1,hz,undef,Tryz.results250]
abbrev zwi (l:List En) (q:Nat):St:=⟨[(0,.d (.sl (zbv l))),(3,.d (.raw (.int .i64 q)))],[],[]⟩
theorem zrZ (l:List En) (hl:l.length<=1099511627776):Con Tryz.prog 189 [.d (.sl (zbv l))] (.d (.raw (.int .i64 (zdr l)))):=by
 refine kO Tryz.func189 Tryz.ntmps189 fun A hA=>?_
 refine goC 400 ?_
 by_cases h1:200<l.length
 ·have g1:decide ((200:Int)<(l.length:Int))=true:=decide_eq_true (by omega)
  have hr:zdr l=4:=if_pos h1
  simp only [go_sem,hA,zJ,g1,hr,Tryz.results189]
 have g1:decide ((200:Int)<(l.length:Int))=false:=decide_eq_false (by omega)
 have hr0:zdr l=zH (zkF l) l.length:=if_neg h1
 simp only [go_sem,hA,zJ,g1]
 refine zc [0,3] [] [] (fun y σ=>∃ q:Nat,q<=l.length/\y=l.length - q/\zH (zkF l) q=0/\σ=zwi l q) l.length ⟨0,by omega,by omega,rfl,by simp only [go_sem,zwi]⟩ ?_
 rintro y σ ⟨q,hq,rfl,hf,rfl⟩
 refine goC 400 ?_
 by_cases hlt:q<l.length
 case neg=>
  have k1:decide ((q:Int)<(l.length:Int))=false:=decide_eq_false (by omega)
  obtain rfl:q=l.length:=by omega
  simp only [go_sem,hA,zwi,zJ,k1,hr0,hf,Tryz.results189]
 have k1:decide ((q:Int)<(l.length:Int))=true:=decide_eq_true (by omega)
 have hat:=zlP l q hlt
 have hfe:zkF l q=if zaa l[q].name.data.toList=false then 6 else if 0<q/\leS l[q].name (atN l (q - 1)).name=true then 10 else if zbd l[q].dg=true then 1 else 0:=by unfold zkF;rw [hat]
 simp only [go_sem,hA,zwi,zJ,k1,Int.toNat_natCast,zcg l q hlt]
 refine⟨⟨by omega,by omega⟩,?_⟩
 refine gC (zrW l[q].name) ?_
 cases hp:zaa l[q].name.data.toList with
 | false=>
  rw [if_pos hp] at hfe
  rw [zS hf hlt (by rw [hfe];decide),hfe] at hr0
  simp only [go_sem,hA,hr0,Tryz.results189]
 | true=>
 rw [hp,if_neg (by simp)] at hfe
 have fin:∀ (e2:zkF l q=if zbd l[q].dg=true then 1 else 0),zkF l q=(if zbd l[q].dg=true then 1 else 0):=fun e=>e
 by_cases hq0:0<q
 ·have k2:decide ((0:Int)<(q:Int))=true:=decide_eq_true (by omega)
  have hq1:((q:Int) - 1).toNat=q - 1:=by omega
  have hat1:=zlP l (q - 1) (by omega)
  have hin:za ((q:Int) - 1):=by unfold za;omega
  rw [hat1,zCR] at hfe
  cases hls:ltS l[q - 1].name l[q].name with
  | false=>
   have hls':Op.bytesLess l[q - 1].name.data.toList l[q].name.data.toList=false:=hls
   rw [hls,if_pos ⟨hq0,rfl⟩] at hfe
   rw [zS hf hlt (by rw [hfe];decide),hfe] at hr0
   simp only [go_sem,hA,k2,zJ,hq1,Int.toNat_natCast,zcg l (q - 1) (by omega),zcg l q hlt,hls',hr0,mixed,Tryz.results189]
   exact⟨hin,⟨by omega,by omega⟩,⟨by omega,by omega⟩,by show chk _ _ _=true;kernel_rfl⟩
  | true=>
   have hls':Op.bytesLess l[q - 1].name.data.toList l[q].name.data.toList=true:=hls
   rw [hls,if_neg (by simp)] at hfe
   simp only [go_sem,hA,k2,zJ,hq1,Int.toNat_natCast,zcg l (q - 1) (by omega),zcg l q hlt,hls',mixed]
   refine⟨hin,⟨by omega,by omega⟩,⟨by omega,by omega⟩,by show chk _ _ _=true;kernel_rfl,⟨by omega,by omega⟩,?_⟩
   refine gC (zfJ l[q].dg) ?_
   cases hz:zbd l[q].dg with
   | true=>
    rw [if_pos hz] at hfe
    rw [zS hf hlt (by rw [hfe];decide),hfe] at hr0
    simp only [go_sem,hA,hr0,Tryz.results189]
   | false=>
    rw [hz,if_neg (by simp)] at hfe
    simp only [go_sem,hA]
    exact⟨by unfold za;omega,l.length - (q+1),by omega,q+1,by omega,rfl,zX hf hfe,rfl⟩
 ·have k2:decide ((0:Int)<(q:Int))=false:=decide_eq_false (by omega)
  rw [if_neg fun h=>hq0 h.1] at hfe
  simp only [go_sem,hA,k2,undef,mixed,zJ,Int.toNat_natCast,zcg l q hlt]
  refine⟨by show chk _ _ _=true;kernel_rfl,⟨by omega,by omega⟩,?_⟩
  refine gC (zfJ l[q].dg) ?_
  cases hz:zbd l[q].dg with
  | true=>
   rw [if_pos hz] at hfe
   rw [zS hf hlt (by rw [hfe];decide),hfe] at hr0
   simp only [go_sem,hA,hr0,Tryz.results189]
  | false=>
   rw [hz,if_neg (by simp)] at hfe
   simp only [go_sem,hA]
   exact⟨by unfold za;omega,l.length - (q+1),by omega,q+1,by omega,rfl,zX hf hfe,rfl⟩
abbrev zwj (o:Ob) (q:Nat):St:=⟨[(1,.box 0 0),(3,.d (.raw (.int .i64 q)))],[(0,some (obC o))],[]⟩
abbrev zsd (o:Ob) (q k:Nat):St:=⟨[(1,.box 0 0),(3,.d (.raw (.int .i64 q))),(4,.d (.raw (.int .i64 k)))],[(0,some (obC o))],[]⟩
theorem zyS {α:Type} (p:α->Bool) (l:List α) (k:Nat) (h:k<l.length):(l.take (k+1)).any p=((l.take k).any p || p l[k]):=by
 rw [List.take_succ_eq_append_getElem h,List.any_append];simp
theorem zBS {α:Type} (p:α->Bool) (l:List α) (q k:Nat) (hk:k<q) (hl:k<l.length) (h:p l[k]=true):(l.take q).any p=true:=by
 rw [List.any_eq_true]
 exact⟨l[k],List.mem_take_iff_getElem.2 ⟨k,by omega,rfl⟩,h⟩
theorem zuE (o:Ob) (hl:o.pars.length<=1099511627776):Con Tryz.prog 190 [zcY o] (.d (.raw (.int .i64 (ziO o)))):=by
 refine kO Tryz.func190 Tryz.ntmps190 fun A hA=>?_
 refine goC 400 ?_
 simp only [go_sem,hA]
 refine gC (zfJ o.tree) ?_
 cases hz:zbd o.tree with
 | true=>
  have hr:ziO o=1:=if_pos hz
  simp only [go_sem,hA,hr,Tryz.results190]
 | false=>
 by_cases h8:8<o.pars.length
 ·have g1:decide ((8:Int)<(o.pars.length:Int))=true:=decide_eq_true (by omega)
  have hr:ziO o=4:=by unfold ziO;rw [hz,if_neg (by simp),if_pos h8]
  simp only [go_sem,hA,zF,g1,hr,Tryz.results190]
 have g1:decide ((8:Int)<(o.pars.length:Int))=false:=decide_eq_false (by omega)
 have hr0:ziO o=if ¬ zH (zoi o.pars) o.pars.length=0 then zH (zoi o.pars) o.pars.length else
  if zaa o.author.data.toList=false then 6 else if o.time<0\/1099511627776<o.time then 2 else if 200<o.msg.size then 4 else 0:=by unfold ziO;rw [hz,if_neg (by simp),if_neg h8]
 simp only [go_sem,hA,zF,g1]
 refine zc [1,3] [0] [] (fun y σ=>∃ q:Nat,q<=o.pars.length/\y=o.pars.length - q/\zH (zoi o.pars) q=0/\σ=zwj o q) o.pars.length ⟨0,by omega,by omega,rfl,by simp only [go_sem,zwj]⟩ ?_
 rintro y σ ⟨q,hq,rfl,hf,rfl⟩
 refine goC 400 ?_
 by_cases hlt:q<o.pars.length
 case neg=>
  have k1:decide ((q:Int)<(o.pars.length:Int))=false:=decide_eq_false (by omega)
  obtain rfl:q=o.pars.length:=by omega
  rw [if_neg (by simp [hf])] at hr0
  simp only [go_sem,hA,zwj,zF,k1]
  refine gC (zrW o.author) ?_
  cases hv:zaa o.author.data.toList with
  | false=>
   rw [if_pos hv] at hr0
   simp only [go_sem,hA,hr0,Tryz.results190]
  | true=>
  rw [hv,if_neg (by simp)] at hr0
  by_cases t0:o.time<0
  ·have d0:decide (o.time<0)=true:=decide_eq_true t0
   rw [if_pos (.inl t0)] at hr0
   simp only [go_sem,hA,d0,undef,hr0,Tryz.results190]
  have d0:decide (o.time<0)=false:=decide_eq_false t0
  by_cases t1:1099511627776<o.time
  ·have d1:decide (1099511627776<o.time)=true:=decide_eq_true t1
   rw [if_pos (.inr t1)] at hr0
   simp only [go_sem,hA,d0,d1,hr0,Tryz.results190]
  have d1:decide (1099511627776<o.time)=false:=decide_eq_false t1
  rw [if_neg (by omega)] at hr0
  by_cases t2:200<o.msg.size
  ·have d2:decide ((200:Int)<(o.msg.size:Int))=true:=decide_eq_true (by omega)
   rw [if_pos t2] at hr0
   simp only [go_sem,hA,d0,d1,d2,hr0,Tryz.results190]
  have d2:decide ((200:Int)<(o.msg.size:Int))=false:=decide_eq_false (by omega)
  rw [if_neg t2] at hr0
  simp only [go_sem,hA,d0,d1,d2,hr0,Tryz.results190]
 have k1:decide ((q:Int)<(o.pars.length:Int))=true:=decide_eq_true (by omega)
 have hfe:zoi o.pars q=if zbd o.pars[q]=true then 1 else if (o.pars.take q).any (fun d=>decide (d=o.pars[q]))=true then 7 else 0:=by unfold zoi;rw [zwT _ q hlt]
 simp only [go_sem,hA,zwj,zF,k1,Int.toNat_natCast,zdj o.pars q hlt]
 refine⟨⟨by omega,by omega⟩,?_⟩
 refine gC (zfJ o.pars[q]) ?_
 cases hz2:zbd o.pars[q] with
 | true=>
  rw [if_pos hz2] at hfe
  rw [zS hf hlt (by rw [hfe];decide),hfe,if_pos (by decide)] at hr0
  simp only [go_sem,hA,hr0,Tryz.results190]
 | false=>
 rw [hz2,if_neg (by simp)] at hfe
 simp only [go_sem,hA]
 refine zc [1,3,4] [0] [] (fun y σ=>∃ k:Nat,k<=q/\y=q - k/\(o.pars.take k).any (fun d=>decide (d=o.pars[q]))=false/\σ=zsd o q k) q ⟨0,by omega,by omega,rfl,by simp only [go_sem,zsd]⟩ ?_
 rintro y σ ⟨k,hk,rfl,hf2,rfl⟩
 refine goC 400 ?_
 by_cases hkq:k<q
 case neg=>
  have k2:decide ((k:Int)<(q:Int))=false:=decide_eq_false (by omega)
  obtain rfl:k=q:=by omega
  rw [hf2,if_neg (by simp)] at hfe
  simp only [go_sem,hA,zsd,k2]
  exact⟨by unfold za;omega,o.pars.length - (k+1),by omega,k+1,by omega,rfl,zX hf hfe,rfl⟩
 have k2:decide ((k:Int)<(q:Int))=true:=decide_eq_true (by omega)
 have hkl:k<o.pars.length:=by omega
 by_cases heq:o.pars[k]=o.pars[q]
 ·have hany:=zBS (fun d=>decide (d=o.pars[q])) o.pars q k hkq hkl (decide_eq_true heq)
  rw [if_pos hany] at hfe
  rw [zS hf hlt (by rw [hfe];decide),hfe,if_pos (by decide)] at hr0
  have e1:(decide (o.pars[k].1=o.pars[q].1) && decide (o.pars[k].2=o.pars[q].2))=true:=by rw [heq];simp
  simp only [go_sem,hA,zsd,k2,zF,Int.toNat_natCast,zdj o.pars q hlt,zdj o.pars k hkl,zT,e1,hr0,Tryz.results190]
  exact⟨⟨by omega,by omega⟩,⟨by omega,by omega⟩,by show chk _ _ _=true;kernel_rfl⟩
 ·have e1:(decide (o.pars[k].1=o.pars[q].1) && decide (o.pars[k].2=o.pars[q].2))=false:=by
   rw [<- Bool.not_eq_true]
   intro h
   simp only [Bool.and_eq_true,decide_eq_true_eq] at h
   exact heq (Prod.ext h.1 h.2)
  simp only [go_sem,hA,zsd,k2,zF,Int.toNat_natCast,zdj o.pars q hlt,zdj o.pars k hkl,zT,e1]
  exact⟨⟨by omega,by omega⟩,⟨by omega,by omega⟩,by show chk _ _ _=true;kernel_rfl,by unfold za;omega,q - (k+1),by omega,k+1,by omega,rfl,by rw [zyS _ _ _ hkl,hf2,decide_eq_false heq];rfl,rfl⟩
end
end Go.Proofs.YtpnjjmcimjlfkaaGreatDoor
