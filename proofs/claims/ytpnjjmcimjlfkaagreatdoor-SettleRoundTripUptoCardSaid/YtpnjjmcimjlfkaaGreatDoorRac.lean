/- Texts of this proof, part 3: what the proof uses of them. -/
import Derived.Test.YtpnjjmcimjlfkaaGreatDoorRab
import Derived.Deep.DeepAppendWide
import Derived.Lib.AppendStr
import Derived.MapKept
import Derived.Maps.RangeRun
import Derived.Laws.BytesArg
import Derived.Laws.StructEq
set_option maxRecDepth 100000
set_option maxHeartbeats 64000000
namespace Go.Proofs.YtpnjjmcimjlfkaaGreatDoor
section
open Go Go.RowKit
variable {P:Program} {A:Base P} {σ:St} {g:Gh} {a:Act} {w:World}
theorem zkz (off:Nat):∀ (l:List Value) (k:Nat) (cs:Array Value),((l.zipIdx k).foldl (fun cs (x:Value × Nat)=>cs.setIfInBounds (off+x.2) x.1) cs).size=cs.size /\
  ∀ m,((l.zipIdx k).foldl (fun cs (x:Value × Nat)=>cs.setIfInBounds (off+x.2) x.1) cs)[m]? = if off+k<=m/\m<off+k+l.length/\m<cs.size then l[m - (off+k)]? else cs[m]?
 | [],k,cs=>by simp;intro m h1 h2;omega
 | v :: l,k,cs=>by
  obtain⟨h1,h2⟩:=zkz off l (k+1) (cs.setIfInBounds (off+k) v)
  simp only [List.zipIdx_cons,List.foldl_cons]
  refine⟨by rw [h1];simp,fun m=>?_⟩
  rw [h2]
  simp only [Array.size_setIfInBounds,List.length_cons]
  by_cases c1:m=off+k
  ·subst c1
   rw [if_neg (by omega)]
   by_cases c2:off+k<cs.size
   ·rw [if_pos (by omega)]
    simp [c2]
   ·rw [if_neg (by omega),Array.getElem?_eq_none (by simpa using Nat.le_of_not_lt c2),Array.getElem?_eq_none (Nat.le_of_not_lt c2)]
  ·by_cases c2:off+(k+1)<=m/\m<off+(k+1)+l.length/\m<cs.size
   ·rw [if_pos c2,if_pos (by omega)]
    have:m - (off+k)=(m - (off+(k+1)))+1:=by omega
    rw [this,List.getElem?_cons_succ]
   ·rw [if_neg c2,if_neg (by omega),Array.getElem?_setIfInBounds_ne (by omega)]
theorem zkC (size:Nat):∀ (l:List Value) (k:Nat) (cs:Array Value),(∀ v ∈ l,v.cells.size=size)->(k+l.length) * size<=cs.size ->
  ∃ cs',Instr.fill (fun i=>some (i * size,size)) cs ((l.zipIdx k).map fun x=>(x.2,x.1))=some cs'/\cs'.size=cs.size/\(∀ i (hi:i<l.length) j,j<size->cs'[(k+i) * size+j]? = l[i].cells[j]?)/\∀ m,m<k * size->cs'[m]? = cs[m]?
 | [],k,cs,_,_=>⟨cs,by simp [Instr.fill],rfl,fun i hi=>by simp at hi,fun _ _=>rfl⟩
 | v :: l,k,cs,hv,hs=>by
  have hvs:v.cells.size=size:=hv v (by simp)
  have hk:k * size+size<=cs.size:=by
   simp only [List.length_cons] at hs
   have:=Nat.mul_le_mul_right size (show k+1<=k+(l.length+1) by omega)
   rw [Nat.add_mul] at this;omega
  obtain⟨f1,f2⟩:=zkz (k * size) v.cells.toList 0 cs
  have ef:v.cells.zipIdx.foldl (fun cs (x:Value × Nat)=>cs.setIfInBounds (k * size+x.2) x.1) cs=(v.cells.toList.zipIdx 0).foldl (fun cs (x:Value × Nat)=>cs.setIfInBounds (k * size+x.2) x.1) cs:=by
   rw [<- Array.foldl_toList,Array.toList_zipIdx]
  obtain⟨cs',h1,h2,h3,h4⟩:=zkC size l (k+1) (v.cells.zipIdx.foldl (fun cs (x:Value × Nat)=>cs.setIfInBounds (k * size+x.2) x.1) cs) (fun u hu=>hv u (by simp [hu])) (by
   rw [ef,f1];simp only [List.length_cons] at hs;rw [show k+1+l.length=k+(l.length+1) by omega];exact hs)
  refine⟨cs',?_,?_,fun i hi j hj=>?_,fun m hm=>?_⟩
  ·simp only [List.zipIdx_cons,List.map_cons,Instr.fill]
   rw [if_neg (by simp [hvs];omega)]
   exact h1
  ·rw [h2,ef,f1]
  ·cases i with
   | zero=>
    simp only [Nat.add_zero,List.getElem_cons_zero]
    rw [h4 _ (by rw [Nat.add_mul];omega),ef,f2,if_pos (by simp;omega)]
    simp
   | succ i=>
    have:=h3 i (by simpa using hi) j hj
    rw [show k+(i+1)=k+1+i by omega,this]
    simp
  ·rw [h4 m (by rw [Nat.add_mul];omega),ef,f2,if_neg (by omega)]
def zgY:List AV->Option (List (List D))
 | []=>some []
 | x :: xs=>match zlU x.cells,zgY xs with
  | some r,some rs=>some (r :: rs)
  | _,_=>none
theorem zkM:∀ {xs:List AV} {ys:List (List D)},zgY xs=some ys->xs.length=ys.length/\∀ i (hi:i<xs.length) (hy:i<ys.length),zlU xs[i].cells=some ys[i]
 | [],ys,h=>by cases h;simp
 | x :: xs,ys,h=>by
  unfold zgY at h
  split at h
  ·rename_i y ys' h1 h2
   cases h
   obtain⟨h3,h4⟩:=zkM h2
   refine⟨by simp [h3],fun i hi hy=>?_⟩
   cases i with
   | zero=>simpa using h1
   | succ i=>simpa using h4 i (by simpa using hi) (by simpa using hy)
  ·cases h
theorem zig (hk:Ok A σ g a w) {o:Oper} {t e:TypeId} {l:List Operand} {rows:List (List D)} {z:Value} (ho:o.op = .buildSlice t l.length (l.zipIdx.map fun x=>(x.2,x.1)).toArray) (ht:P.underlying t=some (.slice e)) (hz:zx P e=some z) (hzs:z.cells.size=P.cellsOf e) (h0:P.cellsOf e≠0)
  (hr:zgY (l.map σ.eval)=some rows) (h1:∀ p ∈ l,(σ.eval p).cells.all AV.one=true/\(σ.eval p).cells.length=P.cellsOf e) (hlim:l.length * P.cellsOf e<=2 ^ 24) :
  ∃ arr:Array Value,(execOp a.eval o).run P w = .ok (.value (.slice (some ⟨w.heap.size,0,none⟩) l.length l.length)) (w.alloc (.cells arr e))/\rows.length=l.length/\l.length<=maxLen/\arr.size=l.length * P.cellsOf e/\(∀ i (h:i<rows.length),rows[i].length=P.cellsOf e) /\
   ∀ i (hi:i<rows.length) j (hj:j<rows[i].length),∃ u,arr[i * P.cellsOf e+j]? = some u/\Reads w g.F rows[i][j] u:=by
 obtain⟨hl,hg⟩:=zkM hr
 simp only [List.length_map] at hl hg
 have hcells:∀ p ∈ l,(a.eval p).cells.size=P.cellsOf e:=fun p hp=>by
  have:=((hk.eval p).cells (h1 p hp).1).1
  rw [(h1 p hp).2] at this
  simpa using this.symm
 obtain⟨cs',f1,f2,f3,_⟩:=zkC (P.cellsOf e) (l.map a.eval) 0 ((Array.range (l.length * P.cellsOf e)).map (z.cells[· % z.cells.size]!)) (fun v hv=>by
  obtain⟨p,hp,rfl⟩:=List.mem_map.1 hv
  exact hcells p hp) (by simp)
 have hrow:∀ i (h:i<rows.length),rows[i].length=P.cellsOf e:=fun i hi=>by
  have:=(zex (hg i (by omega) hi)).1
  rw [List.getElem_map] at this
  rw [<- this];exact(h1 _ (List.getElem_mem _)).2
 refine⟨cs',?_,hl.symm,by unfold maxLen;have:l.length<=l.length * P.cellsOf e:=Nat.le_mul_of_pos_right _ (by omega);omega,by rw [f2];simp,hrow,fun i hi j hj=>by
  have hil:i<l.length:=by omega
  have h2:=f3 i (by simpa using hil) j (by rw [<- hrow i hi];exact hj)
  rw [Nat.zero_add,List.getElem_map] at h2
  have hd:=zex (hg i hil hi)
  rw [List.getElem_map] at hd
  obtain⟨c1,c2,c3⟩:=(hk.eval l[i]).cells (h1 _ (List.getElem_mem _)).1
  have hj1:j<(σ.eval l[i]).cells.length:=by rw [hd.1];exact hj
  have hj2:j<(a.eval l[i]).cells.toList.length:=by rw [<- c1];exact hj1
  refine⟨(a.eval l[i]).cells.toList[j],?_,(c3 j hj1 hj2).toD (hd.2 j hj1 hj)⟩
  rw [h2]
  have:j<(a.eval l[i]).cells.size:=by simpa using hj2
  simp [this]⟩
 obtain⟨i,hi,hzi⟩:∃ i,P.info? e=some i/\i.zero=some z:=by
  unfold zx at hz
  cases hi:P.info? e with
  | none=>simp [hi] at hz
  | some i=>exact⟨i,rfl,by simpa [hi] using hz⟩
 have hsz:i.size=P.cellsOf e:=by simp [Program.cellsOf,hi]
 have hparts:((l.zipIdx.map fun x=>(x.2,x.1)).toArray.map fun(x:Nat × Operand)=>(x.1,a.eval x.2)).toList=((l.map a.eval).zipIdx 0).map fun x=>(x.2,x.1):=by
  simp only [List.map_toArray,List.map_map]
  rw [List.zipIdx_map,List.map_map]
  rfl
 have hlim':¬ l.length * P.cellsOf e > 2 ^ 24:=by omega
 by_cases hl0:l.length * P.cellsOf e=0
 ·have hl1:l.length=0:=by
   rcases Nat.mul_eq_zero.1 hl0 with h | h
   ·exact h
   ·exact absurd h h0
  have hnil:l=[]:=List.eq_nil_of_length_eq_zero hl1
  subst hnil
  simp only [List.length_nil,Nat.zero_mul,List.map_nil,List.zipIdx_nil,Instr.fill,Option.some.injEq] at f1
  subst f1
  have he:(Array.range 0).map (fun x=>z.cells[x % z.cells.size]!)=#[]:=by simp [Array.range_zero']
  rw [he]
  simp [execOp,ho,Instr.buildSlice,run_underlying ht,zab h0,Instr.fill,newRow,Array.range_zero']
 ·simp only [execOp,ho,Instr.buildSlice,Sem.run_bind,run_underlying ht,Result.andThen_ok,zab h0,if_neg hlim',if_neg hl0,zeroValue,typeInfo,run_program,hi,hzi,Sem.run_pure,hparts,f1]
  simp [newRow]
theorem zlv {o:Oper} {t e:TypeId} {l:List Operand} {rows:List (List D)} {me:Nat} {z:Value} (ho:o.op = .buildSlice t l.length (l.zipIdx.map fun x=>(x.2,x.1)).toArray) (ht:P.underlying t=some (.slice e)) (hz:zx P e=some z) (hzs:z.cells.size=P.cellsOf e) (h0:P.cellsOf e≠0)
  (hr:zgY (l.map σ.eval)=some rows) (h1:∀ p ∈ l,(σ.eval p).cells.all AV.one=true/\(σ.eval p).cells.length=P.cellsOf e) (hlim:l.length * P.cellsOf e<=2 ^ 24) (hm:σ.free A me) :
  OpOk P A o σ (σ.setTok me (some ⟨P.cellsOf e,e,l.length,none⟩)) (.grow me rows):=by
 refine zaI fun g a w hk=>?_
 obtain⟨arr,hrun,e1,e2,e3,e4,e5⟩:=zig hk ho ht hz hzs h0 hr h1 hlim
 obtain⟨g',hok,hh⟩:=hk.newTok (me:=me) (st:=P.cellsOf e) (n:=l.length) (cap:=l.length) (ty:=e) (arr:=arr) (rows:=rows) hm e1 (Nat.le_refl _) e2 e3 e4 e5
 exact⟨g',_,_,hrun,hok,hh⟩
theorem zor {o:Oper} {t e:TypeId} {l:List Operand} {rows:List (List D)} (me:Nat) {z:Value} (ho:o.op = .buildSlice t l.length (l.zipIdx.map fun x=>(x.2,x.1)).toArray) (ht:P.underlying t=some (.slice e)) (hz:zx P e=some z) (hzs:z.cells.size=P.cellsOf e) (h0:P.cellsOf e≠0)
  (hr:zgY (l.map σ.eval)=some rows) (h1:∀ p ∈ l,(σ.eval p).cells.all AV.one=true/\(σ.eval p).cells.length=P.cellsOf e) (hlim:l.length * P.cellsOf e<=2 ^ 24) (hm:σ.free A me) :
  OpOk P A o σ (σ.setTok me (some ⟨P.cellsOf e,e,0,some rows⟩)) (.stk me (P.cellsOf e) 0 0 l.length):=by
 refine zaI fun g a w hk=>?_
 obtain⟨arr,hrun,e1,e2,e3,e4,e5⟩:=zig hk ho ht hz hzs h0 hr h1 hlim
 have hb:Below w.heap.size w (w.alloc (.cells arr e)):=(Below.refl _ _).alloc (Nat.le_refl _) _
 obtain⟨h2,ex⟩:=hk.grown hb g.F (fun _ _ h=>h) (fun _ _ h=>.inl h)
 have hsz:arr.toList.length=rows.length * P.cellsOf e:=by rw [e1];simpa using e3
 have h3:=h2.addTok (k:=⟨P.cellsOf e,e,0,some rows⟩) (v:=.slice (some ⟨w.heap.size,0,none⟩) l.length l.length) hm ⟨arr.toList,by
   refine⟨hsz,.inr ⟨_,l.length,arr,?_,Nat.zero_le _,heap_alloc_new w _,Nat.le_of_eq e1,e2,e3,?_⟩⟩
   ·show Value.slice _ _ _ = .slice _ rows.length _;rw [e1]
   ·show List.take (rows.length * P.cellsOf e) arr.toList=arr.toList
    rw [List.take_of_length_le (by omega)],
  fun x hx=>.inl (by have e2:w.heap.size=x:=Option.some.inj hx;rw [<- e2];exact hk.hB),fun rows' hr'=>by cases hr';exact⟨e4,fun i hi j hj=>by
   obtain⟨u,h4,h5⟩:=e5 i hi j hj
   exact⟨u,by simpa using h4,h5.mono ex.hF ex.hw⟩⟩⟩ (fun x hx o hf=>by
   have e2:w.heap.size=x:=Option.some.inj hx
   have:=hk.Fb _ o hf;omega) (fun r k x hr' hx e=>by
   have e1:w.heap.size=x:=Option.some.inj hx
   have e2:x=g.m r:=e
   have:=(hk.blk r k hr').2.lt;omega) (fun r k x hr' hx e=>by
   have e1:w.heap.size=x:=Option.some.inj hx
   have:=(hk.tok r k hr').lt e;omega)
 refine⟨_,_,_,hrun,h3,.stk me _ 0 0 _ _ _ (Nat.le_refl _) (fun _=>⟨_,_,rfl⟩) fun n hn=>?_⟩
 simp only [St.tk,St.tok_setTok,if_pos,Option.map_some,Option.some.injEq] at hn
 subst hn
 refine⟨Nat.le_refl _,fun _=>?_⟩
 simp only [zp]
 exact⟨by simp [zfd,Addr.add],by simp [zpV]⟩
theorem zef {t e ty:TypeId} {v x:Value} {n:Nat} (ht:P.underlying t=some (.slice e)) (h0:P.cellsOf e≠0) (hv:(v = .slice none 0 0/\n=0)\/∃ g cap,v = .slice (some ⟨g,0,none⟩) n cap/\n<=cap) (hx:∃ q c,x = .slice q 0 c) :
  (Builtin.append_ #[t,t] ty #[v,x]).run P w = .ok v w:=by
 obtain⟨q,c,rfl⟩:=hx
 have hf:(Builtin.firstCells (P.cellsOf e) 0 (.slice q 0 c)).run P w = .ok #[] w:=by
  cases q with
  | none=>simp [Builtin.firstCells]
  | some b=>simp [Builtin.firstCells,loadCells,loadCellsFrom]
 rcases hv with⟨rfl,rfl⟩ | ⟨b,cap,rfl,hc⟩
 ·simp [Builtin.append_,run_underlying ht,zab h0,Builtin.lenOf,hf]
 ·simp [Builtin.append_,run_underlying ht,zab h0,Builtin.lenOf,hf,hc,storeCells]
def zam (st:Nat) (rows:List (List D)):Prop:=∀ r ∈ rows,r.length=st/\∀ x ∈ r,D.one x=true
theorem zje {w w':World} {F G:Nat->Nat->Prop} {B st n m:Nat} {ty:TypeId} {v v':Value} {xs news:List Value} {rows rows2:List (List D)} (hrd:Reads w F (.sl rows) v) (hown:w.ownsRow B ty st v n xs) (hown':w'.ownsRow B ty st v' (n+m) (xs++news)) (hl:rows.length=n) (hl2:rows2.length=m) (hfit0:∀ r ∈ rows,r.length=st) (hfit:∀ r ∈ rows2,r.length=st)
  (hG:∀ b o,v'.ownBlock=some b->o<(n+m) * st->G b o) (hFG:∀ b o,F b o->G b o) (hw:∀ b o u,F b o->w.cell? ⟨b,o,none⟩=some u->w'.cell? ⟨b,o,none⟩=some u)
  (hnr:∀ i (hi:i<rows2.length) j (hj:j<rows2[i].length),∃ u,news[i * st+j]? = some u/\Reads w F rows2[i][j] u):Reads w' G (.sl (rows++rows2)) v':=by
 subst hl hl2
 rcases hown'.2 with⟨h1,h2⟩ | ⟨gb2,cap2,cur,hv2,_,_,hcap,_⟩
 ·have e1:rows=[]:=List.eq_nil_of_length_eq_zero (by omega)
  have e2:rows2=[]:=List.eq_nil_of_length_eq_zero (by omega)
  subst e1 e2
  rw [h1];exact .nil _ _
 ·rw [hv2,<- List.length_append]
  have hcell':=hown'.cells (g:=gb2) (by rw [hv2];rfl)
  have hall:∀ r ∈ rows++rows2,r.length=st:=fun r hr=>(List.mem_append.1 hr).elim (hfit0 r) (hfit r)
  refine Reads.mk (st:=st) (by rw [List.length_append];omega) (fun i hi=>hall _ (List.getElem_mem hi)) fun i hi j hj=>?_
  have hjs:j<st:=by rw [<- hall _ (List.getElem_mem hi)];exact hj
  have hi':i<rows.length+rows2.length:=by rw [<- List.length_append];exact hi
  have hlim:i * st+j<(rows.length+rows2.length) * st:=by
   have:=Nat.mul_le_mul_right st (show i+1<=rows.length+rows2.length by omega)
   rw [Nat.add_mul] at this;omega
  refine⟨hG _ _ (by rw [hv2];rfl) (by omega),?_⟩
  by_cases hlt:i<rows.length
  ·have hrow:(rows++rows2)[i]=rows[i]:=List.getElem_append_left hlt
   have hj1:j<rows[i].length:=by rw [<- hrow];exact hj
   have hel:(rows++rows2)[i][j]=rows[i][j]:=by congr 1
   have hst1:rows[i].length=st:=hfit0 _ (List.getElem_mem hlt)
   obtain⟨q,cc,hve2,_⟩:=hrd.slice
   rw [hve2] at hrd
   obtain⟨b1,off1,rfl,hc1⟩:=hrd.row i hlt hst1
   obtain⟨_,u,hu,hru⟩:=hc1 j hj1
   rcases hown.2 with⟨h5,h6⟩ | ⟨gb,cap,cur1,h5,_⟩
   ·omega
   ·rw [hve2] at h5
    injection h5 with h7 _ _
    injection h7 with h8
    have hb1:b1=gb:=congrArg Addr.block h8
    have ho1:off1=0:=congrArg Addr.off h8
    subst hb1 ho1
    have hm1:i * st+j<xs.length:=by
     rw [hown.1]
     have:=Nat.mul_le_mul_right st (show i+1<=rows.length by omega)
     rw [Nat.add_mul] at this;omega
    have h9:=hown.cells (g:=b1) (by rw [hve2];rfl) (i * st+j) xs[i * st+j] (List.getElem?_eq_getElem hm1)
    rw [Addr.add_lit] at h9
    have hu':xs[i * st+j]=u:=by
     rw [Nat.add_assoc] at hu
     exact Option.some.inj (h9.symm.trans hu)
    have h10:=hcell' (i * st+j) u (by rw [List.getElem?_append_left hm1,List.getElem?_eq_getElem hm1,hu'])
    rw [Addr.add_lit] at h10
    rw [hel]
    exact⟨u,by rw [Nat.add_assoc];exact h10,hru.mono hFG hw⟩
  ·have hi2:i - rows.length<rows2.length:=by omega
   have hrow:(rows++rows2)[i]=rows2[i - rows.length]:=List.getElem_append_right (by omega)
   have hj1:j<rows2[i - rows.length].length:=by rw [<- hrow];exact hj
   have hel:(rows++rows2)[i][j]=rows2[i - rows.length][j]:=by congr 1
   obtain⟨u,hu,hru⟩:=hnr _ hi2 j hj1
   have hmul:=Nat.mul_le_mul_right st (show rows.length<=i by omega)
   have hidx:i * st+j - xs.length=(i - rows.length) * st+j:=by rw [hown.1,Nat.sub_mul];omega
   have h10:=hcell' (i * st+j) u (by rw [List.getElem?_append_right (by rw [hown.1];omega),hidx];exact hu)
   rw [Addr.add_lit] at h10
   rw [hel]
   exact⟨u,by rw [Nat.add_assoc];exact h10,hru.mono hFG hw⟩
theorem Ok.appended (hk:Ok A σ g a w) {r:Nat} {k:Tok} {rows rows2:List (List D)} {v x:Value} {t ty:TypeId} {z:Value} (hr:σ.tok r=some k) (hex:k.ex=none) (hv:Has g σ.tk w (.grow r rows) v) (hlen:rows.length=k.len) (hx:Reads w g.F (.sl rows2) x)
  (ht:P.underlying t=some (.slice k.ty)) (hz:zx P k.ty=some z) (hzs:z.cells.size=P.cellsOf k.ty) (h0:P.cellsOf k.ty≠0) (hst:P.cellsOf k.ty=k.st) (hby:P.bytesOf k.ty<=128) (hfit:zam k.st rows2) (hfit0:∀ r ∈ rows,r.length=k.st) (hbd:rows.length+rows2.length<=1099511627776) :
  ∃ g' v' w',(Builtin.append_ #[t,t] ty #[v,x]).run P w = .ok v' w'/\Ok A (σ.setTok r (some { k with len:=k.len+rows2.length })) g' a w'/\Has g' (σ.setTok r (some { k with len:=k.len+rows2.length })).tk w' (.grow r (rows++rows2)) v':=by
 obtain⟨hrd,htv⟩:=hv.grow_eq
 have hve:v=g.tv r:=(htv k.len (by simp [St.tk,hr])).2 hlen
 obtain⟨xs,hown⟩:=(hk.tok r k hr).own hex
 have htk:(σ.setTok r (some { k with len:=k.len+rows2.length })).tk r=some (k.len+rows2.length):=by simp [St.tk,St.tok_setTok]
 by_cases hm:rows2=[]
 ·subst hm
  obtain⟨q,c,hxe,_⟩:=hx.slice
  have hr0:=zef (P:=P) (w:=w) (t:=t) (ty:=ty) (v:=v) (x:=x) (n:=k.len) ht h0 (by
   rw [hve]
   rcases hown.2 with h1 | ⟨b,cap,cur,h1,_,_,h2,_⟩
   ·exact .inl h1
   ·exact .inr ⟨b,cap,h1,h2⟩) ⟨q,c,hxe⟩
  have hg:w.grownBy w (g.tv r).ownBlock:=⟨rfl,rfl,rfl,Nat.le_refl _,fun _ _ _=>rfl⟩
  obtain⟨h1,e1⟩:=hk.append (m:=0) (v':=g.tv r) (w':=w) (xs:=xs) hr hex (by simpa using hown) hg (Below.refl _ _) (fun _ _ _ _=>rfl) (.inl rfl) (fun _=>rfl)
  refine⟨_,v,w,hr0,h1,.grow r _ _ ?_ fun n' hn'=>?_⟩
  ·rw [List.append_nil];exact hrd.mono e1.hF e1.hw
  ·simp only [List.append_nil,List.length_nil,Nat.add_zero] at hn' ⊢
   simp only [St.tk,St.tok_setTok,if_pos,Option.map_some,Option.some.injEq] at hn'
   subst hn'
   exact⟨by omega,fun _=>by simp only [zp];exact hve⟩
 ·obtain⟨b,off,c,news,hxe,hnl,hnews,hone,hnr⟩:=hx.news (st:=k.st) (fun q hq=>(hfit q hq).1) (fun q hq=>(hfit q hq).2) hm
  obtain⟨i,hi,hzi⟩:∃ i,P.info? k.ty=some i/\i.zero=some z:=by
   unfold zx at hz
   cases hi:P.info? k.ty with
   | none=>simp [hi] at hz
   | some i=>exact⟨i,rfl,by simpa [hi] using hz⟩
  have hsz:i.size=k.st:=by rw [<- hst];simp [Program.cellsOf,hi]
  have hbi:i.bytes=P.bytesOf k.ty:=by simp [Program.bytesOf,hi]
  have hbb:(k.len+rows2.length) * P.bytesOf k.ty<=140737488355328:=by
   have h1:=Nat.mul_le_mul (show k.len+rows2.length<=1099511627776 by omega) hby
   omega
  obtain⟨v',w',hr',hown',hg,_,hat⟩:=run_append_own_at (P:=P) w A.B t ty k.ty i z k.st (P.bytesOf k.ty) ht hi hzi hsz hbi (by rw [hzs,hst]) (by omega) (g.tv r) k.len xs hown ⟨b,off,none⟩ rows2.length c news hnl hnews hone (by unfold maxLen;omega) hbb hk.hB
  have hbel:Below A.B w w':=⟨hg.os,hg.tape,hg.output,hg.size,fun q hq=>hg.block q (by have:=hk.hB;omega) (fun e=>by have:=(hown.lt q e.symm).1;omega)⟩
  have hxs:xs.length=k.len * k.st:=hown.1
  have hpos2:0<rows2.length:=by
   cases rows2 with
   | nil=>exact absurd rfl hm
   | cons=>simp
  -- either the same block,or a new one,and the elder block is asL it was
  have hat2:v'.ownBlock=(g.tv r).ownBlock\/∀ q,q<w.heap.size->w'.heap[q]? = w.heap[q]?:=by
   rcases hown.2 with⟨h1,h2⟩ | ⟨gb,cap,cur,h1,_,h3,h4,_⟩
   ·have hr2:=run_append_nil (P:=P) (w:=w) t ty k.ty i z ht hi hzi ⟨b,off,none⟩ rows2.length c news (by rw [hnl,hsz]) hnews hpos2 (by omega) (by rw [hbi];have:=Nat.mul_le_mul (show rows2.length<=1099511627776 by omega) hby;omega)
    rw [h1] at hr'
    rw [hr'] at hr2
    injection hr2 with _ hw2
    right
    intro q hq
    rw [hw2]
    exact Below.heap_alloc w.drew _ q hq
   ·by_cases hroom:k.len+rows2.length<=cap
    ·have hcs:k.len * i.size+news.length<=cur.size:=by
      rename_i _ h6
      obtain⟨_,h6,_⟩:=h6
      rw [hnl,hsz,h6,<- Nat.add_mul]
      exact Nat.mul_le_mul_right _ hroom
     have hr2:=run_append_room (P:=P) w t ty k.ty i ht hi gb k.len cap cur h3 ⟨b,off,none⟩ rows2.length c news (by rw [hnl,hsz]) hnews hone hroom hcs
     rw [h1] at hr'
     rw [hr'] at hr2
     injection hr2 with hv2 _
     left
     rw [hv2,h1];rfl
    ·have holds:=hown.cells (g:=gb) (by rw [h1];rfl)
     have hr2:=run_append_grow (P:=P) w t ty k.ty i z ht hi hzi ⟨gb,0,none⟩ k.len cap xs (by rw [hown.1,hsz]) holds ⟨b,off,none⟩ rows2.length c news (by rw [hnl,hsz]) hnews (by omega) (by omega) (growslice_fits_wide (by omega) (by
      rw [hbi]
      have:=Nat.mul_le_mul (show k.len+rows2.length+(k.len+rows2.length) / 4+192<=2199023255552 by omega) hby
      omega))
     rw [h1] at hr'
     rw [hr'] at hr2
     injection hr2 with _ hw2
     right
     intro q hq
     rw [hw2]
     exact Below.heap_alloc w.drew _ q hq
  have hkeep:∀ q o,(g.tv r).ownBlock=some q->o<k.len * k.st->w'.cell? ⟨q,o,none⟩=w.cell? ⟨q,o,none⟩:=fun q o hq ho=>by
   rcases hat2 with h2 | h2
   ·have h1:=hown.cells (g:=q) hq o xs[o] (List.getElem?_eq_getElem (by omega))
    rw [Addr.add_lit,Nat.zero_add] at h1
    rw [h1]
    have h3:=hown'.cells (g:=q) (h2.trans hq) o xs[o] (by rw [List.getElem?_append_left (by omega)];exact List.getElem?_eq_getElem (by omega))
    rw [Addr.add_lit,Nat.zero_add] at h3
    exact h3
   ·exact zaZ (h2 q (hown.lt q hq).2)
  obtain⟨h1,e1⟩:=hk.append (m:=rows2.length) (v':=v') (w':=w') (xs:=xs++news) hr hex hown' hg hbel hkeep hat (fun h=>absurd (List.eq_nil_of_length_eq_zero h) hm)
  refine⟨_,v',w',by rw [hve,hxe];exact hr',h1,.grow r _ _ ?_ fun n' hn'=>?_⟩
  ·exact zje (hve ▸ hrd) hown hown' hlen rfl hfit0 (fun q hq=>(hfit q hq).1) (fun b o hb ho=>.inr ⟨hb,ho⟩) e1.hF e1.hw hnr
  ·rw [htk] at hn'
   cases hn'
   exact⟨by rw [List.length_append];omega,fun _=>by simp only [zp]⟩
def zC (l:List UInt8):List (List D):=l.map fun c=>[.raw (.int .u8 c.toNat)]
theorem zh (l:List UInt8):(zC l).length=l.length:=by simp [zC]
theorem zdA (l:List UInt8) (i:Nat) (h:i<l.length) (h':i<(zC l).length):(zC l)[i]=[.raw (.int .u8 l[i].toNat)]:=by simp [zC]
theorem znK (l:List UInt8):∀ r ∈ zC l,r.length=1:=fun r hr=>by
 obtain⟨c,_,rfl⟩:=List.mem_map.1 hr
 rfl
def AtS (w w':World) (v v':Value) (s:ByteArray):Prop:=(v'.ownBlock=v.ownBlock\/(v'.ownBlock=some w.heap.size/\∀ q,q<w.heap.size->w'.heap[q]? = w.heap[q]?))/\(s.size=0->v'=v)
theorem ziq (w:World) (base:Nat) (t u ty e:TypeId) (i:TypeInfo) (ht:P.underlying t=some (.slice e)) (hu:P.underlying u=some .string) (hi:P.info? e=some i) (hz:i.zero=some (.int .u8 0))
  (hsize:i.size=1) (hby:i.bytes=1) (v:Value) (n:Nat) (xs:List Value) (hown:w.ownsRow base e 1 v n xs) (s:ByteArray) (hbytes:n+s.size<=140737488355328) (hbase:base<=w.heap.size) :
  ∃ v' w',(Builtin.append_ #[t,u] ty #[v,.string s]).run P w = .ok v' w'/\w'.ownsRow base e 1 v' (n+s.size) (xs++Lib.strCells s)/\w.grownBy w' v.ownBlock /\
   AtS w w' v v' s:=by
 have h63:n+s.size<=maxLen:=by unfold maxLen;omega
 obtain⟨v',w',hr,h2,h3,h4⟩:=Lib.run_append_own_string (P:=P) w base t u ty e i ht hu hi hz hsize hby v n xs hown s h63 hbytes hbase
 refine⟨v',w',hr,h2,h3,?_⟩
 have hxl:xs.length=n:=by simpa using hown.1
 rcases hown.2 with⟨rfl,rfl⟩ | ⟨g,cap,cur,rfl,hbg,hg,hnc,hcm,hcs,htake⟩
 ·by_cases hm:s.size=0
  ·have:v' = .slice none 0 0:=h4.2 ⟨rfl,hm⟩
   subst this
   exact⟨.inl rfl,fun _=>rfl⟩
  ·have hr2:=run_append_nil_string (P:=P) w t u ty e i (.int .u8 0) ht hu hi hz s (by omega) (by omega) (by rw [hby];omega)
   rw [hr] at hr2
   injection hr2 with hv2 hw2
   subst hv2 hw2
   exact⟨.inr ⟨rfl,fun q hq=>Below.heap_alloc w.drew _ q hq⟩,fun h=>absurd h hm⟩
 ·by_cases hroom:n+s.size<=cap
  ·have hr2:=Lib.run_append_room_string (P:=P) w t u ty e i ht hu hi hsize g n cap cur hg s hroom (by simp only [Nat.mul_one] at hcs;omega)
   rw [hr] at hr2
   injection hr2 with hv2 hw2
   subst hv2
   exact⟨.inl rfl,fun h=>by rw [h,Nat.add_zero]⟩
  ·have holds:∀ j u,xs[j]? = some u->w.cell? ((⟨g,0,none⟩:Addr).add j)=some u:=hown.cells (g:=g) rfl
   have hr2:=Lib.run_append_grow_string (P:=P) w t u ty e i (.int .u8 0) ht hu hi hz ⟨g,0,none⟩ n cap xs (by rw [hsize];omega) holds s (by omega) (by omega) (by rw [hby];exact growslice_fits (by omega) (by omega))
   rw [hr] at hr2
   injection hr2 with hv2 hw2
   subst hv2 hw2
   exact⟨.inr ⟨rfl,fun q hq=>Below.heap_alloc w.drew _ q hq⟩,fun h=>absurd h (by omega)⟩
theorem Ok.appendedS (hk:Ok A σ g a w) {r:Nat} {k:Tok} {rows:List (List D)} {v:Value} {t u ty:TypeId} {s:ByteArray} (hr:σ.tok r=some k) (hex:k.ex=none) (hv:Has g σ.tk w (.grow r rows) v) (hlen:rows.length=k.len) (ht:P.underlying t=some (.slice k.ty)) (hu:P.underlying u=some .string) (hz:zx P k.ty=some (.int .u8 0)) (h1:P.cellsOf k.ty=1) (hst:k.st=1) (hby:P.bytesOf k.ty=1) (hfit0:∀ r ∈ rows,r.length=1) (hbd:k.len+s.size<=1099511627776) :
  ∃ g' v' w',(Builtin.append_ #[t,u] ty #[v,.string s]).run P w = .ok v' w'/\Ok A (σ.setTok r (some { k with len:=k.len+s.size })) g' a w'/\Has g' (σ.setTok r (some { k with len:=k.len+s.size })).tk w' (.grow r (rows++zC s.data.toList)) v':=by
 obtain⟨hrd,htv⟩:=hv.grow_eq
 have hve:v=g.tv r:=(htv k.len (by simp [St.tk,hr])).2 hlen
 obtain⟨xs,hown⟩:=(hk.tok r k hr).own hex
 have htk:(σ.setTok r (some { k with len:=k.len+s.size })).tk r=some (k.len+s.size):=by simp [St.tk,St.tok_setTok]
 obtain⟨i,hi,hzi⟩:∃ i,P.info? k.ty=some i/\i.zero=some (.int .u8 0):=by
  unfold zx at hz
  cases hi:P.info? k.ty with
  | none=>simp [hi] at hz
  | some i=>exact⟨i,rfl,by simpa [hi] using hz⟩
 have hsz:i.size=1:=by rw [<- h1];simp [Program.cellsOf,hi]
 have hbi:i.bytes=1:=by rw [<- hby];simp [Program.bytesOf,hi]
 have hown1:w.ownsRow A.B k.ty 1 (g.tv r) k.len xs:=hst ▸ hown
 obtain⟨v',w',hr',hown',hg,hat,hv0⟩:=ziq (P:=P) w A.B t u ty k.ty i ht hu hi hzi hsz hbi (g.tv r) k.len xs hown1 s (by omega) hk.hB
 have hbel:Below A.B w w':=⟨hg.os,hg.tape,hg.output,hg.size,fun q hq=>hg.block q (by have:=hk.hB;omega) (fun e=>by have:=(hown1.lt q e.symm).1;omega)⟩
 have hxs:xs.length=k.len:=by simpa using hown1.1
 have hkeep:∀ q o,(g.tv r).ownBlock=some q->o<k.len * k.st->w'.cell? ⟨q,o,none⟩=w.cell? ⟨q,o,none⟩:=fun q o hq ho=>by
  rw [hst,Nat.mul_one] at ho
  rcases hat with h2 | ⟨_,h2⟩
  ·have h3:=hown1.cells (g:=q) hq o xs[o] (List.getElem?_eq_getElem (by omega))
   rw [Addr.add_lit,Nat.zero_add] at h3
   rw [h3]
   have h4:=hown'.cells (g:=q) (h2.trans hq) o xs[o] (by rw [List.getElem?_append_left (by omega)];exact List.getElem?_eq_getElem (by omega))
   rw [Addr.add_lit,Nat.zero_add] at h4
   exact h4
  ·exact zaZ (h2 q (hown1.lt q hq).2)
 obtain⟨h2,e1⟩:=hk.append (m:=s.size) (v':=v') (w':=w') (xs:=xs++Lib.strCells s) hr hex (by rw [hst];exact hown') hg hbel hkeep (hat.imp id And.left) hv0
 have hsl:(zC s.data.toList).length=s.size:=by rw [zh];rfl
 refine⟨_,v',w',by rw [hve];exact hr',h2,.grow r _ _ ?_ fun n' hn'=>?_⟩
 ·refine zje (hve ▸ hrd) hown1 hown' hlen hsl hfit0 (znK _) (fun b o hb ho=>.inr ⟨hb,by rw [hst];exact ho⟩) e1.hF e1.hw fun i hi j hj=>?_
  have hil:i<s.data.toList.length:=by rw [zh] at hi;exact hi
  have hj0:j=0:=by rw [zdA _ i hil] at hj;simpa using hj
  subst hj0
  refine⟨.int .u8 s.data.toList[i].toNat,by simp only [Lib.strCells,Nat.mul_one,Nat.add_zero,List.getElem?_map,List.getElem?_eq_getElem hil,Option.map_some],?_⟩
  simp only [zdA _ i hil,List.getElem_cons_zero]
  exact .raw _
 ·rw [htk] at hn'
  cases hn'
  exact⟨by rw [List.length_append,hsl];omega,fun _=>by simp only [zp]⟩
theorem zrS {st len:Nat} {ty t u:TypeId} {z v x:Value} {xs:List Value} {rows rows2:List (List D)} {F:Nat->Nat->Prop} (hown:w.ownsRow 0 ty st v len xs) (hrl:rows.length=len) (hrow:∀ i (h:i<rows.length),rows[i].length=st)
  (hxs:∀ i (h:i<rows.length) j (hj:j<rows[i].length),∃ u,xs[i * st+j]? = some u/\Reads w F rows[i][j] u) (hx:Reads w F (.sl rows2) x) (hne:rows2≠[]) (ht:P.underlying t=some (.slice ty)) (hz:zx P ty=some z) (hzs:z.cells.size=st) (h0:0<st) (hst:P.cellsOf ty=st) (hby:P.bytesOf ty<=128) (hfit:zam st rows2) (hbd:len+rows2.length<=1099511627776) :
  ∃ v' w' xs',(Builtin.append_ #[t,t] u #[v,x]).run P w = .ok v' w'/\w'.ownsRow 0 ty st v' (len+rows2.length) xs'/\w.grownBy w' v.ownBlock/\(v'.ownBlock=v.ownBlock\/v'.ownBlock=some w.heap.size\/v'.ownBlock=none) /\
   (∀ i (h:i<(rows++rows2).length),(rows++rows2)[i].length=st)/\∀ i (h:i<(rows++rows2).length) j (hj:j<(rows++rows2)[i].length),∃ u,xs'[i * st+j]? = some u/\Reads w F (rows++rows2)[i][j] u:=by
 obtain⟨b,off,c,news,hxe,hnl,hnews,hone,hnr⟩:=hx.news (st:=st) (fun q hq=>(hfit q hq).1) (fun q hq=>(hfit q hq).2) hne
 obtain⟨i,hi,hzi⟩:∃ i,P.info? ty=some i/\i.zero=some z:=by
  unfold zx at hz
  cases hi:P.info? ty with
  | none=>simp [hi] at hz
  | some i=>exact⟨i,rfl,by simpa [hi] using hz⟩
 have hsz:i.size=st:=by rw [<- hst];simp [Program.cellsOf,hi]
 have hbi:i.bytes=P.bytesOf ty:=by simp [Program.bytesOf,hi]
 have hbb:(len+rows2.length) * P.bytesOf ty<=140737488355328:=by
  have h1:=Nat.mul_le_mul (show len+rows2.length<=1099511627776 by omega) hby
  omega
 have hpos2:0<rows2.length:=List.length_pos_iff.2 hne
 obtain⟨v',w',hr',hown',hg,_,hat⟩:=run_append_own_at (P:=P) w 0 t u ty i z st (P.bytesOf ty) ht hi hzi hsz hbi hzs h0 v len xs hown ⟨b,off,none⟩ rows2.length c news hnl hnews hone (by unfold maxLen;omega) hbb (Nat.zero_le _)
 have hxl:xs.length=len * st:=hown.1
 refine⟨v',w',xs++news,by rw [hxe];exact hr',hown',hg,hat.imp id .inl,fun i hi=>?_,fun i hi j hj=>?_⟩
 ·rcases List.mem_append.1 (List.getElem_mem hi) with h | h
  ·obtain⟨k,hk,e⟩:=List.getElem_of_mem h
   rw [<- e];exact hrow k hk
  ·exact(hfit _ h).1
 ·by_cases hlt:i<rows.length
  ·have hrow':(rows++rows2)[i]=rows[i]:=List.getElem_append_left hlt
   have hj1:j<rows[i].length:=by rw [<- hrow'];exact hj
   have hel:(rows++rows2)[i][j]=rows[i][j]:=by congr 1
   obtain⟨u,hu,hru⟩:=hxs i hlt j hj1
   refine⟨u,?_,by rw [hel];exact hru⟩
   rw [List.getElem?_append_left (List.getElem?_eq_some_iff.1 hu).1];exact hu
  ·have hi2:i - rows.length<rows2.length:=by rw [List.length_append] at hi;omega
   have hrow':(rows++rows2)[i]=rows2[i - rows.length]:=List.getElem_append_right (by omega)
   have hj1:j<rows2[i - rows.length].length:=by rw [<- hrow'];exact hj
   have hel:(rows++rows2)[i][j]=rows2[i - rows.length][j]:=by congr 1
   obtain⟨u,hu,hru⟩:=hnr (i - rows.length) hi2 j hj1
   refine⟨u,?_,by rw [hel];exact hru⟩
   have he:i * st+j=xs.length+((i - rows.length) * st+j):=by
    rw [hxl,<- hrl,<- Nat.add_assoc,<- Nat.add_mul]
    congr 2
    omega
   rw [he,List.getElem?_append_right (by omega),Nat.add_sub_cancel_left];exact hu
theorem Ok.pushedG (hk:Ok A σ g a w) {r st ver len:Nat} {k:Tok} {rows rows2:List (List D)} {v:Value} {R:Value->Result Value} (hr:σ.tok r=some k) (hex:k.ex=some rows) (hst0:st=k.st) (hver:k.len=ver) (hv:Has g σ.tk w (.stk r st ver 0 len) v) (hlen:len<=rows.length)
  (hR:∀ v xs,w.ownsRow 0 k.ty k.st v len xs->(∀ i (h:i<(rows.take len).length) j (hj:j<(rows.take len)[i].length),∃ u,xs[i * k.st+j]? = some u/\Reads w g.F (rows.take len)[i][j] u)->(rows.take len).length=len->(∀ i (h:i<(rows.take len).length),(rows.take len)[i].length=k.st) ->
   ∃ v' w' xs',R v = .ok v' w'/\w'.ownsRow 0 k.ty k.st v' (len+rows2.length) xs'/\w.grownBy w' v.ownBlock/\(v'.ownBlock=v.ownBlock\/v'.ownBlock=some w.heap.size\/v'.ownBlock=none) /\
    (∀ i (h:i<(rows.take len++rows2).length),(rows.take len++rows2)[i].length=k.st)/\∀ i (h:i<(rows.take len++rows2).length) j (hj:j<(rows.take len++rows2)[i].length),∃ u,xs'[i * k.st+j]? = some u/\Reads w g.F (rows.take len++rows2)[i][j] u) :
  ∃ g' v' w',R v = .ok v' w'/\Ok A (σ.setTok r (some ⟨k.st,k.ty,ver+1,some (rows.take len++rows2)⟩)) g' a w'/\Has g' (σ.setTok r (some ⟨k.st,k.ty,ver+1,some (rows.take len++rows2)⟩)).tk w' (.stk r st (ver+1) 0 (len+rows2.length)) v':=by
 subst hst0 hver
 obtain⟨p,cap,rfl,hcap,_,hvv⟩:=hv.stk_eq
 obtain⟨hcut,hsl⟩:=(hvv k.len (by simp [St.tk,hr])).2 rfl
 obtain⟨xs,hown,hlow,hrows⟩:=hk.tok r k hr
 obtain⟨hr1,hr2⟩:=hrows rows hex
 have hn:k.n=rows.length:=by unfold Tok.n;rw [hex]
 rw [hn] at hown
 have hxl:xs.length=rows.length * k.st:=hown.1
 have hle:len * k.st<=rows.length * k.st:=Nat.mul_le_mul_right _ hlen
 have hblk:(Value.slice p len cap).ownBlock=(g.tv r).ownBlock/\w.ownsRow 0 k.ty k.st (.slice p len cap) len (xs.take (len * k.st)):=by
  rcases hown.2 with⟨e,e0⟩ | ⟨b,cp,cur,e,h1,h2,h3,h4,h5,h6⟩
  ·rw [e] at hcut ⊢
   simp only [zfd,Option.map_none] at hcut
   injection hcut with h1 h2 h3
   subst h1
   have hl0:len=0:=by omega
   subst hl0
   have hc0:cap=0:=by omega
   subst hc0
   exact⟨rfl,by simp [],.inl ⟨rfl,rfl⟩⟩
  ·rw [e] at hcut ⊢
   simp only [zfd,Option.map_some,Addr.add_lit,Nat.zero_mul,Nat.add_zero,Nat.sub_zero] at hcut
   injection hcut with h7 h8 h9
   subst h7 h9
   refine⟨rfl,by rw [List.length_take];omega,.inr ⟨b,cap,cur,rfl,Nat.zero_le _,h2,hcap,h4,h5,?_⟩⟩
   rw [<- h6,List.take_take,Nat.min_eq_left hle]
 obtain⟨hob,hown2⟩:=hblk
 have hrt:(rows.take len).length=len:=by rw [List.length_take];omega
 have hrow:∀ i (h:i<(rows.take len).length),(rows.take len)[i].length=k.st:=fun i hi=>by
  rw [List.getElem_take];exact hr1 i (by rw [List.length_take] at hi;omega)
 have hxs:∀ i (h:i<(rows.take len).length) j (hj:j<(rows.take len)[i].length),∃ u,(xs.take (len * k.st))[i * k.st+j]? = some u/\Reads w g.F (rows.take len)[i][j] u:=fun i hi j hj=>by
  have hi3:i<rows.length:=by rw [List.length_take] at hi;omega
  have hil:i<len:=by omega
  have he:(rows.take len)[i]=rows[i]:=List.getElem_take
  have hj2:j<rows[i].length:=by rw [<- he];exact hj
  have hel:(rows.take len)[i][j]=rows[i][j]:=by congr 1
  obtain⟨u,h1,h2⟩:=hr2 i hi3 j hj2
  refine⟨u,?_,by rw [hel];exact h2⟩
  rw [List.getElem?_take,if_pos]
  ·exact h1
  ·rw [hr1 i hi3] at hj2
   have:=Nat.mul_le_mul_right k.st (show i+1<=len from hil)
   rw [Nat.add_mul] at this
   omega
 have fin:∀ v' w' xs',R (.slice p len cap) = .ok v' w'->w'.ownsRow 0 k.ty k.st v' (len+rows2.length) xs'->w.grownBy w' (Value.slice p len cap).ownBlock->(v'.ownBlock=(Value.slice p len cap).ownBlock\/v'.ownBlock=some w.heap.size\/v'.ownBlock=none) ->
   (∀ i (h:i<(rows.take len++rows2).length),(rows.take len++rows2)[i].length=k.st)->(∀ i (h:i<(rows.take len++rows2).length) j (hj:j<(rows.take len++rows2)[i].length),∃ u,xs'[i * k.st+j]? = some u/\Reads w g.F (rows.take len++rows2)[i][j] u) ->
   ∃ g' v' w',R (.slice p len cap) = .ok v' w'/\Ok A (σ.setTok r (some ⟨k.st,k.ty,k.len+1,some (rows.take len++rows2)⟩)) g' a w'/\Has g' (σ.setTok r (some ⟨k.st,k.ty,k.len+1,some (rows.take len++rows2)⟩)).tk w' (.stk r k.st (k.len+1) 0 (len+rows2.length)) v':=fun v' w' xs' hrun ho hg hat hf1 hf2=>by
  rw [hob] at hg hat
  have h2:=hk.restack (k':=⟨k.st,k.ty,k.len+1,some (rows.take len++rows2)⟩) hr (by rw [hex];simp) (by simp) (.inl (Nat.lt_succ_self _)) hg (by
   show w'.ownsRow 0 k.ty k.st v' (rows.take len++rows2).length xs'
   rw [List.length_append,hrt];exact ho) (fun rows' hr'=>by
   cases hr'
   exact⟨hf1,hf2⟩) hat
  refine⟨_,v',w',hrun,h2,?_⟩
  have hv2:∃ p' cap',v' = .slice p' (len+rows2.length) cap'/\len+rows2.length<=cap'/\(0<len+rows2.length->∃ b o,p'=some ⟨b,o,none⟩)/\zfd v' k.st 0 (len+rows2.length)=v'/\zpV v'=len+rows2.length:=by
   rcases ho.2 with⟨e,e0⟩ | ⟨b,cp,cur,e,_,_,h3,_⟩
   ·exact⟨none,0,by rw [e,e0],by omega,fun h=>by omega,by rw [e,e0];rfl,by rw [e,e0];rfl⟩
   ·exact⟨_,cp,e,h3,fun _=>⟨b,0,rfl⟩,by rw [e];simp [zfd,Addr.add_lit],by rw [e];rfl⟩
  obtain⟨p',cap',rfl,h3,h4,h5,h6⟩:=hv2
  refine .stk r _ _ 0 _ _ _ h3 h4 fun n' hn'=>?_
  have e1:(σ.setTok r (some ⟨k.st,k.ty,k.len+1,some (rows.take len++rows2)⟩)).tk r=some (k.len+1):=by simp [St.tk,St.tok_setTok]
  rw [e1] at hn'
  cases hn'
  refine⟨Nat.le_refl _,fun _=>?_⟩
  simp only [zp]
  exact⟨h5.symm,by rw [h6];omega⟩
 obtain⟨v',w',xs',h1,h2,h3,h4,h5,h6⟩:=hR _ _ hown2 hxs hrt hrow
 exact fin v' w' xs' h1 h2 h3 h4 h5 h6
theorem Ok.pushed (hk:Ok A σ g a w) {r st ver len:Nat} {k:Tok} {rows rows2:List (List D)} {v x:Value} {t u:TypeId} {z:Value} (hr:σ.tok r=some k) (hex:k.ex=some rows) (hst0:st=k.st) (hver:k.len=ver) (hv:Has g σ.tk w (.stk r st ver 0 len) v) (hlen:len<=rows.length) (hx:Reads w g.F (.sl rows2) x)
  (ht:P.underlying t=some (.slice k.ty)) (hz:zx P k.ty=some z) (hzs:z.cells.size=P.cellsOf k.ty) (h0:P.cellsOf k.ty≠0) (hst:P.cellsOf k.ty=k.st) (hby:P.bytesOf k.ty<=128) (hfit:zam k.st rows2) (hbd:len+rows2.length<=1099511627776) :
  ∃ g' v' w',(Builtin.append_ #[t,t] u #[v,x]).run P w = .ok v' w'/\Ok A (σ.setTok r (some ⟨k.st,k.ty,ver+1,some (rows.take len++rows2)⟩)) g' a w'/\Has g' (σ.setTok r (some ⟨k.st,k.ty,ver+1,some (rows.take len++rows2)⟩)).tk w' (.stk r st (ver+1) 0 (len+rows2.length)) v':=by
 refine hk.pushedG hr hex hst0 hver hv hlen (R:=fun v=>(Builtin.append_ #[t,t] u #[v,x]).run P w) fun v xs hown2 hxs hrt hrow=>?_
 by_cases hne:rows2=[]
 ·subst hne
  obtain⟨q,c,hxe,_⟩:=hx.slice
  have hr0:=zef (P:=P) (w:=w) (t:=t) (ty:=u) (v:=v) (x:=x) (n:=len) ht h0 (by
   rcases hown2.2 with h1 | ⟨b,cp,cur,h1,_,_,h2,_⟩
   ·exact .inl h1
   ·exact .inr ⟨b,cp,h1,h2⟩) ⟨q,c,hxe⟩
  refine⟨_,w,_,hr0,by simpa using hown2,⟨rfl,rfl,rfl,Nat.le_refl _,fun _ _ _=>rfl⟩,.inl rfl,fun i hi=>?_,fun i hi j hj=>?_⟩
  ·simp only [List.append_nil] at hi ⊢;exact hrow i hi
  ·simp only [List.append_nil] at hi hj ⊢;exact hxs i hi j hj
 ·exact zrS (u:=u) hown2 hrt hrow hxs hx hne ht hz (hzs.trans hst) (by omega) hst hby hfit hbd
theorem zxf {len:Nat} {ty t u uu:TypeId} {v:Value} {xs:List Value} {rows:List (List D)} {F:Nat->Nat->Prop} {s:ByteArray} (hown:w.ownsRow 0 ty 1 v len xs) (hrl:rows.length=len) (hrow:∀ i (h:i<rows.length),rows[i].length=1)
  (hxs:∀ i (h:i<rows.length) j (hj:j<rows[i].length),∃ u,xs[i * 1+j]? = some u/\Reads w F rows[i][j] u) (ht:P.underlying t=some (.slice ty)) (hu:P.underlying u=some .string) (hz:zx P ty=some (.int .u8 0)) (h1:P.cellsOf ty=1) (hby:P.bytesOf ty=1) (hbd:len+s.size<=1099511627776) :
  ∃ v' w' xs',(Builtin.append_ #[t,u] uu #[v,.string s]).run P w = .ok v' w'/\w'.ownsRow 0 ty 1 v' (len+(zC s.data.toList).length) xs'/\w.grownBy w' v.ownBlock/\(v'.ownBlock=v.ownBlock\/v'.ownBlock=some w.heap.size\/v'.ownBlock=none) /\
   (∀ i (h:i<(rows++zC s.data.toList).length),(rows++zC s.data.toList)[i].length=1)/\∀ i (h:i<(rows++zC s.data.toList).length) j (hj:j<(rows++zC s.data.toList)[i].length),∃ u,xs'[i * 1+j]? = some u/\Reads w F (rows++zC s.data.toList)[i][j] u:=by
 obtain⟨i,hi,hzi⟩:∃ i,P.info? ty=some i/\i.zero=some (.int .u8 0):=by
  unfold zx at hz
  cases hi:P.info? ty with
  | none=>simp [hi] at hz
  | some i=>exact⟨i,rfl,by simpa [hi] using hz⟩
 have hsz:i.size=1:=by rw [<- h1];simp [Program.cellsOf,hi]
 have hbi:i.bytes=1:=by rw [<- hby];simp [Program.bytesOf,hi]
 have hsl:(zC s.data.toList).length=s.size:=by rw [zh];rfl
 obtain⟨v',w',hr',hown',hg,hat,_⟩:=ziq (P:=P) w 0 t u uu ty i ht hu hi hzi hsz hbi v len xs hown s (by omega) (Nat.zero_le _)
 have hxl:xs.length=len:=by simpa using hown.1
 refine⟨v',w',_,hr',by rw [hsl];exact hown',hg,?_,fun i hi=>?_,fun i hi j hj=>?_⟩
 ·rcases hat with h | h
  ·exact .inl h
  ·exact .inr (.inl h.1)
 ·rcases List.mem_append.1 (List.getElem_mem hi) with h | h
  ·obtain⟨k,hk,e⟩:=List.getElem_of_mem h
   rw [<- e];exact hrow k hk
  ·exact znK _ _ h
 ·by_cases hlt:i<rows.length
  ·have hrow':(rows++zC s.data.toList)[i]=rows[i]:=List.getElem_append_left hlt
   have hj1:j<rows[i].length:=by rw [<- hrow'];exact hj
   have hel:(rows++zC s.data.toList)[i][j]=rows[i][j]:=by congr 1
   obtain⟨u,hu,hru⟩:=hxs i hlt j hj1
   refine⟨u,?_,by rw [hel];exact hru⟩
   rw [List.getElem?_append_left (List.getElem?_eq_some_iff.1 hu).1];exact hu
  ·have hi2:i - rows.length<(zC s.data.toList).length:=by rw [List.length_append] at hi;omega
   have hil:i - rows.length<s.data.toList.length:=by rw [zh] at hi2;exact hi2
   have hrow':(rows++zC s.data.toList)[i]=[.raw (.int .u8 s.data.toList[i - rows.length].toNat)]:=by rw [List.getElem_append_right (by omega),zdA _ _ hil]
   have hj1:j<1:=by rw [hrow'] at hj;exact hj
   obtain rfl:j=0:=by omega
   refine⟨.int .u8 s.data.toList[i - rows.length].toNat,?_,?_⟩
   ·rw [Nat.mul_one,Nat.add_zero,List.getElem?_append_right (by omega),hxl,<- hrl]
    simp only [Lib.strCells,List.getElem?_map,List.getElem?_eq_getElem hil,Option.map_some]
   ·simp only [hrow',List.getElem_cons_zero]
    exact .raw _
theorem Ok.pushedS (hk:Ok A σ g a w) {r st ver len:Nat} {k:Tok} {rows:List (List D)} {v:Value} {t u uu:TypeId} {s:ByteArray} (hr:σ.tok r=some k) (hex:k.ex=some rows) (hst0:st=k.st) (hst1:k.st=1) (hver:k.len=ver) (hv:Has g σ.tk w (.stk r st ver 0 len) v) (hlen:len<=rows.length)
  (ht:P.underlying t=some (.slice k.ty)) (hu:P.underlying u=some .string) (hz:zx P k.ty=some (.int .u8 0)) (h1:P.cellsOf k.ty=1) (hby:P.bytesOf k.ty=1) (hbd:len+s.size<=1099511627776) :
  ∃ g' v' w',(Builtin.append_ #[t,u] uu #[v,.string s]).run P w = .ok v' w'/\Ok A (σ.setTok r (some ⟨k.st,k.ty,ver+1,some (rows.take len++zC s.data.toList)⟩)) g' a w'/\Has g' (σ.setTok r (some ⟨k.st,k.ty,ver+1,some (rows.take len++zC s.data.toList)⟩)).tk w' (.stk r st (ver+1) 0 (len+(zC s.data.toList).length)) v':=by
 refine hk.pushedG hr hex hst0 hver hv hlen (R:=fun v=>(Builtin.append_ #[t,u] uu #[v,.string s]).run P w) fun v xs hown2 hxs hrt hrow=>?_
 rw [hst1] at hown2 hxs hrow ⊢
 exact zxf (u:=u) hown2 hrt hrow hxs ht hu hz h1 hby hbd
end
section
open Go Go.RowKit
variable {P:Program} {A:Base P} {σ:St} {g:Gh} {a:Act} {w:World}
theorem zxL {o:Oper} {t t' e:TypeId} {p q:Operand} {r len st:Nat} {ty:TypeId} {rows rows2:List (List D)} (ho:o.op = .call { callee:=.builtin .copy,args:=#[p,q],argTypes:=#[t,t'] }) (ht:P.underlying t=some (.slice e)) (h0:P.cellsOf e≠0) (hst:P.cellsOf e=st)
  (hp:σ.eval p = .own r len) (hb:σ.blk r=some (.row st ty rows)) (hq:(σ.eval q).rows=some rows2) (h1:rows.length=len) (h2:rows2.length=len) (hfit:zam st rows2) :
  OpOk P A o σ (σ.setBlk r (some (.row st ty rows2))) (.d (.raw (.int .i64 len))):=by
 subst h2
 refine zaI fun g a w hk=>?_
 have hpe:=hk.eval p
 rw [hp] at hpe
 obtain⟨cap,hv,_⟩:=hpe.own_eq
 have hqe:=(hk.eval q).rows hq
 obtain⟨hB,arr,c1,c2,c3⟩:=hk.blk r _ hb
 by_cases hne:rows2=[]
 ·subst hne
  have hr0:rows=[]:=List.eq_nil_of_length_eq_zero h1
  subst hr0
  obtain⟨qp,qc,hqv,_⟩:=hqe.slice
  have hf:(Builtin.firstCells (P.cellsOf e) 0 (.slice qp 0 qc)).run P w = .ok #[] w:=by
   cases qp with
   | none=>simp [Builtin.firstCells]
   | some b=>simp [Builtin.firstCells,loadCells,loadCellsFrom]
  have hw:=(hk.write (k':=.row st ty []) hb (fun _ _=>rfl) rfl (.of (Below.refl _ _)) (hk.blk r _ hb).2).1
  refine⟨g,.int .i64 0,w,?_,hw,.d (.raw _)⟩
  simp [execOp,ho,resolve,invoke,builtin,Builtin.copy_,run_underlying ht,hv,hqv,Builtin.lenOf,zab h0,hf,storeCells,goInt]
 ·obtain⟨b,off,qc,news,hqv,hnl,hnews,hone,hnr⟩:=hqe.news (st:=st) (fun x hx=>(hfit x hx).1) (fun x hx=>(hfit x hx).2) hne
  have hf:=run_firstCells_some (P:=P) w (P.cellsOf e) rows2.length ⟨b,off,none⟩ rows2.length qc news (by rw [hnl,hst]) hnews
  have hfitarr:0+news.length<=arr.length:=by
   rw [hnl,Nat.zero_add]
   by_cases hl:rows2.length=0
   ·rw [hl];simp
   ·have hlt:rows.length - 1<rows.length:=by omega
    obtain⟨u,hu,_⟩:=c3 (rows.length - 1) hlt (st - 1) (by rw [c2];omega)
    have hlt2:=(List.getElem?_eq_some_iff.1 hu).1
    have e1:rows2.length=(rows.length - 1)+1:=by omega
    rw [e1,Nat.add_mul];omega
  have hs:=run_storeCells_at P (g.m r) 0 ty news 0 arr.toArray w c1 (by simpa using hfitarr) hone
  simp only [Nat.add_zero,Nat.zero_add] at hs
  have hb':∀ x,x≠g.m r->(w.setRow (g.m r) (zv arr 0 news).toArray).heap[x]? = w.heap[x]?:=fun x hx=>setRow_other w _ _ _ hx
  have hbel:BelowX A.B A.X w (w.setRow (g.m r) (zv arr 0 news).toArray):=.one (hB.imp id And.left) rfl rfl rfl (by simp) hb'
  have hF:∀ b o,g.F b o->∀ u,w.cell? ⟨b,o,none⟩=some u->(w.setRow (g.m r) (zv arr 0 news).toArray).cell? ⟨b,o,none⟩=some u:=fun b o hf u hu=>(zaZ (hb' b fun e=>hk.Fblk r _ hb o (e ▸ hf))).trans hu
  have hw:=(hk.write (k':=.row st ty rows2) hb hb' (by simp) hbel ⟨zv arr 0 news,setRow_heap w _ _ _ _ _ c1,fun i hi=>(hfit _ (List.getElem_mem hi)).1,fun i hi j hj=>by
   obtain⟨u,hu,hr⟩:=hnr i hi j hj
   refine⟨u,?_,hr.mono (fun _ _ h=>h) (fun b o u hf hu=>hF b o hf u hu)⟩
   have hlt:=(List.getElem?_eq_some_iff.1 hu).1
   rw [zbX hfitarr,if_neg (by omega),if_pos (by omega)]
   exact hu⟩).1
  refine⟨g,.int .i64 rows2.length,_,?_,hw,.d (.raw _)⟩
  have hmin:Nat.min rows2.length rows2.length=rows2.length:=Nat.min_self _
  simp only [execOp,ho,resolve,invoke,builtin,List.map_toArray,List.map_cons,List.map_nil,Sem.run_bind,Sem.run_pure,Result.andThen_ok,Builtin.copy_,hv,hqv]
  simp [run_underlying ht,Builtin.lenOf,zab h0,hf,hs,zv,goInt]
def zbJ (x:Option AV) (dflt:Int):Option Int:=
 match x with
 | none=>some dflt
 | some (.d (.raw (.int _ n)))=>some n
 | _=>none
theorem znN {x:Option Operand} {dflt n:Int} (h:zbJ (x.map σ.eval) dflt=some n):(x=none/\n=dflt)\/∃ q k,x=some q/\σ.eval q = .d (.raw (.int k n)):=by
 cases x with
 | none=>left;exact⟨rfl,by simpa [zbJ] using h.symm⟩
 | some q=>
  right
  simp only [Option.map_some] at h
  unfold zbJ at h
  split at h
  ·rename_i h1;cases h1
  ·rename_i k m h1
   cases h
   exact⟨q,k,rfl,by simpa using h1⟩
  ·cases h
theorem zcK {b:Bool} {len cap:Nat} {lo hi:Option Operand} {l h:Int} (hl:zbJ (lo.map σ.eval) 0=some l) (hh:zbJ (hi.map σ.eval) len=some h) (hk:Ok A σ g a w) (h0:0<=l) (h1:l<=h) (h2:h<=len) (hc:len<=cap) :
  (Instr.sliceBounds b len cap (lo.map a.eval) (hi.map a.eval) none).run P w = .ok (l.toNat,h.toNat,cap) w:=by
 have e2:(match hi.map a.eval with
   | some v=>Instr.sliceBound v cap (if b then .sliceAcap else .sliceAlen)
   | none=>(pure len:Sem Nat)).run P w = .ok h.toNat w:=by
  rcases znN hh with⟨rfl,rfl⟩ | ⟨q,k,rfl,hq⟩
  ·simp
  ·have:=hk.eval q
   rw [hq] at this
   simp only [Option.map_some,this.raw_eq]
   exact run_sliceBound w k h cap _ (by omega) (by omega)
 have e3:(match lo.map a.eval with
   | some v=>Instr.sliceBound v h.toNat (if (none:Option Value).isSome then .slice3C else .sliceB)
   | none=>(pure 0:Sem Nat)).run P w = .ok l.toNat w:=by
  rcases znN hl with⟨rfl,rfl⟩ | ⟨q,k,rfl,hq⟩
  ·simp
  ·have:=hk.eval q
   rw [hq] at this
   simp only [Option.map_some,this.raw_eq]
   exact run_sliceBound w k l h.toNat _ h0 (by omega)
 unfold Instr.sliceBounds
 simp only [Sem.run_bind,Sem.run_pure,Result.andThen_ok]
 cases hhi:hi.map a.eval with
 | none=>
  rw [hhi] at e2
  simp only at e2 ⊢
  simp only [Sem.run_pure,Result.andThen_ok,Sem.run_bind] at e2 ⊢
  cases hlo:lo.map a.eval with
  | none=>
   rw [hlo] at e3
   simp only [Sem.run_pure] at e3 ⊢
   injection e2 with e2 _
   injection e3 with e3 _
   simp [e2,e3]
  | some v=>
   rw [hlo] at e3
   injection e2 with e2 _
   simp only [e2]
   simp only at e3
   rw [Sem.run_bind,e3];rfl
 | some u=>
  rw [hhi] at e2
  simp only at e2 ⊢
  rw [Sem.run_bind,e2]
  simp only [Result.andThen_ok]
  cases hlo:lo.map a.eval with
  | none=>
   rw [hlo] at e3
   simp only [Sem.run_pure,Sem.run_bind,Result.andThen_ok] at e3 ⊢
   injection e3 with e3 _
   simp [e3]
  | some v=>
   rw [hlo] at e3
   simp only at e3 ⊢
   rw [Sem.run_bind,e3];rfl
theorem zok {o:Oper} {t:TypeId} {p:Operand} {lo hi:Option Operand} {s:ByteArray} {l h:Int} (ho:o.op = .slice t p lo hi none) (ht:P.underlying t=some .string) (hp:σ.eval p = .d (.raw (.string s))) (hl:zbJ (lo.map σ.eval) 0=some l) (hh:zbJ (hi.map σ.eval) s.size=some h) (h0:0<=l) (h1:l<=h) (h2:h<=s.size) :
  OpOk P A o σ σ (.d (.raw (.string (s.extract l.toNat h.toNat)))):=
 zA fun g a w hk=>by
  have hpe:=hk.eval p
  rw [hp] at hpe
  refine⟨_,?_,.d (.raw _)⟩
  have hr:=zcK (P:=P) (b:=false) hl hh hk h0 h1 h2 (Nat.le_refl _)
  simp only [execOp,ho,hpe.raw_eq,Instr.sliceAt,Sem.run_bind,run_underlying ht,Result.andThen_ok,Instr.slice,Option.map_none,Option.isSome_none,Bool.false_eq_true,if_false,Sem.run_pure,hr]
theorem zmC {o:Oper} {t e:TypeId} {p:Operand} {lo hi:Option Operand} {rows:List (List D)} {l h:Int} (ho:o.op = .slice t p lo hi none) (ht:P.underlying t=some (.slice e)) (hc0:P.cellsOf e≠0) (hp:(σ.eval p).rows=some rows) (hst:∀ r ∈ rows,r.length=P.cellsOf e) (hl:zbJ (lo.map σ.eval) 0=some l) (hh:zbJ (hi.map σ.eval) rows.length=some h) (h0:0<=l) (h1:l<=h) (h2:h<=rows.length) :
  OpOk P A o σ σ (.d (.sl ((rows.take h.toNat).drop l.toNat))):=
 zA fun g a w hk=>by
  have hpe:=(hk.eval p).rows hp
  obtain⟨q,cap,hv,hcap⟩:=hpe.slice
  have hr:=zcK (P:=P) (b:=true) (cap:=cap) hl hh hk h0 h1 h2 hcap
  refine⟨.slice (if cap=l.toNat then q else q.map (·.add (l.toNat * P.cellsOf e))) (h.toNat - l.toNat) (cap - l.toNat),?_,.d ?_⟩
  ·simp only [execOp,ho,hv,Instr.sliceAt,Sem.run_bind,run_underlying ht,Result.andThen_ok,Instr.slice,Option.map_none,hr,zab hc0,Sem.run_pure]
  ·have hlen:((rows.take h.toNat).drop l.toNat).length=h.toNat - l.toNat:=by simp;omega
   rw [<- hlen]
   by_cases hz:(rows.take h.toNat).drop l.toNat=[]
   ·rw [hz];exact .nil _ _
   ·have hpos:0<((rows.take h.toNat).drop l.toNat).length:=List.length_pos_iff.2 hz
    rw [if_neg (by omega)]
    rw [hv] at hpe
    have hr0:0<rows.length:=by omega
    obtain⟨b,off,rfl,_⟩:=hpe.row 0 hr0 (hst _ (List.getElem_mem hr0))
    simp only [Option.map_some,Addr.add_lit]
    refine Reads.mk (st:=P.cellsOf e) (by omega) (fun i hi=>?_) fun i hi j hj=>?_
    ·rw [List.getElem_drop,List.getElem_take];exact hst _ (List.getElem_mem _)
    ·have hi':l.toNat+i<rows.length:=by omega
     obtain⟨b',off',he,hcl⟩:=hpe.row (l.toNat+i) hi' (hst _ (List.getElem_mem hi'))
     have hbb:b'=b/\off'=off:=by
      injection he with he
      injection he with he1 he2
      exact⟨he1.symm,he2.symm⟩
     obtain⟨rfl,rfl⟩:=hbb
     have hel:((rows.take h.toNat).drop l.toNat)[i]=rows[l.toNat+i]:=by rw [List.getElem_drop,List.getElem_take]
     have hj':j<rows[l.toNat+i].length:=by rw [<- hel];exact hj
     have hee:((rows.take h.toNat).drop l.toNat)[i][j]=rows[l.toNat+i][j]:=by congr 1
     rw [hee,Nat.add_assoc off',<- Nat.add_mul]
     exact hcl j hj'
theorem zBd {v:Value} {st off len l h:Nat} {p:Option Addr} {cap:Nat} (hv:.slice p len cap=zfd v st off len) (h0:∀ q,(match v with | .slice pa _ _=>pa | _=>none)=some q->∃ b,q=⟨b,0,none⟩) (hs:off+len<=zpV v) (hc:len<=cap) (hl:l<=h) (hh:h<=len) (hlh:l<h\/l=0) :
  .slice (if cap=l then p else p.map (·.add (l * st))) (h - l) (cap - l)=zfd v st (off+l) (h - l)/\off+l+(h - l)<=zpV v:=by
 refine⟨?_,by omega⟩
 cases v with
 | slice pa n c=>
  simp only [zfd] at hv ⊢
  injection hv with h1 h2 h3
  subst h1 h3
  cases pa with
  | none=>simp only [Option.map_none,ite_self,Nat.sub_sub]
  | some q=>
   obtain⟨b,rfl⟩:=h0 q rfl
   simp only [Option.map_some,Addr.add_lit,Nat.zero_add,Nat.sub_sub,Nat.add_mul]
   split
   ·have:l=0:=by omega
    subst this
    simp
   ·rfl
 | _=>cases hv
theorem zij {o:Oper} {t e:TypeId} {p:Operand} {lo hi:Option Operand} {r st ver off len:Nat} {l h:Int} (ho:o.op = .slice t p lo hi none) (ht:P.underlying t=some (.slice e)) (hc0:P.cellsOf e≠0) (hst:st=P.cellsOf e) (hp:σ.eval p = .stk r st ver off len) (hl:zbJ (lo.map σ.eval) 0=some l) (hh:zbJ (hi.map σ.eval) len=some h) (h0:0<=l) (h1:l<=h) (h2:h<=(len:Nat)) (h3:l<h\/l=0) :
  OpOk P A o σ σ (.stk r st ver (off+l.toNat) (h.toNat - l.toNat)):=
 zA fun g a w hk=>by
  subst hst
  have hpe:=hk.eval p
  rw [hp] at hpe
  obtain⟨pp,cap,hv,hcap,hpp,hver⟩:=hpe.stk_eq
  have hr:=zcK (P:=P) (b:=true) (cap:=cap) hl hh hk h0 h1 h2 hcap
  refine⟨.slice (if cap=l.toNat then pp else pp.map (·.add (l.toNat * P.cellsOf e))) (h.toNat - l.toNat) (cap - l.toNat),?_,?_⟩
  ·simp only [execOp,ho,hv,Instr.sliceAt,Sem.run_bind,run_underlying ht,Result.andThen_ok,Instr.slice,Option.map_none,hr,zab hc0,Sem.run_pure]
  ·refine .stk r _ ver _ _ _ _ (by omega) (fun hpos=>?_) fun n hn=>?_
   ·obtain⟨b,o',rfl⟩:=hpp (by omega)
    split
    ·exact⟨b,o',rfl⟩
    ·exact⟨b,o'+l.toNat * P.cellsOf e,by simp only [Option.map_some,Addr.add_lit]⟩
   ·obtain⟨h4,h5⟩:=hver n hn
    exact⟨h4,fun he=>zBd (h5 he).1 (hk.tokz r n hn) (h5 he).2 hcap (by omega) (by omega) (by omega)⟩
theorem zol {o:Oper} {t e:TypeId} {p:Operand} {lo hi:Option Operand} {r st ver off len:Nat} {l h:Int} (ho:o.op = .slice t p lo hi none) (ht:P.underlying t=some (.slice e)) (hc0:P.cellsOf e≠0) (hp:σ.eval p = .stk r st ver off len) (hl:zbJ (lo.map σ.eval) 0=some l) (hh:zbJ (hi.map σ.eval) len=some h) (h0:0<=l) (h1:l<=h) (h2:h<=(len:Nat)) (h3:¬ l<h) :
  OpOk P A o σ σ (.d (.sl [])):=
 zA fun g a w hk=>by
  have hpe:=hk.eval p
  rw [hp] at hpe
  obtain⟨pp,cap,hv,hcap,hpp,hver⟩:=hpe.stk_eq
  have hr:=zcK (P:=P) (b:=true) (cap:=cap) hl hh hk h0 h1 h2 hcap
  have hz:h.toNat - l.toNat=0:=by omega
  refine⟨.slice (if cap=l.toNat then pp else pp.map (·.add (l.toNat * P.cellsOf e))) (h.toNat - l.toNat) (cap - l.toNat),?_,?_⟩
  ·simp only [execOp,ho,hv,Instr.sliceAt,Sem.run_bind,run_underlying ht,Result.andThen_ok,Instr.slice,Option.map_none,hr,zab hc0,Sem.run_pure]
  ·rw [hz];exact .d (.nil _ _)
def zlc (place:Nat->Option (Nat × Nat)):List AV->List (Nat × AV)->Option (List AV)
 | cs,[]=>some cs
 | cs,(i,x) :: rest=>match place i with
  | some (off,size)=>if x.cells.all AV.one && decide (x.cells.length=size) && decide (off+x.cells.length<=cs.length) then zlc place (zv cs off x.cells) rest else none
  | none=>none
theorem znq {tk:Nat->Option Nat} {place:Nat->Option (Nat × Nat)}:∀ (parts:List (Nat × AV)) (vals:List (Nat × Value)) (cs:List AV) (arr:Array Value) (cs':List AV),parts.length=vals.length ->
  (∀ i (hi:i<parts.length) (hv:i<vals.length),parts[i].1=vals[i].1/\Has g tk w parts[i].2 vals[i].2)->cs.length=arr.size->(∀ i (hi:i<cs.length) (hv:i<arr.size),Has g tk w cs[i] arr[i])->zlc place cs parts=some cs' ->
  ∃ arr',Instr.fill place arr vals=some arr'/\cs'.length=arr'.size/\∀ i (hi:i<cs'.length) (hv:i<arr'.size),Has g tk w cs'[i] arr'[i]
 | [],[],cs,arr,cs',_,_,hl,hh,h=>by cases h;exact⟨arr,rfl,hl,hh⟩
 | (i,x) :: parts,(j,v) :: vals,cs,arr,cs',hlen,hpv,hl,hh,h=>by
  have h0:=hpv 0 (by simp) (by simp)
  simp only [List.getElem_cons_zero] at h0
  obtain⟨rfl,hx⟩:=h0
  rw [zlc] at h
  rw [Instr.fill]
  cases hp:place i with
  | none=>rw [hp] at h;cases h
  | some os=>
   obtain⟨off,size⟩:=os
   rw [hp] at h
   simp only at h ⊢
   split at h
   ·rename_i hc
    simp only [Bool.and_eq_true,decide_eq_true_eq] at hc
    obtain⟨⟨h1,h2⟩,h3⟩:=hc
    obtain⟨c1,c2,c3⟩:=hx.cells h1
    have hvs:v.cells.size=x.cells.length:=by rw [c1];simp
    rw [if_neg (by simp [hvs,h2];omega)]
    obtain⟨f1,f2⟩:=zkz off v.cells.toList 0 arr
    have ef:v.cells.zipIdx.foldl (fun cs (x:Value × Nat)=>cs.setIfInBounds (off+x.2) x.1) arr=(v.cells.toList.zipIdx 0).foldl (fun cs (x:Value × Nat)=>cs.setIfInBounds (off+x.2) x.1) arr:=by
     rw [<- Array.foldl_toList,Array.toList_zipIdx]
    refine znq parts vals (zv cs off x.cells) (v.cells.zipIdx.foldl (fun cs (x:Value × Nat)=>cs.setIfInBounds (off+x.2) x.1) arr) cs' (by simpa using hlen) (fun k hk hk'=>by have:=hpv (k+1) (by simpa using hk) (by simpa using hk');simp only [List.getElem_cons_succ] at this;exact this) (by rw [ef,f1,zaj h3];exact hl) (fun k hk hk'=>?_) h
    have g1:=zbX (i:=k) h3
    have g2:=f2 k
    rw [<- ef,Array.getElem?_eq_getElem hk',Nat.add_zero] at g2
    rw [List.getElem?_eq_getElem hk] at g1
    rw [zaj h3] at hk
    have hka:k<arr.size:=by omega
    have hvl:v.cells.toList.length=x.cells.length:=by simpa using hvs
    by_cases hk1:k<off
    ·rw [if_pos hk1,List.getElem?_eq_getElem hk] at g1
     rw [if_neg (by omega),Array.getElem?_eq_getElem hka] at g2
     rw [Option.some.inj g1,Option.some.inj g2]
     exact hh k hk hka
    ·rw [if_neg hk1] at g1
     by_cases hk2:k<off+x.cells.length
     ·rw [if_pos hk2,List.getElem?_eq_getElem (by omega)] at g1
      rw [if_pos (by omega),List.getElem?_eq_getElem (by omega)] at g2
      rw [Option.some.inj g1,Option.some.inj g2]
      exact c3 (k - off) (by omega) (by omega)
     ·rw [if_neg hk2,List.getElem?_eq_getElem hk] at g1
      rw [if_neg (by omega),Array.getElem?_eq_getElem hka] at g2
      rw [Option.some.inj g1,Option.some.inj g2]
      exact hh k hk hka
   ·cases h
theorem zus {fs:Array Field} (h:∀ f ∈ fs.toList,P.cellsOf f.type≠0):(fs.mapM (m:=Go.Sem) fun f=>do pure (f.offset,<- sizeOf f.type)).run P w = .ok (fs.map fun f=>(f.offset,P.cellsOf f.type)) w:=by
 have key:∀ l:List Field,(∀ f ∈ l,P.cellsOf f.type≠0)->(l.mapM (m:=Go.Sem) fun f=>do pure (f.offset,<- sizeOf f.type)).run P w = .ok (l.map fun f=>(f.offset,P.cellsOf f.type)) w:=by
  intro l
  induction l with
  | nil=>intro _;rfl
  | cons f l ih=>
   intro hl
   simp only [List.mapM_cons,Sem.run_bind,zab (hl f (by simp)),Result.andThen_ok,Sem.run_pure,ih fun f hf=>hl f (by simp [hf])]
   rfl
 rw [Array.mapM_eq_mapM_toList,Sem.run_map,key _ h]
 show Result.ok _ w=_
 congr 1
 apply Array.ext'
 simp
theorem zuU {o:Oper} {t:TypeId} {ps:Array (Nat × Operand)} {fs:Array Field} {z:Value} {cs:List AV} (ho:o.op = .build t ps) (ht:P.underlying t=some (.struct fs)) (hz:zx P t=some z) (hf:fs.toList.all (fun f=>decide (P.cellsOf f.type≠0))=true)
  (h:zlc (fun i=>fs[i]?.map fun f=>(f.offset,P.cellsOf f.type)) (z.cells.toList.map zeh) (ps.toList.map fun x=>(x.1,σ.eval x.2))=some cs):OpOk P A o σ σ (.agg cs):=by
 refine zaI fun g a w hk=>?_
 obtain⟨i,hi,hzi⟩:∃ i,P.info? t=some i/\i.zero=some z:=by
  unfold zx at hz
  cases hi:P.info? t with
  | none=>simp [hi] at hz
  | some i=>exact⟨i,rfl,by simpa [hi] using hz⟩
 obtain⟨arr',f1,f2,f3⟩:=znq (w:=w) (g:=g) (tk:=σ.tk) _ (ps.toList.map fun x=>(x.1,a.eval x.2)) _ z.cells _ (by simp) (fun i hi hv=>by
  simp only [List.getElem_map]
  exact⟨trivial,hk.eval _⟩) (by simp) (fun i hi hv=>by
  rw [List.getElem_map]
  exact zeV _ _ _ _) h
 refine⟨g,_,w,?_,hk,.agg cs arr'.toList (by simpa using f2) (fun i hi hv=>f3 i hi (by simpa using hv))⟩
 have hpl:(fun i:Nat=>(fs.map fun f:Field=>(f.offset,P.cellsOf f.type))[i]?)=fun i:Nat=>fs[i]?.map fun f=>(f.offset,P.cellsOf f.type):=funext fun i=>by simp
 have hfl:∀ f ∈ fs.toList,P.cellsOf f.type≠0:=fun f hfm=>by
  rw [List.all_eq_true] at hf
  simpa using hf f hfm
 have hps:(ps.map fun(x:Nat × Operand)=>(x.1,a.eval x.2)).toList=ps.toList.map fun x=>(x.1,a.eval x.2):=by simp
 simp only [execOp,ho,Instr.build,Sem.run_bind,zeroValue,typeInfo,run_program,hi,hzi,Sem.run_pure,Result.andThen_ok,run_underlying ht,zus hfl,hps,hpl,f1]
theorem zsy {o:Oper} {t:TypeId} {ps:Array (Nat × Operand)} {m:Nat} {el:TypeId} {z:Value} {cs:List AV} (ho:o.op = .build t ps) (ht:P.underlying t=some (.array m el)) (hz:zx P t=some z) (h0:P.cellsOf el≠0)
  (h:zlc (fun i=>some (i * P.cellsOf el,P.cellsOf el)) (z.cells.toList.map zeh) (ps.toList.map fun x=>(x.1,σ.eval x.2))=some cs):OpOk P A o σ σ (.agg cs):=by
 refine zaI fun g a w hk=>?_
 obtain⟨i,hi,hzi⟩:∃ i,P.info? t=some i/\i.zero=some z:=by
  unfold zx at hz
  cases hi:P.info? t with
  | none=>simp [hi] at hz
  | some i=>exact⟨i,rfl,by simpa [hi] using hz⟩
 obtain⟨arr',f1,f2,f3⟩:=znq (w:=w) (g:=g) (tk:=σ.tk) _ (ps.toList.map fun x=>(x.1,a.eval x.2)) _ z.cells _ (by simp) (fun i hi hv=>by
  simp only [List.getElem_map]
  exact⟨trivial,hk.eval _⟩) (by simp) (fun i hi hv=>by
  rw [List.getElem_map]
  exact zeV _ _ _ _) h
 refine⟨g,_,w,?_,hk,.agg cs arr'.toList (by simpa using f2) (fun i hi hv=>f3 i hi (by simpa using hv))⟩
 have hps:(ps.map fun(x:Nat × Operand)=>(x.1,a.eval x.2)).toList=ps.toList.map fun x=>(x.1,a.eval x.2):=by simp
 simp only [execOp,ho,Instr.build,Sem.run_bind,zeroValue,typeInfo,run_program,hi,hzi,Sem.run_pure,Result.andThen_ok,run_underlying ht,zab h0,hps,f1]
theorem zsz {o:Oper} {op:BinOp} {t t':TypeId} {p q:Operand} {x y r:Bool} (ho:o.op = .binOp op t p q t') (hp:σ.eval p = .d (.raw (.bool x))) (hq:σ.eval q = .d (.raw (.bool y))) (ht:P.underlying t=some .bool)
  (h:(op = .eql/\r=(x == y))\/(op = .neq/\r = !(x == y))):OpOk P A o σ σ (.d (.raw (.bool r))):=
 zA fun g a w hk=>by
  have h1:=hk.eval p
  have h2:=hk.eval q
  rw [hp] at h1
  rw [hq] at h2
  refine⟨.bool r,?_,.d (.raw _)⟩
  have hg:(eqGuard op t p q (.bool x) (.bool y)).run P w = .ok () w:=by
   unfold eqGuard
   rcases h with⟨rfl,_⟩ | ⟨rfl,_⟩ <;> rfl
  have he:(Op.equal t (.bool x) (.bool y)).run P w = .ok (x == y) w:=by
   have gen:∀ d:Nat,(Op.equalIn (d+1) t (.bool x) (.bool y)).run P w = .ok (x == y) w:=fun d=>by
    rw [Op.equalIn]
    rw [Sem.run_bind,run_underlying ht]
    rfl
   exact gen 9999
  simp only [execOp,ho,h1.raw_eq,h2.raw_eq,Sem.run_bind,hg,Result.andThen_ok]
  rcases h with⟨rfl,rfl⟩ | ⟨rfl,rfl⟩ <;> simp [binOp,he]
end
section
open Go Go.RowKit Go.MapKept
variable {P:Program} {A:Base P} {σ:St} {g:Gh} {a:Act} {w:World}
def zph:Value->Value->Bool
 | .int _ a,.int _ b=>decide (a=b)
 | .string a,.string b=>decide (a=b)
 | .bool a,.bool b=>a == b
 | _,_=>false
def zdf:TypeDesc->Value->Bool
 | .bool,.bool _=>true
 | .int k,.int k' _=>decide (k'=k)
 | .string,.string _=>true
 | _,_=>false
def zbs (v:Value):List Value->Option Nat
 | []=>none
 | u :: us=>if zph v u then some 0 else (zbs v us).map (· + 1)
def zfv (ks:List Value) (cs:List AV) (v:Value):Option AV:=
 match zbs v ks with
 | some i=>cs[i]?
 | none=>none
def zji (ks:List Value) (v:Value):List Value:=
 match zbs v ks with
 | some _=>ks
 | none=>ks++[v]
def zjj (ks:List Value) (cs:List AV) (v:Value) (x:AV):List AV:=
 match zbs v ks with
 | some i=>cs.set i x
 | none=>cs++[x]
theorem zeq {d:TypeDesc} {v:Value} (h:zdf d v=true):IsKey d v:=by
 unfold zdf at h
 split at h <;> simp_all [IsKey]
theorem zxV {d:TypeDesc} {v u:Value} (hv:IsKey d v) (hu:IsKey d u):zph v u=true ↔ v=u:=by
 cases d <;> cases v <;> cases u <;> simp_all [IsKey,zph]
theorem zhs {d:TypeDesc} {v:Value} (hv:IsKey d v):∀ (es:List MapEntry) (ks:List Value) (i:Nat),ks.length=es.length->(∀ j (h:j<ks.length) (h':j<es.length),ks[j]=es[j].key)->(∀ e ∈ es,IsKey d e.key) ->
  Instr.findNow d v es i=some (match zbs v ks with
   | some j=>(es[j]?).map fun e=>(i+j,e.val)
   | none=>none)/\∀ j,zbs v ks=some j->∃ e,es[j]? = some e/\e.key=v
 | [],[],i,_,_,_=>by simp [Instr.findNow,zbs]
 | e :: es,k :: ks,i,hl,hk,he=>by
  obtain⟨r,hr,hiff⟩:=sameNow_of_keys hv (he e (by simp))
  have hke:k=e.key:=hk 0 (by simp) (by simp)
  have ih:=zhs hv es ks (i+1) (by simpa using hl) (fun j h h'=>by have:=hk (j+1) (by simpa using h) (by simpa using h');simpa using this) (fun x hx=>he x (by simp [hx]))
  rw [Instr.findNow,hr,zbs]
  have hq:zph v k=r:=by
   rw [Bool.eq_iff_iff,zxV hv (hke ▸ he e (by simp)),hke];exact hiff.symm
  rw [hq]
  cases r with
  | true=>
   refine⟨by simp,fun j hj=>?_⟩
   simp only [if_true,Option.some.injEq] at hj
   subst hj
   exact⟨e,rfl,(hiff.1 rfl).symm⟩
  | false=>
   obtain⟨h1,h2⟩:=ih
   simp only [Bool.false_eq_true,if_false]
   refine⟨?_,fun j hj=>?_⟩
   ·rw [h1]
    cases hf:zbs v ks with
    | none=>simp
    | some j=>
     simp only [Option.map_some,List.getElem?_cons_succ]
     rw [show i+1+j=i+(j+1) by omega]
   ·cases hf:zbs v ks with
    | none=>rw [hf] at hj;cases hj
    | some j'=>
     rw [hf] at hj
     simp only [Option.map_some,Option.some.injEq] at hj
     subst hj
     obtain⟨e',h3,h4⟩:=h2 j' hf
     exact⟨e',by simpa using h3,h4⟩
 | [],_ :: _,_,hl,_,_=>by simp at hl
 | _ :: _,[],_,hl,_,_=>by simp at hl
theorem zqm {o:Oper} {t:TypeId} {me:Nat} (ho:o.op = .makeMap t none) (hm:σ.free A me):OpOk P A o σ (σ.setBlk me (some (.map none [] []))) (.mp me):=by
 refine zaI fun g a w hk=>?_
 refine⟨_,.map (some w.heap.size),w.alloc (.map #[] 0),by simp [execOp,ho,Instr.makeMap],hk.newBlk (k:=.map none [] []) hm rfl ⟨fun b0 h=>(by cases h),[],heap_alloc_new w _,rfl,rfl,fun i hi=>by simp at hi,fun i hi=>by simp at hi⟩,?_⟩
 have h0:=Has.mp (g:={ g with m:=zcZ g.m me w.heap.size }) (tk:=(σ.setBlk me (some (.map none [] []))).tk) (w:=w.alloc (.map #[] 0)) me
 simpa only [zp] using h0
theorem zmD {o:Oper} {t kt et:TypeId} {d:TypeDesc} {m k x:Operand} {r:Nat} {tag:Option Nat} {ks:List Value} {cs:List AV} {v:Value} (ho:o.op = .mapUpdate t m k x\/o.op = .insert t m k x) (ht:P.underlying t=some (.map kt et)) (hd:P.underlying kt=some d)
  (hm:σ.eval m = .mp r) (hb:σ.blk r=some (.map tag ks cs)) (hkv:σ.eval k = .d (.raw v)) (hv:zdf d v=true) (hks:∀ u ∈ ks,zdf d u=true) :
  OpOk P A o σ (σ.setBlk r (some (.map tag (zji ks v) (zjj ks cs v (σ.eval x))))) .dead:=by
 refine zhN fun g a w hk=>?_
 have hme:=hk.eval m
 rw [hm] at hme
 have hke:=hk.eval k
 rw [hkv] at hke
 have hxe:=hk.eval x
 obtain⟨hB,htag,es,c1,c2,c3,c4,c5⟩:=hk.blk r _ hb
 have hik:=zeq hv
 have hkeys:∀ e ∈ es,IsKey d e.key:=fun e he=>by
  obtain⟨i,hi,rfl⟩:=List.getElem_of_mem he
  rw [<- (c4 i (by omega) hi).1]
  exact zeq (hks _ (List.getElem_mem _))
 obtain⟨f1,f2⟩:=zhs hik es ks 0 c2 (fun i hi hv=>(c4 i hi hv).1) hkeys
 have hrun:∀ es':List MapEntry,(execOp a.eval o).run P w = .ok .skip { w with heap:=w.heap.setIfInBounds (g.m r) (.map es'.toArray es'.length) }->es'.length=(zji ks v).length->(∀ i (hi:i<(zji ks v).length) (hv:i<es'.length),(zji ks v)[i]=es'[i].key/\es'[i].born=i)->(zjj ks cs v (σ.eval x)).length=es'.length ->
   (∀ i (hi:i<(zjj ks cs v (σ.eval x)).length) (hv:i<es'.length),Has g σ.tk w (zjj ks cs v (σ.eval x))[i] es'[i].val) ->
   ∃ g' w',(execOp a.eval o).run P w = .ok .skip w'/\Ok A (σ.setBlk r (some (.map tag (zji ks v) (zjj ks cs v (σ.eval x))))) g' a w':=fun es' hr h1 h2 h3 h4=>by
  have hset:=heap_set (o':=.map es'.toArray es'.length) c1
  have hother:∀ b,b≠g.m r->({ w with heap:=w.heap.setIfInBounds (g.m r) (.map es'.toArray es'.length) }:World).heap[b]? = w.heap[b]?:=fun b hne=>hset.2 b hne
  have e:Ext (fun _=>False) g σ.tk w g σ.tk { w with heap:=w.heap.setIfInBounds (g.m r) (.map es'.toArray es'.length) }:=⟨fun _ _ h=>h,fun b o u hf hu=>(zaZ (hother b fun e=>hk.Fblk r _ hb o (e ▸ hf))).trans hu,fun _ _=>rfl,fun q _ n' hn'=>⟨n',hn',Nat.le_refl _,fun _=>rfl⟩,fun b es c hf hu=>(hother b fun e=>hk.Fblk r _ hb 0 (e ▸ hf)).trans hu⟩
  refine⟨g,_,hr,(hk.write (k':=.map tag (zji ks v) (zjj ks cs v (σ.eval x))) hb hother (by simp) (.one (hB.imp id And.left) rfl rfl rfl (by simp) hother) ⟨htag,es',hset.1,h1.symm,h3,h2,fun i hi hv=>(h4 i hi hv).mono e fun _ _=>id⟩ (by cases tag <;> rfl)).1⟩
 have hexec:(execOp a.eval o).run P w=(do Instr.mapUpdate t (a.eval m) (a.eval k) (a.eval x);pure Next.skip:Go.Sem Next).run P w:=by
  rcases ho with ho | ho <;> simp only [execOp,ho]
 have hgo:(Instr.mapUpdate t (a.eval m) (a.eval k) (a.eval x)).run P w=(do
   match <- Instr.findKey kt v es with
   | some (i,_)=>do
    let key <- Instr.keyThatStays (((es.toArray[i]?).map (·.key)).getD v) v
    setObj (g.m r) (.map (es.toArray.modify i fun e=>{ e with key,val:=a.eval x }) es.length)
   | none=>setObj (g.m r) (.map (es.toArray.push { key:=v,val:=a.eval x,born:=es.length }) (es.length+1)):Go.Sem Unit).run P w:=by
  rw [hme.mp_eq,hke.raw_eq]
  simp only [Instr.mapUpdate,Sem.run_bind,run_underlying ht,Result.andThen_ok,MapKept.run_getObj_map c1,run_checkKey hd hik]
  rfl
 cases hf:zbs v ks with
 | none=>
  rw [hf] at f1
  have hpk:zji ks v=ks++[v]:=by unfold zji;rw [hf]
  have hpc:zjj ks cs v (σ.eval x)=cs++[σ.eval x]:=by unfold zjj;rw [hf]
  refine hrun (es++[{ key:=v,val:=a.eval x,born:=es.length }]) ?_ (by rw [hpk];simp [c2]) (fun i hi hv'=>?_) (by rw [hpc];simp [c3]) (fun i hi hv'=>?_)
  ·rw [hexec,Sem.run_bind,hgo,Sem.run_bind,run_findKey hd f1]
   simp only [Result.andThen_ok,run_setObj_map _ c1]
   simp
  ·simp only [hpk] at hi ⊢
   by_cases hlt:i<ks.length
   ·rw [List.getElem_append_left hlt,List.getElem_append_left (by omega)];exact c4 i hlt (by omega)
   ·have:i=ks.length:=by simp at hi;omega
    subst this
    simp [c2]
  ·simp only [hpc] at hi ⊢
   by_cases hlt:i<cs.length
   ·rw [List.getElem_append_left hlt,List.getElem_append_left (by omega)];exact c5 i hlt (by omega)
   ·have:i=cs.length:=by simp at hi;omega
    subst this
    simp only [List.getElem_concat_length,c3]
    exact hxe
 | some j=>
  rw [hf] at f1
  obtain⟨e0,h3,h4⟩:=f2 j hf
  obtain⟨hj,hje⟩:=List.getElem?_eq_some_iff.1 h3
  simp only [h3,Option.map_some,Nat.zero_add] at f1
  have hpk:zji ks v=ks:=by unfold zji;rw [hf]
  have hpc:zjj ks cs v (σ.eval x)=cs.set j (σ.eval x):=by unfold zjj;rw [hf]
  have hmod:es.toArray.modify j (fun e=>{ e with key:=v,val:=a.eval x })=(es.modify j fun e=>{ e with key:=v,val:=a.eval x }).toArray:=by
   apply Array.ext'
   simp
  refine hrun (es.modify j fun e=>{ e with key:=v,val:=a.eval x }) ?_ (by rw [hpk];simp [c2]) (fun i hi hv'=>?_) (by rw [hpc];simp [c3]) (fun i hi hv'=>?_)
  ·rw [hexec,Sem.run_bind,hgo,Sem.run_bind,run_findKey hd f1]
   have hkk:((es.toArray[j]?).map (·.key)).getD v=v:=by simp [h3,h4]
   simp only [Result.andThen_ok,Sem.run_bind,hkk,run_keyThatStays hik,run_setObj_map _ c1,hmod]
   simp
  ·simp only [hpk] at hi ⊢
   have hlt:i<es.length:=by omega
   have:=c4 i hi hlt
   rw [List.getElem_modify]
   split
   ·rename_i e1
    subst e1
    exact⟨(this.1.trans (congrArg MapEntry.key hje)).trans h4,this.2⟩
   ·exact this
  ·simp only [hpc] at hi ⊢
   have hlt:i<cs.length:=by simpa using hi
   rw [List.getElem_modify,List.getElem_set]
   split
   ·exact hxe
   ·exact c5 i hlt (by omega)
theorem zut {t kt et:TypeId} {d:TypeDesc} {b:Nat} {es:List MapEntry} {v z:Value} {ok:Bool} {a:Option (Nat × Value)} (ht:P.underlying t=some (.map kt et)) (hd:P.underlying kt=some d) (c1:w.heap[b]? = some (.map es.toArray es.length)) (hik:IsKey d v) (hz:zx P et=some z) (hf:Instr.findNow d v es 0=some a) :
  (Instr.lookup t (.map (some b)) v ok).run P w = .ok (if ok then .tuple #[(a.map (·.2)).getD z,.bool a.isSome] else (a.map (·.2)).getD z) w:=by
 obtain⟨i,hi,hzi⟩:∃ i,P.info? et=some i/\i.zero=some z:=by
  unfold zx at hz
  cases hi:P.info? et with
  | none=>simp [hi] at hz
  | some i=>exact⟨i,rfl,by simpa [hi] using hz⟩
 simp only [Instr.lookup,Sem.run_bind,run_underlying ht,Result.andThen_ok,MapKept.run_getObj_map c1,Sem.run_pure,run_checkKey hd hik,run_findKey hd hf]
 cases a with
 | none=>simp [zeroValue,typeInfo,hi,hzi]
 | some p=>obtain⟨i,u⟩:=p;simp
def zkr (ok:Bool) (z:AV):Option AV->AV
 | some x=>if ok then .tup [x,.d (.raw (.bool true))] else x
 | none=>if ok then .tup [z,.d (.raw (.bool false))] else z
theorem zAv {tk:Nat->Option Nat} {ok:Bool} {z:Value} {d:TypeDesc} {ks:List Value} {cs:List AV} {v:Value} {es:List MapEntry} (hik:IsKey d v) (c2:ks.length=es.length) (c3:cs.length=es.length) (c4:∀ i (hi:i<ks.length) (hv:i<es.length),ks[i]=es[i].key) (hkeys:∀ e ∈ es,IsKey d e.key)
  (c5:∀ i (hi:i<cs.length) (hv:i<es.length),Has g tk w cs[i] es[i].val):∃ a,Instr.findNow d v es 0=some a/\Has g tk w (zkr ok (zhi z) (zfv ks cs v)) (if ok then .tuple #[(a.map (·.2)).getD z,.bool a.isSome] else (a.map (·.2)).getD z):=by
 obtain⟨f1,f2⟩:=zhs hik es ks 0 c2 c4 hkeys
 have two:∀ {x:AV} {u:Value} (b:Bool),Has g tk w x u->Has g tk w (.tup [x,.d (.raw (.bool b))]) (.tuple #[u,.bool b]):=fun {x u} b h=>.tup [x,.d (.raw (.bool b))] [u,.bool b] rfl fun i hi hv=>by
  match i,hi with
  | 0,_=>exact h
  | 1,_=>exact .d (.raw _)
 cases hf:zbs v ks with
 | none=>
  rw [hf] at f1
  have:zfv ks cs v=none:=by unfold zfv;rw [hf]
  refine⟨_,f1,?_⟩
  rw [this]
  cases ok with
  | true=>exact two false (zkv _ _ _ _)
  | false=>exact zkv _ _ _ _
 | some j=>
  rw [hf] at f1
  obtain⟨e0,h3,h4⟩:=f2 j hf
  obtain⟨hj,hje⟩:=List.getElem?_eq_some_iff.1 h3
  have hjc:j<cs.length:=by omega
  have:zfv ks cs v=some cs[j]:=by unfold zfv;rw [hf];simp [hjc]
  simp only [h3,Option.map_some] at f1
  refine⟨_,f1,?_⟩
  rw [this]
  have h5:=c5 j hjc hj
  rw [hje] at h5
  cases ok with
  | true=>exact two true h5
  | false=>exact h5
theorem zkS {o:Oper} {t kt et:TypeId} {d:TypeDesc} {m k:Operand} {ks:List Value} {cs:List AV} {v z:Value} {ok:Bool} (ho:o.op = .lookup t m k ok) (ht:P.underlying t=some (.map kt et)) (hd:P.underlying kt=some d) (hz:zx P et=some z)
  (hm:(∃ r tag,σ.eval m = .mp r/\σ.blk r=some (.map tag ks cs))\/σ.eval m = .mapd ks cs) (hkv:σ.eval k = .d (.raw v)) (hv:zdf d v=true) (hks:∀ u ∈ ks,zdf d u=true):OpOk P A o σ σ (zkr ok (zhi z) (zfv ks cs v)):=by
 refine zA fun g a w hk=>?_
 have hke:=hk.eval k
 rw [hkv] at hke
 have hik:=zeq hv
 have hme:=hk.eval m
 have key:∀ (b:Nat) (es:List MapEntry),a.eval m = .map (some b)->w.heap[b]? = some (.map es.toArray es.length)->ks.length=es.length->cs.length=es.length->(∀ i (hi:i<ks.length) (hv:i<es.length),ks[i]=es[i].key)->(∀ i (hi:i<cs.length) (hv:i<es.length),Has g σ.tk w cs[i] es[i].val) ->
   ∃ v',(execOp a.eval o).run P w = .ok (.value v') w/\Has g σ.tk w (zkr ok (zhi z) (zfv ks cs v)) v':=fun b es h0 c1 c2 c3 c4 c5=>by
  have hkeys:∀ e ∈ es,IsKey d e.key:=fun e he=>by
   obtain⟨i,hi,rfl⟩:=List.getElem_of_mem he
   rw [<- c4 i (by omega) hi]
   exact zeq (hks _ (List.getElem_mem _))
  obtain⟨p,h1,h2⟩:=zAv (ok:=ok) (z:=z) hik c2 c3 c4 hkeys c5
  exact⟨_,by simp only [execOp,ho,h0,hke.raw_eq,Sem.run_bind,zut ht hd c1 hik hz h1,Result.andThen_ok,Sem.run_pure],h2⟩
 rcases hm with⟨r,tag,hm,hb⟩ | hm
 ·rw [hm] at hme
  obtain⟨_,_,es,c1,c2,c3,c4,c5⟩:=hk.blk r _ hb
  exact key _ es hme.mp_eq c1 c2 c3 (fun i hi hv=>(c4 i hi hv).1) c5
 ·rw [hm] at hme
  obtain⟨b,es,h0,_,c1,c2,c3,c4,c5⟩:=hme.mapd_eq
  exact key b es h0 c1 c2 c3 c4 c5
theorem zuO {o:Oper} {t kt et:TypeId} {x:Operand} {r me:Nat} {tag:Option Nat} {ks:List Value} {cs:List AV} (ho:o.op = .range t x) (ht:P.underlying t=some (.map kt et)) (hx:σ.eval x = .mp r) (hb:σ.blk r=some (.map tag ks cs)) (hm:σ.free A me) :
  OpOk P A o σ (σ.setBlk me (some (.iter r ks.length []))) (.box me 0):=by
 refine zaI fun g a w hk=>?_
 have hxe:=hk.eval x
 rw [hx] at hxe
 obtain⟨_,_,es,c1,c2,_⟩:=hk.blk r _ hb
 have hne:r≠me:=fun e=>by
  have h1:(σ.eval x).ment me=false:=by
   cases x with
   | tmp t=>exact St.free_tmp hm t
   | const v=>simp only [St.eval] at hx;unfold zhi at hx;split at hx <;> cases hx
   | global=>rfl
   | func=>cases hx
  rw [hx,e] at h1
  simp [AV.ment] at h1
 have hrun:(execOp a.eval o).run P w = .ok (.value (.pointer (some ⟨w.heap.size,0,none⟩))) (w.alloc (.mapIter (some (g.m r)) ks.length #[] ks.length)):=by
  simp [execOp,ho,Instr.range,hxe.mp_eq,run_underlying ht,MapKept.run_getObj_map c1,c2]
 -- the block is laid under the name me;the name of the map stays
 have hb2:Below w.heap.size w (w.alloc (.mapIter (some (g.m r)) ks.length #[] ks.length)):=(Below.refl _ _).alloc (Nat.le_refl _) _
 have h1:=(hk.grown hb2 g.F (fun _ _ h=>h) (fun _ _ h=>.inl h)).1
 have h2:=h1.addBlk (r:=me) (b:=w.heap.size) (k:=.iter r ks.length []) hm (.inl hk.hB) (heap_alloc_new w _) (by simp [Blk.ment,hne]) (fun o hf=>by have:=hk.Fb _ o hf;omega) (fun q k' hq e=>by
  have e':g.m q=w.heap.size:=e
  have:=(hk.blk q k' hq).2.lt;omega) (fun q k' hq e=>by
  have:=(hk.tok q k' hq).lt e;omega)
 refine⟨_,_,_,hrun,h2,?_⟩
 have h0:=Has.box (g:={ g with m:=zcZ g.m me w.heap.size }) (tk:=(σ.setBlk me (some (.iter r ks.length []))).tk) (w:=w.alloc (.mapIter (some (g.m r)) ks.length #[] ks.length)) me 0
 simpa only [zp] using h0
end
section
open Go Go.RowKit
variable {P:Program} {A:Base P} {σ:St} {g:Gh} {a:Act} {w:World}
inductive Eff where
 | none
 | blk (r:Nat) (b:Blk)
 | tok (r:Nat) (k:Tok)
def St.app (σ:St):Eff->St
 | .none=>σ
 | .blk r b=>σ.setBlk r (some b)
 | .tok r k=>σ.setTok r (some k)
def zfQ:Op->Bool
 | .alloc _ | .box _ _ | .makeSlice _ _ _ | .buildSlice _ _ _ | .makeMap _ _ | .range _ _=>true
 | .call c=>match c.callee with
  | .builtin .append=>true
  | _=>false
 | _=>false
def zbi (P:Program) (σ:St) (t:TypeId):AV->Option (AV × Eff × Prop)
 | .box r j=>match σ.blk r with
  | some (.cell _ cs)=>(zah P t (cs.drop j)).map fun x=>(x,.none,True)
  | _=>none
 | .at_ cs=>(zah P t (cs.map .d)).map fun x=>(x,.none,True)
 | .elem r st i j=>match σ.blk r with
  | some (.row st' _ rows)=>if st=st' then (zah P t (((rows.getD i []).drop j).map .d)).map fun x=>(x,.none,i<rows.length) else none
  | some (.cell _ cs)=>(zah P t (cs.drop (i * st+j))).map fun x=>(x,.none,True)
  | _=>none
 | .selem r st ver i j=>match σ.tok r with
  | some k=>match k.ex with
   | some rows=>if st=k.st then (zah P t (((rows.getD i []).drop j).map .d)).map fun x=>(x,.none,k.len=ver/\i<rows.length) else none
   | none=>none
  | none=>none
 | _=>none
def zaW (P:Program) (σ:St) (t:TypeId) (x:AV):AV->Option (AV × Eff × Prop)
 | .box r j=>match σ.blk r with
  | some (.cell ty cs)=>if x.cells.all AV.one && decide (x.cells.length=P.cellsOf t) && decide (P.cellsOf t≠0) && decide (j+x.cells.length<=cs.length) then some (.dead,.blk r (.cell ty (zv cs j x.cells)),True) else none
  | _=>none
 | .elem r st i j=>match σ.blk r with
  | some (.row st' ty rows)=>match zlU x.cells with
   | some ds=>if decide (st=st') && x.cells.all AV.one && decide (x.cells.length=P.cellsOf t) && decide (P.cellsOf t≠0) && decide (j+ds.length<=st) then some (.dead,.blk r (.row st' ty (rows.set i (zv (rows.getD i []) j ds))),i<rows.length) else none
   | none=>none
  | _=>none
 | .selem r st ver i j=>match σ.tok r with
  | some k=>match k.ex,zlU x.cells with
   | some rows,some ds=>if decide (st=k.st) && x.cells.all AV.one && decide (x.cells.length=P.cellsOf t) && decide (P.cellsOf t≠0) && decide (j+ds.length<=st) then some (.dead,.tok r ⟨k.st,k.ty,k.len,some (rows.set i (zv (rows.getD i []) j ds))⟩,k.len=ver/\i<rows.length) else none
   | _,_=>none
  | none=>none
 | _=>none
def zfM (P:Program) (t:TypeId) (x:AV):AV->Option (AV × Eff × Prop)
 | .d (.raw (.int _ i))=>match P.underlying t with
  | some (.slice e)=>match x with
   | .own r len=>if P.cellsOf e=0 then none else some (.elem r (P.cellsOf e) i.toNat 0,.none,0<=i/\i<(len:Nat))
   | .stk r st ver off len=>if P.cellsOf e=0 then none else if st=P.cellsOf e then some (.selem r st ver (off+i.toNat) 0,.none,0<=i/\i<(len:Nat)) else none
   | x=>match x.rows with
    | some rows=>if P.cellsOf e=0 then none else some (.at_ (rows.getD i.toNat []),.none,0<=i/\i<(rows.length:Nat)/\(rows.getD i.toNat []).length=P.cellsOf e)
    | none=>none
  | some (.array m e)=>match x with
   | .box r j=>if P.cellsOf e=0 then none else some (.box r (j+i.toNat * P.cellsOf e),.none,0<=i/\i<(m:Nat))
   | _=>none
  | _=>none
 | _=>none
def ziR (σ:St):AV->Option Tok
 | .grow r _=>σ.tok r
 | .stk r _ _ _ _=>σ.tok r
 | _=>none
def zwO (σ:St):AV->Option Blk
 | .own r _=>σ.blk r
 | _=>none
def zik (σ:St):AV->Option Blk
 | .mp r=>σ.blk r
 | _=>none
def zmy (P:Program) (bb:Option Blk) (t:TypeId) (x:AV):AV->AV->Option (AV × Eff × Prop)
 | .mp r,.d (.raw v)=>match P.underlying t,bb with
  | some (.map kt _),some (.map tag ks cs)=>match P.underlying kt with
   | some d=>if zdf d v=true then some (.dead,.blk r (.map tag (zji ks v) (zjj ks cs v x)),ks.all (zdf d)=true) else none
   | none=>none
  | _,_=>none
 | _,_=>none
def zhM (P:Program) (bb:Option Blk) (t:TypeId) (ok:Bool):AV->AV->Option (AV × Eff × Prop)
 | .mp _,.d (.raw v)=>match P.underlying t,bb with
  | some (.map kt et),some (.map _ ks cs)=>match P.underlying kt,zx P et with
   | some d,some z=>if zdf d v=true then some (zkr ok (zhi z) (zfv ks cs v),.none,ks.all (zdf d)=true) else none
   | _,_=>none
  | _,_=>none
 | .mapd ks cs,.d (.raw v)=>match P.underlying t with
  | some (.map kt et)=>match P.underlying kt,zx P et with
   | some d,some z=>if zdf d v=true then some (zkr ok (zhi z) (zfv ks cs v),.none,ks.all (zdf d)=true) else none
   | _,_=>none
  | _=>none
 | _,_=>none
def zjn (P:Program) (bb:Option Blk) (me:Nat) (t:TypeId):AV->Option (AV × Eff × Prop)
 | .mp r=>match P.underlying t,bb with
  | some (.map _ _),some (.map _ ks _)=>some (.box me 0,.blk me (.iter r ks.length []),True)
  | _,_=>none
 | _=>none
def zeB (P:Program) (kk:Option Tok) (me:Nat) (t:TypeId) (x y:AV):Option (AV × Eff × Prop):=
 match P.underlying t,y.rows with
 | some (.slice e),some rows2=>match zx P e with
  | some z=>
   if decide (z.cells.size=P.cellsOf e) && decide (P.cellsOf e≠0) && decide (P.bytesOf e<=128) then
    match x with
    | .grow r rows=>match kk with
     | some k=>if k.ty=e/\k.st=P.cellsOf e/\k.ex.isNone=true then some (.grow r (rows++rows2),.tok r { k with len:=k.len+rows2.length },rows.length=k.len/\zam (P.cellsOf e) rows2/\(∀ r ∈ rows,r.length=P.cellsOf e)/\rows.length+rows2.length<=1099511627776) else none
     | none=>none
    | .stk r st ver off len=>match kk with
     | some k=>match k.ex with
      | some rows=>if k.ty=e/\k.st=P.cellsOf e/\st=k.st/\off=0 then some (.stk r st (ver+1) 0 (len+rows2.length),.tok r ⟨k.st,k.ty,ver+1,some (rows.take len++rows2)⟩,k.len=ver/\zam (P.cellsOf e) rows2/\len<=rows.length/\len+rows2.length<=1099511627776) else none
      | none=>none
     | none=>none
    | .d (.raw (.slice none 0 0))=>some (.grow me rows2,.tok me ⟨P.cellsOf e,e,rows2.length,none⟩,zam (P.cellsOf e) rows2/\rows2.length<=1099511627776)
    | _=>none
   else none
  | none=>none
 | _,_=>none
def zqj (P:Program) (t:TypeId) (x:AV):Option (AV × Eff × Prop):=
 match P.underlying t,x with
 | some .string,.d (.raw (.string s))=>some (.d (.raw (.int .i64 s.size)),.none,True)
 | some (.slice _),.own _ len=>some (.d (.raw (.int .i64 len)),.none,True)
 | some (.slice _),.stk _ _ _ _ len=>some (.d (.raw (.int .i64 len)),.none,True)
 | some (.slice _),x=>x.rows.map fun rows=>(.d (.raw (.int .i64 rows.length)),.none,True)
 | _,_=>none
def zqk (P:Program) (bb:Option Blk) (t:TypeId) (x y:AV):Option (AV × Eff × Prop):=
 match P.underlying t,x,y.rows with
 | some (.slice e),.own r len,some rows2=>match bb with
  | some (.row st ty rows)=>if decide (P.cellsOf e=st) && decide (P.cellsOf e≠0) then some (.d (.raw (.int .i64 rows2.length)),.blk r (.row st ty rows2),rows.length=len/\rows2.length=len/\zam st rows2) else none
  | _=>none
 | _,_,_=>none
def zjc:List (List D)->Option (List Int)
 | []=>some []
 | [.raw (.int .u8 n)] :: r=>(zjc r).map (n :: ·)
 | _=>none
theorem zmh:∀ {rows:List (List D)} {xs:List Int},zjc rows=some xs->xs.length=rows.length/\∀ i (h:i<rows.length),rows[i]=[.raw (.int .u8 (xs.getD i 0))]
 | [],xs,h=>by cases h;exact⟨rfl,fun i h=>by simp at h⟩
 | x :: r,xs,h=>by
  unfold zjc at h
  split at h
  ·rename_i e;cases e
  ·rename_i n r' e
   cases e
   cases hr:zjc r with
   | none=>rw [hr] at h;cases h
   | some ys=>
    rw [hr] at h
    simp only [Option.map_some,Option.some.injEq] at h
    subst h
    obtain⟨h1,h2⟩:=zmh hr
    refine⟨by simp [h1],fun i hi=>?_⟩
    cases i with
    | zero=>simp
    | succ i=>
     have:=h2 i (by simpa using hi)
     simpa [List.getD_eq_getElem?_getD] using this
  ·cases h
def zmi (rows:List (List D)):Option (List UInt8):=(zjc rows).map (List.map fun n=>UInt8.ofNat n.toNat)
theorem zjb:∀ l:List UInt8,zjc (zC l)=some (l.map fun c=>(c.toNat:Int))
 | []=>rfl
 | c :: l=>by
  show(zjc (zC l)).map _=_
  rw [zjb l];rfl
theorem zcx (l:List UInt8):zmi (zC l)=some l:=by
 unfold zmi
 rw [zjb,Option.map_some,List.map_map]
 have e:(fun n:Int=>UInt8.ofNat n.toNat) ∘ (fun c:UInt8=>(c.toNat:Int))=id:=funext fun c=>by simp
 rw [e,List.map_id]
theorem zck (a b:List UInt8):zC a++zC b=zC (a++b):=by simp [zC]
def zjp (P:Program) (us ut:Option TypeDesc) (x:AV):Option (AV × Eff × Prop):=
 match us,ut with
 | some (.slice e),some .string=>match P.underlying e,x.rows with
  | some (.int .u8),some rows=>(zmi rows).map fun l=>(.d (.raw (.string ⟨l.toArray⟩)),.none,True)
  | _,_=>none
 | _,_=>none
def zjw:Value->Bool
 | .int .u8 n=>decide (n=0)
 | _=>false
theorem zsQ {v:Value} (h:zjw v=true):v = .int .u8 0:=by
 unfold zjw at h
 split at h
 ·rw [of_decide_eq_true h]
 ·cases h
def zdu (P:Program) (kk:Option Tok) (me:Nat) (t u:TypeId) (x y:AV):Option (AV × Eff × Prop):=
 match P.underlying t,P.underlying u,y with
 | some (.slice e),some .string,.d (.raw (.string s))=>match zx P e with
  | some z=>
   if zjw z && decide (P.cellsOf e=1) && decide (P.bytesOf e=1) then
    match x with
    | .grow r rows=>match kk with
     | some k=>if k.ty=e/\k.st=1/\k.ex.isNone=true then some (.grow r (rows++zC s.data.toList),.tok r { k with len:=k.len+s.size },rows.length=k.len/\(∀ r ∈ rows,r.length=1)/\k.len+s.size<=1099511627776) else none
     | none=>none
    | .stk r st ver off len=>match kk with
     | some k=>match k.ex with
      | some rows=>if k.ty=e/\k.st=1/\st=k.st/\off=0 then some (.stk r st (ver+1) 0 (len+(zC s.data.toList).length),.tok r ⟨k.st,k.ty,ver+1,some (rows.take len++zC s.data.toList)⟩,k.len=ver/\len<=rows.length/\len+s.size<=1099511627776) else none
      | none=>none
     | none=>none
    | .d (.raw (.slice none 0 0))=>some (.grow me (zC s.data.toList),.tok me ⟨1,e,s.size,none⟩,s.size<=1099511627776)
    | _=>none
   else none
  | none=>none
 | _,_,_=>none
def zqh:AV->AV->Option (AV × Eff × Prop)
 | .d (.raw (.int k a)),.d (.raw (.int _ b))=>some (.d (.raw (.int k (if a<b then b else a))),.none,True)
 | _,_=>none
def zgv (P:Program) (σ:St) (me:Nat) (c:Call):Option (AV × Eff × Prop):=
 match c.callee,c.args.toList,c.argTypes.toList with
 | .builtin .len,[p],[t]=>zqj P t (σ.eval p)
 | .builtin .append,[p,q],[t,t']=>if t=t' then zeB P (ziR σ (σ.eval p)) me t (σ.eval p) (σ.eval q) else zdu P (ziR σ (σ.eval p)) me t t' (σ.eval p) (σ.eval q)
 | .builtin .copy,[p,q],[t,_]=>zqk P (zwO σ (σ.eval p)) t (σ.eval p) (σ.eval q)
 | .builtin .max,[p,q],[_,_]=>zqh (σ.eval p) (σ.eval q)
 | _,_,_=>none
def znO (op:BinOp) (x y:Bool):Option Bool:=
 match op with
 | .eql=>some (x == y)
 | .neq=>some (!(x == y))
 | _=>none
def znu (op:BinOp) (b:Bool) (need:Prop):Option (AV × Eff × Prop):=
 match op with
 | .eql=>some (.d (.raw (.bool b)),.none,need)
 | .neq=>some (.d (.raw (.bool !b)),.none,need)
 | _=>none
def ziA:AV->Bool
 | .d (.raw (.pointer none))=>true
 | _=>false
def zld (P:Program) (t:TypeId) (x y:Value):Option Bool:=
 match P.underlying t,x,y with
 | some (.int _),.int k a,.int k' b=>if k=k' then some (decide (a=b)) else none
 | some .string,.string a,.string b=>some (decide (a=b))
 | some .bool,.bool a,.bool b=>some (a == b)
 | _,_,_=>none
def zAM (P:Program):List Field->List Value->List Value->Option Bool
 | [],_,_=>some true
 | f :: fs,xs,ys => if f.name = "_" then none else
  match zaC P f.type,xs[f.offset]?,ys[f.offset]? with
  | some false,some x,some y=>match zld P f.type x y,zAM P fs xs ys with
   | some b,some c=>some (b && c)
   | _,_=>none
  | _,_,_=>none
def zmo:List AV->Option (List Value)
 | []=>some []
 | .d (.raw v) :: r=>(zmo r).map (v :: ·)
 | _=>none
def zjq (op:BinOp) (k yk:IntKind) (a b:Int):Option (AV × Eff × Prop):=
 match op with
 | .shr=>some (.d (.raw (.int k (a.fdiv (2 ^ min b.toNat k.bits)))),.none,0<=b)
 | .shl=>some (.d (.raw (.int k (k.wrap (a * 2 ^ min b.toNat k.bits)))),.none,0<=b)
 | .xor=>some (.d (.raw (.int k (k.wrap ((BitVec.ofInt k.bits a ^^^ BitVec.ofInt k.bits b).toNat:Nat)))),.none,k=yk)
 | .and=>some (.d (.raw (.int k (k.wrap ((BitVec.ofInt k.bits a &&& BitVec.ofInt k.bits b).toNat:Nat)))),.none,k=yk)
 | .or=>some (.d (.raw (.int k (k.wrap ((BitVec.ofInt k.bits a ||| BitVec.ofInt k.bits b).toNat:Nat)))),.none,k=yk)
 | _=>none
def zmz (P:Program) (op:BinOp) (t:TypeId) (x y:AV):Option (AV × Eff × Prop):=
 match P.underlying t with
 | some (.int _)=>match x,y with
  | .d (.raw (.int k a)),.d (.raw (.int yk b))=>zjq op k yk a b
  | _,_=>none
 | some (.pointer e)=>
  if (ziA x && y.ptr) || (x.ptr && ziA y) then znu op false True else if ziA x && ziA y then znu op true True
  else match x,y with
   | .box r j,.box r' j'=>if r=r'/\j=j'/\P.cellsOf e≠0 then znu op true True else none
   | _,_=>none
 | some (.struct fs)=>match x,y with
  | .agg xs,.agg ys=>match zmo xs,zmo ys with
   | some us,some vs=>match zAM P fs.toList us vs with
    | some b=>znu op b (P.stoodInHeld t=false/\P.eqGuardType P.depth t=false)
    | none=>none
   | _,_=>none
  | _,_=>none
 | some (.array 2 e)=>match x,y with
  | .agg [.d (.raw a),.d (.raw b)],.agg [.d (.raw c),.d (.raw d)]=>match zld P e a c,zld P e b d with
   | some p,some q=>znu op (p && q) (P.cellsOf e=1/\zaC P e=some false/\P.eqGuardType P.depth t=false)
   | _,_=>none
  | _,_=>none
 | _=>none
def zki (P:Program) (op:BinOp) (t:TypeId):AV->AV->Option (AV × Eff × Prop)
 | .d (.raw (.bool x)),.d (.raw (.bool y))=>match P.underlying t with
  | some .bool=>(znO op x y).map fun r=>(.d (.raw (.bool r)),.none,True)
  | _=>none
 | .d (.raw x),.d (.raw y)=>match znP op x y with
  | some r=>some (.d (.raw r.1),.none,r.2)
  | none=>zmz P op t (.d (.raw x)) (.d (.raw y))
 | x,y=>zmz P op t x y
def zO (P:Program) (σ:St) (me:Nat):Op->Option (AV × Eff × Prop)
 | .move p=>some (σ.eval p,.none,True)
 | .assign p=>some (σ.eval p,.none,True)
 | .pick c p q=>match σ.eval c with
  | .d (.raw (.bool b))=>some (bif b then σ.eval p else σ.eval q,.none,True)
  | _=>none
 | .alloc ty=>match zx P ty with
  | some z=>some (.box me 0,.blk me (.cell ty (z.cells.toList.map zeh)),True)
  | none=>none
 | .box ty p=>if (σ.eval p).cells.all AV.one then some (.box me 0,.blk me (.cell ty (σ.eval p).cells),True) else none
 | .load t p=>zbi P σ t (σ.eval p)
 | .store t p q=>zaW P σ t (σ.eval q) (σ.eval p)
 | .binOp op t p q _=>zki P op t (σ.eval p) (σ.eval q)
 | .unOp .not _ p=>match σ.eval p with
  | .d (.raw (.bool b))=>some (.d (.raw (.bool !b)),.none,True)
  | _=>none
 | .unOp .neg _ p=>match σ.eval p with
  | .d (.raw (.int .i64 n))=>some (.d (.raw (.int .i64 (-n))),.none,za (-n))
  | _=>none
 | .convert s t p=>match P.underlying s,P.underlying t,σ.eval p with
  | some (.int k'),some (.int k),.d (.raw (.int k'' n))=>if k'=k'' then some (.d (.raw (.int k (k.wrap n))),.none,True) else none
  | us,ut,x=>zjp P us ut x
 | .extract p k=>match σ.eval p with
  | .tup cs=>cs[k]?.map fun x=>(x,.none,True)
  | _=>none
 | .field s p k=>match P.underlying s,σ.eval p with
  | some (.struct fs),.agg cs=>match fs[k]? with
   | some f=>(zah P f.type (cs.drop f.offset)).map fun x=>(x,.none,True)
   | none=>none
  | _,_=>none
 | .fieldAddr s p k=>match P.underlying s with
  | some (.struct fs)=>match fs[k]? with
   | some f=>if P.cellsOf f.type=0 then none else (shifted (σ.eval p) f.offset).map fun x=>(x,.none,True)
   | none=>none
  | _=>none
 | .indexAddr t p q=>zfM P t (σ.eval p) (σ.eval q)
 | .index t p q=>match P.underlying t,σ.eval p,σ.eval q with
  | some .string,.d (.raw (.string s)),.d (.raw (.int _ i))=>some (.d (.raw (.int .u8 (s.data.toList.getD i.toNat 0).toNat)),.none,0<=i/\i<(s.size:Nat))
  | some (.array m e),.agg cs,.d (.raw (.int _ i))=>if P.cellsOf e=1/\zaC P e=some false then cs[i.toNat]?.map fun x=>(x,.none,0<=i/\i<(m:Nat)) else none
  | _,_,_=>none
 | .makeSlice t p q=>match P.underlying t,σ.eval p,σ.eval q with
  | some (.slice e),.d (.raw (.int _ n)),.d (.raw (.int _ n'))=>match zx P e with
   | some z=>if decide (z.cells.toList.length=P.cellsOf e) then some (.own me n.toNat,.blk me (.row (P.cellsOf e) e (List.replicate n.toNat (z.cells.toList.map Value.toD))),n=n'/\0<=n/\P.bytesOf e * n.toNat<=281474976710656/\n.toNat<=9223372036854775807) else none
   | none=>none
  | _,_,_=>none
 | .buildSlice t n ps=>match P.underlying t with
  | some (.slice e)=>match zx P e,zgY (ps.toList.map fun x=>σ.eval x.2) with
   | some z,some rows=>
    if decide (ps.toList.map (·.1)=List.range n) && decide (z.cells.size=P.cellsOf e) && decide (P.cellsOf e≠0) && (ps.toList.all fun x=>(σ.eval x.2).cells.all AV.one && decide ((σ.eval x.2).cells.length=P.cellsOf e)) && decide (n * P.cellsOf e<=16777216) then
     some (.grow me rows,.tok me ⟨P.cellsOf e,e,n,none⟩,True) else none
   | some z,none=>
    if decide (ps.toList.map (·.1)=List.range n) && decide (z.cells.size=P.cellsOf e) && decide (P.cellsOf e=1) && (ps.toList.all fun x=>(σ.eval x.2).cells.all AV.one && decide ((σ.eval x.2).cells.length=1)) && decide (n<=16777216) then
     some (.own me n,.blk me (.cell e ((ps.toList.map fun x=>σ.eval x.2).map fun x=>x.cells.getD 0 .dead)),True) else none
   | _,_=>none
  | _=>none
 | .build t ps=>match P.underlying t with
  | some (.struct fs)=>match zx P t with
   | some z=>if fs.toList.all (fun f=>decide (P.cellsOf f.type≠0)) then (zlc (fun i=>fs[i]?.map fun f=>(f.offset,P.cellsOf f.type)) (z.cells.toList.map zeh) (ps.toList.map fun x=>(x.1,σ.eval x.2))).map fun cs=>(.agg cs,.none,True) else none
   | none=>none
  | some (.array _ el)=>match zx P t with
   | some z=>if P.cellsOf el=0 then none else (zlc (fun i=>some (i * P.cellsOf el,P.cellsOf el)) (z.cells.toList.map zeh) (ps.toList.map fun x=>(x.1,σ.eval x.2))).map fun cs=>(.agg cs,.none,True)
   | none=>none
  | _=>none
 | .slice t p lo hi none=>match P.underlying t with
  | some .string=>match σ.eval p with
   | .d (.raw (.string s))=>match zbJ (lo.map σ.eval) 0,zbJ (hi.map σ.eval) s.size with
    | some l,some h=>some (.d (.raw (.string (s.extract l.toNat h.toNat))),.none,0<=l/\l<=h/\h<=(s.size:Nat))
    | _,_=>none
   | _=>none
  | some (.slice e)=>match σ.eval p with
   | .stk r st ver off len=>match zbJ (lo.map σ.eval) 0,zbJ (hi.map σ.eval) len with
    | some l,some h=>if P.cellsOf e=0 then none else if st=P.cellsOf e then some (bif lo.isNone || decide (l<h) then .stk r st ver (off+l.toNat) (h.toNat - l.toNat) else .d (.sl []),.none,0<=l/\l<=h/\h<=(len:Nat)) else none
    | _,_=>none
   | x=>match x.rows with
    | some rows=>match zbJ (lo.map σ.eval) 0,zbJ (hi.map σ.eval) rows.length with
     | some l,some h=>if P.cellsOf e=0 then none else some (.d (.sl ((rows.take h.toNat).drop l.toNat)),.none,(∀ r ∈ rows,r.length=P.cellsOf e)/\0<=l/\l<=h/\h<=(rows.length:Nat))
     | _,_=>none
    | none=>none
  | _=>none
 | .call c=>zgv P σ me c
 | .makeMap _ none=>some (.mp me,.blk me (.map none [] []),True)
 | .mapUpdate t m k x=>zmy P (zik σ (σ.eval m)) t (σ.eval x) (σ.eval m) (σ.eval k)
 | .insert t m k x=>zmy P (zik σ (σ.eval m)) t (σ.eval x) (σ.eval m) (σ.eval k)
 | .lookup t m k ok=>zhM P (zik σ (σ.eval m)) t ok (σ.eval m) (σ.eval k)
 | .range t x=>zjn P (zik σ (σ.eval x)) me t (σ.eval x)
 | .makeFunc (.func f) fs cs=>match fs.toList with
  | []=>some (.fn f (cs.toList.map σ.eval),.none,True)
  | [p]=>match cs.toList with
   | []=>some (.bnd f (σ.eval p),.none,True)
   | _=>none
  | _=>none
 | .nilCheck p=>if (σ.eval p).ptr=true then some (σ.eval p,.none,True) else none
 | .makeInterface t p=>match P.underlying t,(σ.eval p).rawOf with
  | some (.struct _),some v=>some (.d (.raw (.iface t v)),.none,True)
  | _,_=>none
 | _=>none
theorem zuP {o:Oper} {c p q:Operand} {b:Bool} (ho:o.op = .pick c p q) (hc:σ.eval c = .d (.raw (.bool b))):OpOk P A o σ σ (bif b then σ.eval p else σ.eval q):=
 zA fun g a w hk=>by
  have h1:=hk.eval c
  rw [hc] at h1
  cases b with
  | true=>exact⟨_,by simp only [execOp,ho,h1.raw_eq,asBool,Sem.run_bind,Sem.run_pure,Result.andThen_ok];rfl,hk.eval p⟩
  | false=>exact⟨_,by simp only [execOp,ho,h1.raw_eq,asBool,Sem.run_bind,Sem.run_pure,Result.andThen_ok];rfl,hk.eval q⟩
theorem zmZ {σ:St} {p:Operand} {me:Nat} (hm:σ.free A me):zbq me (σ.eval p).cells=false:=by
 have h1:(σ.eval p).ment me=false:=by
  cases p with
  | tmp t=>
   exact St.free_tmp hm t
  | const v=>
   simp only [St.eval]
   unfold zhi
   split
   ·rename_i cs
    rw [AV.ment]
    generalize cs.toList=l
    induction l with
    | nil=>rfl
    | cons v l ih=>simp only [List.map_cons,zbq,ih,Bool.or_false];rfl
   ·rfl
  | global=>rfl
  | func=>simp [St.eval,AV.ment,zbq]
 generalize σ.eval p=x at h1
 cases x <;> simp_all [AV.cells,zbq,AV.ment]
theorem zmg (hk:Ok A σ g a w) {o:Oper} {t e:TypeId} {l:List Operand} {z:Value} (ho:o.op = .buildSlice t l.length (l.zipIdx.map fun x=>(x.2,x.1)).toArray) (ht:P.underlying t=some (.slice e)) (hz:zx P e=some z) (_hzs:z.cells.size=P.cellsOf e) (h0:P.cellsOf e≠0)
  (h1:∀ p ∈ l,(σ.eval p).cells.all AV.one=true/\(σ.eval p).cells.length=P.cellsOf e) (hlim:l.length * P.cellsOf e<=2 ^ 24) :
  ∃ arr:Array Value,(execOp a.eval o).run P w = .ok (.value (.slice (some ⟨w.heap.size,0,none⟩) l.length l.length)) (w.alloc (.cells arr e))/\arr.size=l.length * P.cellsOf e /\
   ∀ i (hi:i<l.length) j (hj:j<(σ.eval l[i]).cells.length),∃ u,arr[i * P.cellsOf e+j]? = some u/\Has g σ.tk w (σ.eval l[i]).cells[j] u:=by
 have hcells:∀ p ∈ l,(a.eval p).cells.size=P.cellsOf e:=fun p hp=>by
  have:=((hk.eval p).cells (h1 p hp).1).1
  rw [(h1 p hp).2] at this
  simpa using this.symm
 obtain⟨cs',f1,f2,f3,_⟩:=zkC (P.cellsOf e) (l.map a.eval) 0 ((Array.range (l.length * P.cellsOf e)).map (z.cells[· % z.cells.size]!)) (fun v hv=>by
  obtain⟨p,hp,rfl⟩:=List.mem_map.1 hv
  exact hcells p hp) (by simp)
 refine⟨cs',?_,by rw [f2];simp,fun i hil j hj=>by
  have hj0:j<P.cellsOf e:=by rw [<- (h1 _ (List.getElem_mem hil)).2];exact hj
  have h2:=f3 i (by simpa using hil) j hj0
  rw [Nat.zero_add,List.getElem_map] at h2
  obtain⟨c1,c2,c3⟩:=(hk.eval l[i]).cells (h1 _ (List.getElem_mem _)).1
  have hj2:j<(a.eval l[i]).cells.toList.length:=by rw [<- c1];exact hj
  refine⟨(a.eval l[i]).cells.toList[j],?_,c3 j hj hj2⟩
  rw [h2]
  have:j<(a.eval l[i]).cells.size:=by simpa using hj2
  simp [this]⟩
 obtain⟨i,hi,hzi⟩:∃ i,P.info? e=some i/\i.zero=some z:=by
  unfold zx at hz
  cases hi:P.info? e with
  | none=>simp [hi] at hz
  | some i=>exact⟨i,rfl,by simpa [hi] using hz⟩
 have hsz:i.size=P.cellsOf e:=by simp [Program.cellsOf,hi]
 have hparts:((l.zipIdx.map fun x=>(x.2,x.1)).toArray.map fun(x:Nat × Operand)=>(x.1,a.eval x.2)).toList=((l.map a.eval).zipIdx 0).map fun x=>(x.2,x.1):=by
  simp only [List.map_toArray,List.map_map]
  rw [List.zipIdx_map,List.map_map]
  rfl
 have hlim':¬ l.length * P.cellsOf e > 2 ^ 24:=by omega
 by_cases hl0:l.length * P.cellsOf e=0
 ·have hl1:l.length=0:=by
   rcases Nat.mul_eq_zero.1 hl0 with h | h
   ·exact h
   ·exact absurd h h0
  have hnil:l=[]:=List.eq_nil_of_length_eq_zero hl1
  subst hnil
  simp only [List.length_nil,Nat.zero_mul,List.map_nil,List.zipIdx_nil,Instr.fill,Option.some.injEq] at f1
  subst f1
  have he:(Array.range 0).map (fun x=>z.cells[x % z.cells.size]!)=#[]:=by simp [Array.range_zero']
  rw [he]
  simp [execOp,ho,Instr.buildSlice,run_underlying ht,zab h0,Instr.fill,newRow,Array.range_zero']
 ·simp only [execOp,ho,Instr.buildSlice,Sem.run_bind,run_underlying ht,Result.andThen_ok,zab h0,if_neg hlim',if_neg hl0,zeroValue,typeInfo,run_program,hi,hzi,Sem.run_pure,hparts,f1]
  simp [newRow]
theorem zlw {o:Oper} {t e:TypeId} {l:List Operand} {me:Nat} {z:Value} (ho:o.op = .buildSlice t l.length (l.zipIdx.map fun x=>(x.2,x.1)).toArray) (ht:P.underlying t=some (.slice e)) (hz:zx P e=some z) (hzs:z.cells.size=P.cellsOf e) (h0:P.cellsOf e=1)
  (h1:∀ p ∈ l,(σ.eval p).cells.all AV.one=true/\(σ.eval p).cells.length=1) (hlim:l.length<=2 ^ 24) (hm:σ.free A me) (hmc:zbq me (l.map fun p=>(σ.eval p).cells.getD 0 .dead)=false) :
  OpOk P A o σ (σ.setBlk me (some (.cell e (l.map fun p=>(σ.eval p).cells.getD 0 .dead)))) (.own me l.length):=by
 refine zaI fun g a w hk=>?_
 obtain⟨arr,hrun,e1,e2⟩:=zmg hk ho ht hz hzs (by omega) (fun p hp=>by rw [h0];exact h1 p hp) (by rw [h0];omega)
 have hsz:arr.size=l.length:=by rw [e1,h0,Nat.mul_one]
 refine⟨_,_,_,hrun,hk.newBlk (r:=me) (k:=.cell e (l.map fun p=>(σ.eval p).cells.getD 0 .dead)) hm hmc ⟨arr.toList,heap_alloc_new w _,by simpa using hsz,fun j hj hj'=>?_⟩,?_⟩
 ·simp only [List.length_map] at hj
  have hl:=(h1 _ (List.getElem_mem hj)).2
  obtain⟨u,hu,hh⟩:=e2 j hj 0 (by omega)
  rw [h0,Nat.mul_one,Nat.add_zero] at hu
  have hb:Below w.heap.size w (w.alloc (.cells arr e)):=(Below.refl _ _).alloc (Nat.le_refl _) _
  have e:=(hk.grown hb g.F (fun _ _ h=>h) (fun _ _ h=>.inl h)).2
  have hcd:(l.map fun p=>(σ.eval p).cells.getD 0 .dead)[j]'(by simpa using hj)=(σ.eval l[j]).cells[0]'(by omega):=by
   rw [List.getElem_map,List.getD_eq_getElem?_getD,List.getElem?_eq_getElem (by omega)];rfl
  have hv:arr.toList[j]=u:=by
   rw [Array.getElem?_eq_getElem (by omega)] at hu
   simpa using Option.some.inj hu
  rw [hcd,hv]
  exact hh.mono e fun _ _=>id
 ·have:Has { g with m:=zcZ g.m me w.heap.size } (σ.setBlk me (some (.cell e (l.map fun p=>(σ.eval p).cells.getD 0 .dead)))).tk (w.alloc (.cells arr e)) (.own me l.length) (.slice (some ⟨zcZ g.m me w.heap.size me,0,none⟩) l.length l.length):=.own me l.length l.length (Nat.le_refl _)
  rw [zp] at this
  exact this
theorem zeQ {o:Oper} {t:TypeId} {p:Operand} {r st i j:Nat} {ty:TypeId} {cs:List AV} {x:AV} (ho:o.op = .load t p) (hp:σ.eval p = .elem r st i j) (hb:σ.blk r=some (.cell ty cs)) (hx:zah P t (cs.drop (i * st+j))=some x):OpOk P A o σ σ x:=by
 refine zdR ho hx fun g a w hk=>?_
 have he:=hk.eval p
 rw [hp] at he
 obtain⟨arr,h1,h2,h3⟩:=(hk.blk r _ hb).2
 refine⟨g.m r,i * st+j,he.elem_eq,fun k hk=>?_⟩
 simp only [List.length_drop] at hk
 have hj:i * st+j+k<arr.length:=by omega
 refine⟨arr[i * st+j+k],by simp [World.cell?,h1,hj],?_⟩
 rw [List.getElem_drop]
 exact h3 (i * st+j+k) (by omega) hj
theorem zuJ {o:Oper} {t:TypeId} {p:Operand} {x:AV} {e:Eff} {n:Prop} (ho:o.op = .load t p) (h:zbi P σ t (σ.eval p)=some (x,e,n)) (hn:n):OpOk P A o σ (σ.app e) x:=by
 cases hp:σ.eval p with
 | box r j=>
  rw [hp] at h
  simp only [zbi] at h
  split at h
  ·rename_i ty cs hb
   cases hl:zah P t (cs.drop j) with
   | none=>simp [hl] at h
   | some y=>
    simp only [hl,Option.map_some,Option.some.injEq,Prod.mk.injEq] at h
    obtain⟨rfl,rfl,rfl⟩:=h
    exact zoo ho hp hb hl
  ·cases h
 | at_ cs=>
  rw [hp] at h
  simp only [zbi] at h
  cases hl:zah P t (cs.map .d) with
  | none=>simp [hl] at h
  | some y=>
   simp only [hl,Option.map_some,Option.some.injEq,Prod.mk.injEq] at h
   obtain⟨rfl,rfl,rfl⟩:=h
   exact zqp ho hp hl
 | elem r st i j=>
  rw [hp] at h
  simp only [zbi] at h
  split at h
  ·rename_i st' ty rows hb
   split at h
   ·rename_i hst
    subst hst
    cases hl:zah P t (((rows.getD i []).drop j).map .d) with
    | none=>rw [hl] at h;cases h
    | some y=>
     rw [hl] at h
     simp only [Option.map_some,Option.some.injEq,Prod.mk.injEq] at h
     obtain⟨rfl,rfl,rfl⟩:=h
     exact zmF ho hp hb hn hl
   ·cases h
  ·rename_i ty cs hb
   cases hl:zah P t (cs.drop (i * st+j)) with
   | none=>rw [hl] at h;cases h
   | some y=>
    rw [hl] at h
    simp only [Option.map_some,Option.some.injEq,Prod.mk.injEq] at h
    obtain⟨rfl,rfl,rfl⟩:=h
    exact zeQ ho hp hb hl
  ·cases h
 | dead | d | agg | tup | own | grow | fn | bnd | mp | mapd | stk=>rw [hp] at h;simp [zbi] at h
 | selem r st ver i j=>
  rw [hp] at h
  simp only [zbi] at h
  split at h
  ·rename_i k hb
   split at h
   ·rename_i rows hex
    split at h
    ·rename_i hst
     cases hl:zah P t (((rows.getD i []).drop j).map .d) with
     | none=>rw [hl] at h;cases h
     | some y=>
      rw [hl] at h
      simp only [Option.map_some,Option.some.injEq,Prod.mk.injEq] at h
      obtain⟨rfl,rfl,rfl⟩:=h
      exact zlt ho hp hb hex hst hn.1 hn.2 hl
    ·cases h
   ·cases h
  ·cases h
theorem zsp {o:Oper} {t:TypeId} {p q:Operand} {x:AV} {e:Eff} {n:Prop} (ho:o.op = .store t p q) (h:zaW P σ t (σ.eval q) (σ.eval p)=some (x,e,n)) (hn:n):OpOk P A o σ (σ.app e) x:=by
 cases hp:σ.eval p with
 | box r j=>
  rw [hp] at h
  simp only [zaW] at h
  split at h
  ·rename_i ty cs hb
   split at h
   ·rename_i hc
    simp only [Bool.and_eq_true,decide_eq_true_eq] at hc
    obtain⟨⟨⟨h1,h2⟩,h3⟩,h4⟩:=hc
    simp only [Option.some.injEq,Prod.mk.injEq] at h
    obtain⟨rfl,rfl,rfl⟩:=h
    exact zmB ho hp hb h1 h2 h3 h4
   ·cases h
  ·cases h
 | elem r st i j=>
  rw [hp] at h
  simp only [zaW] at h
  split at h
  ·rename_i st' ty rows hb
   split at h
   ·rename_i ds hds
    split at h
    ·rename_i hc
     simp only [Bool.and_eq_true,decide_eq_true_eq] at hc
     obtain⟨⟨⟨⟨rfl,h1⟩,h2⟩,h3⟩,h4⟩:=hc
     simp only [Option.some.injEq,Prod.mk.injEq] at h
     obtain⟨rfl,rfl,rfl⟩:=h
     exact zls ho hp hb hn hds h1 h2 h3 h4
    ·cases h
   ·cases h
  ·cases h
 | selem r st ver i j=>
  rw [hp] at h
  simp only [zaW] at h
  split at h
  ·rename_i k hb
   split at h
   ·rename_i rows ds hex hds
    split at h
    ·rename_i hc
     simp only [Bool.and_eq_true,decide_eq_true_eq] at hc
     obtain⟨⟨⟨⟨hst,h1⟩,h2⟩,h3⟩,h4⟩:=hc
     simp only [Option.some.injEq,Prod.mk.injEq] at h
     obtain⟨rfl,rfl,rfl⟩:=h
     exact zkj ho hp hb hex hst hn.1 hn.2 hds h1 h2 h3 h4
    ·cases h
   ·cases h
  ·cases h
 | dead | d | agg | tup | own | grow | at_ | fn | bnd | mp | mapd | stk=>rw [hp] at h;simp [zaW] at h
theorem zoq {o:Oper} {t e:TypeId} {n:Nat} {p q:Operand} {k:IntKind} {i:Int} {cs:List AV} {x:AV} (ho:o.op = .index t p q) (ht:P.underlying t=some (.array n e)) (hp:σ.eval p = .agg cs) (hq:σ.eval q = .d (.raw (.int k i))) (h0:P.cellsOf e=1) (ha:zaC P e=some false) (h1:0<=i) (h2:i<n)
  (hx:cs[i.toNat]? = some x):OpOk P A o σ σ x:=
 zA fun g a w hk=>by
  have e1:=hk.eval p
  have e2:=hk.eval q
  rw [hp] at e1
  rw [hq] at e2
  obtain⟨vs,hv,hl,hh⟩:=e1.agg_eq
  obtain⟨h3,rfl⟩:=List.getElem?_eq_some_iff.1 hx
  have hlt:i.toNat<vs.length:=by omega
  obtain⟨h4,j,hj⟩:=zey (P:=P) ha w
  refine⟨vs[i.toNat],?_,hh _ h3 hlt⟩
  have hso:=zab (P:=P) (t:=e) (by rw [h0];decide) w
  rw [h0] at hso
  simp only [execOp,ho,hv,e2.raw_eq,Instr.index,asIntOf,Sem.run_bind,Sem.run_pure,run_underlying ht,Result.andThen_ok,h1,h2,and_self,if_pos,hso,Nat.mul_one,part,h4]
  simp [hlt]
theorem zss {o:Oper} {t:TypeId} {p q:Operand} {x:AV} {e:Eff} {n:Prop} (ho:o.op = .indexAddr t p q) (h:zfM P t (σ.eval p) (σ.eval q)=some (x,e,n)) (hn:n):OpOk P A o σ (σ.app e) x:=by
 unfold zfM at h
 split at h
 ·rename_i k i hq
  split at h
  ·rename_i el ht
   split at h
   ·rename_i r len hp
    split at h
    ·cases h
    ·rename_i h0
     simp only [Option.some.injEq,Prod.mk.injEq] at h
     obtain⟨rfl,rfl,rfl⟩:=h
     exact zmH ho ht h0 hp hq hn.1 hn.2
   ·rename_i r st ver off len hp
    split at h
    ·cases h
    ·rename_i h0
     split at h
     ·rename_i hst
      simp only [Option.some.injEq,Prod.mk.injEq] at h
      obtain⟨rfl,rfl,rfl⟩:=h
      exact zmG ho ht h0 hst hp hq hn.1 hn.2
     ·cases h
   ·split at h
    ·rename_i rows hr
     split at h
     ·cases h
     ·rename_i h0
      simp only [Option.some.injEq,Prod.mk.injEq] at h
      obtain⟨rfl,rfl,rfl⟩:=h
      exact zlu ho ht h0 hr hq hn.1 hn.2.1 hn.2.2
    ·cases h
  ·rename_i m el ht
   split at h
   ·rename_i r j hp
    split at h
    ·cases h
    ·rename_i h0
     simp only [Option.some.injEq,Prod.mk.injEq] at h
     obtain⟨rfl,rfl,rfl⟩:=h
     exact zmI ho ht h0 hp hq hn.1 hn.2
   ·cases h
  ·cases h
 ·cases h
theorem zql {o:Oper} {me:Nat} {t:TypeId} {p q:Operand} {x:AV} {e:Eff} {n:Prop} (ho:o.op = .call { callee:=.builtin .append,args:=#[p,q],argTypes:=#[t,t] }) (h:zeB P (ziR σ (σ.eval p)) me t (σ.eval p) (σ.eval q)=some (x,e,n)) (hn:n) (hm:σ.free A me):OpOk P A o σ (σ.app e) x:=by
 unfold zeB at h
 split at h
 ·rename_i el rows2 ht hq
  split at h
  ·rename_i z hz
   split at h
   ·rename_i hc
    simp only [Bool.and_eq_true,decide_eq_true_eq] at hc
    obtain⟨⟨hzs,h0⟩,hby⟩:=hc
    split at h
    ·rename_i r rows hp
     split at h
     ·rename_i k hr
      rw [hp] at hr
      split at h
      ·rename_i hk2
       obtain⟨rfl,hst,hex⟩:=hk2
       simp only [Option.some.injEq,Prod.mk.injEq] at h
       obtain⟨rfl,rfl,rfl⟩:=h
       refine zaI fun g a w hk=>?_
       have hpe:=hk.eval p
       rw [hp] at hpe
       obtain⟨g',v',w',h1,h2,h3⟩:=hk.appended (P:=P) (t:=t) (ty:=o.type) hr (by simpa using hex) hpe hn.1 ((hk.eval q).rows hq) ht hz hzs h0 hst.symm hby (by rw [hst];exact hn.2.1) (by rw [hst];exact hn.2.2.1) hn.2.2.2
       exact⟨g',v',w',by simp only [execOp,ho,resolve,invoke,builtin,List.map_toArray,List.map_cons,List.map_nil,Sem.run_bind,Sem.run_pure,Result.andThen_ok,h1],h2,h3⟩
      ·cases h
     ·cases h
    ·rename_i r st ver off len hp
     split at h
     ·rename_i k hr
      rw [hp] at hr
      split at h
      ·rename_i rows hex
       split at h
       ·rename_i hk2
        obtain⟨rfl,hst,hst0,rfl⟩:=hk2
        simp only [Option.some.injEq,Prod.mk.injEq] at h
        obtain⟨rfl,rfl,rfl⟩:=h
        refine zaI fun g a w hk=>?_
        have hpe:=hk.eval p
        rw [hp] at hpe
        obtain⟨g',v',w',h1,h2,h3⟩:=hk.pushed (P:=P) (t:=t) (u:=o.type) hr hex hst0 hn.1 hpe hn.2.2.1 ((hk.eval q).rows hq) ht hz hzs h0 hst.symm hby (by rw [hst];exact hn.2.1) hn.2.2.2
        exact⟨g',v',w',by simp only [execOp,ho,resolve,invoke,builtin,List.map_toArray,List.map_cons,List.map_nil,Sem.run_bind,Sem.run_pure,Result.andThen_ok,h1],h2,h3⟩
       ·cases h
      ·cases h
     ·cases h
    ·rename_i hp
     simp only [Option.some.injEq,Prod.mk.injEq] at h
     obtain⟨rfl,rfl,rfl⟩:=h
     refine zaI fun g a w hk=>?_
     have hpe:=hk.eval p
     rw [hp] at hpe
     have hpv:=hpe.raw_eq
     have hk1:=hk.addTok (r:=me) (k:=⟨P.cellsOf el,el,0,none⟩) (v:=.slice none 0 0) hm (.of_own rfl ⟨[],World.ownsRow_nil _ _ _ _⟩) (fun x hx=>by cases hx) (fun _ _ x _ hx=>by cases hx) (fun _ _ x _ hx=>by cases hx)
     have hh:Has { g with tv:=zcZ g.tv me (.slice none 0 0) } (σ.setTok me (some ⟨P.cellsOf el,el,0,none⟩)).tk w (.grow me []) (a.eval p):=by
      rw [hpv]
      refine .grow me [] _ (.nil _ _) fun n hn=>?_
      simp only [St.tk,St.tok_setTok,if_pos,Option.map_some,Option.some.injEq] at hn
      subst hn
      exact⟨by simp,fun _=>by simp only [zp]⟩
     obtain⟨g',v',w',h1,h2,h3⟩:=hk1.appended (P:=P) (t:=t) (ty:=o.type) (k:=⟨P.cellsOf el,el,0,none⟩) (rows2:=rows2) (by rw [St.tok_setTok,if_pos rfl]) rfl hh rfl ((hk.eval q).rows hq) ht hz hzs h0 rfl hby hn.1 (fun r hr=>by cases hr) (by simpa using hn.2)
     have hsame:∀ k1 k2:Tok,∀ q,((σ.setTok me (some k1)).setTok me (some k2)).tok q=(σ.setTok me (some k2)).tok q:=fun k1 k2 q=>by
      rw [St.tok_setTok,St.tok_setTok,St.tok_setTok];split <;> rfl
     have hst2:((σ.setTok me (some ⟨P.cellsOf el,el,0,none⟩)).setTok me (some ⟨P.cellsOf el,el,0+rows2.length,none⟩)).tok=(σ.setTok me (some ⟨P.cellsOf el,el,rows2.length,none⟩)).tok:=funext fun q=>by rw [Nat.zero_add];exact hsame _ _ q
     have htk:((σ.setTok me (some ⟨P.cellsOf el,el,0,none⟩)).setTok me (some ⟨P.cellsOf el,el,0+rows2.length,none⟩)).tk=(σ.setTok me (some ⟨P.cellsOf el,el,rows2.length,none⟩)).tk:=by unfold St.tk;rw [hst2]
     refine⟨g',v',w',by simp only [execOp,ho,resolve,invoke,builtin,List.map_toArray,List.map_cons,List.map_nil,Sem.run_bind,Sem.run_pure,Result.andThen_ok,h1],?_,?_⟩
     ·exact h2.sub (σ':=σ.setTok me (some ⟨P.cellsOf el,el,rows2.length,none⟩)) (fun _=>.inr rfl) (fun _=>.inr rfl) (fun r=>.inr (by rw [hst2]))
     ·show Has g' (σ.setTok me (some ⟨P.cellsOf el,el,rows2.length,none⟩)).tk w' _ v'
      rw [<- htk];exact h3
    ·cases h
   ·cases h
  ·cases h
 ·cases h
theorem zpZ {w:World} {src dst e:TypeId} {F:Nat->Nat->Prop} {rows:List (List D)} {xs:List Int} {v:Value} (hs:P.underlying src=some (.slice e)) (he:P.underlying e=some (.int .u8)) (hd:P.underlying dst=some .string) (h:Reads w F (.sl rows) v) (hx:zjc rows=some xs):(convert src dst v).run P w = .ok (.string (strOfNums xs)) w:=by
 obtain⟨hl,hr⟩:=zmh hx
 cases h with
 | nil p cap=>
  have:xs=[]:=List.eq_nil_of_length_eq_zero (by simpa using hl)
  subst this
  cases p with
  | none=>exact run_convert_bytes_nil w src e hs he 0 cap dst hd
  | some a=>
   rw [run_convert_bytes_string w src dst e _ 0 cap hs he hd,run_bytesToString w a 0 cap [] (by simp [loadCells,loadCellsFrom])]
   rfl
 | rows st rows b off cap val hcap hpos hrow hcell hsub=>
  have hst:st=1:=by rw [<- hrow 0 hpos,hr 0 hpos];rfl
  subst hst
  refine run_convert_bytes_arg w src e hs he b off rows.length cap xs hl (fun i hi=>?_) dst hd
  have h1:=(hcell i 0 hi (by omega)).2
  have h2:=hsub i hi 0 (by rw [hr i hi];exact Nat.zero_lt_one)
  simp only [hr i hi,List.getElem_cons_zero] at h2
  rw [Nat.mul_one,Nat.add_zero] at h1
  rw [h1,h2.raw_eq]
theorem zuK {o:Oper} {s t:TypeId} {p:Operand} {x:AV} {e:Eff} {n:Prop} (ho:o.op = .convert s t p) (h:zjp P (P.underlying s) (P.underlying t) (σ.eval p)=some (x,e,n)) (_hn:n):OpOk P A o σ (σ.app e) x:=by
 unfold zjp at h
 split at h
 ·rename_i el hs ht
  split at h
  ·rename_i rows he hp
   cases hl:zjc rows with
   | none=>unfold zmi at h;rw [hl] at h;cases h
   | some xs=>
    unfold zmi at h
    rw [hl] at h
    simp only [Option.map_some,Option.some.injEq,Prod.mk.injEq] at h
    obtain⟨rfl,rfl,rfl⟩:=h
    exact zA fun g a w hk=>⟨_,by simp only [execOp,ho,Sem.run_bind,zpZ hs he ht ((hk.eval p).rows hp) hl,Result.andThen_ok,Sem.run_pure];rfl,.d (.raw _)⟩
  ·cases h
 ·cases h
theorem zoj {o:Oper} {me:Nat} {t u:TypeId} {p q:Operand} {x:AV} {e:Eff} {n:Prop} (ho:o.op = .call { callee:=.builtin .append,args:=#[p,q],argTypes:=#[t,u] }) (h:zdu P (ziR σ (σ.eval p)) me t u (σ.eval p) (σ.eval q)=some (x,e,n)) (hn:n) (hm:σ.free A me):OpOk P A o σ (σ.app e) x:=by
 unfold zdu at h
 split at h
 ·rename_i el s ht hu hq
  split at h
  ·rename_i z hz
   split at h
   ·rename_i hc
    simp only [Bool.and_eq_true,decide_eq_true_eq] at hc
    obtain⟨⟨hz0,h1⟩,hby⟩:=hc
    rw [zsQ hz0] at hz
    split at h
    ·rename_i r rows hp
     split at h
     ·rename_i k hr
      rw [hp] at hr
      split at h
      ·rename_i hk2
       obtain⟨rfl,hst,hex⟩:=hk2
       simp only [Option.some.injEq,Prod.mk.injEq] at h
       obtain⟨rfl,rfl,rfl⟩:=h
       refine zaI fun g a w hk=>?_
       have hpe:=hk.eval p
       rw [hp] at hpe
       have hqe:=hk.eval q
       rw [hq] at hqe
       obtain⟨g',v',w',h1,h2,h3⟩:=hk.appendedS (P:=P) (t:=t) (ty:=o.type) hr (by simpa using hex) hpe hn.1 ht hu hz h1 hst hby hn.2.1 hn.2.2
       exact⟨g',v',w',by simp only [execOp,ho,resolve,invoke,builtin,List.map_toArray,List.map_cons,List.map_nil,Sem.run_bind,Sem.run_pure,Result.andThen_ok,hqe.raw_eq,h1],h2,h3⟩
      ·cases h
     ·cases h
    ·rename_i r st ver off len hp
     split at h
     ·rename_i k hr
      rw [hp] at hr
      split at h
      ·rename_i rows hex
       split at h
       ·rename_i hk2
        obtain⟨rfl,hst,hst0,rfl⟩:=hk2
        simp only [Option.some.injEq,Prod.mk.injEq] at h
        obtain⟨rfl,rfl,rfl⟩:=h
        refine zaI fun g a w hk=>?_
        have hpe:=hk.eval p
        rw [hp] at hpe
        have hqe:=hk.eval q
        rw [hq] at hqe
        obtain⟨g',v',w',h1,h2,h3⟩:=hk.pushedS (P:=P) (t:=t) (uu:=o.type) hr hex hst0 hst hn.1 hpe hn.2.1 ht hu hz h1 hby hn.2.2
        exact⟨g',v',w',by simp only [execOp,ho,resolve,invoke,builtin,List.map_toArray,List.map_cons,List.map_nil,Sem.run_bind,Sem.run_pure,Result.andThen_ok,hqe.raw_eq,h1],h2,h3⟩
       ·cases h
      ·cases h
     ·cases h
    ·rename_i hp
     simp only [Option.some.injEq,Prod.mk.injEq] at h
     obtain⟨rfl,rfl,rfl⟩:=h
     refine zaI fun g a w hk=>?_
     have hpe:=hk.eval p
     rw [hp] at hpe
     have hqe:=hk.eval q
     rw [hq] at hqe
     have hk1:=hk.addTok (r:=me) (k:=⟨1,el,0,none⟩) (v:=.slice none 0 0) hm (.of_own rfl ⟨[],World.ownsRow_nil _ _ _ _⟩) (fun x hx=>by cases hx) (fun _ _ x _ hx=>by cases hx) (fun _ _ x _ hx=>by cases hx)
     have hh:Has { g with tv:=zcZ g.tv me (.slice none 0 0) } (σ.setTok me (some ⟨1,el,0,none⟩)).tk w (.grow me []) (a.eval p):=by
      rw [hpe.raw_eq]
      refine .grow me [] _ (.nil _ _) fun n hn=>?_
      simp only [St.tk,St.tok_setTok,if_pos,Option.map_some,Option.some.injEq] at hn
      subst hn
      exact⟨by simp,fun _=>by simp only [zp]⟩
     obtain⟨g',v',w',h1,h2,h3⟩:=hk1.appendedS (P:=P) (t:=t) (ty:=o.type) (k:=⟨1,el,0,none⟩) (s:=s) (by rw [St.tok_setTok,if_pos rfl]) rfl hh rfl ht hu hz h1 rfl hby (fun r hr=>by cases hr) (by simpa using hn)
     have hsub:∀ r',((σ.setTok me (some ⟨1,el,0,none⟩)).setTok me (some ⟨1,el,0+s.size,none⟩)).tok r'=(σ.setTok me (some ⟨1,el,s.size,none⟩)).tok r':=fun r'=>by
      rw [St.tok_setTok,St.tok_setTok,St.tok_setTok,Nat.zero_add]
      split <;> rfl
     refine⟨g',v',w',by simp only [execOp,ho,resolve,invoke,builtin,List.map_toArray,List.map_cons,List.map_nil,Sem.run_bind,Sem.run_pure,Result.andThen_ok,hqe.raw_eq,h1],h2.sub (fun _=>.inr rfl) (fun _=>.inr rfl) (fun r'=>.inr (hsub r').symm),?_⟩
     have htk:(σ.setTok me (some ⟨1,el,s.size,none⟩)).tk=((σ.setTok me (some ⟨1,el,0,none⟩)).setTok me (some ⟨1,el,0+s.size,none⟩)).tk:=funext fun r'=>by
      unfold St.tk;rw [hsub]
     show Has g' (σ.setTok me (some ⟨1,el,s.size,none⟩)).tk w' _ v'
     rw [htk];exact h3
    ·cases h
   ·cases h
  ·cases h
 ·cases h
theorem zkc {w:World} {d:Nat} {t:TypeId} {x y:Value} {b:Bool} (h:zld P t x y=some b):(Op.equalIn (d+1) t x y).run P w = .ok b w:=by
 unfold zld at h
 split at h
 ·rename_i k0 k a k' c ht
  split at h
  ·rename_i hk;subst hk;cases h
   exact run_equalIn_int w d t k k0 a c ht
  ·cases h
 ·rename_i a c ht
  cases h
  rw [run_equalIn_string w d t a c ht,zEn]
 ·rename_i a c ht
  cases h
  exact run_equalIn_bool' w d t a c ht
 ·cases h
theorem zrT {w:World} {d:Nat}:∀ {fs:List Field} {xs ys:List Value} {b:Bool},zAM P fs xs ys=some b->(Op.eqFields (d+1) xs.toArray ys.toArray fs).run P w = .ok b w
 | [],_,_,_,h=>by cases h;rfl
 | f :: fs,xs,ys,b,h=>by
  unfold zAM at h
  split at h
  ·cases h
  ·rename_i hn
   split at h
   ·rename_i x y ha hx hy
    split at h
    ·rename_i p q h1 h2
     cases h
     have hp:∀ {zs:List Value} {z:Value},zs[f.offset]? = some z->(part f.type zs.toArray f.offset).run P w = .ok z w:=fun hz=>by
      simp only [part,Sem.run_bind,(zey ha w).1,Result.andThen_ok,List.getElem?_toArray,hz]
      rfl
     unfold Op.eqFields
     rw [if_pos hn]
     simp only [Sem.run_bind,hp hx,hp hy,Result.andThen_ok,zkc h1]
     cases p with
     | false=>rfl
     | true=>simp only [Bool.not_true,Bool.false_eq_true,if_false,Bool.true_and];exact zrT h2
    ·cases h
   ·cases h
theorem zeN {g:Gh} {tk:Nat->Option Nat} {w:World}:∀ {cs:List AV} {us:List Value} {vs:List Value},zmo cs=some us->cs.length=vs.length->(∀ i (hi:i<cs.length) (hv:i<vs.length),Has g tk w cs[i] vs[i])->vs=us
 | [],us,vs,h,hl,_=>by
  cases h
  exact List.eq_nil_of_length_eq_zero hl.symm
 | c :: cs,us,vs,h,hl,hh=>by
  unfold zmo at h
  split at h
  ·rename_i e;cases e
  ·rename_i v r e
   cases e
   cases hr:zmo cs with
   | none=>rw [hr] at h;cases h
   | some us'=>
    rw [hr] at h
    simp only [Option.map_some,Option.some.injEq] at h
    subst h
    cases vs with
    | nil=>simp at hl
    | cons v' vs=>
     have h0:=hh 0 (by simp) (by simp)
     simp only [List.getElem_cons_zero] at h0
     have h1:=zeN (vs:=vs) hr (by simpa using hl) fun i hi hv=>by
      have:=hh (i+1) (by simpa using hi) (by simpa using hv)
      simp only [List.getElem_cons_succ] at this
      exact this
     rw [h0.raw_eq,h1]
  ·cases h
theorem zkE {op:BinOp} {b:Bool} {need n:Prop} {x:AV} {e:Eff} (h:znu op b need=some (x,e,n)):n=need/\e = .none/\((op = .eql/\x = .d (.raw (.bool b)))\/(op = .neq/\x = .d (.raw (.bool !b)))):=by
 cases op <;> simp only [znu,Option.some.injEq,Prod.mk.injEq,reduceCtorEq] at h
 ·obtain⟨rfl,rfl,rfl⟩:=h;exact⟨rfl,rfl,.inl ⟨rfl,rfl⟩⟩
 ·obtain⟨rfl,rfl,rfl⟩:=h;exact⟨rfl,rfl,.inr ⟨rfl,rfl⟩⟩
theorem zgr {w:World} {d:Nat} {t el:TypeId} (ht:P.underlying t=some (.pointer el)):(∀ b,(Op.equalIn (d+1) t (.pointer none) (.pointer b)).run P w = .ok b.isNone w)/\(∀ a,(Op.equalIn (d+1) t (.pointer (some a)) (.pointer none)).run P w = .ok false w)/\(P.cellsOf el≠0->∀ a,(Op.equalIn (d+1) t (.pointer (some a)) (.pointer (some a))).run P w = .ok true w):=by
 refine⟨fun b=>?_,fun a=>?_,fun h0 a=>?_⟩
 ·simp [Op.equalIn,run_underlying ht]
 ·simp [Op.equalIn,run_underlying ht]
 ·simp [Op.equalIn,run_underlying ht,zab h0,sameAddr]
theorem zuu {w:World} {d:Nat} {t el:TypeId} {a b c e:Value} {p q:Bool} (ht:P.underlying t=some (.array 2 el)) (h1:P.cellsOf el=1) (hag:zaC P el=some false) (hp:zld P el a c=some p) (hq:zld P el b e=some q):(Op.equalIn (d+1+1) t (.agg #[a,b]) (.agg #[c,e])).run P w = .ok (p && q) w:=by
 have ha:=(zey hag w).1
 have h0:P.cellsOf el≠0:=by omega
 have r1:=zkc (w:=w) (d:=d) hp
 have r2:=zkc (w:=w) (d:=d) hq
 have hp1:∀ (z1 z2:Value),(part el #[z1,z2] 0).run P w = .ok z1 w:=fun z1 z2=>by simp [part,ha]
 have hp2:∀ (z1 z2:Value),(part el #[z1,z2] 1).run P w = .ok z2 w:=fun z1 z2=>by simp [part,ha]
 rw [Op.equalIn]
 simp only [Sem.run_bind,run_underlying ht,Result.andThen_ok,zab h0,h1]
 rw [Std.Legacy.Range.forIn_eq_forIn_range']
 have e:List.range' [:2].start [:2].size [:2].step=[0,1]:=rfl
 rw [e]
 cases p with
 | false=>simp only [List.forIn_cons,Sem.run_bind,Nat.zero_mul,hp1,r1,Result.andThen_ok,Bool.not_false,if_true,Sem.run_pure,Bool.false_and]
 | true=>cases q <;> simp only [List.forIn_cons,List.forIn_nil,Sem.run_bind,Nat.zero_mul,Nat.one_mul,hp1,hp2,r1,r2,Result.andThen_ok,Bool.not_true,Bool.not_false,Bool.false_eq_true,if_false,if_true,Sem.run_pure,Bool.true_and]
theorem zhh {o:Oper} {op:BinOp} {t t':TypeId} {p q:Operand} {x:AV} {e:Eff} {b:Bool} {need n:Prop} (ho:o.op = .binOp op t p q t') (h:znu op b need=some (x,e,n))
  (hr:∀ g a w,Ok A σ g a w->(eqGuard op t p q (a.eval p) (a.eval q)).run P w = .ok () w/\(Op.equal t (a.eval p) (a.eval q)).run P w = .ok b w/\(∀ k n,a.eval p ≠ .int k n)/\(∀ k n,a.eval p ≠ .float k n)/\(∀ k m n,a.eval p ≠ .complex k m n)/\∀ s,a.eval p ≠ .string s):OpOk P A o σ (σ.app e) x:=by
 obtain⟨_,he,hd⟩:=zkE h
 clear h
 subst he
 refine zA fun g a w hk=>?_
 obtain⟨h1,h2,h3,h4,h5,h6⟩:=hr g a w hk
 have key:∀ v:Value,(binOp op t (a.eval p) (a.eval q)).run P w = .ok v w->(execOp a.eval o).run P w = .ok (.value v) w:=fun v hv=>by
  simp only [execOp,ho,Sem.run_bind,h1,Result.andThen_ok,hv,Sem.run_pure]
 generalize a.eval p=u at *
 generalize a.eval q=v at *
 rcases hd with⟨rfl,rfl⟩ | ⟨rfl,rfl⟩
 ·refine⟨_,key (.bool b) ?_,.d (.raw _)⟩
  cases u with
  | int k n=>exact absurd rfl (h3 k n)
  | float k n=>exact absurd rfl (h4 k n)
  | complex k m n=>exact absurd rfl (h5 k m n)
  | string s=>exact absurd rfl (h6 s)
  | _=>simp only [binOp,Sem.run_bind,h2,Result.andThen_ok,Sem.run_pure]
 ·refine⟨_,key (.bool !b) ?_,.d (.raw _)⟩
  cases u with
  | int k n=>exact absurd rfl (h3 k n)
  | float k n=>exact absurd rfl (h4 k n)
  | complex k m n=>exact absurd rfl (h5 k m n)
  | string s=>exact absurd rfl (h6 s)
  | _=>simp only [binOp,Sem.run_bind,h2,Result.andThen_ok,Sem.run_pure]
theorem zhL {x:AV} (h:ziA x=true):x = .d (.raw (.pointer none)):=by
 unfold ziA at h
 split at h
 ·rfl
 ·cases h
theorem Has.ptr {tk:Nat->Option Nat} {x:AV} {v:Value} (h:Has g tk w x v) (hx:x.ptr=true):∃ a,v = .pointer (some a):=by
 unfold AV.ptr at hx
 cases h with
 | box | elem | selem | at_=>exact⟨_,rfl⟩
 | _=>simp at hx
theorem zuM {o:Oper} {op:BinOp} {t t':TypeId} {p q:Operand} {x:AV} {e:Eff} {n:Prop} {k yk:IntKind} {a0 b0:Int} (ho:o.op = .binOp op t p q t') (hp0:σ.eval p = .d (.raw (.int k a0))) (hq0:σ.eval q = .d (.raw (.int yk b0))) (h:zjq op k yk a0 b0=some (x,e,n)) (hn:n):OpOk P A o σ (σ.app e) x:=by
 have key:∀ v:Value,(∀ w,(binOp op t (.int k a0) (.int yk b0)).run P w = .ok v w)->x = .d (.raw v)->OpOk P A o σ σ x:=fun v hv hx=>zA fun g a w hk=>by
  have hp:=hk.eval p
  have hq:=hk.eval q
  rw [hp0] at hp
  rw [hq0] at hq
  have hg:(eqGuard op t p q (.int k a0) (.int yk b0)).run P w = .ok () w:=by cases op <;> rfl
  subst hx
  exact⟨v,by simp only [execOp,ho,hp.raw_eq,hq.raw_eq,Sem.run_bind,hg,hv,Result.andThen_ok,Sem.run_pure],.d (.raw v)⟩
 unfold zjq at h
 split at h <;> (first | (cases h;done) | skip)
 all_goals
  simp only [Option.some.injEq,Prod.mk.injEq] at h
  obtain⟨h1,rfl,rfl⟩:=h
  subst h1
  first
   | (refine key _ (fun w=>?_) rfl;have h0:¬ b0<0:=by omega
      simp only [binOp,Op.shift,if_neg h0];rfl)
   | (refine key _ (fun w=>?_) rfl;subst hn
      simp only [binOp,ne_eq,not_true_eq_false,if_false,Op.intBits];rfl)
theorem zst {o:Oper} {op:BinOp} {t t':TypeId} {p q:Operand} {x:AV} {e:Eff} {n:Prop} (ho:o.op = .binOp op t p q t') (h:zmz P op t (σ.eval p) (σ.eval q)=some (x,e,n)) (hn:n):OpOk P A o σ (σ.app e) x:=by
 have hg:∀ {u v:Option Addr} {w:World},(eqGuard op t p q (.pointer u) (.pointer v)).run P w = .ok () w:=fun {u v w}=>by cases op <;> rfl
 unfold zmz at h
 split at h
 ·split at h
  ·rename_i k a0 yk b0 hp0 hq0
   refine zuM ho hp0 hq0 h hn
  ·cases h
 ·rename_i el ht
  split at h
  ·rename_i hc
   simp only [Bool.or_eq_true,Bool.and_eq_true] at hc
   refine zhh ho h fun g a w hk=>?_
   have hp:=hk.eval p
   have hq:=hk.eval q
   rcases hc with⟨h1,h2⟩ | ⟨h1,h2⟩
   ·obtain⟨b,hb⟩:=hq.ptr h2
    rw [zhL h1] at hp
    rw [hp.raw_eq,hb]
    exact⟨hg,(zgr (d:=9999) ht).1 (some b),by simp,by simp,by simp,by simp⟩
   ·obtain⟨b,hb⟩:=hp.ptr h1
    rw [zhL h2] at hq
    rw [hq.raw_eq,hb]
    exact⟨hg,(zgr (d:=9999) ht).2.1 b,by simp,by simp,by simp,by simp⟩
  ·split at h
   ·rename_i hc
    simp only [Bool.and_eq_true] at hc
    refine zhh ho h fun g a w hk=>?_
    have hp:=hk.eval p
    have hq:=hk.eval q
    rw [zhL hc.1] at hp
    rw [zhL hc.2] at hq
    rw [hp.raw_eq,hq.raw_eq]
    exact⟨hg,(zgr (d:=9999) ht).1 none,by simp,by simp,by simp,by simp⟩
   ·split at h
    ·rename_i r j r' j' hp0 hq0
     split at h
     ·rename_i hc
      obtain⟨rfl,rfl,h0⟩:=hc
      refine zhh ho h fun g a w hk=>?_
      have hp:=hk.eval p
      have hq:=hk.eval q
      rw [hp0] at hp
      rw [hq0] at hq
      rw [hp.box_eq,hq.box_eq]
      exact⟨hg,(zgr (d:=9999) ht).2.2 h0 _,by simp,by simp,by simp,by simp⟩
     ·cases h
    ·cases h
 ·rename_i fs ht
  split at h
  ·rename_i xs ys hp0 hq0
   split at h
   ·rename_i us vs h1 h2
    split at h
    ·rename_i b hb
     have hnn:=(zkE h).1
     rw [hnn] at hn
     refine zhh ho h fun g a w hk=>?_
     have hp:=hk.eval p
     have hq:=hk.eval q
     rw [hp0] at hp
     rw [hq0] at hq
     obtain⟨vs1,e1,l1,k1⟩:=hp.agg_eq
     obtain⟨vs2,e2,l2,k2⟩:=hq.agg_eq
     rw [e1,e2,zeN h1 l1 k1,zeN h2 l2 k2]
     have hf:P.fieldsOf t=fs:=by unfold Program.fieldsOf;rw [ht]
     refine⟨run_eqGuard_agg w op t p q _ _ hn.2,?_,by simp,by simp,by simp,by simp⟩
     show(Op.equalIn 10000 t _ _).run P w=_
     rw [run_equalIn_agg w 9999 t _ _ (by rw [hf];exact ht) hn.1,hf]
     exact zrT (d:=9998) hb
    ·cases h
   ·cases h
  ·cases h
 ·rename_i el ht
  split at h
  ·rename_i a1 b1 c1 d1 hp0 hq0
   split at h
   ·rename_i b b' h1 h2
    have hnn:=(zkE h).1
    rw [hnn] at hn
    refine zhh ho h fun g a w hk=>?_
    have hp:=hk.eval p
    have hq:=hk.eval q
    rw [hp0] at hp
    rw [hq0] at hq
    obtain⟨vs1,e1,l1,k1⟩:=hp.agg_eq
    obtain⟨vs2,e2,l2,k2⟩:=hq.agg_eq
    rw [e1,e2,zeN (us:=[a1,b1]) rfl l1 k1,zeN (us:=[c1,d1]) rfl l2 k2]
    refine⟨run_eqGuard_agg w op t p q _ _ hn.2.2,?_,by simp,by simp,by simp,by simp⟩
    exact zuu (d:=9998) ht hn.1 hn.2.1 h1 h2
   ·cases h
  ·cases h
 ·cases h
theorem zxI {o:Oper} {op:BinOp} {t t':TypeId} {p q:Operand} {x:AV} {e:Eff} {n:Prop} (ho:o.op = .binOp op t p q t') (h:zki P op t (σ.eval p) (σ.eval q)=some (x,e,n)) (hn:n):OpOk P A o σ (σ.app e) x:=by
 unfold zki at h
 split at h
 ·rename_i x1 y1 hp hq
  split at h
  ·rename_i ht
   cases hb:znO op x1 y1 with
   | none=>rw [hb] at h;cases h
   | some r=>
    rw [hb] at h
    simp only [Option.map_some,Option.some.injEq,Prod.mk.injEq] at h
    obtain⟨rfl,rfl,rfl⟩:=h
    refine zsz ho hp hq ht ?_
    unfold znO at hb
    split at hb
    ·cases hb;exact .inl ⟨rfl,rfl⟩
    ·cases hb;exact .inr ⟨rfl,rfl⟩
    ·cases hb
  ·cases h
 ·rename_i x1 y1 _ hp hq
  cases hb:znP op x1 y1 with
  | none=>rw [hb] at h;exact zst ho (by rw [hp,hq];exact h) hn
  | some r=>
   rw [hb] at h
   simp only [Option.some.injEq,Prod.mk.injEq] at h
   obtain⟨rfl,rfl,rfl⟩:=h
   exact zuV ho hp hq (by rw [hb]) hn
 ·exact zst ho h hn
end
section
open Go Go.RowKit
variable {P:Program} {A:Base P} {σ:St} {g:Gh} {a:Act} {w:World}
theorem zaP {x x':AV} {e e':Eff} {n n':Prop} (h:some (x,e,n)=some (x',e',n')):x=x'/\e=e'/\n=n':=by
 simpa only [Option.some.injEq,Prod.mk.injEq] using h
theorem zvf {α:Type} {y:Option α} {f:α->AV × Eff × Prop} {z:AV × Eff × Prop} (h:y.map f=some z):∃ u,y=some u/\f u=z:=by
 cases y with
 | none=>cases h
 | some u=>exact⟨u,rfl,by simpa using h⟩
theorem zpb {me:Nat}:∀ {cs:List AV},(∀ x ∈ cs,x.ment me=false)->zbq me cs=false
 | [],_=>rfl
 | c :: cs,h=>by rw [zbq,h c (List.mem_cons_self ..),zpb fun x hx=>h x (List.mem_cons_of_mem _ hx)];rfl
theorem zej {ps:Array (Nat × Operand)} {n:Nat} (h:ps.toList.map (·.1)=List.range n):ps=((ps.toList.map (·.2)).zipIdx.map fun x=>(x.2,x.1)).toArray/\n=(ps.toList.map (·.2)).length:=by
 have hl:n=ps.toList.length:=by
  have:=congrArg List.length h
  simpa using this.symm
 refine⟨?_,by simpa using hl⟩
 apply Array.ext'
 apply List.ext_getElem
 ·simp
 ·intro i h1 h2
  simp only [List.getElem_map,List.getElem_zipIdx]
  have h3:(ps.toList.map (·.1))[i]'(by simpa using h1)=i:=by
   simp only [h,List.getElem_range]
  rw [List.getElem_map] at h3
  rw [Nat.zero_add]
  exact Prod.ext h3 rfl
theorem zhW {c:Call} {f:Callee} {args:List Operand} {ats:List TypeId} (h1:c.callee=f) (h2:c.args.toList=args) (h3:c.argTypes.toList=ats):c={ callee:=f,args:=args.toArray,argTypes:=ats.toArray }:=by
 cases c
 simp only at h1 h2 h3
 subst h1 h2 h3
 rfl
theorem zuL {o:Oper} {me:Nat} {c:Call} {x:AV} {e:Eff} {n:Prop} (ho:o.op = .call c) (h:zgv P σ me c=some (x,e,n)) (hn:n) (hm:zfQ (.call c)=true->σ.free A me):OpOk P A o σ (σ.app e) x:=by
 unfold zgv at h
 split at h
 ·rename_i p t h1 h2 h3
  rw [zhW h1 h2 h3] at ho
  unfold zqj at h
  split at h
  ·rename_i s ht hp
   obtain⟨rfl,rfl,rfl⟩:=zaP h
   exact zjs ho (by rw [hp];rfl) (.inl ⟨ht,s,hp⟩)
  ·rename_i el r len ht hp
   obtain⟨rfl,rfl,rfl⟩:=zaP h
   exact zjs ho (by rw [hp];rfl) (.inr ⟨⟨el,ht⟩,fun s hs=>by rw [hp] at hs;cases hs⟩)
  ·rename_i el r st ver off len ht hp
   obtain⟨rfl,rfl,rfl⟩:=zaP h
   exact zjs ho (by rw [hp];rfl) (.inr ⟨⟨el,ht⟩,fun s hs=>by rw [hp] at hs;cases hs⟩)
  ·rename_i el ht _ _
   obtain⟨rows,h1,h2⟩:=zvf h
   obtain⟨rfl,rfl,rfl⟩:=zaP (congrArg some h2)
   refine zjs ho ?_ (.inr ⟨⟨el,ht⟩,fun s hs=>by rw [hs] at h1;cases h1⟩)
   unfold AV.len
   split
   ·rename_i s hs;rw [hs] at h1;cases h1
   ·rename_i r len hs;rw [hs] at h1;cases h1
   ·rename_i r st ver off len hs;rw [hs] at h1;cases h1
   ·rw [h1];rfl
  ·cases h
 ·rename_i p q t t' h1 h2 h3
  rw [zhW h1 h2 h3] at ho
  split at h
  ·rename_i ht;subst ht
   exact zql ho h hn (hm (by simp [zfQ,h1]))
  ·exact zoj ho h hn (hm (by simp [zfQ,h1]))
 ·rename_i p q t t' h1 h2 h3
  rw [zhW h1 h2 h3] at ho
  unfold zqk at h
  split at h
  ·rename_i el r len rows2 ht hp hq
   split at h
   ·rename_i st ty rows hb
    rw [hp] at hb
    split at h
    ·rename_i hc
     simp only [Bool.and_eq_true,decide_eq_true_eq] at hc
     obtain⟨rfl,rfl,rfl⟩:=zaP h
     obtain⟨h1,h2,h3⟩:=hn
     rw [h2]
     exact zxL ho ht hc.2 hc.1 hp hb hq h1 h2 h3
    ·cases h
   ·cases h
  ·cases h
 ·rename_i p q t t' h1 h2 h3
  rw [zhW h1 h2 h3] at ho
  unfold zqh at h
  split at h
  ·rename_i k x k' y hp hq
   obtain⟨rfl,rfl,rfl⟩:=zaP h
   exact zA fun g a w hk=>by
    have e1:=hk.eval p
    have e2:=hk.eval q
    rw [hp] at e1
    rw [hq] at e2
    refine⟨_,?_,.d (.raw _)⟩
    simp only [execOp,ho,resolve,invoke,builtin,List.map_toArray,List.map_cons,List.map_nil,e1.raw_eq,e2.raw_eq,Sem.run_bind,Sem.run_pure,Result.andThen_ok,Builtin.max_,List.foldlM_cons,List.foldlM_nil,Builtin.max2]
  ·cases h
 ·cases h
theorem zoU {o:Oper} {t:TypeId} {m k x:Operand} {y:AV} {e:Eff} {n:Prop} (ho:o.op = .mapUpdate t m k x\/o.op = .insert t m k x) (h:zmy P (zik σ (σ.eval m)) t (σ.eval x) (σ.eval m) (σ.eval k)=some (y,e,n)) (hn:n):OpOk P A o σ (σ.app e) y:=by
 unfold zmy at h
 split at h
 ·rename_i r v hm hkv
  split at h
  ·rename_i kt et tag ks cs ht hb
   rw [hm] at hb
   split at h
   ·rename_i d hd
    split at h
    ·rename_i hv
     obtain⟨rfl,rfl,rfl⟩:=zaP h
     exact zmD ho ht hd hm hb hkv hv (List.all_eq_true.1 hn)
    ·cases h
   ·cases h
  ·cases h
 ·cases h
theorem zqi {o:Oper} {t:TypeId} {m k:Operand} {ok:Bool} {y:AV} {e:Eff} {n:Prop} (ho:o.op = .lookup t m k ok) (h:zhM P (zik σ (σ.eval m)) t ok (σ.eval m) (σ.eval k)=some (y,e,n)) (hn:n):OpOk P A o σ (σ.app e) y:=by
 unfold zhM at h
 split at h
 ·rename_i r v hm hkv
  split at h
  ·rename_i kt et tag ks cs ht hb
   rw [hm] at hb
   split at h
   ·rename_i d z hd hz
    split at h
    ·rename_i hv
     obtain⟨rfl,rfl,rfl⟩:=zaP h
     exact zkS ho ht hd hz (.inl ⟨r,tag,hm,hb⟩) hkv hv (List.all_eq_true.1 hn)
    ·cases h
   ·cases h
  ·cases h
 ·rename_i ks cs v hm hkv
  split at h
  ·rename_i kt et ht
   split at h
   ·rename_i d z hd hz
    split at h
    ·rename_i hv
     obtain⟨rfl,rfl,rfl⟩:=zaP h
     exact zkS ho ht hd hz (.inr hm) hkv hv (List.all_eq_true.1 hn)
    ·cases h
   ·cases h
  ·cases h
 ·cases h
theorem zsq {o:Oper} {t:TypeId} {x:Operand} {me:Nat} {y:AV} {e:Eff} {n:Prop} (ho:o.op = .range t x) (h:zjn P (zik σ (σ.eval x)) me t (σ.eval x)=some (y,e,n)) (hm:σ.free A me):OpOk P A o σ (σ.app e) y:=by
 unfold zjn at h
 split at h
 ·rename_i r hx
  split at h
  ·rename_i kt et tag ks cs ht hb
   rw [hx] at hb
   obtain⟨rfl,rfl,rfl⟩:=zaP h
   exact zuO ho ht hx hb hm
  ·cases h
 ·cases h
theorem zjo {o:Oper} {me:Nat} {x:AV} {e:Eff} {n:Prop} (h:zO P σ me o.op=some (x,e,n)) (hn:n) (hm:zfQ o.op=true->σ.free A me):OpOk P A o σ (σ.app e) x:=by
 unfold zO at h
 split at h
 ·rename_i p ho;obtain⟨rfl,rfl,rfl⟩:=zaP h;exact zoV (.inl ho)
 ·rename_i p ho;obtain⟨rfl,rfl,rfl⟩:=zaP h;exact zoV (.inr ho)
 ·rename_i c p q ho
  split at h
  ·rename_i b hc;obtain⟨rfl,rfl,rfl⟩:=zaP h;exact zuP ho hc
  ·cases h
 ·rename_i ty ho
  split at h
  ·rename_i z hz;obtain⟨rfl,rfl,rfl⟩:=zaP h
   exact zuW ho hz (hm (by rw [ho];rfl))
  ·cases h
 ·rename_i ty p ho
  split at h
  ·rename_i h1;obtain⟨rfl,rfl,rfl⟩:=zaP h
   have hm':=hm (by rw [ho];rfl)
   exact zzU ho hm' (zmZ hm') h1
  ·cases h
 ·rename_i t p ho;exact zuJ ho h hn
 ·rename_i t p q ho;exact zsp ho h hn
 ·rename_i op t p q t' ho;exact zxI ho h hn
 ·rename_i t p ho
  split at h
  ·rename_i b hp;obtain⟨rfl,rfl,rfl⟩:=zaP h;exact zzR ho hp
  ·cases h
 ·rename_i t p ho
  split at h
  ·rename_i b hp;obtain⟨rfl,rfl,rfl⟩:=zaP h;exact zzS ho hp hn
  ·cases h
 ·rename_i s t p ho
  split at h
  ·rename_i k' k k'' m hs ht hp
   split at h
   ·rename_i hk;subst hk
    obtain⟨rfl,rfl,rfl⟩:=zaP h;exact zqr ho hs ht hp
   ·cases h
  ·exact zuK ho h hn
 ·rename_i p k ho
  split at h
  ·rename_i cs hp
   obtain⟨u,h1,h2⟩:=zvf h
   obtain⟨rfl,rfl,rfl⟩:=zaP (congrArg some h2)
   exact zqq ho hp h1
  ·cases h
 ·rename_i s p k ho
  split at h
  ·rename_i fs cs hs hp
   split at h
   ·rename_i f hf
    obtain⟨u,h1,h2⟩:=zvf h
    obtain⟨rfl,rfl,rfl⟩:=zaP (congrArg some h2)
    exact zuQ ho hs hf hp h1
   ·cases h
  ·cases h
 ·rename_i s p k ho
  split at h
  ·rename_i fs hs
   split at h
   ·rename_i f hf
    split at h
    ·cases h
    ·rename_i h0
     obtain⟨u,h1,h2⟩:=zvf h
     obtain⟨rfl,rfl,rfl⟩:=zaP (congrArg some h2)
     exact zmJ ho hs hf h0 h1
   ·cases h
  ·cases h
 ·rename_i t p q ho;exact zss ho h hn
 ·rename_i t p q ho
  split at h
  ·rename_i s k i ht hp hq
   obtain⟨rfl,rfl,rfl⟩:=zaP h
   exact zop ho ht hp hq hn.1 hn.2
  ·rename_i m el cs k i ht hp hq
   split at h
   ·rename_i hc
    obtain⟨u,h1,h2⟩:=zvf h
    obtain⟨rfl,rfl,rfl⟩:=zaP (congrArg some h2)
    exact zoq ho ht hp hq hc.1 hc.2 hn.1 hn.2 h1
   ·cases h
  ·cases h
 ·rename_i t p q ho
  split at h
  ·rename_i el k n1 k' n2 ht hp hq
   split at h
   ·rename_i z hz
    split at h
    ·rename_i hst
     simp only [decide_eq_true_eq] at hst
     obtain⟨rfl,rfl,rfl⟩:=zaP h
     obtain⟨rfl,h0,h1,h2⟩:=hn
     have e1:(n1.toNat:Int)=n1:=Int.toNat_of_nonneg h0
     exact zxK ho ht hz hst (by rw [e1];exact hp) (by rw [e1];exact hq) h1 h2 (hm (by rw [ho];rfl))
    ·cases h
   ·cases h
  ·cases h
 ·rename_i t m ps ho
  split at h
  ·rename_i el ht
   split at h
   ·rename_i z rows hz hr
    split at h
    ·rename_i hc
     simp only [Bool.and_eq_true,decide_eq_true_eq,List.all_eq_true] at hc
     obtain⟨⟨⟨⟨hps,hzs⟩,h0⟩,h1⟩,hlim⟩:=hc
     obtain⟨rfl,rfl,rfl⟩:=zaP h
     obtain⟨e1,e2⟩:=zej hps
     have hm':=hm (by rw [ho];rfl)
     rw [e1,e2] at ho
     simp only [St.app]
     rw [e2]
     refine zlv ho ht hz hzs h0 (by rw [List.map_map];exact hr) (fun p hp=>?_) (by rw [<- e2];exact hlim) hm'
     obtain⟨x,hx,rfl⟩:=List.mem_map.1 hp
     exact⟨List.all_eq_true.2 (h1 x hx).1,(h1 x hx).2⟩
    ·cases h
   ·rename_i z hz hr
    split at h
    ·rename_i hc
     simp only [Bool.and_eq_true,decide_eq_true_eq,List.all_eq_true] at hc
     obtain⟨⟨⟨⟨hps,hzs⟩,h0⟩,h1⟩,hlim⟩:=hc
     obtain⟨rfl,rfl,rfl⟩:=zaP h
     obtain⟨e1,e2⟩:=zej hps
     have hm':=hm (by rw [ho];rfl)
     have hcs:((ps.toList.map fun x=>σ.eval x.2).map fun x=>x.cells.getD 0 .dead)=((ps.toList.map (·.2)).map fun p=>(σ.eval p).cells.getD 0 .dead):=by
      rw [List.map_map,List.map_map];rfl
     rw [e1,e2] at ho
     simp only [St.app]
     rw [e2,hcs]
     refine zlw ho ht hz hzs h0 (fun p hp=>?_) (by rw [<- e2];exact hlim) hm' (zpb fun x hx=>?_)
     ·obtain⟨x,hx,rfl⟩:=List.mem_map.1 hp
      exact⟨List.all_eq_true.2 (h1 x hx).1,(h1 x hx).2⟩
     ·obtain⟨p,hp,rfl⟩:=List.mem_map.1 hx
      obtain⟨y,hy,rfl⟩:=List.mem_map.1 hp
      have hl:=(h1 y hy).2
      rw [List.getD_eq_getElem?_getD,List.getElem?_eq_getElem (by omega),Option.getD_some]
      have:=zmZ (p:=y.2) hm'
      cases hq:((σ.eval y.2).cells[0]'(by omega)).ment me with
      | false=>rfl
      | true=>rw [zcU (by omega) hq] at this;cases this
    ·cases h
   ·cases h
  ·cases h
 ·rename_i t ps ho
  split at h
  ·rename_i fs ht
   split at h
   ·rename_i z hz
    split at h
    ·rename_i hf
     obtain⟨u,h1,h2⟩:=zvf h
     obtain⟨rfl,rfl,rfl⟩:=zaP (congrArg some h2)
     exact zuU ho ht hz hf h1
    ·cases h
   ·cases h
  ·rename_i el ht
   split at h
   ·rename_i z hz
    split at h
    ·cases h
    ·rename_i h0
     obtain⟨u,h1,h2⟩:=zvf h
     obtain⟨rfl,rfl,rfl⟩:=zaP (congrArg some h2)
     exact zsy ho ht hz h0 h1
   ·cases h
  ·cases h
 ·rename_i t p lo hi ho
  split at h
  ·rename_i ht
   split at h
   ·rename_i s hp
    split at h
    ·rename_i l hh hl hh'
     obtain⟨rfl,rfl,rfl⟩:=zaP h
     exact zok ho ht hp hl hh' hn.1 hn.2.1 hn.2.2
    ·cases h
   ·cases h
  ·rename_i el ht
   split at h
   ·rename_i r st ver off len hp
    split at h
    ·rename_i l hh hl hh'
     split at h
     ·cases h
     ·rename_i h0
      split at h
      ·rename_i hst
       obtain⟨rfl,rfl,rfl⟩:=zaP h
       by_cases hc:l<hh
       ·have e:(lo.isNone || decide (l<hh))=true:=by simp [hc]
        rw [e]
        exact zij ho ht h0 hst hp hl hh' hn.1 hn.2.1 hn.2.2 (.inl hc)
       ·cases lo with
        | none=>
         cases hl
         exact zij ho ht h0 hst hp rfl hh' hn.1 hn.2.1 hn.2.2 (.inr rfl)
        | some lo=>
         have e:((some lo).isNone || decide (l<hh))=false:=by simp [hc]
         rw [e]
         exact zol ho ht h0 hp hl hh' hn.1 hn.2.1 hn.2.2 hc
      ·cases h
    ·cases h
   ·split at h
    ·rename_i rows hp
     split at h
     ·rename_i l hh hl hh'
      split at h
      ·cases h
      ·rename_i h0
       obtain⟨rfl,rfl,rfl⟩:=zaP h
       exact zmC ho ht h0 hp hn.1 hl hh' hn.2.1 hn.2.2.1 hn.2.2.2
     ·cases h
    ·cases h
  ·cases h
 ·rename_i c ho;exact zuL ho h hn (fun h1=>hm (by rw [ho];exact h1))
 ·rename_i t ho;obtain⟨rfl,rfl,rfl⟩:=zaP h;exact zqm ho (hm (by rw [ho];rfl))
 ·rename_i t m k x ho;exact zoU (.inl ho) h hn
 ·rename_i t m k x ho;exact zoU (.inr ho) h hn
 ·rename_i t m k ok ho;exact zqi ho h hn
 ·rename_i t x ho;exact zsq ho h (hm (by rw [ho];rfl))
 ·rename_i f fs cs ho
  split at h
  ·rename_i hf;obtain⟨rfl,rfl,rfl⟩:=zaP h;exact zon ho hf
  ·rename_i p hf
   split at h
   ·rename_i hc;obtain⟨rfl,rfl,rfl⟩:=zaP h;exact zqo ho hf hc
   ·cases h
  ·cases h
 ·rename_i p ho
  split at h
  ·rename_i hp;obtain⟨rfl,rfl,rfl⟩:=zaP h;exact zom ho hp
  ·cases h
 ·rename_i t p ho
  split at h
  ·rename_i fs v ht hp;obtain⟨rfl,rfl,rfl⟩:=zaP h;exact zmE ho ht hp
  ·cases h
 ·cases h
mutual
def AV.close:AV->Option AV
 | .d (.raw v)=>some (.d (Value.toD v))
 | .d (.sl rows)=>some (.d (.sl rows))
 | .grow _ rows=>some (.d (.sl rows))
 | .agg cs=>(zU cs).map .agg
 | .tup cs=>(zU cs).map .tup
 | .fn f cs=>(zU cs).map (.fn f)
 | .mapd ks cs=>(zU cs).map (.mapd ks)
 | .at_ cs=>some (.at_ cs)
 | _=>none
def zU:List AV->Option (List AV)
 | []=>some []
 | x :: xs=>match x.close,zU xs with
  | some y,some ys=>some (y :: ys)
  | _,_=>none
end
mutual
def AV.closed:AV->Bool
 | .d _=>true
 | .agg cs | .tup cs | .fn _ cs | .mapd _ cs=>zN cs
 | .at_ _=>true
 | _=>false
def zN:List AV->Bool
 | []=>true
 | x :: xs=>x.closed && zN xs
end
def gh0 (F:Nat->Nat->Prop):Gh:=⟨fun _=>0,fun _=>undef,F⟩
def zch (w:World) (F:Nat->Nat->Prop) (x:AV) (v:Value):Prop:=Has (gh0 F) (fun _=>none) w x v
theorem zbE:∀ {xs ys:List AV},zU xs=some ys->xs.length=ys.length/\∀ i (hi:i<xs.length) (hy:i<ys.length),xs[i].close=some ys[i]
 | [],ys,h=>by cases h;simp
 | x :: xs,ys,h=>by
  unfold zU at h
  split at h
  ·rename_i y ys' h1 h2
   cases h
   obtain⟨h3,h4⟩:=zbE h2
   refine⟨by simp [h3],fun i hi hy=>?_⟩
   cases i with
   | zero=>simpa using h1
   | succ i=>simpa using h4 i (by simpa using hi) (by simpa using hy)
  ·cases h
theorem zY:∀ {cs:List AV} {i:Nat} (h:i<cs.length),zN cs=true->cs[i].closed=true
 | c :: cs,0,_,h=>by simp only [zN,Bool.and_eq_true] at h;simpa using h.1
 | c :: cs,i+1,hi,h=>by
  simp only [zN,Bool.and_eq_true] at h
  simpa using zY (by simpa using hi) h.2
theorem Has.close {tk:Nat->Option Nat} {x y:AV} {v:Value} (h:Has g tk w x v) (hx:x.close=some y):zch w g.F y v:=by
 induction h generalizing y with
 | dead | box | bnd | elem | own | mp | stk | selem=>simp [AV.close] at hx
 | at_ cs b o h=>simp only [AV.close,Option.some.injEq] at hx;subst hx;exact .at_ cs b o h
 | fn f cs vs hl _ ih=>
  rw [AV.close] at hx
  cases hc:zU cs with
  | none=>simp [hc] at hx
  | some ys=>
   simp only [hc,Option.map_some,Option.some.injEq] at hx
   subst hx
   obtain⟨h1,h2⟩:=zbE hc
   exact .fn f ys vs (by omega) fun i hi hv=>ih i (by omega) hv (h2 i (by omega) hi)
 | mapd ks cs b es hF hh hl hl2 hk _ ih=>
  rw [AV.close] at hx
  cases hc:zU cs with
  | none=>simp [hc] at hx
  | some ys=>
   simp only [hc,Option.map_some,Option.some.injEq] at hx
   subst hx
   obtain⟨h1,h2⟩:=zbE hc
   exact .mapd ks ys b es hF hh hl (by omega) hk fun i hi hv=>ih i (by omega) hv (h2 i (by omega) hi)
 | d h=>
  cases h with
  | raw v=>simp only [AV.close,Option.some.injEq] at hx;subst hx;exact .d (zhI _ _ _)
  | nil p cap=>simp only [AV.close,Option.some.injEq] at hx;subst hx;exact .d (.nil _ _)
  | rows st rows b off cap val h1 h2 h3 h4 h5=>simp only [AV.close,Option.some.injEq] at hx;subst hx;exact .d (.rows st rows b off cap val h1 h2 h3 h4 h5)
 | grow r rows v h _=>simp only [AV.close,Option.some.injEq] at hx;subst hx;exact .d h
 | agg cs vs hl _ ih=>
  rw [AV.close] at hx
  cases hc:zU cs with
  | none=>simp [hc] at hx
  | some ys=>
   simp only [hc,Option.map_some,Option.some.injEq] at hx
   subst hx
   obtain⟨h1,h2⟩:=zbE hc
   exact .agg ys vs (by omega) fun i hi hv=>ih i (by omega) hv (h2 i (by omega) hi)
 | tup cs vs hl _ ih=>
  rw [AV.close] at hx
  cases hc:zU cs with
  | none=>simp [hc] at hx
  | some ys=>
   simp only [hc,Option.map_some,Option.some.injEq] at hx
   subst hx
   obtain⟨h1,h2⟩:=zbE hc
   exact .tup ys vs (by omega) fun i hi hv=>ih i (by omega) hv (h2 i (by omega) hi)
theorem zch.open {F:Nat->Nat->Prop} {tk:Nat->Option Nat} {x:AV} {v:Value} (h:zch w F x v) (hc:x.closed=true) (hF:∀ b o,F b o->g.F b o):Has g tk w x v:=by
 unfold zch at h
 generalize hg:gh0 F=g0 at h
 generalize htk:(fun _:Nat=>(none:Option Nat))=tk0 at h
 induction h with
 | dead | box | bnd | elem | own | grow | mp | stk | selem=>simp [AV.closed] at hc
 | at_ cs b o h=>subst hg;exact .at_ cs b o fun k hk=>⟨hF _ _ (h k hk).1,by obtain⟨_,u,h2,h3⟩:=h k hk;exact⟨u,h2,h3.mono hF (fun _ _ _ _ h=>h)⟩⟩
 | mapd ks cs b es hF2 hh hl hl2 hk _ ih=>subst hg;exact .mapd ks cs b es (hF _ _ hF2) hh hl hl2 hk fun i hi hv=>ih i hi hv (zY hi (by simpa [AV.closed] using hc))
 | fn f cs vs hl _ ih=>exact .fn f cs vs hl fun i hi hv=>ih i hi hv (zY hi (by simpa [AV.closed] using hc))
 | d h=>subst hg;exact .d (h.mono hF (fun _ _ _ _ h=>h))
 | agg cs vs hl _ ih=>exact .agg cs vs hl fun i hi hv=>ih i hi hv (zY hi (by simpa [AV.closed] using hc))
 | tup cs vs hl _ ih=>exact .tup cs vs hl fun i hi hv=>ih i hi hv (zY hi (by simpa [AV.closed] using hc))
def zcQ (P : Program) (f : FuncId) : Prop := ∃ fn,P.funcs[f]? = some fn /\ (fn.name == "runtime.NumGoroutine") = false /\ fn.body.isNone = false
def Con (P:Program) (f:FuncId) (args:List AV) (res:AV):Prop:=
 zcQ P f/\res.closed=true/\∀ (F:Nat->Nat->Prop) (w:World) (vs:List Value),(∀ b o,F b o->b<w.heap.size)->Glob P w->args.length=vs.length->(∀ i (hi:i<args.length) (hv:i<vs.length),zch w F args[i] vs[i]) ->
  Calls P f vs.toArray w fun e w'=>∃ v,e = .returned v/\zch w' (fun b o=>F b o\/(w.heap.size<=b/\b<w'.heap.size)) res v/\Below w.heap.size w w'
theorem zaL {f:FuncId} (h:zcQ P f) (args:Array Value) (w:World):(callFunc f args).run P w = .ok (.enter f args) w:=by
 obtain⟨fn,h1,h2,h3⟩:=h
 have h2' : ¬ fn.name = "runtime.NumGoroutine" := by simpa using h2
 have h3':¬ fn.body=none:=fun e=>by rw [e] at h3;cases h3
 simp [callFunc,h1,h2',h3']
theorem zmM {o:Oper} {f:FuncId} {c:Call} {p:Operand} {cs asL:List AV} {res:AV} (ho:o.op = .call c) (hp:c.callee = .value p) (hf:σ.eval p = .fn f cs) (ha:zU (c.args.toList.map σ.eval++cs)=some asL) (hc:Con P f asL res):OpOk P A o σ σ res:=by
 intro g a w hk K Q hK
 obtain⟨hen,hcl,hcon⟩:=hc
 obtain⟨hl,hg⟩:=zbE ha
 have hpe:=hk.eval p
 rw [hf] at hpe
 obtain⟨vs,hv,hvl,hvs⟩:=hpe.fn_eq
 have hr:(execOp a.eval o).run P w = .ok (.enter f (c.args.toList.map a.eval++vs).toArray) w:=by
  simp only [execOp,ho,resolve,hp,hv,Deferred.ofValue,Sem.run_bind,Sem.run_pure,Result.andThen_ok,invoke]
  rw [zaL hen]
  have he:#[]++c.args.map a.eval++vs.toArray=(c.args.toList.map a.eval++vs).toArray:=by
   apply Array.ext';simp
  rw [he]
 have hlen:(c.args.toList.map a.eval++vs).length=asL.length:=by rw [<- hl];simp [hvl]
 refine zcC hr ?_
 refine(hcon g.F w (c.args.toList.map a.eval++vs) hk.Fb (A.glob w hk.below) hlen.symm (fun i hi hv=>?_)).mono ?_
 ·have hi':i<(c.args.toList.map σ.eval++cs).length:=by omega
  have h1:=hg i hi' hi
  refine Has.close (g:=g) (tk:=σ.tk) ?_ h1
  rw [List.getElem_append,List.getElem_append]
  simp only [List.length_map]
  by_cases hlt:i<c.args.toList.length
  ·rw [dif_pos hlt,dif_pos hlt,List.getElem_map,List.getElem_map];exact hk.eval _
  ·rw [dif_neg hlt,dif_neg hlt]
   exact hvs _ _ _
 ·rintro e w' ⟨v,rfl,hv,hb⟩
  have h2:=hk.grown hb (fun b o=>g.F b o\/(w.heap.size<=b/\b<w'.heap.size)) (fun _ _ h=>.inl h) (fun _ _ h=>h)
  exact hK _ v w' h2.1 (hv.open hcl (fun _ _ h=>h))
end
end Go.Proofs.YtpnjjmcimjlfkaaGreatDoor
