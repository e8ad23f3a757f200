/- Texts of this proof, part 20: what the proof uses of them. -/
import Derived.Test.YtpnjjmcimjlfkaaGreatDoorDaf
import Derived.Test.YtpnjjmcimjlfkaaGreatDoorDam
import Derived.Test.YtpnjjmcimjlfkaaGreatDoorDas
set_option maxRecDepth 100000
set_option maxHeartbeats 64000000
namespace Go.Proofs.YtpnjjmcimjlfkaaGreatDoor
section
open Go Go.RowKit
variable {P:Program} {A:Base P} {σ:St} {g:Gh} {a:Act} {w:World}
theorem Ok.appendedW (hk:Ok A σ g a w) {r:Nat} {k:Tok} {rows rows2:List (List D)} {v x:Value} {t ty:TypeId} {z:Value} (hr:σ.tok r=some k) (hex:k.ex=none) (hv:Has g σ.tk w (.grow r rows) v) (hlen:rows.length=k.len) (hx:Reads w g.F (.sl rows2) x)
  (ht:P.underlying t=some (.slice k.ty)) (hz:zz P k.ty=some z) (hzs:z.cells.size=P.cellsOf k.ty) (h0:P.cellsOf k.ty≠0) (hst:P.cellsOf k.ty=k.st) (hby:P.bytesOf k.ty≤1024) (hfit:zD k.st rows2) (hfit0:∀ r ∈ rows,r.length=k.st) (hbd:rows.length+rows2.length≤137438953472) :
  ∃ g' v' w',(Builtin.append_ #[t,t] ty #[v,x]).run P w = .ok v' w'∧Ok A (σ.setTok r (some { k with len:=k.len+rows2.length })) g' a w'∧Has g' (σ.setTok r (some { k with len:=k.len+rows2.length })).tk w' (.grow r (rows++rows2)) v':=by
 obtain⟨hrd,htv⟩:=hv.grow_eq
 have hve:v=g.tv r:=(htv k.len (by simp [St.tk,hr])).2 hlen
 obtain⟨xs,hown⟩:=(hk.tok r k hr).own hex
 have htk:(σ.setTok r (some { k with len:=k.len+rows2.length })).tk r=some (k.len+rows2.length):=by simp [St.tk,St.tok_setTok]
 by_cases hm:rows2=[]
 ·subst hm
  obtain⟨q,c,hxe,_⟩:=hx.slice
  have hr0:=zdN (P:=P) (w:=w) (t:=t) (ty:=ty) (v:=v) (x:=x) (n:=k.len) ht h0 (by
   rw [hve]
   rcases hown.2 with h1 | ⟨b,cap,cur,h1,_,_,h2,_⟩
   ·exact .inl h1
   ·exact .inr ⟨b,cap,h1,h2⟩) ⟨q,c,hxe⟩
  have hg:w.grownBy w (g.tv r).ownBlock:=⟨rfl,rfl,rfl,Nat.le_refl _,fun _ _ _=>rfl⟩
  obtain⟨h1,e1⟩:=hk.append (m:=0) (v':=g.tv r) (w':=w) (xs:=xs) hr hex (by simpa using hown) hg (Below.refl _ _) (fun _ _ _ _=>rfl) (.inl rfl) (fun _=>rfl)
  refine⟨_,v,w,hr0,h1,.grow r _ _ ?_ fun n' hn'=>?_⟩
  ·rw [List.append_nil];exact hrd.mono e1.hF e1.hw
  ·simp only [List.append_nil,List.length_nil,Nat.add_zero] at hn' ⊢
   simp only [St.tk,St.tok_setTok,if_pos,Option.map_some,Option.some.injEq] at hn'
   subst hn'
   exact⟨by omega,fun _=>by simp only [zo];exact hve⟩
 ·obtain⟨b,off,c,news,hxe,hnl,hnews,hone,hnr⟩:=hx.news (st:=k.st) (fun q hq=>(hfit q hq).1) (fun q hq=>(hfit q hq).2) hm
  obtain⟨i,hi,hzi⟩:∃ i,P.info? k.ty=some i∧i.zero=some z:=by
   unfold zz at hz
   cases hi:P.info? k.ty with
   | none=>simp [hi] at hz
   | some i=>exact⟨i,rfl,by simpa [hi] using hz⟩
  have hsz:i.size=k.st:=by rw [← hst];simp [Program.cellsOf,hi]
  have hbi:i.bytes=P.bytesOf k.ty:=by simp [Program.bytesOf,hi]
  have hbb:(k.len+rows2.length) * P.bytesOf k.ty≤140737488355328:=by
   have h1:=Nat.mul_le_mul (show k.len+rows2.length≤137438953472 by omega) hby
   omega
  obtain⟨v',w',hr',hown',hg,_,hat⟩:=run_append_own_at (P:=P) w A.B t ty k.ty i z k.st (P.bytesOf k.ty) ht hi hzi hsz hbi (by rw [hzs,hst]) (by omega) (g.tv r) k.len xs hown ⟨b,off,none⟩ rows2.length c news hnl hnews hone (by unfold maxLen;omega) hbb hk.hB
  have hbel:Below A.B w w':=⟨hg.os,hg.tape,hg.output,hg.size,fun q hq=>hg.block q (by have:=hk.hB;omega) (fun e=>by have:=(hown.lt q e.symm).1;omega)⟩
  have hxs:xs.length=k.len * k.st:=hown.1
  have hpos2:0<rows2.length:=by
   cases rows2 with
   | nil=>exact absurd rfl hm
   | cons=>simp
  -- either the same block,or a new one,and the elder block is asL it was
  have hat2:v'.ownBlock=(g.tv r).ownBlock∨∀ q,q<w.heap.size→w'.heap[q]? = w.heap[q]?:=by
   rcases hown.2 with⟨h1,h2⟩ | ⟨gb,cap,cur,h1,_,h3,h4,_⟩
   ·have hr2:=run_append_nil (P:=P) (w:=w) t ty k.ty i z ht hi hzi ⟨b,off,none⟩ rows2.length c news (by rw [hnl,hsz]) hnews hpos2 (by omega) (by rw [hbi];have:=Nat.mul_le_mul (show rows2.length≤137438953472 by omega) hby;omega)
    rw [h1] at hr'
    rw [hr'] at hr2
    injection hr2 with _ hw2
    right
    intro q hq
    rw [hw2]
    exact Below.heap_alloc w.drew _ q hq
   ·by_cases hroom:k.len+rows2.length≤cap
    ·have hcs:k.len * i.size+news.length≤cur.size:=by
      rename_i _ h6
      obtain⟨_,h6,_⟩:=h6
      rw [hnl,hsz,h6,← Nat.add_mul]
      exact Nat.mul_le_mul_right _ hroom
     have hr2:=run_append_room (P:=P) w t ty k.ty i ht hi gb k.len cap cur h3 ⟨b,off,none⟩ rows2.length c news (by rw [hnl,hsz]) hnews hone hroom hcs
     rw [h1] at hr'
     rw [hr'] at hr2
     injection hr2 with hv2 _
     left
     rw [hv2,h1];rfl
    ·have holds:=hown.cells (g:=gb) (by rw [h1];rfl)
     have hr2:=run_append_grow (P:=P) w t ty k.ty i z ht hi hzi ⟨gb,0,none⟩ k.len cap xs (by rw [hown.1,hsz]) holds ⟨b,off,none⟩ rows2.length c news (by rw [hnl,hsz]) hnews (by omega) (by omega) (growslice_fits_wide (by omega) (by
      rw [hbi]
      have:=Nat.mul_le_mul (show k.len+rows2.length+(k.len+rows2.length) / 4+192≤274877906944 by omega) hby
      omega))
     rw [h1] at hr'
     rw [hr'] at hr2
     injection hr2 with _ hw2
     right
     intro q hq
     rw [hw2]
     exact Below.heap_alloc w.drew _ q hq
  have hkeep:∀ q o,(g.tv r).ownBlock=some q→o<k.len * k.st→w'.cell? ⟨q,o,none⟩=w.cell? ⟨q,o,none⟩:=fun q o hq ho=>by
   rcases hat2 with h2 | h2
   ·have h1:=hown.cells (g:=q) hq o xs[o] (List.getElem?_eq_getElem (by omega))
    rw [Addr.add_lit,Nat.zero_add] at h1
    rw [h1]
    have h3:=hown'.cells (g:=q) (h2.trans hq) o xs[o] (by rw [List.getElem?_append_left (by omega)];exact List.getElem?_eq_getElem (by omega))
    rw [Addr.add_lit,Nat.zero_add] at h3
    exact h3
   ·exact zaX (h2 q (hown.lt q hq).2)
  obtain⟨h1,e1⟩:=hk.append (m:=rows2.length) (v':=v') (w':=w') (xs:=xs++news) hr hex hown' hg hbel hkeep hat (fun h=>absurd (List.eq_nil_of_length_eq_zero h) hm)
  refine⟨_,v',w',by rw [hve,hxe];exact hr',h1,.grow r _ _ ?_ fun n' hn'=>?_⟩
  ·suffices key:∀ G:Nat→Nat→Prop,(∀ b o,ztV g.F v' ((k.len+rows2.length) * k.st) b o→G b o)→Reads w' G (.sl (rows++rows2)) v' from key _ (fun _ _ h=>h)
   intro G hG
   rcases hown'.2 with⟨_,h2⟩ | ⟨gb2,cap2,cur,hv2,_,_,hcap,_⟩
   ·omega
   ·have hll:(rows++rows2).length=k.len+rows2.length:=by rw [List.length_append,hlen]
    rw [hv2,← hll]
    have hcell':=hown'.cells (g:=gb2) (by rw [hv2];rfl)
    refine Reads.mk (st:=k.st) (by omega) (fun i hi=>?_) fun i hi j hj=>?_
    ·rcases List.mem_append.1 (List.getElem_mem hi) with h3 | h3
     ·exact hfit0 _ h3
     ·exact(hfit _ h3).1
    ·have hF:ztV g.F v' ((k.len+rows2.length) * k.st) gb2 (0+i * k.st+j):=by
      right
      refine⟨by rw [hv2];rfl,?_⟩
      have hjs:j<k.st:=by
       rcases List.mem_append.1 (List.getElem_mem hi) with h3 | h3
       ·rw [hfit0 _ h3] at hj;exact hj
       ·rw [(hfit _ h3).1] at hj;exact hj
      have:=Nat.mul_le_mul_right k.st (show i+1≤k.len+rows2.length by omega)
      rw [Nat.add_mul] at this;omega
     refine⟨hG _ _ hF,?_⟩
     by_cases hlt:i<rows.length
     ·have hrow:(rows++rows2)[i]=rows[i]:=List.getElem_append_left hlt
      have hj1:j<rows[i].length:=by rw [← hrow];exact hj
      have hel:(rows++rows2)[i][j]=rows[i][j]:=by congr 1
      have hst1:rows[i].length=k.st:=hfit0 _ (List.getElem_mem hlt)
      obtain⟨q,cc,hve2,_⟩:=hrd.slice
      have hrd2:=hrd
      rw [hve2] at hrd2
      obtain⟨b1,off1,rfl,hc1⟩:=hrd2.row i hlt hst1
      obtain⟨_,u,hu,hru⟩:=hc1 j hj1
      rcases hown.2 with⟨h5,h6⟩ | ⟨gb,cap,cur1,h5,_⟩
      ·omega
      ·rw [← hve,hve2] at h5
       injection h5 with h7 _ _
       injection h7 with h8
       have hb1:b1=gb:=congrArg Addr.block h8
       have ho1:off1=0:=congrArg Addr.off h8
       subst hb1 ho1
       have hm1:i * k.st+j<xs.length:=by
        rw [hown.1]
        have:=Nat.mul_le_mul_right k.st (show i+1≤k.len by omega)
        rw [Nat.add_mul] at this;omega
       have h9:=hown.cells (g:=b1) (by rw [← hve,hve2];rfl) (i * k.st+j) xs[i * k.st+j] (List.getElem?_eq_getElem hm1)
       rw [Addr.add_lit] at h9
       have hu':xs[i * k.st+j]=u:=by
        rw [Nat.add_assoc] at hu
        exact Option.some.inj (h9.symm.trans hu)
       have h10:=hcell' (i * k.st+j) u (by rw [List.getElem?_append_left hm1,List.getElem?_eq_getElem hm1,hu'])
       rw [Addr.add_lit] at h10
       rw [hel]
       exact⟨u,by rw [Nat.add_assoc];exact h10,hru.mono (fun b o hf=>hG b o (e1.hF b o hf)) e1.hw⟩
     ·have hi2:i - rows.length<rows2.length:=by rw [List.length_append] at hi;omega
      have hrow:(rows++rows2)[i]=rows2[i - rows.length]:=List.getElem_append_right (by omega)
      have hj1:j<rows2[i - rows.length].length:=by rw [← hrow];exact hj
      have hel:(rows++rows2)[i][j]=rows2[i - rows.length][j]:=by congr 1
      obtain⟨u,hu,hru⟩:=hnr _ hi2 j hj1
      have hidx:i * k.st+j - xs.length=(i - rows.length) * k.st+j:=by
       rw [hown.1,← hlen,Nat.sub_mul]
       have:=Nat.mul_le_mul_right k.st (show rows.length≤i by omega)
       omega
      have hge:xs.length≤i * k.st+j:=by
       rw [hown.1,← hlen]
       have:=Nat.mul_le_mul_right k.st (show rows.length≤i by omega)
       omega
      have h10:=hcell' (i * k.st+j) u (by rw [List.getElem?_append_right hge,hidx];exact hu)
      rw [Addr.add_lit] at h10
      rw [hel]
      exact⟨u,by rw [Nat.add_assoc];exact h10,hru.mono (fun b o hf=>hG b o (e1.hF b o hf)) e1.hw⟩
  ·rw [htk] at hn'
   cases hn'
   exact⟨by rw [List.length_append];omega,fun _=>by simp only [zo]⟩
theorem zea {o:Oper} {t:TypeId} {p q:Operand} {r:Nat} {rows rows2:List (List D)} {k:Tok} {z:Value} (ho:o.op = .call { callee:=.builtin .append,args:=#[p,q],argTypes:=#[t,t] }) (hp:σ.eval p = .grow r rows) (hq:(σ.eval q).rows=some rows2) (hr:σ.tok r=some k) (hex:k.ex=none)
  (ht:P.underlying t=some (.slice k.ty)) (hz:zz P k.ty=some z) (hzs:z.cells.size=P.cellsOf k.ty) (h0:P.cellsOf k.ty≠0) (hst:P.cellsOf k.ty=k.st) (hby:P.bytesOf k.ty≤1024) (hlen:rows.length=k.len) (hfit:zD k.st rows2) (hfit0:∀ r ∈ rows,r.length=k.st) (hbd:rows.length+rows2.length≤137438953472) :
  zO P A o σ (σ.setTok r (some { k with len:=k.len+rows2.length })) (.grow r (rows++rows2)):=by
 refine zav fun g a w hk=>?_
 have hpe:=hk.eval p
 rw [hp] at hpe
 obtain⟨g',v',w',h1,h2,h3⟩:=hk.appendedW (P:=P) (t:=t) (ty:=o.type) hr hex hpe hlen ((hk.eval q).rows hq) ht hz hzs h0 hst hby hfit hfit0 hbd
 exact⟨g',v',w',by simp only [execOp,ho,resolve,invoke,builtin,List.map_toArray,List.map_cons,List.map_nil,Sem.run_bind,Sem.run_pure,Result.andThen_ok,h1],h2,h3⟩
end
section
open Go Go.RowKit
def zca:Mo:=⟨⟨#[]⟩,[],[]⟩
def zjD (s:Sq) (k:Nat) (d:Dc):List Dc:=if d.id=s.id then (if (zde d s k).2.1=true then [(zde d s k).1] else []) else [d]
def zkM (s:Sq) (k:Nat) (l:List Dc) (q:Nat):Int:=if (atD l q).id=s.id then (zde (atD l q) s k).2.2 else 0
def zeD (s:Sq) (k:Nat) (l:List Dc) (q:Nat):List Dc:=(l.take q).flatMap (zjD s k)
def zcI (x:Mo) (s:Sq) (k:Nat):Mo × Int:=
 if ¬ zN x=0 then (zca,zN x) else if (zaB x).any (eqQ s)=false then (zca,8) else if k=1∧(s.kind=3∨s.kind=4) then (zca,2)
 else if ¬ zj (zkM s k x.decls) x.decls.length=0 then (zca,zj (zkM s k x.decls) x.decls.length) else (⟨x.label,x.uses,zeD s k x.decls x.decls.length⟩,0)
theorem zoe (s:Sq) (k:Nat) (l:List Dc) (q:Nat) (h:q<l.length):zeD s k l (q+1)=zeD s k l q++zjD s k l[q]:=by
 unfold zeD;rw [List.take_succ_eq_append_getElem h,List.flatMap_append];simp only [List.flatMap_cons,List.flatMap_nil,List.append_nil]
theorem zBx (s:Sq) (k:Nat) (d:Dc):(zjD s k d).length≤1:=by
 unfold zjD
 split
 ·split <;> simp
 ·simp
theorem zjC (s:Sq) (k:Nat) (l:List Dc):∀ q,(zeD s k l q).length≤q
 | 0=>by simp [zeD]
 | q+1=>by
  by_cases h:q<l.length
  ·rw [zoe s k l q h,List.length_append]
   have:=zjC s k l q
   have:=zBx s k l[q]
   omega
  ·have e:zeD s k l (q+1)=zeD s k l q:=by unfold zeD;rw [List.take_of_length_le (by omega),List.take_of_length_le (by omega)]
   rw [e];exact Nat.le_succ_of_le (zjC s k l q)
theorem zeg (a b:List Dc):zak (a++b)=zak a++zak b:=by simp [zak]
theorem zcL (l:List Dc):zD 11 (zak l):=by
 intro r hr
 obtain⟨x,_,rfl⟩:=List.mem_map.1 hr
 exact⟨rfl,fun x hx=>by simp [zcW] at hx;rcases hx with rfl | rfl | rfl | rfl | rfl | rfl | rfl | rfl | rfl | rfl | rfl <;> rfl⟩
abbrev ztH (x:Mo) (s:Sq) (k:Nat) (l:List Dc) (q:Nat):St:=⟨[(2,.d (.raw (.int .i64 k))),(3,.box 0 0),(4,.box 1 0),(6,.box 2 0),(9,.box 8005 0),(54,.d (.sl (zak x.decls))),(55,.d (.raw (.int .i64 x.decls.length))),(56,.d (.raw (.int .i64 q)))],
 [(0,some (.cell 56 [.d (.raw (.string x.label)),.d (.sl (zv x.uses)),.d (.sl (zak x.decls))])),(1,some (.cell 60 [.d (.raw (.string s.label)),.d (.raw (.int .i64 s.kind)),.d (.raw (.int .i64 s.id)),.d (.raw (.int .i64 s.pos))])),
  (2,some (.cell 56 [.d (.raw (.string ⟨#[]⟩)),.d (.raw (.slice none 0 0)),.d (.raw (.slice none 0 0))])),(8005,some (.cell 56 [.d (.raw (.string x.label)),.d (.sl (zv x.uses)),.grow 99 (zak l)]))],[(99,some ⟨11,107,l.length,none⟩)]⟩
theorem znT {l:List ByteArray} (h:zaf l=0):(l.length=1∨l.length=3)∧∀ nm ∈ l,nm.size≤24:=by
 unfold zaf at h
 split at h
 ·cases h
 rename_i h1
 refine⟨by omega,fun nm hnm=>?_⟩
 split at h
 ·cases h
 rename_i h2
 have h3:zM l nm=false:=by
  cases hb:zM l nm with
  | false=>rfl
  | true=>exact absurd (List.any_eq_true.2 ⟨nm,hnm,hb⟩) h2
 unfold zM at h3
 cases hn:zI nm with
 | true=>exact zwk hn
 | false=>
  rw [hn] at h3
  simp only [Bool.not_false,Bool.true_and,Bool.or_eq_false_iff,decide_eq_false_iff_not,Classical.not_not] at h3
  rw [h3.2];decide
theorem ztI (x:Mo) (s:Sq) (k:Nat) (hk:k<3) (hl:x.decls.length≤1048576) (hb:∀ d ∈ x.decls,nodesE d.body≤524288) (hc:(zaB x).length≤1048576) :
  Con Tryz.prog 43 [avM x,avQ s,.d (.raw (.int .i64 k))] (.tup [avM (zcI x s k).1,.d (.raw (.int .i64 (zcI x s k).2))]):=by
 refine zh Tryz.func43 rfl (by decide +kernel) rfl rfl (by simp [Tryz.ntmps43]) fun A hA=>?_
 rw [Tryz.ntmps43] at hA
 refine goC 400 ?_
 have hr0:zcI x s k=if ¬ zN x=0 then (zca,zN x) else if (zaB x).any (eqQ s)=false then (zca,8) else if k=1∧(s.kind=3∨s.kind=4) then (zca,2)
  else if ¬ zj (zkM s k x.decls) x.decls.length=0 then (zca,zj (zkM s k x.decls) x.decls.length) else (⟨x.label,x.uses,zeD s k x.decls x.decls.length⟩,0):=rfl
 simp only [go_sem,hA,avM,avQ]
 refine zb 400 (zwP x hb) rfl (by simp only [go_sem,avM]) (by simp only [go_sem,hA]) ?_
 by_cases hbx:zN x=0
 case neg=>
  have g1:(decide ¬ zN x=0)=true:=decide_eq_true hbx
  rw [if_pos hbx] at hr0
  simp only [go_sem,hA,g1,hr0,Tryz.results43]
  rfl
 have g1:(decide ¬ zN x=0)=false:=by simp [hbx]
 rw [if_neg (by simp [hbx])] at hr0
 simp only [go_sem,hA,g1,mixed]
 refine zbO 400 (ztJ x hl hb) rfl (by simp only [go_sem,avM]) (by simp only [go_sem,hA]) ?_
 rw [zut x]
 simp only [go_sem,hA]
 refine zbO 400 (zFw (zaB x) s hc) rfl (by simp only [go_sem,avQ]) (by simp only [go_sem,hA]) ?_
 simp only [go_sem,hA]
 refine⟨by show chk _ _ _=true;kernel_rfl,?_⟩
 cases hin:(zaB x).any (eqQ s) with
 | false=>
  rw [if_pos hin] at hr0
  simp only [go_sem,hA,hr0,Tryz.results43]
  rfl
 | true=>
 rw [if_neg (by simp [hin])] at hr0
 have dk0:decide ((k:Int)<0)=false:=decide_eq_false (by omega)
 have dk2:decide ((2:Int)<(k:Int))=false:=decide_eq_false (by omega)
 by_cases href:k=1∧(s.kind=3∨s.kind=4)
 ·rw [if_pos href] at hr0
  have d1:decide ((k:Int)=1)=true:=decide_eq_true (by have:=href.1;omega)
  rcases href.2 with h | h
  ·have d3:decide (s.kind=3)=true:=decide_eq_true h
   simp only [go_sem,hA,dk0,dk2,d1,d3,undef,hr0,Tryz.results43]
   rfl
  ·have d3:decide (s.kind=3)=false:=decide_eq_false (by omega)
   have d4:decide (s.kind=4)=true:=decide_eq_true h
   simp only [go_sem,hA,dk0,dk2,d1,d3,d4,hr0,Tryz.results43]
   rfl
 rw [if_neg href] at hr0
 obtain⟨b1,d1⟩:∃ b,decide ((k:Int)=1)=b:=⟨_,rfl⟩
 have d34:b1=true→decide (s.kind=3)=false∧decide (s.kind=4)=false:=fun h=>by
  subst h
  have hk1:k=1:=by have:=of_decide_eq_true d1;omega
  exact⟨decide_eq_false fun e=>href ⟨hk1,.inl e⟩,decide_eq_false fun e=>href ⟨hk1,.inr e⟩⟩
 have pre:∀ d ∈ x.decls,d.id=s.id→zc d.id∧(s.kind=1→k<d.names.length)∧(0<d.names.length∨s.kind=2∨s.kind=3)∧∀ nm ∈ d.names,nm.size≤1099511627776:=fun d hd hid=>by
  obtain⟨q,hq,hqe⟩:=List.any_eq_true.1 hin
  have hqs:=(zjM s q).1 hqe
  subst hqs
  obtain⟨e,he,hat⟩:=zfP hq
  have hde:d=e:=zrQ hbx hd he (hid.trans hat.2.1)
  subst hde
  obtain⟨o1,o2,_,o3,_⟩:=zfS (zkS hbx hd)
  have o4:=znT o3
  refine⟨by unfold zc;omega,fun h1=>?_,.inl (by omega),fun nm hnm=>Nat.le_trans (o4.2 nm hnm) (by decide)⟩
  rcases hat.2.2 with h | h | h | h
  ·omega
  ·omega
  ·omega
  ·omega
 cases b1
 case' true=>
  obtain⟨d3,d4⟩:=d34 rfl
  simp only [go_sem,hA,dk0,dk2,d1,d3,d4,zf]
 case' false=>simp only [go_sem,hA,dk0,dk2,d1,undef,zf]
 all_goals
  refine zbt 99 8005 2 11 107 (by simp only [go_sem]) rfl rfl ?_
  refine zd [2,3,4,6,9,54,55,56] [0,1,2,8005] [99] (fun y σ=>∃ q:Nat,q≤x.decls.length∧y=x.decls.length - q∧zj (zkM s k x.decls) q=0∧σ=ztH x s k (zeD s k x.decls q) q) x.decls.length ⟨0,by omega,by omega,rfl,by(simp only [go_sem,ztH]) <;> rfl⟩ ?_
  rintro y σ ⟨q,hq,rfl,hf,rfl⟩
  by_cases hlt:q<x.decls.length
  ·have k1:decide ((q:Int)<(x.decls.length:Int))=true:=decide_eq_true (by omega)
   have hmem:=List.getElem_mem hlt
   have hat:=zce x.decls q hlt
   have hks:=zoe s k x.decls q hlt
   have hkl:=zjC s k x.decls q
   by_cases hid:x.decls[q].id=s.id
   ·obtain⟨p1,p2,p3,p4⟩:=pre _ hmem hid
    have hfe:zkM s k x.decls q=(zde x.decls[q] s k).2.2:=by unfold zkM;rw [hat,if_pos hid]
    have hke:zjD s k x.decls[q]=if (zde x.decls[q] s k).2.1=true then [(zde x.decls[q] s k).1] else []:=if_pos hid
    have dd:decide (s.id=s.id)=true:=decide_eq_true rfl
    have hcon:=zqU x.decls[q] s k hk (Nat.le_trans (hb _ hmem) (by decide)) p1 p2 p3 p4
    refine goC 400 ?_
    simp only [go_sem,hA,ztH,zf,k1,Int.toNat_natCast,zS x.decls q hlt,zcW,hid]
    refine⟨⟨by omega,by omega⟩,?_⟩
    refine zb 0 hcon rfl (by simp only [go_sem,avD,avQ,hid]) (by simp only [go_sem,hA]) ?_
    generalize zde x.decls[q] s k=r at hfe hke
    obtain⟨e,ok,er⟩:=r
    simp only at hfe hke
    by_cases he:er=0
    ·subst he
     cases ok with
     | true=>
      rw [hke,if_pos rfl] at hks
      refine zR 96 _ _ _ _ ?_
      simp only [go_sem,hA,avD]
      refine ziR 400 (by simp only [go_sem]) (zea (rows2:=zak [e]) (k:=⟨11,107,(zeD s k x.decls q).length,none⟩) rfl rfl rfl rfl rfl (by kernel_rfl) zgT (by kernel_rfl) (by rw [show Tryz.prog.cellsOf 107=11 by kernel_rfl];decide) (by kernel_rfl) (by rw [show Tryz.prog.bytesOf 107=136 by kernel_rfl];decide) (zf _) (zcL _) (fun r hr=>(zcL _ r hr).1) (by rw [zf,zf,List.length_singleton];omega)) (by simp only [go_sem,hA]) ?_
      simp only [go_sem,hA]
      exact⟨by unfold zc;omega,x.decls.length - (q+1),by omega,q+1,by omega,rfl,zp hf hfe,by rw [hks,zeg,List.length_append];rfl⟩
     | false=>
      rw [hke,if_neg (by simp),List.append_nil] at hks
      refine zR 400 _ _ _ _ ?_
      simp only [go_sem,hA,avD]
      exact⟨by unfold zc;omega,x.decls.length - (q+1),by omega,q+1,by omega,rfl,zp hf hfe,by rw [hks];rfl⟩
    ·have de:decide (¬ er=0)=true:=decide_eq_true he
     rw [zx hf hlt (by rw [hfe];exact he),hfe,if_pos he] at hr0
     refine zR 400 _ _ _ _ ?_
     simp only [go_sem,hA,avD,de,hr0,Tryz.results43]
     rfl
   ·have hfe:zkM s k x.decls q=0:=by unfold zkM;rw [hat,if_neg hid]
    have hke:zjD s k x.decls[q]=[x.decls[q]]:=if_neg hid
    rw [hke] at hks
    have dd:decide (x.decls[q].id=s.id)=false:=decide_eq_false hid
    refine goC 81 ?_
    simp only [go_sem,hA,ztH,zf,k1,Int.toNat_natCast,zS x.decls q hlt,zcW,dd]
    refine⟨⟨by omega,by omega⟩,?_⟩
    refine ziR 400 (by simp only [go_sem]) (zea (rows2:=zak [x.decls[q]]) (k:=⟨11,107,(zeD s k x.decls q).length,none⟩) rfl rfl rfl rfl rfl (by kernel_rfl) zgT (by kernel_rfl) (by rw [show Tryz.prog.cellsOf 107=11 by kernel_rfl];decide) (by kernel_rfl) (by rw [show Tryz.prog.bytesOf 107=136 by kernel_rfl];decide) (zf _) (zcL _) (fun r hr=>(zcL _ r hr).1) (by rw [zf,zf,List.length_singleton];omega)) (by simp only [go_sem,hA]) ?_
    simp only [go_sem,hA]
    exact⟨by unfold zc;omega,x.decls.length - (q+1),by omega,q+1,by omega,rfl,zp hf hfe,by rw [hks,zeg,List.length_append];rfl⟩
  ·have k1:decide ((q:Int)<(x.decls.length:Int))=false:=decide_eq_false (by omega)
   obtain rfl:q=x.decls.length:=by omega
   rw [if_neg (by simp [hf])] at hr0
   refine goC 400 ?_
   simp only [go_sem,hA,ztH,k1,hr0,Tryz.results43]
end
section
open Go Go.RowKit
def zbQ (x:Mo):List Sq:=if zN x=0 then zaB x else []
def zK (m:Mg):List Sq:=m.ms.flatMap zbQ++m.ts.map fun x=>⟨x.path,5,0,0⟩
theorem zhV (x:Mo):zeK x=zaI (zbQ x):=by
 unfold zeK zbQ
 split
 ·exact zut x
 ·rfl
theorem zBV (l:List Mo):l.flatMap zeK=zaI (l.flatMap zbQ):=by
 induction l with
 | nil=>rfl
 | cons x l ih=>rw [List.flatMap_cons,List.flatMap_cons,zhV,ih];simp [zaI]
theorem zqe (m:Mg):znZ m=zaI (zK m):=by
 unfold znZ zcO zeC zK
 rw [List.take_length,List.take_length,zBV]
 simp [zaI,zic,Function.comp_def]
theorem zqw (x:Mo):zD 4 (zeK x):=by rw [zhV];exact zqs _
theorem zlf (x:Mo) (hb:∀ d ∈ x.decls,confE d.body≤400):∀ n,(zE x n).1.length≤n * 403
 | 0=>by simp [zE]
 | n+1=>by
  have ih:=zlf x hb n
  by_cases hn:n<x.decls.length
  ·have e:zE x (n+1)=zbL x.label (zE x n) x.decls[n]:=by
    unfold zE
    rw [List.take_succ_eq_append_getElem hn,List.foldl_append];rfl
   have h1:=hb _ (List.getElem_mem hn)
   have hp:∀ (b:Bool) (q:Sq) (l:List Sq),(zcj b q l).length≤l.length+1:=fun b q l=>by cases b <;> simp [zcj]
   have h3:=hp (decide (x.decls[n].names.length=1) && zbT (zE x n).2 (ziM x.decls[n])) ⟨x.label,4,x.decls[n].id,0⟩ (zcj x.decls[n].doubt ⟨x.label,3,x.decls[n].id,0⟩ (zeb x.label x.decls[n].id (confE x.decls[n].body) (zcj (decide (x.decls[n].names.length=3)) ⟨x.label,1,x.decls[n].id,0⟩ (zE x n).1)))
   have h4:=hp x.decls[n].doubt ⟨x.label,3,x.decls[n].id,0⟩ (zeb x.label x.decls[n].id (confE x.decls[n].body) (zcj (decide (x.decls[n].names.length=3)) ⟨x.label,1,x.decls[n].id,0⟩ (zE x n).1))
   have h5:=hp (decide (x.decls[n].names.length=3)) ⟨x.label,1,x.decls[n].id,0⟩ (zE x n).1
   have h6:(zeb x.label x.decls[n].id (confE x.decls[n].body) (zcj (decide (x.decls[n].names.length=3)) ⟨x.label,1,x.decls[n].id,0⟩ (zE x n).1)).length=(zcj (decide (x.decls[n].names.length=3)) ⟨x.label,1,x.decls[n].id,0⟩ (zE x n).1).length+confE x.decls[n].body:=by simp [zeb]
   rw [e]
   unfold zbL
   simp only
   generalize zcj (decide (x.decls[n].names.length=3)) _ _=l1 at h3 h4 h5 h6 ⊢
   generalize zeb _ _ _ l1=l2 at h3 h4 h6 ⊢
   generalize zcj x.decls[n].doubt _ l2=l3 at h3 h4 ⊢
   generalize zcj _ _ l3=l4 at h3 ⊢
   generalize confE x.decls[n].body=c at h1 h6
   rw [Nat.succ_mul]
   generalize n * 403=m at ih ⊢
   generalize (zE x n).1.length=k0 at ih h5
   clear hp e hb hn
   omega
  ·have e:zE x (n+1)=zE x n:=by
    unfold zE
    rw [List.take_of_length_le (by omega),List.take_of_length_le (by omega)]
   rw [e];exact Nat.le_trans ih (Nat.mul_le_mul_right _ (Nat.le_succ n))
theorem zkQ {x:Mo} (h:zN x=0):(zaB x).length≤40300:=by
 have h1:=zlf x (fun d hd=>Nat.le_trans (zbI d.body) (zfQ (zfS (zkS h hd)).2.2.2.2.1).1) x.decls.length
 have h2:=Nat.mul_le_mul_right 403 (zgI h).2.1
 unfold zaB
 exact Nat.le_trans h1 h2
theorem zzR (x:Mo):(zeK x).length≤40300:=by
 rw [zhV,zr]
 unfold zbQ
 split
 ·exact zkQ (by assumption)
 ·simp
theorem zqb (m:Mg) (hl:m.ms.length≤1048576) (q:Nat):(zeC m q).length≤1099500000000:=by
 have key:∀ l:List Mo,(l.flatMap zeK).length≤l.length * 40300:=by
  intro l
  induction l with
  | nil=>simp
  | cons x l ih=>
   have:=zzR x
   rw [List.flatMap_cons,List.length_append,List.length_cons,Nat.succ_mul]
   omega
 have h1:=key (m.ms.take q)
 have h2:(m.ms.take q).length≤1048576:=by rw [List.length_take];omega
 have h3:=Nat.mul_le_mul_right 40300 h2
 unfold zeC
 omega
end
end Go.Proofs.YtpnjjmcimjlfkaaGreatDoor
