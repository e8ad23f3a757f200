/- Texts of this proof, part 22: what the proof uses of them. -/
import Derived.Test.YtpnjjmcimjlfkaaGreatDoorDau
import Derived.Test.YtpnjjmcimjlfkaaGreatDoorProg
import Derived.WalkKit
import Derived.Lib.Walk
import Derived.Lib.Hide
import Derived.Shelf.RegionOpenPlain
import Derived.Lib.AppendZerosOnto
import Derived.Lib.Overlaps
import Derived.Laws.IdiomCopy
import Derived.Laws.Externs
import Derived.Lib.SliceRun
import Derived.Test.YtpnjjmcimjlfkaaGreatDoorDaq
import Derived.Test.YtpnjjmcimjlfkaaGreatDoorDas
import Derived.Test.YtpnjjmcimjlfkaaGreatDoorDat
set_option maxRecDepth 100000
set_option maxHeartbeats 64000000
namespace Go.Proofs.YtpnjjmcimjlfkaaGreatDoor
section
open Go Go.RowKit
def zeA (l:List Value) (o:Nat) (vs:List Value):List Value:=l.take o++vs++l.drop (o+vs.length)
theorem zbG (l:List Value) (o:Nat) (vs:List Value) (h:o+vs.length≤l.length):(zeA l o vs).length=l.length:=by simp [zeA];omega
theorem zbs (b:Nat):∀ (vs:List Value) (o:Nat) (w:World) (cur:Array Value) (t:TypeId) (fr:Nat × Nat),w.heap[b]? = some (.cells cur t fr)→o+vs.length≤cur.size→(w.setCells b o vs).heap[b]? = some (.cells (zeA cur.toList o vs).toArray t fr)
 | [],o,w,cur,t,fr,h,hl=>by simpa [zeA,World.setCells] using h
 | v :: vs,o,w,cur,t,fr,h,hl=>by
  have hb:b<w.heap.size:=(Array.getElem?_eq_some_iff.1 h).1
  have hlen:(v :: vs).length=vs.length+1:=rfl
  have h1:(w.setCell ⟨b,o,none⟩ v).heap[b]? = some (.cells (cur.setIfInBounds o v) t fr):=by
   have he:w.heap[b] = .cells cur t fr:=Option.some.inj ((Array.getElem?_eq_getElem hb).symm.trans h)
   simp only [World.setCell]
   rw [Array.getElem?_eq_getElem (by simpa using hb),Array.getElem_modify_self]
   simp only [he]
   rfl
  have ho:o<cur.size:=by omega
  rw [World.setCells,zbs b vs (o+1) _ _ t fr h1 (by simp;omega)]
  congr 2
  unfold zeA
  simp only [Array.toList_setIfInBounds]
  have hol:o<cur.toList.length:=by simpa using ho
  have e1:(cur.toList.set o v).take (o+1)=cur.toList.take o++[v]:=by
   rw [List.take_succ_eq_append_getElem (by simpa using ho),List.getElem_set_self,List.take_set_of_le (Nat.le_refl _)]
  have e2:(cur.toList.set o v).drop (o+1+vs.length)=cur.toList.drop (o+(vs.length+1)):=by
   rw [List.drop_set,if_pos (by omega)]
   congr 1;omega
  rw [e1,e2]
  simp
theorem zcA (b:Nat):∀ (vs:List Value) (o:Nat) (w:World),(w.setCells b o vs).heap.size=w.heap.size
 | [],_,_=>rfl
 | v :: vs,o,w=>by rw [World.setCells,zcA b vs];simp [World.setCell]
theorem zbg (b:Nat) {i:Nat} (hi:i≠b):∀ (vs:List Value) (o:Nat) (w:World),(w.setCells b o vs).heap[i]? = w.heap[i]?
 | [],_,_=>rfl
 | v :: vs,o,w=>by rw [World.setCells,zbg b hi vs];exact Below.heap_setCell _ _ _ _ hi
theorem zaa (b:Nat):∀ (vs:List Value) (o:Nat) (w:World),(w.setCells b o vs).os=w.os∧(w.setCells b o vs).tape=w.tape∧(w.setCells b o vs).output=w.output
 | [],_,_=>⟨rfl,rfl,rfl⟩
 | v :: vs,o,w=>by rw [World.setCells];exact zaa b vs (o+1) _
theorem zhH {P:Program} (w:World) (dT sT ty elem:TypeId) (z b o dLen dCap:Nat) (a:Addr) (sLen sCap:Nat) (cs:List Value)
  (hu:P.underlying dT=some (.slice elem)) (hs:(P.info? elem).map (·.size)=some z) (hn:cs.length=Nat.min sLen dLen * z)
  (hsrc:∀ j v,cs[j]? = some v→w.cell? (a.add j)=some v) (hc:∀ j,j<cs.length→(w.cell? ⟨b,o+j,none⟩).isSome=true) (hf:∀ j,j<cs.length→w.frozen? ⟨b,o+j,none⟩=false) (h1:∀ v ∈ cs,v.oneCell'=true) :
  (Builtin.copy_ #[dT,sT] ty #[.slice (some ⟨b,o,none⟩) dLen dCap,.slice (some a) sLen sCap]).run P w = .ok (goInt (Nat.min sLen dLen)) (w.setCells b o cs):=by
 have hl:=run_loadCells_list (P:=P) w a cs hsrc
 have hst:=run_storeCells_cells (P:=P) b o cs 0 w (by simpa using hc) (by simpa using hf) h1
 cases hq:P.info? elem with
 | none=>simp [hq] at hs
 | some i=>
  have hi:i.size=z:=by simpa [hq] using hs
  simp [Builtin.copy_,run_underlying hu,Builtin.lenOf,Builtin.firstCells,sizeOf,typeInfo,hq,hi,← hn,hl,hst]
theorem zgU {P:Program} {ops:Array Oper} {o:Oper} {a:Act} {w:World} {K:Act→World→Prop} {Q:Exit→Act→World→Prop} {E:Prop}
  (hg:o.guard=none) (d x:Operand) (dT sT:TypeId) (hop:o.op=Op.call { callee:=Callee.builtin Builtin.copy,args:=#[d,x],argTypes:=#[dT,sT] })
  (v u:Value) (hd:a.eval d=v) (hx:a.eval x=u) {v':Value} {w':World} (hr:(Builtin.copy_ #[dT,sT] o.type #[v,u]).run P w = .ok v' w') (hK:K (a.put o.dst v') w') :
  if Region.wanted o (yielded ops a.tmps)=true then Oper.wp P o a w K Q else E:=by
 have hw:Region.wanted o (yielded ops a.tmps)=true:=by simp [Region.wanted,hg]
 rw [if_pos hw]
 unfold Oper.wp
 simp [execOp,hop,resolve,invoke,builtin,hd,hx,hr,Result.andThen]
 exact hK
theorem zsO {P:Program} {t:TypeId} {n:Nat} (h:(P.info? t).map (·.size)=some n) (w:World):(Go.sizeOf t).run P w = .ok n w:=by
 cases hq:P.info? t with
 | none=>simp [hq] at h
 | some i=>simp [hq] at h;simp [sizeOf,typeInfo,hq,h]
theorem cell_of_heap {w:World} {b o:Nat} {cur:Array Value} {t:TypeId} {fr:Nat × Nat} (h:w.heap[b]? = some (.cells cur t fr)):w.cell? ⟨b,o,none⟩=cur[o]?:=by simp [World.cell?,h]
theorem frozen_of_heap {w:World} {b o:Nat} {cur:Array Value} {t:TypeId} (h:w.heap[b]? = some (.cells cur t (0,0))):w.frozen? ⟨b,o,none⟩=false:=by simp [World.frozen?,h]
theorem zij {w:World} {b:Nat} {cur:Array Value} {t:TypeId} {fr:Nat × Nat} (h:w.heap[b]? = some (.cells cur t fr)):w.shape? b=some (t,cur.size):=by simp [World.shape?,h]
theorem zGi:(Tryz.prog.info? 62).map (fun i=>(i.zero,i.size,i.bytes))=some (some (.agg #[.string ⟨#[]⟩,.string ⟨#[]⟩]),2,32):=by kernel_rfl
theorem zzz (b n c i vb vc:Nat) (cur cur2:Array Value) (w:World) (hi:i<n) (hnc:n≤c) (hroom:c<n+1) (hbig:n≤1048576) (hb:w.heap[b]? = some (.cells cur 62 (0,0))) (hcs:cur.size=c * 2) (hv:w.heap[vb]? = some (.cells cur2 62 (0,0))) (hvs:cur2.size=vc * 2) (hvc:1≤vc)
  (h1c:∀ v ∈ cur.toList.take (n * 2),v.oneCell'=true) (h1v:∀ v ∈ cur2.toList.take 2,v.oneCell'=true) :
  Calls Tryz.prog 97 #[.slice (some ⟨b,0,none⟩) n c,.int .i64 i,.slice (some ⟨vb,0,none⟩) 1 vc] w fun e w'=>
   ∃ (G:Nat) (row:List Value),e = .returned (.slice (some ⟨w.heap.size,0,none⟩) (n+1) G)∧n+1≤G∧G≤9223372036854775807∧row.length=G * 2∧row.take (i * 2)=cur.toList.take (i * 2) ∧
    w'=(((w.alloc (.cells row.toArray 62)).drew.setCells w.heap.size (i * 2) (cur2.toList.take 2)).drew).setCells w.heap.size ((i+1) * 2) ((cur.toList.take (n * 2)).drop (i * 2)):=by
 have hI:=zGi
 cases hq:Tryz.prog.info? 62 with
 | none=>rw [hq] at hI;cases hI
 | some i0=>
 rw [hq] at hI
 simp only [Option.map_some,Option.some.injEq,Prod.mk.injEq] at hI
 obtain⟨hz0,hzs,hzb⟩:=hI
 have hsz:(Tryz.prog.info? 62).map (·.size)=some 2:=by rw [hq];simp [hzs]
 obtain⟨xs,hxs⟩:∃ xs,xs=cur.toList.take (n * 2):=⟨_,rfl⟩
 have hxl:xs.length=n * 2:=by rw [hxs,List.length_take];simp;omega
 obtain⟨ys,hys⟩:∃ ys,ys=cur2.toList.take 2:=⟨_,rfl⟩
 have hyl:ys.length=2:=by rw [hys,List.length_take];simp;omega
 rw [← hxs] at h1c ⊢
 rw [← hys] at h1v ⊢
 have hbw:b<w.heap.size:=(Array.getElem?_eq_some_iff.1 hb).1
 have hvw:vb<w.heap.size:=(Array.getElem?_eq_some_iff.1 hv).1
 have hcx:∀ j v,xs[j]? = some v→w.cell? ⟨b,j,none⟩=some v:=fun j v hj=>by
  rw [cell_of_heap hb]
  rw [hxs,List.getElem?_take] at hj
  split at hj
  ·simpa using hj
  ·cases hj
 have hcy:∀ j v,ys[j]? = some v→w.cell? ⟨vb,j,none⟩=some v:=fun j v hj=>by
  rw [cell_of_heap hv]
  rw [hys,List.getElem?_take] at hj
  split at hj
  ·simpa using hj
  ·cases hj
 have hti:(xs.take (i * 2)).length=i * 2:=by rw [List.length_take];omega
 have hold:(Builtin.firstCells i0.size i (.slice (some ⟨b,0,none⟩) i c)).run Tryz.prog w.drew = .ok (xs.take (i * 2)).toArray w.drew:=by
  rw [hzs]
  refine run_firstCells_some _ 2 i ⟨b,0,none⟩ i c _ hti fun j v hj=>?_
  rw [Addr.add_lit,Nat.zero_add]
  rw [List.getElem?_take] at hj
  split at hj
  ·exact hcx j v hj
  ·cases hj
 have hkk:(n:Int)+1 - (i:Int)=((n+1 - i:Nat):Int):=by omega
 have hik:i+(n+1 - i)=n+1:=by omega
 obtain⟨G,hG⟩:∃ G,G=grownCap w (n+1) c 62:=⟨_,rfl⟩
 obtain⟨ROW,hROW⟩:∃ ROW:Array Value,ROW=(xs.take (i * 2)).toArray++Builtin.zeroCells (Value.agg #[.string ⟨#[]⟩,.string ⟨#[]⟩]).cells (n+1 - i)++Builtin.zeroCells (Value.agg #[.string ⟨#[]⟩,.string ⟨#[]⟩]).cells (G - (n+1)):=⟨_,rfl⟩
 have hrz:∀ ty,(Builtin.append_ #[23,3] ty #[.slice (some ⟨b,0,none⟩) i c,.int .i64 ((n:Int)+1 - (i:Int))]).run Tryz.prog w = .ok (.slice (some ⟨w.heap.size,0,none⟩) (n+1) G) (w.drew.alloc (.cells ROW 62)):=fun ty=>by
  have h:=Lib.run_append_grow_zeros w 23 3 ty 62 i0 _ .i64 .i64 Tryz.underlying23 Tryz.underlying3 hq hz0 (some ⟨b,0,none⟩) i c (xs.take (i * 2)) hold (n+1 - i) (by omega) (by omega) (by omega) (by omega) (by rw [hzb];omega) (by rw [hzb,hik];exact growslice_fits hroom (by omega))
  rw [hik,← hG,← hROW] at h
  rw [hkk]
  exact h
 have hGn:n+1≤G:=by rw [hG];exact grownCap_ge w _ _ _
 have hG63:G≤9223372036854775807:=by
  have:=grownCap_le_maxLen w (n+1) c 62 (by unfold maxLen;omega)
  rw [← hG] at this
  unfold maxLen at this
  omega
 have hRl:ROW.size=G * 2:=by
  rw [hROW]
  simp only [Array.size_append,List.size_toArray,size_zeroCells,hti]
  simp [Value.cells]
  omega
 have hRt:ROW.toList.take (i * 2)=xs.take (i * 2):=by
  rw [hROW]
  simp only [Array.toList_append]
  rw [List.append_assoc,List.take_append_of_le_length (by simp [hti]),List.take_of_length_le (by simp [hti])]
 clear hROW hold hkk hik
 obtain⟨W1,hW1⟩:∃ W1,W1=w.drew.alloc (.cells ROW 62):=⟨_,rfl⟩
 have hN1:W1.heap[w.heap.size]? = some (.cells ROW 62 (0,0)):=by rw [hW1];exact heap_alloc_new w.drew _
 have hB1:W1.heap[b]? = some (.cells cur 62 (0,0)):=by rw [hW1];exact(Below.heap_alloc w.drew _ b hbw).trans hb
 have hV1:W1.heap[vb]? = some (.cells cur2 62 (0,0)):=by rw [hW1];exact(Below.heap_alloc w.drew _ vb hvw).trans hv
 have hcpA:∀ (W:World),W.heap=W1.heap→∀ ty dc,(Builtin.copy_ #[23,23] ty #[.slice (some ⟨w.heap.size,i * 2,none⟩) (n+1 - i) dc,.slice (some ⟨vb,0,none⟩) 1 vc]).run Tryz.prog W = .ok (goInt 1) (W.setCells w.heap.size (i * 2) ys):=fun W hW ty dc=>by
  have hm:Nat.min 1 (n+1 - i)=1:=by simp only [Nat.min_def];split <;> omega
  have hNW:W.heap[w.heap.size]? = some (.cells ROW 62 (0,0)):=by rw [hW];exact hN1
  have hVW:W.heap[vb]? = some (.cells cur2 62 (0,0)):=by rw [hW];exact hV1
  have h:=zhH (P:=Tryz.prog) W 23 23 ty 62 2 w.heap.size (i * 2) (n+1 - i) dc ⟨vb,0,none⟩ 1 vc ys Tryz.underlying23 hsz (by rw [hm,hyl])
   (fun j v hj=>by rw [Addr.add_lit,Nat.zero_add,cell_of_heap hVW,← cell_of_heap (o:=j) hv];exact hcy j v hj)
   (fun j hj=>by rw [cell_of_heap hNW,Array.getElem?_eq_getElem (by omega)];rfl) (fun j hj=>frozen_of_heap hNW) h1v
  rw [hm] at h
  exact h
 obtain⟨W2,hW2⟩:∃ W2,W2=W1.setCells w.heap.size (i * 2) ys:=⟨_,rfl⟩
 have hN2:W2.heap[w.heap.size]? = some (.cells (zeA ROW.toList (i * 2) ys).toArray 62 (0,0)):=by rw [hW2];exact zbs _ _ _ _ _ _ _ hN1 (by omega)
 have hB2:W2.heap[b]? = some (.cells cur 62 (0,0)):=by rw [hW2,zbg _ (by omega)];exact hB1
 have hdl:(xs.drop (i * 2)).length=(n - i) * 2:=by rw [List.length_drop];omega
 have hcpB:∀ (W:World),W.heap=W2.heap→∀ ty dc sc,(Builtin.copy_ #[23,23] ty #[.slice (some ⟨w.heap.size,(i+1) * 2,none⟩) (n+1 - (i+1)) dc,.slice (some ⟨b,i * 2,none⟩) (n - i) sc]).run Tryz.prog W = .ok (goInt (n - i:Nat)) (W.setCells w.heap.size ((i+1) * 2) (xs.drop (i * 2))):=fun W hW ty dc sc=>by
  have hm:Nat.min (n - i) (n+1 - (i+1))=n - i:=by simp only [Nat.min_def];split <;> omega
  have hNW:W.heap[w.heap.size]? = some (.cells (zeA ROW.toList (i * 2) ys).toArray 62 (0,0)):=by rw [hW];exact hN2
  have hBW:W.heap[b]? = some (.cells cur 62 (0,0)):=by rw [hW];exact hB2
  have ho:=zbG ROW.toList (i * 2) ys (by simp;omega)
  have h:=zhH (P:=Tryz.prog) W 23 23 ty 62 2 w.heap.size ((i+1) * 2) (n+1 - (i+1)) dc ⟨b,i * 2,none⟩ (n - i) sc (xs.drop (i * 2)) Tryz.underlying23 hsz (by rw [hm,hdl])
   (fun j v hj=>by
    rw [Addr.add_lit,cell_of_heap hBW,← cell_of_heap (o:=i * 2+j) hb]
    rw [List.getElem?_drop] at hj
    exact hcx _ v hj)
   (fun j hj=>by rw [cell_of_heap hNW,Array.getElem?_eq_getElem (by simp only [List.size_toArray,ho,Array.length_toList];omega)];rfl) (fun j hj=>frozen_of_heap hNW) (fun v hv=>h1c v (List.mem_of_mem_drop hv))
  rw [hm] at h
  exact h
 have hz2:¬ ((i:Int)=(n:Int)):=by omega
 have hz3:(c:Int)<(n:Int)+1:=by omega
 have hGi:¬ (G=i):=by omega
 have hGim:¬ (G=i+1):=by omega
 have hci:¬ (c=i):=by omega
 have hw1:IntKind.i64.wrap ((i:Int)+1)=(i:Int)+1:=by rw [IntKind.wrap_i64];omega
 have hw2:IntKind.i64.wrap ((n:Int)+1)=(n:Int)+1:=by rw [IntKind.wrap_i64];omega
 have hb1:(0:Int)≤(i:Int)+1:=by omega
 have hin:i≤n:=by omega
 have htn:((i:Int)+1).toNat=i+1:=by omega
 have hb3:(i:Int)≤(n:Int):=by omega
 have hRt':ROW.toList.take (i * 2)=cur.toList.take (i * 2):=by rw [hRt,hxs,List.take_take,Nat.min_eq_left (by omega)]
 clear hxs hys hti hRt hdl hcx hcy hq hz0 hzs hzb h1c h1v hb hv
 subst hW1
 have hcpA':=hcpA ((w.alloc (.cells ROW 62)).drew) rfl
 have hcpB':=hcpB ((((w.alloc (.cells ROW 62)).drew).setCells w.heap.size (i * 2) ys).drew) (by rw [hW2];rfl)
 clear hcpA hcpB
 have mixed:Tryz.prog.follows .mixedOrders=true:=by kernel_rfl
 subst hG
 go_enter Tryz.func97,Tryz.ntmps97
 go_wp2_with (first
  | (at_builtin;refine Lib.wpList_append_run _ rfl _ _ _ _ rfl _ _ rfl rfl _ _ (hrz _) ?_)
  | (rw [hcpA']))
 go_region_law_o (refine zgU rfl _ _ 23 23 rfl (.slice (some ⟨w.heap.size,(i+1) * 2,none⟩) (n+1 - (i+1)) (grownCap w (n+1) c 62 - (i+1))) (.slice (some ⟨b,i * 2,none⟩) (n - i) (c - i)) (by simp [Act.eval,Act.put]) (by simp [Act.eval,Act.put]) (hcpB' 3 (grownCap w (n+1) c 62 - (i+1)) (c - i)) ?_)
 go_wp2
 go_ret
 exact⟨_,ROW.toList,rfl,hGn,hG63,by simpa using hRl,hRt',rfl⟩
theorem zFt:Tryz.prog.follows .mixedOrders=true:=by kernel_rfl
theorem zww (b n c i vb vc:Nat) (cur cur2:Array Value) (w:World) (hi:i<n) (hroom:n+1≤c) (hc63:c≤9223372036854775807) (hbig:n≤1048576) (hvb:vb≠b) (hb:w.heap[b]? = some (.cells cur 62 (0,0))) (hcs:cur.size=c * 2) (hv:w.heap[vb]? = some (.cells cur2 62 (0,0))) (hvs:cur2.size=vc * 2) (hvc:1≤vc)
  (h1c:∀ v ∈ cur.toList.take (n * 2),v.oneCell'=true) (h1v:∀ v ∈ cur2.toList.take 2,v.oneCell'=true) :
  Calls Tryz.prog 97 #[.slice (some ⟨b,0,none⟩) n c,.int .i64 i,.slice (some ⟨vb,0,none⟩) 1 vc] w fun e w'=>
   e = .returned (.slice (some ⟨b,0,none⟩) (n+1) c)∧w'=(w.drew.setCells b ((i+1) * 2) ((cur.toList.take (n * 2)).drop (i * 2))).setCells b (i * 2) (cur2.toList.take 2):=by
 have hsz:(Tryz.prog.info? 62).map (·.size)=some 2:=by kernel_rfl
 obtain⟨xs,hxs⟩:∃ xs,xs=cur.toList.take (n * 2):=⟨_,rfl⟩
 have hxl:xs.length=n * 2:=by rw [hxs,List.length_take];simp;omega
 obtain⟨ys,hys⟩:∃ ys,ys=cur2.toList.take 2:=⟨_,rfl⟩
 have hyl:ys.length=2:=by rw [hys,List.length_take];simp;omega
 rw [← hxs] at h1c ⊢
 rw [← hys] at h1v ⊢
 have hcx:∀ j v,xs[j]? = some v→w.cell? ⟨b,j,none⟩=some v:=fun j v hj=>by
  rw [cell_of_heap hb]
  rw [hxs,List.getElem?_take] at hj
  split at hj
  ·simpa using hj
  ·cases hj
 have hcy:∀ j v,ys[j]? = some v→w.cell? ⟨vb,j,none⟩=some v:=fun j v hj=>by
  rw [cell_of_heap hv]
  rw [hys,List.getElem?_take] at hj
  split at hj
  ·simpa using hj
  ·cases hj
 have hov:∀ lb cb,(callFunc 158 #[.slice (some ⟨vb,0,none⟩) 1 vc,.slice (some ⟨b,(i+1) * 2,none⟩) lb cb]).run Tryz.prog w = .ok (.value (.bool false)) w:=fun lb cb=>by
  rw [run_callFunc_extern Tryz.func158 (by kernel_rfl) (by kernel_rfl) (by kernel_rfl) (e:=Extern.SlicesOverlaps.overlaps #[23,23] #[4]) (by kernel_rfl),
   Lib.run_overlaps_apart w 23 4 62 Tryz.underlying23 2 (fun w=>zsO hsz w) ⟨vb,0,none⟩ ⟨b,(i+1) * 2,none⟩ 1 vc lb cb hvb _ _ _ _ (zij hv) (zij hb) (by omega) (frozen_of_heap hv) (frozen_of_heap hv)]
  rfl
 have hdl:(xs.drop (i * 2)).length=(n - i) * 2:=by rw [List.length_drop];omega
 have hcpB:∀ ty dc sc,(Builtin.copy_ #[23,23] ty #[.slice (some ⟨b,(i+1) * 2,none⟩) (n - i) dc,.slice (some ⟨b,i * 2,none⟩) (n+1 - i) sc]).run Tryz.prog w.drew = .ok (goInt (n - i:Nat)) (w.drew.setCells b ((i+1) * 2) (xs.drop (i * 2))):=fun ty dc sc=>by
  have hm:Nat.min (n+1 - i) (n - i)=n - i:=by simp only [Nat.min_def];split <;> omega
  have hBW:w.drew.heap[b]? = some (.cells cur 62 (0,0)):=hb
  have h:=zhH (P:=Tryz.prog) w.drew 23 23 ty 62 2 b ((i+1) * 2) (n - i) dc ⟨b,i * 2,none⟩ (n+1 - i) sc (xs.drop (i * 2)) Tryz.underlying23 hsz (by rw [hm,hdl])
   (fun j v hj=>by
    rw [Addr.add_lit]
    rw [List.getElem?_drop] at hj
    exact hcx _ v hj)
   (fun j hj=>by rw [cell_of_heap hBW,Array.getElem?_eq_getElem (by omega)];rfl) (fun j hj=>frozen_of_heap hBW) (fun v hv=>h1c v (List.mem_of_mem_drop hv))
  rw [hm] at h
  exact h
 obtain⟨W1,hW1⟩:∃ W1,W1=w.drew.setCells b ((i+1) * 2) (xs.drop (i * 2)):=⟨_,rfl⟩
 have hB1:W1.heap[b]? = some (.cells (zeA cur.toList ((i+1) * 2) (xs.drop (i * 2))).toArray 62 (0,0)):=by rw [hW1];exact zbs _ _ _ _ _ _ _ hb (by omega)
 have hV1:W1.heap[vb]? = some (.cells cur2 62 (0,0)):=by rw [hW1,zbg _ hvb];exact hv
 have ho:=zbG cur.toList ((i+1) * 2) (xs.drop (i * 2)) (by simp only [Array.length_toList];omega)
 have hcpA:∀ ty dc,(Builtin.copy_ #[23,23] ty #[.slice (some ⟨b,i * 2,none⟩) (n+1 - i) dc,.slice (some ⟨vb,0,none⟩) 1 vc]).run Tryz.prog W1 = .ok (goInt 1) (W1.setCells b (i * 2) ys):=fun ty dc=>by
  have hm:Nat.min 1 (n+1 - i)=1:=by simp only [Nat.min_def];split <;> omega
  have h:=zhH (P:=Tryz.prog) W1 23 23 ty 62 2 b (i * 2) (n+1 - i) dc ⟨vb,0,none⟩ 1 vc ys Tryz.underlying23 hsz (by rw [hm,hyl])
   (fun j v hj=>by rw [Addr.add_lit,Nat.zero_add,cell_of_heap hV1,← cell_of_heap (o:=j) hv];exact hcy j v hj)
   (fun j hj=>by rw [cell_of_heap hB1,Array.getElem?_eq_getElem (by simp only [List.size_toArray,ho,Array.length_toList];omega)];rfl) (fun j hj=>frozen_of_heap hB1) h1v
  rw [hm] at h
  exact h
 have hz2:¬ ((i:Int)=(n:Int)):=by omega
 have hz3:¬ ((c:Int)<(n:Int)+1):=by omega
 have hci:¬ (c=i):=by omega
 have hci1:¬ (c=i+1):=by omega
 have hw1:IntKind.i64.wrap ((i:Int)+1)=(i:Int)+1:=by rw [IntKind.wrap_i64];omega
 have hw2:IntKind.i64.wrap ((n:Int)+1)=(n:Int)+1:=by rw [IntKind.wrap_i64];omega
 have hb1:(0:Int)≤(i:Int)+1:=by omega
 have hin:i≤n:=by omega
 have htn:((i:Int)+1).toNat=i+1:=by omega
 have htn2:((n:Int)+1).toNat=n+1:=by omega
 have hb3:(i:Int)≤(n:Int)+1:=by omega
 have hb4:(n:Int)+1≤(c:Int):=by omega
 have mixed:=zFt
 subst hW1
 clear hxs hys hdl hcx hcy h1c h1v hb hv hB1 hV1 ho
 go_enter Tryz.func97,Tryz.ntmps97
 go_wp2_with (simp only [hov])
 go_region_law_o (refine zgU rfl _ _ 23 23 rfl _ _ (by simp [Act.eval,Act.put]) (by simp [Act.eval,Act.put]) (hcpB _ _ _) ?_)
 go_wp2_with (rw [hcpA])
 go_ret
 exact⟨rfl,rfl⟩
theorem zBD (v:Value) (n vb vc:Nat) (w w':World) (v':Value) (hv:(v = .slice none 0 0∧n=0)∨∃ b c,v = .slice (some ⟨b,0,none⟩) n c∧n≤c) (hrun:(Builtin.append_ #[23,23] 23 #[v,.slice (some ⟨vb,0,none⟩) 1 vc]).run Tryz.prog w = .ok v' w') :
  Calls Tryz.prog 97 #[v,.int .i64 n,.slice (some ⟨vb,0,none⟩) 1 vc] w fun e w''=>e = .returned v'∧w''=w':=by
 rcases hv with⟨rfl,rfl⟩ | ⟨b,c,rfl,hnc⟩
 ·go_enter Tryz.func97,Tryz.ntmps97
  go_wp2_with (at_builtin;refine Lib.wpList_append_run _ rfl _ _ _ _ rfl _ _ rfl rfl _ _ hrun ?_)
  go_ret
  exact⟨rfl,rfl⟩
 ·by_cases hcn:c=n
  ·subst hcn
   go_enter Tryz.func97,Tryz.ntmps97
   go_wp2_with (at_builtin;refine Lib.wpList_append_run _ rfl _ _ _ _ rfl _ _ rfl rfl _ _ hrun ?_)
   go_ret
   exact⟨rfl,rfl⟩
  ·go_enter Tryz.func97,Tryz.ntmps97
   go_wp2_with (at_builtin;refine Lib.wpList_append_run _ rfl _ _ _ _ rfl _ _ rfl rfl _ _ hrun ?_)
   go_ret
   exact⟨rfl,rfl⟩
theorem zpP (L:List Value) (o:Nat) (ys:List Value) (h:o+ys.length≤L.length):(zeA L o ys).take (o+ys.length)=L.take o++ys:=by
 unfold zeA
 rw [List.take_append_of_le_length (by simp;omega),List.take_of_length_le (by rw [List.length_append,List.length_take];omega)]
theorem zzf (L:List Value) (o:Nat) (ys:List Value) (h:o+ys.length≤L.length):(zeA L o ys).drop o=ys++L.drop (o+ys.length):=by
 unfold zeA
 rw [List.append_assoc,List.drop_append_of_le_length (by simp;omega),List.drop_of_length_le (by rw [List.length_take];omega),List.nil_append]
theorem zrs (L:List Value) (o k:Nat) (ys:List Value) (hk:k≤o) (h:o≤L.length):(zeA L o ys).take k=L.take k:=by
 unfold zeA
 rw [List.append_assoc,List.take_append_of_le_length (by simp;omega),List.take_take,Nat.min_eq_left hk]
theorem zDX (L zs ys:List Value) (i m:Nat) (hy:ys.length=2) (h:m≤L.length) (hm:m=i+2+zs.length):(zeA (zeA L i ys) (i+2) zs).take m=L.take i++ys++zs:=by
 subst hm
 have h1:=zbG L i ys (by omega)
 rw [zpP _ _ _ (by omega)]
 congr 1
 rw [← hy];exact zpP L i ys (by omega)
theorem zDW (L zs ys:List Value) (i m:Nat) (hy:ys.length=2) (h:m≤L.length) (hm:m=i+2+zs.length):(zeA (zeA L (i+2) zs) i ys).take m=L.take i++ys++zs:=by
 subst hm
 have h1:=zbG L (i+2) zs (by omega)
 have h2:zeA (zeA L (i+2) zs) i ys=L.take i++ys++(zs++L.drop (i+2+zs.length)):=by
  rw [zeA,hy,zzf _ _ _ (by omega),zrs _ _ _ _ (by omega) (by omega)]
 rw [h2,← List.append_assoc,List.take_append_of_le_length (by simp;omega),List.take_of_length_le (by simp;omega)]
theorem zEb {rows:List (List D)} {i q:Nat} {row:List D} (hi:i≤rows.length) (h:q<i):(zbC rows i row)[q]? = rows[q]?:=by
 show(rows.take i++row :: rows.drop i)[q]? = _
 rw [List.getElem?_append_left (by rw [List.length_take];omega),List.getElem?_take,if_pos h]
theorem zEd {rows:List (List D)} {i:Nat} {row:List D} (hi:i≤rows.length):(zbC rows i row)[i]? = some row:=by
 show(rows.take i++row :: rows.drop i)[i]? = _
 have hl:(rows.take i).length=i:=by rw [List.length_take];omega
 rw [List.getElem?_append_right (by omega),hl,Nat.sub_self];rfl
theorem zEc {rows:List (List D)} {i q:Nat} {row:List D} (hi:i≤rows.length) (h:i<q):(zbC rows i row)[q]? = rows[q - 1]?:=by
 show(rows.take i++row :: rows.drop i)[q]? = _
 have hl:(rows.take i).length=i:=by rw [List.length_take];omega
 obtain⟨m,rfl⟩:∃ m,q=i+m+1:=⟨q - i - 1,by omega⟩
 rw [List.getElem?_append_right (by omega),hl,show i+m+1 - i=m+1 by omega,List.getElem?_cons_succ,List.getElem?_drop]
 congr 1
theorem zqk {w:World} {F:Nat→Nat→Prop} {st i:Nat} {rows:List (List D)} {row:List D} {xs ys:List Value} (hi:i≤rows.length) (_hst:0<st) (hxl:xs.length=rows.length * st) (hyl:ys.length=st) (hr:∀ i (h:i<rows.length),rows[i].length=st) (hrw:row.length=st)
  (hx:∀ i (hi:i<rows.length) j (hj:j<rows[i].length),∃ u,xs[i * st+j]? = some u∧Reads w F rows[i][j] u) (hy:∀ j (hj:j<row.length),∃ u,ys[j]? = some u∧Reads w F row[j] u) :
  ∀ q (hq:q<(zbC rows i row).length) j (hj:j<(zbC rows i row)[q].length),∃ u,(xs.take (i * st)++ys++xs.drop (i * st))[q * st+j]? = some u∧Reads w F (zbC rows i row)[q][j] u:=by
 intro q hq j hj
 have hl:=zhh rows row hi
 have hrl:=ztS hr hrw q hq
 have hms:i * st≤rows.length * st:=Nat.mul_le_mul_right _ hi
 have htl:(xs.take (i * st)).length=i * st:=by rw [List.length_take];omega
 have hjst:j<st:=by omega
 have hex:∀ (k:Nat) (hk:k<rows.length) (hj':j<rows[k].length) (hrow:(zbC rows i row)[q]=rows[k]),(zbC rows i row)[q][j]=rows[k][j]:=fun k hk hj' hrow=>by congr 1
 rcases Nat.lt_trichotomy q i with h | h | h
 ·have hrow:(zbC rows i row)[q]=rows[q]:=Option.some.inj (by rw [← List.getElem?_eq_getElem,← List.getElem?_eq_getElem];exact zEb hi h)
  have hj':j<rows[q].length:=by rw [← hrow];exact hj
  obtain⟨u,h1,h2⟩:=hx q (by omega) j hj'
  have hlt:q * st+j<i * st:=by
   have:=Nat.mul_le_mul_right st (show q+1≤i from h)
   rw [Nat.add_mul] at this;omega
  refine⟨u,?_,by rw [hex q (by omega) hj' hrow];exact h2⟩
  rw [List.append_assoc,List.getElem?_append_left (by omega),List.getElem?_take,if_pos hlt]
  exact h1
 ·subst h
  have hrow:(zbC rows q row)[q]=row:=Option.some.inj (by rw [← List.getElem?_eq_getElem];exact zEd hi)
  have hj':j<row.length:=by rw [← hrow];exact hj
  obtain⟨u,h1,h2⟩:=hy j hj'
  have he:(zbC rows q row)[q][j]=row[j]:=by congr 1
  refine⟨u,?_,by rw [he];exact h2⟩
  rw [List.append_assoc,List.getElem?_append_right (by omega),htl,List.getElem?_append_left (by omega)]
  have:q * st+j - q * st=j:=by omega
  rw [this];exact h1
 ·have hq1:q - 1<rows.length:=by omega
  have hrow:(zbC rows i row)[q]=rows[q - 1]:=Option.some.inj (by rw [← List.getElem?_eq_getElem,← List.getElem?_eq_getElem];exact zEc hi h)
  have hj':j<rows[q - 1].length:=by rw [← hrow];exact hj
  obtain⟨u,h1,h2⟩:=hx (q - 1) hq1 j hj'
  refine⟨u,?_,by rw [hex (q - 1) hq1 hj' hrow];exact h2⟩
  have e1:q * st=(q - 1) * st+st:=by
   obtain⟨m,rfl⟩:∃ m,q=m+1:=⟨q - 1,by omega⟩
   rw [Nat.add_sub_cancel,Nat.add_mul,Nat.one_mul]
  have hle:i * st≤(q - 1) * st:=Nat.mul_le_mul_right _ (by omega)
  rw [List.getElem?_append_right (by simp only [List.length_append,htl,hyl];omega),List.getElem?_drop]
  simp only [List.length_append,htl,hyl]
  have e2:i * st+(q * st+j - (i * st+st))=(q - 1) * st+j:=by omega
  rw [e2];exact h1
theorem zyI {w:World} {F:Nat→Nat→Prop} {b st cap:Nat} {cur:Array Value} {t:TypeId} {fr:Nat × Nat} {row:List D} (hv:w.heap[b]? = some (.cells cur t fr)) (hl:row.length=st) (h:Reads w F (.sl [row]) (.slice (some ⟨b,0,none⟩) 1 cap)):∀ j (hj:j<row.length),∃ u,(cur.toList.take st)[j]? = some u∧Reads w F row[j] u:=fun j hj=>by
 obtain⟨b1,o1,he,hr⟩:=h.row 0 (by simp) (st:=st) (by simpa using hl)
 injection he with he
 have e1:b=b1:=congrArg Addr.block he
 have e2:0=o1:=congrArg Addr.off he
 subst e1 e2
 obtain⟨_,u,hu,hru⟩:=hr j (by simpa using hj)
 rw [cell_of_heap hv,Nat.zero_mul,Nat.zero_add] at hu
 refine⟨u,?_,by simpa using hru⟩
 rw [List.getElem?_take,if_pos (by omega)]
 simpa using hu
theorem zxz {w:World} {F:Nat→Nat→Prop} {st:Nat} {rows:List (List D)} {xs:List Value} (hst:0<st) (hxl:xs.length=rows.length * st) (hf:zD st rows) (hx:∀ i (hi:i<rows.length) j (hj:j<rows[i].length),∃ u,xs[i * st+j]? = some u∧Reads w F rows[i][j] u):∀ v ∈ xs,v.oneCell'=true:=fun v hv=>by
 obtain⟨k,hk,rfl⟩:=List.mem_iff_getElem.1 hv
 have hi:k / st<rows.length:=Nat.div_lt_of_lt_mul (by rw [Nat.mul_comm];omega)
 have hm:=Nat.mod_lt k hst
 obtain⟨f1,f2⟩:=hf _ (List.getElem_mem hi)
 obtain⟨u,h1,h2⟩:=hx (k / st) hi (k % st) (by omega)
 have e:k / st * st+k % st=k:=by rw [Nat.mul_comm];exact Nat.div_add_mod k st
 rw [e,List.getElem?_eq_getElem hk] at h1
 rw [Option.some.inj h1]
 exact h2.one (f2 _ (List.getElem_mem _))
theorem zFv:zGe Tryz.prog 97 2 62:=by
 refine⟨⟨_,Tryz.func97,by decide +kernel,rfl⟩,fun F w v x rows row i xs hF hG hown hvF hr hrd hfit hfit2 hx hown2 hne hi hbig=>?_⟩
 obtain⟨ys,hown2⟩:=hown2
 have hrl:row.length=2:=(hfit2 row (by simp)).1
 have hlen:=zhh rows row hi
 obtain⟨hyl,⟨_,h0⟩ | ⟨vb,vc,cur2,rfl,_,hv,hvc,_,hvs,hyt⟩⟩:=hown2
 ·cases h0
 rw [Nat.one_mul] at hyt
 have hyr:=zyI hv hrl hx
 have h1v:=zxz (rows:=[row]) (xs:=cur2.toList.take 2) (w:=w) (F:=F) (st:=2) (by omega) (by rw [hyt,hyl];rfl) hfit2 (fun q hq j hj=>by
  have:q=0:=by simpa using hq
  subst this
  simpa using hyr j (by simpa using hj))
 have h1c:=zxz (by omega) hown.1 hfit hrd
 by_cases hin:i=rows.length
 ·obtain⟨v',w',xs',h1,h2,h3,h4,h5,h6⟩:=zsP (P:=Tryz.prog) (u:=23) hown rfl hr hrd hx (by simp) Tryz.underlying23 (z:=.agg #[.string ⟨#[]⟩,.string ⟨#[]⟩]) (by kernel_rfl) rfl (by omega) (by kernel_rfl) (by decide +kernel) hfit2 (by simp;omega)
  have hir:zbC rows i row=rows++[row]:=by subst hin;simp [zbC]
  rw [hin]
  refine(zBD v rows.length vb vc w w' v' (hown.2.imp id fun⟨b,cap,cur,e,_,_,h,_⟩=>⟨b,cap,e,h⟩) h1).mono ?_
  rintro e w'' ⟨rfl,rfl⟩
  rw [← hin,hir]
  exact⟨v',xs',rfl,by simpa using h2,h3,h4,h6⟩
 ·have hlt:i<rows.length:=by omega
  obtain⟨hxl,⟨_,h0⟩ | ⟨b,c,cur,rfl,_,hb,hnc,hc63,hcs,hxt⟩⟩:=hown
  ·omega
  have hvb:vb≠b:=fun e=>hne b rfl (by rw [e];rfl)
  have hc63':c≤9223372036854775807:=hc63
  have hcl:cur.toList.length=c * 2:=by simpa using hcs
  have hyl2:(cur2.toList.take 2).length=2:=by rw [hyt,hyl]
  have hi2:i * 2≤rows.length * 2:=Nat.mul_le_mul_right _ hi
  have hdl:(xs.drop (i * 2)).length=rows.length * 2 - i * 2:=by rw [List.length_drop,hxl]
  have hct:cur.toList.take (i * 2)=xs.take (i * 2):=by rw [← hxt,List.take_take,Nat.min_eq_left hi2]
  rw [← hxt] at h1c
  by_cases hroom:rows.length+1≤c
  ·refine(zww b rows.length c i vb vc cur cur2 w hlt hroom hc63' hbig hvb hb hcs hv hvs hvc h1c h1v).mono ?_
   rintro e w' ⟨rfl,rfl⟩
   rw [hxt]
   have hbd:w.drew.heap[b]? = some (.cells cur 62 (0,0)):=hb
   have h1:=zbs b (xs.drop (i * 2)) ((i+1) * 2) w.drew cur _ _ hbd (by omega)
   have hol:=zbG cur.toList ((i+1) * 2) (xs.drop (i * 2)) (by omega)
   have h2:=zbs b (cur2.toList.take 2) (i * 2) _ _ _ _ h1 (by simp only [List.size_toArray,hol];omega)
   have ho2:=zbG (zeA cur.toList ((i+1) * 2) (xs.drop (i * 2))) (i * 2) (cur2.toList.take 2) (by omega)
   have hfin:=zDW cur.toList (xs.drop (i * 2)) (cur2.toList.take 2) (i * 2) ((rows.length+1) * 2) hyl2 (by omega) (by omega)
   rw [show i * 2+2=(i+1) * 2 by omega,hct] at hfin
   refine⟨_,xs.take (i * 2)++cur2.toList.take 2++xs.drop (i * 2),rfl,⟨by rw [hlen];simp only [List.length_append,hdl,hyl2,List.length_take,hxl];omega,.inr ⟨b,c,_,by rw [hlen],Nat.zero_le _,h2,by omega,hc63,by simp only [List.size_toArray,ho2,hol];exact hcl,by rw [hlen];exact hfin⟩⟩,⟨?_,?_,?_,?_,fun k hk hne'=>?_⟩,.inl rfl,zqk hi (by omega) hxl hyl2 hr hrl hrd hyr⟩
   ·rw [(zaa _ _ _ _).1,(zaa _ _ _ _).1];rfl
   ·rw [(zaa _ _ _ _).2.1,(zaa _ _ _ _).2.1];rfl
   ·rw [(zaa _ _ _ _).2.2,(zaa _ _ _ _).2.2];rfl
   ·rw [zcA,zcA];exact Nat.le_refl _
   ·have hkb:k≠b:=fun e=>hne' (by rw [e];rfl)
    rw [zbg _ hkb,zbg _ hkb];rfl
  ·refine(zzz b rows.length c i vb vc cur cur2 w hlt hnc (by omega) hbig hb hcs hv hvs hvc h1c h1v).mono ?_
   rintro e w' ⟨G,R,rfl,hG1,hG2,hRl,hRt,rfl⟩
   rw [hxt]
   have hbd:(w.alloc (.cells R.toArray 62)).drew.heap[w.heap.size]? = some (.cells R.toArray 62 (0,0)):=heap_alloc_new w _
   have h1:=zbs w.heap.size (cur2.toList.take 2) (i * 2) _ _ _ _ hbd (by simp only [List.size_toArray];omega)
   have hol:=zbG R (i * 2) (cur2.toList.take 2) (by omega)
   have h1':(((w.alloc (.cells R.toArray 62)).drew).setCells w.heap.size (i * 2) (cur2.toList.take 2)).drew.heap[w.heap.size]? = _:=h1
   have h2:=zbs w.heap.size (xs.drop (i * 2)) ((i+1) * 2) _ _ _ _ h1' (by simp only [List.size_toArray,hol];omega)
   have ho2:=zbG (zeA R (i * 2) (cur2.toList.take 2)) ((i+1) * 2) (xs.drop (i * 2)) (by omega)
   have hfin:=zDX R (xs.drop (i * 2)) (cur2.toList.take 2) (i * 2) ((rows.length+1) * 2) hyl2 (by omega) (by omega)
   rw [show i * 2+2=(i+1) * 2 by omega,hRt,hct] at hfin
   refine⟨_,xs.take (i * 2)++cur2.toList.take 2++xs.drop (i * 2),rfl,⟨by rw [hlen];simp only [List.length_append,hdl,hyl2,List.length_take,hxl];omega,.inr ⟨w.heap.size,G,_,by rw [hlen],Nat.zero_le _,h2,by omega,hG2,by simp only [List.size_toArray,ho2,hol];exact hRl,by rw [hlen];exact hfin⟩⟩,⟨?_,?_,?_,?_,fun k hk _=>?_⟩,.inr (.inl rfl),zqk hi (by omega) hxl hyl2 hr hrl hrd hyr⟩
   ·rw [(zaa _ _ _ _).1];exact(zaa _ _ _ _).1
   ·rw [(zaa _ _ _ _).2.1];exact(zaa _ _ _ _).2.1
   ·rw [(zaa _ _ _ _).2.2];exact(zaa _ _ _ _).2.2
   ·rw [zcA]
    show w.heap.size≤(((w.alloc _).drew).setCells _ _ _).heap.size
    rw [zcA]
    show w.heap.size≤(w.alloc _).heap.size
    simp
   ·have hkb:k≠w.heap.size:=by omega
    rw [zbg _ hkb]
    show(((w.alloc _).drew).setCells _ _ _).heap[k]? = _
    rw [zbg _ hkb]
    exact Below.heap_alloc w _ k hk
end
section
open Go Go.RowKit
theorem zCn (l:List Fl) (hl:l.length≤1048576):zAi Tryz.prog 98 [.d (.sl (zy l))] 2 62 (zy l):=by
 refine zxV Tryz.func98 rfl (by decide +kernel) (fun i hi=>(zhT l _ (List.getElem_mem hi)).1) rfl (by simp [Tryz.ntmps98]) (by simp [Tryz.ntmps98]) fun A hA=>?_
 rw [Tryz.ntmps98] at hA
 refine goC 15 ?_
 simp only [go_sem,hA]
 refine zxO 3 (rows:=zy l) (by simp only [go_sem]) rfl Tryz.underlying23 (by simp only [go_sem]) (by simp only [go_sem]) (by simp only [go_sem,hA]) fun b hb=>?_
 simp only [go_sem]
 refine⟨fun h=>?_,fun h=>?_⟩
 ·refine goC 400 ?_
  simp only [go_sem,hA,Tryz.results98]
  exact⟨2,rfl,.inr ⟨rfl,hb h⟩⟩
 ·subst h
  refine goC 4 ?_
  simp only [go_sem]
  refine zBL 99 400 (by simp only [go_sem]) rfl (by simp only [go_sem];rfl) (by simp only [go_sem]) (by simp only [go_sem,hA]) ?_
  simp only [go_sem,hA,ze,Tryz.results98]
  exact⟨⟨zhT l,by omega⟩,2,rfl,.inl ⟨99,1,by simp only [go_sem,ze,Nat.zero_add],by simp only [go_sem] <;> rfl⟩⟩
theorem zCm (l:List Mo) (hl:l.length≤1048576):zAi Tryz.prog 44 [.d (.sl (zab l))] 3 56 (zab l):=by
 refine zxV Tryz.func44 rfl (by decide +kernel) (fun i hi=>(zfM l _ (List.getElem_mem hi)).1) rfl (by simp [Tryz.ntmps44]) (by simp [Tryz.ntmps44]) fun A hA=>?_
 rw [Tryz.ntmps44] at hA
 refine goC 15 ?_
 simp only [go_sem,hA]
 refine zxO 3 (rows:=zab l) (by simp only [go_sem]) rfl Tryz.underlying22 (by simp only [go_sem]) (by simp only [go_sem]) (by simp only [go_sem,hA]) fun b hb=>?_
 simp only [go_sem]
 refine⟨fun h=>?_,fun h=>?_⟩
 ·refine goC 400 ?_
  simp only [go_sem,hA,Tryz.results44]
  exact⟨2,rfl,.inr ⟨rfl,hb h⟩⟩
 ·subst h
  refine goC 4 ?_
  simp only [go_sem]
  refine zBL 99 400 (by simp only [go_sem]) rfl (by simp only [go_sem];rfl) (by simp only [go_sem]) (by simp only [go_sem,hA]) ?_
  simp only [go_sem,hA,zm,Tryz.results44]
  exact⟨⟨zfM l,by omega⟩,2,rfl,.inl ⟨99,1,by simp only [go_sem,zm,Nat.zero_add],by simp only [go_sem] <;> rfl⟩⟩
end
section
open Go Go.RowKit
theorem ztW (n:Nat) (hn:n≤1048576) (w:World):Calls Tryz.prog 157 #[.slice none 0 0,.int .i64 n] w fun e w'=>∃ v,e = .returned v∧w'.ownsRow w.heap.size 58 7 v 0 []∧Below w.heap.size w w':=by
 have hI:(Tryz.prog.info? 58).map (fun i=>(i.zero,i.size,i.bytes))=some (some (.agg #[.string ⟨#[]⟩,.bool false,.bool false,.bool false,.string ⟨#[]⟩,.string ⟨#[]⟩,.string ⟨#[]⟩]),7,72):=by kernel_rfl
 cases hq:Tryz.prog.info? 58 with
 | none=>rw [hq] at hI;cases hI
 | some i0=>
 rw [hq] at hI
 simp only [Option.map_some,Option.some.injEq,Prod.mk.injEq] at hI
 obtain⟨hz0,hzs,hzb⟩:=hI
 by_cases h0:n=0
 ·subst h0
  go_enter Tryz.func157,Tryz.ntmps157
  go_wp2
  go_ret
  exact⟨_,rfl,World.ownsRow_nil _ _ _ _,Below.refl _ _⟩
 have hw1:IntKind.i64.wrap (n:Int)=(n:Int):=by rw [IntKind.wrap_i64];omega
 have hge:=grownCap_ge w n 0 58
 have hle:=grownCap_le_maxLen w n 0 58 (by unfold maxLen;omega)
 obtain⟨G,hG⟩:∃ G,G=grownCap w n 0 58:=⟨_,rfl⟩
 obtain⟨ROW,hROW⟩:∃ ROW:Array Value,ROW=([]:List Value).toArray++Builtin.zeroCells (Value.cells (.agg #[.string ⟨#[]⟩,.bool false,.bool false,.bool false,.string ⟨#[]⟩,.string ⟨#[]⟩,.string ⟨#[]⟩])) n++Builtin.zeroCells (Value.cells (.agg #[.string ⟨#[]⟩,.bool false,.bool false,.bool false,.string ⟨#[]⟩,.string ⟨#[]⟩,.string ⟨#[]⟩])) (G - n):=⟨_,rfl⟩
 have hrz:∀ ty,(Builtin.append_ #[24,3] ty #[.slice none 0 0,.int .i64 (n:Int)]).run Tryz.prog w = .ok (.slice (some ⟨w.heap.size,0,none⟩) n G) (w.drew.alloc (.cells ROW 58)):=fun ty=>by
  have h:=Lib.run_append_grow_zeros w 24 3 ty 58 i0 _ .i64 .i64 Tryz.underlying24 Tryz.underlying3 hq hz0 none 0 0 [] (by simp [Builtin.firstCells]) n (by omega) (by omega) (by omega) (by omega) (by rw [hzb];omega) (by rw [hzb];exact growslice_fits (by omega) (by omega))
  rw [Nat.zero_add,← hG,← hROW] at h
  exact h
 rw [← hG] at hge hle
 have hRl:ROW.size=G * 7:=by
  rw [hROW]
  simp only [Array.size_append,List.size_toArray,size_zeroCells]
  simp [Value.cells]
  omega
 have hpos:(0:Int)<(n:Int):=by omega
 clear hROW hG
 go_enter Tryz.func157,Tryz.ntmps157
 go_wp2_with (at_builtin;refine Lib.wpList_append_run _ rfl _ _ _ _ rfl _ _ rfl rfl _ _ (hrz _) ?_)
 go_ret
 exact⟨_,rfl,⟨by simp,.inr ⟨w.heap.size,G,ROW,rfl,Nat.le_refl _,heap_alloc_new w.drew _,Nat.zero_le _,hle,hRl,by simp⟩⟩,(Below.refl _ w).drew.alloc (Nat.le_refl _) _⟩
theorem zEi (n:Nat) (hn:n≤1048576):zuK Tryz.prog 157 [.d (.raw (.slice none 0 0)),.d (.raw (.int .i64 n))] 7 58 []:=by
 refine⟨⟨_,Tryz.func157,by decide +kernel,rfl⟩,fun i hi=>by simp at hi,fun F w vs hF hG hl hv=>?_⟩
 match vs,hl with
 | [a,b],_=>
  have h0:=hv 0 (by simp) (by simp)
  have h1:=hv 1 (by simp) (by simp)
  simp only [List.getElem_cons_zero,List.getElem_cons_succ] at h0 h1
  rw [h0.raw_eq,h1.raw_eq]
  refine(ztW n hn w).mono ?_
  rintro e w' ⟨v,rfl,h2,h3⟩
  exact⟨v,[],rfl,h2,fun i hi=>by simp at hi,h3⟩
end
section
open Go Go.RowKit
theorem zqB (ll:List (List (List D))) (q:Nat) (h:q<ll.length):(ll.map fun l=>[D.sl l]).getD q []=[.sl ll[q]]:=by simp [List.getD_eq_getElem?_getD,h]
theorem zjW (ll:List (List (List D))) (q:Nat) (h:q<ll.length):(ll.take (q+1)).flatten=(ll.take q).flatten++ll[q]:=by rw [List.take_succ_eq_append_getElem h,List.flatten_append];simp only [List.flatten_cons,List.flatten_nil,List.append_nil]
theorem zgH (ll:List (List (List D))) (q:Nat):(ll.take q).flatten.length≤ll.flatten.length:=by
 conv=>rhs;rw [← List.take_append_drop q ll]
 simp only [List.flatten_append,List.length_append];omega
abbrev zsj (ll:List (List (List D))) (q:Nat):St:=⟨[(0,.d (.sl (ll.map fun l=>[D.sl l]))),(3,.d (.raw (.int .i64 (ll.take q).flatten.length))),(9,.d (.sl (ll.map fun l=>[D.sl l]))),(10,.d (.raw (.int .i64 ll.length))),(11,.d (.raw (.int .i64 q)))],[],[]⟩
abbrev zsi (ll:List (List (List D))) (q:Nat):St:=⟨[(6,.grow 9001 (ll.take q).flatten),(25,.d (.sl (ll.map fun l=>[D.sl l]))),(26,.d (.raw (.int .i64 ll.length))),(27,.d (.raw (.int .i64 q)))],[],[(9001,some ⟨7,58,(ll.take q).flatten.length,none⟩)]⟩
theorem zzT (ll:List (List (List D))) (hll:ll.length≤1048576) (hb:ll.flatten.length≤1048576) (hf:∀ l ∈ ll,zD 7 l):Con Tryz.prog 96 [.d (.sl (ll.map fun l=>[D.sl l]))] (.d (.sl ll.flatten)):=by
 refine zh Tryz.func96 rfl (by decide +kernel) rfl rfl (by simp [Tryz.ntmps96]) fun A hA=>?_
 rw [Tryz.ntmps96] at hA
 refine goC 400 ?_
 simp only [go_sem,hA,List.length_map]
 refine zd [0,3,9,10,11] [] [] (fun y σ=>∃ q:Nat,q≤ll.length∧y=ll.length - q∧σ=zsj ll q) ll.length ⟨0,by omega,by omega,by(simp only [go_sem,zsj]) <;> rfl⟩ ?_
 rintro y σ ⟨q,hq,rfl,rfl⟩
 refine goC 400 ?_
 by_cases hlt:q<ll.length
 ·have k1:decide ((q:Int)<(ll.length:Int))=true:=decide_eq_true (by omega)
  have h1:=zgH ll q
  have h2:=zgH ll (q+1)
  have h3:=zjW ll q hlt
  have h4:(ll.take (q+1)).flatten.length=(ll.take q).flatten.length+ll[q].length:=by rw [h3,List.length_append]
  have hs:((ll.take q).flatten.length:Int)+(ll[q].length:Int)=((ll.take (q+1)).flatten.length:Int):=by omega
  have k2:decide (((ll.take (q+1)).flatten.length:Int)<(0:Int))=false:=decide_eq_false (by omega)
  simp only [go_sem,hA,zsj,List.length_map,k1,Int.toNat_natCast,zqB ll q hlt,hs,k2]
  exact⟨⟨by omega,by omega⟩,by unfold zc;omega,by unfold zc;omega,ll.length - (q+1),by omega,q+1,by omega,rfl,rfl⟩
 have k1:decide ((q:Int)<(ll.length:Int))=false:=decide_eq_false (by omega)
 obtain rfl:q=ll.length:=by omega
 simp only [go_sem,hA,zsj,k1,List.take_length]
 refine ztZ 400 (zEi ll.flatten.length hb) rfl rfl (by simp only [go_sem]) (by simp only [go_sem]) rfl (by simp only [go_sem,hA]) (by simp only [go_sem]) ?_
 simp only [go_sem,hA,List.length_map]
 refine zd [6,25,26,27] [] [9001] (fun y σ=>∃ q:Nat,q≤ll.length∧y=ll.length - q∧σ=zsi ll q) ll.length ⟨0,by omega,by omega,by(simp only [go_sem,zsi]) <;> rfl⟩ ?_
 clear hlt k1 hq
 rintro y σ ⟨q,hq,rfl,rfl⟩
 refine goC 400 ?_
 by_cases hlt:q<ll.length
 ·have k1:decide ((q:Int)<(ll.length:Int))=true:=decide_eq_true (by omega)
  have h1:=zgH ll q
  have h2:=zgH ll (q+1)
  have h3:=zjW ll q hlt
  have h4:(ll.take (q+1)).flatten.length=(ll.take q).flatten.length+ll[q].length:=by rw [h3,List.length_append]
  simp only [go_sem,hA,zsi,List.length_map,k1,Int.toNat_natCast,zqB ll q hlt]
  exact⟨⟨by omega,by omega⟩,⟨hf _ (List.getElem_mem hlt),fun r hr=>by
   obtain⟨l,hl,hr⟩:=List.mem_flatten.1 hr
   exact(hf l (List.mem_of_mem_take hl) r hr).1,by omega⟩,by unfold zc;omega,ll.length - (q+1),by omega,q+1,by omega,rfl,by rw [h3,List.length_append];rfl⟩
 have k1:decide ((q:Int)<(ll.length:Int))=false:=decide_eq_false (by omega)
 obtain rfl:q=ll.length:=by omega
 simp only [go_sem,hA,zsi,k1,List.take_length,Tryz.results96]
end
section
open Go Go.RowKit
def zfx {α:Type} (k:Nat) (x y z:α):α:=if k=0 then x else if k=1 then y else z
theorem ztj {α:Type} (k:Nat) (hk:k<3) (x y z d:α):[x,y,z].getD k d=zfx k x y z:=by
 match k,hk with
 | 0,_=>rfl
 | 1,_=>rfl
 | 2,_=>rfl
theorem zpO {α β:Type} (f:α→β) (k:Nat) (x y z:α):zfx k (f x) (f y) (f z)=f (zfx k x y z):=by
 unfold zfx
 split
 ·rfl
 ·split <;> rfl
def zfp (c:Tc) (k:Nat):Bool:=zfx k c.inL c.inB c.inR
def zal (c:Tc) (k:Nat):ByteArray:=zfx k c.left c.base c.right
def zeF (l:List Fl) (i:Nat) (x:Fl):List Fl:=l.take i++x :: l.drop i
theorem zzy (l:List Fl) (i:Nat) (x:Fl):zbC (zy l) i (zpq x)=zy (zeF l i x):=by simp [zbC,zeF,zy,List.map_take,List.map_drop]
def zaD (path:ByteArray) (x:Tc):Bool:=decide (x.path=path)
def zis (m:Mg) (path:ByteArray) (a k:Nat):Mg:=
 ⟨m.ms,if zfp (atC m.ts a) k=true then zeF m.fs (zbu m.fs path) ⟨path,zal (atC m.ts a) k⟩ else m.fs,m.ts.take a++m.ts.drop (a+1)⟩
theorem zyZ (l:List Fl) (s:ByteArray):zbu l s≤l.length:=(zwM (zgz l s) l.length 0 l.length (Nat.zero_le _)).2
theorem zCs (x:Tc) (path:ByteArray):Con Tryz.prog 95 [avC x,.at_ [.raw (.string path)]] (.d (.raw (.bool (zaD path x)))):=by
 refine zh Tryz.func95 rfl (by decide +kernel) rfl rfl (by simp [Tryz.ntmps95]) fun A hA=>?_
 rw [Tryz.ntmps95] at hA
 refine goC 400 ?_
 simp only [go_sem,hA,avC,zaD,Tryz.results95]
theorem zse (m:Mg) (path:ByteArray) (k a:Nat) (hk:k<3) (ha:a<m.ts.length) (hix:ixF (zaD path) m.ts=a) (ht:m.ts.length≤1048576) (hf:m.fs.length≤1048576) :
  Con Tryz.prog 40 [avG m,.d (.raw (.string path)),.d (.raw (.int .i64 k))] (avG (zis m path a k)):=by
 refine zsb Tryz.func40 rfl (by decide +kernel) rfl rfl (by simp [Tryz.ntmps40]) fun A hA hAX=>?_
 rw [Tryz.ntmps40] at hA
 refine goC 400 ?_
 simp only [go_sem,hA,avG]
 refine zBM 1 ?_
 simp only [go_sem]
 refine zb 400 (zBy m.ts 95 [.at_ [.raw (.string path)]] (zaD path) rfl rfl ht fun x _=>zCs x path) rfl (by simp only [go_sem]) (by simp only [go_sem,hA]) ?_
 have hat:=zcY m.ts a ha
 have hin:zc ((a:Int)+1):=by unfold zc;omega
 have hn1:((a:Int)+1).toNat=a+1:=by omega
 have htk:(zac m.ts).take m.ts.length=zac m.ts:=List.take_of_length_le (by rw [zn];exact Nat.le_refl _)
 have hrow:∀ r ∈ zac m.ts,r.length=7:=fun r hr=>(zfN m.ts r hr).1
 have hcc:=zzT [(zac m.ts).take a,(zac m.ts).drop (a+1)] (by simp) (by simp [zn];omega) (by
  intro l hl
  simp at hl
  rcases hl with rfl | rfl
  ·exact fun r hr=>zfN m.ts r (List.mem_of_mem_take hr)
  ·exact fun r hr=>zfN m.ts r (List.mem_of_mem_drop hr))
 have hfl:[(zac m.ts).take a,(zac m.ts).drop (a+1)].flatten=zac (m.ts.take a++m.ts.drop (a+1)):=by simp [zac,List.map_take,List.map_drop]
 rw [hfl] at hcc
 have hp1:[[D.raw (Value.bool m.ts[a].inL)],[D.raw (Value.bool m.ts[a].inB)],[D.raw (Value.bool m.ts[a].inR)]].getD k []=[D.raw (Value.bool (zfp m.ts[a] k))]:=by
  rw [ztj k hk];exact zpO (fun b=>[D.raw (Value.bool b)]) k _ _ _
 have hp2:[[D.raw (Value.string m.ts[a].left)],[D.raw (Value.string m.ts[a].base)],[D.raw (Value.string m.ts[a].right)]].getD k []=[D.raw (Value.string (zal m.ts[a] k))]:=by
  rw [ztj k hk];exact zpO (fun b=>[D.raw (Value.string b)]) k _ _ _
 simp only [go_sem,hA,hix,zn,Int.toNat_natCast,zaO m.ts a ha,zfj,mixed,hn1,htk]
 refine⟨⟨by omega,by omega⟩,⟨hrow,by omega,by omega⟩,hin,⟨hrow,by omega,by omega,by omega⟩,?_⟩
 refine zbO 400 hcc rfl (by simp only [go_sem,List.map]) (by simp only [go_sem,hA]) ?_
 simp only [go_sem,hA,Int.toNat_natCast,hp1]
 refine⟨by show chk _ _ _=true;kernel_rfl,⟨by omega,by omega⟩,?_⟩
 have hr:zis m path a k=⟨m.ms,if zfp m.ts[a] k=true then zeF m.fs (zbu m.fs path) ⟨path,zal m.ts[a] k⟩ else m.fs,m.ts.take a++m.ts.drop (a+1)⟩:=by unfold zis;rw [hat]
 cases hb:zfp m.ts[a] k with
 | false=>
  rw [hb,if_neg (by simp)] at hr
  simp only [go_sem,hA,hr,Tryz.results40]
 | true=>
  rw [hb,if_pos rfl] at hr
  simp only [go_sem,hA]
  refine zb 400 (zwD m.fs path hf) rfl (by simp only [go_sem]) (by simp only [go_sem,hA]) ?_
  simp only [go_sem,hA,Int.toNat_natCast,hp2,mixed]
  refine⟨⟨by omega,by omega⟩,by show chk _ _ _=true;kernel_rfl,?_⟩
  refine zBO 400 (zCn m.fs hf) rfl rfl (by simp only [go_sem]) (by simp only [go_sem]) (by simp only [go_sem,hA]) (by simp only [go_sem]) ?_
  simp only [go_sem,hA,ze]
  have hpl:=zyZ m.fs path
  refine zFz 10 (r:=8002) (r2:=8005) (ver:=0) (rows:=zy m.fs) (row:=zpq ⟨path,zal m.ts[a] k⟩) (k:=zbu m.fs path) zFv rfl rfl (by simp only [go_sem]) rfl (by simp only [go_sem,ze]) (by simp only [go_sem] <;> rfl) (by simp only [go_sem]) (by rw [ze];exact hpl) (by simp only [go_sem,zpq]) (by simp only [go_sem] <;> rfl) (by decide) (zhT _) (zhT [⟨path,zal m.ts[a] k⟩]) (by rw [ze];exact hf) (by simp only [go_sem,hA]) (by decide) ?_
  rw [zzy]
  simp only [go_sem,hA,ze]
  refine⟨by show chk _ _ _=true;kernel_rfl,?_⟩
  refine zlh hAX.2 8002 0 1 (rows:=zy (zeF m.fs (zbu m.fs path) ⟨path,zal m.ts[a] k⟩)) (by simp only [go_sem] <;> rfl) rfl (by simp only [go_sem] <;> rfl) (by rw [ze]) ?_
  refine goC 400 ?_
  simp only [go_sem,hA,hr,Tryz.results40]
end
section
open Go Go.RowKit
def zbz:Mg:=⟨[],[],[]⟩
def zbD (label:ByteArray) (x:Mo):Bool:=decide (x.label=label)
structure Mg.Good (m:Mg):Prop where
 fine:m.Fine
 tl:m.ts.length≤1048576
 dl:∀ x ∈ m.ms,x.decls.length≤1048576
def zlp (m:Mg) (a:Nat) (x:Mo):Mg:=⟨m.ms.set a x,m.fs,m.ts⟩
def zaL (m:Mg) (s:Sq) (k:Nat):Mg × Int:=
 if s.kind=5 then (zis m s.label (m.ts.findIdx (zaD s.label)) k,0)
 else if (zcI (atM m.ms (m.ms.findIdx (zbD s.label))) s k).2=0 then (zlp m (m.ms.findIdx (zbD s.label)) (zcI (atM m.ms (m.ms.findIdx (zbD s.label))) s k).1,0)
 else (zbz,(zcI (atM m.ms (m.ms.findIdx (zbD s.label))) s k).2)
def zGu:Sq:=⟨⟨#[]⟩,0,0,0⟩
def atQ (l:List Sq) (i:Nat):Sq:=l.getD i zGu
theorem zsk (l:List Sq) (i:Nat) (h:i<l.length):atQ l i=l[i]:=by simp [atQ,List.getD_eq_getElem?_getD,h]
def zaT (m:Mg) (i side:Int):Mg × Int:=
 if ¬ zw m=0 then (zbz,zw m)
 else if i<0∨((zK m).length:Int)≤i∨side<0∨2<side then (zbz,2)
 else if ¬ (zaL m (atQ (zK m) i.toNat) side.toNat).2=0 then (zbz,(zaL m (atQ (zK m) i.toNat) side.toNat).2)
 else if ¬ zw (zaL m (atQ (zK m) i.toNat) side.toNat).1=0 then (zbz,zw (zaL m (atQ (zK m) i.toNat) side.toNat).1)
 else ((zaL m (atQ (zK m) i.toNat) side.toNat).1,0)
theorem zEA (x:Mo) (s:Sq):Con Tryz.prog 42 [avM x,.at_ (zic s)] (.d (.raw (.bool (zbD s.label x)))):=by
 refine zh Tryz.func42 rfl (by decide +kernel) rfl rfl (by simp [Tryz.ntmps42]) fun A hA=>?_
 rw [Tryz.ntmps42] at hA
 refine goC 400 ?_
 simp only [go_sem,hA,avM,zic,spR,zbD,Tryz.results42]
theorem zrO {α:Type} {p:α→Bool} {l:List α} (h:l.any p=true):ixF p l=(l.findIdx p:Int)∧l.findIdx p<l.length:=by
 unfold ixF
 rw [h]
 refine⟨rfl,?_⟩
 obtain⟨x,hx,hp⟩:=List.any_eq_true.1 h
 exact List.findIdx_lt_length_of_exists ⟨x,hx,hp⟩
theorem zsv {m:Mg} {s:Sq} (h:s ∈ zK m) (hk:s.kind=5):m.ts.any (zaD s.label)=true:=by
 rcases List.mem_append.1 h with h | h
 ·obtain⟨x,_,hx⟩:=List.mem_flatMap.1 h
  unfold zbQ at hx
  split at hx
  ·obtain⟨d,_,_,_,hs⟩:=zfP hx
   omega
  ·cases hx
 ·obtain⟨x,hx,rfl⟩:=List.mem_map.1 h
  exact List.any_eq_true.2 ⟨x,hx,by simp [zaD]⟩
theorem zxF {m:Mg} {s:Sq} (h:s ∈ zK m) (hk:¬ s.kind=5):m.ms.any (zbD s.label)=true:=by
 rcases List.mem_append.1 h with h | h
 ·obtain⟨x,hxm,hx⟩:=List.mem_flatMap.1 h
  unfold zbQ at hx
  split at hx
  ·obtain⟨d,_,hl,_⟩:=zfP hx
   exact List.any_eq_true.2 ⟨x,hxm,by simp [zbD,hl]⟩
  ·cases hx
 ·obtain⟨x,hx,rfl⟩:=List.mem_map.1 h
  exact absurd rfl hk
theorem zxD {m:Mg} (h:zw m=0):∀ x ∈ m.ms,zN x=0:=fun x hx=>by
 obtain⟨i,hi,rfl⟩:=List.mem_iff_getElem.1 hx
 unfold zw at h
 split at h
 ·exact absurd h (by assumption)
 rename_i h1
 have h2:=zbH (Classical.not_not.1 h1) i hi
 unfold zgS at h2
 rw [zbR m.ms i hi] at h2
 split at h2
 ·exact absurd h2 (by assumption)
 ·rename_i h3;exact Classical.not_not.1 h3
end
end Go.Proofs.YtpnjjmcimjlfkaaGreatDoor
