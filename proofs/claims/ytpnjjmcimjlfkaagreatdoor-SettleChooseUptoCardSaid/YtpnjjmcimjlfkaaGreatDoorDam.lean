/- Texts of this proof, part 13: what the proof uses of them. -/
import Derived.Test.YtpnjjmcimjlfkaaGreatDoorDak
import Derived.Test.YtpnjjmcimjlfkaaGreatDoorDal
import Derived.Test.YtpnjjmcimjlfkaaGreatDoorDaf
import Derived.Shelf.Strings.Builder1
import Derived.Shelf.Small.Strs
import Derived.Shelf.Small.Wraps
import Derived.Shelf.Strings.BuilderF
import Derived.Shelf.Strings.BuilderK
import Derived.Shelf.Strconv.Itoa0
import Derived.Shelf.Strconv.Itoa1
import Derived.Shelf.LaysM
import Derived.Shelf.Strconv.Itoa2
import Derived.Shelf.Strconv.Itoa3
import Derived.Shelf.Strings.Search1
import Derived.Shelf.Strings.Search2
import Derived.Shelf.Strings.Search3
import Derived.Shelf.Strings.Shaped
import Derived.Shelf.Sort.Plain
import Derived.Shelf.Strings.LastIndex
import Derived.Shelf.Strings.Prefix
import Derived.Shelf.Unicode.DecodeSlow
import Derived.Shelf.Strings.BuilderCap
import Derived.Shelf.Slices.Turned
import Derived.Ground.Names2Prog
import Derived.Shelf.Slices.Clone
import Derived.Shelf.Slices.In.SortNone
import Derived.Ground.SlgnProg
import Derived.Shelf.SlicesE.Clone
import Derived.Test.YtpnjjmcimjlfkaaGreatDoorProg
set_option maxRecDepth 100000
set_option maxHeartbeats 64000000
namespace Go.Proofs.YtpnjjmcimjlfkaaGreatDoor
section
open Go Go.RowKit Go.Shelf
attribute [local go_sem] Oper.semAt_some
structure CnFrame (w:World) (E:Array Value) (T:TypeId) (x:Value) (W:World):Prop where
 e:W.heap[w.heap.size]? = some (.cells E 105 (0,0))
 c:W.heap[w.heap.size+1]? = some (.cells #[x] T (0,0))
 size:w.heap.size+1+1+1≤W.heap.size
 below:Below w.heap.size w W
theorem CnFrame.grown {w:World} {E:Array Value} {T:TypeId} {x:Value} {A B:World} {row:Option Nat} (h:CnFrame w E T x A) (hg:A.grownBy B row) (hr:∀ r,row=some r→w.heap.size≤r∧∃ o:Obj,A.heap[r]? = some o∧o.isCells=false):CnFrame w E T x B:=
 have hr':=fun r e=>(hr r e).2
 ⟨(grownBy_keeps_cells hg hr' h.e rfl).trans h.e,(grownBy_keeps_cells hg hr' h.c rfl).trans h.c,Nat.le_trans h.size hg.size,h.below.trans ((Below.refl _ _).grown hg (by have:=h.size;omega) (fun k e=>(hr k e).1))⟩
theorem CnFrame.step {w:World} {E:Array Value} {T:TypeId} {x:Value} {A B:World} {base:Nat} (h:CnFrame w E T x A) (hs:ItStep base A B) (hb:w.heap.size+1+1+1≤base):CnFrame w E T x B:=
 ⟨(hs.below.block _ (by omega)).trans h.e,(hs.below.block _ (by omega)).trans h.c,Nat.le_trans h.size hs.others.size,h.below.trans (hs.below.mono (by omega))⟩
theorem CnFrame.set {w:World} {E:Array Value} {T:TypeId} {x:Value} {A:World} (h:CnFrame w E T x A) (y:Value):CnFrame w E T y (A.setCell ⟨w.heap.size+1,0,none⟩ y):=
 ⟨(Below.heap_setCell _ _ _ _ (by simp)).trans h.e,one_setCell h.c,by simpa [World.setCell] using h.size,h.below.setCell (p:=⟨w.heap.size+1,0,none⟩) (by simp) _⟩
theorem zCk (w:World) (t1 T:TypeId) (E:Array Value) (x:Value) (V:World) (hV:((w.alloc (.cells E t1)).alloc (.cells #[x] T)).alloc (.cells E t1)=V) (h1:t1=105:=by rfl) :
  CnFrame w E T x V∧V.heap[w.heap.size+1+1]? = some (.cells E t1 (0,0))∧V.heap.size=w.heap.size+1+1+1:=by
 subst h1
 have q1:=World.alloc_heap_new w (.cells E 105)
 have q2:=World.alloc_heap_new (w.alloc (.cells E 105)) (.cells #[x] T)
 have q3:=World.alloc_heap_new ((w.alloc (.cells E 105)).alloc (.cells #[x] T)) (.cells E 105)
 simp only [World.size_alloc] at q2 q3
 rw [hV] at q3
 refine⟨⟨?_,?_,?_,?_⟩,q3,?_⟩ <;> rw [← hV]
 ·exact(Below.heap_alloc _ _ _ (by simp <;> omega)).trans ((Below.heap_alloc _ _ _ (by simp)).trans q1)
 ·exact(Below.heap_alloc _ _ _ (by simp)).trans q2
 ·simp
 ·exact(((Below.refl _ w).alloc (Nat.le_refl _) _).alloc (by simp) _).alloc (by simp;omega) _
 ·simp
mutual
theorem ziQ (k:Int):∀ (d:Nat) (t:Ex),zbd k t=(zdZ d t).any fun x=>decide (x.2.kind=k)
 | d,.mk k' n m i dn s=>by
  rw [zdZ,zbd,List.any_cons,zob k (d+1) s];rfl
theorem zob (k:Int):∀ (d:Nat) (l:List Ex),zbM k l=(zdw d l).any fun x=>decide (x.2.kind=k)
 | d,[]=>by simp [zbM,zdw]
 | d,e :: es=>by rw [zbM,zdw,List.any_append,ziQ k d e,zob k d es]
end
def zFg (pre:List ItN):Prop:=∀ x ∈ pre,x.2.1.kind≠5
theorem zzl {t:Ex} {xs:List ItN} (h:zeP t xs) (hn:zFg xs):zbd 5 t=false:=by
 rw [ziQ 5 1,← (show _=_ from h),List.any_eq_false]
 intro x hx
 obtain⟨y,hy,rfl⟩:=List.mem_map.1 hx
 exact fun h=>hn y hy (of_decide_eq_true h)
theorem zDH {t:Ex} {xs:List ItN} (h:zeO t xs) (hn:∃ x ∈ xs,x.2.1.kind=5):zbd 5 t=true:=by
 obtain⟨x,hx,hk⟩:=hn
 rw [ziQ 5 1,List.any_eq_true]
 exact⟨zcd x,h.subset (List.mem_map_of_mem hx),decide_eq_true hk⟩
def Hr1 (w:World) (E:Array Value) (pre:List (ItN)) (W:World):Prop:=CnFrame w E 4 (.bool false) W∧zFg pre
def zGo (w:World) (E:Array Value) (c:Code) (pre:List (ItN)) (W:World):Prop:=c = .ret∧CnFrame w E 4 (.bool true) W∧∃ x ∈ pre,x.2.1.kind=5
theorem zEe (w:World) (E:Array Value) (B:Nat) (hB:w.heap.size≤B):OwnFrom B (Hr1 w E):=fun _ _ _ _ hs hg hr=>⟨hs.1.grown hg (fun r e=>⟨by have:=(hr r e).1;omega,(hr r e).2⟩),hs.2⟩
theorem zBG (w:World) (E:Array Value) (c:Code) (B:Nat) (hB:w.heap.size≤B):OwnFrom B (zGo w E c):=fun _ _ _ _ hs hg hr=>⟨hs.1,hs.2.1.grown hg (fun r e=>⟨by have:=(hr r e).1;omega,(hr r e).2⟩),hs.2.2⟩
theorem zsM (k:Int) (nm mr:ByteArray) (it d:Int) (sub:List Ex) (sv:Value) (w:World) (hm:nodesL sub≤1048576) (hs:zbb w w.heap.size sub sv) :
  Calls Tryz.prog 214 #[.agg #[.int .i64 k,.string nm,.string mr,.int .i64 it,.int .i64 d,sv]] w fun e w'=>e = .returned (.bool (zbd 5 (.mk k nm mr it d sub)))∧Below w.heap.size w w':=by
 obtain⟨p,cap,rfl,hcap,_⟩:=zcE hs
 refine(callsIn_wide (n:=4)).1 ?_
 refine callsIn_of_wp_marks Tryz.func214 rfl trivial ?_ rfl
 simp only [Tryz.ntmps214,List.size_toArray,List.length_cons,List.length_nil,Nat.reduceAdd,Nat.reduceSub,Array.replicate_succ,Array.replicate_zero,List.push_toArray,List.append_toArray,List.nil_append,List.cons_append]
 gi_wp2_with (first | (refine⟨trivial,?_⟩;gi_at_call 215;refine(callsIn_wide.2 (ziB _ _ _ _ _ _ _ _ _)).mono ?_;rintro e w' ⟨rfl,rfl⟩))
 have HS:=Lib.hid hs
 obtain⟨V,hV⟩:∃ V,(((w.alloc (Obj.cells #[.int .i64 k,.string nm,.string mr,.int .i64 it,.int .i64 d,.slice p sub.length cap] 105)).alloc (Obj.cells #[Value.bool false] 4)).alloc (Obj.cells #[.int .i64 k,.string nm,.string mr,.int .i64 it,.int .i64 d,.slice p sub.length cap] 105))=V:=⟨_,rfl⟩
 obtain⟨hF,hb4,hz⟩:=zCk w 105 4 #[.int .i64 k,.string nm,.string mr,.int .i64 it,.int .i64 d,.slice p sub.length cap] (.bool false) V hV
 rw [hV]
 clear hV hs
 refine zfo (P:=Tryz.prog) (F:=Fence.wide) (n:=4) rfl (by omega) (gf:=258) (lb:=#[.pointer (some ⟨w.heap.size+1+1,0,none⟩)]) rfl trivial (enters_of Tryz.func258 (by kernel_rfl) rfl)
  (encs:=fun x:ItN=>#[.int .i64 x.1,ziZ x]) (Kp:=KeepOut w.heap.size (w.heap.size+1+1)) (R:=ItStep (V.heap.size+1+1)) (X:=fun _ x=>zkc w w.heap.size x.2.1 (ziZ x))
  (S:=zeP (.mk k nm mr it d sub)) (Sp:=zeO (.mk k nm mr it d sub))
  (fun r l J Jx hJ _ hY hJ0=>zkx 3 l (w.heap.size+1+1) w.heap.size (w.heap.size+1+1) (by omega) k nm mr it d sub p cap w _ HS.out (zfd ((hF.below.alloc (by omega) _).alloc (by simp;omega) _)) (by omega) (Nat.le_refl _)
   ((Below.heap_alloc _ _ _ (by simp;omega)).trans ((Below.heap_alloc _ _ _ (by omega)).trans hb4)) hm J Jx (fun pre A B h1 h2=>hJ pre A B h1 (by simpa using h2)) hY hJ0)
  (fun h1 h2=>h1.trans h2) (fun W l o o' _ hl ho=>KeepOut.putObj W l o o' hl ho) (fun h=>h.others.from _) (fun _=>rfl)
  (Hr1 w #[.int .i64 k,.string nm,.string mr,.int .i64 it,.int .i64 d,.slice p sub.length cap]) (zGo w #[.int .i64 k,.string nm,.string mr,.int .i64 it,.int .i64 d,.slice p sub.length cap]) (zEe w _ _ (by omega)) (fun c=>zBG w _ c _ (by omega))
  (fun pre A B h hs=>⟨CnFrame.step h.1 hs (by omega),h.2⟩) (fun c pre A B h hs=>⟨h.1,CnFrame.step h.2.1 hs (by omega),h.2.2⟩) ⟨hF,by intro x hx;cases hx⟩
  (fun x b=>{ tmps:=#[Value.agg #[.int .i64 k,.string nm,.string mr,.int .i64 it,.int .i64 d,.slice p sub.length cap],Value.pointer (some { block:=w.heap.size,off:=0 }),Value.pointer (some { block:=w.heap.size+1,off:=0 }),undef,Value.pointer (some { block:=b,off:=0 }),
        Value.agg #[.int .i64 k,.string nm,.string mr,.int .i64 it,.int .i64 d,.slice p sub.length cap],Value.func (Fn.func 258) #[] #[Value.pointer (some { block:=w.heap.size+1+1,off:=0 })],Value.int .i64 x.1,ziZ x,undef,undef,undef],defers:=[] })
  (fun x=>.cells #[.int .i64 x.2.1.kind,.string x.2.1.name,.string x.2.1.more,.int .i64 x.2.1.int,.int .i64 x.2.1.den,.slice x.2.2.1 x.2.1.sub.length x.2.2.2] 105) (fun W o=>KeepOut.below ((Below.refl _ _).alloc (Nat.le_refl _) _)) ?assign2 ?body2 ?done2 ?stop2
 case assign2=>
  intro l x W K hK
  gi_wp2
  exact hK
 case body2=>
  rintro l pre x b W5 hI - hbx hbV
  obtain⟨hF5,hno⟩:=hI
  have cr:=cell_of_one hF5.c
  have fr:=free_of_one hF5.c
  have g0:W5.cell? ⟨b,0,none⟩=some (.int .i64 x.2.1.kind):=by simp [World.cell?,hbx]
  have HF5:=Lib.hid hF5
  have HNO:=Lib.hid hno
  have hs5:=hF5.size
  clear hF5 hno hbx
  by_cases hk:x.2.1.kind=5
  ·have hd:decide (x.2.1.kind=5)=true:=decide_eq_true hk
   have hd2:(x.2.1.kind == 5)=true:=by simpa using hk
   have HK:=Lib.hid hk
   clear hk
   gi_wp2_with fail
   exact⟨(KeepsOthers.setCell _ _ _).from _,rfl,HF5.out.set (.bool true),x,by simp,HK.out⟩
  ·have hd:decide (x.2.1.kind=5)=false:=decide_eq_false hk
   have hd2:(x.2.1.kind == 5)=false:=by simpa using hk
   have HK:=Lib.hid hk
   clear hk
   gi_wp2_with fail
   refine⟨KeepsOthers.from (KeepsOthers.refl _) _,KeepOut.below (Below.refl _ _),HF5.out,?_⟩
   intro y hy
   rcases List.mem_append.1 hy with h | h
   ·exact HNO.out y h
   ·simp at h;subst h;exact HK.out
 case done2=>
  rintro D xs W hD hS ⟨hI,hno⟩ hK
  have hl:zbd 5 (.mk k nm mr it d sub)=false:=zzl hS hno
  have c0:=cell_of_one hI.c
  have f0:=free_of_one hI.c
  have HL:=Lib.hid hl
  have HI:=Lib.hid (hI.set (.bool false))
  have HK:=Lib.hid ((KeepsOthers.setCell W ⟨w.heap.size+1,0,none⟩ (.bool false)).same D _ hK rfl)
  clear hl hI hS
  gi_wp2_with fail
  refine⟨by simp,.inl ⟨_,_,rfl,run_takeDeferred HK.out,?_⟩⟩
  have hc5:=cell_kept (cell_of_one HI.out.c) (grownBy_putObj' _ D (.deferred none)) (fun r e=>by cases e;exact⟨_,HK.out,rfl⟩)
  refine⟨.bool false,?_,by rw [HL.out],HI.out.below.trans (belowK_b (w:=w) (Nat.le_refl _) _ D _ _ (by omega) HK.out rfl rfl)⟩
  simp [results,Tryz.f214,go_sem,hc5]
 case stop2=>
  rintro D c pre W hD hpre ⟨rfl,hI,hne⟩ hK
  have hl:=zDH hpre hne
  gi_wp2_with fail
  refine⟨by simp,.inl ⟨_,_,rfl,run_takeDeferred hK,?_⟩⟩
  have hc5:=cell_kept (cell_of_one hI.c) (grownBy_putObj' _ D (.deferred none)) (fun r e=>by cases e;exact⟨_,hK,rfl⟩)
  refine⟨.bool true,?_,by rw [hl],hI.below.trans (belowK_b (w:=w) (Nat.le_refl _) _ D _ _ (by omega) hK rfl rfl)⟩
  simp [results,Tryz.f214,go_sem,hc5]
end
section
open Go Go.RowKit
theorem zyE (a:Ex) (hsz:nodesE a≤1048576):Con Tryz.prog 214 [avE a] (.d (.raw (.bool (zbd 5 a)))):=zoz ⟨_,Tryz.func214,by decide +kernel,rfl⟩ fun x w ha=>by
 obtain⟨ea,ha⟩:=ziY ha
 rw [ea]
 rw [zcs] at hsz
 have h:=zsM a.kind a.name a.more a.int a.den a.sub _ w (by omega) ha
 rw [Ex.eta] at h
 exact h
theorem zDB (s:ByteArray):Con Tryz.prog 257 [.d (.raw (.string s))] (.d (.raw (.bool (zI s)))):=zrZ ⟨_,Tryz.func257,by decide +kernel,rfl⟩ fun w=>zkg s w
theorem zmV (s:ByteArray):Con Tryz.prog 67 [.d (.raw (.string s))] (.d (.raw (.bool (zX s.data.toList)))):=zrZ ⟨_,Tryz.func67,by decide +kernel,rfl⟩ fun w=>zqf s w
end
section
open Go Go.RowKit Go.MapKept
section
variable {P:Program} {A:Base P} {σ:St} {g:Gh} {a:Act} {w:World}
theorem ziR (n:Nat) {all:List Oper} {o:Oper} {rest:List Oper} {i base:Nat} {s:List Itm} {σ':St} {Q:Exit→St→Prop} {x:AV} (hg:zcV A.N all σ o=some true) (h:zO P A o σ σ' x) (hd:zat A.N o=true)
  (hr:go P A n (.ops all rest (i+1) base) s (σ'.put o.dst x) Q):zcy P A (.ops all (o :: rest) i base) s σ Q:=
 zft hg (fun _=>zdn h hd (zR n _ _ _ _ hr)) (fun e=>by cases e) (fun e=>by cases e)
theorem zvZ {o:Oper} {it:Operand} {q r n j:Nat} {seen:List Nat} {tag:Option Nat} {ks:List Value} {cs:List AV} (ho:o.op = .entry it) (hit:σ.eval it = .box q 0) (hq:σ.blk q=some (.iter r n (seen++[j]))) (hr:σ.blk r=some (.map tag ks cs)) (hn:n=ks.length) (h:j<ks.length) (h':j<cs.length) :
  zO P A o σ σ (.tup [.d (.raw ks[j]),cs[j]]):=by
 refine zA fun g a w hk=>?_
 have hie:=hk.eval it
 rw [hit] at hie
 obtain⟨_,c0⟩:=hk.blk q _ hq
 have c0:w.heap[g.m q]? = some (.mapIter (some (g.m r)) n (seen++[j]).toArray n):=c0
 obtain⟨_,_,es,c1,c2,c3,c4,c5⟩:=hk.blk r _ hr
 have hje:j<es.length:=by omega
 have hne:n=es.length:=by omega
 subst hne
 have hborn:∀ i (hi:i<es.length),es[i].born=i:=fun i hi=>(c4 i (by omega) hi).2
 have hpush:(seen++[j]).toArray=seen.toArray.push es[j].born:=by rw [hborn j hje];simp
 have hnd:(es.toArray.toList.map (·.born)).Nodup:=by
  have:es.toArray.toList.map (·.born)=List.range es.length:=by
   apply List.ext_getElem
   ·simp
   ·intro i h1 h2
    simp only [List.getElem_map,List.getElem_range]
    exact hborn i (by simpa using h2)
  rw [this];exact List.nodup_range
 rw [hpush] at c0
 have hrun:=run_entry_at (P:=P) w (g.m q) (g.m r) _ seen.toArray es.toArray es.length es[j] c0 c1 (by simp) hnd
 refine⟨_,by simp only [execOp,ho,hie.box_eq,Sem.run_bind,hrun,Result.andThen_ok,Sem.run_pure],.tup _ [es[j].key,es[j].val] rfl fun i hi hv=>?_⟩
 match i,hi with
 | 0,_=>
  have:=(c4 j h hje).1
  simp only [List.getElem_cons_zero]
  rw [this]
  exact .d (.raw _)
 | 1,_=>exact c5 j h' hje
theorem ztu {o:Oper} {t kt et:TypeId} {p:Operand} {r:Nat} {tag:Option Nat} {ks:List Value} {cs:List AV} (ho:o.op = .call { callee:=.builtin .len,args:=#[p],argTypes:=#[t] }) (ht:P.underlying t=some (.map kt et)) (hp:σ.eval p = .mp r) (hb:σ.blk r=some (.map tag ks cs)) :
  zO P A o σ σ (.d (.raw (.int .i64 ks.length))):=by
 refine zA fun g a w hk=>?_
 have hpe:=hk.eval p
 rw [hp] at hpe
 obtain⟨_,_,es,c1,c2,_⟩:=hk.blk r _ hb
 have hrun:=run_len_map (P:=P) (w:=w) t o.type (g.m r) es.toArray es.length (by simp [ht,Program.mapKeyOf,Program.mapElemOf]) c1
 refine⟨_,?_,.d (.raw _)⟩
 simp only [execOp,ho,resolve,invoke,builtin,Sem.run_bind,Sem.run_pure,Result.andThen_ok,List.map_toArray,List.map_cons,List.map_nil,hpe.mp_eq,hrun]
 simp [goInt,c2]
theorem zrz {o:Oper} {t e:TypeId} {p q:Operand} {n:Nat} {k k':IntKind} {z:Value} {me:Nat} (ho:o.op = .makeSlice t p q) (ht:P.underlying t=some (.slice e)) (hz:zz P e=some z) (hst:z.cells.toList.length=P.cellsOf e)
  (hp:σ.eval p = .d (.raw (.int k 0))) (hq:σ.eval q = .d (.raw (.int k' n))) (hb:P.bytesOf e * n≤281474976710656) (h63:n≤maxLen) (hm:σ.free A me) :
  zO P A o σ (σ.setTok me (some ⟨P.cellsOf e,e,0,none⟩)) (.grow me []):=by
 refine zav fun g a w hk=>?_
 have e1:=hk.eval p
 have e2:=hk.eval q
 rw [hp] at e1
 rw [hq] at e2
 obtain⟨i,hi,hzi⟩:∃ i,P.info? e=some i∧i.zero=some z:=by
  unfold zz at hz
  cases hi:P.info? e with
  | none=>simp [hi] at hz
  | some i=>exact⟨i,rfl,by simpa [hi] using hz⟩
 have hsz:i.size=P.cellsOf e:=by simp [Program.cellsOf,hi]
 have hby:i.bytes=P.bytesOf e:=by simp [Program.bytesOf,hi]
 have hb':(i.bytes:Int) * (n:Int)≤281474976710656:=by
  have h:((P.bytesOf e * n:Nat):Int)≤281474976710656:=by omega
  rw [hby];rwa [Int.natCast_mul] at h
 have h63':=h63
 unfold maxLen at h63'
 have hr:=run_make (P:=P) w t e i z ht hi hzi k k' 0 n (by omega) (by omega) hb' (by omega)
 simp only [Int.toNat_natCast,hsz] at hr
 have hzs:z.cells.size=P.cellsOf e:=by simpa using hst
 obtain⟨g',h1,h2⟩:=hk.newTok (st:=P.cellsOf e) (n:=0) (cap:=n) (ty:=e) (arr:=madeCells z.cells (n * P.cellsOf e)) (rows:=[]) hm rfl (Nat.zero_le _) h63 (by simp [madeCells]) (fun i h=>by simp at h) (fun i h=>by simp at h)
 exact⟨g',_,_,by simp only [execOp,ho,e1.raw_eq,e2.raw_eq,Sem.run_bind,hr,Result.andThen_ok,Sem.run_pure];rfl,h1,h2⟩
end
end
section
open Go Go.RowKit
theorem zuO {n:Nat} {l:List UInt8} (h:zaA n l=true):l.length≤n:=by
 cases l with
 | nil=>simp
 | cons c r=>
  simp only [zaA,Bool.and_eq_true,decide_eq_true_eq] at h
  simp only [List.length_cons]
  exact h.1.1
theorem zwk {s:ByteArray} (h:zI s=true):s.size≤24:=by
 simp only [zI,Bool.and_eq_true] at h
 exact zuO h.1
theorem zuz {k:Int} {n m:ByteArray} {i d:Int} {len:Nat} (h:zaW k n m i d len=0):∃ nn nu ns,zaU k=some (nn,nu,ns)∧zaJ nn nu ns n m i d len=true∧zag k n m (decide (1≤nn)) (decide (2≤nn))=true∧¬ (k=13∧n=m)∧zao k i d=true:=by
 cases hs:zaU k with
 | none=>rw [zhy hs] at h;omega
 | some x=>
  obtain⟨nn,nu,ns⟩:=x
  cases ha:zaJ nn nu ns n m i d len with
  | false=>rw [zG hs ha] at h;omega
  | true=>
   by_cases hn:zi k n m (decide (1≤nn)) (decide (2≤nn))=0
   ·rw [zgD hs ha hn] at h
    refine⟨nn,nu,ns,rfl,ha,?_,?_,?_⟩
    ·cases hb:zag k n m (decide (1≤nn)) (decide (2≤nn)) with
     | true=>rfl
     | false=>simp [zi,hb] at hn
    ·intro e
     unfold zi at hn
     rw [if_pos e] at hn
     split at hn <;> omega
    ·cases hb:zao k i d with
     | true=>rfl
     | false=>simp [zaF,hb] at h
   ·rw [zgE hs ha hn] at h;exact absurd h hn
theorem zoB {k:Int} {n m:ByteArray} {i d:Int} {len:Nat} (h:zaW k n m i d len=0):(k=6→len=1)∧(k=8→len=2)∧(k=13→len=3)∧(k=3→len=0)∧(k=5→len=0):=by
 obtain⟨nn,nu,ns,hs,ha,_⟩:=zuz h
 have hl:len=ns:=by simp only [zaJ,Bool.and_eq_true,decide_eq_true_eq] at ha;exact ha.2
 subst hl
 rcases zdX hs with⟨rfl,e⟩ | ⟨rfl,e⟩ | ⟨rfl,e⟩ | ⟨rfl,e⟩ | ⟨rfl,e⟩ | ⟨rfl,e⟩ | ⟨rfl,e⟩ | ⟨rfl,e⟩ | ⟨rfl,e⟩ | ⟨rfl,e⟩ | ⟨rfl,e⟩ | ⟨rfl,e⟩ | ⟨rfl,e⟩ | ⟨rfl,e⟩ | ⟨rfl,e⟩ <;> cases e <;> simp
theorem zlJ {e:Ex} {es:List Ex} (h:zad (e :: es)=0):zaj e=0∧zad es=0:=by
 rw [zad] at h
 split at h
 ·rename_i h0;exact⟨h0,h⟩
 ·rename_i h0;exact absurd h h0
theorem zqz {k:Int} {n m:ByteArray} {i d:Int} {s:List Ex} (h:zaj (.mk k n m i d s)=0):zaW k n m i d s.length=0∧zad s=0:=by
 by_cases h0:zaW k n m i d s.length=0
 ·rw [zlI h0] at h;exact⟨h0,h⟩
 ·rw [zdj rfl h0] at h;exact absurd h h0
theorem zuy {t:Ex} (h:zB t=0):zaj t=0∧nodesE t≤400∧depthE t≤40:=by
 unfold zB at h
 split at h
 ·omega
 ·exact⟨h,by omega,by omega⟩
theorem zCV {a b:ByteArray} (h:a.data.toList=b.data.toList):a=b:=by
 apply ByteArray.ext;apply Array.ext';exact h
end
section
open Go Go.RowKit
def zaf (l:List ByteArray):Int:=if ¬ l.length=1∧¬ l.length=3 then 1 else if l.any (zM l) then 6 else 0
abbrev zun (l:List ByteArray) (q:Nat):St:=⟨[(0,.d (.sl (zv l))),(13,.d (.sl (zv l))),(14,.d (.raw (.int .i64 l.length))),(15,.d (.raw (.int .i64 q)))],[],[]⟩
theorem zuo (l:List ByteArray):Con Tryz.prog 213 [.d (.sl (zv l))] (.d (.raw (.int .i64 (zaf l)))):=by
 refine zh Tryz.func213 rfl (by decide +kernel) rfl rfl (by simp [Tryz.ntmps213]) fun A hA=>?_
 rw [Tryz.ntmps213] at hA
 refine goC 400 ?_
 by_cases h5:¬ l.length=1∧¬ l.length=3
 ·have g5:(decide ¬ (l.length:Int)=1)=true:=decide_eq_true (by omega)
  have g6:(decide ¬ (l.length:Int)=3)=true:=decide_eq_true (by omega)
  have he:zaf l=1:=by unfold zaf;rw [if_pos h5]
  simp only [go_sem,hA,g5,g6,za,he,Tryz.results213]
 have h6:l.length=1∨(¬ l.length=1∧l.length=3):=by omega
 have he:zaf l=if l.any (zM l) then 6 else 0:=by unfold zaf;rw [if_neg h5]
 rcases h6 with h6 | ⟨h6,h7⟩
 case' inl=>
  have g5:(decide ¬ (l.length:Int)=1)=false:=decide_eq_false (by omega)
  have g7:decide ((l.length:Int)=1)=true:=decide_eq_true (by omega)
  simp only [go_sem,hA,g5,undef,za]
 case' inr=>
  have g5:(decide ¬ (l.length:Int)=1)=true:=decide_eq_true (by omega)
  have g6:(decide ¬ (l.length:Int)=3)=false:=decide_eq_false (by omega)
  have g7:decide ((l.length:Int)=1)=false:=decide_eq_false (by omega)
  simp only [go_sem,hA,g5,g6,za]
 all_goals
  refine zd [0,13,14,15] [] [] (fun y σ=>∃ q:Nat,q≤l.length∧y=l.length - q∧(l.take q).any (zM l)=false∧σ=zun l q) l.length ⟨0,by omega,by omega,rfl,by simp only [go_sem,zun]⟩ ?_
  rintro y σ ⟨q,hq,rfl,hf,rfl⟩
  refine goC 400 ?_
  by_cases hlt:q<l.length
  ·have k1:decide ((q:Int)<(l.length:Int))=true:=decide_eq_true (by omega)
   have hc:=zDB l[q]
   simp only [go_sem,hA,zun,za,k1,Int.toNat_natCast,zF l q hlt]
   refine⟨⟨by omega,by omega⟩,?_⟩
   have hbad:zM l l[q]=true→zaf l=6:=fun h=>by
    rw [he,if_pos]
    rw [List.any_eq_true]
    exact⟨_,List.getElem_mem hlt,h⟩
   have hgood:zM l l[q]=false→(l.take (q+1)).any (zM l)=false:=fun h=>by
    rw [List.take_succ_eq_append_getElem hlt,List.any_append,hf]
    simp [h]
   have g7':decide (l.length=1)=decide ((l.length:Int)=1):=decide_eq_decide.2 (by omega)
   obtain⟨one,g8⟩:∃ one,decide ((l.length:Int)=1)=one:=⟨_,rfl⟩
   rw [g8] at g7'
   cases hn:zI l[q] with
   | true=>
    rw [hn] at hc
    have hb:=hgood (by unfold zM;rw [hn];rfl)
    refine zb 300 hc rfl (by simp only [go_sem]) (by simp only [go_sem,hA]) ?_
    simp only [go_sem,hA,undef]
    exact⟨by unfold zc;omega,l.length - (q+1),by omega,q+1,by omega,rfl,hb,rfl⟩
   | false=>
    rw [hn] at hc
    refine zb 300 hc rfl (by simp only [go_sem]) (by simp only [go_sem,hA]) ?_
    cases one with
    | true=>
     have hb:=hbad (by unfold zM;rw [hn,g7'];rfl)
     simp only [go_sem,hA,za,g8,hb,undef,Tryz.results213]
    | false=>
     by_cases hz:l[q]=⟨#[]⟩
     ·have hb:=hgood (by unfold zM;rw [hn,g7',hz];rfl)
      have k2:decide (¬ l[q]=⟨#[]⟩)=false:=decide_eq_false (fun h=>h hz)
      simp only [go_sem,hA,za,g8,k2]
      exact⟨by unfold zc;omega,l.length - (q+1),by omega,q+1,by omega,rfl,hb,rfl⟩
     ·have hb:=hbad (by unfold zM;rw [hn,g7'];simp [hz])
      have k2:decide (¬ l[q]=⟨#[]⟩)=true:=decide_eq_true hz
      simp only [go_sem,hA,za,g8,k2,hb,Tryz.results213]
  ·have k1:decide ((q:Int)<(l.length:Int))=false:=decide_eq_false (by omega)
   obtain rfl:q=l.length:=by omega
   rw [List.take_length] at hf
   rw [hf] at he
   simp only [go_sem,hA,zun,k1,he,Tryz.results213]
def zaC (x:Dc):Int:=
 if x.id<0∨999999<x.id then 2 else if x.kind<1∨3<x.kind then 9 else if ¬ zaf x.names=0 then zaf x.names else
 if ¬ zB x.body=0 then zB x.body else if zbd 5 x.body then 9 else 0
theorem zDy (x:Dc) (hb:nodesE x.body≤524288):Con Tryz.prog 134 [avD x] (.d (.raw (.int .i64 (zaC x)))):=by
 have cn:=zuo x.names
 have cc:=zcr x.body (by omega)
 have ck:=zyE x.body (by omega)
 refine zh Tryz.func134 rfl (by decide +kernel) rfl rfl (by simp [Tryz.ntmps134]) fun A hA=>?_
 rw [Tryz.ntmps134] at hA
 refine goC 400 ?_
 by_cases h1:x.id<0
 ·have g1:decide (x.id<0)=true:=decide_eq_true h1
  have he:zaC x=2:=by unfold zaC;rw [if_pos (.inl h1)]
  simp only [go_sem,hA,avD,g1,he,undef,Tryz.results134]
 have g1:decide (x.id<0)=false:=decide_eq_false h1
 by_cases h2:999999<x.id
 ·have g2:decide (999999<x.id)=true:=decide_eq_true h2
  have he:zaC x=2:=by unfold zaC;rw [if_pos (.inr h2)]
  simp only [go_sem,hA,avD,g1,g2,he,Tryz.results134]
 have g2:decide (999999<x.id)=false:=decide_eq_false h2
 have hs0:zaC x=if x.kind<1∨3<x.kind then 9 else if ¬ zaf x.names=0 then zaf x.names else if ¬ zB x.body=0 then zB x.body else if zbd 5 x.body then 9 else 0:=by unfold zaC;rw [if_neg (by omega)]
 by_cases h3:x.kind<1∨3<x.kind
 ·have g3:(decide ¬ x.kind=1)=true:=decide_eq_true (by omega)
  have g4:(decide ¬ x.kind=2)=true:=decide_eq_true (by omega)
  have g5:(decide ¬ x.kind=3)=true:=decide_eq_true (by omega)
  rw [if_pos h3] at hs0
  simp only [go_sem,hA,avD,g1,g2,g3,g4,g5,hs0,Tryz.results134]
 rw [if_neg h3] at hs0
 have h4:x.kind=1∨(¬ x.kind=1∧x.kind=2)∨(¬ x.kind=1∧¬ x.kind=2∧x.kind=3):=by omega
 rcases h4 with h4 | ⟨h4,h4'⟩ | ⟨h4,h4',h4''⟩
 case' inl=>
  have g3:(decide ¬ x.kind=1)=false:=decide_eq_false (by omega)
  simp only [go_sem,hA,avD,g1,g2,g3,undef]
 case' inr.inl=>
  have g3:(decide ¬ x.kind=1)=true:=decide_eq_true (by omega)
  have g4:(decide ¬ x.kind=2)=false:=decide_eq_false (by omega)
  simp only [go_sem,hA,avD,g1,g2,g3,g4,undef]
 case' inr.inr=>
  have g3:(decide ¬ x.kind=1)=true:=decide_eq_true (by omega)
  have g4:(decide ¬ x.kind=2)=true:=decide_eq_true (by omega)
  have g5:(decide ¬ x.kind=3)=false:=decide_eq_false (by omega)
  simp only [go_sem,hA,avD,g1,g2,g3,g4,g5]
 all_goals
  refine zb 300 cn rfl (by simp only [go_sem]) (by simp only [go_sem,hA]) ?_
  by_cases hn:zaf x.names=0
  ·rw [if_neg (fun h=>h hn)] at hs0
   have k1:(decide ¬ zaf x.names=0)=false:=decide_eq_false (fun h=>h hn)
   simp only [go_sem,hA,k1]
   refine zb 300 cc rfl (by simp only [go_sem,zl]) (by simp only [go_sem,hA]) ?_
   by_cases hc:zB x.body=0
   ·rw [if_neg (fun h=>h hc)] at hs0
    have k2:(decide ¬ zB x.body=0)=false:=decide_eq_false (fun h=>h hc)
    simp only [go_sem,hA,k2]
    refine zb 300 ck rfl (by simp only [go_sem,zl]) (by simp only [go_sem,hA]) ?_
    cases hk:zbd 5 x.body with
    | true=>
     rw [hk,if_pos rfl] at hs0
     simp only [go_sem,hA,hs0,Tryz.results134]
    | false=>
     rw [hk,if_neg (by decide)] at hs0
     simp only [go_sem,hA,hs0,Tryz.results134]
   ·rw [if_pos hc] at hs0
    have k2:(decide ¬ zB x.body=0)=true:=decide_eq_true hc
    simp only [go_sem,hA,k2,hs0,Tryz.results134]
  ·rw [if_pos hn] at hs0
   have k1:(decide ¬ zaf x.names=0)=true:=decide_eq_true hn
   simp only [go_sem,hA,k1,hs0,Tryz.results134]
end
section
open Go Go.RowKit
def zj (f:Nat→Int):Nat→Int
 | 0=>0
 | n+1=>if zj f n=0 then f n else zj f n
theorem zp {f:Nat→Int} {q:Nat} (h:zj f q=0) (h1:f q=0):zj f (q+1)=0:=by rw [zj,if_pos h,h1]
theorem zx {f:Nat→Int} {q n:Nat} (h:zj f q=0) (hn:q<n) (h1:¬ f q=0):zj f n=f q:=by
 induction n with
 | zero=>omega
 | succ n ih=>
  rw [zj]
  by_cases e:q=n
  ·subst e;rw [if_pos h]
  ·have:=ih (by omega)
   rw [this,if_neg h1]
theorem zgy {f g:Nat→Int}:∀ n:Nat,(∀ i,i<n→f i=g i)→zj f n=zj g n
 | 0,_=>rfl
 | n+1,h=>by rw [zj,zj,zgy n (fun i hi=>h i (by omega)),h n (by omega)]
structure Sr where
 uses:List ByteArray
 decls:List Dc
def zak (l:List Dc):List (List D):=l.map zcW
def avS (x:Sr):AV:=.agg [.d (.sl (zv x.uses)),.d (.sl (zak x.decls))]
theorem zf (l:List Dc):(zak l).length=l.length:=by simp [zak]
theorem zS (l:List Dc) (i:Nat) (h:i<l.length):(zak l).getD i []=zcW l[i]:=by
 simp [zak,List.getD_eq_getElem?_getD,h]
def zia (l:List ByteArray) (q:Nat):Int:=if zX (atB l q).data.toList then (if 0<q∧ltS (atB l (q - 1)) (atB l q)=false then 10 else 0) else 6
def zGv:Dc:=⟨0,0,false,[],false,.mk 0 ⟨#[]⟩ ⟨#[]⟩ 0 0 []⟩
def atD (l:List Dc) (i:Nat):Dc:=l.getD i zGv
theorem zce (l:List Dc) (i:Nat) (h:i<l.length):atD l i=l[i]:=by simp [atD,List.getD_eq_getElem?_getD,h]
theorem zhX (l:List ByteArray) (i:Nat) (h:i<l.length):atB l i=l[i]:=by simp [atB,List.getD_eq_getElem?_getD,h]
def zFa (d:Dc):Option ByteArray:=if d.names.length=1 then some (atB d.names 0) else none
def ztz (l:List Dc):List ByteArray:=l.filterMap zFa
def zfB (l:List Dc) (q:Nat):Bool:=decide (0<q) && decide (¬ (atD l q).id=0) && (decide ((atD l (q - 1)).id=0) || decide ((atD l q).id≤(atD l (q - 1)).id))
def zlG (e:Dc→Int) (l:List Dc) (q:Nat):Int:=
 if ¬ e (atD l q)=0 then e (atD l q) else if zfB l q then 10 else if (atD l q).names.length=1∧zbT (ztz (l.take q)) (atB (atD l q).names 0) then 7 else 0
def zfY (e:Dc→Int) (x:Sr):Int:=
 if 20<x.uses.length then 4 else if ¬ zj (zia x.uses) x.uses.length=0 then zj (zia x.uses) x.uses.length else if 100<x.decls.length then 4 else zj (zlG e x.decls) x.decls.length
theorem zpS (l:List Dc) (q:Nat) (h:q<l.length):ztz (l.take (q+1))=ztz (l.take q)++(if (atD l q).names.length=1 then [atB (atD l q).names 0] else []):=by
 rw [List.take_succ_eq_append_getElem h,ztz,List.filterMap_append,zce l q h]
 congr 1
 simp only [List.filterMap_cons,List.filterMap_nil,zFa]
 split <;> rename_i h1 <;> split at h1 <;> simp_all
theorem zqg (a:List ByteArray) (n:ByteArray):zax (a++[n])=zax a++[.string n]:=by simp [zax]
theorem zmz (a:List ByteArray) (n:ByteArray):zar (a++[n])=zar a++[.d (.raw (.bool true))]:=by
 simp only [zar,List.length_append,List.length_cons,List.length_nil,Nat.zero_add,List.replicate_succ']
theorem zkJ {fs:List ByteArray} {s:ByteArray} (h:zbT fs s=false):zbi (.string s) (zax fs)=none:=by
 have:=zdH s fs
 rw [h] at this
 simpa using this
theorem zkI {fs:List ByteArray} {s:ByteArray} (h:zbT fs s=true):∃ j,zbi (.string s) (zax fs)=some j∧(zar fs)[j]? = some (.d (.raw (.bool true))):=by
 have h1:=zdH s fs
 rw [h] at h1
 obtain⟨j,hj⟩:=Option.isSome_iff_exists.1 h1
 refine⟨j,hj,?_⟩
 have:=zkK s fs j hj
 simp [zar,this]
abbrev zus (x:Sr) (q:Nat):St:=⟨[(1,.box 0 0),(14,.d (.sl (zv x.uses))),(15,.d (.raw (.int .i64 x.uses.length))),(16,.d (.raw (.int .i64 q)))],[(0,some (.cell 101 [.d (.sl (zv x.uses)),.d (.sl (zak x.decls))]))],[]⟩
abbrev zxU (x:Sr) (q:Nat):St:=⟨[(1,.box 0 0),(5,.mp 13000),(43,.d (.sl (zak x.decls))),(44,.d (.raw (.int .i64 x.decls.length))),(45,.d (.raw (.int .i64 q)))],[(0,some (.cell 101 [.d (.sl (zv x.uses)),.d (.sl (zak x.decls))])),(13000,some (.map none (zax (ztz (x.decls.take q))) (zar (ztz (x.decls.take q)))))],[]⟩
theorem zyx (x:Sr) (hb:∀ d ∈ x.decls,nodesE d.body≤524288):Con Tryz.prog 68 [avS x] (.d (.raw (.int .i64 (zfY zaC x)))):=by
 refine zh Tryz.func68 rfl (by decide +kernel) rfl rfl (by simp [Tryz.ntmps68]) fun A hA=>?_
 rw [Tryz.ntmps68] at hA
 refine goC 400 ?_
 by_cases h1:20<x.uses.length
 ·have g1:decide ((20:Int)<(x.uses.length:Int))=true:=decide_eq_true (by omega)
  have he:zfY zaC x=4:=by unfold zfY;rw [if_pos h1]
  simp only [go_sem,hA,avS,za,g1,he,Tryz.results68]
 have g1:decide ((20:Int)<(x.uses.length:Int))=false:=decide_eq_false (by omega)
 have hs0:zfY zaC x=if ¬ zj (zia x.uses) x.uses.length=0 then zj (zia x.uses) x.uses.length else if 100<x.decls.length then 4 else zj (zlG zaC x.decls) x.decls.length:=by unfold zfY;rw [if_neg h1]
 simp only [go_sem,hA,avS,za,g1]
 refine zd [1,14,15,16] [0] [] (fun y σ=>∃ q:Nat,q≤x.uses.length∧y=x.uses.length - q∧zj (zia x.uses) q=0∧σ=zus x q) x.uses.length ⟨0,by omega,by omega,rfl,by simp only [go_sem,zus]⟩ ?_
 rintro y σ ⟨q,hq,rfl,hf,rfl⟩
 refine goC 400 ?_
 by_cases hlt:q<x.uses.length
 ·have k1:decide ((q:Int)<(x.uses.length:Int))=true:=decide_eq_true (by omega)
  have hc:=zmV x.uses[q]
  have hat:=zhX x.uses q hlt
  have hhit:∀ e:Int,¬ e=0→zia x.uses q=e→zfY zaC x=e:=fun e h0 h=>by
   have h2:=zx (n:=x.uses.length) hf hlt (by rw [h];exact h0)
   rw [hs0,h2,h,if_pos h0]
  simp only [go_sem,hA,zus,za,k1,Int.toNat_natCast,zF x.uses q hlt]
  refine⟨⟨by omega,by omega⟩,?_⟩
  refine zb 300 hc rfl (by simp only [go_sem]) (by simp only [go_sem,hA]) ?_
  cases hl:zX x.uses[q].data.toList with
  | false=>
   have hr:=hhit 6 (by decide) (by unfold zia;rw [hat,hl];rfl)
   simp only [go_sem,hA,hr,Tryz.results68]
  | true=>
   have hu:zia x.uses q=if 0<q∧ltS (atB x.uses (q - 1)) (atB x.uses q)=false then 10 else 0:=by unfold zia;rw [hat,hl];rfl
   by_cases hq0:0<q
   ·have k2:decide ((0:Int)<(q:Int))=true:=decide_eq_true (by omega)
    have hq1:((q:Int) - 1).toNat=q - 1:=by omega
    have hat1:=zhX x.uses (q - 1) (by omega)
    have hin:zc ((q:Int) - 1):=by unfold zc;omega
    have hw:IntKind.i64.wrap ((q:Int) - 1)=(q:Int) - 1:=zfW hin
    cases hls:ltS x.uses[q - 1] x.uses[q] with
    | false=>
     have hls':Op.bytesLess x.uses[q - 1].data.toList x.uses[q].data.toList=false:=hls
     have hr:=hhit 10 (by decide) (by rw [hu,hat,hat1,if_pos ⟨hq0,hls⟩])
     simp only [go_sem,hA,k2,za,hq1,zF x.uses (q - 1) (by omega),hls',hr,Tryz.results68]
     exact⟨hin,by omega,by omega⟩
    | true=>
     have hls':Op.bytesLess x.uses[q - 1].data.toList x.uses[q].data.toList=true:=hls
     have hz:=zp hf (by rw [hu,hat,hat1,hls,if_neg (by simp)])
     simp only [go_sem,hA,k2,za,hq1,zF x.uses (q - 1) (by omega),hls']
     exact⟨hin,⟨by omega,by omega⟩,by unfold zc;omega,x.uses.length - (q+1),by omega,q+1,by omega,rfl,hz,rfl⟩
   ·have k2:decide ((0:Int)<(q:Int))=false:=decide_eq_false (by omega)
    have hz:=zp hf (by rw [hu,if_neg (fun h=>hq0 h.1)])
    simp only [go_sem,hA,k2,undef]
    exact⟨by unfold zc;omega,x.uses.length - (q+1),by omega,q+1,by omega,rfl,hz,rfl⟩
 have k1:decide ((q:Int)<(x.uses.length:Int))=false:=decide_eq_false (by omega)
 obtain rfl:q=x.uses.length:=by omega
 rw [hf,if_neg (fun h=>h rfl)] at hs0
 by_cases h2:100<x.decls.length
 ·have g2:decide ((100:Int)<(x.decls.length:Int))=true:=decide_eq_true (by omega)
  rw [if_pos h2] at hs0
  simp only [go_sem,hA,zus,zf,k1,g2,hs0,Tryz.results68]
 have g2:decide ((100:Int)<(x.decls.length:Int))=false:=decide_eq_false (by omega)
 rw [if_neg h2] at hs0
 simp only [go_sem,hA,zus,zf,k1,g2]
 refine zd [1,5,43,44,45] [0,13000] [] (fun y σ=>∃ q:Nat,q≤x.decls.length∧y=x.decls.length - q∧zj (zlG zaC x.decls) q=0∧σ=zxU x q) x.decls.length ⟨0,by omega,by omega,rfl,by simp only [go_sem,zxU];rfl⟩ ?_
 rintro y σ ⟨q,hq,rfl,hf2,rfl⟩
 refine goC 400 ?_
 by_cases hlt:q<x.decls.length
 case neg=>
  have k1:decide ((q:Int)<(x.decls.length:Int))=false:=decide_eq_false (by omega)
  obtain rfl:q=x.decls.length:=by omega
  rw [hf2] at hs0
  simp only [go_sem,hA,zxU,k1,hs0,Tryz.results68]
 have k1:decide ((q:Int)<(x.decls.length:Int))=true:=decide_eq_true (by omega)
 have hat:=zce x.decls q hlt
 have hlen:x.decls.length≤100:=by omega
 obtain⟨d,hd⟩:∃ d,x.decls[q]=d:=⟨_,rfl⟩
 rw [hd] at hat
 have hc:=zDy d (hb d (by rw [← hd];exact List.getElem_mem hlt))
 have hhit:∀ e:Int,¬ e=0→zlG zaC x.decls q=e→zfY zaC x=e:=fun e h0 h=>by
  have h2:=zx (n:=x.decls.length) hf2 hlt (by rw [h];exact h0)
  rw [hs0,h2,h]
 simp only [go_sem,hA,zxU,zf,k1,Int.toNat_natCast,zS x.decls q hlt,hd,zcW,zH]
 refine⟨⟨by omega,by omega⟩,?_⟩
 refine zb 300 hc rfl (by simp only [go_sem,avD]) (by simp only [go_sem,hA]) ?_
 by_cases he:zaC d=0
 case neg=>
  have k2:(decide ¬ zaC d=0)=true:=decide_eq_true he
  have hr:=hhit (zaC d) he (by unfold zlG;rw [hat,if_pos he])
  simp only [go_sem,hA,k2,hr,Tryz.results68]
 have k2:(decide ¬ zaC d=0)=false:=decide_eq_false (fun h=>h he)
 have hde:zlG zaC x.decls q=if zfB x.decls q then 10 else if d.names.length=1∧zbT (ztz (x.decls.take q)) (atB d.names 0) then 7 else 0:=by unfold zlG;rw [hat,if_neg (fun h=>h he)]
 have hq1:((q:Int) - 1).toNat=q - 1:=by omega
 have hin:zc ((q:Int) - 1):=by unfold zc;omega
 have hw:IntKind.i64.wrap ((q:Int) - 1)=(q:Int) - 1:=zfW hin
 cases hm:zfB x.decls q with
 | true=>
  have hm':=hm
  simp only [zfB,hat,Bool.and_eq_true,Bool.or_eq_true,decide_eq_true_eq] at hm'
  obtain⟨⟨hq0,hid⟩,hor⟩:=hm'
  have hr:=hhit 10 (by decide) (by rw [hde,hm,if_pos rfl])
  have k3:(decide ¬ d.id=0)=true:=decide_eq_true hid
  have k4:decide ((0:Int)<(q:Int))=true:=decide_eq_true (by omega)
  have hat1:=zce x.decls (q - 1) (by omega)
  rw [hat1] at hor
  by_cases hp:x.decls[q - 1].id=0
  ·have k5:decide (x.decls[q - 1].id=0)=true:=decide_eq_true hp
   simp only [go_sem,hA,k2,k3,k4,zf,hq1,zS x.decls (q - 1) (by omega),zcW,k5,undef,mixed,hr,Tryz.results68]
   exact⟨hin,⟨by omega,by omega⟩,by show chk _ _ _=true;kernel_rfl⟩
  ·have k5:decide (x.decls[q - 1].id=0)=false:=decide_eq_false hp
   have k6:decide (d.id≤x.decls[q - 1].id)=true:=decide_eq_true (by rcases hor with h | h;exact absurd h hp;exact h)
   simp only [go_sem,hA,k2,k3,k4,zf,hq1,zS x.decls (q - 1) (by omega),zcW,k5,k6,mixed,hr,Tryz.results68]
   exact⟨hin,⟨by omega,by omega⟩,hin,⟨by omega,by omega⟩,by show chk _ _ _=true;kernel_rfl⟩
 | false=>
  rw [hm,if_neg (by decide)] at hde
  have hm':d.id=0∨(¬ d.id=0∧¬ 0<q)∨(¬ d.id=0∧0<q∧¬ (atD x.decls (q - 1)).id=0∧¬ d.id≤(atD x.decls (q - 1)).id):=by
   by_cases e1:d.id=0
   ·exact .inl e1
   by_cases e2:0<q
   ·refine .inr (.inr ⟨e1,e2,?_⟩)
    simp only [zfB,hat,decide_eq_true e2,decide_eq_true e1,Bool.true_and,Bool.or_eq_false_iff,decide_eq_false_iff_not] at hm
    exact hm
   ·exact .inr (.inl ⟨e1,e2⟩)
  rcases hm' with e1 | ⟨e1,e2⟩ | ⟨e1,e2,e3,e4⟩
  case' inl=>
   have k3:(decide ¬ d.id=0)=false:=decide_eq_false (fun h=>h e1)
   simp only [go_sem,hA,k2,k3,undef,mixed,za]
  case' inr.inl=>
   have k3:(decide ¬ d.id=0)=true:=decide_eq_true e1
   have k4:decide ((0:Int)<(q:Int))=false:=decide_eq_false (by omega)
   simp only [go_sem,hA,k2,k3,k4,undef,mixed,za]
  case' inr.inr=>
   have k3:(decide ¬ d.id=0)=true:=decide_eq_true e1
   have k4:decide ((0:Int)<(q:Int))=true:=decide_eq_true (by omega)
   have hat1:=zce x.decls (q - 1) (by omega)
   rw [hat1] at e3 e4
   have k5:decide (x.decls[q - 1].id=0)=false:=decide_eq_false e3
   have k6:decide (d.id≤x.decls[q - 1].id)=false:=decide_eq_false e4
   simp only [go_sem,hA,k2,k3,k4,zf,hq1,zS x.decls (q - 1) (by omega),zcW,k5,k6,mixed,za]
   refine⟨hin,⟨by omega,by omega⟩,hin,⟨by omega,by omega⟩,?_⟩
  all_goals
   refine⟨by show chk _ _ _=true;kernel_rfl,?_⟩
   by_cases hl:d.names.length=1
   ·have k7:decide ((d.names.length:Int)=1)=true:=decide_eq_true (by omega)
    cases hh:zbT (ztz (x.decls.take q)) (atB d.names 0) with
    | true=>
     obtain⟨j,hj1,hj2⟩:=zkI hh
     have hr:=hhit 7 (by decide) (by rw [hde,if_pos ⟨hl,hh⟩])
     simp only [go_sem,hA,k7,za,zuk d.names 0 (by omega),hj1,hj2,hr,Tryz.results68]
     exact⟨by omega,zbY _⟩
    | false=>
     have hj:=zkJ hh
     have hz:=zp hf2 (by rw [hde,if_neg (fun h=>by rw [hh] at h;exact Bool.noConfusion h.2)])
     have hone:=zpS x.decls q hlt
     rw [hat,if_pos hl] at hone
     simp only [go_sem,hA,k7,za,zuk d.names 0 (by omega),hj,zH]
     refine⟨by omega,zbY _,by omega,zbY _,by unfold zc;omega,x.decls.length - (q+1),by omega,q+1,by omega,rfl,hz,?_⟩
     rw [hone,zqg,zmz]
     rfl
   ·have k7:decide ((d.names.length:Int)=1)=false:=decide_eq_false (by omega)
    have hz:=zp hf2 (by rw [hde,if_neg (fun h=>hl h.1)])
    have hone:=zpS x.decls q hlt
    rw [hat,if_neg hl,List.append_nil] at hone
    simp only [go_sem,hA,k7]
    exact⟨by unfold zc;omega,x.decls.length - (q+1),by omega,q+1,by omega,rfl,hz,by rw [hone];rfl⟩
end
section
open Go Go.RowKit
variable {A:Base Tryz.prog} {σ:St} {g:Gh} {a:Act} {w:World}
end
section
section
open Go Go.RowKit
theorem zix {e:TypeId} (he:Tryz.prog.underlying e=some .string):∀ rows:List (List D),(∀ i (hi:i<rows.length),Typed Tryz.prog e rows[i])→∃ l:List ByteArray,rows=zv l∧l.length≤zfr rows
 | [],_=>⟨[],rfl,Nat.zero_le _⟩
 | r :: rows,h=>by
  obtain⟨s,hs,_⟩:=zbV (h 0 (by simp)) he
  obtain⟨l,hl,hn⟩:=zix he rows fun i hi=>by have:=h (i+1) (by simpa using hi);simpa using this
  have hs:r=[.raw (.string s)]:=by simpa using hs
  subst hs hl
  refine⟨s :: l,rfl,?_⟩
  simp only [zfr,zaR,D.size,List.length_cons]
  omega
theorem zdd {α:Type} {e:TypeId} {enc:α→List D} {sz:α→Nat} {szL:List α→Nat} (h0:szL []=0) (hc:∀ a l,szL (a :: l)=sz a+szL l) (N:Nat) (ih:∀ ds,zaR ds≤N→Typed Tryz.prog e ds→∃ t,ds=enc t∧sz t≤zaR ds):∀ rows:List (List D),zfr rows≤N→(∀ i (hi:i<rows.length),Typed Tryz.prog e rows[i])→∃ l:List α,rows=l.map enc∧szL l≤zfr rows
 | [],_,_=>⟨[],rfl,by rw [h0];exact Nat.zero_le _⟩
 | r :: rows,hN,h=>by
  simp only [zfr] at hN
  obtain⟨t,ht,hn⟩:=ih r (by omega) (by have:=h 0 (by simp);simpa using this)
  obtain⟨l,hl,hn2⟩:=zdd h0 hc N ih rows (by omega) fun i hi=>by have:=h (i+1) (by simpa using hi);simpa using this
  subst ht hl
  refine⟨t :: l,rfl,?_⟩
  rw [hc]
  simp only [zfr]
  omega
theorem zAq (N:Nat):∀ ds:List D,zaR ds≤N→Typed Tryz.prog 105 ds→∃ t:Ex,ds=zaZ t∧nodesE t≤zaR ds:=by
 induction N with
 | zero=>
  intro ds hN h
  obtain⟨parts,rfl,hl,hp⟩:=zbJ h Tryz.underlying105
  match parts,hl with
  | [p0,p1,p2,p3,p4,p5],_=>
   obtain⟨k,rfl,_⟩:=zej (hp 0 (by decide) (by simp)) Tryz.underlying3
   simp [zaR,D.size] at hN
 | succ N ih=>
  intro ds hN h
  obtain⟨parts,rfl,hl,hp⟩:=zbJ h Tryz.underlying105
  match parts,hl with
  | [p0,p1,p2,p3,p4,p5],_=>
   obtain⟨k,rfl,_⟩:=zej (hp 0 (by decide) (by simp)) Tryz.underlying3
   obtain⟨n,e1,_⟩:=zbV (hp 1 (by decide) (by simp)) Tryz.underlying9
   obtain⟨m,e2,_⟩:=zbV (hp 2 (by decide) (by simp)) Tryz.underlying9
   obtain⟨i,e3,_⟩:=zej (hp 3 (by decide) (by simp)) Tryz.underlying3
   obtain⟨d,e4,_⟩:=zej (hp 4 (by decide) (by simp)) Tryz.underlying3
   obtain⟨rows,e5,hr⟩:=zcg (hp 5 (by decide) (by simp)) Tryz.underlying103
   have e1:p1=[.raw (.string n)]:=e1
   have e2:p2=[.raw (.string m)]:=e2
   have e3:p3=[.raw (.int .i64 i)]:=e3
   have e4:p4=[.raw (.int .i64 d)]:=e4
   have e5:p5=[.sl rows]:=e5
   subst e1 e2 e3 e4 e5
   simp only [List.flatten_cons,List.flatten_nil,List.append_nil,List.cons_append,List.nil_append,zaR,D.size] at hN ⊢
   obtain⟨l,rfl,hn⟩:=zdd (enc:=zaZ) (sz:=nodesE) (szL:=nodesL) rfl (fun _ _=>rfl) N ih rows (by omega) hr
   refine⟨.mk k n m i d l,?_,?_⟩
   ·rw [zaZ,zdI]
   ·rw [nodesE];omega
theorem zuV {ds:List D} (h:Typed Tryz.prog 107 ds):∃ x:Dc,ds=zcW x∧nodesE x.body+x.names.length≤zaR ds:=by
 obtain⟨parts,rfl,hl,hp⟩:=zbJ h Tryz.underlying107
 match parts,hl with
 | [p0,p1,p2,p3,p4,p5],_=>
  obtain⟨id,e0,_⟩:=zej (hp 0 (by decide) (by simp)) Tryz.underlying3
  obtain⟨kind,e1,_⟩:=zej (hp 1 (by decide) (by simp)) Tryz.underlying3
  obtain⟨pub,e2⟩:=zer (hp 2 (by decide) (by simp)) Tryz.underlying4
  obtain⟨rows,e3,hr⟩:=zcg (hp 3 (by decide) (by simp)) Tryz.underlying53
  obtain⟨doubt,e4⟩:=zer (hp 4 (by decide) (by simp)) Tryz.underlying4
  obtain⟨b,e5,hb0⟩:=zAq _ _ (Nat.le_refl _) (hp 5 (by decide) (by simp))
  obtain⟨names,e6,hn⟩:=zix Tryz.underlying9 rows hr
  have e0:p0=[.raw (.int .i64 id)]:=e0
  have e1:p1=[.raw (.int .i64 kind)]:=e1
  have e2:p2=[.raw (.bool pub)]:=e2
  have e3:p3=[.sl rows]:=e3
  have e4:p4=[.raw (.bool doubt)]:=e4
  have e5:p5=zaZ b:=e5
  have hb5:nodesE b≤zaR p5:=hb0
  clear hb0
  rw [e5] at hb5
  subst e0 e1 e2 e3 e4 e5 e6
  refine⟨⟨id,kind,pub,names,doubt,b⟩,?_,?_⟩
  ·simp only [List.flatten_cons,List.flatten_nil,List.append_nil,List.cons_append,List.nil_append,zcW,zbP]
  ·simp only [List.flatten_cons,List.flatten_nil,List.append_nil,List.cons_append,List.nil_append,zaR,D.size,zbP] at hb5 ⊢
   omega
def zhf (l:List Dc):Nat:=(l.map fun x=>nodesE x.body+x.names.length).sum
def zBe:List TypeId:=[3,9,4,105,103,53,107,54,101]
theorem zwh {l:List Dc} {x:Dc} (h:x ∈ l):nodesE x.body+x.names.length≤zhf l:=by
 induction l with
 | nil=>cases h
 | cons y l ih=>
  simp only [zhf,List.map_cons,List.sum_cons]
  rcases List.mem_cons.1 h with rfl | h
  ·omega
  ·have:=ih h
   simp only [zhf] at this
   omega
end
end
end Go.Proofs.YtpnjjmcimjlfkaaGreatDoor
namespace Go.Proofs
open Go.Shelf
def Tryz.lays149_ren:Go.Shelf.Ren:=⟨fun | 149=>144 | 222=>223 | n=>n,fun | 9=>9 | 5=>5 | 3=>3 | 4=>4 | n=>n,fun | n=>n⟩
theorem Tryz.lays149:Go.Proofs.Lays.n149 Tryz.prog Tryz.lays149_ren:={
 mixed:=by kernel_rfl
 f149:=Tryz.func144.trans (congrArg some (by kernel_rfl))
 f222:=Tryz.func223.trans (congrArg some (by kernel_rfl))
 t3:=Tryz.underlying3
 a3:=Tryz.isAgg3
 z3:=Tryz.sizeOf3
 v3:=Tryz.zeroValue3
 t4:=Tryz.underlying4
 a4:=Tryz.isAgg4
 z4:=Tryz.sizeOf4
 v4:=Tryz.zeroValue4
 t5:=Tryz.underlying5
 a5:=Tryz.isAgg5
 z5:=Tryz.sizeOf5
 v5:=Tryz.zeroValue5
 t9:=Tryz.underlying9
 a9:=Tryz.isAgg9
 z9:=Tryz.sizeOf9
 v9:=Tryz.zeroValue9 }
open Go.RowKit Go.Lib in
theorem Tryz.strings_LastIndexByte (s:ByteArray) (c:Int) (hs:s.size<4611686018427387904) (w:World) :
  Calls Tryz.prog 144 #[.string s,.int .u8 c] w fun e w'=>e = .returned (.int .i64 (Lib.lastIndexByte s c))∧w'=w:=Any.strings_LastIndexByte Tryz.lays149 s c hs w
def Tryz.lays190_ren:Go.Shelf.Ren:=⟨fun | 190=>220 | 125=>265 | 258=>264 | 128=>300 | 129=>301 | 302=>291 | 303=>292 | 304=>293 | 305=>294 | 306=>295 | 307=>296 | 308=>297 | 309=>298 | 310=>299 | 333=>328 | 329=>329 | 330=>330 | 334=>331 | 335=>332 | 336=>333 | 344=>342 | n=>n,fun | 31=>53 | 9=>9 | 3=>3 | 46=>180 | 0=>0 | 51=>323 | 53=>40 | 4=>4 | 183=>317 | 182=>316 | 131=>69 | 5=>5 | 218=>349 | 222=>268 | 228=>361 | 229=>362 | n=>n,fun | n=>n⟩
theorem Tryz.lays190:Go.Proofs.Lays.n190 Tryz.prog Tryz.lays190_ren:={
 mixed:=by kernel_rfl
 f125:=Tryz.func265.trans (congrArg some (by kernel_rfl))
 f128:=Tryz.func300.trans (congrArg some (by kernel_rfl))
 f129:=Tryz.func301.trans (congrArg some (by kernel_rfl))
 f190:=Tryz.func220.trans (congrArg some (by kernel_rfl))
 f258:=Tryz.func264.trans (congrArg some (by kernel_rfl))
 f302:=Tryz.func291.trans (congrArg some (by kernel_rfl))
 f303:=Tryz.func292.trans (congrArg some (by kernel_rfl))
 f304:=Tryz.func293.trans (congrArg some (by kernel_rfl))
 f305:=Tryz.func294.trans (congrArg some (by kernel_rfl))
 f306:=Tryz.func295.trans (congrArg some (by kernel_rfl))
 f307:=Tryz.func296.trans (congrArg some (by kernel_rfl))
 f308:=Tryz.func297.trans (congrArg some (by kernel_rfl))
 f309:=Tryz.func298.trans (congrArg some (by kernel_rfl))
 f310:=Tryz.func299.trans (congrArg some (by kernel_rfl))
 f329:=Tryz.func329.trans (congrArg some (by kernel_rfl))
 f330:=Tryz.func330.trans (congrArg some (by kernel_rfl))
 f333:=Tryz.func328.trans (congrArg some (by kernel_rfl))
 f334:=Tryz.func331.trans (congrArg some (by kernel_rfl))
 f335:=Tryz.func332.trans (congrArg some (by kernel_rfl))
 f336:=Tryz.func333.trans (congrArg some (by kernel_rfl))
 f344:=Tryz.func342.trans (congrArg some (by kernel_rfl))
 t0:=Tryz.underlying0
 a0:=Tryz.isAgg0
 z0:=Tryz.sizeOf0
 v0:=Tryz.zeroValue0
 t3:=Tryz.underlying3
 a3:=Tryz.isAgg3
 z3:=Tryz.sizeOf3
 v3:=Tryz.zeroValue3
 t4:=Tryz.underlying4
 a4:=Tryz.isAgg4
 z4:=Tryz.sizeOf4
 v4:=Tryz.zeroValue4
 t5:=Tryz.underlying5
 a5:=Tryz.isAgg5
 z5:=Tryz.sizeOf5
 v5:=Tryz.zeroValue5
 t9:=Tryz.underlying9
 a9:=Tryz.isAgg9
 z9:=Tryz.sizeOf9
 v9:=Tryz.zeroValue9
 t31:=Tryz.underlying53
 a31:=Tryz.isAgg53
 z31:=Tryz.sizeOf53
 v31:=Tryz.zeroValue53
 t46:=Tryz.underlying180
 a46:=Tryz.isAgg180
 z46:=Tryz.sizeOf180
 v46:=Tryz.zeroValue180
 t51:=Tryz.underlying323
 a51:=Tryz.isAgg323
 z51:=Tryz.sizeOf323
 v51:=Tryz.zeroValue323
 t53:=Tryz.underlying40
 a53:=Tryz.isAgg40
 z53:=Tryz.sizeOf40
 v53:=Tryz.zeroValue40
 t131:=Tryz.underlying69
 a131:=Tryz.isAgg69
 z131:=Tryz.sizeOf69
 v131:=Tryz.zeroValue69
 t182:=Tryz.underlying316
 a182:=Tryz.isAgg316
 z182:=Tryz.sizeOf316
 v182:=Tryz.zeroValue316
 t183:=Tryz.underlying317
 a183:=Tryz.isAgg317
 z183:=Tryz.sizeOf317
 v183:=Tryz.zeroValue317
 t218:=Tryz.underlying349
 a218:=Tryz.isAgg349
 z218:=Tryz.sizeOf349
 v218:=Tryz.zeroValue349
 t222:=Tryz.underlying268
 a222:=Tryz.isAgg268
 z222:=Tryz.sizeOf268
 v222:=Tryz.zeroValue268
 t228:=Tryz.underlying361
 a228:=Tryz.isAgg361
 z228:=Tryz.sizeOf361
 v228:=Tryz.zeroValue361
 t229:=Tryz.underlying362
 a229:=Tryz.isAgg362
 z229:=Tryz.sizeOf362
 v229:=Tryz.zeroValue362 }
open Go.Sort Go.RowKit in
theorem Tryz.slices_Sort_string (blk off cap:Nat) (ss:List (List UInt8)) (w:World) (hH:Holds encStr w blk off ss.toArray) (hblk:blk<w.heap.size) (hsz:ss.length<4611686018427387904) :
  Calls Tryz.prog 220 #[.slice (some ⟨blk,off,none⟩) ss.length cap] w fun e w'=>
   e = .returned (.tuple #[])∧∃ n os,w'=grow (putRow encStr (Sort.ahead w n) blk off (ss.mergeSort fun x y=>decide (x≤y)).toArray) os:=Any.slices_Sort_string Tryz.lays190 blk off cap ss w hH hblk hsz
open Go.RowKit Go.Sort in
theorem Tryz.slices_Sort_string_none (p:Option Addr) (cap:Nat) (w:World) :
  Calls Tryz.prog 220 #[.slice p 0 cap] w fun e w'=>e = .returned (.tuple #[])∧w'=w:=Any.slices_Sort_string_none Tryz.lays190 p cap w
def Tryz.lays104_ren:Go.Shelf.Ren:=⟨fun | 104=>75 | 211=>143 | 207=>222 | n=>n,fun | 9=>9 | 4=>4 | 24=>112 | 3=>3 | n=>n,fun | n=>n⟩
theorem Tryz.lays104:Go.Proofs.Lays.n104 Tryz.prog Tryz.lays104_ren:={
 mixed:=by kernel_rfl
 f104:=Tryz.func75.trans (congrArg some (by kernel_rfl))
 f207:=Tryz.func222.trans (congrArg some (by kernel_rfl))
 f211:=Tryz.func143.trans (congrArg some (by kernel_rfl))
 t3:=Tryz.underlying3
 a3:=Tryz.isAgg3
 z3:=Tryz.sizeOf3
 v3:=Tryz.zeroValue3
 t4:=Tryz.underlying4
 a4:=Tryz.isAgg4
 z4:=Tryz.sizeOf4
 v4:=Tryz.zeroValue4
 t9:=Tryz.underlying9
 a9:=Tryz.isAgg9
 z9:=Tryz.sizeOf9
 v9:=Tryz.zeroValue9
 t24:=Tryz.underlying112
 a24:=Tryz.isAgg112
 z24:=Tryz.sizeOf112
 v24:=Tryz.zeroValue112 }
open Go.RowKit in
theorem Tryz.strings_CutSuffix (s p:ByteArray) (w:World) (hs:s.size≤9223372036854775807) :
  Calls Tryz.prog 75 #[.string s,.string p] w fun e w'=>e = .returned (.tuple #[.string ⟨(Lib.trimSuffix s.data.toList p.data.toList).toArray⟩,.bool (Lib.hasSuffix s.data.toList p.data.toList)])∧w'=w:=Any.strings_CutSuffix Tryz.lays104 s p w hs
end Go.Proofs
