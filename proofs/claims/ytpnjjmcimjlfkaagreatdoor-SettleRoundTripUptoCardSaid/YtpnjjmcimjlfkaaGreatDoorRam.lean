/- Texts of this proof, part 13: what the proof uses of them. -/
import Derived.Test.YtpnjjmcimjlfkaaGreatDoorRal
import Derived.Test.YtpnjjmcimjlfkaaGreatDoorRah
import Derived.Shelf.Strings.Builder1
import Derived.Shelf.Small.Strs
import Derived.Shelf.Small.Wraps
import Derived.Shelf.Strings.BuilderF
import Derived.Shelf.Strings.BuilderK
import Derived.Shelf.Strconv.Itoa0
import Derived.Shelf.Strconv.Itoa1
import Derived.Shelf.LaysM
import Derived.Shelf.Strconv.Itoa2
import Derived.Shelf.Strconv.Itoa3
import Derived.Shelf.Strings.Search1
import Derived.Shelf.Strings.Search2
import Derived.Shelf.Strings.Search3
import Derived.Shelf.Strings.Shaped
import Derived.Shelf.Sort.Plain
import Derived.Shelf.Strings.LastIndex
import Derived.Shelf.Strings.Prefix
import Derived.Shelf.Unicode.DecodeSlow
import Derived.Shelf.Strings.BuilderCap
import Derived.Shelf.Slices.Turned
import Derived.Ground.Names2Prog
import Derived.Shelf.Slices.Clone
import Derived.Shelf.Slices.In.SortNone
import Derived.Ground.SlgnProg
import Derived.Shelf.SlicesE.Clone
import Derived.Test.YtpnjjmcimjlfkaaGreatDoorProg
import Derived.Lib.LastIndexByte
set_option maxRecDepth 100000
set_option maxHeartbeats 64000000
namespace Go.Proofs.YtpnjjmcimjlfkaaGreatDoor
section
open Go Go.RowKit Go.Shelf
attribute [local go_sem] Oper.semAt_some
structure CnFrame (w:World) (E:Array Value) (T:TypeId) (x:Value) (W:World):Prop where
 e:W.heap[w.heap.size]? = some (.cells E 105 (0,0))
 c:W.heap[w.heap.size+1]? = some (.cells #[x] T (0,0))
 size:w.heap.size+1+1+1<=W.heap.size
 below:Below w.heap.size w W
theorem CnFrame.grown {w:World} {E:Array Value} {T:TypeId} {x:Value} {A B:World} {row:Option Nat} (h:CnFrame w E T x A) (hg:A.grownBy B row) (hr:∀ r,row=some r->w.heap.size<=r/\∃ o:Obj,A.heap[r]? = some o/\o.isCells=false):CnFrame w E T x B:=
 have hr':=fun r e=>(hr r e).2
 ⟨(grownBy_keeps_cells hg hr' h.e rfl).trans h.e,(grownBy_keeps_cells hg hr' h.c rfl).trans h.c,Nat.le_trans h.size hg.size,h.below.trans ((Below.refl _ _).grown hg (by have:=h.size;omega) (fun k e=>(hr k e).1))⟩
theorem CnFrame.step {w:World} {E:Array Value} {T:TypeId} {x:Value} {A B:World} {base:Nat} (h:CnFrame w E T x A) (hs:ItStep base A B) (hb:w.heap.size+1+1+1<=base):CnFrame w E T x B:=
 ⟨(hs.below.block _ (by omega)).trans h.e,(hs.below.block _ (by omega)).trans h.c,Nat.le_trans h.size hs.others.size,h.below.trans (hs.below.mono (by omega))⟩
theorem CnFrame.set {w:World} {E:Array Value} {T:TypeId} {x:Value} {A:World} (h:CnFrame w E T x A) (y:Value):CnFrame w E T y (A.setCell ⟨w.heap.size+1,0,none⟩ y):=
 ⟨(Below.heap_setCell _ _ _ _ (by simp)).trans h.e,one_setCell h.c,by simpa [World.setCell] using h.size,h.below.setCell (p:=⟨w.heap.size+1,0,none⟩) (by simp) _⟩
theorem zBg (w:World) (t1 T:TypeId) (E:Array Value) (x:Value) (V:World) (hV:((w.alloc (.cells E t1)).alloc (.cells #[x] T)).alloc (.cells E t1)=V) (h1:t1=105:=by rfl) :
  CnFrame w E T x V/\V.heap[w.heap.size+1+1]? = some (.cells E t1 (0,0))/\V.heap.size=w.heap.size+1+1+1:=by
 subst h1
 have q1:=World.alloc_heap_new w (.cells E 105)
 have q2:=World.alloc_heap_new (w.alloc (.cells E 105)) (.cells #[x] T)
 have q3:=World.alloc_heap_new ((w.alloc (.cells E 105)).alloc (.cells #[x] T)) (.cells E 105)
 simp only [World.size_alloc] at q2 q3
 rw [hV] at q3
 refine⟨⟨?_,?_,?_,?_⟩,q3,?_⟩ <;> rw [<- hV]
 ·exact(Below.heap_alloc _ _ _ (by simp <;> omega)).trans ((Below.heap_alloc _ _ _ (by simp)).trans q1)
 ·exact(Below.heap_alloc _ _ _ (by simp)).trans q2
 ·simp
 ·exact(((Below.refl _ w).alloc (Nat.le_refl _) _).alloc (by simp) _).alloc (by simp;omega) _
 ·simp
mutual
theorem ziG (k:Int):∀ (d:Nat) (t:Ex),zeT k t=(zgu d t).any fun x=>decide (x.2.kind=k)
 | d,.mk k' n m i dn s=>by
  rw [zgu,zeT,List.any_cons,znd k (d+1) s];rfl
theorem znd (k:Int):∀ (d:Nat) (l:List Ex),zne k l=(zfb d l).any fun x=>decide (x.2.kind=k)
 | d,[]=>by simp [zne,zfb]
 | d,e :: es=>by rw [zne,zfb,List.any_append,ziG k d e,znd k d es]
end
def zEA (pre:List ItN):Prop:=∀ x ∈ pre,x.2.1.kind≠5
theorem zxO {t:Ex} {xs:List ItN} (h:zfa t xs) (hn:zEA xs):zeT 5 t=false:=by
 rw [ziG 5 1,<- (show _=_ from h),List.any_eq_false]
 intro x hx
 obtain⟨y,hy,rfl⟩:=List.mem_map.1 hx
 exact fun h=>hn y hy (of_decide_eq_true h)
theorem zCx {t:Ex} {xs:List ItN} (h:zeZ t xs) (hn:∃ x ∈ xs,x.2.1.kind=5):zeT 5 t=true:=by
 obtain⟨x,hx,hk⟩:=hn
 rw [ziG 5 1,List.any_eq_true]
 exact⟨zdQ x,h.subset (List.mem_map_of_mem hx),decide_eq_true hk⟩
def Hr1 (w:World) (E:Array Value) (pre:List (ItN)) (W:World):Prop:=CnFrame w E 4 (.bool false) W/\zEA pre
def zGP (w:World) (E:Array Value) (c:Code) (pre:List (ItN)) (W:World):Prop:=c = .ret/\CnFrame w E 4 (.bool true) W/\∃ x ∈ pre,x.2.1.kind=5
theorem zCV (w:World) (E:Array Value) (B:Nat) (hB:w.heap.size<=B):OwnFrom B (Hr1 w E):=fun _ _ _ _ hs hg hr=>⟨hs.1.grown hg (fun r e=>⟨by have:=(hr r e).1;omega,(hr r e).2⟩),hs.2⟩
theorem zAt (w:World) (E:Array Value) (c:Code) (B:Nat) (hB:w.heap.size<=B):OwnFrom B (zGP w E c):=fun _ _ _ _ hs hg hr=>⟨hs.1,hs.2.1.grown hg (fun r e=>⟨by have:=(hr r e).1;omega,(hr r e).2⟩),hs.2.2⟩
theorem zrQ (k:Int) (nm mr:ByteArray) (it d:Int) (sub:List Ex) (sv:Value) (w:World) (hm:nodesL sub<=1048576) (hs:zbK w w.heap.size sub sv) :
  Calls Tryz.prog 214 #[.agg #[.int .i64 k,.string nm,.string mr,.int .i64 it,.int .i64 d,sv]] w fun e w'=>e = .returned (.bool (zeT 5 (.mk k nm mr it d sub)))/\Below w.heap.size w w':=by
 obtain⟨p,cap,rfl,hcap,_⟩:=zeL hs
 refine(callsIn_wide (n:=4)).1 ?_
 refine callsIn_of_wp_marks Tryz.func214 rfl trivial ?_ rfl
 simp only [Tryz.ntmps214,List.size_toArray,List.length_cons,List.length_nil,Nat.reduceAdd,Nat.reduceSub,Array.replicate_succ,Array.replicate_zero,List.push_toArray,List.append_toArray,List.nil_append,List.cons_append]
 gi_wp2_with (first | (refine⟨trivial,?_⟩;gi_at_call 215;refine(callsIn_wide.2 (ziu _ _ _ _ _ _ _ _ _)).mono ?_;rintro e w' ⟨rfl,rfl⟩))
 have HS:=Lib.hid hs
 obtain⟨V,hV⟩:∃ V,(((w.alloc (Obj.cells #[.int .i64 k,.string nm,.string mr,.int .i64 it,.int .i64 d,.slice p sub.length cap] 105)).alloc (Obj.cells #[Value.bool false] 4)).alloc (Obj.cells #[.int .i64 k,.string nm,.string mr,.int .i64 it,.int .i64 d,.slice p sub.length cap] 105))=V:=⟨_,rfl⟩
 obtain⟨hF,hb4,hz⟩:=zBg w 105 4 #[.int .i64 k,.string nm,.string mr,.int .i64 it,.int .i64 d,.slice p sub.length cap] (.bool false) V hV
 rw [hV]
 clear hV hs
 refine zfD (P:=Tryz.prog) (F:=Fence.wide) (n:=4) rfl (by omega) (gf:=258) (lb:=#[.pointer (some ⟨w.heap.size+1+1,0,none⟩)]) rfl trivial (enters_of Tryz.func258 (by kernel_rfl) rfl)
  (encs:=fun x:ItN=>#[.int .i64 x.1,zlS x]) (Kp:=KeepOut w.heap.size (w.heap.size+1+1)) (R:=ItStep (V.heap.size+1+1)) (X:=fun _ x=>zlB w w.heap.size x.2.1 (zlS x))
  (S:=zfa (.mk k nm mr it d sub)) (Sp:=zeZ (.mk k nm mr it d sub))
  (fun r l J Jx hJ _ hY hJ0=>zkl 3 l (w.heap.size+1+1) w.heap.size (w.heap.size+1+1) (by omega) k nm mr it d sub p cap w _ HS.out (zfr ((hF.below.alloc (by omega) _).alloc (by simp;omega) _)) (by omega) (Nat.le_refl _)
   ((Below.heap_alloc _ _ _ (by simp;omega)).trans ((Below.heap_alloc _ _ _ (by omega)).trans hb4)) hm J Jx (fun pre A B h1 h2=>hJ pre A B h1 (by simpa using h2)) hY hJ0)
  (fun h1 h2=>h1.trans h2) (fun W l o o' _ hl ho=>KeepOut.putObj W l o o' hl ho) (fun h=>h.others.from _) (fun _=>rfl)
  (Hr1 w #[.int .i64 k,.string nm,.string mr,.int .i64 it,.int .i64 d,.slice p sub.length cap]) (zGP w #[.int .i64 k,.string nm,.string mr,.int .i64 it,.int .i64 d,.slice p sub.length cap]) (zCV w _ _ (by omega)) (fun c=>zAt w _ c _ (by omega))
  (fun pre A B h hs=>⟨CnFrame.step h.1 hs (by omega),h.2⟩) (fun c pre A B h hs=>⟨h.1,CnFrame.step h.2.1 hs (by omega),h.2.2⟩) ⟨hF,by intro x hx;cases hx⟩
  (fun x b=>{ tmps:=#[Value.agg #[.int .i64 k,.string nm,.string mr,.int .i64 it,.int .i64 d,.slice p sub.length cap],Value.pointer (some { block:=w.heap.size,off:=0 }),Value.pointer (some { block:=w.heap.size+1,off:=0 }),undef,Value.pointer (some { block:=b,off:=0 }),
        Value.agg #[.int .i64 k,.string nm,.string mr,.int .i64 it,.int .i64 d,.slice p sub.length cap],Value.func (Fn.func 258) #[] #[Value.pointer (some { block:=w.heap.size+1+1,off:=0 })],Value.int .i64 x.1,zlS x,undef,undef,undef],defers:=[] })
  (fun x=>.cells #[.int .i64 x.2.1.kind,.string x.2.1.name,.string x.2.1.more,.int .i64 x.2.1.int,.int .i64 x.2.1.den,.slice x.2.2.1 x.2.1.sub.length x.2.2.2] 105) (fun W o=>KeepOut.below ((Below.refl _ _).alloc (Nat.le_refl _) _)) ?assign2 ?body2 ?done2 ?stop2
 case assign2=>
  intro l x W K hK
  gi_wp2
  exact hK
 case body2=>
  rintro l pre x b W5 hI - hbx hbV
  obtain⟨hF5,hno⟩:=hI
  have cr:=cell_of_one hF5.c
  have fr:=free_of_one hF5.c
  have g0:W5.cell? ⟨b,0,none⟩=some (.int .i64 x.2.1.kind):=by simp [World.cell?,hbx]
  have HF5:=Lib.hid hF5
  have HNO:=Lib.hid hno
  have hs5:=hF5.size
  clear hF5 hno hbx
  by_cases hk:x.2.1.kind=5
  ·have hd:decide (x.2.1.kind=5)=true:=decide_eq_true hk
   have hd2:(x.2.1.kind == 5)=true:=by simpa using hk
   have HK:=Lib.hid hk
   clear hk
   gi_wp2_with fail
   exact⟨(KeepsOthers.setCell _ _ _).from _,rfl,HF5.out.set (.bool true),x,by simp,HK.out⟩
  ·have hd:decide (x.2.1.kind=5)=false:=decide_eq_false hk
   have hd2:(x.2.1.kind == 5)=false:=by simpa using hk
   have HK:=Lib.hid hk
   clear hk
   gi_wp2_with fail
   refine⟨KeepsOthers.from (KeepsOthers.refl _) _,KeepOut.below (Below.refl _ _),HF5.out,?_⟩
   intro y hy
   rcases List.mem_append.1 hy with h | h
   ·exact HNO.out y h
   ·simp at h;subst h;exact HK.out
 case done2=>
  rintro D xs W hD hS ⟨hI,hno⟩ hK
  have hl:zeT 5 (.mk k nm mr it d sub)=false:=zxO hS hno
  have c0:=cell_of_one hI.c
  have f0:=free_of_one hI.c
  have HL:=Lib.hid hl
  have HI:=Lib.hid (hI.set (.bool false))
  have HK:=Lib.hid ((KeepsOthers.setCell W ⟨w.heap.size+1,0,none⟩ (.bool false)).same D _ hK rfl)
  clear hl hI hS
  gi_wp2_with fail
  refine⟨by simp,.inl ⟨_,_,rfl,run_takeDeferred HK.out,?_⟩⟩
  have hc5:=cell_kept (cell_of_one HI.out.c) (grownBy_putObj' _ D (.deferred none)) (fun r e=>by cases e;exact⟨_,HK.out,rfl⟩)
  refine⟨.bool false,?_,by rw [HL.out],HI.out.below.trans (belowK_b (w:=w) (Nat.le_refl _) _ D _ _ (by omega) HK.out rfl rfl)⟩
  simp [results,Tryz.f214,go_sem,hc5]
 case stop2=>
  rintro D c pre W hD hpre ⟨rfl,hI,hne⟩ hK
  have hl:=zCx hpre hne
  gi_wp2_with fail
  refine⟨by simp,.inl ⟨_,_,rfl,run_takeDeferred hK,?_⟩⟩
  have hc5:=cell_kept (cell_of_one hI.c) (grownBy_putObj' _ D (.deferred none)) (fun r e=>by cases e;exact⟨_,hK,rfl⟩)
  refine⟨.bool true,?_,by rw [hl],hI.below.trans (belowK_b (w:=w) (Nat.le_refl _) _ D _ _ (by omega) hK rfl rfl)⟩
  simp [results,Tryz.f214,go_sem,hc5]
end
section
open Go Go.RowKit
theorem zxe (a:Ex) (hsz:nodesE a<=1048576):Con Tryz.prog 214 [avE a] (.d (.raw (.bool (zeT 5 a)))):=zvC ⟨_,Tryz.func214,by decide +kernel,rfl⟩ fun x w ha=>by
 obtain⟨ea,ha⟩:=zpJ ha
 rw [ea]
 rw [zeD] at hsz
 have h:=zrQ a.kind a.name a.more a.int a.den a.sub _ w (by omega) ha
 rw [Ex.eta] at h
 exact h
theorem zCv (s:ByteArray):Con Tryz.prog 257 [.d (.raw (.string s))] (.d (.raw (.bool (zcd s)))):=zBe ⟨_,Tryz.func257,by decide +kernel,rfl⟩ fun w=>zjY s w
theorem zmd (s:ByteArray):Con Tryz.prog 67 [.d (.raw (.string s))] (.d (.raw (.bool (zbR s.data.toList)))):=zBe ⟨_,Tryz.func67,by decide +kernel,rfl⟩ fun w=>zpg s w
end
section
open Go Go.RowKit Go.MapKept
section
variable {P:Program} {A:Base P} {σ:St} {g:Gh} {a:Act} {w:World}
theorem ziJ (n:Nat) {all:List Oper} {o:Oper} {rest:List Oper} {i base:Nat} {s:List Itm} {σ':St} {Q:Exit->St->Prop} {x:AV} (hg:zcX A.N all σ o=some true) (h:OpOk P A o σ σ' x) (hd:zaf A.N o=true)
  (hr:go P A n (.ops all rest (i+1) base) s (σ'.put o.dst x) Q):zbL P A (.ops all (o :: rest) i base) s σ Q:=
 zfH hg (fun _=>zem h hd (zar n _ _ _ _ hr)) (fun e=>by cases e) (fun e=>by cases e)
theorem zuR {o:Oper} {it:Operand} {q r n j:Nat} {seen:List Nat} {tag:Option Nat} {ks:List Value} {cs:List AV} (ho:o.op = .entry it) (hit:σ.eval it = .box q 0) (hq:σ.blk q=some (.iter r n (seen++[j]))) (hr:σ.blk r=some (.map tag ks cs)) (hn:n=ks.length) (h:j<ks.length) (h':j<cs.length) :
  OpOk P A o σ σ (.tup [.d (.raw ks[j]),cs[j]]):=by
 refine zA fun g a w hk=>?_
 have hie:=hk.eval it
 rw [hit] at hie
 obtain⟨_,c0⟩:=hk.blk q _ hq
 have c0:w.heap[g.m q]? = some (.mapIter (some (g.m r)) n (seen++[j]).toArray n):=c0
 obtain⟨_,_,es,c1,c2,c3,c4,c5⟩:=hk.blk r _ hr
 have hje:j<es.length:=by omega
 have hne:n=es.length:=by omega
 subst hne
 have hborn:∀ i (hi:i<es.length),es[i].born=i:=fun i hi=>(c4 i (by omega) hi).2
 have hpush:(seen++[j]).toArray=seen.toArray.push es[j].born:=by rw [hborn j hje];simp
 have hnd:(es.toArray.toList.map (·.born)).Nodup:=by
  have:es.toArray.toList.map (·.born)=List.range es.length:=by
   apply List.ext_getElem
   ·simp
   ·intro i h1 h2
    simp only [List.getElem_map,List.getElem_range]
    exact hborn i (by simpa using h2)
  rw [this];exact List.nodup_range
 rw [hpush] at c0
 have hrun:=run_entry_at (P:=P) w (g.m q) (g.m r) _ seen.toArray es.toArray es.length es[j] c0 c1 (by simp) hnd
 refine⟨_,by simp only [execOp,ho,hie.box_eq,Sem.run_bind,hrun,Result.andThen_ok,Sem.run_pure],.tup _ [es[j].key,es[j].val] rfl fun i hi hv=>?_⟩
 match i,hi with
 | 0,_=>
  have:=(c4 j h hje).1
  simp only [List.getElem_cons_zero]
  rw [this]
  exact .d (.raw _)
 | 1,_=>exact c5 j h' hje
theorem zsv {o:Oper} {t kt et:TypeId} {p:Operand} {r:Nat} {tag:Option Nat} {ks:List Value} {cs:List AV} (ho:o.op = .call { callee:=.builtin .len,args:=#[p],argTypes:=#[t] }) (ht:P.underlying t=some (.map kt et)) (hp:σ.eval p = .mp r) (hb:σ.blk r=some (.map tag ks cs)) :
  OpOk P A o σ σ (.d (.raw (.int .i64 ks.length))):=by
 refine zA fun g a w hk=>?_
 have hpe:=hk.eval p
 rw [hp] at hpe
 obtain⟨_,_,es,c1,c2,_⟩:=hk.blk r _ hb
 have hrun:=run_len_map (P:=P) (w:=w) t o.type (g.m r) es.toArray es.length (by simp [ht,Program.mapKeyOf,Program.mapElemOf]) c1
 refine⟨_,?_,.d (.raw _)⟩
 simp only [execOp,ho,resolve,invoke,builtin,Sem.run_bind,Sem.run_pure,Result.andThen_ok,List.map_toArray,List.map_cons,List.map_nil,hpe.mp_eq,hrun]
 simp [goInt,c2]
theorem zqn {o:Oper} {t e:TypeId} {p q:Operand} {n:Nat} {k k':IntKind} {z:Value} {me:Nat} (ho:o.op = .makeSlice t p q) (ht:P.underlying t=some (.slice e)) (hz:zx P e=some z) (hst:z.cells.toList.length=P.cellsOf e)
  (hp:σ.eval p = .d (.raw (.int k 0))) (hq:σ.eval q = .d (.raw (.int k' n))) (hb:P.bytesOf e * n<=281474976710656) (h63:n<=maxLen) (hm:σ.free A me) :
  OpOk P A o σ (σ.setTok me (some ⟨P.cellsOf e,e,0,none⟩)) (.grow me []):=by
 refine zaI fun g a w hk=>?_
 have e1:=hk.eval p
 have e2:=hk.eval q
 rw [hp] at e1
 rw [hq] at e2
 obtain⟨i,hi,hzi⟩:∃ i,P.info? e=some i/\i.zero=some z:=by
  unfold zx at hz
  cases hi:P.info? e with
  | none=>simp [hi] at hz
  | some i=>exact⟨i,rfl,by simpa [hi] using hz⟩
 have hsz:i.size=P.cellsOf e:=by simp [Program.cellsOf,hi]
 have hby:i.bytes=P.bytesOf e:=by simp [Program.bytesOf,hi]
 have hb':(i.bytes:Int) * (n:Int)<=281474976710656:=by
  have h:((P.bytesOf e * n:Nat):Int)<=281474976710656:=by omega
  rw [hby];rwa [Int.natCast_mul] at h
 have h63':=h63
 unfold maxLen at h63'
 have hr:=run_make (P:=P) w t e i z ht hi hzi k k' 0 n (by omega) (by omega) hb' (by omega)
 simp only [Int.toNat_natCast,hsz] at hr
 have hzs:z.cells.size=P.cellsOf e:=by simpa using hst
 obtain⟨g',h1,h2⟩:=hk.newTok (st:=P.cellsOf e) (n:=0) (cap:=n) (ty:=e) (arr:=madeCells z.cells (n * P.cellsOf e)) (rows:=[]) hm rfl (Nat.zero_le _) h63 (by simp [madeCells]) (fun i h=>by simp at h) (fun i h=>by simp at h)
 exact⟨g',_,_,by simp only [execOp,ho,e1.raw_eq,e2.raw_eq,Sem.run_bind,hr,Result.andThen_ok,Sem.run_pure];rfl,h1,h2⟩
end
end
section
open Go Go.RowKit
theorem ztx {k:Int} {n m:ByteArray} {i d:Int} {len:Nat} (h:zbe k n m i d len=0):∃ nn nu ns,zbO k=some (nn,nu,ns)/\zbg nn nu ns n m i d len=true/\zaE k n m (decide (1<=nn)) (decide (2<=nn))=true/\¬ (k=13/\n=m)/\zaM k i d=true:=by
 cases hs:zbO k with
 | none=>rw [zlh hs] at h;omega
 | some x=>
  obtain⟨nn,nu,ns⟩:=x
  cases ha:zbg nn nu ns n m i d len with
  | false=>rw [zR hs ha] at h;omega
  | true=>
   by_cases hn:zj k n m (decide (1<=nn)) (decide (2<=nn))=0
   ·rw [zgD hs ha hn] at h
    refine⟨nn,nu,ns,rfl,ha,?_,?_,?_⟩
    ·cases hb:zaE k n m (decide (1<=nn)) (decide (2<=nn)) with
     | true=>rfl
     | false=>simp [zj,hb] at hn
    ·intro e
     unfold zj at hn
     rw [if_pos e] at hn
     split at hn <;> omega
    ·cases hb:zaM k i d with
     | true=>rfl
     | false=>simp [zbz,hb] at h
   ·rw [zgE hs ha hn] at h;exact absurd h hn
theorem zvG {k:Int} {n m:ByteArray} {i d:Int} {len:Nat} (h:zbe k n m i d len=0):(k=6->len=1)/\(k=8->len=2)/\(k=13->len=3)/\(k=3->len=0)/\(k=5->len=0):=by
 obtain⟨nn,nu,ns,hs,ha,_⟩:=ztx h
 have hl:len=ns:=by simp only [zbg,Bool.and_eq_true,decide_eq_true_eq] at ha;exact ha.2
 subst hl
 rcases zda hs with⟨rfl,e⟩ | ⟨rfl,e⟩ | ⟨rfl,e⟩ | ⟨rfl,e⟩ | ⟨rfl,e⟩ | ⟨rfl,e⟩ | ⟨rfl,e⟩ | ⟨rfl,e⟩ | ⟨rfl,e⟩ | ⟨rfl,e⟩ | ⟨rfl,e⟩ | ⟨rfl,e⟩ | ⟨rfl,e⟩ | ⟨rfl,e⟩ | ⟨rfl,e⟩ <;> cases e <;> simp
theorem ztz {e:Ex} {es:List Ex} (h:zcm (e :: es)=0):zbI e=0/\zcm es=0:=by
 rw [zcm] at h
 split at h
 ·rename_i h0;exact⟨h0,h⟩
 ·rename_i h0;exact absurd h h0
theorem zyF {k:Int} {n m:ByteArray} {i d:Int} {s:List Ex} (h:zbI (.mk k n m i d s)=0):zbe k n m i d s.length=0/\zcm s=0:=by
 by_cases h0:zbe k n m i d s.length=0
 ·rw [zty h0] at h;exact⟨h0,h⟩
 ·rw [zvH rfl h0] at h;exact absurd h h0
theorem zBn {t:Ex} (h:zal t=0):zbI t=0/\nodesE t<=400/\zbU t<=40:=by
 unfold zal at h
 split at h
 ·omega
 ·exact⟨h,by omega,by omega⟩
theorem zFn {a b:ByteArray} (h:a.data.toList=b.data.toList):a=b:=by
 apply ByteArray.ext;apply Array.ext';exact h
end
section
open Go Go.RowKit
def zaT (l:List ByteArray):Int:=if ¬ l.length=1/\¬ l.length=3 then 1 else if l.any (zbl l) then 6 else 0
abbrev ztq (l:List ByteArray) (q:Nat):St:=⟨[(0,.d (.sl (zQ l))),(13,.d (.sl (zQ l))),(14,.d (.raw (.int .i64 l.length))),(15,.d (.raw (.int .i64 q)))],[],[]⟩
theorem ztr (l:List ByteArray):Con Tryz.prog 213 [.d (.sl (zQ l))] (.d (.raw (.int .i64 (zaT l)))):=by
 refine kO Tryz.func213 Tryz.ntmps213 fun A hA=>?_
 refine goC 400 ?_
 by_cases h5:¬ l.length=1/\¬ l.length=3
 ·have g5:(decide ¬ (l.length:Int)=1)=true:=decide_eq_true (by omega)
  have g6:(decide ¬ (l.length:Int)=3)=true:=decide_eq_true (by omega)
  have he:zaT l=1:=by unfold zaT;rw [if_pos h5]
  simp only [go_sem,hA,g5,g6,zg,he,Tryz.results213]
 have h6:l.length=1\/(¬ l.length=1/\l.length=3):=by omega
 have he:zaT l=if l.any (zbl l) then 6 else 0:=by unfold zaT;rw [if_neg h5]
 rcases h6 with h6 | ⟨h6,h7⟩
 case' inl=>
  have g5:(decide ¬ (l.length:Int)=1)=false:=decide_eq_false (by omega)
  have g7:decide ((l.length:Int)=1)=true:=decide_eq_true (by omega)
  simp only [go_sem,hA,g5,undef,zg]
 case' inr=>
  have g5:(decide ¬ (l.length:Int)=1)=true:=decide_eq_true (by omega)
  have g6:(decide ¬ (l.length:Int)=3)=false:=decide_eq_false (by omega)
  have g7:decide ((l.length:Int)=1)=false:=decide_eq_false (by omega)
  simp only [go_sem,hA,g5,g6,zg]
 all_goals
  refine zc [0,13,14,15] [] [] (fun y σ=>∃ q:Nat,q<=l.length/\y=l.length - q/\(l.take q).any (zbl l)=false/\σ=ztq l q) l.length ⟨0,by omega,by omega,rfl,by simp only [go_sem,ztq]⟩ ?_
  rintro y σ ⟨q,hq,rfl,hf,rfl⟩
  refine goC 400 ?_
  by_cases hlt:q<l.length
  ·have k1:decide ((q:Int)<(l.length:Int))=true:=decide_eq_true (by omega)
   have hc:=zCv l[q]
   simp only [go_sem,hA,ztq,zg,k1,Int.toNat_natCast,zbC l q hlt]
   refine⟨⟨by omega,by omega⟩,?_⟩
   have hbad:zbl l l[q]=true->zaT l=6:=fun h=>by
    rw [he,if_pos]
    rw [List.any_eq_true]
    exact⟨_,List.getElem_mem hlt,h⟩
   have hgood:zbl l l[q]=false->(l.take (q+1)).any (zbl l)=false:=fun h=>by
    rw [List.take_succ_eq_append_getElem hlt,List.any_append,hf]
    simp [h]
   have g7':decide (l.length=1)=decide ((l.length:Int)=1):=decide_eq_decide.2 (by omega)
   obtain⟨one,g8⟩:∃ one,decide ((l.length:Int)=1)=one:=⟨_,rfl⟩
   rw [g8] at g7'
   cases hn:zcd l[q] with
   | true=>
    rw [hn] at hc
    have hb:=hgood (by unfold zbl;rw [hn];rfl)
    refine zaU 300 hc rfl (by simp only [go_sem]) (by simp only [go_sem,hA]) ?_
    simp only [go_sem,hA,undef]
    exact⟨by unfold za;omega,l.length - (q+1),by omega,q+1,by omega,rfl,hb,rfl⟩
   | false=>
    rw [hn] at hc
    refine zaU 300 hc rfl (by simp only [go_sem]) (by simp only [go_sem,hA]) ?_
    cases one with
    | true=>
     have hb:=hbad (by unfold zbl;rw [hn,g7'];rfl)
     simp only [go_sem,hA,zg,g8,hb,undef,Tryz.results213]
    | false=>
     by_cases hz:l[q]=⟨#[]⟩
     ·have hb:=hgood (by unfold zbl;rw [hn,g7',hz];rfl)
      have k2:decide (¬ l[q]=⟨#[]⟩)=false:=decide_eq_false (fun h=>h hz)
      simp only [go_sem,hA,zg,g8,k2]
      exact⟨by unfold za;omega,l.length - (q+1),by omega,q+1,by omega,rfl,hb,rfl⟩
     ·have hb:=hbad (by unfold zbl;rw [hn,g7'];simp [hz])
      have k2:decide (¬ l[q]=⟨#[]⟩)=true:=decide_eq_true hz
      simp only [go_sem,hA,zg,g8,k2,hb,Tryz.results213]
  ·have k1:decide ((q:Int)<(l.length:Int))=false:=decide_eq_false (by omega)
   obtain rfl:q=l.length:=by omega
   rw [List.take_length] at hf
   rw [hf] at he
   simp only [go_sem,hA,ztq,k1,he,Tryz.results213]
def zaS (x:Dc):Int:=
 if x.id<0\/999999<x.id then 2 else if x.kind<1\/3<x.kind then 9 else if ¬ zaT x.names=0 then zaT x.names else
 if ¬ zal x.body=0 then zal x.body else if zeT 5 x.body then 9 else 0
theorem zCs (x:Dc) (hb:nodesE x.body<=524288):Con Tryz.prog 134 [avD x] (.d (.raw (.int .i64 (zaS x)))):=by
 have cn:=ztr x.names
 have cc:=zeo x.body (by omega)
 have ck:=zxe x.body (by omega)
 refine kO Tryz.func134 Tryz.ntmps134 fun A hA=>?_
 refine goC 400 ?_
 by_cases h1:x.id<0
 ·have g1:decide (x.id<0)=true:=decide_eq_true h1
  have he:zaS x=2:=by unfold zaS;rw [if_pos (.inl h1)]
  simp only [go_sem,hA,avD,g1,he,undef,Tryz.results134]
 have g1:decide (x.id<0)=false:=decide_eq_false h1
 by_cases h2:999999<x.id
 ·have g2:decide (999999<x.id)=true:=decide_eq_true h2
  have he:zaS x=2:=by unfold zaS;rw [if_pos (.inr h2)]
  simp only [go_sem,hA,avD,g1,g2,he,Tryz.results134]
 have g2:decide (999999<x.id)=false:=decide_eq_false h2
 have hs0:zaS x=if x.kind<1\/3<x.kind then 9 else if ¬ zaT x.names=0 then zaT x.names else if ¬ zal x.body=0 then zal x.body else if zeT 5 x.body then 9 else 0:=by unfold zaS;rw [if_neg (by omega)]
 by_cases h3:x.kind<1\/3<x.kind
 ·have g3:(decide ¬ x.kind=1)=true:=decide_eq_true (by omega)
  have g4:(decide ¬ x.kind=2)=true:=decide_eq_true (by omega)
  have g5:(decide ¬ x.kind=3)=true:=decide_eq_true (by omega)
  rw [if_pos h3] at hs0
  simp only [go_sem,hA,avD,g1,g2,g3,g4,g5,hs0,Tryz.results134]
 rw [if_neg h3] at hs0
 have h4:x.kind=1\/(¬ x.kind=1/\x.kind=2)\/(¬ x.kind=1/\¬ x.kind=2/\x.kind=3):=by omega
 rcases h4 with h4 | ⟨h4,h4'⟩ | ⟨h4,h4',h4''⟩
 case' inl=>
  have g3:(decide ¬ x.kind=1)=false:=decide_eq_false (by omega)
  simp only [go_sem,hA,avD,g1,g2,g3,undef]
 case' inr.inl=>
  have g3:(decide ¬ x.kind=1)=true:=decide_eq_true (by omega)
  have g4:(decide ¬ x.kind=2)=false:=decide_eq_false (by omega)
  simp only [go_sem,hA,avD,g1,g2,g3,g4,undef]
 case' inr.inr=>
  have g3:(decide ¬ x.kind=1)=true:=decide_eq_true (by omega)
  have g4:(decide ¬ x.kind=2)=true:=decide_eq_true (by omega)
  have g5:(decide ¬ x.kind=3)=false:=decide_eq_false (by omega)
  simp only [go_sem,hA,avD,g1,g2,g3,g4,g5]
 all_goals
  refine zaU 300 cn rfl (by simp only [go_sem]) (by simp only [go_sem,hA]) ?_
  by_cases hn:zaT x.names=0
  ·rw [if_neg (fun h=>h hn)] at hs0
   have k1:(decide ¬ zaT x.names=0)=false:=decide_eq_false (fun h=>h hn)
   simp only [go_sem,hA,k1]
   refine zaU 300 cc rfl (by simp only [go_sem,zaB]) (by simp only [go_sem,hA]) ?_
   by_cases hc:zal x.body=0
   ·rw [if_neg (fun h=>h hc)] at hs0
    have k2:(decide ¬ zal x.body=0)=false:=decide_eq_false (fun h=>h hc)
    simp only [go_sem,hA,k2]
    refine zaU 300 ck rfl (by simp only [go_sem,zaB]) (by simp only [go_sem,hA]) ?_
    cases hk:zeT 5 x.body with
    | true=>
     rw [hk,if_pos rfl] at hs0
     simp only [go_sem,hA,hs0,Tryz.results134]
    | false=>
     rw [hk,if_neg (by decide)] at hs0
     simp only [go_sem,hA,hs0,Tryz.results134]
   ·rw [if_pos hc] at hs0
    have k2:(decide ¬ zal x.body=0)=true:=decide_eq_true hc
    simp only [go_sem,hA,k2,hs0,Tryz.results134]
  ·rw [if_pos hn] at hs0
   have k1:(decide ¬ zaT x.names=0)=true:=decide_eq_true hn
   simp only [go_sem,hA,k1,hs0,Tryz.results134]
end
section
open Go Go.RowKit
def zH (f:Nat->Int):Nat->Int
 | 0=>0
 | n+1=>if zH f n=0 then f n else zH f n
theorem zX {f:Nat->Int} {q:Nat} (h:zH f q=0) (h1:f q=0):zH f (q+1)=0:=by rw [zH,if_pos h,h1]
theorem zS {f:Nat->Int} {q n:Nat} (h:zH f q=0) (hn:q<n) (h1:¬ f q=0):zH f n=f q:=by
 induction n with
 | zero=>omega
 | succ n ih=>
  rw [zH]
  by_cases e:q=n
  ·subst e;rw [if_pos h]
  ·have:=ih (by omega)
   rw [this,if_neg h1]
structure Sr where
 uses:List ByteArray
 decls:List Dc
def zbf (l:List Dc):List (List D):=l.map zcb
def avS (x:Sr):AV:=.agg [.d (.sl (zQ x.uses)),.d (.sl (zbf x.decls))]
theorem zr (l:List Dc):(zbf l).length=l.length:=by simp [zbf]
theorem zbD (l:List Dc) (i:Nat) (h:i<l.length):(zbf l).getD i []=zcb l[i]:=by
 simp [zbf,List.getD_eq_getElem?_getD,h]
def zpO (l:List ByteArray) (q:Nat):Int:=if zbR (atB l q).data.toList then (if 0<q/\ltS (atB l (q - 1)) (atB l q)=false then 10 else 0) else 6
def zGW:Dc:=⟨0,0,false,[],false,.mk 0 ⟨#[]⟩ ⟨#[]⟩ 0 0 []⟩
def atD (l:List Dc) (i:Nat):Dc:=l.getD i zGW
theorem zfp (l:List Dc) (i:Nat) (h:i<l.length):atD l i=l[i]:=by simp [atD,List.getD_eq_getElem?_getD,h]
theorem zrq (l:List ByteArray) (i:Nat) (h:i<l.length):atB l i=l[i]:=by simp [atB,List.getD_eq_getElem?_getD,h]
def zEp (d:Dc):Option ByteArray:=if d.names.length=1 then some (atB d.names 0) else none
def zsA (l:List Dc):List ByteArray:=l.filterMap zEp
def zfO (l:List Dc) (q:Nat):Bool:=decide (0<q) && decide (¬ (atD l q).id=0) && (decide ((atD l (q - 1)).id=0) || decide ((atD l q).id<=(atD l (q - 1)).id))
def znz (e:Dc->Int) (l:List Dc) (q:Nat):Int:=
 if ¬ e (atD l q)=0 then e (atD l q) else if zfO l q then 10 else if (atD l q).names.length=1/\zia (zsA (l.take q)) (atB (atD l q).names 0) then 7 else 0
def zhY (e:Dc->Int) (x:Sr):Int:=
 if 20<x.uses.length then 4 else if ¬ zH (zpO x.uses) x.uses.length=0 then zH (zpO x.uses) x.uses.length else if 100<x.decls.length then 4 else zH (znz e x.decls) x.decls.length
theorem zoW (l:List Dc) (q:Nat) (h:q<l.length):zsA (l.take (q+1))=zsA (l.take q)++(if (atD l q).names.length=1 then [atB (atD l q).names 0] else []):=by
 rw [List.take_succ_eq_append_getElem h,zsA,List.filterMap_append,zfp l q h]
 congr 1
 simp only [List.filterMap_cons,List.filterMap_nil,zEp]
 split <;> rename_i h1 <;> split at h1 <;> simp_all
theorem zxU (a:List ByteArray) (n:ByteArray):zaX (a++[n])=zaX a++[.string n]:=by simp [zaX]
theorem ztW (a:List ByteArray) (n:ByteArray):zbh (a++[n])=zbh a++[.d (.raw (.bool true))]:=by
 simp only [zbh,List.length_append,List.length_cons,List.length_nil,Nat.zero_add,List.replicate_succ']
theorem zpm {fs:List ByteArray} {s:ByteArray} (h:zia fs s=false):zbs (.string s) (zaX fs)=none:=by
 have:=zdX s fs
 rw [h] at this
 simpa using this
theorem zpl {fs:List ByteArray} {s:ByteArray} (h:zia fs s=true):∃ j,zbs (.string s) (zaX fs)=some j/\(zbh fs)[j]? = some (.d (.raw (.bool true))):=by
 have h1:=zdX s fs
 rw [h] at h1
 obtain⟨j,hj⟩:=Option.isSome_iff_exists.1 h1
 refine⟨j,hj,?_⟩
 have:=zkB s fs j hj
 simp [zbh,this]
abbrev ztv (x:Sr) (q:Nat):St:=⟨[(1,.box 0 0),(14,.d (.sl (zQ x.uses))),(15,.d (.raw (.int .i64 x.uses.length))),(16,.d (.raw (.int .i64 q)))],[(0,some (.cell 101 [.d (.sl (zQ x.uses)),.d (.sl (zbf x.decls))]))],[]⟩
abbrev zwK (x:Sr) (q:Nat):St:=⟨[(1,.box 0 0),(5,.mp 13000),(43,.d (.sl (zbf x.decls))),(44,.d (.raw (.int .i64 x.decls.length))),(45,.d (.raw (.int .i64 q)))],[(0,some (.cell 101 [.d (.sl (zQ x.uses)),.d (.sl (zbf x.decls))])),(13000,some (.map none (zaX (zsA (x.decls.take q))) (zbh (zsA (x.decls.take q)))))],[]⟩
theorem zxb (x:Sr) (hb:∀ d ∈ x.decls,nodesE d.body<=524288):Con Tryz.prog 68 [avS x] (.d (.raw (.int .i64 (zhY zaS x)))):=by
 refine kO Tryz.func68 Tryz.ntmps68 fun A hA=>?_
 refine goC 400 ?_
 by_cases h1:20<x.uses.length
 ·have g1:decide ((20:Int)<(x.uses.length:Int))=true:=decide_eq_true (by omega)
  have he:zhY zaS x=4:=by unfold zhY;rw [if_pos h1]
  simp only [go_sem,hA,avS,zg,g1,he,Tryz.results68]
 have g1:decide ((20:Int)<(x.uses.length:Int))=false:=decide_eq_false (by omega)
 have hs0:zhY zaS x=if ¬ zH (zpO x.uses) x.uses.length=0 then zH (zpO x.uses) x.uses.length else if 100<x.decls.length then 4 else zH (znz zaS x.decls) x.decls.length:=by unfold zhY;rw [if_neg h1]
 simp only [go_sem,hA,avS,zg,g1]
 refine zc [1,14,15,16] [0] [] (fun y σ=>∃ q:Nat,q<=x.uses.length/\y=x.uses.length - q/\zH (zpO x.uses) q=0/\σ=ztv x q) x.uses.length ⟨0,by omega,by omega,rfl,by simp only [go_sem,ztv]⟩ ?_
 rintro y σ ⟨q,hq,rfl,hf,rfl⟩
 refine goC 400 ?_
 by_cases hlt:q<x.uses.length
 ·have k1:decide ((q:Int)<(x.uses.length:Int))=true:=decide_eq_true (by omega)
  have hc:=zmd x.uses[q]
  have hat:=zrq x.uses q hlt
  have hhit:∀ e:Int,¬ e=0->zpO x.uses q=e->zhY zaS x=e:=fun e h0 h=>by
   have h2:=zS (n:=x.uses.length) hf hlt (by rw [h];exact h0)
   rw [hs0,h2,h,if_pos h0]
  simp only [go_sem,hA,ztv,zg,k1,Int.toNat_natCast,zbC x.uses q hlt]
  refine⟨⟨by omega,by omega⟩,?_⟩
  refine zaU 300 hc rfl (by simp only [go_sem]) (by simp only [go_sem,hA]) ?_
  cases hl:zbR x.uses[q].data.toList with
  | false=>
   have hr:=hhit 6 (by decide) (by unfold zpO;rw [hat,hl];rfl)
   simp only [go_sem,hA,hr,Tryz.results68]
  | true=>
   have hu:zpO x.uses q=if 0<q/\ltS (atB x.uses (q - 1)) (atB x.uses q)=false then 10 else 0:=by unfold zpO;rw [hat,hl];rfl
   by_cases hq0:0<q
   ·have k2:decide ((0:Int)<(q:Int))=true:=decide_eq_true (by omega)
    have hq1:((q:Int) - 1).toNat=q - 1:=by omega
    have hat1:=zrq x.uses (q - 1) (by omega)
    have hin:za ((q:Int) - 1):=by unfold za;omega
    have hw:IntKind.i64.wrap ((q:Int) - 1)=(q:Int) - 1:=zff hin
    cases hls:ltS x.uses[q - 1] x.uses[q] with
    | false=>
     have hls':Op.bytesLess x.uses[q - 1].data.toList x.uses[q].data.toList=false:=hls
     have hr:=hhit 10 (by decide) (by rw [hu,hat,hat1,if_pos ⟨hq0,hls⟩])
     simp only [go_sem,hA,k2,zg,hq1,zbC x.uses (q - 1) (by omega),hls',hr,Tryz.results68]
     exact⟨hin,by omega,by omega⟩
    | true=>
     have hls':Op.bytesLess x.uses[q - 1].data.toList x.uses[q].data.toList=true:=hls
     have hz:=zX hf (by rw [hu,hat,hat1,hls,if_neg (by simp)])
     simp only [go_sem,hA,k2,zg,hq1,zbC x.uses (q - 1) (by omega),hls']
     exact⟨hin,⟨by omega,by omega⟩,by unfold za;omega,x.uses.length - (q+1),by omega,q+1,by omega,rfl,hz,rfl⟩
   ·have k2:decide ((0:Int)<(q:Int))=false:=decide_eq_false (by omega)
    have hz:=zX hf (by rw [hu,if_neg (fun h=>hq0 h.1)])
    simp only [go_sem,hA,k2,undef]
    exact⟨by unfold za;omega,x.uses.length - (q+1),by omega,q+1,by omega,rfl,hz,rfl⟩
 have k1:decide ((q:Int)<(x.uses.length:Int))=false:=decide_eq_false (by omega)
 obtain rfl:q=x.uses.length:=by omega
 rw [hf,if_neg (fun h=>h rfl)] at hs0
 by_cases h2:100<x.decls.length
 ·have g2:decide ((100:Int)<(x.decls.length:Int))=true:=decide_eq_true (by omega)
  rw [if_pos h2] at hs0
  simp only [go_sem,hA,ztv,zr,k1,g2,hs0,Tryz.results68]
 have g2:decide ((100:Int)<(x.decls.length:Int))=false:=decide_eq_false (by omega)
 rw [if_neg h2] at hs0
 simp only [go_sem,hA,ztv,zr,k1,g2]
 refine zc [1,5,43,44,45] [0,13000] [] (fun y σ=>∃ q:Nat,q<=x.decls.length/\y=x.decls.length - q/\zH (znz zaS x.decls) q=0/\σ=zwK x q) x.decls.length ⟨0,by omega,by omega,rfl,by simp only [go_sem,zwK];rfl⟩ ?_
 rintro y σ ⟨q,hq,rfl,hf2,rfl⟩
 refine goC 400 ?_
 by_cases hlt:q<x.decls.length
 case neg=>
  have k1:decide ((q:Int)<(x.decls.length:Int))=false:=decide_eq_false (by omega)
  obtain rfl:q=x.decls.length:=by omega
  rw [hf2] at hs0
  simp only [go_sem,hA,zwK,k1,hs0,Tryz.results68]
 have k1:decide ((q:Int)<(x.decls.length:Int))=true:=decide_eq_true (by omega)
 have hat:=zfp x.decls q hlt
 have hlen:x.decls.length<=100:=by omega
 obtain⟨d,hd⟩:∃ d,x.decls[q]=d:=⟨_,rfl⟩
 rw [hd] at hat
 have hc:=zCs d (hb d (by rw [<- hd];exact List.getElem_mem hlt))
 have hhit:∀ e:Int,¬ e=0->znz zaS x.decls q=e->zhY zaS x=e:=fun e h0 h=>by
  have h2:=zS (n:=x.decls.length) hf2 hlt (by rw [h];exact h0)
  rw [hs0,h2,h]
 simp only [go_sem,hA,zwK,zr,k1,Int.toNat_natCast,zbD x.decls q hlt,hd,zcb,zV]
 refine⟨⟨by omega,by omega⟩,?_⟩
 refine zaU 300 hc rfl (by simp only [go_sem,avD]) (by simp only [go_sem,hA]) ?_
 by_cases he:zaS d=0
 case neg=>
  have k2:(decide ¬ zaS d=0)=true:=decide_eq_true he
  have hr:=hhit (zaS d) he (by unfold znz;rw [hat,if_pos he])
  simp only [go_sem,hA,k2,hr,Tryz.results68]
 have k2:(decide ¬ zaS d=0)=false:=decide_eq_false (fun h=>h he)
 have hde:znz zaS x.decls q=if zfO x.decls q then 10 else if d.names.length=1/\zia (zsA (x.decls.take q)) (atB d.names 0) then 7 else 0:=by unfold znz;rw [hat,if_neg (fun h=>h he)]
 have hq1:((q:Int) - 1).toNat=q - 1:=by omega
 have hin:za ((q:Int) - 1):=by unfold za;omega
 have hw:IntKind.i64.wrap ((q:Int) - 1)=(q:Int) - 1:=zff hin
 cases hm:zfO x.decls q with
 | true=>
  have hm':=hm
  simp only [zfO,hat,Bool.and_eq_true,Bool.or_eq_true,decide_eq_true_eq] at hm'
  obtain⟨⟨hq0,hid⟩,hor⟩:=hm'
  have hr:=hhit 10 (by decide) (by rw [hde,hm,if_pos rfl])
  have k3:(decide ¬ d.id=0)=true:=decide_eq_true hid
  have k4:decide ((0:Int)<(q:Int))=true:=decide_eq_true (by omega)
  have hat1:=zfp x.decls (q - 1) (by omega)
  rw [hat1] at hor
  by_cases hp:x.decls[q - 1].id=0
  ·have k5:decide (x.decls[q - 1].id=0)=true:=decide_eq_true hp
   simp only [go_sem,hA,k2,k3,k4,zr,hq1,zbD x.decls (q - 1) (by omega),zcb,k5,undef,mixed,hr,Tryz.results68]
   exact⟨hin,⟨by omega,by omega⟩,by show chk _ _ _=true;kernel_rfl⟩
  ·have k5:decide (x.decls[q - 1].id=0)=false:=decide_eq_false hp
   have k6:decide (d.id<=x.decls[q - 1].id)=true:=decide_eq_true (by rcases hor with h | h;exact absurd h hp;exact h)
   simp only [go_sem,hA,k2,k3,k4,zr,hq1,zbD x.decls (q - 1) (by omega),zcb,k5,k6,mixed,hr,Tryz.results68]
   exact⟨hin,⟨by omega,by omega⟩,hin,⟨by omega,by omega⟩,by show chk _ _ _=true;kernel_rfl⟩
 | false=>
  rw [hm,if_neg (by decide)] at hde
  have hm':d.id=0\/(¬ d.id=0/\¬ 0<q)\/(¬ d.id=0/\0<q/\¬ (atD x.decls (q - 1)).id=0/\¬ d.id<=(atD x.decls (q - 1)).id):=by
   by_cases e1:d.id=0
   ·exact .inl e1
   by_cases e2:0<q
   ·refine .inr (.inr ⟨e1,e2,?_⟩)
    simp only [zfO,hat,decide_eq_true e2,decide_eq_true e1,Bool.true_and,Bool.or_eq_false_iff,decide_eq_false_iff_not] at hm
    exact hm
   ·exact .inr (.inl ⟨e1,e2⟩)
  rcases hm' with e1 | ⟨e1,e2⟩ | ⟨e1,e2,e3,e4⟩
  case' inl=>
   have k3:(decide ¬ d.id=0)=false:=decide_eq_false (fun h=>h e1)
   simp only [go_sem,hA,k2,k3,undef,mixed,zg]
  case' inr.inl=>
   have k3:(decide ¬ d.id=0)=true:=decide_eq_true e1
   have k4:decide ((0:Int)<(q:Int))=false:=decide_eq_false (by omega)
   simp only [go_sem,hA,k2,k3,k4,undef,mixed,zg]
  case' inr.inr=>
   have k3:(decide ¬ d.id=0)=true:=decide_eq_true e1
   have k4:decide ((0:Int)<(q:Int))=true:=decide_eq_true (by omega)
   have hat1:=zfp x.decls (q - 1) (by omega)
   rw [hat1] at e3 e4
   have k5:decide (x.decls[q - 1].id=0)=false:=decide_eq_false e3
   have k6:decide (d.id<=x.decls[q - 1].id)=false:=decide_eq_false e4
   simp only [go_sem,hA,k2,k3,k4,zr,hq1,zbD x.decls (q - 1) (by omega),zcb,k5,k6,mixed,zg]
   refine⟨hin,⟨by omega,by omega⟩,hin,⟨by omega,by omega⟩,?_⟩
  all_goals
   refine⟨by show chk _ _ _=true;kernel_rfl,?_⟩
   by_cases hl:d.names.length=1
   ·have k7:decide ((d.names.length:Int)=1)=true:=decide_eq_true (by omega)
    cases hh:zia (zsA (x.decls.take q)) (atB d.names 0) with
    | true=>
     obtain⟨j,hj1,hj2⟩:=zpl hh
     have hr:=hhit 7 (by decide) (by rw [hde,if_pos ⟨hl,hh⟩])
     simp only [go_sem,hA,k7,zg,ztn d.names 0 (by omega),hj1,hj2,hr,Tryz.results68]
     exact⟨by omega,zcV _⟩
    | false=>
     have hj:=zpm hh
     have hz:=zX hf2 (by rw [hde,if_neg (fun h=>by rw [hh] at h;exact Bool.noConfusion h.2)])
     have hone:=zoW x.decls q hlt
     rw [hat,if_pos hl] at hone
     simp only [go_sem,hA,k7,zg,ztn d.names 0 (by omega),hj,zV]
     refine⟨by omega,zcV _,by omega,zcV _,by unfold za;omega,x.decls.length - (q+1),by omega,q+1,by omega,rfl,hz,?_⟩
     rw [hone,zxU,ztW]
     rfl
   ·have k7:decide ((d.names.length:Int)=1)=false:=decide_eq_false (by omega)
    have hz:=zX hf2 (by rw [hde,if_neg (fun h=>hl h.1)])
    have hone:=zoW x.decls q hlt
    rw [hat,if_neg hl,List.append_nil] at hone
    simp only [go_sem,hA,k7]
    exact⟨by unfold za;omega,x.decls.length - (q+1),by omega,q+1,by omega,rfl,hz,by rw [hone];rfl⟩
end
section
open Go Go.RowKit
variable {A:Base Tryz.prog} {σ:St} {g:Gh} {a:Act} {w:World}
end
section
section
open Go Go.RowKit
theorem zir {e:TypeId} (he:Tryz.prog.underlying e=some .string):∀ rows:List (List D),(∀ i (hi:i<rows.length),Typed Tryz.prog e rows[i])->∃ l:List ByteArray,rows=zQ l/\l.length<=zfF rows
 | [],_=>⟨[],rfl,Nat.zero_le _⟩
 | r :: rows,h=>by
  obtain⟨s,hs,_⟩:=zbN (h 0 (by simp)) he
  obtain⟨l,hl,hn⟩:=zir he rows fun i hi=>by have:=h (i+1) (by simpa using hi);simpa using this
  have hs:r=[.raw (.string s)]:=by simpa using hs
  subst hs hl
  refine⟨s :: l,rfl,?_⟩
  simp only [zfF,zaH,D.size,List.length_cons]
  omega
theorem zcL {α:Type} {e:TypeId} {enc:α->List D} {sz:α->Nat} {szL:List α->Nat} (h0:szL []=0) (hc:∀ a l,szL (a :: l)=sz a+szL l) (N:Nat) (ih:∀ ds,zaH ds<=N->Typed Tryz.prog e ds->∃ t,ds=enc t/\sz t<=zaH ds):∀ rows:List (List D),zfF rows<=N->(∀ i (hi:i<rows.length),Typed Tryz.prog e rows[i])->∃ l:List α,rows=l.map enc/\szL l<=zfF rows
 | [],_,_=>⟨[],rfl,by rw [h0];exact Nat.zero_le _⟩
 | r :: rows,hN,h=>by
  simp only [zfF] at hN
  obtain⟨t,ht,hn⟩:=ih r (by omega) (by have:=h 0 (by simp);simpa using this)
  obtain⟨l,hl,hn2⟩:=zcL h0 hc N ih rows (by omega) fun i hi=>by have:=h (i+1) (by simpa using hi);simpa using this
  subst ht hl
  refine⟨t :: l,rfl,?_⟩
  rw [hc]
  simp only [zfF]
  omega
theorem zzh (N:Nat):∀ ds:List D,zaH ds<=N->Typed Tryz.prog 105 ds->∃ t:Ex,ds=zbj t/\nodesE t<=zaH ds:=by
 induction N with
 | zero=>
  intro ds hN h
  obtain⟨parts,rfl,hl,hp⟩:=zby h Tryz.underlying105
  match parts,hl with
  | [p0,p1,p2,p3,p4,p5],_=>
   obtain⟨k,rfl,_⟩:=zcR (hp 0 (by decide) (by simp)) Tryz.underlying3
   simp [zaH,D.size] at hN
 | succ N ih=>
  intro ds hN h
  obtain⟨parts,rfl,hl,hp⟩:=zby h Tryz.underlying105
  match parts,hl with
  | [p0,p1,p2,p3,p4,p5],_=>
   obtain⟨k,rfl,_⟩:=zcR (hp 0 (by decide) (by simp)) Tryz.underlying3
   obtain⟨n,e1,_⟩:=zbN (hp 1 (by decide) (by simp)) Tryz.underlying9
   obtain⟨m,e2,_⟩:=zbN (hp 2 (by decide) (by simp)) Tryz.underlying9
   obtain⟨i,e3,_⟩:=zcR (hp 3 (by decide) (by simp)) Tryz.underlying3
   obtain⟨d,e4,_⟩:=zcR (hp 4 (by decide) (by simp)) Tryz.underlying3
   obtain⟨rows,e5,hr⟩:=zbW (hp 5 (by decide) (by simp)) Tryz.underlying103
   have e1:p1=[.raw (.string n)]:=e1
   have e2:p2=[.raw (.string m)]:=e2
   have e3:p3=[.raw (.int .i64 i)]:=e3
   have e4:p4=[.raw (.int .i64 d)]:=e4
   have e5:p5=[.sl rows]:=e5
   subst e1 e2 e3 e4 e5
   simp only [List.flatten_cons,List.flatten_nil,List.append_nil,List.cons_append,List.nil_append,zaH,D.size] at hN ⊢
   obtain⟨l,rfl,hn⟩:=zcL (enc:=zbj) (sz:=nodesE) (szL:=nodesL) rfl (fun _ _=>rfl) N ih rows (by omega) hr
   refine⟨.mk k n m i d l,?_,?_⟩
   ·rw [zbj,zdZ]
   ·rw [nodesE];omega
theorem ztV {ds:List D} (h:Typed Tryz.prog 107 ds):∃ x:Dc,ds=zcb x/\nodesE x.body+x.names.length<=zaH ds:=by
 obtain⟨parts,rfl,hl,hp⟩:=zby h Tryz.underlying107
 match parts,hl with
 | [p0,p1,p2,p3,p4,p5],_=>
  obtain⟨id,e0,_⟩:=zcR (hp 0 (by decide) (by simp)) Tryz.underlying3
  obtain⟨kind,e1,_⟩:=zcR (hp 1 (by decide) (by simp)) Tryz.underlying3
  obtain⟨pub,e2⟩:=zeJ (hp 2 (by decide) (by simp)) Tryz.underlying4
  obtain⟨rows,e3,hr⟩:=zbW (hp 3 (by decide) (by simp)) Tryz.underlying53
  obtain⟨doubt,e4⟩:=zeJ (hp 4 (by decide) (by simp)) Tryz.underlying4
  obtain⟨b,e5,hb0⟩:=zzh _ _ (Nat.le_refl _) (hp 5 (by decide) (by simp))
  obtain⟨names,e6,hn⟩:=zir Tryz.underlying9 rows hr
  have e0:p0=[.raw (.int .i64 id)]:=e0
  have e1:p1=[.raw (.int .i64 kind)]:=e1
  have e2:p2=[.raw (.bool pub)]:=e2
  have e3:p3=[.sl rows]:=e3
  have e4:p4=[.raw (.bool doubt)]:=e4
  have e5:p5=zbj b:=e5
  have hb5:nodesE b<=zaH p5:=hb0
  clear hb0
  rw [e5] at hb5
  subst e0 e1 e2 e3 e4 e5 e6
  refine⟨⟨id,kind,pub,names,doubt,b⟩,?_,?_⟩
  ·simp only [List.flatten_cons,List.flatten_nil,List.append_nil,List.cons_append,List.nil_append,zcb,zax]
  ·simp only [List.flatten_cons,List.flatten_nil,List.append_nil,List.cons_append,List.nil_append,zaH,D.size,zax] at hb5 ⊢
   omega
def zhk (l:List Dc):Nat:=(l.map fun x=>nodesE x.body+x.names.length).sum
def zzO:List TypeId:=[3,9,4,105,103,53,107,54,101]
theorem zva {l:List Dc} {x:Dc} (h:x ∈ l):nodesE x.body+x.names.length<=zhk l:=by
 induction l with
 | nil=>cases h
 | cons y l ih=>
  simp only [zhk,List.map_cons,List.sum_cons]
  rcases List.mem_cons.1 h with rfl | h
  ·omega
  ·have:=ih h
   simp only [zhk] at this
   omega
end
end
end Go.Proofs.YtpnjjmcimjlfkaaGreatDoor
namespace Go.Proofs
open Go.Shelf
def Tryz.lays149_ren:Go.Shelf.Ren:=⟨fun | 149=>144 | 222=>223 | n=>n,fun | 9=>9 | 5=>5 | 3=>3 | 4=>4 | n=>n,fun | n=>n⟩
theorem Tryz.lays149:Go.Proofs.Lays.n149 Tryz.prog Tryz.lays149_ren:={
 mixed:=by kernel_rfl
 f149:=Tryz.func144.trans (congrArg some (by kernel_rfl))
 f222:=Tryz.func223.trans (congrArg some (by kernel_rfl))
 t3:=Tryz.underlying3
 a3:=Tryz.isAgg3
 z3:=Tryz.sizeOf3
 v3:=Tryz.zeroValue3
 t4:=Tryz.underlying4
 a4:=Tryz.isAgg4
 z4:=Tryz.sizeOf4
 v4:=Tryz.zeroValue4
 t5:=Tryz.underlying5
 a5:=Tryz.isAgg5
 z5:=Tryz.sizeOf5
 v5:=Tryz.zeroValue5
 t9:=Tryz.underlying9
 a9:=Tryz.isAgg9
 z9:=Tryz.sizeOf9
 v9:=Tryz.zeroValue9 }
open Go.RowKit Go.Lib in
theorem Tryz.strings_LastIndexByte (s:ByteArray) (c:Int) (hs:s.size<4611686018427387904) (w:World) :
  Calls Tryz.prog 144 #[.string s,.int .u8 c] w fun e w'=>e = .returned (.int .i64 (Lib.lastIndexByte s c))/\w'=w:=Any.strings_LastIndexByte Tryz.lays149 s c hs w
def Tryz.lays104_ren:Go.Shelf.Ren:=⟨fun | 104=>75 | 211=>143 | 207=>222 | n=>n,fun | 9=>9 | 4=>4 | 24=>112 | 3=>3 | n=>n,fun | n=>n⟩
theorem Tryz.lays104:Go.Proofs.Lays.n104 Tryz.prog Tryz.lays104_ren:={
 mixed:=by kernel_rfl
 f104:=Tryz.func75.trans (congrArg some (by kernel_rfl))
 f207:=Tryz.func222.trans (congrArg some (by kernel_rfl))
 f211:=Tryz.func143.trans (congrArg some (by kernel_rfl))
 t3:=Tryz.underlying3
 a3:=Tryz.isAgg3
 z3:=Tryz.sizeOf3
 v3:=Tryz.zeroValue3
 t4:=Tryz.underlying4
 a4:=Tryz.isAgg4
 z4:=Tryz.sizeOf4
 v4:=Tryz.zeroValue4
 t9:=Tryz.underlying9
 a9:=Tryz.isAgg9
 z9:=Tryz.sizeOf9
 v9:=Tryz.zeroValue9
 t24:=Tryz.underlying112
 a24:=Tryz.isAgg112
 z24:=Tryz.sizeOf112
 v24:=Tryz.zeroValue112 }
open Go.RowKit in
theorem Tryz.strings_CutSuffix (s p:ByteArray) (w:World) (hs:s.size<=9223372036854775807) :
  Calls Tryz.prog 75 #[.string s,.string p] w fun e w'=>e = .returned (.tuple #[.string ⟨(Lib.trimSuffix s.data.toList p.data.toList).toArray⟩,.bool (Lib.hasSuffix s.data.toList p.data.toList)])/\w'=w:=Any.strings_CutSuffix Tryz.lays104 s p w hs
end Go.Proofs
namespace Go.Proofs.YtpnjjmcimjlfkaaGreatDoor
section
open Go Go.RowKit
theorem con_raw {P:Program} {f:FuncId} {vs:List Value} {y:AV} {r:Value} (he:zcQ P f) (hc:y.closed=true) (hy:∀ w F,zch w F y r) (h:∀ (w:World),Calls P f vs.toArray w fun e w'=>e = .returned r/\Below w.heap.size w w'):Con P f (vs.map fun v=>.d (.raw v)) y:=by
 refine⟨he,hc,fun F w us hF _ hl hv=>?_⟩
 obtain rfl:us=vs:=by
  refine List.ext_getElem (by simpa using hl.symm) fun i h1 h2=>?_
  have h0:=hv i (by simpa using h2) h1
  rw [List.getElem_map] at h0
  exact h0.raw_eq
 exact(h w).mono fun e w' h'=>⟨r,h'.1,hy _ _,h'.2⟩
theorem zmX (n:ByteArray):zal (.mk 3 n ⟨#[]⟩ 0 0 [])=0 ↔ zcd n=true:=by
 have hs:zbO 3=some (1,0,0):=rfl
 have ha:zbg 1 0 0 n ⟨#[]⟩ 0 0 0=true:=rfl
 rw [zlg (by simp [nodesE,nodesL]) (by simp [zbU,zcP]),zbI]
 show(if zbe 3 n ⟨#[]⟩ 0 0 0=0 then zcm [] else zbe 3 n ⟨#[]⟩ 0 0 0)=0 ↔ _
 cases h:zcd n with
 | true=>
  have hn:zj 3 n ⟨#[]⟩ (decide (1<=1)) (decide (2<=1))=0:=by simp [zj,zaE,zaN,h]
  rw [zgD hs ha hn]
  exact⟨fun _=>rfl,fun _=>rfl⟩
 | false=>
  have hn:zj 3 n ⟨#[]⟩ (decide (1<=1)) (decide (2<=1))=6:=by simp [zj,zaE,zaN,h]
  rw [zgE hs ha (by rw [hn];decide),hn]
  exact⟨fun h=>absurd h (by decide),fun h=>(by cases h)⟩
theorem zwS (s:ByteArray):Con Tryz.prog 135 [.d (.raw (.string s))] (.d (.raw (.bool (zcd s)))):=by
 refine kO Tryz.func135 Tryz.ntmps135 fun A hA=>?_
 have hx:decide (zal (.mk 3 s ⟨#[]⟩ 0 0 [])=0)=zcd s:=by
  cases h:zcd s with
  | true=>exact decide_eq_true ((zmX s).2 h)
  | false=>exact decide_eq_false fun h'=>by rw [(zmX s).1 h'] at h;cases h
 refine goC 400 ?_
 simp only [go_sem,hA]
 refine gC (zeo (.mk 3 s ⟨#[]⟩ 0 0 []) (by simp [nodesE,nodesL])) ?_ rfl (by simp only [go_sem,zaB,Ex.kind,Ex.name,Ex.more,Ex.int,Ex.den,Ex.sub,zaF])
 simp only [go_sem,hA,hx,Tryz.results135]
theorem zvk (s:ByteArray) (hs:s.size<4611686018427387904):Con Tryz.prog 144 [.d (.raw (.string s)),.d (.raw (.int .u8 47))] (.d (.raw (.int .i64 (Lib.lastIndexByte s 47)))):=
 con_raw (vs:=[.string s,.int .u8 47]) ⟨_,Tryz.func144,by decide +kernel,rfl⟩ rfl (fun _ _=>.d (.raw _)) fun w=>(Tryz.strings_LastIndexByte s 47 hs w).mono fun e w' h=>⟨h.1,h.2 ▸ Below.refl _ _⟩
def zcc (s:ByteArray):ByteArray:=if zbR s.data.toList then s.extract (Lib.lastIndexByte s 47+1).toNat s.size else ⟨#[]⟩
theorem zqE (s:ByteArray):-1<=Lib.lastIndexByte s 47/\Lib.lastIndexByte s 47<(s.size:Int):=by
 unfold Lib.lastIndexByte
 rcases Lib.lastIdx_spec s 47 s.size with⟨h,_⟩ | ⟨i,h1,h2,_⟩
 ·rw [h];omega
 ·rw [h2];omega
theorem zrs (s:ByteArray):Con Tryz.prog 76 [.d (.raw (.string s))] (.d (.raw (.string (zcc s)))):=by
 refine kO Tryz.func76 Tryz.ntmps76 fun A hA=>?_
 refine goC 400 ?_
 simp only [go_sem,hA]
 refine gC (zmd s) ?_
 cases hl:zbR s.data.toList with
 | false=>
  have hr:zcc s=⟨#[]⟩:=by unfold zcc;rw [hl];rfl
  simp only [go_sem,hA,hr,Tryz.results76]
 | true=>
  have hr:zcc s=s.extract (Lib.lastIndexByte s 47+1).toNat s.size:=by unfold zcc;rw [hl];rfl
  have hsz:s.size<=90:=by
   unfold zbR at hl
   simp only [Bool.and_eq_true,decide_eq_true_eq] at hl
   exact hl.1
  obtain⟨h1,h2⟩:=zqE s
  simp only [go_sem,hA]
  refine gC (zvk s (by omega)) ?_
  simp only [go_sem,hA,hr,Tryz.results76]
  exact⟨by unfold za;omega,⟨by omega,by omega⟩,by rw [Int.toNat_natCast]⟩
def zgT (label:ByteArray) (l:List ByteArray) (q:Nat):Int:=
 if zcd (zcc (atB l q)) then (if (l.take q).any (fun u=>decide (zcc u=zcc (atB l q))) then 7 else if atB l q=label then 23 else 0) else 6
abbrev zDv (label:ByteArray) (l:List ByteArray) (q k:Nat):St:=⟨[(0,.d (.raw (.string label))),(1,.d (.sl (zQ l))),(2,.d (.raw (.int .i64 q))),(7,.d (.raw (.string (zcc (atB l q))))),(20,.d (.sl (zQ (l.take q)))),(21,.d (.raw (.int .i64 q))),(22,.d (.raw (.int .i64 k)))],[],[]⟩
theorem zvF (label:ByteArray) (l:List ByteArray) (q:Nat) (hq:q<l.length) (hl:l.length<=1048576):Con Tryz.prog 69 [.d (.raw (.string label)),.d (.sl (zQ l)),.d (.raw (.int .i64 q))] (.d (.raw (.int .i64 (zgT label l q)))):=by
 refine kO Tryz.func69 Tryz.ntmps69 fun A hA=>?_
 have hat:=zrq l q hq
 refine goC 400 ?_
 simp only [go_sem,hA,Int.toNat_natCast,zg,zbC l q hq]
 refine⟨⟨by omega,by omega⟩,?_⟩
 refine gC (zrs l[q]) ?_
 simp only [go_sem,hA]
 refine gC (zwS (zcc l[q])) ?_
 cases hn:zcd (zcc l[q]) with
 | false=>
  have hr:zgT label l q=6:=by unfold zgT;rw [hat,hn];rfl
  simp only [go_sem,hA,hr,Tryz.results69]
 | true=>
 have hu:zgT label l q=if (l.take q).any (fun u=>decide (zcc u=zcc l[q])) then 7 else if l[q]=label then 23 else 0:=by unfold zgT;rw [hat,hn];rfl
 have htl:(l.take q).length=q:=by rw [List.length_take];omega
 simp only [go_sem,hA,Int.toNat_natCast,zg,zyo,htl]
 refine⟨⟨fun r hr=>?_,by omega,by omega⟩,?_⟩
 ·exact zdY l r hr
 refine zc [0,1,2,7,20,21,22] [] [] (fun y σ=>∃ k:Nat,k<=q/\y=q - k/\(l.take k).any (fun u=>decide (zcc u=zcc l[q]))=false/\σ=zDv label l q k) q ⟨0,by omega,by omega,rfl,by simp only [go_sem,zDv,hat]⟩ ?_
 rintro y σ ⟨k,hk,rfl,hf,rfl⟩
 refine goC 400 ?_
 by_cases hlt:k<q
 ·have k1:decide ((k:Int)<(q:Int))=true:=decide_eq_true (by omega)
  have hkl:k<(l.take q).length:=by omega
  have hk2:(l.take q)[k]=l[k]:=List.getElem_take
  simp only [go_sem,hA,zDv,zg,htl,k1,Int.toNat_natCast,zbC (l.take q) k hkl,hk2]
  refine⟨⟨by omega,by omega⟩,?_⟩
  refine gC (zrs l[k]) ?_
  cases he:decide (zcc l[k]=zcc l[q]) with
  | true=>
   have hr:zgT label l q=7:=by
    rw [hu,if_pos]
    exact List.any_eq_true.2 ⟨l[k],List.mem_take_iff_getElem.2 ⟨k,by omega,rfl⟩,he⟩
   simp only [go_sem,hA,hat,he,hr,Tryz.results69]
  | false=>
   simp only [go_sem,hA,hat,he]
   refine⟨by unfold za;omega,q - (k+1),by omega,k+1,by omega,rfl,?_,rfl⟩
   rw [List.take_succ_eq_append_getElem (by omega),List.any_append,hf]
   simp [he]
 ·obtain rfl:k=q:=by omega
  have k1:decide ((k:Int)<(k:Int))=false:=decide_eq_false (by omega)
  simp only [go_sem,hA,zDv,k1,Int.toNat_natCast,zg,zbC l k hq]
  refine⟨⟨by omega,by omega⟩,?_⟩
  rw [hf] at hu
  by_cases h2:l[k]=label
  ·have g2:decide (l[k]=label)=true:=decide_eq_true h2
   have hr:zgT label l k=23:=by rw [hu];exact if_pos h2
   simp only [go_sem,hA,g2,hr,Tryz.results69]
  ·have g2:decide (l[k]=label)=false:=decide_eq_false h2
   have hr:zgT label l k=0:=by rw [hu];exact if_neg h2
   simp only [go_sem,hA,g2,hr,Tryz.results69]
end
end Go.Proofs.YtpnjjmcimjlfkaaGreatDoor
