/- Texts of this proof, part 11: what the proof uses of them. -/
import Derived.Test.YtpnjjmcimjlfkaaGreatDoorDaj
import Derived.Test.YtpnjjmcimjlfkaaGreatDoorDag
import Derived.Test.YtpnjjmcimjlfkaaGreatDoorDah
import Derived.Test.YtpnjjmcimjlfkaaGreatDoorDae
import Derived.Test.YtpnjjmcimjlfkaaGreatDoorDaf
set_option maxRecDepth 100000
set_option maxHeartbeats 64000000
namespace Go.Proofs.YtpnjjmcimjlfkaaGreatDoor
section
section
open Go.RowKit Go.Shelf
attribute [local go_sem] Oper.semAt_some
theorem zpw {w:World} {E:Array Value} {res n:Int} {W:World} {D D2:Nat} (h:CkFrame w E res n W) (h2:W.heap[D2]? = some (.deferred (some []))) (h1:W.heap[D]? = some (.deferred (some []))) (hne:D≠D2) (hw2:w.heap.size≤D2) (hw1:w.heap.size≤D) :
  (W.putObj D2 (.deferred none)).heap[D]? = some (.deferred (some []))∧((W.putObj D2 (.deferred none)).putObj D (.deferred none)).cell? ⟨w.heap.size+1,0,none⟩=some (.int .i64 res)∧Below w.heap.size w ((W.putObj D2 (.deferred none)).putObj D (.deferred none)):=by
 have q:(W.putObj D2 (.deferred none)).heap[D]? = some (.deferred (some [])):=(World.putObj_heap_other hne).trans h1
 refine⟨q,?_,?_⟩
 ·have c1:=cell_kept (cell_of_one h.r) (grownBy_putObj' W D2 (.deferred none)) (fun r e=>by cases e;exact⟨_,h2,rfl⟩)
  exact cell_kept c1 (grownBy_putObj' _ D (.deferred none)) (fun r e=>by cases e;exact⟨_,q,rfl⟩)
 ·exact(h.below.trans (belowK_b (w:=w) (Nat.le_refl _) W D2 _ _ hw2 h2 rfl rfl)).trans (belowK_b (w:=w) (Nat.le_refl _) _ D _ _ hw1 q rfl rfl)
theorem zmW (k:Int) (nm mr:ByteArray) (it d:Int) (sub:List Ex) (sv:Value) (w:World) (hm:nodesL sub≤1048576) (hs:zbb w w.heap.size sub sv) :
  Calls Tryz.prog 137 #[.agg #[.int .i64 k,.string nm,.string mr,.int .i64 it,.int .i64 d,sv]] w fun e w'=>e = .returned (.int .i64 (zB (.mk k nm mr it d sub)))∧Below w.heap.size w w':=by
 obtain⟨p,cap,rfl,hcap,_⟩:=zcE hs
 refine(callsIn_wide (n:=4)).1 ?_
 refine callsIn_of_wp_marks Tryz.func137 rfl trivial ?_ rfl
 simp only [Tryz.ntmps137,List.size_toArray,List.length_cons,List.length_nil,Nat.reduceAdd,Nat.reduceSub,Array.replicate_succ,Array.replicate_zero,List.push_toArray,List.append_toArray,List.nil_append,List.cons_append]
 gi_wp2_with (first | (refine⟨trivial,?_⟩;gi_at_call 215;refine(callsIn_wide.2 (ziB _ _ _ _ _ _ _ _ _)).mono ?_;rintro e w' ⟨rfl,rfl⟩))
 have HS:=Lib.hid hs
 obtain⟨V,hV⟩:∃ V,((((w.alloc (Obj.cells #[.int .i64 k,.string nm,.string mr,.int .i64 it,.int .i64 d,.slice p sub.length cap] 105)).alloc (Obj.cells #[Value.int IntKind.i64 0] 29)).alloc (Obj.cells #[Value.int IntKind.i64 0] 3)).alloc (Obj.cells #[.int .i64 k,.string nm,.string mr,.int .i64 it,.int .i64 d,.slice p sub.length cap] 105))=V:=⟨_,rfl⟩
 obtain⟨hF,hb4,hz⟩:=zCp w 105 29 3 #[.int .i64 k,.string nm,.string mr,.int .i64 it,.int .i64 d,.slice p sub.length cap] V hV
 rw [hV]
 clear hV hs
 refine zbA (P:=Tryz.prog) (F:=Fence.wide) (n:=4) rfl (by omega) (gf:=258) (lb:=#[.pointer (some ⟨w.heap.size+1+1+1,0,none⟩)]) rfl trivial (enters_of Tryz.func258 (by kernel_rfl) rfl)
  (encs:=fun x:ItN=>#[.int .i64 x.1,ziZ x]) (Kp:=KeepOut w.heap.size (w.heap.size+1+1+1)) (R:=ItStep (V.heap.size+1+1)) (X:=fun _ x=>zkc w w.heap.size x.2.1 (ziZ x))
  (S:=zeP (.mk k nm mr it d sub)) (Sp:=zeO (.mk k nm mr it d sub))
  (fun r l J Jx hJ _ hY hJ0=>zkx 3 l (w.heap.size+1+1+1) w.heap.size (w.heap.size+1+1+1) (by omega) k nm mr it d sub p cap w _ HS.out (zfd ((hF.below.alloc (by omega) _).alloc (by simp;omega) _)) (by omega) (Nat.le_refl _)
   ((Below.heap_alloc _ _ _ (by simp;omega)).trans ((Below.heap_alloc _ _ _ (by omega)).trans hb4)) hm J Jx (fun pre A B h1 h2=>hJ pre A B h1 (by simpa using h2)) hY hJ0)
  (fun h1 h2=>h1.trans h2) (fun W l o o' _ hl ho=>KeepOut.putObj W l o o' hl ho) (fun h=>h.others.from _) (fun _=>rfl)
  (Ck1 w #[.int .i64 k,.string nm,.string mr,.int .i64 it,.int .i64 d,.slice p sub.length cap]) (zGs w #[.int .i64 k,.string nm,.string mr,.int .i64 it,.int .i64 d,.slice p sub.length cap]) (zEz w _ _ (by omega)) (fun c=>zCr w _ c _ (by omega))
  (fun pre A B h hs=>⟨h.1.step hs (by omega),h.2⟩) (fun c pre A B h hs=>⟨h.1,⟨_,h.2.1.choose_spec.step hs (by omega)⟩,h.2.2⟩) ⟨hF,by simp,by simp⟩
  (fun x=>{ tmps:=#[Value.agg #[.int .i64 k,.string nm,.string mr,.int .i64 it,.int .i64 d,.slice p sub.length cap],Value.pointer (some { block:=w.heap.size,off:=0 }),Value.pointer (some { block:=w.heap.size+1,off:=0 }),Value.pointer (some { block:=w.heap.size+1+1,off:=0 }),Value.int .i64 x.1,undef,undef,undef,
        Value.agg #[.int .i64 k,.string nm,.string mr,.int .i64 it,.int .i64 d,.slice p sub.length cap],Value.func (Fn.func 258) #[] #[Value.pointer (some { block:=w.heap.size+1+1+1,off:=0 })],Value.int .i64 x.1,ziZ x,undef,undef,undef,undef,undef,undef,undef,undef,undef,undef,undef,undef,undef,undef,undef,undef,undef],defers:=[] }) ?assign ?body ?done ?stop
 case assign=>
  intro l x W K hK
  gi_wp2
  exact hK
 case body=>
  rintro l pre x W hI -
  have c0:=cell_of_one hI.1.c
  have f0:=free_of_one hI.1.c
  have c1:=cell_of_one hI.1.r
  have f1:=free_of_one hI.1.r
  have hle:=hI.2.1
  have HI:=Lib.hid hI
  clear hI
  have hsz:=HI.out.1.size
  by_cases hgt:400<pre.length+1
  ·have hd:decide (400<(pre.length:Int)+1)=true:=by simp;omega
   gi_wp2_with fail
   refine⟨((KeepsOthers.setCell _ _ _).trans (KeepsOthers.setCell _ _ _)).from _,rfl,⟨_,(HI.out.1.setCnt _).setRes 4⟩,.inl (by simp;omega)⟩
  ·have hd:decide (400<(pre.length:Int)+1)=false:=by simp;omega
   by_cases hx:40<x.1
   ·have hd2:decide (40<(x.1:Int))=true:=by simp;omega
    gi_wp2_with fail
    refine⟨((KeepsOthers.setCell _ _ _).trans (KeepsOthers.setCell _ _ _)).from _,rfl,⟨_,(HI.out.1.setCnt _).setRes 4⟩,.inr ⟨x,by simp,hx⟩⟩
   ·have hd2:decide (40<(x.1:Int))=false:=by simp;omega
    gi_wp2_with fail
    have hF':=HI.out.1.setCnt ((pre.length:Int)+1)
    refine⟨(KeepsOthers.setCell _ _ _).from _,(KeepOut.below (Below.refl _ _)).setCell (p:=⟨w.heap.size+1+1,0,none⟩) (by simp;omega) _,?_,by simp;omega,?_⟩
    ·have e1:((pre++[x]).length:Int)=(pre.length:Int)+1:=by simp
     rw [e1];exact hF'
    ·intro z hz
     rcases List.mem_append.1 hz with h | h
     ·exact HI.out.2.2 z h
     ·simp at h;subst h;omega
 case done=>
  rintro D xs W hD hS hI hK
  obtain⟨hg1,hg2⟩:=zwn hS hI.2.1 hI.2.2
  have HX:=Lib.hid (zhx hg1 hg2)
  have hF2:=hI.1
  have hW2:w.heap.size+1+1+1+1≤W.heap.size:=hF2.size
  clear hI hg1 hg2 hS
  have hcell:∀ i (h:i<6),W.cell? ⟨w.heap.size,i,none⟩=some (#[.int .i64 k,.string nm,.string mr,.int .i64 it,.int .i64 d,.slice p sub.length cap][i]'h):=fun i h=>by simp [World.cell?,hF2.e]
  have c0:W.cell? ⟨w.heap.size,0,none⟩=some (.int .i64 k):=hcell 0 (by omega)
  have c1:W.cell? ⟨w.heap.size,1,none⟩=some (.string nm):=hcell 1 (by omega)
  have c2:W.cell? ⟨w.heap.size,2,none⟩=some (.string mr):=hcell 2 (by omega)
  have c3:W.cell? ⟨w.heap.size,3,none⟩=some (.int .i64 it):=hcell 3 (by omega)
  have c4:W.cell? ⟨w.heap.size,4,none⟩=some (.int .i64 d):=hcell 4 (by omega)
  have c5:W.cell? ⟨w.heap.size,5,none⟩=some (.slice p sub.length cap):=hcell 5 (by omega)
  clear hcell
  gi_wp2_with (first | (refine⟨trivial,?_⟩;gi_at_call 215;refine(callsIn_wide.2 (ziB _ _ _ _ _ _ _ _ _)).mono ?_;rintro e w' ⟨rfl,rfl⟩))
  obtain⟨V2,hV2⟩:∃ V2,W.alloc (.cells #[.int .i64 k,.string nm,.string mr,.int .i64 it,.int .i64 d,.slice p sub.length cap] 105)=V2:=⟨_,rfl⟩
  have hF3:CkFrame w #[.int .i64 k,.string nm,.string mr,.int .i64 it,.int .i64 d,.slice p sub.length cap] 0 xs.length V2:=by rw [← hV2];exact hF2.kept ((Below.refl _ _).alloc (Nat.le_refl _) _)
  have hb5:V2.heap[W.heap.size]? = some (.cells #[.int .i64 k,.string nm,.string mr,.int .i64 it,.int .i64 d,.slice p sub.length cap] 105 (0,0)):=by rw [← hV2];exact World.alloc_heap_new W _
  have hz2:V2.heap.size=W.heap.size+1:=by rw [← hV2];simp
  have hDW:=(Array.getElem?_eq_some_iff.1 hK).1
  have hK2:V2.heap[D]? = some (.deferred (some [])):=by rw [← hV2];exact(Below.heap_alloc _ _ _ hDW).trans hK
  rw [hV2]
  clear hV2 c0 c1 c2 c3 c4 c5
  refine zfo (P:=Tryz.prog) (F:=Fence.wide) (n:=4) rfl (by omega) (gf:=258) (lb:=#[.pointer (some ⟨W.heap.size,0,none⟩)]) rfl trivial (enters_of Tryz.func258 (by kernel_rfl) rfl)
   (encs:=fun x:ItN=>#[.int .i64 x.1,ziZ x]) (Kp:=KeepOut w.heap.size (w.heap.size+1+1+1)) (R:=ItStep (V2.heap.size+1+1)) (X:=fun _ x=>zkc w w.heap.size x.2.1 (ziZ x))
   (S:=zeP (.mk k nm mr it d sub)) (Sp:=zeO (.mk k nm mr it d sub))
   (fun r l J Jx hJ _ hY hJ0=>zkx 3 l W.heap.size w.heap.size (w.heap.size+1+1+1) (by omega) k nm mr it d sub p cap w _ HS.out (zfd ((hF3.below.alloc (by omega) _).alloc (by simp;omega) _)) (by omega) (by omega)
    ((Below.heap_alloc _ _ _ (by simp;omega)).trans ((Below.heap_alloc _ _ _ (by omega)).trans hb5)) hm J Jx (fun pre A B h1 h2=>hJ pre A B h1 (by simpa using h2)) hY hJ0)
   (fun h1 h2=>h1.trans h2) (fun W l o o' _ hl ho=>KeepOut.putObj W l o o' hl ho) (fun h=>h.others.from _) (fun _=>rfl)
   (Ck2 w #[.int .i64 k,.string nm,.string mr,.int .i64 it,.int .i64 d,.slice p sub.length cap] D) (zGr w #[.int .i64 k,.string nm,.string mr,.int .i64 it,.int .i64 d,.slice p sub.length cap] D) (zEy w _ _ _ (by omega) (by omega)) (fun c=>zCq w _ _ c _ (by omega) (by omega))
   (fun pre A B h hs=>⟨⟨_,h.1.choose_spec.step hs (by omega)⟩,h.2.1,hs.others.same _ _ h.2.2 rfl⟩) (fun c pre A B h hs=>by
    obtain⟨h1,err,n,h2,h3,h4,h5⟩:=h
    exact⟨h1,err,n,h2.step hs (by omega),h3,h4,hs.others.same _ _ h5 rfl⟩) ⟨⟨_,hF3⟩,rfl,hK2⟩
   (fun x b=>{ tmps:=#[Value.agg #[.int .i64 k,.string nm,.string mr,.int .i64 it,.int .i64 d,.slice p sub.length cap],Value.pointer (some { block:=w.heap.size,off:=0 }),Value.pointer (some { block:=w.heap.size+1,off:=0 }),Value.pointer (some { block:=w.heap.size+1+1,off:=0 }),undef,undef,Value.pointer (some { block:=b,off:=0 }),undef,
         Value.agg #[.int .i64 k,.string nm,.string mr,.int .i64 it,.int .i64 d,.slice p sub.length cap],Value.func (Fn.func 258) #[] #[Value.pointer (some { block:=w.heap.size+1+1+1,off:=0 })],undef,undef,undef,undef,undef,undef,undef,undef,undef,undef,Value.agg #[.int .i64 k,.string nm,.string mr,.int .i64 it,.int .i64 d,.slice p sub.length cap],Value.func (Fn.func 258) #[] #[Value.pointer (some { block:=W.heap.size,off:=0 })],Value.int .i64 x.1,ziZ x,undef,undef,undef,undef,undef],defers:=[] })
   (fun x=>.cells #[.int .i64 x.2.1.kind,.string x.2.1.name,.string x.2.1.more,.int .i64 x.2.1.int,.int .i64 x.2.1.den,.slice x.2.2.1 x.2.1.sub.length x.2.2.2] 105) (fun W o=>KeepOut.below ((Below.refl _ _).alloc (Nat.le_refl _) _)) ?assign2 ?body2 ?done2 ?stop2
  case assign2=>
   intro l x W K hK
   gi_wp2
   exact hK
  case body2=>
   rintro l pre x b W5 hI - hbx hbV
   obtain⟨⟨n5,hF5⟩,hfe,hD5⟩:=hI
   have cr:=cell_of_one hF5.r
   have fr:=free_of_one hF5.r
   have g0:W5.cell? ⟨b,0,none⟩=some (.int .i64 x.2.1.kind):=by simp [World.cell?,hbx]
   have g1:W5.cell? ⟨b,1,none⟩=some (.string x.2.1.name):=by simp [World.cell?,hbx]
   have g2:W5.cell? ⟨b,2,none⟩=some (.string x.2.1.more):=by simp [World.cell?,hbx]
   have g3:W5.cell? ⟨b,3,none⟩=some (.int .i64 x.2.1.int):=by simp [World.cell?,hbx]
   have g4:W5.cell? ⟨b,4,none⟩=some (.int .i64 x.2.1.den):=by simp [World.cell?,hbx]
   have g5:W5.cell? ⟨b,5,none⟩=some (.slice x.2.2.1 x.2.1.sub.length x.2.2.2):=by simp [World.cell?,hbx]
   have HF5:=Lib.hid hF5
   have HFE:=Lib.hid hfe
   have HD5:=Lib.hid hD5
   have hs5:=hF5.size
   have HC:=Lib.hid (zmR x.2.1.kind x.2.1.name x.2.1.more x.2.1.int x.2.1.den x.2.2.1 x.2.1.sub.length x.2.2.2 W5)
   obtain⟨err,herr⟩:∃ err,zaW x.2.1.kind x.2.1.name x.2.1.more x.2.1.int x.2.1.den x.2.1.sub.length=err:=⟨_,rfl⟩
   rw [herr] at HC
   have HER:Hid (zmp x.2.1=err):=Lib.hid herr
   clear hF5 hfe hD5 hbx herr
   by_cases hz5:err=0
   ·subst hz5
    gi_wp2_with (first | (refine⟨trivial,?_⟩;gi_at_call 216;refine(CallsIn.inRound l (callsIn_wide.2 HC.out)).mono ?_;rintro e w' ⟨rfl,hb⟩;have HB:=Lib.hid hb;clear hb))
    refine⟨(zaS HB.out).from _,KeepOut.below HB.out,⟨_,HF5.out.kept HB.out⟩,?_,(HB.out.block _ (Array.getElem?_eq_some_iff.1 HD5.out).1).trans HD5.out⟩
    rw [List.map_append,zbU,if_pos HFE.out]
    simp only [List.map_cons,List.map_nil,zcd,zbh,HER.out,if_true]
   ·have hz6:(err != 0)=true:=by simpa using hz5
    gi_wp2_with (first | (refine⟨trivial,?_⟩;gi_at_call 216;refine(CallsIn.inRound l (callsIn_wide.2 HC.out)).mono ?_;rintro e w' ⟨rfl,hb⟩;have cr':=(hb.cell (p:=⟨w.heap.size+1,0,none⟩) (by show w.heap.size+1<_;omega)).trans cr;have fr':=(hb.frozen (p:=⟨w.heap.size+1,0,none⟩) (by show w.heap.size+1<_;omega)).trans fr;have HB:=Lib.hid hb;clear hb))
    refine⟨((zaS HB.out).trans (KeepsOthers.setCell _ _ _)).from _,rfl,err,_,(HF5.out.kept HB.out).setRes err,hz5,?_,(KeepsOthers.setCell _ _ _).same _ _ ((HB.out.block _ (Array.getElem?_eq_some_iff.1 HD5.out).1).trans HD5.out) rfl⟩
    rw [List.map_append,zbU,if_pos HFE.out]
    simp only [List.map_cons,List.map_nil,zcd,zbh,HER.out,if_neg hz5]
  case done2=>
   rintro D2 ys W6 hD2 hS2 ⟨⟨n6,hF6⟩,hfe,hD6⟩ hK6
   have hch:zaj (.mk k nm mr it d sub)=0:=by rw [zgF 1,← (show _=_ from hS2)];exact hfe
   have cr:=cell_of_one hF6.r
   have fr:=free_of_one hF6.r
   have HF6:=Lib.hid hF6
   have HCH:=Lib.hid hch
   clear hF6 hch
   gi_wp2_with fail
   have hF7:=HF6.out.setRes 0
   have hK7:=(KeepsOthers.setCell W6 ⟨w.heap.size+1,0,none⟩ (.int .i64 0)).same D2 _ hK6 rfl
   have hD7:=(KeepsOthers.setCell W6 ⟨w.heap.size+1,0,none⟩ (.int .i64 0)).same D _ hD6 rfl
   generalize W6.setCell ⟨w.heap.size+1,0,none⟩ (.int .i64 0)=W7 at *
   obtain⟨hx1,hx2,hx3⟩:=zpw hF7 hK7 hD7 (by omega) (by omega) (by omega)
   refine⟨by simp,.inl ⟨_,_,rfl,run_takeDeferred hK7,⟨by simp,.inl ⟨_,_,rfl,run_takeDeferred hx1,?_⟩⟩⟩⟩
   refine⟨.int .i64 0,?_,zk (a:=0) (by rw [HX.out,HCH.out]),hx3⟩
   simp [results,Tryz.f137,go_sem,hx2]
  case stop2=>
   rintro D2 c pre W6 hD2 hpre ⟨rfl,err,n6,hF6,hne,hfe,hD6⟩ hK6
   have hch:zaj (.mk k nm mr it d sub)=err:=by
    obtain⟨rest,hr⟩:=hpre
    rw [zgF 1,← hr,zbU,hfe,if_neg hne]
   gi_wp2_with fail
   obtain⟨hx1,hx2,hx3⟩:=zpw hF6 hK6 hD6 (by omega) (by omega) (by omega)
   refine⟨by simp,.inl ⟨_,_,rfl,run_takeDeferred hK6,⟨by simp,.inl ⟨_,_,rfl,run_takeDeferred hx1,?_⟩⟩⟩⟩
   refine⟨.int .i64 err,?_,zk (a:=err) (by rw [HX.out,hch]),hx3⟩
   simp [results,Tryz.f137,go_sem,hx2]
 case stop=>
  rintro D c pre W hD hpre ⟨rfl,⟨n,hF2⟩,hbad⟩ hK
  have HX:=Lib.hid (zzs hpre hbad)
  gi_wp2_with fail
  refine⟨by simp,.inl ⟨_,_,rfl,run_takeDeferred hK,?_⟩⟩
  have hc5:=cell_kept (cell_of_one hF2.r) (grownBy_putObj' _ D (.deferred none)) (fun r e=>by cases e;exact⟨_,hK,rfl⟩)
  refine⟨.int .i64 4,?_,zk (a:=4) HX.out.symm,hF2.below.trans (belowK_b (w:=w) (Nat.le_refl _) W D _ _ (by omega) hK rfl rfl)⟩
  simp [results,Tryz.f137,go_sem,hc5]
end
end
section
open Go Go.RowKit
mutual
def zaZ:Ex→List D
 | .mk k n m i d s=>[.raw (.int .i64 k),.raw (.string n),.raw (.string m),.raw (.int .i64 i),.raw (.int .i64 d),.sl (zaz s)]
def zaz:List Ex→List (List D)
 | []=>[]
 | e :: es=>zaZ e :: zaz es
end
theorem zbP (t:Ex):zaZ t=[.raw (.int .i64 t.kind),.raw (.string t.name),.raw (.string t.more),.raw (.int .i64 t.int),.raw (.int .i64 t.den),.sl (zaz t.sub)]:=by cases t;rfl
theorem zg:∀ l:List Ex,(zaz l).length=l.length
 | []=>rfl
 | e :: es=>by rw [zaz];simp [zg es]
theorem zbo (t:Ex):(zaZ t).length=6:=by cases t;rfl
theorem zdI:∀ l:List Ex,zaz l=l.map zaZ
 | []=>rfl
 | e :: es=>by rw [zaz,zdI es];rfl
theorem zzN (l:List Ex) (i:Nat) (h:i<l.length):(zaz l).getD i []=zaZ l[i]:=by
 rw [zdI];simp [List.getD_eq_getElem?_getD,h]
theorem zap (l:List Ex) (i:Nat) (h:i<l.length):(zaz l).getD i []=[.raw (.int .i64 l[i].kind),.raw (.string l[i].name),.raw (.string l[i].more),.raw (.int .i64 l[i].int),.raw (.int .i64 l[i].den),.sl (zaz l[i].sub)]:=by
 rw [zzN l i h,zbP]
theorem zht (l:List Ex):zD 6 (zaz l):=by
 intro r hr
 rw [zdI] at hr
 obtain⟨t,_,rfl⟩:=List.mem_map.1 hr
 refine⟨zbo t,fun x hx=>?_⟩
 rw [zbP] at hx
 simp only [List.mem_cons,List.not_mem_nil,or_false] at hx
 rcases hx with rfl | rfl | rfl | rfl | rfl | rfl <;> rfl
theorem zCc (l:List Ex) (i:Nat) (t:Ex):(zaz l).set i (zaZ t)=zaz (l.set i t):=by
 rw [zdI,zdI,List.map_set]
theorem zhu (a b:List Ex):zaz a++zaz b=zaz (a++b):=by simp [zdI]
def avE (t:Ex):AV:=.agg ((zaZ t).map .d)
theorem zl (t:Ex):avE t = .agg [.d (.raw (.int .i64 t.kind)),.d (.raw (.string t.name)),.d (.raw (.string t.more)),.d (.raw (.int .i64 t.int)),.d (.raw (.int .i64 t.den)),.d (.sl (zaz t.sub))]:=by
 rw [avE,zbP];rfl
end
section
open Go.RowKit
structure XV where
 k:Int
 n:ByteArray
 m:ByteArray
 i:Int
 d:Int
 p:Option Addr
 q:Nat
 c:Nat
abbrev XV.arr (x:XV):Array Value:=#[.int .i64 x.k,.string x.n,.string x.m,.int .i64 x.i,.int .i64 x.d,.slice x.p x.q x.c]
def XAt (w:World) (t:Ex) (x:XV):Prop:=zkc w w.heap.size t (.agg x.arr)
theorem ziY {w:World} {t:Ex} {x:XV} (h:XAt w t x):x=⟨t.kind,t.name,t.more,t.int,t.den,x.p,t.sub.length,x.c⟩∧zbb w w.heap.size t.sub (.slice x.p t.sub.length x.c):=by
 obtain⟨sv,he,hs⟩:=zfH.1 h
 obtain⟨k,n,m,i,d,p,q,c⟩:=x
 obtain⟨p',c',rfl,hc,hr⟩:=id hs
 simp only [XV.arr,Value.agg.injEq,Array.mk.injEq,List.cons.injEq,and_true,Value.int.injEq,Value.string.injEq,Value.slice.injEq,true_and] at he
 obtain⟨rfl,rfl,rfl,rfl,rfl,rfl,rfl,rfl⟩:=he
 exact⟨rfl,hs⟩
end
section
open Go Go.RowKit
theorem zsS {w:World} {B b:Nat}:∀ (l:List Ex) (off:Nat),(∀ k (h:k<l.length),ziX w B b (off+k * 6) l[k])→zdW w B b off l
 | [],off,_=>by simp [zdW]
 | e :: es,off,h=>by
  rw [zex]
  refine⟨by have h0:=h 0 (by simp);rw [Nat.zero_mul,Nat.add_zero] at h0;exact h0,zsS es (off+6) fun k hk=>?_⟩
  have:=h (k+1) (by simpa using hk)
  rw [show off+(k+1) * 6=off+6+k * 6 by omega] at this
  exact this
theorem zyO {w:World} {F:Nat→Nat→Prop} (hF:∀ b o,F b o→b<w.heap.size) (N:Nat):∀ (sub:List Ex) (v:Value),nodesL sub<N→Reads w F (.sl (zaz sub)) v→zbb w w.heap.size sub v:=by
 induction N with
 | zero=>intro sub v h;omega
 | succ N ih=>
  intro sub v hN h
  obtain⟨p,cap,rfl,hcap⟩:=h.slice
  rw [zg] at hcap h ⊢
  refine⟨p,cap,rfl,hcap,fun hpos=>?_⟩
  have hlen:=zg sub
  have hrow:∀ k (hk:k<sub.length),(zaz sub)[k]'(by omega)=zaZ sub[k]:=fun k hk=>by
   simp only [zdI,List.getElem_map]
  obtain⟨b,off,hp,h0⟩:=h.row 0 (by omega) (st:=6) (by rw [hrow 0 hpos];exact zbo _)
  have hb:b<w.heap.size:=by
   obtain⟨h1,_⟩:=h0 0 (by rw [hrow 0 hpos,zbo];omega)
   exact hF _ _ h1
  refine⟨b,off,hp,hb,zsS sub off fun k hk=>?_⟩
  obtain⟨b',off',hp',hk0⟩:=h.row k (by omega) (st:=6) (by rw [hrow k hk];exact zbo _)
  rw [hp] at hp'
  simp only [Option.some.injEq,Addr.mk.injEq,and_true] at hp'
  obtain⟨rfl,rfl⟩:=hp'
  have hn:=zam sub k hk
  rw [zcs] at hn
  have cell:∀ j (hj:j<6),∃ u,w.cell? ⟨b,off+k * 6+j,none⟩=some u∧Reads w F ((zaZ sub[k])[j]'(by rw [zbo];exact hj)) u:=fun j hj=>by
   obtain⟨_,u,h1,h2⟩:=hk0 j (by rw [hrow k hk,zbo];exact hj)
   refine⟨u,h1,?_⟩
   have e:((zaz sub)[k]'(by omega))[j]'(by rw [hrow k hk,zbo];exact hj)=(zaZ sub[k])[j]'(by rw [zbo];exact hj):=by simp only [hrow k hk]
   rw [← e];exact h2
  have enc:∀ j (hj:j<6),(zaZ sub[k])[j]'(by rw [zbo];exact hj)=[D.raw (.int .i64 sub[k].kind),.raw (.string sub[k].name),.raw (.string sub[k].more),.raw (.int .i64 sub[k].int),.raw (.int .i64 sub[k].den),.sl (zaz sub[k].sub)][j]:=fun j hj=>by
   simp only [zbP]
  obtain⟨u0,a0,b0⟩:=cell 0 (by omega);rw [enc 0 (by omega)] at b0
  obtain⟨u1,a1,b1⟩:=cell 1 (by omega);rw [enc 1 (by omega)] at b1
  obtain⟨u2,a2,b2⟩:=cell 2 (by omega);rw [enc 2 (by omega)] at b2
  obtain⟨u3,a3,b3⟩:=cell 3 (by omega);rw [enc 3 (by omega)] at b3
  obtain⟨u4,a4,b4⟩:=cell 4 (by omega);rw [enc 4 (by omega)] at b4
  obtain⟨u5,a5,b5⟩:=cell 5 (by omega);rw [enc 5 (by omega)] at b5
  obtain rfl:=b0.raw_eq
  obtain rfl:=b1.raw_eq
  obtain rfl:=b2.raw_eq
  obtain rfl:=b3.raw_eq
  obtain rfl:=b4.raw_eq
  exact⟨u5,a0,a1,a2,a3,a4,a5,ih _ _ (by omega) b5⟩
theorem zEJ {w:World} {F:Nat→Nat→Prop} {t:Ex} {v:Value} (hF:∀ b o,F b o→b<w.heap.size) (h:zcw w F (avE t) v):∃ x:XV,v = .agg x.arr∧XAt w t x:=by
 rw [zl] at h
 unfold zcw at h
 generalize hcs:[AV.d (.raw (.int .i64 t.kind)),.d (.raw (.string t.name)),.d (.raw (.string t.more)),.d (.raw (.int .i64 t.int)),.d (.raw (.int .i64 t.den)),.d (.sl (zaz t.sub))]=cs at h
 cases h with
 | agg _ vs hl hh=>
  subst hcs
  match vs,hl with
  | [v0,v1,v2,v3,v4,v5],_=>
   have g0:=hh 0 (by simp) (by simp)
   have g1:=hh 1 (by simp) (by simp)
   have g2:=hh 2 (by simp) (by simp)
   have g3:=hh 3 (by simp) (by simp)
   have g4:=hh 4 (by simp) (by simp)
   have g5:=hh 5 (by simp) (by simp)
   obtain rfl:v0=_:=g0.raw_eq
   obtain rfl:v1=_:=g1.raw_eq
   obtain rfl:v2=_:=g2.raw_eq
   obtain rfl:v3=_:=g3.raw_eq
   obtain rfl:v4=_:=g4.raw_eq
   have h5:Reads w F (.sl (zaz t.sub)) v5:=by
    simp only [List.getElem_cons_succ,List.getElem_cons_zero] at g5
    cases g5 with
    | d h=>exact h
   have hs:=zyO hF (nodesL t.sub+1) t.sub v5 (by omega) h5
   obtain⟨p,cap,rfl,hcap,hat⟩:=zcE hs
   exact⟨⟨t.kind,t.name,t.more,t.int,t.den,p,t.sub.length,cap⟩,rfl,by
    unfold XAt
    rw [zfH]
    exact⟨_,rfl,hs⟩⟩
theorem zoz {P:Program} {f:FuncId} {t:Ex} {r:Value} (he:zdm P f) (h:∀ (x:XV) (w:World),XAt w t x→Calls P f #[.agg x.arr] w fun e w'=>e = .returned r∧Below w.heap.size w w'):Con P f [avE t] (.d (.raw r)):=by
 refine⟨he,rfl,fun F w vs hF _ hl hv=>?_⟩
 match vs,hl with
 | [v],_=>
  obtain⟨x,rfl,hx⟩:=zEJ hF (hv 0 (by simp) (by simp))
  exact(h x w hx).mono fun e w' h'=>⟨r,h'.1,.d (.raw _),h'.2⟩
end
section
open Go Go.RowKit
def zv (l:List ByteArray):List (List D):=l.map fun s=>[.raw (.string s)]
theorem za (l:List ByteArray):(zv l).length=l.length:=by simp [zv]
theorem zF (l:List ByteArray) (i:Nat) (h:i<l.length):(zv l).getD i []=[.raw (.string l[i])]:=by
 simp [zv,List.getD_eq_getElem?_getD,h]
theorem zbn (l:List ByteArray):zD 1 (zv l):=by
 intro r hr
 obtain⟨s,_,rfl⟩:=List.mem_map.1 hr
 exact⟨rfl,fun x hx=>by simp at hx;subst hx;rfl⟩
theorem zhr (a b:List ByteArray):zv a++zv b=zv (a++b):=by simp [zv]
theorem zkO (l:List ByteArray) (n:Nat):(zv l).take n=zv (l.take n):=by simp [zv]
theorem zqr (l:List ByteArray) (n:Nat):(zv l).drop n=zv (l.drop n):=by simp [zv]
theorem zaG (l:List ByteArray):∀ r ∈ zv l,r.length=1:=fun r hr=>(zbn l r hr).1
def zbT (l:List ByteArray) (s:ByteArray):Bool:=l.any fun x=>decide (x=s)
theorem zoj (l:List ByteArray) (s:ByteArray) (q:Nat) (h:q<l.length):zbT (l.take (q+1)) s=(zbT (l.take q) s || decide (l[q]=s)):=by
 rw [List.take_succ_eq_append_getElem h,zbT,zbT,List.any_append];simp
theorem zEf {l:List ByteArray} {s:ByteArray} {q:Nat} (h:q<l.length) (e:l[q]=s):zbT l s=true:=List.any_eq_true.2 ⟨l[q],List.getElem_mem h,by simp [e]⟩
abbrev ztT (l:List ByteArray) (s:ByteArray) (q:Nat):St:=⟨[(0,.d (.sl (zv l))),(1,.d (.raw (.string s))),(5,.d (.raw (.int .i64 q)))],[],[]⟩
theorem zAR (l:List ByteArray) (s:ByteArray) (hl:l.length≤1048576):Con Tryz.prog 228 [.d (.sl (zv l)),.d (.raw (.string s))] (.d (.raw (.bool (zbT l s)))):=by
 refine zh Tryz.func228 rfl (by decide +kernel) rfl rfl (by simp [Tryz.ntmps228]) fun A hA=>?_
 rw [Tryz.ntmps228] at hA
 refine goC 300 ?_
 simp only [go_sem,hA]
 refine zd [0,1,5] [] [] (fun x σ=>∃ q:Nat,q≤l.length∧x=l.length - q∧zbT (l.take q) s=false∧σ=ztT l s q) l.length ⟨0,by omega,by omega,rfl,by simp only [go_sem,ztT]⟩ ?_
 rintro x σ ⟨q,hq,rfl,hf,rfl⟩
 refine goC 300 ?_
 by_cases hlt:q<l.length
 ·have g1:decide ((q:Int)<(l.length:Int))=true:=decide_eq_true (by omega)
  by_cases he:l[q]=s
  ·have g2:decide (l[q]=s)=true:=decide_eq_true he
   simp only [go_sem,hA,ztT,za,g1,Int.toNat_natCast,zF l q hlt,g2,Tryz.results228,zEf hlt he]
   exact⟨by omega,by omega⟩
  ·have g2:decide (l[q]=s)=false:=decide_eq_false he
   simp only [go_sem,hA,ztT,za,g1,Int.toNat_natCast,zF l q hlt,g2]
   exact⟨⟨by omega,by omega⟩,by unfold zc;omega,l.length - (q+1),by omega,q+1,by omega,rfl,by rw [zoj l s q hlt,hf,g2];rfl,rfl⟩
 ·have g1:decide ((q:Int)<(l.length:Int))=false:=decide_eq_false (by omega)
  obtain rfl:q=l.length:=by omega
  rw [List.take_length] at hf
  simp only [go_sem,hA,ztT,za,g1,Tryz.results228,hf]
def zcR:List ByteArray→List ByteArray→Bool
 | [],[]=>true
 | x :: xs,y :: ys=>decide (x=y) && zcR xs ys
 | _,_=>false
theorem zel:∀ a b:List ByteArray,zcR a b=true ↔ a=b
 | [],[]=>by simp [zcR]
 | x :: xs,y :: ys=>by simp only [zcR,Bool.and_eq_true,decide_eq_true_eq,zel xs ys,List.cons.injEq]
 | [],y :: ys=>by simp [zcR]
 | x :: xs,[]=>by simp [zcR]
theorem zli {a b:List ByteArray} (h:a≠b):zcR a b=false:=by
 cases hc:zcR a b
 ·rfl
 ·exact absurd ((zel a b).1 hc) h
abbrev zAw (l m:List ByteArray) (q:Nat):St:=⟨[(0,.d (.sl (zv l))),(1,.d (.sl (zv m))),(5,.d (.raw (.int .i64 q)))],[],[]⟩
theorem zez (l m:List ByteArray) (hl:l.length≤1048576):Con Tryz.prog 93 [.d (.sl (zv l)),.d (.sl (zv m))] (.d (.raw (.bool (zcR l m)))):=by
 refine zh Tryz.func93 rfl (by decide +kernel) rfl rfl (by simp [Tryz.ntmps93]) fun A hA=>?_
 rw [Tryz.ntmps93] at hA
 refine goC 300 ?_
 by_cases hlm:l.length=m.length
 ·have g0:(decide ¬ (l.length:Int)=(m.length:Int))=false:=decide_eq_false (by omega)
  simp only [go_sem,hA,za,g0]
  refine zd [0,1,5] [] [] (fun x σ=>∃ q:Nat,q≤l.length∧x=l.length - q∧l.take q=m.take q∧σ=zAw l m q) l.length ⟨0,by omega,by omega,rfl,by simp only [go_sem,zAw]⟩ ?_
  rintro x σ ⟨q,hq,rfl,hf,rfl⟩
  refine goC 300 ?_
  by_cases hlt:q<l.length
  ·have g1:decide ((q:Int)<(l.length:Int))=true:=decide_eq_true (by omega)
   by_cases he:l[q]=m[q]
   ·have g2:(decide ¬ l[q]=m[q])=false:=decide_eq_false (by simp [he])
    simp only [go_sem,hA,zAw,za,g1,Int.toNat_natCast,zF l q hlt,zF m q (by omega),g2,mixed]
    exact⟨⟨by omega,by omega⟩,⟨by omega,by omega⟩,by kernel_rfl,by unfold zc;omega,l.length - (q+1),by omega,q+1,by omega,rfl,by rw [List.take_succ_eq_append_getElem hlt,List.take_succ_eq_append_getElem (show q<m.length by omega),hf,he],rfl⟩
   ·have g2:(decide ¬ l[q]=m[q])=true:=decide_eq_true he
    have hne:zcR l m=false:=zli fun e=>he (by simp [e])
    simp only [go_sem,hA,zAw,za,g1,Int.toNat_natCast,zF l q hlt,zF m q (by omega),g2,mixed,Tryz.results93,hne]
    exact⟨⟨by omega,by omega⟩,⟨by omega,by omega⟩,by kernel_rfl⟩
  ·have g1:decide ((q:Int)<(l.length:Int))=false:=decide_eq_false (by omega)
   obtain rfl:q=l.length:=by omega
   have he:l=m:=by rw [List.take_length,List.take_of_length_le (by omega)] at hf;exact hf
   have hs:zcR l m=true:=(zel _ _).2 he
   simp only [go_sem,hA,zAw,za,g1,Tryz.results93,hs]
 ·have g0:(decide ¬ (l.length:Int)=(m.length:Int))=true:=decide_eq_true (by omega)
  have hne:zcR l m=false:=zli fun e=>hlm (by rw [e])
  simp only [go_sem,hA,za,g0,Tryz.results93,hne]
def ltS (a b:ByteArray):Bool:=Op.bytesLess a.data.toList b.data.toList
end
section
open Go Go.RowKit
mutual
def zbd (k:Int):Ex→Bool
 | .mk k' _ _ _ _ s=>decide (k'=k) || zbM k s
def zbM (k:Int):List Ex→Bool
 | []=>false
 | e :: es=>zbd k e || zbM k es
end
theorem zkD (k:Int) (l:List Ex) (q:Nat) (h:q<l.length):zbM k (l.take (q+1))=(zbM k (l.take q) || zbd k l[q]):=by
 have app:∀ a b:List Ex,zbM k (a++b)=(zbM k a || zbM k b):=fun a b=>by
  induction a with
  | nil=>simp [zbM]
  | cons x xs ih=>simp only [List.cons_append,zbM,ih,Bool.or_assoc]
 rw [List.take_succ_eq_append_getElem h,app]
 simp [zbM]
theorem zzu (k:Int) (l:List Ex) (q:Nat) (h:q<l.length) (he:zbd k l[q]=true):zbM k l=true:=by
 induction l generalizing q with
 | nil=>simp at h
 | cons x xs ih=>
  cases q with
  | zero=>simp only [List.getElem_cons_zero] at he;simp [zbM,he]
  | succ q=>simp only [List.getElem_cons_succ] at he;simp [zbM,ih q (by simpa using h) he]
abbrev zcX (k:Int) (n m:ByteArray) (i d:Int) (s:List Ex):List AV:=[.d (.raw (.int .i64 k)),.d (.raw (.string n)),.d (.raw (.string m)),.d (.raw (.int .i64 i)),.d (.raw (.int .i64 d)),.d (.sl (zaz s))]
abbrev zDY (k:Int) (n m:ByteArray) (i d:Int) (s:List Ex) (kk:Int) (q:Nat):St:=⟨[(1,.d (.raw (.int .i64 kk))),(2,.box 0 0),(5,.d (.raw (.int .i64 q)))],[(0,some (.cell 105 (zcX k n m i d s)))],[]⟩
theorem rKinds_step (N:Nat) (kk:Int) (ih:∀ t:Ex,nodesE t<N→nodesE t≤1048576→Con Tryz.prog 151 [avE t,.d (.raw (.int .i64 kk))] (.d (.raw (.bool (zbd kk t)))))
  (k:Int) (n m:ByteArray) (i d:Int) (s:List Ex) (hN:nodesE (.mk k n m i d s)<N+1) (hb:nodesE (.mk k n m i d s)≤1048576):Con Tryz.prog 151 [avE (.mk k n m i d s),.d (.raw (.int .i64 kk))] (.d (.raw (.bool (zbd kk (.mk k n m i d s))))):=by
 rw [nodesE] at hN hb
 have hlen:=zC s
 refine zh Tryz.func151 rfl (by decide +kernel) rfl (by simp only [AV.closed,zt,avE,zU,Bool.and_self]) (by simp [Tryz.ntmps151]) fun A hA=>?_
 rw [Tryz.ntmps151] at hA
 refine goC 300 ?_
 by_cases hk:k=kk
 ·have g0:decide (k=kk)=true:=decide_eq_true hk
  simp only [go_sem,hA,avE,zaZ,g0,zbd,Bool.true_or,Tryz.results151]
 ·have g0:decide (k=kk)=false:=decide_eq_false hk
  simp only [go_sem,hA,avE,zaZ,g0,zbd]
  refine zd [1,2,5] [0] [] (fun x σ=>∃ q:Nat,q≤s.length∧x=s.length - q∧zbM kk (s.take q)=false∧σ=zDY k n m i d s kk q) s.length ⟨0,by omega,by omega,rfl,by simp only [go_sem,zDY]⟩ ?_
  rintro x σ ⟨q,hq,rfl,hf,rfl⟩
  refine goC 300 ?_
  by_cases hlt:q<s.length
  ·have g1:decide ((q:Int)<(s.length:Int))=true:=decide_eq_true (by omega)
   have hn1:=zam s q hlt
   have hc:=ih s[q] (by omega) (by omega)
   simp only [go_sem,hA,zDY,zg,g1,Int.toNat_natCast,zap s q hlt]
   refine⟨⟨by omega,by omega⟩,?_⟩
   cases he:zbd kk s[q] with
   | true=>
    rw [he] at hc
    refine zb 300 hc rfl (by simp only [go_sem,zl]) (by simp only [go_sem,hA]) ?_
    simp only [go_sem,hA,Tryz.results151,zzu kk s q hlt he]
   | false=>
    rw [he] at hc
    refine zb 300 hc rfl (by simp only [go_sem,zl]) (by simp only [go_sem,hA]) ?_
    simp only [go_sem,hA]
    exact⟨by unfold zc;omega,s.length - (q+1),by omega,q+1,by omega,rfl,by rw [zkD kk s q hlt,hf,he];rfl,rfl⟩
  ·have g1:decide ((q:Int)<(s.length:Int))=false:=decide_eq_false (by omega)
   obtain rfl:q=s.length:=by omega
   rw [List.take_length] at hf
   simp only [go_sem,hA,zDY,zg,g1,Tryz.results151,hf]
theorem zAQ (kk:Int) (N:Nat):∀ t:Ex,nodesE t<N→nodesE t≤1048576→Con Tryz.prog 151 [avE t,.d (.raw (.int .i64 kk))] (.d (.raw (.bool (zbd kk t)))):=by
 induction N with
 | zero=>intro t h;omega
 | succ N ih=>intro t h hb;cases t;exact rKinds_step N kk ih _ _ _ _ _ _ h hb
end
end Go.Proofs.YtpnjjmcimjlfkaaGreatDoor
