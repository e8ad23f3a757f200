/- Texts of this proof, part 12: what the proof uses of them. -/
import Derived.Test.YtpnjjmcimjlfkaaGreatDoorRak
import Derived.Test.YtpnjjmcimjlfkaaGreatDoorRai
import Derived.Test.YtpnjjmcimjlfkaaGreatDoorRah
import Derived.Test.YtpnjjmcimjlfkaaGreatDoorRae
import Derived.Test.YtpnjjmcimjlfkaaGreatDoorRaj
import Derived.Test.YtpnjjmcimjlfkaaGreatDoorRag
import Derived.Lib.ItoaNum
import Derived.Lib.ItoaLen
import Derived.Shelf.Strings.Builder1
import Derived.Shelf.Small.Strs
import Derived.Shelf.Strings.BuilderF
import Derived.Shelf.Strings.BuilderK
import Derived.Shelf.Strconv.Itoa0
import Derived.Shelf.Strconv.Itoa1
import Derived.Shelf.LaysM
import Derived.Shelf.Strconv.Itoa2
import Derived.Shelf.Strconv.Itoa3
import Derived.Shelf.Strings.Search1
import Derived.Shelf.Strings.Search2
import Derived.Shelf.Strings.Search3
import Derived.Shelf.Strings.Shaped
import Derived.Shelf.Strings.Prefix
import Derived.Shelf.Unicode.DecodeSlow
import Derived.Shelf.Strings.BuilderCap
import Derived.Shelf.Slices.Turned
import Derived.Ground.Names2Prog
import Derived.Shelf.Slices.Clone
import Derived.Ground.SlgnProg
import Derived.Shelf.SlicesE.Clone
import Derived.Test.YtpnjjmcimjlfkaaGreatDoorProg
import Derived.Lib.Builder
import Derived.Lib.AppendStr
import Derived.Lib.UnsafeStr
import Derived.WalkKit
import Derived.Laws.Externs
import Derived.Lib.Hide
set_option maxRecDepth 100000
set_option maxHeartbeats 64000000
namespace Go.Proofs.YtpnjjmcimjlfkaaGreatDoor
section
section
open Go.RowKit Go.Shelf
attribute [local go_sem] Oper.semAt_some
theorem zoy {w:World} {E:Array Value} {res n:Int} {W:World} {D D2:Nat} (h:CkFrame w E res n W) (h2:W.heap[D2]? = some (.deferred (some []))) (h1:W.heap[D]? = some (.deferred (some []))) (hne:D≠D2) (hw2:w.heap.size<=D2) (hw1:w.heap.size<=D) :
  (W.putObj D2 (.deferred none)).heap[D]? = some (.deferred (some []))/\((W.putObj D2 (.deferred none)).putObj D (.deferred none)).cell? ⟨w.heap.size+1,0,none⟩=some (.int .i64 res)/\Below w.heap.size w ((W.putObj D2 (.deferred none)).putObj D (.deferred none)):=by
 have q:(W.putObj D2 (.deferred none)).heap[D]? = some (.deferred (some [])):=(World.putObj_heap_other hne).trans h1
 refine⟨q,?_,?_⟩
 ·have c1:=cell_kept (cell_of_one h.r) (grownBy_putObj' W D2 (.deferred none)) (fun r e=>by cases e;exact⟨_,h2,rfl⟩)
  exact cell_kept c1 (grownBy_putObj' _ D (.deferred none)) (fun r e=>by cases e;exact⟨_,q,rfl⟩)
 ·exact(h.below.trans (belowK_b (w:=w) (Nat.le_refl _) W D2 _ _ hw2 h2 rfl rfl)).trans (belowK_b (w:=w) (Nat.le_refl _) _ D _ _ hw1 q rfl rfl)
theorem zme (k:Int) (nm mr:ByteArray) (it d:Int) (sub:List Ex) (sv:Value) (w:World) (hm:nodesL sub<=1048576) (hs:zbK w w.heap.size sub sv) :
  Calls Tryz.prog 137 #[.agg #[.int .i64 k,.string nm,.string mr,.int .i64 it,.int .i64 d,sv]] w fun e w'=>e = .returned (.int .i64 (zal (.mk k nm mr it d sub)))/\Below w.heap.size w w':=by
 obtain⟨p,cap,rfl,hcap,_⟩:=zeL hs
 refine(callsIn_wide (n:=4)).1 ?_
 refine callsIn_of_wp_marks Tryz.func137 rfl trivial ?_ rfl
 simp only [Tryz.ntmps137,List.size_toArray,List.length_cons,List.length_nil,Nat.reduceAdd,Nat.reduceSub,Array.replicate_succ,Array.replicate_zero,List.push_toArray,List.append_toArray,List.nil_append,List.cons_append]
 gi_wp2_with (first | (refine⟨trivial,?_⟩;gi_at_call 215;refine(callsIn_wide.2 (ziu _ _ _ _ _ _ _ _ _)).mono ?_;rintro e w' ⟨rfl,rfl⟩))
 have HS:=Lib.hid hs
 obtain⟨V,hV⟩:∃ V,((((w.alloc (Obj.cells #[.int .i64 k,.string nm,.string mr,.int .i64 it,.int .i64 d,.slice p sub.length cap] 105)).alloc (Obj.cells #[Value.int IntKind.i64 0] 29)).alloc (Obj.cells #[Value.int IntKind.i64 0] 3)).alloc (Obj.cells #[.int .i64 k,.string nm,.string mr,.int .i64 it,.int .i64 d,.slice p sub.length cap] 105))=V:=⟨_,rfl⟩
 obtain⟨hF,hb4,hz⟩:=zBk w 105 29 3 #[.int .i64 k,.string nm,.string mr,.int .i64 it,.int .i64 d,.slice p sub.length cap] V hV
 rw [hV]
 clear hV hs
 refine zcv (P:=Tryz.prog) (F:=Fence.wide) (n:=4) rfl (by omega) (gf:=258) (lb:=#[.pointer (some ⟨w.heap.size+1+1+1,0,none⟩)]) rfl trivial (enters_of Tryz.func258 (by kernel_rfl) rfl)
  (encs:=fun x:ItN=>#[.int .i64 x.1,zlS x]) (Kp:=KeepOut w.heap.size (w.heap.size+1+1+1)) (R:=ItStep (V.heap.size+1+1)) (X:=fun _ x=>zlB w w.heap.size x.2.1 (zlS x))
  (S:=zfa (.mk k nm mr it d sub)) (Sp:=zeZ (.mk k nm mr it d sub))
  (fun r l J Jx hJ _ hY hJ0=>zkl 3 l (w.heap.size+1+1+1) w.heap.size (w.heap.size+1+1+1) (by omega) k nm mr it d sub p cap w _ HS.out (zfr ((hF.below.alloc (by omega) _).alloc (by simp;omega) _)) (by omega) (Nat.le_refl _)
   ((Below.heap_alloc _ _ _ (by simp;omega)).trans ((Below.heap_alloc _ _ _ (by omega)).trans hb4)) hm J Jx (fun pre A B h1 h2=>hJ pre A B h1 (by simpa using h2)) hY hJ0)
  (fun h1 h2=>h1.trans h2) (fun W l o o' _ hl ho=>KeepOut.putObj W l o o' hl ho) (fun h=>h.others.from _) (fun _=>rfl)
  (Ck1 w #[.int .i64 k,.string nm,.string mr,.int .i64 it,.int .i64 d,.slice p sub.length cap]) (zGS w #[.int .i64 k,.string nm,.string mr,.int .i64 it,.int .i64 d,.slice p sub.length cap]) (zDE w _ _ (by omega)) (fun c=>zBm w _ c _ (by omega))
  (fun pre A B h hs=>⟨h.1.step hs (by omega),h.2⟩) (fun c pre A B h hs=>⟨h.1,⟨_,h.2.1.choose_spec.step hs (by omega)⟩,h.2.2⟩) ⟨hF,by simp,by simp⟩
  (fun x=>{ tmps:=#[Value.agg #[.int .i64 k,.string nm,.string mr,.int .i64 it,.int .i64 d,.slice p sub.length cap],Value.pointer (some { block:=w.heap.size,off:=0 }),Value.pointer (some { block:=w.heap.size+1,off:=0 }),Value.pointer (some { block:=w.heap.size+1+1,off:=0 }),Value.int .i64 x.1,undef,undef,undef,
        Value.agg #[.int .i64 k,.string nm,.string mr,.int .i64 it,.int .i64 d,.slice p sub.length cap],Value.func (Fn.func 258) #[] #[Value.pointer (some { block:=w.heap.size+1+1+1,off:=0 })],Value.int .i64 x.1,zlS x,undef,undef,undef,undef,undef,undef,undef,undef,undef,undef,undef,undef,undef,undef,undef,undef,undef],defers:=[] }) ?assign ?body ?done ?stop
 case assign=>
  intro l x W K hK
  gi_wp2
  exact hK
 case body=>
  rintro l pre x W hI -
  have c0:=cell_of_one hI.1.c
  have f0:=free_of_one hI.1.c
  have c1:=cell_of_one hI.1.r
  have f1:=free_of_one hI.1.r
  have hle:=hI.2.1
  have HI:=Lib.hid hI
  clear hI
  have hsz:=HI.out.1.size
  by_cases hgt:400<pre.length+1
  ·have hd:decide (400<(pre.length:Int)+1)=true:=by simp;omega
   gi_wp2_with fail
   refine⟨((KeepsOthers.setCell _ _ _).trans (KeepsOthers.setCell _ _ _)).from _,rfl,⟨_,(HI.out.1.setCnt _).setRes 4⟩,.inl (by simp;omega)⟩
  ·have hd:decide (400<(pre.length:Int)+1)=false:=by simp;omega
   by_cases hx:40<x.1
   ·have hd2:decide (40<(x.1:Int))=true:=by simp;omega
    gi_wp2_with fail
    refine⟨((KeepsOthers.setCell _ _ _).trans (KeepsOthers.setCell _ _ _)).from _,rfl,⟨_,(HI.out.1.setCnt _).setRes 4⟩,.inr ⟨x,by simp,hx⟩⟩
   ·have hd2:decide (40<(x.1:Int))=false:=by simp;omega
    gi_wp2_with fail
    have hF':=HI.out.1.setCnt ((pre.length:Int)+1)
    refine⟨(KeepsOthers.setCell _ _ _).from _,(KeepOut.below (Below.refl _ _)).setCell (p:=⟨w.heap.size+1+1,0,none⟩) (by simp;omega) _,?_,by simp;omega,?_⟩
    ·have e1:((pre++[x]).length:Int)=(pre.length:Int)+1:=by simp
     rw [e1];exact hF'
    ·intro z hz
     rcases List.mem_append.1 hz with h | h
     ·exact HI.out.2.2 z h
     ·simp at h;subst h;omega
 case done=>
  rintro D xs W hD hS hI hK
  obtain⟨hg1,hg2⟩:=zvg hS hI.2.1 hI.2.2
  have HX:=Lib.hid (zlg hg1 hg2)
  have hF2:=hI.1
  have hW2:w.heap.size+1+1+1+1<=W.heap.size:=hF2.size
  clear hI hg1 hg2 hS
  have hcell:∀ i (h:i<6),W.cell? ⟨w.heap.size,i,none⟩=some (#[.int .i64 k,.string nm,.string mr,.int .i64 it,.int .i64 d,.slice p sub.length cap][i]'h):=fun i h=>by simp [World.cell?,hF2.e]
  have c0:W.cell? ⟨w.heap.size,0,none⟩=some (.int .i64 k):=hcell 0 (by omega)
  have c1:W.cell? ⟨w.heap.size,1,none⟩=some (.string nm):=hcell 1 (by omega)
  have c2:W.cell? ⟨w.heap.size,2,none⟩=some (.string mr):=hcell 2 (by omega)
  have c3:W.cell? ⟨w.heap.size,3,none⟩=some (.int .i64 it):=hcell 3 (by omega)
  have c4:W.cell? ⟨w.heap.size,4,none⟩=some (.int .i64 d):=hcell 4 (by omega)
  have c5:W.cell? ⟨w.heap.size,5,none⟩=some (.slice p sub.length cap):=hcell 5 (by omega)
  clear hcell
  gi_wp2_with (first | (refine⟨trivial,?_⟩;gi_at_call 215;refine(callsIn_wide.2 (ziu _ _ _ _ _ _ _ _ _)).mono ?_;rintro e w' ⟨rfl,rfl⟩))
  obtain⟨V2,hV2⟩:∃ V2,W.alloc (.cells #[.int .i64 k,.string nm,.string mr,.int .i64 it,.int .i64 d,.slice p sub.length cap] 105)=V2:=⟨_,rfl⟩
  have hF3:CkFrame w #[.int .i64 k,.string nm,.string mr,.int .i64 it,.int .i64 d,.slice p sub.length cap] 0 xs.length V2:=by rw [<- hV2];exact hF2.kept ((Below.refl _ _).alloc (Nat.le_refl _) _)
  have hb5:V2.heap[W.heap.size]? = some (.cells #[.int .i64 k,.string nm,.string mr,.int .i64 it,.int .i64 d,.slice p sub.length cap] 105 (0,0)):=by rw [<- hV2];exact World.alloc_heap_new W _
  have hz2:V2.heap.size=W.heap.size+1:=by rw [<- hV2];simp
  have hDW:=(Array.getElem?_eq_some_iff.1 hK).1
  have hK2:V2.heap[D]? = some (.deferred (some [])):=by rw [<- hV2];exact(Below.heap_alloc _ _ _ hDW).trans hK
  rw [hV2]
  clear hV2 c0 c1 c2 c3 c4 c5
  refine zfD (P:=Tryz.prog) (F:=Fence.wide) (n:=4) rfl (by omega) (gf:=258) (lb:=#[.pointer (some ⟨W.heap.size,0,none⟩)]) rfl trivial (enters_of Tryz.func258 (by kernel_rfl) rfl)
   (encs:=fun x:ItN=>#[.int .i64 x.1,zlS x]) (Kp:=KeepOut w.heap.size (w.heap.size+1+1+1)) (R:=ItStep (V2.heap.size+1+1)) (X:=fun _ x=>zlB w w.heap.size x.2.1 (zlS x))
   (S:=zfa (.mk k nm mr it d sub)) (Sp:=zeZ (.mk k nm mr it d sub))
   (fun r l J Jx hJ _ hY hJ0=>zkl 3 l W.heap.size w.heap.size (w.heap.size+1+1+1) (by omega) k nm mr it d sub p cap w _ HS.out (zfr ((hF3.below.alloc (by omega) _).alloc (by simp;omega) _)) (by omega) (by omega)
    ((Below.heap_alloc _ _ _ (by simp;omega)).trans ((Below.heap_alloc _ _ _ (by omega)).trans hb5)) hm J Jx (fun pre A B h1 h2=>hJ pre A B h1 (by simpa using h2)) hY hJ0)
   (fun h1 h2=>h1.trans h2) (fun W l o o' _ hl ho=>KeepOut.putObj W l o o' hl ho) (fun h=>h.others.from _) (fun _=>rfl)
   (Ck2 w #[.int .i64 k,.string nm,.string mr,.int .i64 it,.int .i64 d,.slice p sub.length cap] D) (zGR w #[.int .i64 k,.string nm,.string mr,.int .i64 it,.int .i64 d,.slice p sub.length cap] D) (zDD w _ _ _ (by omega) (by omega)) (fun c=>zBl w _ _ c _ (by omega) (by omega))
   (fun pre A B h hs=>⟨⟨_,h.1.choose_spec.step hs (by omega)⟩,h.2.1,hs.others.same _ _ h.2.2 rfl⟩) (fun c pre A B h hs=>by
    obtain⟨h1,err,n,h2,h3,h4,h5⟩:=h
    exact⟨h1,err,n,h2.step hs (by omega),h3,h4,hs.others.same _ _ h5 rfl⟩) ⟨⟨_,hF3⟩,rfl,hK2⟩
   (fun x b=>{ tmps:=#[Value.agg #[.int .i64 k,.string nm,.string mr,.int .i64 it,.int .i64 d,.slice p sub.length cap],Value.pointer (some { block:=w.heap.size,off:=0 }),Value.pointer (some { block:=w.heap.size+1,off:=0 }),Value.pointer (some { block:=w.heap.size+1+1,off:=0 }),undef,undef,Value.pointer (some { block:=b,off:=0 }),undef,
         Value.agg #[.int .i64 k,.string nm,.string mr,.int .i64 it,.int .i64 d,.slice p sub.length cap],Value.func (Fn.func 258) #[] #[Value.pointer (some { block:=w.heap.size+1+1+1,off:=0 })],undef,undef,undef,undef,undef,undef,undef,undef,undef,undef,Value.agg #[.int .i64 k,.string nm,.string mr,.int .i64 it,.int .i64 d,.slice p sub.length cap],Value.func (Fn.func 258) #[] #[Value.pointer (some { block:=W.heap.size,off:=0 })],Value.int .i64 x.1,zlS x,undef,undef,undef,undef,undef],defers:=[] })
   (fun x=>.cells #[.int .i64 x.2.1.kind,.string x.2.1.name,.string x.2.1.more,.int .i64 x.2.1.int,.int .i64 x.2.1.den,.slice x.2.2.1 x.2.1.sub.length x.2.2.2] 105) (fun W o=>KeepOut.below ((Below.refl _ _).alloc (Nat.le_refl _) _)) ?assign2 ?body2 ?done2 ?stop2
  case assign2=>
   intro l x W K hK
   gi_wp2
   exact hK
  case body2=>
   rintro l pre x b W5 hI - hbx hbV
   obtain⟨⟨n5,hF5⟩,hfe,hD5⟩:=hI
   have cr:=cell_of_one hF5.r
   have fr:=free_of_one hF5.r
   have g0:W5.cell? ⟨b,0,none⟩=some (.int .i64 x.2.1.kind):=by simp [World.cell?,hbx]
   have g1:W5.cell? ⟨b,1,none⟩=some (.string x.2.1.name):=by simp [World.cell?,hbx]
   have g2:W5.cell? ⟨b,2,none⟩=some (.string x.2.1.more):=by simp [World.cell?,hbx]
   have g3:W5.cell? ⟨b,3,none⟩=some (.int .i64 x.2.1.int):=by simp [World.cell?,hbx]
   have g4:W5.cell? ⟨b,4,none⟩=some (.int .i64 x.2.1.den):=by simp [World.cell?,hbx]
   have g5:W5.cell? ⟨b,5,none⟩=some (.slice x.2.2.1 x.2.1.sub.length x.2.2.2):=by simp [World.cell?,hbx]
   have HF5:=Lib.hid hF5
   have HFE:=Lib.hid hfe
   have HD5:=Lib.hid hD5
   have hs5:=hF5.size
   have HC:=Lib.hid (zma x.2.1.kind x.2.1.name x.2.1.more x.2.1.int x.2.1.den x.2.2.1 x.2.1.sub.length x.2.2.2 W5)
   obtain⟨err,herr⟩:∃ err,zbe x.2.1.kind x.2.1.name x.2.1.more x.2.1.int x.2.1.den x.2.1.sub.length=err:=⟨_,rfl⟩
   rw [herr] at HC
   have HER:Hid (zlC x.2.1=err):=Lib.hid herr
   clear hF5 hfe hD5 hbx herr
   by_cases hz5:err=0
   ·subst hz5
    gi_wp2_with (first | (refine⟨trivial,?_⟩;gi_at_call 216;refine(CallsIn.inRound l (callsIn_wide.2 HC.out)).mono ?_;rintro e w' ⟨rfl,hb⟩;have HB:=Lib.hid hb;clear hb))
    refine⟨(zbb HB.out).from _,KeepOut.below HB.out,⟨_,HF5.out.kept HB.out⟩,?_,(HB.out.block _ (Array.getElem?_eq_some_iff.1 HD5.out).1).trans HD5.out⟩
    rw [List.map_append,zce,if_pos HFE.out]
    simp only [List.map_cons,List.map_nil,zdQ,zbr,HER.out,if_true]
   ·have hz6:(err != 0)=true:=by simpa using hz5
    gi_wp2_with (first | (refine⟨trivial,?_⟩;gi_at_call 216;refine(CallsIn.inRound l (callsIn_wide.2 HC.out)).mono ?_;rintro e w' ⟨rfl,hb⟩;have cr':=(hb.cell (p:=⟨w.heap.size+1,0,none⟩) (by show w.heap.size+1<_;omega)).trans cr;have fr':=(hb.frozen (p:=⟨w.heap.size+1,0,none⟩) (by show w.heap.size+1<_;omega)).trans fr;have HB:=Lib.hid hb;clear hb))
    refine⟨((zbb HB.out).trans (KeepsOthers.setCell _ _ _)).from _,rfl,err,_,(HF5.out.kept HB.out).setRes err,hz5,?_,(KeepsOthers.setCell _ _ _).same _ _ ((HB.out.block _ (Array.getElem?_eq_some_iff.1 HD5.out).1).trans HD5.out) rfl⟩
    rw [List.map_append,zce,if_pos HFE.out]
    simp only [List.map_cons,List.map_nil,zdQ,zbr,HER.out,if_neg hz5]
  case done2=>
   rintro D2 ys W6 hD2 hS2 ⟨⟨n6,hF6⟩,hfe,hD6⟩ hK6
   have hch:zbI (.mk k nm mr it d sub)=0:=by rw [zgF 1,<- (show _=_ from hS2)];exact hfe
   have cr:=cell_of_one hF6.r
   have fr:=free_of_one hF6.r
   have HF6:=Lib.hid hF6
   have HCH:=Lib.hid hch
   clear hF6 hch
   gi_wp2_with fail
   have hF7:=HF6.out.setRes 0
   have hK7:=(KeepsOthers.setCell W6 ⟨w.heap.size+1,0,none⟩ (.int .i64 0)).same D2 _ hK6 rfl
   have hD7:=(KeepsOthers.setCell W6 ⟨w.heap.size+1,0,none⟩ (.int .i64 0)).same D _ hD6 rfl
   generalize W6.setCell ⟨w.heap.size+1,0,none⟩ (.int .i64 0)=W7 at *
   obtain⟨hx1,hx2,hx3⟩:=zoy hF7 hK7 hD7 (by omega) (by omega) (by omega)
   refine⟨by simp,.inl ⟨_,_,rfl,run_takeDeferred hK7,⟨by simp,.inl ⟨_,_,rfl,run_takeDeferred hx1,?_⟩⟩⟩⟩
   refine⟨.int .i64 0,?_,zo (a:=0) (by rw [HX.out,HCH.out]),hx3⟩
   simp [results,Tryz.f137,go_sem,hx2]
  case stop2=>
   rintro D2 c pre W6 hD2 hpre ⟨rfl,err,n6,hF6,hne,hfe,hD6⟩ hK6
   have hch:zbI (.mk k nm mr it d sub)=err:=by
    obtain⟨rest,hr⟩:=hpre
    rw [zgF 1,<- hr,zce,hfe,if_neg hne]
   gi_wp2_with fail
   obtain⟨hx1,hx2,hx3⟩:=zoy hF6 hK6 hD6 (by omega) (by omega) (by omega)
   refine⟨by simp,.inl ⟨_,_,rfl,run_takeDeferred hK6,⟨by simp,.inl ⟨_,_,rfl,run_takeDeferred hx1,?_⟩⟩⟩⟩
   refine⟨.int .i64 err,?_,zo (a:=err) (by rw [HX.out,hch]),hx3⟩
   simp [results,Tryz.f137,go_sem,hx2]
 case stop=>
  rintro D c pre W hD hpre ⟨rfl,⟨n,hF2⟩,hbad⟩ hK
  have HX:=Lib.hid (zxR hpre hbad)
  gi_wp2_with fail
  refine⟨by simp,.inl ⟨_,_,rfl,run_takeDeferred hK,?_⟩⟩
  have hc5:=cell_kept (cell_of_one hF2.r) (grownBy_putObj' _ D (.deferred none)) (fun r e=>by cases e;exact⟨_,hK,rfl⟩)
  refine⟨.int .i64 4,?_,zo (a:=4) HX.out.symm,hF2.below.trans (belowK_b (w:=w) (Nat.le_refl _) W D _ _ (by omega) hK rfl rfl)⟩
  simp [results,Tryz.f137,go_sem,hc5]
end
end
section
open Go Go.RowKit
mutual
def zbj:Ex->List D
 | .mk k n m i d s=>[.raw (.int .i64 k),.raw (.string n),.raw (.string m),.raw (.int .i64 i),.raw (.int .i64 d),.sl (zaF s)]
def zaF:List Ex->List (List D)
 | []=>[]
 | e :: es=>zbj e :: zaF es
end
theorem zax (t:Ex):zbj t=[.raw (.int .i64 t.kind),.raw (.string t.name),.raw (.string t.more),.raw (.int .i64 t.int),.raw (.int .i64 t.den),.sl (zaF t.sub)]:=by cases t;rfl
theorem zK:∀ l:List Ex,(zaF l).length=l.length
 | []=>rfl
 | e :: es=>by rw [zaF];simp [zK es]
theorem zbo (t:Ex):(zbj t).length=6:=by cases t;rfl
theorem zdZ:∀ l:List Ex,zaF l=l.map zbj
 | []=>rfl
 | e :: es=>by rw [zaF,zdZ es];rfl
theorem zps (l:List Ex) (i:Nat) (h:i<l.length):(zaF l).getD i []=zbj l[i]:=by
 rw [zdZ];simp [List.getD_eq_getElem?_getD,h]
theorem zjJ (l:List Ex) (i:Nat) (h:i<l.length):(zaF l).getD i []=[.raw (.int .i64 l[i].kind),.raw (.string l[i].name),.raw (.string l[i].more),.raw (.int .i64 l[i].int),.raw (.int .i64 l[i].den),.sl (zaF l[i].sub)]:=by
 rw [zps l i h,zax]
theorem zjI (l:List Ex):zam 6 (zaF l):=by
 intro r hr
 rw [zdZ] at hr
 obtain⟨t,_,rfl⟩:=List.mem_map.1 hr
 refine⟨zbo t,fun x hx=>?_⟩
 rw [zax] at hx
 simp only [List.mem_cons,List.not_mem_nil,or_false] at hx
 rcases hx with rfl | rfl | rfl | rfl | rfl | rfl <;> rfl
theorem zlf (a b:List Ex):zaF a++zaF b=zaF (a++b):=by simp [zdZ]
def avE (t:Ex):AV:=.agg ((zbj t).map .d)
theorem zaB (t:Ex):avE t = .agg [.d (.raw (.int .i64 t.kind)),.d (.raw (.string t.name)),.d (.raw (.string t.more)),.d (.raw (.int .i64 t.int)),.d (.raw (.int .i64 t.den)),.d (.sl (zaF t.sub))]:=by
 rw [avE,zax];rfl
end
section
open Go.RowKit
structure XV where
 k:Int
 n:ByteArray
 m:ByteArray
 i:Int
 d:Int
 p:Option Addr
 q:Nat
 c:Nat
abbrev XV.arr (x:XV):Array Value:=#[.int .i64 x.k,.string x.n,.string x.m,.int .i64 x.i,.int .i64 x.d,.slice x.p x.q x.c]
def XAt (w:World) (t:Ex) (x:XV):Prop:=zlB w w.heap.size t (.agg x.arr)
theorem zpJ {w:World} {t:Ex} {x:XV} (h:XAt w t x):x=⟨t.kind,t.name,t.more,t.int,t.den,x.p,t.sub.length,x.c⟩/\zbK w w.heap.size t.sub (.slice x.p t.sub.length x.c):=by
 obtain⟨sv,he,hs⟩:=zfW.1 h
 obtain⟨k,n,m,i,d,p,q,c⟩:=x
 obtain⟨p',c',rfl,hc,hr⟩:=id hs
 simp only [XV.arr,Value.agg.injEq,Array.mk.injEq,List.cons.injEq,and_true,Value.int.injEq,Value.string.injEq,Value.slice.injEq,true_and] at he
 obtain⟨rfl,rfl,rfl,rfl,rfl,rfl,rfl,rfl⟩:=he
 exact⟨rfl,hs⟩
end
section
open Go Go.RowKit
theorem zrU {w:World} {B b:Nat}:∀ (l:List Ex) (off:Nat),(∀ k (h:k<l.length),ziQ w B b (off+k * 6) l[k])->zfq w B b off l
 | [],off,_=>by simp [zfq]
 | e :: es,off,h=>by
  rw [zeM]
  refine⟨by have h0:=h 0 (by simp);rw [Nat.zero_mul,Nat.add_zero] at h0;exact h0,zrU es (off+6) fun k hk=>?_⟩
  have:=h (k+1) (by simpa using hk)
  rw [show off+(k+1) * 6=off+6+k * 6 by omega] at this
  exact this
theorem zxj {w:World} {F:Nat->Nat->Prop} (hF:∀ b o,F b o->b<w.heap.size) (N:Nat):∀ (sub:List Ex) (v:Value),nodesL sub<N->Reads w F (.sl (zaF sub)) v->zbK w w.heap.size sub v:=by
 induction N with
 | zero=>intro sub v h;omega
 | succ N ih=>
  intro sub v hN h
  obtain⟨p,cap,rfl,hcap⟩:=h.slice
  rw [zK] at hcap h ⊢
  refine⟨p,cap,rfl,hcap,fun hpos=>?_⟩
  have hlen:=zK sub
  have hrow:∀ k (hk:k<sub.length),(zaF sub)[k]'(by omega)=zbj sub[k]:=fun k hk=>by
   simp only [zdZ,List.getElem_map]
  obtain⟨b,off,hp,h0⟩:=h.row 0 (by omega) (st:=6) (by rw [hrow 0 hpos];exact zbo _)
  have hb:b<w.heap.size:=by
   obtain⟨h1,_⟩:=h0 0 (by rw [hrow 0 hpos,zbo];omega)
   exact hF _ _ h1
  refine⟨b,off,hp,hb,zrU sub off fun k hk=>?_⟩
  obtain⟨b',off',hp',hk0⟩:=h.row k (by omega) (st:=6) (by rw [hrow k hk];exact zbo _)
  rw [hp] at hp'
  simp only [Option.some.injEq,Addr.mk.injEq,and_true] at hp'
  obtain⟨rfl,rfl⟩:=hp'
  have hn:=zeS sub k hk
  rw [zeD] at hn
  have cell:∀ j (hj:j<6),∃ u,w.cell? ⟨b,off+k * 6+j,none⟩=some u/\Reads w F ((zbj sub[k])[j]'(by rw [zbo];exact hj)) u:=fun j hj=>by
   obtain⟨_,u,h1,h2⟩:=hk0 j (by rw [hrow k hk,zbo];exact hj)
   refine⟨u,h1,?_⟩
   have e:((zaF sub)[k]'(by omega))[j]'(by rw [hrow k hk,zbo];exact hj)=(zbj sub[k])[j]'(by rw [zbo];exact hj):=by simp only [hrow k hk]
   rw [<- e];exact h2
  have enc:∀ j (hj:j<6),(zbj sub[k])[j]'(by rw [zbo];exact hj)=[D.raw (.int .i64 sub[k].kind),.raw (.string sub[k].name),.raw (.string sub[k].more),.raw (.int .i64 sub[k].int),.raw (.int .i64 sub[k].den),.sl (zaF sub[k].sub)][j]:=fun j hj=>by
   simp only [zax]
  obtain⟨u0,a0,b0⟩:=cell 0 (by omega);rw [enc 0 (by omega)] at b0
  obtain⟨u1,a1,b1⟩:=cell 1 (by omega);rw [enc 1 (by omega)] at b1
  obtain⟨u2,a2,b2⟩:=cell 2 (by omega);rw [enc 2 (by omega)] at b2
  obtain⟨u3,a3,b3⟩:=cell 3 (by omega);rw [enc 3 (by omega)] at b3
  obtain⟨u4,a4,b4⟩:=cell 4 (by omega);rw [enc 4 (by omega)] at b4
  obtain⟨u5,a5,b5⟩:=cell 5 (by omega);rw [enc 5 (by omega)] at b5
  obtain rfl:=b0.raw_eq
  obtain rfl:=b1.raw_eq
  obtain rfl:=b2.raw_eq
  obtain rfl:=b3.raw_eq
  obtain rfl:=b4.raw_eq
  exact⟨u5,a0,a1,a2,a3,a4,a5,ih _ _ (by omega) b5⟩
theorem zDP {w:World} {F:Nat->Nat->Prop} {t:Ex} {v:Value} (hF:∀ b o,F b o->b<w.heap.size) (h:zch w F (avE t) v):∃ x:XV,v = .agg x.arr/\XAt w t x:=by
 rw [zaB] at h
 unfold zch at h
 generalize hcs:[AV.d (.raw (.int .i64 t.kind)),.d (.raw (.string t.name)),.d (.raw (.string t.more)),.d (.raw (.int .i64 t.int)),.d (.raw (.int .i64 t.den)),.d (.sl (zaF t.sub))]=cs at h
 cases h with
 | agg _ vs hl hh=>
  subst hcs
  match vs,hl with
  | [v0,v1,v2,v3,v4,v5],_=>
   have g0:=hh 0 (by simp) (by simp)
   have g1:=hh 1 (by simp) (by simp)
   have g2:=hh 2 (by simp) (by simp)
   have g3:=hh 3 (by simp) (by simp)
   have g4:=hh 4 (by simp) (by simp)
   have g5:=hh 5 (by simp) (by simp)
   obtain rfl:v0=_:=g0.raw_eq
   obtain rfl:v1=_:=g1.raw_eq
   obtain rfl:v2=_:=g2.raw_eq
   obtain rfl:v3=_:=g3.raw_eq
   obtain rfl:v4=_:=g4.raw_eq
   have h5:Reads w F (.sl (zaF t.sub)) v5:=by
    simp only [List.getElem_cons_succ,List.getElem_cons_zero] at g5
    cases g5 with
    | d h=>exact h
   have hs:=zxj hF (nodesL t.sub+1) t.sub v5 (by omega) h5
   obtain⟨p,cap,rfl,hcap,hat⟩:=zeL hs
   exact⟨⟨t.kind,t.name,t.more,t.int,t.den,p,t.sub.length,cap⟩,rfl,by
    unfold XAt
    rw [zfW]
    exact⟨_,rfl,hs⟩⟩
theorem zvC {P:Program} {f:FuncId} {t:Ex} {r:Value} (he:zcQ P f) (h:∀ (x:XV) (w:World),XAt w t x->Calls P f #[.agg x.arr] w fun e w'=>e = .returned r/\Below w.heap.size w w'):Con P f [avE t] (.d (.raw r)):=by
 refine⟨he,rfl,fun F w vs hF _ hl hv=>?_⟩
 match vs,hl with
 | [v],_=>
  obtain⟨x,rfl,hx⟩:=zDP hF (hv 0 (by simp) (by simp))
  exact(h x w hx).mono fun e w' h'=>⟨r,h'.1,.d (.raw _),h'.2⟩
end
section
open Go Go.RowKit
def zQ (l:List ByteArray):List (List D):=l.map fun s=>[.raw (.string s)]
theorem zg (l:List ByteArray):(zQ l).length=l.length:=by simp [zQ]
theorem zbC (l:List ByteArray) (i:Nat) (h:i<l.length):(zQ l).getD i []=[.raw (.string l[i])]:=by
 simp [zQ,List.getD_eq_getElem?_getD,h]
theorem zgb (l:List ByteArray):zam 1 (zQ l):=by
 intro r hr
 obtain⟨s,_,rfl⟩:=List.mem_map.1 hr
 exact⟨rfl,fun x hx=>by simp at hx;subst hx;rfl⟩
theorem zle (a b:List ByteArray):zQ a++zQ b=zQ (a++b):=by simp [zQ]
theorem zyo (l:List ByteArray) (n:Nat):(zQ l).take n=zQ (l.take n):=by simp [zQ]
theorem zdY (l:List ByteArray):∀ r ∈ zQ l,r.length=1:=fun r hr=>(zgb l r hr).1
def zia (l:List ByteArray) (s:ByteArray):Bool:=l.any fun x=>decide (x=s)
def zdo:List ByteArray->List ByteArray->Bool
 | [],[]=>true
 | x :: xs,y :: ys=>decide (x=y) && zdo xs ys
 | _,_=>false
theorem zfI:∀ a b:List ByteArray,zdo a b=true ↔ a=b
 | [],[]=>by simp [zdo]
 | x :: xs,y :: ys=>by simp only [zdo,Bool.and_eq_true,decide_eq_true_eq,zfI xs ys,List.cons.injEq]
 | [],y :: ys=>by simp [zdo]
 | x :: xs,[]=>by simp [zdo]
theorem zkP {a b:List ByteArray} (h:a≠b):zdo a b=false:=by
 cases hc:zdo a b
 ·rfl
 ·exact absurd ((zfI a b).1 hc) h
abbrev zzq (l m:List ByteArray) (q:Nat):St:=⟨[(0,.d (.sl (zQ l))),(1,.d (.sl (zQ m))),(5,.d (.raw (.int .i64 q)))],[],[]⟩
theorem zhe (l m:List ByteArray) (hl:l.length<=1048576):Con Tryz.prog 93 [.d (.sl (zQ l)),.d (.sl (zQ m))] (.d (.raw (.bool (zdo l m)))):=by
 refine kO Tryz.func93 Tryz.ntmps93 fun A hA=>?_
 refine goC 300 ?_
 by_cases hlm:l.length=m.length
 ·have g0:(decide ¬ (l.length:Int)=(m.length:Int))=false:=decide_eq_false (by omega)
  simp only [go_sem,hA,zg,g0]
  refine zc [0,1,5] [] [] (fun x σ=>∃ q:Nat,q<=l.length/\x=l.length - q/\l.take q=m.take q/\σ=zzq l m q) l.length ⟨0,by omega,by omega,rfl,by simp only [go_sem,zzq]⟩ ?_
  rintro x σ ⟨q,hq,rfl,hf,rfl⟩
  refine goC 300 ?_
  by_cases hlt:q<l.length
  ·have g1:decide ((q:Int)<(l.length:Int))=true:=decide_eq_true (by omega)
   by_cases he:l[q]=m[q]
   ·have g2:(decide ¬ l[q]=m[q])=false:=decide_eq_false (by simp [he])
    simp only [go_sem,hA,zzq,zg,g1,Int.toNat_natCast,zbC l q hlt,zbC m q (by omega),g2,mixed]
    exact⟨⟨by omega,by omega⟩,⟨by omega,by omega⟩,by kernel_rfl,by unfold za;omega,l.length - (q+1),by omega,q+1,by omega,rfl,by rw [List.take_succ_eq_append_getElem hlt,List.take_succ_eq_append_getElem (show q<m.length by omega),hf,he],rfl⟩
   ·have g2:(decide ¬ l[q]=m[q])=true:=decide_eq_true he
    have hne:zdo l m=false:=zkP fun e=>he (by simp [e])
    simp only [go_sem,hA,zzq,zg,g1,Int.toNat_natCast,zbC l q hlt,zbC m q (by omega),g2,mixed,Tryz.results93,hne]
    exact⟨⟨by omega,by omega⟩,⟨by omega,by omega⟩,by kernel_rfl⟩
  ·have g1:decide ((q:Int)<(l.length:Int))=false:=decide_eq_false (by omega)
   obtain rfl:q=l.length:=by omega
   have he:l=m:=by rw [List.take_length,List.take_of_length_le (by omega)] at hf;exact hf
   have hs:zdo l m=true:=(zfI _ _).2 he
   simp only [go_sem,hA,zzq,zg,g1,Tryz.results93,hs]
 ·have g0:(decide ¬ (l.length:Int)=(m.length:Int))=true:=decide_eq_true (by omega)
  have hne:zdo l m=false:=zkP fun e=>hlm (by rw [e])
  simp only [go_sem,hA,zg,g0,Tryz.results93,hne]
def ltS (a b:ByteArray):Bool:=Op.bytesLess a.data.toList b.data.toList
end
section
open Go Go.RowKit
mutual
def zeT (k:Int):Ex->Bool
 | .mk k' _ _ _ _ s=>decide (k'=k) || zne k s
def zne (k:Int):List Ex->Bool
 | []=>false
 | e :: es=>zeT k e || zne k es
end
abbrev zrg (k:Int) (n m:ByteArray) (i d:Int) (s:List Ex):List AV:=[.d (.raw (.int .i64 k)),.d (.raw (.string n)),.d (.raw (.string m)),.d (.raw (.int .i64 i)),.d (.raw (.int .i64 d)),.d (.sl (zaF s))]
end
section
open Go.RowKit
theorem zpW {a:Ex} {xa:XV} {w:World} (ha:XAt w a xa) (hsz:nodesE a<=1048576) :
  Calls Tryz.prog 137 #[.agg xa.arr] w fun e w'=>e = .returned (.int .i64 (zal a))/\Below w.heap.size w w':=by
 obtain⟨ea,ha⟩:=zpJ ha
 rw [ea]
 rw [zeD] at hsz
 have h:=zme a.kind a.name a.more a.int a.den a.sub _ w (by omega) ha
 rw [Ex.eta] at h
 exact h
end
section
open Go Go.RowKit
theorem zBe {P:Program} {f:FuncId} {s:ByteArray} {r:Value} (he:zcQ P f) (h:∀ (w:World),Calls P f #[.string s] w fun e w'=>e = .returned r/\Below w.heap.size w w'):Con P f [.d (.raw (.string s))] (.d (.raw r)):=by
 refine⟨he,rfl,fun F w vs hF _ hl hv=>?_⟩
 match vs,hl with
 | [v],_=>
  have h0:=hv 0 (by simp) (by simp)
  simp only [List.getElem_cons_zero] at h0
  unfold zch at h0
  rw [h0.raw_eq]
  exact(h w).mono fun e w' h'=>⟨r,h'.1,.d (.raw _),h'.2⟩
theorem zzE (a:Ex) (hsz:nodesE a<=1048576):Con Tryz.prog 208 [avE a] (.d (.raw (.int .i64 (nodesE a)))):=zvC ⟨_,Tryz.func208,by decide +kernel,rfl⟩ fun x w ha=>by
 obtain⟨ea,ha⟩:=zpJ ha
 rw [ea]
 rw [zeD] at hsz ⊢
 exact zuA (nodesL a.sub+1) a.kind a.name a.more a.int a.den a.sub _ w (by omega) (by omega) ha
abbrev zwd (k:Int) (n m:ByteArray) (i d:Int) (s:List Ex) (q:Nat):St:=⟨[(1,.box 0 0),(3,.d (.raw (.int .i64 q)))],[(0,some (.cell 105 (zrg k n m i d s)))],[]⟩
theorem rLong_step (N:Nat) (ih:∀ t:Ex,nodesE t<N->nodesE t<=1048576->Con Tryz.prog 209 [avE t] (.d (.raw (.bool (zgO t)))))
  (k:Int) (n m:ByteArray) (i d:Int) (s:List Ex) (hN:nodesE (.mk k n m i d s)<N+1) (hb:nodesE (.mk k n m i d s)<=1048576):Con Tryz.prog 209 [avE (.mk k n m i d s)] (.d (.raw (.bool (zgO (.mk k n m i d s))))):=by
 rw [nodesE] at hN hb
 have hlen:=zaY s
 refine zei Tryz.func209 rfl (by decide +kernel) rfl (by simp only [AV.closed,zN,avE,zgg,Bool.and_self]) (by simp [Tryz.ntmps209]) fun A hA=>?_
 rw [Tryz.ntmps209] at hA
 refine goC 300 ?_
 rw [zgO]
 have c1:decide (100<n.size)=decide ((100:Int)<(n.size:Int)):=decide_eq_decide.2 (by omega)
 have c2:decide (100<m.size)=decide ((100:Int)<(m.size:Int)):=decide_eq_decide.2 (by omega)
 rw [c1,c2]
 cases g1:decide ((100:Int)<(n.size:Int)) with
 | true=>simp only [go_sem,hA,avE,zbj,g1,undef,Bool.true_or,Tryz.results209]
 | false=>
 cases g2:decide ((100:Int)<(m.size:Int)) with
 | true=>simp only [go_sem,hA,avE,zbj,g1,g2,Bool.true_or,Bool.false_or,Tryz.results209]
 | false=>
 simp only [go_sem,hA,avE,zbj,g1,g2,Bool.false_or]
 refine zc [1,3] [0] [] (fun x σ=>∃ q:Nat,q<=s.length/\x=s.length - q/\zfm (s.take q)=false/\σ=zwd k n m i d s q) s.length ⟨0,by omega,by omega,rfl,by simp only [go_sem,zwd]⟩ ?_
 rintro x σ ⟨q,hq,rfl,hf,rfl⟩
 refine goC 300 ?_
 by_cases hlt:q<s.length
 ·have k1:decide ((q:Int)<(s.length:Int))=true:=decide_eq_true (by omega)
  have hn1:=zeS s q hlt
  simp only [go_sem,hA,zwd,zK,k1,Int.toNat_natCast,zjJ s q hlt]
  refine⟨⟨by omega,by omega⟩,?_⟩
  refine zaU 300 (ih s[q] (by omega) (by omega)) rfl (by simp only [go_sem,zaB]) (by simp only [go_sem,hA]) ?_
  cases he:zgO s[q] with
  | true=>simp only [go_sem,hA,zAj hlt he,Tryz.results209]
  | false=>
   simp only [go_sem,hA]
   exact⟨by unfold za;omega,s.length - (q+1),by omega,q+1,by omega,rfl,by rw [zgN s q hlt,hf,he];rfl,rfl⟩
 ·have k1:decide ((q:Int)<(s.length:Int))=false:=decide_eq_false (by omega)
  obtain rfl:q=s.length:=by omega
  rw [List.take_length] at hf
  simp only [go_sem,hA,zwd,zK,k1,hf,Tryz.results209]
theorem zCA (N:Nat):∀ t:Ex,nodesE t<N->nodesE t<=1048576->Con Tryz.prog 209 [avE t] (.d (.raw (.bool (zgO t)))):=by
 induction N with
 | zero=>intro t h;omega
 | succ N ih=>intro t h hb;cases t;exact rLong_step N ih _ _ _ _ _ _ h hb
theorem zzF (a:Ex) (hsz:nodesE a<=1048576):Con Tryz.prog 131 [avE a] (.d (.raw (.bool (zkx a)))):=by
 refine zei Tryz.func131 rfl (by decide +kernel) rfl (by simp only [AV.closed,zN,avE,zgg,Bool.and_self]) (by simp [Tryz.ntmps131]) fun A hA=>?_
 rw [Tryz.ntmps131] at hA
 have c1:decide (40<nodesE a)=decide ((40:Int)<(nodesE a:Int)):=decide_eq_decide.2 (by omega)
 refine goC 300 ?_
 unfold zkx
 rw [c1]
 simp only [go_sem,hA,zaB]
 refine zaU 300 (zzE a hsz) rfl (by simp only [go_sem,zaB]) (by simp only [go_sem,hA]) ?_
 cases g1:decide ((40:Int)<(nodesE a:Int)) with
 | true=>simp only [go_sem,hA,g1,undef,Bool.true_or,Tryz.results131]
 | false=>
  simp only [go_sem,hA,g1,Bool.false_or]
  refine zaU 300 (zCA (nodesE a+1) a (by omega) hsz) rfl (by simp only [go_sem,zaB]) (by simp only [go_sem,hA]) ?_
  simp only [go_sem,hA,Tryz.results131]
abbrev zwb (k:Int) (n m:ByteArray) (i d:Int) (s:List Ex) (k':Int) (n' m':ByteArray) (i' d':Int) (s':List Ex) (q:Nat):St:=⟨[(2,.box 0 0),(3,.box 1 0),(5,.d (.raw (.int .i64 q)))],[(0,some (.cell 105 (zrg k n m i d s))),(1,some (.cell 105 (zrg k' n' m' i' d' s')))],[]⟩
theorem rSame_step (N:Nat) (ih:∀ t u:Ex,nodesE t<N->nodesE t<=1099511627776->Con Tryz.prog 272 [avE t,avE u] (.d (.raw (.bool (zfh t u)))))
  (k:Int) (n m:ByteArray) (i d:Int) (s:List Ex) (k':Int) (n' m':ByteArray) (i' d':Int) (s':List Ex) (hN:nodesE (.mk k n m i d s)<N+1) (hb:nodesE (.mk k n m i d s)<=1099511627776) :
  Con Tryz.prog 272 [avE (.mk k n m i d s),avE (.mk k' n' m' i' d' s')] (.d (.raw (.bool (zfh (.mk k n m i d s) (.mk k' n' m' i' d' s'))))):=by
 rw [nodesE] at hN hb
 have hlen:=zaY s
 refine zei Tryz.func272 rfl (by decide +kernel) rfl (by simp only [AV.closed,zN,avE,zgg,Bool.and_self]) (by simp [Tryz.ntmps272]) fun A hA=>?_
 rw [Tryz.ntmps272] at hA
 refine goC 300 ?_
 rw [zfh]
 by_cases hk:k=k'
 case neg=>
  have gk:(decide ¬ k=k')=true:=decide_eq_true hk
  simp only [go_sem,hA,avE,zbj,gk,undef,decide_eq_false hk,Bool.false_and,Bool.and_false,Tryz.results272]
 have gk:(decide ¬ k=k')=false:=by simp [hk]
 by_cases hn:n=n'
 case neg=>
  have gn:(decide ¬ n=n')=true:=decide_eq_true hn
  simp only [go_sem,hA,avE,zbj,gk,gn,undef,decide_eq_false hn,Bool.false_and,Bool.and_false,Tryz.results272]
 have gn:(decide ¬ n=n')=false:=by simp [hn]
 by_cases hm:m=m'
 case neg=>
  have gm:(decide ¬ m=m')=true:=decide_eq_true hm
  simp only [go_sem,hA,avE,zbj,gk,gn,gm,undef,decide_eq_false hm,Bool.false_and,Bool.and_false,Tryz.results272]
 have gm:(decide ¬ m=m')=false:=by simp [hm]
 by_cases hi:i=i'
 case neg=>
  have gi:(decide ¬ i=i')=true:=decide_eq_true hi
  simp only [go_sem,hA,avE,zbj,gk,gn,gm,gi,undef,decide_eq_false hi,Bool.false_and,Bool.and_false,Tryz.results272]
 have gi:(decide ¬ i=i')=false:=by simp [hi]
 by_cases hd:d=d'
 case neg=>
  have gd:(decide ¬ d=d')=true:=decide_eq_true hd
  simp only [go_sem,hA,avE,zbj,gk,gn,gm,gi,gd,undef,decide_eq_false hd,Bool.false_and,Bool.and_false,Tryz.results272]
 have gd:(decide ¬ d=d')=false:=by simp [hd]
 rw [decide_eq_true hk,decide_eq_true hn,decide_eq_true hm,decide_eq_true hi,decide_eq_true hd]
 simp only [Bool.true_and]
 by_cases hl:s.length=s'.length
 case neg=>
  have gl:(decide ¬ (s.length:Int)=(s'.length:Int))=true:=decide_eq_true (by omega)
  have hr:zcS s s'=false:=by
   cases hs:zcS s s' with
   | false=>rfl
   | true=>exact absurd (by rw [(zhH s s').1 hs]) hl
  simp only [go_sem,hA,avE,zbj,gk,gn,gm,gi,gd,gl,zK,hr,Tryz.results272]
 have gl:(decide ¬ (s.length:Int)=(s'.length:Int))=false:=by simp [hl]
 simp only [go_sem,hA,avE,zbj,gk,gn,gm,gi,gd,gl,zK]
 refine zc [2,3,5] [0,1] [] (fun x σ=>∃ q:Nat,q<=s.length/\x=s.length - q/\zcS (s.take q) (s'.take q)=true/\σ=zwb k n m i d s k' n' m' i' d' s' q) s.length ⟨0,by omega,by omega,rfl,by simp only [go_sem,zwb]⟩ ?_
 rintro x σ ⟨q,hq,rfl,hf,rfl⟩
 refine goC 300 ?_
 by_cases hlt:q<s.length
 ·have k1:decide ((q:Int)<(s.length:Int))=true:=decide_eq_true (by omega)
  have hlt':q<s'.length:=by omega
  have hn1:=zeS s q hlt
  have hts:=zlr s s' q hlt hlt'
  simp only [go_sem,hA,zwb,zK,k1,Int.toNat_natCast,zjJ s q hlt,zjJ s' q hlt',mixed]
  refine⟨⟨by omega,by omega⟩,⟨by omega,by omega⟩,?_⟩
  refine zlG 300 (ih s[q] s'[q] (by omega) (by omega)) rfl (by simp only [go_sem,zaB]) (by simp only [go_sem,hA]) ?_
  cases he:zfh s[q] s'[q] with
  | true=>
   rw [he,hf] at hts
   simp only [go_sem,hA]
   exact⟨by show chk _ _ _=true;kernel_rfl,by unfold za;omega,s.length - (q+1),by omega,q+1,by omega,rfl,hts,rfl⟩
  | false=>
   have hr:zcS s s'=false:=by
    cases hs:zcS s s' with
    | false=>rfl
    | true=>
     have e:=(zhH s s').1 hs
     subst e
     rw [zuq] at he
     cases he
   simp only [go_sem,hA,hr,Tryz.results272]
   show chk _ _ _=true
   kernel_rfl
 ·have k1:decide ((q:Int)<(s.length:Int))=false:=decide_eq_false (by omega)
  obtain rfl:q=s.length:=by omega
  rw [List.take_length,hl,List.take_length] at hf
  simp only [go_sem,hA,zwb,zK,k1,hf,Tryz.results272]
theorem zCy (N:Nat):∀ t u:Ex,nodesE t<N->nodesE t<=1099511627776->Con Tryz.prog 272 [avE t,avE u] (.d (.raw (.bool (zfh t u)))):=by
 induction N with
 | zero=>intro t u h;omega
 | succ N ih=>intro t u h hb;cases t;cases u;exact rSame_step N ih _ _ _ _ _ _ _ _ _ _ _ _ h hb
theorem zCz (a b:Ex) (hsz:nodesE a<=1099511627776):Con Tryz.prog 272 [avE a,avE b] (.d (.raw (.bool (zfh a b)))):=zCy (nodesE a+1) a b (by omega) hsz
theorem v2 (b c:Bool):(b=false/\c=true)\/b=true\/(b=false/\c=false):=by cases b <;> cases c <;> simp
end
section
open Go Go.RowKit
theorem zeo (a:Ex) (hsz:nodesE a<=1048576):Con Tryz.prog 137 [avE a] (.d (.raw (.int .i64 (zal a)))):=zvC ⟨_,Tryz.func137,by decide +kernel,rfl⟩ fun _ _ hx=>zpW hx hsz
end
section
open Go Go.RowKit
end
section
open Go Go.RowKit
abbrev bs (l:List UInt8):ByteArray:=⟨l.toArray⟩
def atB (l:List ByteArray) (i:Nat):ByteArray:=l.getD i ⟨#[]⟩
theorem ztn (l:List ByteArray) (i:Nat) (h:i<l.length):(zQ l).getD i []=[.raw (.string (atB l i))]:=by
 rw [zbC l i h]
 simp [atB,List.getD_eq_getElem?_getD,h]
end
section
open Go Go.RowKit
end
end Go.Proofs.YtpnjjmcimjlfkaaGreatDoor
namespace Go.Proofs
open Go.Shelf
def Tryz.lays110_ren:Go.Shelf.Ren:=⟨fun | 110=>262 | 109=>290 | n=>n,fun | 31=>53 | 9=>9 | 4=>4 | 3=>3 | 0=>0 | n=>n,fun | n=>n⟩
theorem Tryz.lays110:Go.Proofs.Lays.n110 Tryz.prog Tryz.lays110_ren:={
 mixed:=by kernel_rfl
 f109:=Tryz.func290.trans (congrArg some (by kernel_rfl))
 f110:=Tryz.func262.trans (congrArg some (by kernel_rfl))
 t0:=Tryz.underlying0
 a0:=Tryz.isAgg0
 z0:=Tryz.sizeOf0
 v0:=Tryz.zeroValue0
 t3:=Tryz.underlying3
 a3:=Tryz.isAgg3
 z3:=Tryz.sizeOf3
 v3:=Tryz.zeroValue3
 t4:=Tryz.underlying4
 a4:=Tryz.isAgg4
 z4:=Tryz.sizeOf4
 v4:=Tryz.zeroValue4
 t9:=Tryz.underlying9
 a9:=Tryz.isAgg9
 z9:=Tryz.sizeOf9
 v9:=Tryz.zeroValue9
 t31:=Tryz.underlying53
 a31:=Tryz.isAgg53
 z31:=Tryz.sizeOf53
 v31:=Tryz.zeroValue53 }
open Go.Lib in
theorem Tryz.slices_Contains_string (b off n c:Nat) (zs:List ByteArray) (x:ByteArray) (w:World) (hz:n<=zs.length) (hbig:n<=9223372036854775807) (hc:∀ j,j<zs.length->w.cell? ⟨b,off+j,none⟩=some (.string (zs.getD j ByteArray.empty))) :
  Calls Tryz.prog 262 #[.slice (some ⟨b,off,none⟩) n c,.string x] w fun e w'=>e = .returned (.bool (Lib.containsS (zs.take n) x))/\w'=w:=Any.slices_Contains_string Tryz.lays110 b off n c zs x w hz hbig hc
open Go.Lib in
theorem Tryz.slices_Contains_string_empty (a:Option Addr) (c:Nat) (x:ByteArray) (w:World) :
  Calls Tryz.prog 262 #[.slice a 0 c,.string x] w fun e w'=>e = .returned (.bool false)/\w'=w:=Any.slices_Contains_string_empty Tryz.lays110 a c x w
def Tryz.laysNm216_ren:Go.Shelf.Ren:=⟨fun | 16=>263 | n=>n,fun | 24=>53 | 9=>9 | 4=>4 | n=>n,fun | n=>n⟩
theorem Tryz.laysNm216:Go.Proofs.Lays2.n16 Tryz.prog Tryz.laysNm216_ren:={
 mixed:=by kernel_rfl
 f16:=Tryz.func263.trans (congrArg some (by kernel_rfl))
 t4:=Tryz.underlying4
 a4:=Tryz.isAgg4
 z4:=Tryz.sizeOf4
 v4:=Tryz.zeroValue4
 t9:=Tryz.underlying9
 a9:=Tryz.isAgg9
 z9:=Tryz.sizeOf9
 v9:=Tryz.zeroValue9
 t24:=Tryz.underlying53
 a24:=Tryz.isAgg53
 z24:=Tryz.sizeOf53
 v24:=Tryz.zeroValue53
 i9:=by kernel_rfl }
open Go.RowKit Go.Lib in
theorem Tryz.slices_Clone_string (b off n c:Nat) (zs:List ByteArray) (w:World) (hz:n<=zs.length) (hbig:n * 16<=140737488355328) (hc:∀ j,j<zs.length->w.cell? ⟨b,off+j,none⟩=some (.string (zs.getD j ByteArray.empty))) :
  Calls Tryz.prog 263 #[.slice (some ⟨b,off,none⟩) n c] w fun e w'=>∃ v',e = .returned v'/\w'.ownsRow w.heap.size 9 1 v' n ((zs.take n).map (Value.string))/\v' ≠ .slice none 0 0/\Below w.heap.size w w':=Any.slices_Clone_string Tryz.laysNm216 b off n c zs w hz hbig hc
open Go.RowKit Go.Lib in
theorem Tryz.slices_Clone_string_nil (n c:Nat) (w:World) :
  Calls Tryz.prog 263 #[.slice none n c] w fun e w'=>e = .returned (.slice none 0 0)/\w'=w:=Any.slices_Clone_string_nil Tryz.laysNm216 n c w
open Go.RowKit Go.Lib in
theorem Tryz.slices_Clone_string_zero (a:Addr) (c:Nat) (w:World) :
  Calls Tryz.prog 263 #[.slice (some a) 0 c] w fun e w'=>∃ v',e = .returned v'/\w'.ownsRow w.heap.size 9 1 v' 0 []/\v' ≠ .slice none 0 0/\Below w.heap.size w w':=Any.slices_Clone_string_zero Tryz.laysNm216 a c w
def Tryz.lays169_ren:Go.Shelf.Ren:=⟨fun | 169=>112 | n=>n,fun | 70=>143 | 9=>9 | 0=>0 | 72=>146 | 37=>144 | 127=>218 | 3=>3 | 5=>5 | n=>n,fun | n=>n⟩
theorem Tryz.lays169:Go.Proofs.Lays.n169 Tryz.prog Tryz.lays169_ren:={
 mixed:=by kernel_rfl
 f169:=Tryz.func112.trans (congrArg some (by kernel_rfl))
 t0:=Tryz.underlying0
 a0:=Tryz.isAgg0
 z0:=Tryz.sizeOf0
 v0:=Tryz.zeroValue0
 t3:=Tryz.underlying3
 a3:=Tryz.isAgg3
 z3:=Tryz.sizeOf3
 v3:=Tryz.zeroValue3
 t9:=Tryz.underlying9
 a9:=Tryz.isAgg9
 z9:=Tryz.sizeOf9
 v9:=Tryz.zeroValue9
 t37:=Tryz.underlying144
 a37:=Tryz.isAgg144
 z37:=Tryz.sizeOf144
 v37:=Tryz.zeroValue144
 t70:=Tryz.underlying143
 a70:=Tryz.isAgg143
 z70:=Tryz.sizeOf143
 v70:=Tryz.zeroValue143
 t72:=Tryz.underlying146
 a72:=Tryz.isAgg146
 z72:=Tryz.sizeOf146
 v72:=Tryz.zeroValue146
 t127:=Tryz.underlying218
 a127:=Tryz.isAgg218
 z127:=Tryz.sizeOf218
 v127:=Tryz.zeroValue218 }
theorem Tryz.Builder_Extra_169:Builder.Extra Tryz.prog Tryz.lays169_ren:={
 sizeBuilder:=by kernel_rfl
 liesBuilder:=by kernel_rfl
 t5:=Tryz.underlying5
 a5:=Tryz.isAgg5
 z5:=Tryz.sizeOf5
 v5:=Tryz.zeroValue5
 infoByte:=by kernel_rfl
 cellsByte:=by kernel_rfl
 sizeByte:=by kernel_rfl
 neB5:=by decide }
open Go.RowKit in
theorem Tryz.Builder_String_any (B b:Nat) (l:List UInt8) (w:World) (h:Lib.IsBuilder 146 5 B b (Lib.byteCells l) w) (hBw:B<=w.heap.size) :
  Calls Tryz.prog 112 #[.pointer (some ⟨b,0,none⟩)] w fun e w'=>e = .returned (.string ⟨l.toArray⟩)/\Below B w w':=Any.Builder_String_any Tryz.lays169 Tryz.Builder_Extra_169 B b l w h hBw
end Go.Proofs
namespace Go.Proofs.YtpnjjmcimjlfkaaGreatDoor
section
open Go Go.RowKit
theorem zix {w:World} {F:Nat->Nat->Prop} {l:List ByteArray} {v:Value} (h:Reads w F (.sl (zQ l)) v) :
  (l=[]/\∃ p cap,v = .slice p 0 cap)\/(0<l.length/\∃ b off cap,v = .slice (some ⟨b,off,none⟩) l.length cap/\l.length<=cap/\F b (off+0 * 1+0)/\∀ j,j<l.length->w.cell? ⟨b,off+j,none⟩=some (.string (l.getD j ByteArray.empty))):=by
 obtain⟨p,cap,rfl,hcap⟩:=h.slice
 rw [zg] at hcap h ⊢
 by_cases hz:l.length=0
 ·left
  have:l=[]:=List.eq_nil_of_length_eq_zero hz
  subst this
  exact⟨rfl,p,cap,rfl⟩
 ·right
  have hrow:∀ i (hi:i<l.length),(zQ l)[i]'(by rw [zg];exact hi)=[.raw (.string l[i])]:=fun i hi=>by simp [zQ]
  have h0:=h.row 0 (by rw [zg];omega) (st:=1) (by rw [hrow 0 (by omega)];rfl)
  obtain⟨b,off,rfl,hc0⟩:=h0
  refine⟨by omega,b,off,cap,rfl,hcap,(hc0 0 (by rw [hrow 0 (by omega)];exact Nat.one_pos)).1,fun j hj=>?_⟩
  obtain⟨b',off',he,hcj⟩:=h.row j (by rw [zg];omega) (st:=1) (by rw [hrow j hj];rfl)
  obtain⟨_,u,hu,hr⟩:=hcj 0 (by rw [hrow j hj];exact Nat.one_pos)
  have hbb:b'=b/\off'=off:=by
   injection he with he
   injection he with he1 he2
   exact⟨he1.symm,he2.symm⟩
  obtain⟨rfl,rfl⟩:=hbb
  have e:((zQ l)[j]'(by rw [zg];exact hj))[0]'(by rw [hrow j hj];exact Nat.one_pos) = .raw (.string l[j]):=by simp only [hrow j hj,List.getElem_cons_zero]
  rw [e] at hr
  rw [hr.raw_eq,Nat.mul_one,Nat.add_zero] at hu
  rw [hu]
  simp [List.getD_eq_getElem?_getD,hj]
abbrev zaX (fs:List ByteArray):List Value:=fs.map Value.string
abbrev zbh (fs:List ByteArray):List AV:=List.replicate fs.length (.d (.raw (.bool true)))
def zox (fs:List ByteArray) (s:ByteArray):List ByteArray:=if zia fs s then fs else fs++[s]
theorem zdX (s:ByteArray):∀ fs:List ByteArray,(zbs (.string s) (zaX fs)).isSome=zia fs s
 | []=>rfl
 | f :: fs=>by
  have ih:=zdX s fs
  simp only [zaX,List.map_cons,zbs,zph,zia,List.any_cons]
  by_cases h:s=f
  ·subst h;simp
  ·have h':¬ f=s:=fun e=>h e.symm
   simp only [h,h',decide_false,Bool.false_eq_true,if_false,Option.isSome_map,Bool.false_or]
   exact ih
theorem zkB (s:ByteArray):∀ (fs:List ByteArray) (i:Nat),zbs (.string s) (zaX fs)=some i->i<fs.length
 | [],i,h=>by simp [zaX,zbs] at h
 | f :: fs,i,h=>by
  simp only [zaX,List.map_cons,zbs] at h
  split at h
  ·cases h;simp
  ·cases hf:zbs (.string s) (zaX fs) with
   | none=>rw [show List.map Value.string fs=zaX fs from rfl,hf] at h;cases h
   | some j=>
    rw [show List.map Value.string fs=zaX fs from rfl,hf] at h
    cases h
    have:=zkB s fs j hf
    simp;omega
theorem zmv (fs:List ByteArray) (s:ByteArray):zji (zaX fs) (.string s)=zaX (zox fs s):=by
 have h:=zdX s fs
 unfold zji zox
 cases hf:zbs (.string s) (zaX fs) with
 | none=>rw [hf] at h;rw [<- h];simp [zaX]
 | some i=>rw [hf] at h;rw [<- h];rfl
theorem zmw (fs:List ByteArray) (s:ByteArray):zjj (zaX fs) (zbh fs) (.string s) (.d (.raw (.bool true)))=zbh (zox fs s):=by
 have h:=zdX s fs
 unfold zjj zox
 cases hf:zbs (.string s) (zaX fs) with
 | none=>
  rw [hf] at h
  rw [<- h]
  simp only [Option.isSome_none,Bool.false_eq_true,if_false,zbh,List.length_append,List.length_cons,List.length_nil,List.replicate_succ',Nat.zero_add]
 | some i=>
  rw [hf] at h
  rw [<- h]
  simp only [Option.isSome_some,if_true]
  have:=zkB s fs i hf
  apply List.ext_getElem
  ·simp
  ·intro j h1 h2
   simp []
theorem zcV (fs:List ByteArray):(zaX fs).all (zdf .string)=true:=by
 rw [List.all_eq_true]
 intro x hx
 obtain⟨s,_,rfl⟩:=List.mem_map.1 hx
 rfl
theorem zaK (fs:List ByteArray):zN (zbh fs)=true:=by
 unfold zbh
 induction fs.length with
 | zero=>rfl
 | succ n ih=>rw [List.replicate_succ,zN,ih];rfl
theorem zV (r n:Nat):zbq r (List.replicate n (AV.d (D.raw (Value.bool true))))=false:=by
 induction n with
 | zero=>rfl
 | succ n ih=>rw [List.replicate_succ,zbq,ih];rfl
end
section
open Go Go.RowKit
end
section
open Go Go.RowKit
end
section
open Go Go.RowKit
structure Dc where
 id:Int
 kind:Int
 pub:Bool
 names:List ByteArray
 doubt:Bool
 body:Ex
def zcb (x:Dc):List D:=[.raw (.int .i64 x.id),.raw (.int .i64 x.kind),.raw (.bool x.pub),.sl (zQ x.names),.raw (.bool x.doubt),.raw (.int .i64 x.body.kind),.raw (.string x.body.name),.raw (.string x.body.more),.raw (.int .i64 x.body.int),.raw (.int .i64 x.body.den),.sl (zaF x.body.sub)]
def avD (x:Dc):AV:=.agg [.d (.raw (.int .i64 x.id)),.d (.raw (.int .i64 x.kind)),.d (.raw (.bool x.pub)),.d (.sl (zQ x.names)),.d (.raw (.bool x.doubt)),.d (.raw (.int .i64 x.body.kind)),.d (.raw (.string x.body.name)),.d (.raw (.string x.body.more)),.d (.raw (.int .i64 x.body.int)),.d (.raw (.int .i64 x.body.den)),.d (.sl (zaF x.body.sub))]
def zbl (l:List ByteArray) (s:ByteArray):Bool:=!zcd s && (decide (l.length=1) || decide (¬ s=⟨#[]⟩))
end
section
open Go Go.RowKit
end
section
open Go Go.RowKit
variable {A:Base Tryz.prog} {σ:St} {g:Gh} {a:Act} {w:World}
theorem zoJ {o:Oper} {c:Call} {p:Operand} {f:FuncId} (hk:Ok A σ g a w) (ho:o.op = .call c) (hp:c.callee = .value p) (hf:σ.eval p = .fn f []) (hen:zcQ Tryz.prog f):(execOp a.eval o).run Tryz.prog w = .ok (.enter f (c.args.toList.map a.eval).toArray) w:=by
 have hpe:=hk.eval p
 rw [hf] at hpe
 obtain⟨vs,hv,hvl,hvs⟩:=hpe.fn_eq
 obtain rfl:vs=[]:=List.eq_nil_of_length_eq_zero hvl.symm
 simp only [execOp,ho,resolve,hp,hv,Deferred.ofValue,Sem.run_bind,Sem.run_pure,Result.andThen_ok,invoke]
 rw [zaL hen]
 have he:#[]++c.args.map a.eval++[].toArray=(c.args.toList.map a.eval).toArray:=by
  apply Array.ext';simp
 rw [he]
end
section
open Go Go.RowKit
end
section
open Go Go.RowKit
end
section
open Go Go.RowKit
end
end Go.Proofs.YtpnjjmcimjlfkaaGreatDoor
