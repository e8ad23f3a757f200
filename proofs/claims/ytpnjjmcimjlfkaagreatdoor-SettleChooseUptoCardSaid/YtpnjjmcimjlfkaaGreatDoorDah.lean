/- Texts of this proof, part 8: what the proof uses of them. -/
import Derived.Test.YtpnjjmcimjlfkaaGreatDoorDag
import Derived.RangeFuncBound
import Derived.RangeFuncCalls
import Derived.RangeFuncLeaves
import Derived.Shelf.Abstract
import Derived.Shelf.RegionOpen
import Derived.OwnWalkIn
import Derived.TacticsInMore
import Derived.LoopNIn
import Derived.LoopIn
import Derived.OneCell
import Derived.RangeFuncWrites
import Derived.Deep.LoopGhost
import Derived.Outline
set_option maxRecDepth 100000
set_option maxHeartbeats 64000000
namespace Go.Proofs.YtpnjjmcimjlfkaaGreatDoor
section
open Go.RowKit Go.Shelf
attribute [local go_sem] Oper.semAt_some
def zwO (w:World) (b:Nat):Nat:=match w.cell? ⟨b,0,none⟩ with | some (Value.string r)=>r.size | _=>0
theorem zqD {w:World} {b t:Nat} {r:ByteArray} (h:w.heap[b]? = some (.cells #[.string r] t (0,0))):zwO w b=r.size:=by simp [zwO,cell_of_one h]
def zdM (s:ByteArray) (xs:List ByteArray):Prop:=xs.map (fun x=>x.data.toList)=zaH s.data.toList
def zfV (s:ByteArray) (xs:List ByteArray):Prop:=xs.map (fun x=>x.data.toList) <+: zaH s.data.toList
def zqH (bs:List Nat) (A B:World):Prop:=∀ b ∈ bs,B.heap[b]? = A.heap[b]?
def ziW (b:Nat) (A B:World):Prop:=∃ r:ByteArray,B=A.setCell ⟨b,0,none⟩ (.string r)
theorem zzB (s:ByteArray) (c:UInt8) (w:World) :
  Calls Tryz.prog 256 #[.string s,.string ⟨#[c]⟩] w fun e w'=>e = .returned (.int .i64 (Lib.indexByte s.data.toList c))∧w=w':=
 (Tryz.strings_Index_one s c w).mono fun _ _ ⟨h1,h2⟩=>⟨h1,h2.symm⟩
theorem zpz (n l b1 b2 b3:Nat) (hn1:1≤n) (s:ByteArray) (hs:s.size≤9223372036854775806) (h12:b1≠b2) (h32:b3≠b2) (J Jx:List ByteArray→World→Prop)
  (hJ:∀ pre A B,J pre A→ziW b2 A B→J pre B)
  (hY:∀ pre x A,J pre A→YieldAt Fence.wide (n - 1) Tryz.prog l #[.string x] A fun e B=>
   (e = .returned (.bool true)∧J (pre++[x]) B∧zqH [b1,b2,b3] A B)∨(e = .returned (.bool false)∧Jx (pre++[x]) B))
  (W:World) (hb1:W.heap[b1]? = some (.cells #[.string ⟨#[47]⟩] 9 (0,0))) (hb2:W.heap[b2]? = some (.cells #[.string s] 9 (0,0))) (hb3:W.heap[b3]? = some (.cells #[.int .i64 0] 3 (0,0))) (h0:J [] W) :
  CallsIn Fence.wide n Tryz.prog 254 #[.func (.yield l) #[] #[],.pointer (some ⟨b1,0,none⟩),.pointer (some ⟨b2,0,none⟩),.pointer (some ⟨b3,0,none⟩)] W fun e B=>(∃ v,e = .returned v) ∧
   ((∃ xs:List ByteArray,zdM s xs∧J xs B)∨(∃ pre:List ByteArray,zfV s pre∧Jx pre B)):=by
 have c1:=cell_of_one hb1
 refine callsIn_of_wp Tryz.func254 rfl trivial ?_ rfl
 simp only [Tryz.ntmps254,List.size_toArray,List.length_cons,List.length_nil,Nat.reduceAdd,Nat.reduceSub,Array.replicate_succ,Array.replicate_zero,List.push_toArray,List.append_toArray,List.nil_append,List.cons_append]
 gi_wp2_with fail
 gi_loopw [7,8] (fun _ _ wr=>∃ (pre:List ByteArray) (r:ByteArray),wr.heap[b1]? = some (.cells #[.string ⟨#[47]⟩] 9 (0,0))∧wr.heap[b2]? = some (.cells #[.string r] 9 (0,0))∧wr.heap[b3]? = some (.cells #[.int .i64 0] 3 (0,0)) ∧
   r.size≤9223372036854775806∧J pre wr∧Hid (pre.map (·.data.toList)++zaH r.data.toList=zaH s.data.toList)) (fun _ _ wr=>zwO wr b2)
 case atStart=>exact⟨[],s,hb1,hb2,hb3,hs,h0,Lib.hid rfl⟩
 case round=>
  obtain⟨pre,r,hr1,hr2,hr3,hrs,hJr,hP⟩:=hrel
  have d1:=cell_of_one hr1
  have d2:=cell_of_one hr2
  have d3:=cell_of_one hr3
  have f2:=free_of_one hr2
  have hge:=Lib.indexByte_ge r.data.toList 47
  have HC:=Lib.hid (zzB r 47 wr)
  have HR1:=Lib.hid hr1
  have HR2:=Lib.hid hr2
  have HR3:=Lib.hid hr3
  clear hr1 hr2 hr3 c1 hb1 hb2 hb3
  by_cases hneg:Lib.indexByte r.data.toList 47<0
  ·have hm1:Lib.indexByte r.data.toList 47 = -1:=by omega
   have HN:=Lib.hid (zhc hm1)
   rw [hm1] at HC
   clear hm1 hneg hge
   obtain⟨fn,tmps,assign,body,hy,hR⟩:=hY pre r wr hJr
   gi_wp2_with (first | (refine⟨trivial,?_⟩;gi_at_call 256;refine(callsIn_wide.2 HC.out).mono ?_;rintro e w' ⟨rfl,rfl⟩))
   refine hR.mono ?_
   rintro e W3 (⟨rfl,hJ3,hk3⟩ | ⟨rfl,hJx3⟩)
   ·gi_wp2_with fail
    go_end0
    exact⟨⟨_,rfl⟩,.inl ⟨_,by unfold zdM;rw [← hP.out,HN.out];simp,hJ3⟩⟩
   ·gi_wp2_with fail
    go_end0
    exact⟨⟨_,rfl⟩,.inr ⟨_,by unfold zfV;rw [← hP.out,HN.out];simp,hJx3⟩⟩
  ·obtain⟨i,hi⟩:∃ i:Nat,Lib.indexByte r.data.toList 47=(i:Int):=⟨_,(Int.toNat_of_nonneg (by omega)).symm⟩
   obtain⟨hlt,hparts⟩:=zeW hi
   have hlt':i<r.size:=by simpa using hlt
   rw [hi] at HC
   clear hi hlt hneg hge
   have HN:=Lib.hid hparts
   clear hparts
   obtain⟨fn,tmps,assign,body,hy,hR⟩:=hY pre (r.extract 0 i) wr hJr
   gi_wp2_with (first | (refine⟨trivial,?_⟩;gi_at_call 256;refine(callsIn_wide.2 HC.out).mono ?_;rintro e w' ⟨rfl,rfl⟩))
   refine hR.mono ?_
   rintro e W3 (⟨rfl,hJ3,hk3⟩ | ⟨rfl,hJx3⟩)
   ·have k1:W3.heap[b1]? = _:=(hk3 b1 (by simp)).trans HR1.out
    have k2:W3.heap[b2]? = _:=(hk3 b2 (by simp)).trans HR2.out
    have k3:W3.heap[b3]? = _:=(hk3 b3 (by simp)).trans HR3.out
    have g1:=cell_of_one k1
    have g2:=cell_of_one k2
    have g3:=cell_of_one k3
    have e2:=free_of_one k2
    have K1:=Lib.hid k1
    have K2:=Lib.hid k2
    have K3:=Lib.hid k3
    have hk3':=Lib.hid hk3
    clear k1 k2 k3 d1 d2 d3 f2 hk3
    gi_wp2_with fail
    go_roundw
    case rel=>
     refine⟨_,r.extract (i+1) r.size,?_,one_setCell K2.out,?_,by simp;omega,hJ _ _ _ hJ3 ⟨_,rfl⟩,Lib.hid ?_⟩
     ·exact(Below.heap_setCell _ _ _ _ h12).trans K1.out
     ·exact(Below.heap_setCell _ _ _ _ h32).trans K3.out
     ·rw [← hP.out,HN.out,zhq]
      simp
    case measure=>rw [zqD (one_setCell K2.out),zqD HR2.out];simp;omega
   ·gi_wp2_with fail
    refine bodyPost_ret (results_none rfl _ _ _) rfl ?_
    exact⟨⟨_,rfl⟩,.inr ⟨_,⟨zaH (r.data.toList.drop (i+1)),by rw [← hP.out,HN.out];simp⟩,hJx3⟩⟩
end
section
open Go.RowKit Go.Shelf
attribute [local go_sem] Oper.semAt_some
theorem zjg (s sep:ByteArray) (w:World) :
  Calls Tryz.prog 132 #[.string s,.string sep] w fun e w'=>
   e = .returned (.func (.func 254) #[] #[.pointer (some ⟨w.heap.size+1,0,none⟩),.pointer (some ⟨w.heap.size,0,none⟩),.pointer (some ⟨w.heap.size+1+1,0,none⟩)]) ∧
   ((w.alloc (.cells #[.string s] 9)).alloc (.cells #[.string sep] 9)).alloc (.cells #[.int .i64 0] 3)=w':=by
 go_enter Tryz.func132,Tryz.ntmps132
 go_wp2
 go_ret
 exact⟨rfl,rfl⟩
theorem zlz {l:List UInt8} (h:90<l.length):zX l=false:=by
 have:¬ l.length≤90:=by omega
 simp [zX,this]
theorem zwq (s:ByteArray) (w:World) (h:90<s.size) :
  Calls Tryz.prog 67 #[.string s] w fun e w'=>e = .returned (.bool (zX s.data.toList))∧Below w.heap.size w w':=by
 have HF:=Lib.hid (zlz (l:=s.data.toList) (by simpa using h))
 go_enter Tryz.func67,Tryz.ntmps67
 go_wp2_with fail
 refine bodyPost_ret (v:=.bool false) (by simp [results,Tryz.results67,go_sem]) rfl ?_
 exact⟨by rw [HF.out],(Below.refl _ _).alloc (Nat.le_refl _) _⟩
theorem zuP {l:List UInt8} {a b:Nat} (h:l.length≤a) (h':l.length≤b):zaA a l=zaA b l:=by
 cases l with
 | nil=>rfl
 | cons c r=>
  have h1:r.length+1≤a:=by simpa using h
  have h2:r.length+1≤b:=by simpa using h'
  simp [zaA,h1,h2]
theorem zlB {bs:List Nat} {A B:World} (h:Below A.heap.size A B) (hb:∀ b ∈ bs,b<A.heap.size):zqH bs A B:=fun b hm=>h.block b (hb b hm)
theorem zaS {A B:World} (h:Below A.heap.size A B):KeepsOthers A B:=⟨h.size,fun k _ hk _=>(h.block k (Array.getElem?_eq_some_iff.1 hk).1).trans hk⟩
def zhD (pre:List ByteArray):Prop:=∀ p ∈ pre,zaA 20 p.data.toList=true
def zsp (pre:List ByteArray):Prop:=∃ p ∈ pre,zaA 20 p.data.toList=false
def zkW (w:World) (pre:List ByteArray) (W:World):Prop:=zhD pre∧W.heap[w.heap.size]? = some (.cells #[.bool false] 4 (0,0))∧w.heap.size+1+1+1+1≤W.heap.size∧Below w.heap.size w W
def zso (w:World) (c:Code) (pre:List ByteArray) (W:World):Prop:=c = .ret∧zsp pre∧W.heap[w.heap.size]? = some (.cells #[.bool false] 4 (0,0))∧w.heap.size+1+1+1+1≤W.heap.size∧Below w.heap.size w W
theorem allWords_snoc {pre:List ByteArray} {x:ByteArray} (h:zhD pre) (hx:zaA 20 x.data.toList=true):zhD (pre++[x]):=by
 intro p hp
 rcases List.mem_append.1 hp with h1 | h1
 ·exact h p h1
 ·simp at h1;subst h1;exact hx
theorem zka {pre:List ByteArray} {x:ByteArray} (hx:zaA 20 x.data.toList=false):zsp (pre++[x]):=⟨x,by simp,hx⟩
theorem zfz {W W':World} {row:Option Nat} {b:Nat} {v:Value} {t:TypeId} (h:W.heap[b]? = some (.cells #[v] t (0,0))) (hg:W.grownBy W' row) (hr:∀ r,row=some r→∃ o:Obj,W.heap[r]? = some o∧o.isCells=false):W'.heap[b]? = some (.cells #[v] t (0,0)):=
 (grownBy_keeps_cells hg hr h rfl).trans h
theorem zwu (w:World) (B:Nat) (hB:w.heap.size≤B):OwnFrom B (zkW w):=fun s W W' row hs hg hr=>
 ⟨hs.1,zfz hs.2.1 hg (fun r e=>(hr r e).2),Nat.le_trans hs.2.2.1 hg.size,hs.2.2.2.trans ((Below.refl _ _).grown hg (by have:=hs.2.2.1;omega) (fun k e=>by have:=(hr k e).1;omega))⟩
theorem zwr (w:World) (c:Code) (B:Nat) (hB:w.heap.size≤B):OwnFrom B (zso w c):=fun s W W' row hs hg hr=>
 ⟨hs.1,hs.2.1,zfz hs.2.2.1 hg (fun r e=>(hr r e).2),Nat.le_trans hs.2.2.2.1 hg.size,hs.2.2.2.2.trans ((Below.refl _ _).grown hg (by have:=hs.2.2.2.1;omega) (fun k e=>by have:=(hr k e).1;omega))⟩
theorem zrN (w:World) (pre:List ByteArray) (A B:World) (h:zkW w pre A) (hr:ziW (w.heap.size+1) A B):zkW w pre B:=by
 obtain⟨r,rfl⟩:=hr
 refine⟨h.1,(Below.heap_setCell _ _ _ _ (by simp)).trans h.2.1,by simpa [World.setCell] using h.2.2.1,h.2.2.2.setCell (p:=⟨w.heap.size+1,0,none⟩) (by simp) _⟩
theorem zrL (w:World) (c:Code) (pre:List ByteArray) (A B:World) (h:zso w c pre A) (hr:ziW (w.heap.size+1) A B):zso w c pre B:=by
 obtain⟨r,rfl⟩:=hr
 refine⟨h.1,h.2.1,(Below.heap_setCell _ _ _ _ (by simp)).trans h.2.2.1,by simpa [World.setCell] using h.2.2.2.1,h.2.2.2.2.setCell (p:=⟨w.heap.size+1,0,none⟩) (by simp) _⟩
theorem labelI_below (w:World) (pre pre':List ByteArray) (A B:World) (h:zkW w pre A) (hw:zhD pre') (hb:Below A.heap.size A B):zkW w pre' B:=
 ⟨hw,(hb.block _ (by have:=h.2.2.1;omega)).trans h.2.1,Nat.le_trans h.2.2.1 hb.size,h.2.2.2.trans (hb.mono (by have:=h.2.2.1;omega))⟩
theorem zwt {s:ByteArray} {xs:List ByteArray} (h:s.size≤90) (hx:zdM s xs) (ha:zhD xs):zX s.data.toList=true:=by
 unfold zdM at hx
 unfold zX
 rw [← hx,Bool.and_eq_true]
 refine⟨by simpa using h,?_⟩
 rw [List.all_eq_true]
 intro p hp
 obtain⟨q,hq,rfl⟩:=List.mem_map.1 hp
 exact ha q hq
theorem zws {s:ByteArray} {xs:List ByteArray} (hx:zfV s xs) (ha:zsp xs):zX s.data.toList=false:=by
 unfold zX
 rw [Bool.and_eq_false_iff];right
 rw [List.all_eq_false]
 obtain⟨q,hq,hb⟩:=ha
 exact⟨q.data.toList,(show _ <+: _ from hx).subset (List.mem_map.2 ⟨q,hq,rfl⟩),by simp [hb]⟩
theorem ztN (s:ByteArray) (w:World) (h:s.size≤90) :
  Calls Tryz.prog 67 #[.string s] w fun e w'=>e = .returned (.bool (zX s.data.toList))∧Below w.heap.size w w':=by
 have h90:decide (90<(s.size:Int))=false:=by simp;omega
 refine(callsIn_wide (n:=4)).1 ?_
 refine callsIn_of_wp_marks Tryz.func67 rfl trivial ?_ rfl
 simp only [Tryz.ntmps67,List.size_toArray,List.length_cons,List.length_nil,Nat.reduceAdd,Nat.reduceSub,Array.replicate_succ,Array.replicate_zero,List.push_toArray,List.append_toArray,List.nil_append,List.cons_append]
 gi_wp2_with (first | (refine⟨trivial,?_⟩;gi_at_call 132;refine(callsIn_wide.2 (zjg s ⟨#[47]⟩ _)).mono ?_;rintro e w' ⟨rfl,rfl⟩))
 obtain⟨W0,hW0⟩:∃ W0,((((w.alloc (Obj.cells #[Value.bool false] 4)).alloc (Obj.cells #[Value.string s] 9)).alloc (Obj.cells #[Value.string ⟨#[47]⟩] 9)).alloc (Obj.cells #[Value.int IntKind.i64 0] 3))=W0:=⟨_,rfl⟩
 have z0:w.heap.size+1+1+1+1=W0.heap.size:=by rw [← hW0];simp
 have q0:W0.heap[w.heap.size]? = some (.cells #[.bool false] 4 (0,0)):=by rw [← hW0];exact(Below.heap_alloc _ _ _ (by simp <;> omega)).trans ((Below.heap_alloc _ _ _ (by simp <;> omega)).trans ((Below.heap_alloc _ _ _ (by simp)).trans (World.alloc_heap_new w _)))
 have q1:W0.heap[w.heap.size+1]? = some (.cells #[.string s] 9 (0,0)):=by
  rw [← hW0];refine(Below.heap_alloc _ _ _ (by simp <;> omega)).trans ((Below.heap_alloc _ _ _ (by simp)).trans ?_)
  have:=World.alloc_heap_new (w.alloc (Obj.cells #[Value.bool false] 4)) (Obj.cells #[Value.string s] 9)
  rwa [World.size_alloc] at this
 have q2:W0.heap[w.heap.size+1+1]? = some (.cells #[.string ⟨#[47]⟩] 9 (0,0)):=by
  rw [← hW0];refine(Below.heap_alloc _ _ _ (by simp)).trans ?_
  have:=World.alloc_heap_new ((w.alloc (Obj.cells #[Value.bool false] 4)).alloc (Obj.cells #[Value.string s] 9)) (Obj.cells #[Value.string ⟨#[47]⟩] 9)
  simp only [World.size_alloc] at this
  exact this
 have q3:W0.heap[w.heap.size+1+1+1]? = some (.cells #[.int .i64 0] 3 (0,0)):=by
  rw [← hW0]
  have:=World.alloc_heap_new (((w.alloc (Obj.cells #[Value.bool false] 4)).alloc (Obj.cells #[Value.string s] 9)).alloc (Obj.cells #[Value.string ⟨#[47]⟩] 9)) (Obj.cells #[Value.int IntKind.i64 0] 3)
  simp only [World.size_alloc] at this
  exact this
 have bl:Below w.heap.size w W0:=by
  rw [← hW0];exact((((Below.refl _ w).alloc (Nat.le_refl _) _).alloc (by simp) _).alloc (by simp <;> omega) _).alloc (by simp <;> omega) _
 rw [hW0]
 clear hW0
 have hal:∀ (r:Loop) (b:Nat) (o:Obj),W0.heap[b]? = some o→((W0.alloc (.deferred (some []))).alloc (.loop r)).heap[b]? = some o:=fun r b o hb=>by
  have:=(Array.getElem?_eq_some_iff.1 hb).1
  exact(Below.heap_alloc _ _ _ (by simp <;> omega)).trans ((Below.heap_alloc _ _ _ this).trans hb)
 refine zbA (P:=Tryz.prog) (F:=Fence.wide) (n:=4) rfl (by omega) (gf:=254) (lb:=#[.pointer (some ⟨w.heap.size+1+1,0,none⟩),.pointer (some ⟨w.heap.size+1,0,none⟩),.pointer (some ⟨w.heap.size+1+1+1,0,none⟩)]) rfl trivial (enters_of Tryz.func254 (by kernel_rfl) rfl)
  (encs:=fun x:ByteArray=>#[.string x]) (Kp:=zqH [w.heap.size+1+1,w.heap.size+1,w.heap.size+1+1+1]) (R:=ziW (w.heap.size+1)) (X:=fun _ _=>True)
  (S:=zdM s) (Sp:=zfV s)
  (fun r l J Jx hJ _ hY hJ0=>zpz 3 l _ _ _ (by omega) s (by omega) (by omega) (by omega) J Jx hJ (fun pre x A hA=>hY pre x A hA trivial) _ (hal r _ _ q2) (hal r _ _ q1) (hal r _ _ q3) hJ0)
  (fun h1 h2 b hb=>(h2 b hb).trans (h1 b hb)) (fun W l o o' hl _ _ b hb=>World.putObj_heap_other (by simp at hb;omega))
  (fun⟨r,hr⟩=>hr ▸ (KeepsOthers.setCell _ _ _).from _) (fun _=>rfl)
  (zkW w) (zso w) (zwu w _ (by omega)) (fun c=>zwr w c _ (by omega)) (zrN w) (zrL w)
  ⟨fun _ hp=>by simp at hp,q0,by omega,bl⟩
  (fun x=>{ tmps:=#[Value.string s,undef,Value.pointer (some { block:=w.heap.size,off:=0 }),Value.string x,Value.string s,Value.int IntKind.i64 ↑s.size,Value.bool false,Value.string s,
        Value.func (Fn.func 254) #[] #[Value.pointer (some { block:=w.heap.size+1+1,off:=0 }),Value.pointer (some { block:=w.heap.size+1,off:=0 }),Value.pointer (some { block:=w.heap.size+1+1+1,off:=0 })],
        Value.string x,undef,undef,undef,undef,undef,undef,undef,undef],defers:=[] }) ?assign ?body ?done ?stop
 case assign=>
  intro l x W K hK
  gi_wp2
  exact hK
 case body=>
  rintro l pre x W hI -
  have c0:=cell_of_one hI.2.1
  have f0:=free_of_one hI.2.1
  have HI:=Lib.hid hI
  clear hI
  by_cases hx:20<x.size
  ·have HX:=Lib.hid (zka (pre:=pre) (ziv (l:=x.data.toList) (most:=20) (by simpa using hx)))
   gi_wp2_with fail
   refine⟨trivial,?_⟩
   gi_wp2_with fail
   exact⟨(KeepsOthers.setCell _ _ _).from _,rfl,HX.out,one_setCell HI.out.2.1,by simpa [World.setCell] using HI.out.2.2.1,HI.out.2.2.2.setCell (p:=⟨w.heap.size,0,none⟩) (Nat.le_refl _) _⟩
  ·have HL:=Lib.hid (zuP (l:=x.data.toList) (a:=24) (b:=20) (by simp;omega) (by simp;omega))
   cases hw:zaA 24 x.data.toList
   ·gi_wp2_with (first | (refine⟨trivial,?_⟩;gi_at_call 133;refine(CallsIn.inRound l (callsIn_wide.2 (zmx x W))).mono ?_;rintro e w' ⟨rfl,hb⟩;have g0:=(hb.cell (p:=⟨w.heap.size,0,none⟩) (by have:=HI.out.2.2.1;show w.heap.size<_;omega)).trans c0;have e0:=(hb.frozen (p:=⟨w.heap.size,0,none⟩) (by have:=HI.out.2.2.1;show w.heap.size<_;omega)).trans f0;have HB:=Lib.hid hb;clear hb))
    have hq:=labelI_below w pre pre W _ HI.out HI.out.1 HB.out
    exact⟨((zaS HB.out).trans (KeepsOthers.setCell _ _ _)).from _,rfl,zka (HL.out ▸ hw),one_setCell hq.2.1,by simpa [World.setCell] using hq.2.2.1,hq.2.2.2.setCell (p:=⟨w.heap.size,0,none⟩) (Nat.le_refl _) _⟩
   ·gi_wp2_with (first | (refine⟨trivial,?_⟩;gi_at_call 133;refine(CallsIn.inRound l (callsIn_wide.2 (zmx x W))).mono ?_;rintro e w' ⟨rfl,hb⟩;have HB:=Lib.hid hb;clear hb))
    exact⟨(zaS HB.out).from _,zlB HB.out (by have:=HI.out.2.2.1;intro b hb;simp at hb;omega),labelI_below w pre _ W _ HI.out (allWords_snoc HI.out.1 (HL.out ▸ hw)) HB.out⟩
 case done=>
  rintro D ys W hD hS hI hK
  have c0:=cell_of_one hI.2.1
  have f0:=free_of_one hI.2.1
  have HI:=Lib.hid hI
  clear hI
  gi_wp2_with fail
  have hK':=(KeepsOthers.setCell W ⟨w.heap.size,0,none⟩ (.bool true)).same D _ hK rfl
  refine⟨by simp,.inl ⟨_,_,rfl,run_takeDeferred hK',?_⟩⟩
  have hc5:=cell_kept (cell_of_one (one_setCell (u:=.bool true) HI.out.2.1)) (grownBy_putObj' _ D (.deferred none)) (fun r e=>by cases e;exact⟨_,hK',rfl⟩)
  refine⟨.bool true,?_,by rw [zwt h hS HI.out.1],(HI.out.2.2.2.setCell (p:=⟨w.heap.size,0,none⟩) (Nat.le_refl _) _).trans (belowK_b (w:=w) (Nat.le_refl _) _ D _ _ (by omega) hK' rfl rfl)⟩
  simp [results,Tryz.f67,go_sem,hc5]
 case stop=>
  rintro D c pre W hD hpre ⟨rfl,hbad,hcr,_,hB⟩ hK
  gi_wp2_with fail
  refine⟨by simp,.inl ⟨_,_,rfl,run_takeDeferred hK,?_⟩⟩
  have hc5:=cell_kept (cell_of_one hcr) (grownBy_putObj' _ D (.deferred none)) (fun r e=>by cases e;exact⟨_,hK,rfl⟩)
  refine⟨.bool false,?_,by rw [zws hpre hbad],hB.trans (belowK_b (w:=w) (Nat.le_refl _) W D _ _ (by omega) hK rfl rfl)⟩
  simp [results,Tryz.f67,go_sem,hc5]
theorem zqf (s:ByteArray) (w:World) :
  Calls Tryz.prog 67 #[.string s] w fun e w'=>e = .returned (.bool (zX s.data.toList))∧Below w.heap.size w w':=by
 rcases Nat.lt_or_ge 90 s.size with h | h
 ·exact zwq s w h
 ·exact ztN s w h
end
section
open Go.RowKit
mutual
def zdZ:Nat→Ex→List (Nat × Ex)
 | d,.mk k n m i dn s=>(d,.mk k n m i dn s) :: zdw (d+1) s
def zdw:Nat→List Ex→List (Nat × Ex)
 | _,[]=>[]
 | d,e :: es=>zdZ d e++zdw d es
end
theorem zDU (d:Nat) (t:Ex):zdZ d t=(d,t) :: zdw (d+1) t.sub:=by cases t;simp [zdZ,Ex.sub]
mutual
theorem zdx:∀ (d:Nat) (t:Ex),(zdZ d t).length=nodesE t
 | d,.mk k n m i dn s=>by simp [zdZ,nodesE,zlq (d+1) s]
theorem zlq:∀ (d:Nat) (l:List Ex),(zdw d l).length=nodesL l
 | d,[]=>by simp [zdw,nodesL]
 | d,e :: es=>by simp [zdw,nodesL,zdx d e,zlq d es]
end
def zaY:List (List Ex)→List (Nat × Ex)
 | []=>[]
 | r :: st=>zdw (st.length+2) r++zaY st
theorem zem (st:List (List Ex)):zaY ([] :: st)=zaY st:=by simp [zaY,zdw]
theorem znk (e:Ex) (es:List Ex) (st:List (List Ex)):zaY ((e :: es) :: st)=(st.length+2,e) :: zaY (e.sub :: es :: st):=by
 simp only [zaY,zdw,zDU,List.length_cons,List.cons_append,List.append_assoc]
def zhB (W:World) (B:Nat):List (List Ex)→List Value→Prop
 | [],[]=>True
 | r :: st,y :: ys=>zbb W B r y∧zhB W B st ys
 | _,_=>False
theorem zdo {W:World} {B:Nat}:∀ {st:List (List Ex)} {ys:List Value},zhB W B st ys→ys.length=st.length
 | [],[],_=>rfl
 | r :: st,y :: ys,h=>by simp [zdo h.2]
 | [],y :: ys,h=>h.elim
 | r :: st,[],h=>h.elim
theorem zlk {W:World} {B:Nat} {r:List Ex} {st:List (List Ex)} {ys:List Value} (h:zhB W B (r :: st) ys):∃ y ys',ys=y :: ys'∧zbb W B r y∧zhB W B st ys':=by
 cases ys with
 | nil=>exact h.elim
 | cons y ys=>exact⟨y,ys,rfl,h.1,h.2⟩
theorem zuW {W:World} {B:Nat} {e:Ex} {es:List Ex} {b off cap n:Nat} (h:zbb W B (e :: es) (.slice (some ⟨b,off,none⟩) n cap)):zbb W B es (.slice (some ⟨b,off+6,none⟩) es.length (cap - 1)):=by
 obtain⟨p,cap',he,hc,hr⟩:=h
 simp only [Value.slice.injEq] at he
 obtain⟨rfl,rfl,rfl⟩:=he
 refine⟨_,_,rfl,by simp at hc;omega,fun hp=>?_⟩
 obtain⟨b',off',h1,h2,h3⟩:=hr (by simp)
 simp only [Option.some.injEq,Addr.mk.injEq,and_true] at h1
 obtain⟨rfl,rfl⟩:=h1
 exact⟨_,_,rfl,h2,(zex.1 h3).2⟩
theorem zuY {W:World} {B:Nat} (p:Option Addr) (cap:Nat):zbb W B [] (.slice p 0 cap):=⟨p,cap,rfl,by simp,fun h=>by simp at h⟩
structure ItStep (base:Nat) (A B:World):Prop where
 below:Below base A B
 others:KeepsOthers A B
theorem ItStep.refl (base:Nat) (A:World):ItStep base A A:=⟨Below.refl _ _,KeepsOthers.refl _⟩
theorem ItStep.alloc {base:Nat} {A B:World} (h:ItStep base A B) (hb:base≤B.heap.size) (o:Obj):ItStep base A (B.alloc o):=⟨h.below.alloc hb o,h.others.trans (KeepsOthers.alloc _ _)⟩
theorem ItStep.setCell {base:Nat} {A B:World} (h:ItStep base A B) {p:Addr} (hp:base≤p.block) (v:Value):ItStep base A (B.setCell p v):=⟨h.below.setCell hp v,h.others.trans (KeepsOthers.setCell _ _ _)⟩
theorem ItStep.grown {base:Nat} {A B C:World} {g:Nat} {cur:Array Value} {T:TypeId} {f:Nat × Nat} (h:ItStep base A B) (hg:B.grownBy C (some g)) (hb:base≤g) (hbs:base≤B.heap.size) (hc:B.heap[g]? = some (.cells cur T f)):ItStep base A C:=
 ⟨h.below.trans ((Below.refl _ _).grown hg hbs (fun k e=>by cases e;exact hb)),h.others.trans (KeepsOthers.of_grownBy hg (fun j o e ho=>by cases e;rw [hc] at ho;cases ho;rfl))⟩
structure KeepOut (lo hi:Nat) (A B:World):Prop where
 size:A.heap.size≤B.heap.size
 same:∀ k o,A.heap[k]? = some o→o.isCells=true→(k<lo∨hi≤k)→B.heap[k]? = some o
theorem KeepOut.trans {lo hi:Nat} {A B C:World} (h:KeepOut lo hi A B) (k:KeepOut lo hi B C):KeepOut lo hi A C:=
 ⟨Nat.le_trans h.size k.size,fun i o hi' ho hc=>k.same i o (h.same i o hi' ho hc) ho hc⟩
theorem KeepOut.putObj {lo hi:Nat} (W:World) (l:Nat) (o o':Obj) (hl:W.heap[l]? = some o) (ho:o.isCells=false):KeepOut lo hi W (W.putObj l o'):=
 ⟨by simp [World.putObj],fun k x hk hx _=>(World.putObj_heap_other (by rintro rfl;rw [hl] at hk;cases hk;rw [ho] at hx;cases hx)).trans hk⟩
theorem KeepOut.below {lo hi:Nat} {A B:World} (h:Below A.heap.size A B):KeepOut lo hi A B:=
 ⟨h.size,fun k _ hk _ _=>(h.block k (Array.getElem?_eq_some_iff.1 hk).1).trans hk⟩
theorem KeepOut.setCell {lo hi:Nat} {A B:World} (h:KeepOut lo hi A B) {p:Addr} (hp:lo≤p.block∧p.block<hi) (v:Value):KeepOut lo hi A (B.setCell p v):=
 ⟨by simpa [World.setCell] using h.size,fun k o hk ho hc=>(Below.heap_setCell _ _ _ _ (by rintro rfl;omega)).trans (h.same k o hk ho hc)⟩
theorem zbN {lo hi:Nat} {A B:World} (h:KeepOut lo hi A B) {p:Addr} {v:Value} (hv:A.cell? p=some v) (hp:p.block<lo∨hi≤p.block):B.cell? p=some v:=by
 obtain⟨o,ho,hc⟩:=cells_of_cell hv
 rw [← hv]
 exact World.cell?_of_block ((h.same _ o ho hc hp).trans ho.symm)
def zdr (lo:Nat) (W A:World):Prop:=∀ b off,b<lo→∀ v,W.cell? ⟨b,off,none⟩=some v→A.cell? ⟨b,off,none⟩=some v
theorem zdr.keep {lo hi:Nat} {W A B:World} (h:zdr lo W A) (hk:KeepOut lo hi A B):zdr lo W B:=fun b off hb v hv=>zbN hk (h b off hb v hv) (.inl hb)
theorem zdr.step {lo base:Nat} {W A B:World} (h:zdr lo W A) (hk:ItStep base A B) (hl:lo≤base):zdr lo W B:=fun b off hb v hv=>(hk.below.cell (p:=⟨b,off,none⟩) (by show b<base;omega)).trans (h b off hb v hv)
def zby (base T:Nat) (W:World) (lo:Nat) (st:List (List Ex)) (v:Value) (wr:World):Prop:=
 ∃ g cap cur ys,v = .slice (some ⟨g,0,none⟩) st.length cap∧base≤g∧wr.heap[g]? = some (.cells cur T (0,0))∧st.length≤cap∧cap≤maxLen∧cur.size=cap∧cur.toList.take st.length=ys.reverse∧zhB W lo st ys
theorem ziy {base T lo:Nat} {W wr:World} {st:List (List Ex)} {v:Value} (h:zby base T W lo st v wr):∃ g cap ys,v = .slice (some ⟨g,0,none⟩) st.length cap∧base≤g∧wr.ownsRow base T 1 v st.length ys.reverse∧zhB W lo st ys:=by
 obtain⟨g,cap,cur,ys,rfl,hb,hc,h1,h2,h3,h4,h5⟩:=h
 refine⟨g,cap,ys,rfl,hb,⟨by simp [zdo h5],.inr ⟨g,cap,cur,rfl,hb,hc,h1,h2,by omega,by simpa using h4⟩⟩,h5⟩
theorem zoU {base T lo:Nat} {W wr:World} {st:List (List Ex)} {ys:List Value} {v:Value} (ho:wr.ownsRow base T 1 v st.length ys.reverse) (hn:v ≠ .slice none 0 0) (hr:zhB W lo st ys):zby base T W lo st v wr:=by
 obtain⟨_,h | ⟨g,cap,cur,rfl,hb,hc,h1,h2,h3,h4⟩⟩:=ho
 ·exact absurd h.1 hn
 ·exact⟨g,cap,cur,ys,rfl,hb,hc,h1,h2,by omega,by simpa using h4,hr⟩
theorem zmJ {base T lo hi:Nat} {W A B:World} {st:List (List Ex)} {v:Value} (h:zby base T W lo st v A) (hk:KeepOut lo hi A B) (hh:hi≤base):zby base T W lo st v B:=by
 obtain⟨g,cap,cur,ys,rfl,hb,hc,h1⟩:=h
 exact⟨g,cap,cur,ys,rfl,hb,hk.same g _ hc rfl (.inr (by omega)),h1⟩
end
section
open Go.RowKit Go.Shelf
attribute [local go_sem] Oper.semAt_some
abbrev ItN:=Nat × Ex × Option Addr × Nat
abbrev ziZ (x:ItN):Value:=.agg #[.int .i64 x.2.1.kind,.string x.2.1.name,.string x.2.1.more,.int .i64 x.2.1.int,.int .i64 x.2.1.den,.slice x.2.2.1 x.2.1.sub.length x.2.2.2]
def zcd (x:ItN):Nat × Ex:=(x.1,x.2.1)
def zeP (t:Ex) (xs:List (ItN)):Prop:=xs.map zcd=zdZ 1 t
def zeO (t:Ex) (xs:List (ItN)):Prop:=xs.map zcd <+: zdZ 1 t
def zhC (base T lo:Nat) (W0:World) (t:Ex) (J:List (ItN)→World→Prop) (m:Nat) (v:Value) (wr:World):Prop:=
 ∃ pre st,zby base T W0 lo st v wr∧J pre wr∧zdr lo W0 wr∧base≤wr.heap.size∧st.length≤pre.length∧pre.map zcd++zaY st=zdZ 1 t∧m=2 * (zaY st).length+st.length
theorem zjc {l ys:List Value} {y:Value} {n:Nat} (h:l.take (n+1)=(y :: ys).reverse) (hl:ys.length=n):l.take n=ys.reverse:=by
 have e:l.take n=(l.take (n+1)).take n:=by rw [List.take_take,Nat.min_eq_left (by omega)]
 rw [e,h,List.reverse_cons,List.take_left' (by simpa using hl)]
theorem zyv {base T lo:Nat} {W0 wr:World} {r:List Ex} {st:List (List Ex)} {v:Value} (h:zby base T W0 lo (r :: st) v wr):∃ g cap y,v = .slice (some ⟨g,0,none⟩) (st.length+1) cap∧base≤g∧g<wr.heap.size∧st.length+1≤cap∧cap≤maxLen∧wr.cell? ⟨g,st.length,none⟩=some y∧wr.frozen? ⟨g,st.length,none⟩=false∧zbb W0 lo r y ∧
  zby base T W0 lo st (.slice (some ⟨g,0,none⟩) st.length cap) wr:=by
 obtain⟨g,cap,cur,ys,rfl,hb,hc,h1,h2,h3,h4,h5⟩:=h
 obtain⟨y,ys',rfl,hy,hr⟩:=zlk h5
 have hl:=zdo hr
 have h1':st.length+1≤cap:=by simpa using h1
 have hty:cur[st.length]? = some y:=by
  have:(cur.toList.take (st.length+1))[st.length]? = some y:=by
   have h4':cur.toList.take (st.length+1)=(y :: ys').reverse:=h4
   rw [h4',List.reverse_cons,List.getElem?_append_right (by simp;omega)];simp [hl]
  rw [List.getElem?_take_of_lt (by omega)] at this
  simpa using this
 refine⟨g,cap,y,rfl,hb,(Array.getElem?_eq_some_iff.1 hc).1,h1',h2,?_,?_,hy,g,cap,cur,ys',rfl,hb,hc,by omega,h2,h3,?_,hr⟩
 ·simp [World.cell?,hc,hty]
 ·simp [World.frozen?,hc]
 ·have h4':cur.toList.take (st.length+1)=(y :: ys').reverse:=h4
  exact zjc h4' hl
theorem zyw {base T lo:Nat} {W0 W3:World} {sub:List Ex} {sv:Value} (hs:zbb W0 lo sub sv) (hz:base≤W3.heap.size):zby base T W0 lo [sub] (.slice (some ⟨W3.heap.size,0,none⟩) 1 1) (W3.alloc (.cells #[sv] T)):=
 ⟨W3.heap.size,1,#[sv],[sv],rfl,hz,World.alloc_heap_new _ _,Nat.le_refl _,by unfold maxLen;omega,rfl,rfl,hs,trivial⟩
theorem zpy {base T lo:Nat} {W0 wr:World} {r r':List Ex} {st:List (List Ex)} {g cap n:Nat} {y:Value} (h:zby base T W0 lo (r :: st) (.slice (some ⟨g,0,none⟩) n cap) wr) (hy:zbb W0 lo r' y):zby base T W0 lo (r' :: st) (.slice (some ⟨g,0,none⟩) (st.length+1) cap) (wr.setCell ⟨g,st.length,none⟩ y):=by
 obtain⟨g',cap',cur,ys,he,hb,hc,h1,h2,h3,h4,h5⟩:=h
 simp only [Value.slice.injEq,Option.some.injEq,Addr.mk.injEq,and_true] at he
 obtain⟨rfl,-,rfl⟩:=he
 obtain⟨y0,ys',rfl,hy0,hr⟩:=zlk h5
 have hl:=zdo hr
 have h1':st.length+1≤cap:=by simpa using h1
 refine⟨g,cap,cur.setIfInBounds st.length y,y :: ys',by simp,hb,?_,h1,h2,by simpa using h3,?_,hy,hr⟩
 ·have hlt:=(Array.getElem?_eq_some_iff.1 hc).1
  have hb:=(Array.getElem?_eq_some_iff.1 hc).2
  simp [World.setCell,Array.getElem_modify,hlt,hb]
 ·have h4':cur.toList.take (st.length+1)=(y0 :: ys').reverse:=h4
  have e1:cur.toList.take st.length=ys'.reverse:=zjc h4' hl
  show(cur.setIfInBounds st.length y).toList.take (st.length+1)=(y :: ys').reverse
  rw [List.take_succ_eq_append_getElem (by simp;omega)]
  simp [e1,List.take_set_of_le]
theorem zdE {p:Nat→Prop} {m M:Nat} (hp:p m) (hlt:m<M):leastOf p<M:=Nat.lt_of_le_of_lt ((leastOf_spec ⟨m,hp⟩).2 m hp) hlt
theorem zld {base T lo:Nat} {W0 wr:World} {st:List (List Ex)} {v:Value} (h:zby base T W0 lo st v wr) (o:Obj):zby base T W0 lo st v (wr.alloc o):=by
 obtain⟨g,cap,cur,ys,rfl,hb,hc,h1⟩:=h
 exact⟨g,cap,cur,ys,rfl,hb,(Below.heap_alloc _ _ _ (Array.getElem?_eq_some_iff.1 hc).1).trans hc,h1⟩
theorem zAD {W0 wr:World} {lo:Nat} {e:Ex} {es:List Ex} {y:Value} (h:zbb W0 lo (e :: es) y) (hl:zdr lo W0 wr):∃ b off cy cv,y = .slice (some ⟨b,off,none⟩) (es.length+1) cy∧es.length+1≤cy∧b<lo∧wr.cell? ⟨b,off,none⟩=some (.int .i64 e.kind)∧wr.cell? ⟨b,off+1,none⟩=some (.string e.name)∧wr.cell? ⟨b,off+2,none⟩=some (.string e.more)∧wr.cell? ⟨b,off+3,none⟩=some (.int .i64 e.int) ∧
  wr.cell? ⟨b,off+4,none⟩=some (.int .i64 e.den)∧wr.cell? ⟨b,off+5,none⟩=some cv∧zbb W0 lo e.sub cv:=by
 obtain⟨p,cap,rfl,hc,hr⟩:=h
 obtain⟨b,off,rfl,hb,hrow⟩:=hr (by simp)
 obtain⟨cv,h0,h1,h2,h3,h4,h5,h6⟩:=(zex.1 hrow).1
 exact⟨b,off,cap,cv,rfl,by simpa using hc,hb,hl _ _ hb _ h0,hl _ _ hb _ h1,hl _ _ hb _ h2,hl _ _ hb _ h3,hl _ _ hb _ h4,hl _ _ hb _ h5,h6⟩
theorem zfR (w:World) (T:TypeId) (x:Value):∀ j u,[x][j]? = some u→(w.alloc (.cells #[x] T)).cell? ((⟨w.heap.size,0,none⟩:Addr).add j)=some u:=by
 intro j u h
 cases j with
 | zero=>simp at h;subst h;simp [Addr.add,go_sem]
 | succ j=>simp at h
theorem zmI {base T lo:Nat} {W0 w6:World} {e:Ex} {es:List Ex} {st:List (List Ex)} {ys:List Value} {v' cv:Value} {L:Nat} (hL:st.length=L) (ho:w6.ownsRow base T 1 v' (L+1+1) (ys.reverse++[cv])) (hn:v' ≠ .slice none 0 0) (hr:zhB W0 lo (es :: st) ys) (hc:zbb W0 lo e.sub cv) :
  zby base T W0 lo (e.sub :: es :: st) v' w6:=by
 refine zoU (ys:=cv :: ys) ?_ hn ⟨hc,hr⟩
 rw [List.reverse_cons,List.length_cons,List.length_cons,hL]
 exact ho
end
section
section
open Go.RowKit Go.Shelf
attribute [local go_sem] Oper.semAt_some
theorem zqn:(Tryz.prog.info? 103).map (fun i=>(i.zero,i.size,i.bytes))=some (some (.slice none 0 0),1,24):=by kernel_rfl
theorem zkx (n l be lo hi:Nat) (hn1:1≤n) (k:Int) (nm mr:ByteArray) (it d:Int) (sub:List Ex) (p:Option Addr) (cap:Nat) (W0 W:World)
  (hs:zbb W0 lo sub (.slice p sub.length cap)) (hlow:zdr lo W0 W) (hlh:lo≤hi) (hhb:hi≤be) (hbe:W.heap[be]? = some (.cells #[.int .i64 k,.string nm,.string mr,.int .i64 it,.int .i64 d,.slice p sub.length cap] 105 (0,0))) (hsz:nodesL sub≤1048576)
  (J Jx:List (ItN)→World→Prop) (hJ:∀ pre A B,J pre A→ItStep W.heap.size A B→J pre B)
  (hY:∀ pre x A,J pre A→zkc W0 lo x.2.1 (ziZ x)→YieldAt Fence.wide (n - 1) Tryz.prog l #[.int .i64 x.1,ziZ x] A fun e B=>
   (e = .returned (.bool true)∧J (pre++[x]) B∧KeepOut lo hi A B)∨(e = .returned (.bool false)∧Jx (pre++[x]) B)) (h0:J [] W) :
  CallsIn Fence.wide n Tryz.prog 258 #[.func (.yield l) #[] #[],.pointer (some ⟨be,0,none⟩)] W fun e B=>(∃ v,e = .returned v) ∧
   ((∃ xs,zeP (.mk k nm mr it d sub) xs∧J xs B)∨(∃ pre,zeO (.mk k nm mr it d sub) pre∧Jx pre B)):=by
 obtain⟨i0,hi0,hz0,hz1,hz2⟩:=info_parts zqn
 have hbl:=(Array.getElem?_eq_some_iff.1 hbe).1
 have c0:W.cell? ⟨be,0,none⟩=some (.int .i64 k):=by simp [World.cell?,hbe]
 have c1:W.cell? ⟨be,1,none⟩=some (.string nm):=by simp [World.cell?,hbe]
 have c2:W.cell? ⟨be,2,none⟩=some (.string mr):=by simp [World.cell?,hbe]
 have c3:W.cell? ⟨be,3,none⟩=some (.int .i64 it):=by simp [World.cell?,hbe]
 have c4:W.cell? ⟨be,4,none⟩=some (.int .i64 d):=by simp [World.cell?,hbe]
 have c5:W.cell? ⟨be,5,none⟩=some (.slice p sub.length cap):=by simp [World.cell?,hbe]
 have HEX:Hid (zkc W0 lo (.mk k nm mr it d sub) (.agg #[.int .i64 k,.string nm,.string mr,.int .i64 it,.int .i64 d,.slice p sub.length cap])):=Lib.hid (zfH.2 ⟨_,rfl,hs⟩)
 have HBE:=Lib.hid hbe
 have HS:=Lib.hid hs
 have HLOW:=Lib.hid hlow
 clear hbe hs hlow
 obtain⟨fn,tmps,assign,body,hy,hR⟩:=hY [] (1,.mk k nm mr it d sub,p,cap) W h0 HEX.out
 replace hy:(Instr.yield l #[.int .i64 1,.agg #[.int .i64 k,.string nm,.string mr,.int .i64 it,.int .i64 d,.slice p sub.length cap]]).run Tryz.prog W = .ok (.round l fn tmps assign body) W:=hy
 refine callsIn_of_wp Tryz.func258 rfl trivial ?_ rfl
 simp only [Tryz.ntmps258,List.size_toArray,List.length_cons,List.length_nil,Nat.reduceAdd,Nat.reduceSub,Array.replicate_succ,Array.replicate_zero,List.push_toArray,List.append_toArray,List.nil_append,List.cons_append]
 gi_wp2_with fail
 refine hR.mono ?_
 rintro e W3 (⟨rfl,hJ3,hk3⟩ | ⟨rfl,hJx3⟩)
 ·have d5:=zbN hk3 c5 (.inr hhb)
  have HL3:=Lib.hid (HLOW.out.keep hk3)
  have hz3:=hk3.size
  clear c0 c1 c2 c3 c4 c5 hy hR
  have hzs:W.heap.size≤(W3.alloc (Obj.cells #[Value.slice p sub.length cap] 103)).heap.size:=by simp;omega
  have HST:Hid (zby W.heap.size 103 W0 lo [sub] (.slice (some ⟨W3.heap.size,0,none⟩) 1 1) (W3.alloc (Obj.cells #[Value.slice p sub.length cap] 103))):=Lib.hid (zyw HS.out hz3)
  have HI3:Hid (ItStep W.heap.size W3 (W3.alloc (Obj.cells #[Value.slice p sub.length cap] 103))):=Lib.hid ((ItStep.refl _ _).alloc hz3 _)
  have HJ4:=Lib.hid (hJ _ _ _ hJ3 HI3.out)
  have hlo:lo≤W.heap.size:=by omega
  have HL4:=Lib.hid (HL3.out.step HI3.out hlo)
  gi_wp2_with fail
  clear d5 HI3 HL3
  generalize (W3.alloc (Obj.cells #[Value.slice p sub.length cap] 103))=W4 at *
  gi_loopw [3] (fun v wr=>∃ m,zhC W.heap.size 103 lo W0 (.mk k nm mr it d sub) J m v wr) (fun v wr=>leastOf (fun m=>zhC W.heap.size 103 lo W0 (.mk k nm mr it d sub) J m v wr))
  case atStart=>exact⟨_,_,_,HST.out,HJ4.out,HL4.out,hzs,by simp,by simp [zcd,zdZ,zaY],rfl⟩
  case round=>
   obtain⟨hrel1,hleast⟩:=leastOf_spec hrel
   obtain⟨M,hM⟩:∃ M,leastOf (fun m=>zhC W.heap.size 103 lo W0 (.mk k nm mr it d sub) J m u3 wr)=M:=⟨_,rfl⟩
   rw [hM] at hrel1
   obtain⟨pre,st,hst,hJr,hlr,hbz,hpl,hpre,hm⟩:=hrel1
   have HPRE:=Lib.hid hpre
   have HLR:=Lib.hid hlr
   have HMM:=Lib.hid hm
   have HMQ:=Lib.hid hM
   have HLE:=Lib.hid hleast
   clear hpre hlr hm hM hleast hrel HST HJ4 HL4
   cases st with
   | nil=>
    obtain⟨g,cp,_,rfl,_,_,_⟩:=ziy hst
    gi_wp2_with fail
    go_end0
    exact⟨⟨_,rfl⟩,.inl ⟨pre,by unfold zeP;rw [← HPRE.out];simp [zaY],hJr⟩⟩
   | cons r st=>
    obtain⟨g,cp,y,rfl,hg1,hg2,hg3,hg4,hcy,hfy,hy,hst'⟩:=zyv hst
    have HST:=Lib.hid hst
    have HST':=Lib.hid hst'
    clear hst hst'
    have hpl':st.length+1≤pre.length:=by simpa using hpl
    have hpn:pre.length≤1048577:=by
     have h1:=congrArg List.length HPRE.out
     rw [zdx,List.length_append,List.length_map] at h1
     simp only [nodesE] at h1;omega
    clear hpl
    obtain⟨L,hL⟩:∃ L,st.length=L:=⟨_,rfl⟩
    rw [hL] at hcy hfy hg3 hpl' HST' HMQ
    unfold maxLen at hg4
    cases r with
    | nil=>
     obtain⟨py,cy,rfl,_,_⟩:=hy
     rw [hL]
     gi_wp2_with fail
     go_roundw
     case rel=>exact⟨_,pre,st,HST'.out,hJr,HLR.out,hbz,by omega,by rw [← zem];exact HPRE.out,rfl⟩
     case measure=>
      have hMv:=HMM.out
      rw [zem,List.length_cons] at hMv
      rw [HMQ.out]
      exact zdE (m:=2 * (zaY st).length+st.length) ⟨pre,st,HST'.out,hJr,HLR.out,hbz,by omega,by rw [← zem];exact HPRE.out,rfl⟩ (by omega)
    | cons e es=>
     obtain⟨b,off,cy,cv,rfl,hcy2,hblo,g0,g1,g2,g3,g4,g5,hsub⟩:=zAD hy HLR.out
     have HSUB:=Lib.hid hsub
     obtain⟨pc,cc,rfl,_,_⟩:=hsub
     have HTL:=Lib.hid (zuW hy)
     have hbg:b≠g:=by omega
     have hgw:g≠wr.heap.size:=by omega
     have hbw:b≠wr.heap.size:=by omega
     have hblt:b<wr.heap.size:=by omega
     have q0:(0:Int)≤(L:Int):=by omega
     have q1:(L:Int)<(cp:Int):=by omega
     have HREL:=Lib.hid (znk e es st)
     rw [hL] at HREL
     clear hy
     by_cases hc1:cy=1
     ·subst hc1
      obtain rfl:es=[]:=by cases es with | nil=>rfl | cons a r=>simp at hcy2
      have HTL':Hid (zbb W0 lo [] (.slice (some ⟨b,off,none⟩) 0 0)):=Lib.hid (zuY _ _)
      have HA:Hid (ItStep W.heap.size wr ((wr.setCell ⟨g,L,none⟩ (.slice (some ⟨b,off,none⟩) 0 0)).alloc (.cells #[.int .i64 e.kind,.string e.name,.string e.more,.int .i64 e.int,.int .i64 e.den,.slice pc e.sub.length cc] 105))):=Lib.hid (((ItStep.refl _ _).setCell (p:=⟨g,L,none⟩) hg1 _).alloc (by simpa [World.setCell] using hbz) _)
      have HSA:Hid (zby W.heap.size 103 W0 lo ([] :: st) (.slice (some ⟨g,0,none⟩) (L+1) cp) ((wr.setCell ⟨g,L,none⟩ (.slice (some ⟨b,off,none⟩) 0 0)).alloc (.cells #[.int .i64 e.kind,.string e.name,.string e.more,.int .i64 e.int,.int .i64 e.den,.slice pc e.sub.length cc] 105))):=Lib.hid (by have h1:=zld (zpy HST.out HTL'.out) (.cells #[.int .i64 e.kind,.string e.name,.string e.more,.int .i64 e.int,.int .i64 e.den,.slice pc e.sub.length cc] 105);rw [hL] at h1;exact h1)
      have HCA:Hid (((wr.setCell ⟨g,L,none⟩ (.slice (some ⟨b,off,none⟩) 0 0)).alloc (.cells #[.int .i64 e.kind,.string e.name,.string e.more,.int .i64 e.int,.int .i64 e.den,.slice pc e.sub.length cc] 105)).cell? ⟨wr.heap.size,5,none⟩=some (.slice pc e.sub.length cc)):=Lib.hid (by simp [go_sem])
      have hsa:wr.heap.size<((wr.setCell ⟨g,L,none⟩ (.slice (some ⟨b,off,none⟩) 0 0)).alloc (.cells #[.int .i64 e.kind,.string e.name,.string e.more,.int .i64 e.int,.int .i64 e.den,.slice pc e.sub.length cc] 105)).heap.size:=by simp [World.setCell]
      have HWA:Hid (∃ A,(wr.setCell ⟨g,L,none⟩ (.slice (some ⟨b,off,none⟩) 0 0)).alloc (.cells #[.int .i64 e.kind,.string e.name,.string e.more,.int .i64 e.int,.int .i64 e.den,.slice pc e.sub.length cc] 105)=A):=Lib.hid ⟨_,rfl⟩
      obtain⟨fn,tmps,assign,body,hy,hR⟩:=hY pre (L+2,e,pc,cc) _ (hJ _ _ _ hJr HA.out) (zfH.2 ⟨_,rfl,HSUB.out⟩)
      replace hy:(Instr.yield l #[.int .i64 ((L:Int)+1+1),.agg #[.int .i64 e.kind,.string e.name,.string e.more,.int .i64 e.int,.int .i64 e.den,.slice pc e.sub.length cc]]).run Tryz.prog ((wr.setCell ⟨g,L,none⟩ (.slice (some ⟨b,off,none⟩) 0 0)).alloc (.cells #[.int .i64 e.kind,.string e.name,.string e.more,.int .i64 e.int,.int .i64 e.den,.slice pc e.sub.length cc] 105)) = .ok (.round l fn tmps assign body) ((wr.setCell ⟨g,L,none⟩ (.slice (some ⟨b,off,none⟩) 0 0)).alloc (.cells #[.int .i64 e.kind,.string e.name,.string e.more,.int .i64 e.int,.int .i64 e.den,.slice pc e.sub.length cc] 105)):=hy
      rw [hL]
      gi_wp2_with fail
      generalize (wr.setCell ⟨g,L,none⟩ (.slice (some ⟨b,off,none⟩) 0 0)).alloc (.cells #[.int .i64 e.kind,.string e.name,.string e.more,.int .i64 e.int,.int .i64 e.den,.slice pc e.sub.length cc] 105)=A at *
      clear g0 g1 g2 g3 g4 g5 hcy hfy
      refine hR.mono ?_
      rintro e5 W5 (⟨rfl,hJ5,hk5⟩ | ⟨rfl,hJx5⟩)
      ·have d5:=zbN hk5 HCA.out (.inr (by show hi≤wr.heap.size;omega))
       have HS5:=Lib.hid (zmJ HSA.out hk5 (by omega))
       have hz5:=hk5.size
       have HL5:=Lib.hid ((HLR.out.step HA.out hlo).keep hk5)
       have hb5:W.heap.size≤W5.heap.size:=by omega
       clear hy hR
       obtain⟨g5,cp5,cur5,ys5,hv5,hgb5,hcur5,_⟩:=id HS5.out
       simp only [Value.slice.injEq,Option.some.injEq,Addr.mk.injEq,and_true] at hv5
       obtain⟨rfl,-,rfl⟩:=hv5
       obtain⟨g6,cp6,ys,hv6,hgb6,hown,hrows⟩:=ziy HS5.out
       have HROWS:=Lib.hid hrows
       have HCUR:=Lib.hid hcur5
       rw [List.length_cons,hL] at hown
       clear hv6 hrows hcur5
       gi_wp2_with (first
        | (gi_at_builtin;refine wpListIn_append_own _ rfl _ _ 289 rfl W.heap.size 103 i0 _ 1 24 Tryz.underlying289 hi0 hz0 hz1 hz2 rfl (by decide) _ _ _ rfl (hown.alloc _) ⟨W5.heap.size,0,none⟩ 1 1 [.slice pc e.sub.length cc] rfl rfl ?c1 ?c2 ?c3 ?c4 ?c5 ?_))
       case c1=>exact zfR _ _ _
       case c2=>intro u hu;simp at hu;subst hu;rfl
       case c3=>unfold maxLen;omega
       case c4=>omega
       case c5=>simp;omega
       intro v' w6 hown6 hgrow hne
       have hvn:v' ≠ .slice none 0 0:=hne
       have HST6:=Lib.hid (zmI hL hown6 hvn HROWS.out HSUB.out)
       have HI6:Hid (ItStep W.heap.size W5 w6):=Lib.hid (((ItStep.refl _ _).alloc hb5 _).grown hgrow hgb5 (by simp;omega) ((Below.heap_alloc _ _ _ (Array.getElem?_eq_some_iff.1 HCUR.out).1).trans HCUR.out))
       have hz6:=HI6.out.others.size
       have HJ6:=Lib.hid (hJ _ _ _ hJ5 HI6.out)
       have HL6:=Lib.hid (HL5.out.step HI6.out hlo)
       have hM6:2 * (zaY (e.sub :: [] :: st)).length+(e.sub :: [] :: st).length<M:=by
        have h1:=HMM.out
        have h2:=congrArg List.length HREL.out
        simp only [List.length_cons] at h1 h2 ⊢
        omega
       have HR6:Hid (zhC W.heap.size 103 lo W0 (.mk k nm mr it d sub) J (2 * (zaY (e.sub :: [] :: st)).length+(e.sub :: [] :: st).length) v' w6):=Lib.hid ⟨_,_,HST6.out,HJ6.out,HL6.out,by omega,by simp;omega,by
        rw [← HPRE.out,HREL.out];simp [zcd],rfl⟩
       clear hown hown6 hgrow hne d5
       gi_wp2_with fail
       go_roundw
       case rel=>exact⟨_,HR6.out⟩
       case measure=>
        rw [HMQ.out]
        exact zdE HR6.out hM6
      ·gi_wp2_with fail
       refine bodyPost_ret (results_none rfl _ _ _) rfl ?_
       exact⟨⟨_,rfl⟩,.inr ⟨_,⟨zaY (e.sub :: [] :: st),by rw [← HPRE.out,HREL.out];simp [zcd]⟩,hJx5⟩⟩
     ·have HTL':=Lib.hid HTL.out
      have hc2:(cy == 1)=false:=by simpa using hc1
      have HA:Hid (ItStep W.heap.size wr ((wr.setCell ⟨g,L,none⟩ (.slice (some ⟨b,off+6,none⟩) es.length (cy - 1))).alloc (.cells #[.int .i64 e.kind,.string e.name,.string e.more,.int .i64 e.int,.int .i64 e.den,.slice pc e.sub.length cc] 105))):=Lib.hid (((ItStep.refl _ _).setCell (p:=⟨g,L,none⟩) hg1 _).alloc (by simpa [World.setCell] using hbz) _)
      have HSA:Hid (zby W.heap.size 103 W0 lo (es :: st) (.slice (some ⟨g,0,none⟩) (L+1) cp) ((wr.setCell ⟨g,L,none⟩ (.slice (some ⟨b,off+6,none⟩) es.length (cy - 1))).alloc (.cells #[.int .i64 e.kind,.string e.name,.string e.more,.int .i64 e.int,.int .i64 e.den,.slice pc e.sub.length cc] 105))):=Lib.hid (by have h1:=zld (zpy HST.out HTL'.out) (.cells #[.int .i64 e.kind,.string e.name,.string e.more,.int .i64 e.int,.int .i64 e.den,.slice pc e.sub.length cc] 105);rw [hL] at h1;exact h1)
      have HCA:Hid (((wr.setCell ⟨g,L,none⟩ (.slice (some ⟨b,off+6,none⟩) es.length (cy - 1))).alloc (.cells #[.int .i64 e.kind,.string e.name,.string e.more,.int .i64 e.int,.int .i64 e.den,.slice pc e.sub.length cc] 105)).cell? ⟨wr.heap.size,5,none⟩=some (.slice pc e.sub.length cc)):=Lib.hid (by simp [go_sem])
      have hsa:wr.heap.size<((wr.setCell ⟨g,L,none⟩ (.slice (some ⟨b,off+6,none⟩) es.length (cy - 1))).alloc (.cells #[.int .i64 e.kind,.string e.name,.string e.more,.int .i64 e.int,.int .i64 e.den,.slice pc e.sub.length cc] 105)).heap.size:=by simp [World.setCell]
      have HWA:Hid (∃ A,(wr.setCell ⟨g,L,none⟩ (.slice (some ⟨b,off+6,none⟩) es.length (cy - 1))).alloc (.cells #[.int .i64 e.kind,.string e.name,.string e.more,.int .i64 e.int,.int .i64 e.den,.slice pc e.sub.length cc] 105)=A):=Lib.hid ⟨_,rfl⟩
      obtain⟨fn,tmps,assign,body,hy,hR⟩:=hY pre (L+2,e,pc,cc) _ (hJ _ _ _ hJr HA.out) (zfH.2 ⟨_,rfl,HSUB.out⟩)
      replace hy:(Instr.yield l #[.int .i64 ((L:Int)+1+1),.agg #[.int .i64 e.kind,.string e.name,.string e.more,.int .i64 e.int,.int .i64 e.den,.slice pc e.sub.length cc]]).run Tryz.prog ((wr.setCell ⟨g,L,none⟩ (.slice (some ⟨b,off+6,none⟩) es.length (cy - 1))).alloc (.cells #[.int .i64 e.kind,.string e.name,.string e.more,.int .i64 e.int,.int .i64 e.den,.slice pc e.sub.length cc] 105)) = .ok (.round l fn tmps assign body) ((wr.setCell ⟨g,L,none⟩ (.slice (some ⟨b,off+6,none⟩) es.length (cy - 1))).alloc (.cells #[.int .i64 e.kind,.string e.name,.string e.more,.int .i64 e.int,.int .i64 e.den,.slice pc e.sub.length cc] 105)):=hy
      rw [hL]
      gi_wp2_with fail
      generalize (wr.setCell ⟨g,L,none⟩ (.slice (some ⟨b,off+6,none⟩) es.length (cy - 1))).alloc (.cells #[.int .i64 e.kind,.string e.name,.string e.more,.int .i64 e.int,.int .i64 e.den,.slice pc e.sub.length cc] 105)=A at *
      clear g0 g1 g2 g3 g4 g5 hcy hfy
      refine hR.mono ?_
      rintro e5 W5 (⟨rfl,hJ5,hk5⟩ | ⟨rfl,hJx5⟩)
      ·have d5:=zbN hk5 HCA.out (.inr (by show hi≤wr.heap.size;omega))
       have HS5:=Lib.hid (zmJ HSA.out hk5 (by omega))
       have hz5:=hk5.size
       have HL5:=Lib.hid ((HLR.out.step HA.out hlo).keep hk5)
       have hb5:W.heap.size≤W5.heap.size:=by omega
       clear hy hR
       obtain⟨g5,cp5,cur5,ys5,hv5,hgb5,hcur5,_⟩:=id HS5.out
       simp only [Value.slice.injEq,Option.some.injEq,Addr.mk.injEq,and_true] at hv5
       obtain⟨rfl,-,rfl⟩:=hv5
       obtain⟨g6,cp6,ys,hv6,hgb6,hown,hrows⟩:=ziy HS5.out
       have HROWS:=Lib.hid hrows
       have HCUR:=Lib.hid hcur5
       rw [List.length_cons,hL] at hown
       clear hv6 hrows hcur5
       gi_wp2_with (first
        | (gi_at_builtin;refine wpListIn_append_own _ rfl _ _ 289 rfl W.heap.size 103 i0 _ 1 24 Tryz.underlying289 hi0 hz0 hz1 hz2 rfl (by decide) _ _ _ rfl (hown.alloc _) ⟨W5.heap.size,0,none⟩ 1 1 [.slice pc e.sub.length cc] rfl rfl ?e1 ?e2 ?e3 ?e4 ?e5 ?_))
       case e1=>exact zfR _ _ _
       case e2=>intro u hu;simp at hu;subst hu;rfl
       case e3=>unfold maxLen;omega
       case e4=>omega
       case e5=>simp;omega
       intro v' w6 hown6 hgrow hne
       have hvn:v' ≠ .slice none 0 0:=hne
       have HST6:=Lib.hid (zmI hL hown6 hvn HROWS.out HSUB.out)
       have HI6:Hid (ItStep W.heap.size W5 w6):=Lib.hid (((ItStep.refl _ _).alloc hb5 _).grown hgrow hgb5 (by simp;omega) ((Below.heap_alloc _ _ _ (Array.getElem?_eq_some_iff.1 HCUR.out).1).trans HCUR.out))
       have hz6:=HI6.out.others.size
       have HJ6:=Lib.hid (hJ _ _ _ hJ5 HI6.out)
       have HL6:=Lib.hid (HL5.out.step HI6.out hlo)
       have hM6:2 * (zaY (e.sub :: es :: st)).length+(e.sub :: es :: st).length<M:=by
        have h1:=HMM.out
        have h2:=congrArg List.length HREL.out
        simp only [List.length_cons] at h1 h2 ⊢
        omega
       have HR6:Hid (zhC W.heap.size 103 lo W0 (.mk k nm mr it d sub) J (2 * (zaY (e.sub :: es :: st)).length+(e.sub :: es :: st).length) v' w6):=Lib.hid ⟨_,_,HST6.out,HJ6.out,HL6.out,by omega,by simp;omega,by
        rw [← HPRE.out,HREL.out];simp [zcd],rfl⟩
       clear hown hown6 hgrow hne d5
       gi_wp2_with fail
       go_roundw
       case rel=>exact⟨_,HR6.out⟩
       case measure=>
        rw [HMQ.out]
        exact zdE HR6.out hM6
      ·gi_wp2_with fail
       refine bodyPost_ret (results_none rfl _ _ _) rfl ?_
       exact⟨⟨_,rfl⟩,.inr ⟨_,⟨zaY (e.sub :: es :: st),by rw [← HPRE.out,HREL.out];simp [zcd]⟩,hJx5⟩⟩
 ·gi_wp2_with fail
  refine bodyPost_ret (results_none rfl _ _ _) rfl ?_
  exact⟨⟨_,rfl⟩,.inr ⟨_,by unfold zeO;simp [zcd,zdZ],hJx3⟩⟩
end
end
end Go.Proofs.YtpnjjmcimjlfkaaGreatDoor
