/- Texts of this proof, part 16: what the proof uses of them. -/
import Derived.Test.YtpnjjmcimjlfkaaGreatDoorRao
import Derived.Test.YtpnjjmcimjlfkaaGreatDoorProg
import Derived.Test.YtpnjjmcimjlfkaaGreatDoorRah
import Derived.Lib.Builder
import Derived.Lib.AppendStr
import Derived.Lib.UnsafeStr
import Derived.WalkKit
import Derived.Laws.Externs
import Derived.Lib.Hide
import Derived.Test.YtpnjjmcimjlfkaaGreatDoorRal
import Derived.Test.YtpnjjmcimjlfkaaGreatDoorRam
import Derived.Test.YtpnjjmcimjlfkaaGreatDoorCards
import Derived.Test.YtpnjjmcimjlfkaaGreatDoorTie
import Derived.ProofKit
import Derived.OpenShut
import Derived.Deep.DeepHandedRow
import Derived.Lib.LaidTab
import Derived.Below
import Derived.ChangeSame
import Derived.Stop.LaidErr
import Derived.MakeChecks
import Derived.ShapedOpen
set_option maxRecDepth 100000
set_option maxHeartbeats 64000000
namespace Go.Proofs.YtpnjjmcimjlfkaaGreatDoor
section
open Go Go.RowKit Go.Shelf
attribute [local go_sem] Oper.semAt_some
def zb (n:Nat):List UInt8:=if h:n<128 then [n.toUInt8] else (n % 128+128).toUInt8 :: zb (n / 128)
termination_by n
decreasing_by omega
theorem putL_lt {n:Nat} (h:n<128):zb n=[n.toUInt8]:=by rw [zb,dif_pos h]
theorem zep {n:Nat} (h:¬ n<128):zb n=(n % 128+128).toUInt8 :: zb (n / 128):=by rw [zb,dif_neg h]
theorem zsf (n:Nat):(zb n).length<=n+1:=by
 induction n using Nat.strongRecOn with
 | ind n ih=>
  by_cases h:n<128
  ·simp [putL_lt h]
  ·rw [zep h];have:=ih (n / 128) (by omega);simp;omega
def zvO (b:Nat) (A B:World):Prop:=∃ r:Int,B=A.setCell ⟨b,0,none⟩ (.int .i64 r)
def zvJ (w:World) (b:Nat):Nat:=match w.cell? ⟨b,0,none⟩ with | some (Value.int _ r)=>r.toNat | _=>0
theorem zpE {w:World} {b t:Nat} {r:Int} (h:w.heap[b]? = some (.cells #[.int .i64 r] t (0,0))):zvJ w b=r.toNat:=by simp [zvJ,cell_of_one h]
theorem zFg (n l b1:Nat) (hn1:1<=n) (m:Nat) (hm:m<=1099511627776) (J Jx:List UInt8->World->Prop)
  (hJ:∀ pre A B,J pre A->zvO b1 A B->J pre B)
  (hY:∀ pre x A,J pre A->pre.length<(zb m).length->YieldAt Fence.wide (n - 1) Tryz.prog l #[.int .u8 x.toNat] A fun e B=>
   (e = .returned (.bool true)/\J (pre++[x]) B/\zpI [b1] A B)\/(e = .returned (.bool false)/\Jx (pre++[x]) B))
  (W:World) (hb1:W.heap[b1]? = some (.cells #[.int .i64 m] 3 (0,0))) (h0:J [] W) :
  CallsIn Fence.wide n Tryz.prog 338 #[.func (.yield l) #[] #[],.pointer (some ⟨b1,0,none⟩)] W fun e B=>(∃ v,e = .returned v) /\
   ((∃ xs:List UInt8,xs=zb m/\J xs B)\/(∃ pre:List UInt8,pre <+: zb m/\Jx pre B)):=by
 have c1:=cell_of_one hb1
 refine callsIn_of_wp Tryz.func338 rfl trivial ?_ rfl
 simp only [Tryz.ntmps338,List.size_toArray,List.length_cons,List.length_nil,Nat.reduceAdd,Nat.reduceSub,Array.replicate_succ,Array.replicate_zero,List.push_toArray,List.append_toArray,List.nil_append,List.cons_append]
 gi_wp2_with fail
 gi_loopw [] (fun wr=>∃ (pre:List UInt8) (r:Nat),wr.heap[b1]? = some (.cells #[.int .i64 r] 3 (0,0)) /\
   r<=1099511627776/\J pre wr/\Hid (pre++zb r=zb m)) (fun wr=>zvJ wr b1)
 case atStart=>exact⟨[],m,hb1,hm,h0,Lib.hid rfl⟩
 case round=>
  obtain⟨pre,r,hr1,hrm,hJr,hP⟩:=hrel
  have d1:=cell_of_one hr1
  have f1:=free_of_one hr1
  have HR1:=Lib.hid hr1
  clear hr1 c1 hb1
  by_cases hlt:r<128
  ·have hge:decide ((128:Int)<=(r:Int))=false:=by simp;omega
   have hy0:=hY pre r.toUInt8 wr hJr (by rw [<- hP.out,putL_lt hlt];simp)
   have hv:((r.toUInt8.toNat:Nat):Int)=(r:Int):=by simp [Nat.toUInt8];omega
   rw [hv] at hy0
   have HN:=Lib.hid (putL_lt hlt)
   clear hv
   obtain⟨fn,tmps,assign,body,hy,hR⟩:=hy0
   gi_wp2_with fail
   refine hR.mono ?_
   rintro e W3 (⟨rfl,hJ3,hk3⟩ | ⟨rfl,hJx3⟩)
   ·gi_wp2_with fail
    go_end0
    exact⟨⟨_,rfl⟩,.inl ⟨_,by rw [<- hP.out,HN.out],hJ3⟩⟩
   ·gi_wp2_with fail
    go_end0
    exact⟨⟨_,rfl⟩,.inr ⟨_,by rw [<- hP.out,HN.out];exact List.prefix_rfl,hJx3⟩⟩
  ·have hge:decide ((128:Int)<=(r:Int))=true:=by simp;omega
   have hy0:=hY pre (r % 128+128).toUInt8 wr hJr (by rw [<- hP.out,zep hlt];simp)
   have hv:(((r % 128+128).toUInt8.toNat:Nat):Int)=(r:Int) % 128+128:=by simp [Nat.toUInt8];omega
   rw [hv] at hy0
   have HN:=Lib.hid (zep hlt)
   have HL:=Lib.hid hlt
   clear hv
   obtain⟨fn,tmps,assign,body,hy,hR⟩:=hy0
   gi_wp2_with fail
   refine hR.mono ?_
   rintro e W3 (⟨rfl,hJ3,hk3⟩ | ⟨rfl,hJx3⟩)
   ·have k1:W3.heap[b1]? = _:=(hk3 b1 (by simp)).trans HR1.out
    have g1:=cell_of_one k1
    have e1:=free_of_one k1
    have K1:=Lib.hid k1
    have hk3':=Lib.hid hk3
    clear k1 d1 f1 hk3
    gi_wp2_with fail
    go_roundw
    case rel=>
     refine⟨_,r / 128,one_setCell K1.out,by omega,hJ _ _ _ hJ3 ⟨_,rfl⟩,Lib.hid ?_⟩
     rw [<- hP.out,HN.out]
     simp
    case measure=>rw [zpE (one_setCell K1.out),zpE HR1.out];have:=HL.out;simp;omega
   ·gi_wp2_with fail
    refine bodyPost_ret (results_none rfl _ _ _) rfl ?_
    exact⟨⟨_,rfl⟩,.inr ⟨_,⟨zb (r / 128),by rw [<- hP.out,HN.out];simp⟩,hJx3⟩⟩
end
section
open Go.RowKit
theorem sizeBuilder:(Tryz.prog.info? 146).map (·.size)=some 2:=by kernel_rfl
theorem liesBuilder:liesAt Tryz.prog Tryz.prog.depth 146 (2 / Tryz.prog.cellsOf 146) 0 146 1=true:=by kernel_rfl
theorem infoByte:(Tryz.prog.info? 5).map (fun i=>(i.zero,i.size,i.bytes))=some (some (.int .u8 0),1,1):=by kernel_rfl
def zba (b:Nat) (w w':World):Prop:=w.heap.size<=w'.heap.size/\∀ i o,w.heap[i]? = some o->i≠b->(∀ cs fr,o ≠ .cells cs 5 fr)->w'.heap[i]? = some o
theorem zba.cells {b:Nat} {w w':World} (h:zba b w w') (i:Nat) (cs:Array Value) (t:TypeId) (fr:Nat × Nat) (hi:w.heap[i]? = some (.cells cs t fr)) (hb:i≠b) (ht:t≠5):w'.heap[i]? = some (.cells cs t fr):=
 h.2 i _ hi hb fun cs' fr' e=>by injection e;exact ht ‹_›
theorem zba.refl (b:Nat) (w:World):zba b w w:=⟨Nat.le_refl _,fun _ _ h _ _=>h⟩
theorem zba.trans {b:Nat} {x y z:World} (h:zba b x y) (k:zba b y z):zba b x z:=⟨Nat.le_trans h.1 k.1,fun i o hi hb ht=>k.2 i o (h.2 i o hi hb ht) hb ht⟩
theorem zba.setCell {b:Nat} {x y:World} (h:zba b x y) (j:Nat) (v:Value):zba b x (y.setCell ⟨b,j,none⟩ v):=
 ⟨by simpa [World.setCell] using h.1,fun i o hi hb ht=>(Below.heap_setCell _ _ _ _ hb).trans (h.2 i o hi hb ht)⟩
theorem zba.alloc {b:Nat} {x y:World} (h:zba b x y) (o:Obj):zba b x (y.alloc o):=
 ⟨Nat.le_trans h.1 (by simp),fun i o' hi hb ht=>(Below.heap_alloc _ _ _ (Nat.lt_of_lt_of_le (Array.getElem?_eq_some_iff.1 hi).1 h.1)).trans (h.2 i o' hi hb ht)⟩
theorem zba.grown {b:Nat} {x y z:World} (h:zba b x y) {v:Value} {B n:Nat} {xs:List Value} (hown:y.ownsRow B 5 1 v n xs) (hg:y.grownBy z v.ownBlock):zba b x z:=
 ⟨Nat.le_trans h.1 hg.size,fun i o hi hb ht=>by
  have h1:=h.2 i o hi hb ht
  refine(hg.block i (Array.getElem?_eq_some_iff.1 h1).1 ?_).trans h1
  rcases hown.2 with⟨rfl,_⟩ | ⟨g,cap,cur,rfl,_,hgc,_⟩
  ·simp [Value.ownBlock]
  ·intro e
   simp [Value.ownBlock] at e
   rw [e,hgc] at h1
   simp at h1
   exact ht _ _ h1.symm⟩
theorem znE (b:Nat) (w:World) (h0:w.cell? ⟨b,0,none⟩=some (.pointer (some ⟨b,0,none⟩))) :
  Calls Tryz.prog 312 #[.pointer (some ⟨b,0,none⟩)] w fun e w'=>e = .returned (.tuple #[])/\w'=w:=by
 obtain⟨j,hj,_⟩:=Option.map_eq_some_iff.1 sizeBuilder
 go_enter Tryz.func312,Tryz.ntmps312
 go_wp2
 rw [Lib.run_neq_ptr_same w _ Tryz.underlying143 hj]
 go_wp2
 go_end0
 exact⟨rfl,rfl⟩
theorem zlz (b:Nat) (w:World) (h0:w.cell? ⟨b,0,none⟩=some (.pointer none)) (hsh:w.shape? b=some (146,2)) (hfz:w.frozen? ⟨b,0,none⟩=false) :
  Calls Tryz.prog 312 #[.pointer (some ⟨b,0,none⟩)] w fun e w'=>e = .returned (.tuple #[])/\w'=w.setCell ⟨b,0,none⟩ (.pointer (some ⟨b,0,none⟩)):=by
 obtain⟨j,hj,hjs⟩:=Option.map_eq_some_iff.1 sizeBuilder
 go_enter Tryz.func312,Tryz.ntmps312
 go_wp2
 rw [Lib.run_to_unsafe w ⟨b,0,none⟩ Tryz.underlying143 Tryz.underlying357 hj (by rw [hjs];decide) hsh (Nat.zero_lt_succ 1)]
 simp only [Result.andThen]
 rw [Oper.upon_value]
 go_wp2
 rw [run_callFunc_extern Tryz.func339 (by kernel_rfl) (by kernel_rfl) (by kernel_rfl) (e:=Extern.AbiNoEscape.same) (by kernel_rfl)]
 rw [Lib.run_noEscape]
 simp only [Result.andThen]
 rw [Oper.upon_value]
 go_wp2
 rw [Lib.run_from_unsafe w ⟨b,0,none⟩ Tryz.underlying357 Tryz.underlying143 hj hsh liesBuilder]
 simp only [Result.andThen]
 rw [Oper.upon_value]
 go_wp2
 go_end0
 exact⟨rfl,rfl⟩
theorem zin (B b:Nat) (bs:List Value) (w:World) (h:Lib.IsBuilder 146 5 B b bs w) :
  Calls Tryz.prog 312 #[.pointer (some ⟨b,0,none⟩)] w fun e w'=>e = .returned (.tuple #[])/\Lib.BuilderAt 146 5 B b (.pointer (some ⟨b,0,none⟩)) bs w'/\Below B w w'/\zba b w w':=by
 rcases h with h | h
 ·refine(zlz b w h.cell0 h.shape h.frozen0).mono ?_
  rintro e w' ⟨rfl,rfl⟩
  exact⟨rfl,h.used _,(Below.refl B w).setCell (p:=⟨b,0,none⟩) h.1 _,(zba.refl b w).setCell 0 _⟩
 ·refine(znE b w h.cell0).mono ?_
  rintro e w' ⟨rfl,rfl⟩
  exact⟨rfl,h,Below.refl B _,zba.refl b _⟩
theorem zob (B b:Nat) (bs:List Value) (c:Int) (w:World) (h:Lib.IsBuilder 146 5 B b bs w) (hlen:bs.length+1<=140737488355328) (hBw:B<=w.heap.size) :
  Calls Tryz.prog 311 #[.pointer (some ⟨b,0,none⟩),.int .u8 c] w fun e w'=>e = .returned .nilIface/\Lib.IsBuilder 146 5 B b (bs++[.int .u8 c]) w'/\Below B w w'/\zba b w w':=by
 obtain⟨i0,hi,hz0,hz1,hz2⟩:=info_parts infoByte
 go_enter Tryz.func311,Tryz.ntmps311
 go_wp2_with (go_at_call 312;refine(zin B b bs _ h).mono ?_)
 rintro e w1 ⟨rfl,h1,hb1,ho1⟩
 obtain⟨hB,v,hbk,hown,hne⟩:=h1
 have c0:w1.cell? ⟨b,0,none⟩=some (.pointer (some ⟨b,0,none⟩)):=by rw [Lib.cell_of_heap hbk];rfl
 have c1:w1.cell? ⟨b,1,none⟩=some v:=by rw [Lib.cell_of_heap hbk];rfl
 go_wp2_with (at_builtin;refine wpList_append_own _ rfl _ _ 144 rfl B 5 i0 (.int .u8 0) 1 1 Tryz.underlying144 hi hz0 hz1 hz2 rfl (by decide) _ _ _ rfl (hown.alloc _) ⟨w1.heap.size,0,none⟩ 1 1 [.int .u8 c] rfl rfl ?c1 ?c2 ?c3 ?c4 ?c5 ?_)
 case c1=>
  intro j u hj
  match j,hj with
  | 0,hj=>simp at hj;subst hj;simp [Addr.add]
 case c2=>intro u hu;simp at hu;subst hu;rfl
 case c3=>unfold maxLen;omega
 case c4=>omega
 case c5=>have:=hb1.size;simp;omega
 intro v' w2 hown' hgrow _
 have hlt:b<w1.heap.size:=(Array.getElem?_eq_some_iff.1 hbk).1
 have hb2:w2.heap[b]? = some (.cells #[.pointer (some ⟨b,0,none⟩),v] 146 (0,0)):=by
  rw [hgrow.block b (by simp;omega) (fun e=>hne e.symm),Lib.alloc_old w1 _ b hlt]
  exact hbk
 have d0:w2.cell? ⟨b,0,none⟩=some (.pointer (some ⟨b,0,none⟩)):=by rw [Lib.cell_of_heap hb2];rfl
 have d1:w2.cell? ⟨b,1,none⟩=some v:=by rw [Lib.cell_of_heap hb2];rfl
 have f1:w2.frozen? ⟨b,1,none⟩=false:=Lib.frozen_of_heap hb2 1
 obtain⟨g,cap,rfl⟩:∃ g cap,v' = .slice (some ⟨g,0,none⟩) (bs.length+1) cap:=by
  rcases hown'.2 with⟨_,h0⟩ | ⟨g,cap,cur,hv,_⟩
  ·omega
  ·exact⟨g,cap,hv⟩
 have HW:=Lib.hid hown'
 have HG:=Lib.hid hgrow
 have HB2:=Lib.hid hb2
 clear hown' hgrow hb2
 go_wp2
 go_ret
 refine⟨rfl,.inr ?_,?_,?_⟩
 ·exact Lib.BuilderAt.put (T:=146) (e:=5) hB HB2.out (bs':=bs++[.int .u8 c]) (by simpa using HW.out) (by decide)
 ·exact((hb1.alloc (by have:=hb1.size;omega) _).grown HG.out (by have:=hb1.size;simp;omega) (fun k hk=>(hown.lt k hk).1)).setCell (p:=⟨b,1,none⟩) hB _
 ·exact((ho1.alloc _).grown (hown.alloc _) HG.out).setCell 1 _
theorem writeString_any (B b:Nat) (bs:List Value) (s:ByteArray) (w:World) (h:Lib.IsBuilder 146 5 B b bs w) (hlen:bs.length+s.size<=140737488355328) (hBw:B<=w.heap.size) :
  Calls Tryz.prog 276 #[.pointer (some ⟨b,0,none⟩),.string s] w fun e w'=>e = .returned (.tuple #[.int .i64 s.size,.nilIface])/\Lib.IsBuilder 146 5 B b (bs++Lib.strCells s) w'/\Below B w w'/\zba b w w':=by
 obtain⟨i0,hi,hz0,hz1,hz2⟩:=info_parts infoByte
 go_enter Tryz.func276,Tryz.ntmps276
 go_wp2_with (go_at_call 312;refine(zin B b bs _ h).mono ?_)
 rintro e w1 ⟨rfl,h1,hb1,ho1⟩
 obtain⟨hB,v,hbk,hown,hne⟩:=h1
 have c0:w1.cell? ⟨b,0,none⟩=some (.pointer (some ⟨b,0,none⟩)):=by rw [Lib.cell_of_heap hbk];rfl
 have c1:w1.cell? ⟨b,1,none⟩=some v:=by rw [Lib.cell_of_heap hbk];rfl
 go_wp2_with (at_builtin;refine Lib.wpList_append_own_string _ rfl _ _ 144 9 rfl B 5 i0 Tryz.underlying144 Tryz.underlying9 hi hz0 hz1 hz2 _ _ _ rfl hown s rfl ?c3 ?c4 ?c5 ?_)
 case c3=>unfold maxLen;omega
 case c4=>omega
 case c5=>have:=hb1.size;omega
 intro v' w2 hown' hgrow _
 have hlt:b<w1.heap.size:=(Array.getElem?_eq_some_iff.1 hbk).1
 have hb2:w2.heap[b]? = some (.cells #[.pointer (some ⟨b,0,none⟩),v] 146 (0,0)):=by
  rw [hgrow.block b hlt (fun e=>hne e.symm)]
  exact hbk
 have d0:w2.cell? ⟨b,0,none⟩=some (.pointer (some ⟨b,0,none⟩)):=by rw [Lib.cell_of_heap hb2];rfl
 have d1:w2.cell? ⟨b,1,none⟩=some v:=by rw [Lib.cell_of_heap hb2];rfl
 have f1:w2.frozen? ⟨b,1,none⟩=false:=Lib.frozen_of_heap hb2 1
 obtain⟨ao,n',cap,rfl⟩:∃ ao n' cap,v' = .slice ao n' cap:=by
  rcases hown'.2 with⟨hv,_⟩ | ⟨g,cap,cur,hv,_⟩
  ·exact⟨_,_,_,hv⟩
  ·exact⟨_,_,_,hv⟩
 have HW:=Lib.hid hown'
 have HG:=Lib.hid hgrow
 have HB2:=Lib.hid hb2
 clear hown' hgrow hb2
 go_wp2
 go_ret2
 refine⟨rfl,.inr ?_,?_,?_⟩
 ·exact Lib.BuilderAt.put (T:=146) (e:=5) hB HB2.out (bs':=bs++Lib.strCells s) (by simpa [Lib.strCells_length] using HW.out) (by decide)
 ·exact(hb1.grown HG.out (by have:=hb1.size;omega) (fun k hk=>(hown.lt k hk).1)).setCell (p:=⟨b,1,none⟩) hB _
 ·exact(ho1.grown hown HG.out).setCell 1 _
end
section
open Go Go.RowKit Go.Shelf
attribute [local go_sem] Oper.semAt_some
theorem zeU {T e:TypeId} {B b:Nat} {bs:List Value} {w w':World} (h:Lib.IsBuilder T e B b bs w) (hk:∀ i cs t fr,w.heap[i]? = some (.cells cs t fr)->(t=e\/i=b)->w'.heap[i]? = w.heap[i]?):Lib.IsBuilder T e B b bs w':=by
 have go:∀ p,Lib.BuilderAt T e B b p bs w->Lib.BuilderAt T e B b p bs w':=by
  rintro p ⟨hB,v,hb,hown,hne⟩
  refine⟨hB,v,(hk b _ _ _ hb (.inr rfl)).trans hb,zfu hown fun x hx=>?_,hne⟩
  rcases hown.2 with⟨rfl,_⟩ | ⟨g,cap,cur,rfl,_,hg,_⟩
  ·simp [Value.ownBlock] at hx
  ·simp [Value.ownBlock] at hx;subst hx;exact hk _ _ _ _ hg (.inl rfl)
 exact h.elim (fun h=>.inl (go _ h)) fun h=>.inr (go _ h)
def zEf (w:World) (B b:Nat) (bs:List Value) (pre:List UInt8) (W:World):Prop:=
 Lib.IsBuilder 146 5 B b (bs++Lib.byteCells pre) W/\W.heap[w.heap.size]? = some (.cells #[.pointer (some ⟨b,0,none⟩)] 143 (0,0)) /\
  (∃ x:Int,W.heap[w.heap.size+1]? = some (.cells #[.int .i64 x] 3 (0,0)))/\w.heap.size+1+1<=W.heap.size/\Below B w W/\zba b w W
theorem zvI {W W':World} {row:Option Nat} {i:Nat} {cs:Array Value} {t:TypeId} {fr:Nat × Nat} (h:W.heap[i]? = some (.cells cs t fr)) (hg:W.grownBy W' row) (hr:∀ r,row=some r->∃ o:Obj,W.heap[r]? = some o/\o.isCells=false):W'.heap[i]? = W.heap[i]?:=
 grownBy_keeps_cells hg hr h rfl
theorem zrx (w:World) (B b:Nat) (bs:List Value) (B':Nat) (hB:B<=w.heap.size) (hB':w.heap.size<=B'):OwnFrom B' (zEf w B b bs):=fun s W W' row ⟨h1,h2,⟨x,h3⟩,h4,h5,h6⟩ hg hr=>
 have hr':=fun r e=>(hr r e).2
 ⟨zeU h1 fun _ _ _ _ hi _=>zvI hi hg hr',zfN h2 hg hr',⟨x,zfN h3 hg hr'⟩,Nat.le_trans h4 hg.size,
  h5.trans ((Below.refl _ _).grown hg (by omega) (fun k e=>by have:=(hr k e).1;omega)),Nat.le_trans h6.1 hg.size,fun i o hi hb ht=>(hg.block i (by have:=(Array.getElem?_eq_some_iff.1 (h6.2 i o hi hb ht)).1;omega) (fun e=>by have:=(hr i e.symm).1;have:=(Array.getElem?_eq_some_iff.1 hi).1;omega)).trans (h6.2 i o hi hb ht)⟩
theorem ztL (w:World) (B b:Nat) (bs:List Value) (hB:B<=w.heap.size) (hb:b<w.heap.size) (pre:List UInt8) (A A':World) (h:zEf w B b bs pre A) (hr:zvO (w.heap.size+1) A A'):zEf w B b bs pre A':=by
 obtain⟨r,rfl⟩:=hr
 obtain⟨h1,h2,⟨x,h3⟩,h4,h5,h6⟩:=h
 refine⟨zeU h1 fun i cs t fr hi ht=>Below.heap_setCell _ _ _ _ ?_,(Below.heap_setCell _ _ _ _ (by simp)).trans h2,⟨_,one_setCell h3⟩,by simpa [World.setCell] using h4,h5.setCell (p:=⟨w.heap.size+1,0,none⟩) (show B<=w.heap.size+1 by omega) _,?_⟩
 ·intro he
  have he:i=w.heap.size+1:=he
  rcases ht with ht | ht
  ·rw [he,h3] at hi
   simp at hi
   exact absurd (hi.2.1.trans ht) (by decide)
  ·omega
 ·refine⟨by simpa [World.setCell] using h6.1,fun i o hi hb' ht=>(Below.heap_setCell _ _ _ _ ?_).trans (h6.2 i o hi hb' ht)⟩
  have:=(Array.getElem?_eq_some_iff.1 hi).1
  show i≠w.heap.size+1
  omega
theorem zqW (m:Nat) (w:World):Calls Tryz.prog 310 #[.int .i64 m] w fun e w'=>
  e = .returned (.func (.func 338) #[] #[.pointer (some ⟨w.heap.size,0,none⟩)])/\w'=w.alloc (.cells #[.int .i64 m] 3):=by
 go_enter Tryz.func310,Tryz.ntmps310
 go_wp2_with fail
 go_ret
 exact⟨rfl,rfl⟩
theorem writeInt_any (B b:Nat) (bs:List Value) (m:Nat) (hm:m<=1099511627776) (w:World) (h:Lib.IsBuilder 146 5 B b bs w) (hlen:bs.length<=1099511627776) (hBw:B<=w.heap.size) (hbw:b<w.heap.size) :
  Calls Tryz.prog 275 #[.pointer (some ⟨b,0,none⟩),.int .i64 m] w fun e w'=>e = .returned (.tuple #[])/\Lib.IsBuilder 146 5 B b (bs++Lib.byteCells (zb m)) w'/\Below B w w'/\zba b w w':=by
 refine(callsIn_wide (n:=4)).1 ?_
 refine callsIn_of_wp_marks Tryz.func275 rfl trivial ?_ rfl
 simp only [Tryz.ntmps275,List.size_toArray,List.length_cons,List.length_nil,Nat.reduceAdd,Nat.reduceSub,Array.replicate_succ,Array.replicate_zero,List.push_toArray,List.append_toArray,List.nil_append,List.cons_append]
 gi_wp2_with (first | (refine⟨trivial,?_⟩;gi_at_call 310;refine(callsIn_wide.2 (zqW m _)).mono ?_;rintro e w' ⟨rfl,rfl⟩))
 obtain⟨W0,hW0⟩:∃ W0,((w.alloc (Obj.cells #[Value.pointer (some ⟨b,0,none⟩)] 143)).alloc (Obj.cells #[Value.int IntKind.i64 m] 3))=W0:=⟨_,rfl⟩
 have z0:w.heap.size+1+1=W0.heap.size:=by rw [<- hW0];simp
 have q0:W0.heap[w.heap.size]? = some (.cells #[.pointer (some ⟨b,0,none⟩)] 143 (0,0)):=by rw [<- hW0];exact(Below.heap_alloc _ _ _ (by simp)).trans (World.alloc_heap_new w _)
 have q1:W0.heap[w.heap.size+1]? = some (.cells #[.int .i64 m] 3 (0,0)):=by
  rw [<- hW0]
  have:=World.alloc_heap_new (w.alloc (Obj.cells #[Value.pointer (some ⟨b,0,none⟩)] 143)) (Obj.cells #[Value.int IntKind.i64 m] 3)
  rwa [World.size_alloc] at this
 have bl:Below B w W0:=by rw [<- hW0];exact((Below.refl _ w).alloc hBw _).alloc (by simp;omega) _
 have ob:zba b w W0:=by rw [<- hW0];exact((zba.refl _ w).alloc _).alloc _
 have hb0:Lib.IsBuilder 146 5 B b bs W0:=by
  rw [<- hW0]
  refine zeU h fun i cs t fr hi _=>?_
  have:=(Array.getElem?_eq_some_iff.1 hi).1
  exact(Below.heap_alloc _ _ _ (by simp;omega)).trans (Below.heap_alloc _ _ _ this)
 rw [hW0]
 clear hW0
 have hal:∀ (r:Loop) (b:Nat) (o:Obj),W0.heap[b]? = some o->((W0.alloc (.deferred (some []))).alloc (.loop r)).heap[b]? = some o:=fun r b o hb=>by
  have:=(Array.getElem?_eq_some_iff.1 hb).1
  exact(Below.heap_alloc _ _ _ (by simp;omega)).trans ((Below.heap_alloc _ _ _ this).trans hb)
 refine zcv (P:=Tryz.prog) (F:=Fence.wide) (n:=4) rfl (by omega) (gf:=338) (lb:=#[.pointer (some ⟨w.heap.size+1,0,none⟩)]) rfl trivial (enters_of Tryz.func338 (by kernel_rfl) rfl)
  (encs:=fun x:UInt8=>#[.int .u8 x.toNat]) (Kp:=zpI [w.heap.size+1]) (R:=zvO (w.heap.size+1)) (X:=fun pre _=>pre.length<(zb m).length)
  (S:=fun xs=>xs=zb m) (Sp:=fun pre=>pre <+: zb m)
  (fun r l J Jx hJ _ hY hJ0=>zFg 3 l _ (by omega) m hm J Jx hJ (fun pre x A hA hx=>hY pre x A hA hx) _ (hal r _ _ q1) hJ0)
  (fun h1 h2 b hb=>(h2 b hb).trans (h1 b hb)) (fun W l o o' hl _ _ b hb=>World.putObj_heap_other (by simp at hb;omega))
  (fun⟨r,hr⟩=>hr ▸ (KeepsOthers.setCell _ _ _).from _) (fun _=>rfl)
  (zEf w B b bs) (fun _ _ _=>False) (zrx w B b bs _ hBw (by omega)) (fun c s W W' row h _ _=>h) (ztL w B b bs hBw hbw) (fun _ _ _ _ h _=>h)
  ⟨by simpa [Lib.byteCells] using hb0,q0,⟨_,q1⟩,by omega,bl,ob⟩
  (fun x=>{ tmps:=#[Value.pointer (some { block:=b,off:=0 }),Value.int IntKind.i64 ↑m,
        Value.pointer (some { block:=w.heap.size,off:=0 }),undef,Value.int .u8 x.toNat,Value.int IntKind.i64 ↑m,
        Value.func (Fn.func 338) #[] #[Value.pointer (some { block:=w.heap.size+1,off:=0 })],Value.int .u8 x.toNat,undef,
        undef,undef],defers:=[] }) ?assign ?body ?done ?stop
 case assign=>
  intro l x W K hK
  gi_wp2
  exact hK
 case body=>
  rintro l pre x W hI hX
  have c0:=cell_of_one hI.2.1
  have HX:=Lib.hid hX
  have HV:=Lib.hid (zob B b _ x.toNat W hI.1 (by have:=zsf m;simp [Lib.byteCells_length];omega) (by have:=hI.2.2.2.1;omega))
  have HI:=Lib.hid hI
  clear hI hX
  gi_wp2_with (first | (refine⟨trivial,?_⟩;gi_at_call 311;refine(CallsIn.inRound l (callsIn_wide.2 HV.out)).mono ?_;rintro e w' ⟨rfl,h1,h2,h3⟩;have HB:=Lib.hid (And.intro h1 (And.intro h2 h3));clear h1 h2 h3))
  obtain⟨x',hx'⟩:=HI.out.2.2.1
  have k1:=HB.out.2.2.cells _ _ _ _ hx' (by omega) (by decide)
  refine⟨⟨HB.out.2.2.1,fun k o hk ho hc=>HB.out.2.2.2 k o ho (by omega) (fun cs fr e=>by subst e;cases hc)⟩,fun i hi=>?_,?_⟩
  ·simp at hi
   subst hi
   exact k1.trans hx'.symm
  ·refine⟨by rw [Lib.byteCells_append,<- List.append_assoc];exact HB.out.1,HB.out.2.2.cells _ _ _ _ HI.out.2.1 (by omega) (by decide),⟨x',k1⟩,Nat.le_trans HI.out.2.2.2.1 HB.out.2.2.1,HI.out.2.2.2.2.1.trans HB.out.2.1,HI.out.2.2.2.2.2.trans HB.out.2.2⟩
 case done=>
  rintro D ys W hD hS hI hK
  have HI:=Lib.hid hI
  clear hI
  gi_wp2_with fail
  have HI':=(zrx w B b bs W0.heap.size hBw (by omega)).putObj (.deferred none) HI.out hD hK rfl
  refine⟨by simp,.inl ⟨_,_,rfl,run_takeDeferred hK,?_⟩⟩
  refine⟨.tuple #[],?_,rfl,by rw [<- hS];exact HI'.1,HI'.2.2.2.2.1,HI'.2.2.2.2.2⟩
  simp [results,Tryz.f275,go_sem]
 case stop=>
  rintro D c pre W hD hpre h hK
  exact h.elim
theorem zxZ (m:Nat) (hm:m<=1099511627776) (w:World):Calls Tryz.prog 274 #[.int .i64 m] w fun e w'=>e = .returned (.bool true)/\w=w':=by
 have h1:decide ((0:Int)<=(m:Int))=true:=by simp
 have h2:decide ((m:Int)<=1099511627776)=true:=by simp;omega
 go_enter Tryz.func274,Tryz.ntmps274
 go_wp2_with fail
 go_ret
 exact⟨rfl,rfl⟩
theorem zqg (m:Nat) (hm:m<=1099511627776) (w:World):Calls Tryz.prog 240 #[.int .i64 m] w fun e w'=>
  e = .returned (.tuple #[.string ⟨(zb m).toArray⟩,.int .i64 0])/\Below w.heap.size w w':=by
 have HB:=Lib.hid (Lib.fresh_isBuilder 146 5 w)
 go_enter Tryz.func240,Tryz.ntmps240
 go_wp2_with (first | (go_at_call 274;refine(zxZ m hm _).mono ?_;rintro e w' ⟨rfl,rfl⟩) | (go_at_call 275;refine(writeInt_any _ _ _ m hm _ HB.out (by simp) (by simp) (by simp)).mono ?_;rintro e w' ⟨rfl,h1,h2,h3⟩;have HC:=Lib.hid h1;have HD:=Lib.hid h2;clear h1 h2 h3) |
  (go_at_call 112;refine(Tryz.Builder_String_any w.heap.size w.heap.size (zb m) _ (by simpa using HC.out) (by have:=HD.out.size;simp at this;omega)).mono ?_;rintro e w' ⟨rfl,hb⟩;have HE:=Lib.hid hb;clear hb))
 refine bodyPost_ret (v:=.tuple #[.string ⟨(zb m).toArray⟩,.int .i64 0]) (by simp [results,Tryz.results240,go_sem]) rfl ?_
 exact⟨rfl,((Below.refl _ w).alloc (Nat.le_refl _) _).trans (HD.out.trans HE.out)⟩
theorem zog (s:ByteArray) (hs:s.size<=65536) (w:World):Calls Tryz.prog 241 #[.string s] w fun e w'=>
  e = .returned (.tuple #[.string ⟨(zb s.size++s.data.toList).toArray⟩,.int .i64 0])/\Below w.heap.size w w':=by
 have HB:=Lib.hid (Lib.fresh_isBuilder 146 5 w)
 have hgt:decide ((65536:Int)<(s.size:Int))=false:=by simp;omega
 have hl:=zsf s.size
 go_enter Tryz.func241,Tryz.ntmps241
 go_wp2_with (first | (go_at_call 275;refine(writeInt_any _ _ _ s.size (by omega) _ HB.out (by simp) (by simp) (by simp)).mono ?_;rintro e w1 ⟨rfl,h1,h2,h3⟩;have HC:=Lib.hid h1;have HD:=Lib.hid h2;clear h1 h2 h3) |
  (go_at_call 276;refine(writeString_any _ _ _ s _ HC.out (by simp [Lib.byteCells_length];omega) (by have:=HD.out.size;simp at this;omega)).mono ?_;rintro e w2 ⟨rfl,h1,h2,h3⟩;have HC2:=Lib.hid h1;have HD2:=Lib.hid h2;clear h1 h2 h3) |
  (go_at_call 112;refine(Tryz.Builder_String_any w.heap.size w.heap.size (zb s.size++s.data.toList) _ (by rw [Lib.byteCells_append];simpa [Lib.strCells_eq] using HC2.out) (by have:=HD.out.size;have:=HD2.out.size;simp at *;omega)).mono ?_;rintro e w' ⟨rfl,hb⟩;have HE:=Lib.hid hb;clear hb))
 refine bodyPost_ret (v:=.tuple #[.string ⟨(zb s.size++s.data.toList).toArray⟩,.int .i64 0]) (by simp [results,Tryz.results241,go_sem]) rfl ?_
 exact⟨rfl,((Below.refl _ w).alloc (Nat.le_refl _) _).trans (HD.out.trans (HD2.out.trans HE.out))⟩
theorem zkw {a b:Value} (w:World) (F:Nat->Nat->Prop):zch w F (.tup [.d (.raw a),.d (.raw b)]) (.tuple #[a,b]):=by
 refine .tup _ [a,b] rfl fun i hi hv=>?_
 match i,hi with
 | 0,_=>exact .d (.raw _)
 | 1,_=>exact .d (.raw _)
theorem zhg (m:Nat) (hm:m<=1099511627776):Con Tryz.prog 240 [.d (.raw (.int .i64 m))] (.tup [.d (.raw (.string ⟨(zb m).toArray⟩)),.d (.raw (.int .i64 0))]):=
 con_rawG (vs:=[.int .i64 m]) ⟨_,Tryz.func240,by decide +kernel,rfl⟩ rfl (fun w F=>zkw w F) fun w _=>zqg m hm w
theorem zhK (s:ByteArray) (hs:s.size<=65536):Con Tryz.prog 241 [.d (.raw (.string s))] (.tup [.d (.raw (.string ⟨(zb s.size++s.data.toList).toArray⟩)),.d (.raw (.int .i64 0))]):=
 con_rawG (vs:=[.string s]) ⟨_,Tryz.func241,by decide +kernel,rfl⟩ rfl (fun w F=>zkw w F) fun w _=>zog s hs w
end
section
open Go Go.RowKit
theorem zat (n:Nat):(zb n).length<=1+n / 128:=by
 induction n using Nat.strongRecOn with
 | ind n ih=>
  by_cases h:n<128
  ·simp [putL_lt h]
  ·rw [zep h];have:=ih (n / 128) (by omega);simp;omega
theorem zzX (d:ByteArray):Con Tryz.prog 171 [avO 1 d] (.d (.raw (.int .i64 0))):=by
 refine kO Tryz.func171 Tryz.ntmps171 fun A hA=>?_
 refine goC 400 ?_
 simp only [go_sem,hA,Tryz.results171]
 kernel_rfl
theorem zxM (d:ByteArray) (hd:d.size<=60000):Con Tryz.prog 108 [avO 1 d] (.tup [.d (.raw (.string ⟨(zb 1++(zb d.size++d.data.toList)).toArray⟩)),.d (.raw (.int .i64 0))]):=by
 refine kO Tryz.func108 Tryz.ntmps108 fun A hA=>?_
 refine goC 400 ?_
 simp only [go_sem,hA]
 refine gC (zzX d) ?_
 simp only [go_sem,hA]
 refine zjz 100000 400 rfl rfl rfl Tryz.func172 rfl (by decide +kernel) (by simp [Tryz.ntmps172]) (by simp [Tryz.ntmps172]) (by simp only [go_sem,hA]) fun B hB hBf=>?_
 rw [Tryz.ntmps172] at hB
 refine zbG 99 4000 0 1 5 (by simp only [go_sem]) rfl rfl ?_
 refine goC 400 ?_
 simp only [go_sem,hB]
 refine zaU 400 (zhg 1 (by decide)) rfl (by simp only [go_sem]) (by simp only [go_sem,hB]) ?_
 simp only [go_sem,hA,hB,Tryz.results172]
 have hl1:=zat 1
 have hl2:=zat d.size
 refine⟨⟨by simp,by omega⟩,?_⟩
 refine zjz 200000 400 rfl rfl rfl Tryz.func173 rfl (by decide +kernel) (by simp [Tryz.ntmps173]) (by simp [Tryz.ntmps173]) (by simp only [go_sem,hA]) fun B2 hB2 hBf2=>?_
 rw [Tryz.ntmps173] at hB2
 refine goC 400 ?_
 simp only [go_sem,hB2]
 refine zaU 400 (zhK d (by omega)) rfl (by simp only [go_sem]) (by simp only [go_sem,hB2]) ?_
 simp only [go_sem,hA,hB2,Tryz.results173]
 have hsz:(zb 1++(zb d.size++d.data.toList)).length<=65536:=by simp;omega
 have k1:decide ((65536:Int)<((zC (zb 1++(zb d.size++d.data.toList))).length:Int))=false:=decide_eq_false (by rw [zh];omega)
 refine⟨⟨by rw [zh];omega,by intro r hr;obtain⟨c,_,rfl⟩:=List.mem_map.1 hr;rfl,by simp at hsz ⊢;omega⟩,?_⟩
 simp only [go_sem,hA,k1,Tryz.results108]
theorem zmO (d:ByteArray) (hd:d.size<=60000):Con Tryz.prog 72 [avO 1 d] (.d (.raw (.int .i64 0))):=by
 refine kO Tryz.func72 Tryz.ntmps72 fun A hA=>?_
 refine goC 400 ?_
 simp only [go_sem,hA]
 refine gC (zxM d hd) ?_
 simp only [go_sem,hA,Tryz.results72]
def spL (s:ByteArray):Bool:=decide (zgL [⟨s,⟨#[]⟩⟩]=0)
theorem zCu (s:ByteArray):Con Tryz.prog 77 [.d (.raw (.string s))] (.d (.raw (.bool (spL s)))):=by
 refine kO Tryz.func77 Tryz.ntmps77 fun A hA=>?_
 refine goC 400 ?_
 simp only [go_sem,hA]
 have hT:=zzj [⟨s,⟨#[]⟩⟩] (by simp) fun x hx=>by simp at hx;subst hx;exact zmO ⟨#[]⟩ (by decide)
 simp only [zap,zib,List.map] at hT
 refine gC hT ?_
 simp only [go_sem,hA,spL,Tryz.results77]
theorem zpX (d:ByteArray) (hd:d.size<=60000):Con Tryz.prog 78 [.d (.raw (.string d))] (.d (.raw (.bool true))):=by
 refine kO Tryz.func78 Tryz.ntmps78 fun A hA=>?_
 refine goC 400 ?_
 simp only [go_sem,hA]
 refine gC (zmO d hd) ?_
 simp only [go_sem,hA,Tryz.results78]
def neS (s:ByteArray):Bool:=decide (¬ s=⟨#[]⟩)
def zfE (x:Tc):Int:=
 if spL x.path=false then 6 else if zgQ x.path=true then 9 else
  if (!x.inB && neS x.base) || (!x.inL && neS x.left) || (!x.inR && neS x.right) then 1 else 0
theorem zCt (x:Tc) (hx:x.path.size<=9223372036854775807) (h1:x.base.size<=60000) (h2:x.left.size<=60000) (h3:x.right.size<=60000):Con Tryz.prog 32 [avC x] (.d (.raw (.int .i64 (zfE x)))):=by
 refine kO Tryz.func32 Tryz.ntmps32 fun A hA=>?_
 refine goC 400 ?_
 simp only [go_sem,hA,avC]
 refine gC (zCu x.path) ?_
 cases hp:spL x.path with
 | false=>
  have hr:zfE x=6:=if_pos hp
  simp only [go_sem,hA,hr,Tryz.results32]
 | true=>
  simp only [go_sem,hA]
  refine gC (znf x.path hx) ?_
  cases hm:zgQ x.path with
  | true=>
   have hr:zfE x=9:=by unfold zfE;rw [if_neg (by simp [hp]),if_pos hm]
   simp only [go_sem,hA,hr,Tryz.results32]
  | false=>
   have hr:zfE x=if (!x.inB && neS x.base) || (!x.inL && neS x.left) || (!x.inR && neS x.right) then 1 else 0:=by unfold zfE;rw [if_neg (by simp [hp]),if_neg (by simp [hm])]
   rw [hr]
   have f:∀ s:ByteArray,decide (¬ s=⟨#[]⟩)=neS s:=fun _=>rfl
   cases e1:neS x.base <;> cases e2:neS x.left <;> cases e3:neS x.right <;> cases hb:x.inB <;> cases hl:x.inL <;> cases hrr:x.inR
   all_goals simp only [go_sem,hA,undef,f,e1,e2,e3,Tryz.results32]
   all_goals
    refine gC (zpX x.base h1) ?_
    simp only [go_sem,hA]
    refine gC (zpX x.left h2) ?_
    simp only [go_sem,hA]
    refine gC (zpX x.right h3) ?_
    simp only [go_sem,hA]
structure Mg where
 ms:List Mo
 fs:List Fl
 ts:List Tc
def zFf (m:Mg):List D:=[.sl (zbS m.ms),.sl (zap m.fs),.sl (zbc m.ts)]
def avG (m:Mg):AV:=.agg [.d (.sl (zbS m.ms)),.d (.sl (zap m.fs)),.d (.sl (zbc m.ts))]
def atM (l:List Mo) (i:Nat):Mo:=l.getD i ⟨⟨#[]⟩,[],[]⟩
theorem zrn (l:List Mo) (i:Nat) (h:i<l.length):atM l i=l[i]:=by simp [atM,List.getD_eq_getElem?_getD,h]
def atC (l:List Tc) (i:Nat):Tc:=l.getD i ⟨⟨#[]⟩,false,false,false,⟨#[]⟩,⟨#[]⟩,⟨#[]⟩⟩
theorem zrp (l:List Tc) (i:Nat) (h:i<l.length):atC l i=l[i]:=by simp [atC,List.getD_eq_getElem?_getD,h]
def zsH (l:List Mo) (q:Nat):Int:=if ¬ zdl (atM l q)=0 then zdl (atM l q) else if 0<q/\leS (atM l q).label (atM l (q - 1)).label then 10 else 0
def zoz (fs:List Fl) (l:List Tc) (q:Nat):Int:=if ¬ zfE (atC l q)=0 then zfE (atC l q) else if 0<q/\leS (atC l q).path (atC l (q - 1)).path then 10 else if znj fs (atC l q).path then 7 else 0
def zcE (m:Mg):Int:=
 if ¬ zH (zsH m.ms) m.ms.length=0 then zH (zsH m.ms) m.ms.length else if ¬ zgL m.fs=0 then zgL m.fs else if m.fs.any (fun x=>zgQ x.path) then 9 else
  if 200<m.ts.length then 4 else zH (zoz m.fs m.ts) m.ts.length
structure Mg.Fine (m:Mg):Prop where
 ml:m.ms.length<=1048576
 fl:m.fs.length<=1048576
 bd:∀ x ∈ m.ms,∀ d ∈ x.decls,nodesE d.body<=524288
 fp:∀ x ∈ m.fs,x.path.size<=9223372036854775807/\x.data.size<=60000
 tp:∀ x ∈ m.ts,x.path.size<=9223372036854775807/\x.base.size<=60000/\x.left.size<=60000/\x.right.size<=60000
abbrev zwa (m:Mg) (q:Nat):St:=⟨[(1,.box 0 0),(13,.d (.sl (zbS m.ms))),(14,.d (.raw (.int .i64 m.ms.length))),(15,.d (.raw (.int .i64 q)))],[(0,some (.cell 26 [.d (.sl (zbS m.ms)),.d (.sl (zap m.fs)),.d (.sl (zbc m.ts))]))],[]⟩
abbrev zvZ (m:Mg) (q:Nat):St:=⟨[(1,.box 0 0),(54,.d (.sl (zbc m.ts))),(55,.d (.raw (.int .i64 m.ts.length))),(56,.d (.raw (.int .i64 q)))],[(0,some (.cell 26 [.d (.sl (zbS m.ms)),.d (.sl (zap m.fs)),.d (.sl (zbc m.ts))]))],[]⟩
theorem zyg (x:Fl) (hx:x.path.size<=9223372036854775807):Con Tryz.prog 30 [avF x] (.d (.raw (.bool (zgQ x.path)))):=by
 refine kO Tryz.func30 Tryz.ntmps30 fun A hA=>?_
 refine goC 400 ?_
 simp only [go_sem,hA,avF]
 refine gC (znf x.path hx) ?_
 simp only [go_sem,hA,Tryz.results30]
theorem zha (m:Mg) (hm:m.Fine):Con Tryz.prog 9 [avG m] (.d (.raw (.int .i64 (zcE m)))):=by
 refine kO Tryz.func9 Tryz.ntmps9 fun A hA=>?_
 refine goC 400 ?_
 have hml:=hm.ml
 have hr0:zcE m=if ¬ zH (zsH m.ms) m.ms.length=0 then zH (zsH m.ms) m.ms.length else if ¬ zgL m.fs=0 then zgL m.fs else if m.fs.any (fun x=>zgQ x.path) then 9 else
  if 200<m.ts.length then 4 else zH (zoz m.fs m.ts) m.ts.length:=rfl
 simp only [go_sem,hA,avG,zZ]
 refine zc [1,13,14,15] [0] [] (fun y σ=>∃ q:Nat,q<=m.ms.length/\y=m.ms.length - q/\zH (zsH m.ms) q=0/\σ=zwa m q) m.ms.length ⟨0,by omega,by omega,rfl,by simp only [go_sem,zwa]⟩ ?_
 rintro y σ ⟨q,hq,rfl,hf,rfl⟩
 refine goC 400 ?_
 by_cases hlt:q<m.ms.length
 ·have k1:decide ((q:Int)<(m.ms.length:Int))=true:=decide_eq_true (by omega)
  have hat:=zrn m.ms q hlt
  have hfe:zsH m.ms q=if ¬ zdl m.ms[q]=0 then zdl m.ms[q] else if 0<q/\leS m.ms[q].label (atM m.ms (q - 1)).label then 10 else 0:=by unfold zsH;rw [hat]
  simp only [go_sem,hA,zwa,zZ,k1,Int.toNat_natCast,zgc m.ms q hlt,zhu]
  refine⟨⟨by omega,by omega⟩,?_⟩
  refine gC (zFm m.ms[q] (hm.bd _ (List.getElem_mem hlt))) ?_ rfl (by simp only [go_sem,avM])
  by_cases hp:zdl m.ms[q]=0
  case neg=>
   have g1:(decide ¬ zdl m.ms[q]=0)=true:=decide_eq_true hp
   rw [if_pos hp] at hfe
   rw [zS hf hlt (by rw [hfe];exact hp),hfe,if_pos hp] at hr0
   simp only [go_sem,hA,g1,hr0,Tryz.results9]
  have g1:(decide ¬ zdl m.ms[q]=0)=false:=by simp [hp]
  rw [if_neg (by simp [hp])] at hfe
  by_cases hq0:0<q
  ·have k2:decide ((0:Int)<(q:Int))=true:=decide_eq_true (by omega)
   have hq1:((q:Int) - 1).toNat=q - 1:=by omega
   have hat1:=zrn m.ms (q - 1) (by omega)
   have hin:za ((q:Int) - 1):=by unfold za;omega
   rw [hat1] at hfe
   cases hle:leS m.ms[q].label m.ms[q - 1].label with
   | true=>
    have hle':(Op.bytesLess m.ms[q].label.data.toList m.ms[q - 1].label.data.toList || decide (m.ms[q].label=m.ms[q - 1].label))=true:=hle
    rw [if_pos ⟨hq0,hle⟩] at hfe
    rw [zS hf hlt (by rw [hfe];decide),hfe] at hr0
    simp only [go_sem,hA,g1,k2,zZ,hq1,zgc m.ms (q - 1) (by omega),zhu,hle',hr0,mixed,Tryz.results9]
    exact⟨hin,⟨by omega,by omega⟩,by show chk _ _ _=true;kernel_rfl,by rfl⟩
   | false=>
    have hle':(Op.bytesLess m.ms[q].label.data.toList m.ms[q - 1].label.data.toList || decide (m.ms[q].label=m.ms[q - 1].label))=false:=hle
    rw [if_neg fun h=>by rw [hle] at h;cases h.2] at hfe
    simp only [go_sem,hA,g1,k2,zZ,hq1,zgc m.ms (q - 1) (by omega),zhu,hle',mixed]
    exact⟨hin,⟨by omega,by omega⟩,by show chk _ _ _=true;kernel_rfl,by unfold za;omega,m.ms.length - (q+1),by omega,q+1,by omega,rfl,zX hf hfe,rfl⟩
  ·have k2:decide ((0:Int)<(q:Int))=false:=decide_eq_false (by omega)
   rw [if_neg fun h=>hq0 h.1] at hfe
   simp only [go_sem,hA,g1,k2,undef,mixed]
   exact⟨by show chk _ _ _=true;kernel_rfl,by unfold za;omega,m.ms.length - (q+1),by omega,q+1,by omega,rfl,zX hf hfe,rfl⟩
 have k1:decide ((q:Int)<(m.ms.length:Int))=false:=decide_eq_false (by omega)
 obtain rfl:q=m.ms.length:=by omega
 rw [if_neg (by simp [hf])] at hr0
 simp only [go_sem,hA,zwa,k1]
 refine gC (zzj m.fs hm.fl fun x hx=>zmO x.data (hm.fp x hx).2) ?_
 by_cases ht:zgL m.fs=0
 case neg=>
  have g1:(decide ¬ zgL m.fs=0)=true:=decide_eq_true ht
  rw [if_pos ht] at hr0
  simp only [go_sem,hA,g1,hr0,Tryz.results9]
 have g1:(decide ¬ zgL m.fs=0)=false:=by simp [ht]
 rw [if_neg (by simp [ht])] at hr0
 simp only [go_sem,hA,g1]
 refine gC (zsO m.fs _ [] (fun x=>zgQ x.path) rfl rfl hm.fl fun x hx=>zyg x (hm.fp x hx).1) ?_
 cases hmod:m.fs.any fun x=>zgQ x.path with
 | true=>
  rw [hmod] at hr0
  simp only [go_sem,hA,hr0,Tryz.results9]
 | false=>
 rw [if_neg (by simp [hmod])] at hr0
 by_cases h2:200<m.ts.length
 ·have g2:decide ((200:Int)<(m.ts.length:Int))=true:=decide_eq_true (by omega)
  rw [if_pos h2] at hr0
  simp only [go_sem,hA,zD,g2,hr0,Tryz.results9]
 have g2:decide ((200:Int)<(m.ts.length:Int))=false:=decide_eq_false (by omega)
 rw [if_neg h2] at hr0
 simp only [go_sem,hA,zD,g2]
 refine zc [1,54,55,56] [0] [] (fun y σ=>∃ q:Nat,q<=m.ts.length/\y=m.ts.length - q/\zH (zoz m.fs m.ts) q=0/\σ=zvZ m q) m.ts.length ⟨0,by omega,by omega,rfl,by simp only [go_sem,zvZ]⟩ ?_
 clear hf hlt k1 g1 g2
 rintro y σ ⟨q,hq,rfl,hf,rfl⟩
 refine goC 400 ?_
 by_cases hlt:q<m.ts.length
 ·have k1:decide ((q:Int)<(m.ts.length:Int))=true:=decide_eq_true (by omega)
  have hat:=zrp m.ts q hlt
  have hfe:zoz m.fs m.ts q=if ¬ zfE m.ts[q]=0 then zfE m.ts[q] else if 0<q/\leS m.ts[q].path (atC m.ts (q - 1)).path then 10 else if znj m.fs m.ts[q].path then 7 else 0:=by unfold zoz;rw [hat]
  simp only [go_sem,hA,zvZ,zD,k1,Int.toNat_natCast,zcs m.ts q hlt,zea]
  refine⟨⟨by omega,by omega⟩,?_⟩
  have htp:=hm.tp _ (List.getElem_mem hlt)
  refine gC (zCt m.ts[q] htp.1 htp.2.1 htp.2.2.1 htp.2.2.2) ?_ rfl (by simp only [go_sem,avC])
  by_cases hp:zfE m.ts[q]=0
  case neg=>
   have g1:(decide ¬ zfE m.ts[q]=0)=true:=decide_eq_true hp
   rw [if_pos hp] at hfe
   rw [zS hf hlt (by rw [hfe];exact hp),hfe] at hr0
   simp only [go_sem,hA,g1,hr0,Tryz.results9]
  have g1:(decide ¬ zfE m.ts[q]=0)=false:=by simp [hp]
  rw [if_neg (by simp [hp])] at hfe
  have rest:∀ h0:¬ (0<q/\leS m.ts[q].path (atC m.ts (q - 1)).path),zoz m.fs m.ts q=if znj m.fs m.ts[q].path then 7 else 0:=fun h0=>by rw [hfe,if_neg h0]
  by_cases hq0:0<q
  ·have k2:decide ((0:Int)<(q:Int))=true:=decide_eq_true (by omega)
   have hq1:((q:Int) - 1).toNat=q - 1:=by omega
   have hat1:=zrp m.ts (q - 1) (by omega)
   have hin:za ((q:Int) - 1):=by unfold za;omega
   rw [hat1] at hfe rest
   cases hle:leS m.ts[q].path m.ts[q - 1].path with
   | true=>
    have hle':(Op.bytesLess m.ts[q].path.data.toList m.ts[q - 1].path.data.toList || decide (m.ts[q].path=m.ts[q - 1].path))=true:=hle
    rw [if_pos ⟨hq0,hle⟩] at hfe
    rw [zS hf hlt (by rw [hfe];decide),hfe] at hr0
    simp only [go_sem,hA,g1,k2,zD,hq1,zcs m.ts (q - 1) (by omega),zea,hle',hr0,mixed,Tryz.results9]
    exact⟨hin,⟨by omega,by omega⟩,by show chk _ _ _=true;kernel_rfl⟩
   | false=>
    have hle':(Op.bytesLess m.ts[q].path.data.toList m.ts[q - 1].path.data.toList || decide (m.ts[q].path=m.ts[q - 1].path))=false:=hle
    have hfe':=rest fun h=>by rw [hle] at h;cases h.2
    simp only [go_sem,hA,g1,k2,zD,hq1,zcs m.ts (q - 1) (by omega),zea,hle',mixed]
    refine⟨hin,⟨by omega,by omega⟩,by show chk _ _ _=true;kernel_rfl,?_⟩
    refine gC (zvw m.fs m.ts[q].path hm.fl) ?_
    cases hh:znj m.fs m.ts[q].path with
    | true=>
     rw [hh,if_pos rfl] at hfe'
     rw [zS hf hlt (by rw [hfe'];decide),hfe'] at hr0
     simp only [go_sem,hA,hr0,Tryz.results9]
    | false=>
     rw [hh] at hfe'
     simp only [go_sem,hA]
     exact⟨by unfold za;omega,m.ts.length - (q+1),by omega,q+1,by omega,rfl,zX hf hfe',rfl⟩
  ·have k2:decide ((0:Int)<(q:Int))=false:=decide_eq_false (by omega)
   have hfe':=rest fun h=>hq0 h.1
   simp only [go_sem,hA,g1,k2,undef,mixed]
   refine⟨by show chk _ _ _=true;kernel_rfl,?_⟩
   refine gC (zvw m.fs m.ts[q].path hm.fl) ?_
   cases hh:znj m.fs m.ts[q].path with
   | true=>
    rw [hh,if_pos rfl] at hfe'
    rw [zS hf hlt (by rw [hfe'];decide),hfe'] at hr0
    simp only [go_sem,hA,hr0,Tryz.results9]
   | false=>
    rw [hh] at hfe'
    simp only [go_sem,hA]
    exact⟨by unfold za;omega,m.ts.length - (q+1),by omega,q+1,by omega,rfl,zX hf hfe',rfl⟩
 have k1:decide ((q:Int)<(m.ts.length:Int))=false:=decide_eq_false (by omega)
 obtain rfl:q=m.ts.length:=by omega
 rw [hf] at hr0
 simp only [go_sem,hA,zvZ,k1,hr0,Tryz.results9]
theorem ztU {ds:List D} (h:Typed Tryz.prog 62 ds):∃ x:Fl,ds=zib x/\0<=zaH ds:=by
 obtain⟨parts,rfl,hl,hp⟩:=zby h Tryz.underlying62
 match parts,hl with
 | [p0,p1],_=>
  obtain⟨s,e0,_⟩:=zbN (hp 0 (by decide) (by simp)) Tryz.underlying9
  obtain⟨d,e1,_⟩:=zbN (hp 1 (by decide) (by simp)) Tryz.underlying9
  have e0:p0=[.raw (.string s)]:=e0
  have e1:p1=[.raw (.string d)]:=e1
  subst e0 e1
  exact⟨⟨s,d⟩,rfl,Nat.zero_le _⟩
theorem ztR {ds:List D} (h:Typed Tryz.prog 58 ds):∃ x:Tc,ds=zea x/\0<=zaH ds:=by
 obtain⟨parts,rfl,hl,hp⟩:=zby h Tryz.underlying58
 match parts,hl with
 | [p0,p1,p2,p3,p4,p5,p6],_=>
  obtain⟨s,e0,_⟩:=zbN (hp 0 (by decide) (by simp)) Tryz.underlying9
  obtain⟨b1,e1⟩:=zeJ (hp 1 (by decide) (by simp)) Tryz.underlying4
  obtain⟨b2,e2⟩:=zeJ (hp 2 (by decide) (by simp)) Tryz.underlying4
  obtain⟨b3,e3⟩:=zeJ (hp 3 (by decide) (by simp)) Tryz.underlying4
  obtain⟨d1,e4,_⟩:=zbN (hp 4 (by decide) (by simp)) Tryz.underlying9
  obtain⟨d2,e5,_⟩:=zbN (hp 5 (by decide) (by simp)) Tryz.underlying9
  obtain⟨d3,e6,_⟩:=zbN (hp 6 (by decide) (by simp)) Tryz.underlying9
  have e0:p0=[.raw (.string s)]:=e0
  have e1:p1=[.raw (.bool b1)]:=e1
  have e2:p2=[.raw (.bool b2)]:=e2
  have e3:p3=[.raw (.bool b3)]:=e3
  have e4:p4=[.raw (.string d1)]:=e4
  have e5:p5=[.raw (.string d2)]:=e5
  have e6:p6=[.raw (.string d3)]:=e6
  subst e0 e1 e2 e3 e4 e5 e6
  exact⟨⟨s,b1,b2,b3,d1,d2,d3⟩,rfl,Nat.zero_le _⟩
theorem zpP {ds:List D} (h:Typed Tryz.prog 56 ds):∃ x:Mo,ds=zhu x/\zhk x.decls<=zaH ds:=by
 obtain⟨parts,rfl,hl,hp⟩:=zby h Tryz.underlying56
 match parts,hl with
 | [p0,p1,p2],_=>
  obtain⟨s,e2,_⟩:=zbN (hp 0 (by decide) (by simp)) Tryz.underlying9
  obtain⟨rows,e0,hr⟩:=zbW (hp 1 (by decide) (by simp)) Tryz.underlying53
  obtain⟨uses,e6,_⟩:=zir Tryz.underlying9 rows hr
  obtain⟨rows2,e1,hr2⟩:=zbW (hp 2 (by decide) (by simp)) Tryz.underlying54
  obtain⟨decls,e7,hn2⟩:=zcL (enc:=zcb) (sz:=fun x:Dc=>nodesE x.body+x.names.length) (szL:=zhk) rfl (fun a l=>by simp [zhk]) _ (fun ds _ h=>ztV h) rows2 (Nat.le_refl _) hr2
  have e2:p0=[.raw (.string s)]:=e2
  have e0:p1=[.sl rows]:=e0
  have e1:p2=[.sl rows2]:=e1
  subst e0 e1 e2 e6 e7
  refine⟨⟨s,uses,decls⟩,rfl,?_⟩
  simp only [List.flatten_cons,List.flatten_nil,List.append_nil,List.cons_append,List.nil_append,zaH,D.size]
  omega
def ziC (l:List Mo):Nat:=(l.map fun x=>zhk x.decls).sum
theorem zmP {l:List Mo} {x:Mo} (h:x ∈ l) {d:Dc} (hd:d ∈ x.decls):nodesE d.body<=ziC l:=by
 induction l with
 | nil=>cases h
 | cons y l ih=>
  simp only [ziC,List.map_cons,List.sum_cons]
  rcases List.mem_cons.1 h with rfl | h
  ·have:=zva hd;omega
  ·have:=ih h
   simp only [ziC] at this
   omega
theorem zpQ {ds:List D} (h:Typed Tryz.prog 26 ds):∃ m:Mg,ds=zFf m/\ziC m.ms<=zaH ds:=by
 obtain⟨parts,rfl,hl,hp⟩:=zby h Tryz.underlying26
 match parts,hl with
 | [p0,p1,p2],_=>
  obtain⟨r0,e0,h0⟩:=zbW (hp 0 (by decide) (by simp)) Tryz.underlying22
  obtain⟨r1,e1,h1⟩:=zbW (hp 1 (by decide) (by simp)) Tryz.underlying23
  obtain⟨r2,e2,h2⟩:=zbW (hp 2 (by decide) (by simp)) Tryz.underlying24
  obtain⟨ms,e3,hn⟩:=zcL (enc:=zhu) (sz:=fun x:Mo=>zhk x.decls) (szL:=ziC) rfl (fun a l=>by simp [ziC]) _ (fun ds _ h=>zpP h) r0 (Nat.le_refl _) h0
  obtain⟨fs,e4,_⟩:=zcL (enc:=zib) (sz:=fun _:Fl=>0) (szL:=fun _=>0) rfl (fun a l=>rfl) _ (fun ds _ h=>ztU h) r1 (Nat.le_refl _) h1
  obtain⟨ts,e5,_⟩:=zcL (enc:=zea) (sz:=fun _:Tc=>0) (szL:=fun _=>0) rfl (fun a l=>rfl) _ (fun ds _ h=>ztR h) r2 (Nat.le_refl _) h2
  have e0:p0=[.sl r0]:=e0
  have e1:p1=[.sl r1]:=e1
  have e2:p2=[.sl r2]:=e2
  subst e0 e1 e2 e3 e4 e5
  refine⟨⟨ms,fs,ts⟩,rfl,?_⟩
  simp only [List.flatten_cons,List.flatten_nil,List.append_nil,List.cons_append,List.nil_append,zaH,D.size]
  omega
def zkf:List TypeId:=zzO++[56,22,62,23,58,24,26]
theorem zxv:zkf.all (zjl Tryz.prog zkf)=true:=by kernel_rfl
end
section
open Go.ChangeShapes Go.WideShapes Go.ChangeAt Go.RowKit
section
variable {H:Type} {enc:TypeId × Value->H} {P:Program}
theorem zoh {f:Func} {s:ChangeSpec} {apart fresh handsOn again:Bool} {W W':World} {args:Array Value} {v:Value} {ds gs:List (DataW H)} {before pa pv:List MemPlace}
  (hW:DataW.Whole enc P f.params.toList s.vars apart W args.toList ds gs before)
  (hres:∀ (b:Nat) (sp:Nat->Bool) (hd:Bool),DataW.TrodAll enc P W' b sp hd f.resultTypes.toList (v.resultList f.resultTypes.size) (s.fn H (ds++gs)).results [])
  (hargs:∀ sp:Nat->Bool,(∀ p ∈ before,sp p.block=true)->DataW.TrodAll enc P W' 0 sp true f.params.toList args.toList (s.fn H (ds++gs)).args pa)
  (hvars:∀ sp:Nat->Bool,(∀ p ∈ before,sp p.block=true)->DataW.TrodVars enc P W' sp s.vars (s.fn H (ds++gs)).vars pv)
  (hps:before=pa++pv) (hb:Below W.heap.size W W')
  (hok:∀ (j:Nat) (t:TypeId) (r:Value),f.resultTypes[j]? = some t->(v.resultList f.resultTypes.size)[j]? = some r->Value.okWide P W' .any 0 t r) :
  s.post enc P f apart fresh handsOn again W args v W':=by
 have hlt:∀ p ∈ before,p.block<W.heap.size:=fun p hp=>hW.lt p hp
 have hold:∀ p ∈ before,(fun b=>decide (b<W.heap.size)) p.block=true:=fun p hp=>by simpa using hlt p hp
 refine⟨ds,gs,before,[],pa,pv,hW,hres _ _ _,hargs _ hold,hvars _ hold,World.keptBut_mono (fun p hp=>⟨hp,?_⟩) (hb.frame (· ∈ before)),fun _=>?_⟩
 ·rw [hps,List.mem_append] at hp
  exact Or.inr hp
 ·obtain⟨_,_,_,_,_,hz,hn⟩:=hW
  refine⟨hok,_,_,([]++pa)++pv,⟨[]++pa,pv,trodAll_append (hargs _ (fun _ _=>rfl)) (hres _ _ _),hvars _ (fun _ _=>rfl),rfl,?_,?_⟩,?_⟩
  ·intro b off hp
   have hin:MemPlace.cell b off ∈ before:=by rw [hps];simpa using hp
   rw [hb.frozen (hlt _ hin)]
   exact hz b off hin
  ·intro ha
   have:=hn ha
   rw [hps] at this
   simpa using this
  ·intro p hp _
   rw [hps]
   simpa using hp
end
theorem own:ownKnob Tryz.prog.godebug=none:=by kernel_rfl
mutual
/-- the cells of a datum of numbers -/
def zpu:DataW Unit->List Value
 | .lit (.int k n)=>[.int k n]
 | .agg l=>znC l
 | _=>[]
def znC:List (DataW Unit)->List Value
 | []=>[]
 | d :: l=>zpu d++znC l
end
def zzL (cs:Array Value):Obj->Obj
 | .cells _ t frozen=>.cells cs t frozen
 | o=>o
def zzm:List (Nat × DataW Unit):=[(4,Rows.laid_math_bits_deBruijn32tab),(5,Rows.laid_math_bits_deBruijn64tab),(3,Rows.laid_internal_strconv_uint64pow10),(2,Rows.laid_unicode_utf8_acceptRanges),(1,Rows.laid_unicode_utf8_first)]
noncomputable def zks (os:Os):World:=
 { World.holding Tryz.prog os ⟨#[],#[],[]⟩ with heap:=zzm.foldl (fun h x=>h.modify x.1 (zzL (zpu x.2).toArray)) (World.holding Tryz.prog os ⟨#[],#[],[]⟩).heap }
def zFU : List (String × DataW Unit) := [("math/bits.deBruijn32tab",Rows.laid_math_bits_deBruijn32tab),("math/bits.deBruijn64tab",Rows.laid_math_bits_deBruijn64tab),("internal/strconv.uint64pow10",Rows.laid_internal_strconv_uint64pow10),("unicode/utf8.acceptRanges",Rows.laid_unicode_utf8_acceptRanges),("unicode/utf8.first",Rows.laid_unicode_utf8_first)]
theorem zqI {P:Program} {w:World} {g:Nat} {t:TypeId} {zero:Array Value} (h:w.ShapedOpen P) (hg:g<P.globals.size)
  (h0:((begin P (fun _ _=>0) default).world.heap[g]?).bind Obj.row? = some (zero,t)) (hz:zero.size=1)
  (hb:P.buildable t=true) (hc:P.cellTypes P.depth t=some [t]) (hu:P.underlying t=some (.int .i64)):∃ m,w.cell? ⟨g,0,none⟩=some (.int .i64 m):=by
 obtain⟨cs,hh,hs,hr⟩:=h.1 g zero t hg h0
 obtain⟨ts,hts,_,hall⟩:=hr hb
 rw [hc] at hts
 cases hts
 have h1:0<cs.size:=by omega
 obtain⟨u,hu',hok⟩:=hall 0 cs[0] (by simp [h1])
 have:u=t:=by simpa using hu'.symm
 subst this
 have key:∃ m,cs[0] = .int .i64 m:=by
  revert hok
  cases cs[0] <;> simp [Cell.ok,hu]
  exact fun h _=>h
 obtain⟨m,hm⟩:=key
 exact⟨m,by simp [World.cell?,hh,h1,hm]⟩
theorem zDa {W:World} (h:laidMetH Tryz.prog zFU W) (hs:W.ShapedOpen Tryz.prog):Glob Tryz.prog W:=by
 rw [Go.MakeChecks.laidMetH_plain _ _ _ (by kernel_rfl)] at h
 refine⟨?_,fun g _=>?_,fun g hg=>?_⟩
 ·have hx:(((begin Tryz.prog (fun _ _=>0) default).world.heap[5]?).bind Obj.row?).isSome=true:=by kernel_rfl
  obtain⟨⟨zero,t⟩,h0⟩:=Option.isSome_iff_exists.1 hx
  obtain⟨cs,h1,_⟩:=hs.1 5 zero t (of_decide_eq_true (by kernel_rfl)) h0
  have h2:=(Array.getElem?_eq_some_iff.1 h1).1
  have h3:Tryz.prog.globals.size=6:=by kernel_rfl
  omega
 ·exact Lib.tabIs_of_head (g:=3) (t:=355) (e:=40) (n:=20) (by kernel_rfl) (by kernel_rfl) (by kernel_rfl) (by kernel_rfl) (by kernel_rfl) (by kernel_rfl) h.tail.tail
 ·obtain rfl : g = 0 := (Option.some.inj ((show Tryz.prog.globalNamed "internal/bytealg.MaxLen" = some 0 by kernel_rfl).symm.trans hg)).symm
  exact zqI hs (t:=3) (zero:=#[.int .i64 0]) (of_decide_eq_true (by kernel_rfl)) (by kernel_rfl) (by kernel_rfl) (by kernel_rfl) (by kernel_rfl) (by kernel_rfl)
section
variable {H:Type} {enc:TypeId × Value->H} {W:World} {base:Nat} {spare:Nat->Bool} {held:Bool}
theorem zpi {v:Value} {d:DataW H} {p:List MemPlace} (hval:Value.okWide Tryz.prog W .any base 26 v) (h:DataW.Trod enc Tryz.prog W 0 (fun _=>true) true 26 v d p) (hlt:∀ x ∈ p,x.block<W.heap.size):∃ m:Mg,zch W (below W) (avG m) v/\ziC m.ms<=Rows.uptoBulk d:=by
 obtain⟨fuel,hf⟩:=h
 obtain⟨ds,hT,hR,hS⟩:=zmA zxv _ fuel 26 v.cells.toList (d,p) (Nat.le_refl _) (by decide) hf hlt
 obtain⟨m,rfl,hn⟩:=zpQ hT
 obtain⟨cs,rfl,_⟩:=okWide_struct Tryz.underlying26 hval
 have hS:zaH (zFf m)<=Rows.uptoBulk d:=hS
 refine⟨m,?_,by omega⟩
 have:=zBW (cs:=cs.toList) hR
 simpa [avG,zFf] using this
end
theorem zxT {f:FuncId} {args:List AV} {vs:List Value} {W:World} (hc:Con Tryz.prog f args (.d (.raw (.bool true)))) (hg:Glob Tryz.prog W) (hl:args.length=vs.length) (hv:∀ i (hi:i<args.length) (hv:i<vs.length),zch W (below W) args[i] vs[i]) :
  Calls Tryz.prog f vs.toArray W fun e W'=>e = .returned (.bool true)/\Below W.heap.size W W':=by
 refine(hc.2.2 (below W) W vs (fun _ _ h=>h) hg hl hv).mono ?_
 rintro e w' ⟨v,rfl,hv,hb⟩
 exact⟨by rw [hv.raw_eq],hb⟩
end
end Go.Proofs.YtpnjjmcimjlfkaaGreatDoor
