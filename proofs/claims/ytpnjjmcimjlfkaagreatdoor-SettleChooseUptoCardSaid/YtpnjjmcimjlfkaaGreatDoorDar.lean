/- Texts of this proof, part 18: what the proof uses of them. -/
import Derived.Test.YtpnjjmcimjlfkaaGreatDoorDaq
import Derived.BigGuardIn
import Derived.Test.YtpnjjmcimjlfkaaGreatDoorDaj
import Derived.Test.YtpnjjmcimjlfkaaGreatDoorDah
import Derived.Test.YtpnjjmcimjlfkaaGreatDoorDak
import Derived.Test.YtpnjjmcimjlfkaaGreatDoorDan
set_option maxRecDepth 100000
set_option maxHeartbeats 64000000
namespace Go.Proofs.YtpnjjmcimjlfkaaGreatDoor
section
open Go.RowKit Go.Shelf
attribute [local go_sem] Oper.semAt_some
theorem zCi (n l be lo hi:Nat) (hn1:1≤n) (k:Int) (nm mr:ByteArray) (it d:Int) (sub:List Ex) (p:Option Addr) (cap:Nat) (W:World)
  (hs:zbb W lo sub (.slice p sub.length cap)) (hlh:lo≤hi) (hhb:hi≤be) (hbe:W.heap[be]? = some (.cells #[.int .i64 k,.string nm,.string mr,.int .i64 it,.int .i64 d,.slice p sub.length cap] 105 (0,0))) (hm:nodesL sub≤1048576)
  (J Jx:List (ItN)→World→Prop) (hJ:∀ pre A B,J pre A→ItStep W.heap.size A B→J pre B)
  (hY:∀ pre x A,J pre A→pre.length≤1048577→YieldAt Fence.wide (n - 1) Tryz.prog l #[ziZ x] A fun e B=>
   (e = .returned (.bool true)∧J (pre++[x]) B∧KeepOut lo hi A B)∨(e = .returned (.bool false)∧Jx (pre++[x]) B)) (h0:J [] W) :
  CallsIn Fence.wide n Tryz.prog 270 #[.func (.yield l) #[] #[],.pointer (some ⟨be,0,none⟩)] W fun e B=>(∃ v,e = .returned v) ∧
   ((∃ xs,zmv (.mk k nm mr it d sub) xs∧J xs B)∨(∃ pre,zyj (.mk k nm mr it d sub) pre∧Jx pre B)):=by
 obtain⟨i0,hi0,hz0,hz1,hz2⟩:=info_parts zqn
 have hbl:=(Array.getElem?_eq_some_iff.1 hbe).1
 have c0:W.cell? ⟨be,0,none⟩=some (.int .i64 k):=by simp [World.cell?,hbe]
 have c1:W.cell? ⟨be,1,none⟩=some (.string nm):=by simp [World.cell?,hbe]
 have c2:W.cell? ⟨be,2,none⟩=some (.string mr):=by simp [World.cell?,hbe]
 have c3:W.cell? ⟨be,3,none⟩=some (.int .i64 it):=by simp [World.cell?,hbe]
 have c4:W.cell? ⟨be,4,none⟩=some (.int .i64 d):=by simp [World.cell?,hbe]
 have c5:W.cell? ⟨be,5,none⟩=some (.slice p sub.length cap):=by simp [World.cell?,hbe]
 have hlo:lo≤W.heap.size:=by omega
 have HPB:Hid (∀ b,(b<lo∨b=W.heap.size)→b<W.heap.size+1):=Lib.hid (fun b h=>by omega)
 have HPO:Hid (∀ b,(b<lo∨b=W.heap.size)→b<lo∨hi≤b):=Lib.hid (fun b h=>by omega)
 obtain⟨W1,hW1⟩:∃ W1,W.alloc (.cells #[.int .i64 k,.string nm,.string mr,.int .i64 it,.int .i64 d,.slice p sub.length cap] 105)=W1:=⟨_,rfl⟩
 have hsz1:W1.heap.size=W.heap.size+1:=by rw [← hW1];simp
 have HONE:Hid (zfT W1 (fun b=>b<lo∨b=W.heap.size) [.mk k nm mr it d sub] (.slice (some ⟨W.heap.size,0,none⟩) 1 1)):=Lib.hid (by rw [← hW1];exact zCh hs hlo)
 have HI1:Hid (ItStep W.heap.size W W1):=Lib.hid (by rw [← hW1];exact(ItStep.refl _ _).alloc (Nat.le_refl _) _)
 have HZ1:=Lib.hid hsz1
 have HW1:=Lib.hid hW1
 clear hbe hs hW1 hsz1
 refine callsIn_of_wp Tryz.func270 rfl trivial ?_ rfl
 simp only [Tryz.ntmps270,List.size_toArray,List.length_cons,List.length_nil,Nat.reduceAdd,Nat.reduceSub,Array.replicate_succ,Array.replicate_zero,List.push_toArray,List.append_toArray,List.nil_append,List.cons_append]
 have HST:Hid (zcx (W.heap.size+1) 103 W1 (fun b=>b<lo∨b=W.heap.size) [[.mk k nm mr it d sub]] (.slice (some ⟨W.heap.size+1,0,none⟩) 1 1) (W1.alloc (Obj.cells #[Value.slice (some ⟨W.heap.size,0,none⟩) 1 1] 103))):=Lib.hid (by rw [← HZ1.out];exact zvd HONE.out (by rw [HZ1.out];omega))
 have HI2:Hid (ItStep W.heap.size W (W1.alloc (Obj.cells #[Value.slice (some ⟨W.heap.size,0,none⟩) 1 1] 103))):=Lib.hid (HI1.out.alloc (by rw [HZ1.out];omega) _)
 have HJ4:=Lib.hid (hJ _ _ _ h0 HI2.out)
 have HL4:Hid (zfU (fun b=>b<lo∨b=W.heap.size) W1 (W1.alloc (Obj.cells #[Value.slice (some ⟨W.heap.size,0,none⟩) 1 1] 103))):=Lib.hid (zmH ((Below.refl _ _).alloc (Nat.le_refl _) _) (fun b hb=>by have:=HPB.out b hb;rw [HZ1.out];exact this))
 have hzs:W.heap.size+1≤(W1.alloc (Obj.cells #[Value.slice (some ⟨W.heap.size,0,none⟩) 1 1] 103)).heap.size:=by simp [HZ1.out]
 gi_wp2_with fail
 rw [HW1.out]
 generalize (W1.alloc (Obj.cells #[Value.slice (some ⟨W.heap.size,0,none⟩) 1 1] 103))=W4 at *
 clear c0 c1 c2 c3 c4 c5 HI2 HI1
 gi_loopw [3] (fun v wr=>∃ m,zgK (W.heap.size+1) 103 (fun b=>b<lo∨b=W.heap.size) W1 (.mk k nm mr it d sub) J m v wr) (fun v wr=>leastOf (fun m=>zgK (W.heap.size+1) 103 (fun b=>b<lo∨b=W.heap.size) W1 (.mk k nm mr it d sub) J m v wr))
 case atStart=>exact⟨_,[],[],_,HST.out,HJ4.out,HL4.out,hzs,by simp,by simp [zaY,zdw],by simp,rfl⟩
 case round=>
  obtain⟨hrel1,hleast⟩:=leastOf_spec hrel
  obtain⟨M,hM⟩:∃ M,leastOf (fun m=>zgK (W.heap.size+1) 103 (fun b=>b<lo∨b=W.heap.size) W1 (.mk k nm mr it d sub) J m u3 wr)=M:=⟨_,rfl⟩
  rw [hM] at hrel1
  obtain⟨vis,pre,st,hst,hJr,hlr,hbz,hpl,hpre,hvp,hm'⟩:=hrel1
  have HPRE:=Lib.hid hpre
  have HVP:=Lib.hid hvp
  have HLR:=Lib.hid hlr
  have HMM:=Lib.hid hm'
  have HMQ:=Lib.hid hM
  have HLE:=Lib.hid hleast
  clear hpre hvp hlr hm' hM hleast hrel HST HJ4 HL4
  cases st with
  | nil=>
   obtain⟨g,cp,_,rfl,_,_,_⟩:=zdu hst
   gi_wp2_with fail
   go_end0
   exact⟨⟨_,rfl⟩,.inl ⟨pre,by unfold zmv;rw [← HPRE.out,HVP.out];simp [zaY],hJr⟩⟩
  | cons r st=>
   obtain⟨g,cp,y,rfl,hg1,hg2,hg3,hg4,hcy,hfy,hy,hst'⟩:=zvc hst
   have HST:=Lib.hid hst
   have HST':=Lib.hid hst'
   clear hst hst'
   have hpl':st.length≤vis.length:=by simpa using hpl
   have hpn:vis.length≤1048577:=by
    have h1:=congrArg List.length HPRE.out
    rw [zdx,List.length_append] at h1
    simp only [nodesE] at h1;omega
   clear hpl
   obtain⟨L,hL⟩:∃ L,st.length=L:=⟨_,rfl⟩
   rw [hL] at hcy hfy hg3 hpl' HST' HMQ
   unfold maxLen at hg4
   cases r with
   | nil=>
    obtain⟨py,cy,rfl,_,_⟩:=hy
    rw [hL]
    gi_wp2_with fail
    go_roundw
    case rel=>exact⟨_,vis,pre,st,HST'.out,hJr,HLR.out,hbz,by omega,by rw [← zem];exact HPRE.out,HVP.out,rfl⟩
    case measure=>
     have hMv:=HMM.out
     rw [zem,List.length_cons] at hMv
     rw [HMQ.out]
     exact zdE (m:=2 * (zaY st).length+st.length) ⟨vis,pre,st,HST'.out,hJr,HLR.out,hbz,by omega,by rw [← zem];exact HPRE.out,HVP.out,rfl⟩ (by omega)
   | cons e es=>
    obtain⟨b,off,cy,cv,rfl,hcy2,hblo,g0,g1,g2,g3,g4,g5,hsub⟩:=zyJ hy HLR.out
    have hblo':b<W.heap.size+1:=HPB.out b hblo
    have HSUB:=Lib.hid hsub
    obtain⟨pc,cc,rfl,_,_⟩:=hsub
    have HTL:=Lib.hid (zyr hy)
    have hbg:b≠g:=by omega
    have hgw:g≠wr.heap.size:=by omega
    have hbw:b≠wr.heap.size:=by omega
    have hblt:b<wr.heap.size:=by omega
    have q0:(0:Int)≤(L:Int):=by omega
    have q1:(L:Int)<(cp:Int):=by omega
    have HREL:=Lib.hid (znk e es st)
    rw [hL] at HREL
    clear hy hblo
    by_cases hc1:cy=1
    ·subst hc1
     obtain rfl:es=[]:=by cases es with | nil=>rfl | cons a r=>simp at hcy2
     have HTL':Hid (zfT W1 (fun b=>b<lo∨b=W.heap.size) [] (.slice (some ⟨b,off,none⟩) 0 0)):=Lib.hid (zyt _ _)
     have HA:Hid (ItStep (W.heap.size+1) wr ((wr.setCell ⟨g,L,none⟩ (.slice (some ⟨b,off,none⟩) 0 0)).alloc (.cells #[.int .i64 e.kind,.string e.name,.string e.more,.int .i64 e.int,.int .i64 e.den,.slice pc e.sub.length cc] 105))):=Lib.hid (((ItStep.refl _ _).setCell (p:=⟨g,L,none⟩) hg1 _).alloc (by simpa [World.setCell] using hbz) _)
     have HSA:Hid (zcx (W.heap.size+1) 103 W1 (fun b=>b<lo∨b=W.heap.size) ([] :: st) (.slice (some ⟨g,0,none⟩) (L+1) cp) ((wr.setCell ⟨g,L,none⟩ (.slice (some ⟨b,off,none⟩) 0 0)).alloc (.cells #[.int .i64 e.kind,.string e.name,.string e.more,.int .i64 e.int,.int .i64 e.den,.slice pc e.sub.length cc] 105))):=Lib.hid (by have h1:=zje (zmK HST.out HTL'.out) (.cells #[.int .i64 e.kind,.string e.name,.string e.more,.int .i64 e.int,.int .i64 e.den,.slice pc e.sub.length cc] 105);rw [hL] at h1;exact h1)
     have HCA:Hid (((wr.setCell ⟨g,L,none⟩ (.slice (some ⟨b,off,none⟩) 0 0)).alloc (.cells #[.int .i64 e.kind,.string e.name,.string e.more,.int .i64 e.int,.int .i64 e.den,.slice pc e.sub.length cc] 105)).cell? ⟨wr.heap.size,5,none⟩=some (.slice pc e.sub.length cc)):=Lib.hid (by simp [go_sem])
     have HCZ:=Lib.hid (show((wr.setCell ⟨g,L,none⟩ (.slice (some ⟨b,off,none⟩) 0 0)).alloc (.cells #[.int .i64 e.kind,.string e.name,.string e.more,.int .i64 e.int,.int .i64 e.den,.slice pc e.sub.length cc] 105)).cell? ⟨wr.heap.size,0,none⟩=some (.int .i64 e.kind)∧((wr.setCell ⟨g,L,none⟩ (.slice (some ⟨b,off,none⟩) 0 0)).alloc (.cells #[.int .i64 e.kind,.string e.name,.string e.more,.int .i64 e.int,.int .i64 e.den,.slice pc e.sub.length cc] 105)).cell? ⟨wr.heap.size,1,none⟩=some (.string e.name)∧((wr.setCell ⟨g,L,none⟩ (.slice (some ⟨b,off,none⟩) 0 0)).alloc (.cells #[.int .i64 e.kind,.string e.name,.string e.more,.int .i64 e.int,.int .i64 e.den,.slice pc e.sub.length cc] 105)).cell? ⟨wr.heap.size,2,none⟩=some (.string e.more)∧((wr.setCell ⟨g,L,none⟩ (.slice (some ⟨b,off,none⟩) 0 0)).alloc (.cells #[.int .i64 e.kind,.string e.name,.string e.more,.int .i64 e.int,.int .i64 e.den,.slice pc e.sub.length cc] 105)).cell? ⟨wr.heap.size,3,none⟩=some (.int .i64 e.int)∧((wr.setCell ⟨g,L,none⟩ (.slice (some ⟨b,off,none⟩) 0 0)).alloc (.cells #[.int .i64 e.kind,.string e.name,.string e.more,.int .i64 e.int,.int .i64 e.den,.slice pc e.sub.length cc] 105)).cell? ⟨wr.heap.size,4,none⟩=some (.int .i64 e.den) by simp [go_sem])
     have hsa:wr.heap.size<((wr.setCell ⟨g,L,none⟩ (.slice (some ⟨b,off,none⟩) 0 0)).alloc (.cells #[.int .i64 e.kind,.string e.name,.string e.more,.int .i64 e.int,.int .i64 e.den,.slice pc e.sub.length cc] 105)).heap.size:=by simp [World.setCell]
     by_cases hk15:e.kind=15
     ·have hkt:(e.kind == 15)=true:=by simpa using hk15
      have HK:=Lib.hid hk15
      clear hk15
      obtain⟨fn,tmps,assign,body,hy,hR⟩:=hY pre (L+2,e,pc,cc) _ (hJ _ _ _ hJr (HA.out.mono (by omega))) (by have h1:=congrArg List.length HVP.out;have h2:=List.length_filter_le zdU vis;rw [List.length_map] at h1;omega)
      replace hy:(Instr.yield l #[.agg #[.int .i64 e.kind,.string e.name,.string e.more,.int .i64 e.int,.int .i64 e.den,.slice pc e.sub.length cc]]).run Tryz.prog ((wr.setCell ⟨g,L,none⟩ (.slice (some ⟨b,off,none⟩) 0 0)).alloc (.cells #[.int .i64 e.kind,.string e.name,.string e.more,.int .i64 e.int,.int .i64 e.den,.slice pc e.sub.length cc] 105)) = .ok (.round l fn tmps assign body) ((wr.setCell ⟨g,L,none⟩ (.slice (some ⟨b,off,none⟩) 0 0)).alloc (.cells #[.int .i64 e.kind,.string e.name,.string e.more,.int .i64 e.int,.int .i64 e.den,.slice pc e.sub.length cc] 105)):=hy
      rw [hL]
      gi_wp2_with fail
      generalize (wr.setCell ⟨g,L,none⟩ (.slice (some ⟨b,off,none⟩) 0 0)).alloc (.cells #[.int .i64 e.kind,.string e.name,.string e.more,.int .i64 e.int,.int .i64 e.den,.slice pc e.sub.length cc] 105)=A at *
      clear g0 g1 g2 g3 g4 g5 hcy hfy
      refine hR.mono ?_
      rintro e5 W5 (⟨rfl,hJ5,hk5⟩ | ⟨rfl,hJx5⟩)
      ·have d5:=zbN hk5 HCA.out (.inr (by show hi≤wr.heap.size;omega))
       have HS5:=Lib.hid (zle HSA.out hk5 (by omega))
       have hz5:=hk5.size
       have HL5:=Lib.hid ((HLR.out.step HA.out HPB.out).keep hk5 HPO.out)
       have hb5:W.heap.size+1≤W5.heap.size:=by omega
       clear hy hR
       obtain⟨g5,cp5,cur5,ys5,hv5,hgb5,hcur5,_⟩:=id HS5.out
       simp only [Value.slice.injEq,Option.some.injEq,Addr.mk.injEq,and_true] at hv5
       obtain⟨rfl,-,rfl⟩:=hv5
       obtain⟨g6,cp6,ys,hv6,hgb6,hown,hrows⟩:=zdu HS5.out
       have HROWS:=Lib.hid hrows
       have HCUR:=Lib.hid hcur5
       rw [List.length_cons,hL] at hown
       clear hv6 hrows hcur5
       gi_wp2_with (first
        | (gi_at_builtin;refine wpListIn_append_own _ rfl _ _ 289 rfl (W.heap.size+1) 103 i0 _ 1 24 Tryz.underlying289 hi0 hz0 hz1 hz2 rfl (by decide) _ _ _ rfl (hown.alloc _) ⟨W5.heap.size,0,none⟩ 1 1 [.slice pc e.sub.length cc] rfl rfl ?c1_1 ?c1_2 ?c1_3 ?c1_4 ?c1_5 ?_))
       case c1_1=>exact zfR _ _ _
       case c1_2=>intro u hu;simp at hu;subst hu;rfl
       case c1_3=>unfold maxLen;omega
       case c1_4=>omega
       case c1_5=>simp;omega
       intro v' w6 hown6 hgrow hne
       have hvn:v' ≠ .slice none 0 0:=hne
       have HST6:=Lib.hid (zeR hL hown6 hvn HROWS.out HSUB.out)
       have HI6:Hid (ItStep (W.heap.size+1) W5 w6):=Lib.hid (((ItStep.refl _ _).alloc hb5 _).grown hgrow hgb5 (by simp;omega) ((Below.heap_alloc _ _ _ (Array.getElem?_eq_some_iff.1 HCUR.out).1).trans HCUR.out))
       have hz6:=HI6.out.others.size
       have HJ6:=Lib.hid (hJ _ _ _ hJ5 (HI6.out.mono (by omega)))
       have HL6:=Lib.hid (HL5.out.step HI6.out HPB.out)
       have hM6:2 * (zaY (e.sub :: [] :: st)).length+(e.sub :: [] :: st).length<M:=by
        have h1:=HMM.out
        have h2:=congrArg List.length HREL.out
        simp only [List.length_cons] at h1 h2 ⊢
        omega
       have HR6:Hid (zgK (W.heap.size+1) 103 (fun b=>b<lo∨b=W.heap.size) W1 (.mk k nm mr it d sub) J (2 * (zaY (e.sub :: [] :: st)).length+(e.sub :: [] :: st).length) v' w6):=Lib.hid ⟨vis++[(L+2,e)],pre++[(L+2,e,pc,cc)],_,HST6.out,HJ6.out,HL6.out,by omega,by simp;omega,by
        rw [← HPRE.out,HREL.out];simp,by simp [HVP.out,List.filter_append,zdU,HK.out,zcd],rfl⟩
       clear hown hown6 hgrow hne d5
       gi_wp2_with fail
       go_roundw
       case rel=>exact⟨_,HR6.out⟩
       case measure=>
        rw [HMQ.out]
        exact zdE HR6.out hM6
      ·gi_wp2_with fail
       refine bodyPost_ret (results_none rfl _ _ _) rfl ?_
       exact⟨⟨_,rfl⟩,.inr ⟨_,⟨(zaY (e.sub :: [] :: st)).filter zdU,by rw [← HPRE.out,HREL.out];simp [HVP.out,List.filter_append,zdU,HK.out,zcd]⟩,hJx5⟩⟩
     ·have hkt:(e.kind == 15)=false:=by simpa using hk15
      have HK:=Lib.hid hk15
      clear hk15
      have hJ5:=hJ _ _ _ hJr (HA.out.mono (by omega))
      have HS5:=HSA
      have HL5:=Lib.hid (HLR.out.step HA.out HPB.out)
      have hb5:W.heap.size+1≤((wr.setCell ⟨g,L,none⟩ (.slice (some ⟨b,off,none⟩) 0 0)).alloc (.cells #[.int .i64 e.kind,.string e.name,.string e.more,.int .i64 e.int,.int .i64 e.den,.slice pc e.sub.length cc] 105)).heap.size:=by omega
      rw [hL]
      have d5:=HCA.out
      obtain⟨g5,cp5,cur5,ys5,hv5,hgb5,hcur5,_⟩:=id HS5.out
      simp only [Value.slice.injEq,Option.some.injEq,Addr.mk.injEq,and_true] at hv5
      obtain⟨rfl,-,rfl⟩:=hv5
      obtain⟨g6,cp6,ys,hv6,hgb6,hown,hrows⟩:=zdu HS5.out
      have HROWS:=Lib.hid hrows
      have HCUR:=Lib.hid hcur5
      rw [List.length_cons,hL] at hown
      clear hv6 hrows hcur5
      gi_wp2_with fail
      refine⟨by simp,?_⟩
      gi_wp2_with (first
       | (gi_at_builtin;refine wpListIn_append_own _ rfl _ _ 289 rfl (W.heap.size+1) 103 i0 _ 1 24 Tryz.underlying289 hi0 hz0 hz1 hz2 rfl (by decide) _ _ _ rfl (hown.alloc _) ⟨wr.heap.size+1,0,none⟩ 1 1 [.slice pc e.sub.length cc] rfl rfl ?c2_1 ?c2_2 ?c2_3 ?c2_4 ?c2_5 ?_))
      case c2_1=>rw [show wr.heap.size+1=((wr.setCell ⟨g,L,none⟩ (.slice (some ⟨b,off,none⟩) 0 0)).alloc (.cells #[.int .i64 e.kind,.string e.name,.string e.more,.int .i64 e.int,.int .i64 e.den,.slice pc e.sub.length cc] 105)).heap.size by simp [World.setCell]];exact zfR _ _ _
      case c2_2=>intro u hu;simp at hu;subst hu;rfl
      case c2_3=>unfold maxLen;omega
      case c2_4=>omega
      case c2_5=>simp;omega
      intro v' w6 hown6 hgrow hne
      have hvn:v' ≠ .slice none 0 0:=hne
      have HST6:=Lib.hid (zeR hL hown6 hvn HROWS.out HSUB.out)
      have HI6:Hid (ItStep (W.heap.size+1) ((wr.setCell ⟨g,L,none⟩ (.slice (some ⟨b,off,none⟩) 0 0)).alloc (.cells #[.int .i64 e.kind,.string e.name,.string e.more,.int .i64 e.int,.int .i64 e.den,.slice pc e.sub.length cc] 105)) w6):=Lib.hid (((ItStep.refl _ _).alloc hb5 _).grown hgrow hgb5 (by simp;omega) ((Below.heap_alloc _ _ _ (Array.getElem?_eq_some_iff.1 HCUR.out).1).trans HCUR.out))
      have hz6:=HI6.out.others.size
      have HJ6:=Lib.hid (hJ _ _ _ hJ5 (HI6.out.mono (by omega)))
      have HL6:=Lib.hid (HL5.out.step HI6.out HPB.out)
      have hM6:2 * (zaY (e.sub :: [] :: st)).length+(e.sub :: [] :: st).length<M:=by
       have h1:=HMM.out
       have h2:=congrArg List.length HREL.out
       simp only [List.length_cons] at h1 h2 ⊢
       omega
      have HR6:Hid (zgK (W.heap.size+1) 103 (fun b=>b<lo∨b=W.heap.size) W1 (.mk k nm mr it d sub) J (2 * (zaY (e.sub :: [] :: st)).length+(e.sub :: [] :: st).length) v' w6):=Lib.hid ⟨vis++[(L+2,e)],pre,_,HST6.out,HJ6.out,HL6.out,by omega,by simp;omega,by
       rw [← HPRE.out,HREL.out];simp,by simp [HVP.out,List.filter_append,zdU,HK.out],rfl⟩
      clear hown hown6 hgrow hne d5
      gi_wp2_with fail
      go_roundw
      case rel=>exact⟨_,HR6.out⟩
      case measure=>
       rw [HMQ.out]
       exact zdE HR6.out hM6
    ·have HTL':=Lib.hid HTL.out
     have hc2:(cy == 1)=false:=by simpa using hc1
     have HA:Hid (ItStep (W.heap.size+1) wr ((wr.setCell ⟨g,L,none⟩ (.slice (some ⟨b,off+6,none⟩) es.length (cy - 1))).alloc (.cells #[.int .i64 e.kind,.string e.name,.string e.more,.int .i64 e.int,.int .i64 e.den,.slice pc e.sub.length cc] 105))):=Lib.hid (((ItStep.refl _ _).setCell (p:=⟨g,L,none⟩) hg1 _).alloc (by simpa [World.setCell] using hbz) _)
     have HSA:Hid (zcx (W.heap.size+1) 103 W1 (fun b=>b<lo∨b=W.heap.size) (es :: st) (.slice (some ⟨g,0,none⟩) (L+1) cp) ((wr.setCell ⟨g,L,none⟩ (.slice (some ⟨b,off+6,none⟩) es.length (cy - 1))).alloc (.cells #[.int .i64 e.kind,.string e.name,.string e.more,.int .i64 e.int,.int .i64 e.den,.slice pc e.sub.length cc] 105))):=Lib.hid (by have h1:=zje (zmK HST.out HTL'.out) (.cells #[.int .i64 e.kind,.string e.name,.string e.more,.int .i64 e.int,.int .i64 e.den,.slice pc e.sub.length cc] 105);rw [hL] at h1;exact h1)
     have HCA:Hid (((wr.setCell ⟨g,L,none⟩ (.slice (some ⟨b,off+6,none⟩) es.length (cy - 1))).alloc (.cells #[.int .i64 e.kind,.string e.name,.string e.more,.int .i64 e.int,.int .i64 e.den,.slice pc e.sub.length cc] 105)).cell? ⟨wr.heap.size,5,none⟩=some (.slice pc e.sub.length cc)):=Lib.hid (by simp [go_sem])
     have HCZ:=Lib.hid (show((wr.setCell ⟨g,L,none⟩ (.slice (some ⟨b,off+6,none⟩) es.length (cy - 1))).alloc (.cells #[.int .i64 e.kind,.string e.name,.string e.more,.int .i64 e.int,.int .i64 e.den,.slice pc e.sub.length cc] 105)).cell? ⟨wr.heap.size,0,none⟩=some (.int .i64 e.kind)∧((wr.setCell ⟨g,L,none⟩ (.slice (some ⟨b,off+6,none⟩) es.length (cy - 1))).alloc (.cells #[.int .i64 e.kind,.string e.name,.string e.more,.int .i64 e.int,.int .i64 e.den,.slice pc e.sub.length cc] 105)).cell? ⟨wr.heap.size,1,none⟩=some (.string e.name)∧((wr.setCell ⟨g,L,none⟩ (.slice (some ⟨b,off+6,none⟩) es.length (cy - 1))).alloc (.cells #[.int .i64 e.kind,.string e.name,.string e.more,.int .i64 e.int,.int .i64 e.den,.slice pc e.sub.length cc] 105)).cell? ⟨wr.heap.size,2,none⟩=some (.string e.more)∧((wr.setCell ⟨g,L,none⟩ (.slice (some ⟨b,off+6,none⟩) es.length (cy - 1))).alloc (.cells #[.int .i64 e.kind,.string e.name,.string e.more,.int .i64 e.int,.int .i64 e.den,.slice pc e.sub.length cc] 105)).cell? ⟨wr.heap.size,3,none⟩=some (.int .i64 e.int)∧((wr.setCell ⟨g,L,none⟩ (.slice (some ⟨b,off+6,none⟩) es.length (cy - 1))).alloc (.cells #[.int .i64 e.kind,.string e.name,.string e.more,.int .i64 e.int,.int .i64 e.den,.slice pc e.sub.length cc] 105)).cell? ⟨wr.heap.size,4,none⟩=some (.int .i64 e.den) by simp [go_sem])
     have hsa:wr.heap.size<((wr.setCell ⟨g,L,none⟩ (.slice (some ⟨b,off+6,none⟩) es.length (cy - 1))).alloc (.cells #[.int .i64 e.kind,.string e.name,.string e.more,.int .i64 e.int,.int .i64 e.den,.slice pc e.sub.length cc] 105)).heap.size:=by simp [World.setCell]
     by_cases hk15:e.kind=15
     ·have hkt:(e.kind == 15)=true:=by simpa using hk15
      have HK:=Lib.hid hk15
      clear hk15
      obtain⟨fn,tmps,assign,body,hy,hR⟩:=hY pre (L+2,e,pc,cc) _ (hJ _ _ _ hJr (HA.out.mono (by omega))) (by have h1:=congrArg List.length HVP.out;have h2:=List.length_filter_le zdU vis;rw [List.length_map] at h1;omega)
      replace hy:(Instr.yield l #[.agg #[.int .i64 e.kind,.string e.name,.string e.more,.int .i64 e.int,.int .i64 e.den,.slice pc e.sub.length cc]]).run Tryz.prog ((wr.setCell ⟨g,L,none⟩ (.slice (some ⟨b,off+6,none⟩) es.length (cy - 1))).alloc (.cells #[.int .i64 e.kind,.string e.name,.string e.more,.int .i64 e.int,.int .i64 e.den,.slice pc e.sub.length cc] 105)) = .ok (.round l fn tmps assign body) ((wr.setCell ⟨g,L,none⟩ (.slice (some ⟨b,off+6,none⟩) es.length (cy - 1))).alloc (.cells #[.int .i64 e.kind,.string e.name,.string e.more,.int .i64 e.int,.int .i64 e.den,.slice pc e.sub.length cc] 105)):=hy
      rw [hL]
      gi_wp2_with fail
      generalize (wr.setCell ⟨g,L,none⟩ (.slice (some ⟨b,off+6,none⟩) es.length (cy - 1))).alloc (.cells #[.int .i64 e.kind,.string e.name,.string e.more,.int .i64 e.int,.int .i64 e.den,.slice pc e.sub.length cc] 105)=A at *
      clear g0 g1 g2 g3 g4 g5 hcy hfy
      refine hR.mono ?_
      rintro e5 W5 (⟨rfl,hJ5,hk5⟩ | ⟨rfl,hJx5⟩)
      ·have d5:=zbN hk5 HCA.out (.inr (by show hi≤wr.heap.size;omega))
       have HS5:=Lib.hid (zle HSA.out hk5 (by omega))
       have hz5:=hk5.size
       have HL5:=Lib.hid ((HLR.out.step HA.out HPB.out).keep hk5 HPO.out)
       have hb5:W.heap.size+1≤W5.heap.size:=by omega
       clear hy hR
       obtain⟨g5,cp5,cur5,ys5,hv5,hgb5,hcur5,_⟩:=id HS5.out
       simp only [Value.slice.injEq,Option.some.injEq,Addr.mk.injEq,and_true] at hv5
       obtain⟨rfl,-,rfl⟩:=hv5
       obtain⟨g6,cp6,ys,hv6,hgb6,hown,hrows⟩:=zdu HS5.out
       have HROWS:=Lib.hid hrows
       have HCUR:=Lib.hid hcur5
       rw [List.length_cons,hL] at hown
       clear hv6 hrows hcur5
       gi_wp2_with (first
        | (gi_at_builtin;refine wpListIn_append_own _ rfl _ _ 289 rfl (W.heap.size+1) 103 i0 _ 1 24 Tryz.underlying289 hi0 hz0 hz1 hz2 rfl (by decide) _ _ _ rfl (hown.alloc _) ⟨W5.heap.size,0,none⟩ 1 1 [.slice pc e.sub.length cc] rfl rfl ?c3_1 ?c3_2 ?c3_3 ?c3_4 ?c3_5 ?_))
       case c3_1=>exact zfR _ _ _
       case c3_2=>intro u hu;simp at hu;subst hu;rfl
       case c3_3=>unfold maxLen;omega
       case c3_4=>omega
       case c3_5=>simp;omega
       intro v' w6 hown6 hgrow hne
       have hvn:v' ≠ .slice none 0 0:=hne
       have HST6:=Lib.hid (zeR hL hown6 hvn HROWS.out HSUB.out)
       have HI6:Hid (ItStep (W.heap.size+1) W5 w6):=Lib.hid (((ItStep.refl _ _).alloc hb5 _).grown hgrow hgb5 (by simp;omega) ((Below.heap_alloc _ _ _ (Array.getElem?_eq_some_iff.1 HCUR.out).1).trans HCUR.out))
       have hz6:=HI6.out.others.size
       have HJ6:=Lib.hid (hJ _ _ _ hJ5 (HI6.out.mono (by omega)))
       have HL6:=Lib.hid (HL5.out.step HI6.out HPB.out)
       have hM6:2 * (zaY (e.sub :: es :: st)).length+(e.sub :: es :: st).length<M:=by
        have h1:=HMM.out
        have h2:=congrArg List.length HREL.out
        simp only [List.length_cons] at h1 h2 ⊢
        omega
       have HR6:Hid (zgK (W.heap.size+1) 103 (fun b=>b<lo∨b=W.heap.size) W1 (.mk k nm mr it d sub) J (2 * (zaY (e.sub :: es :: st)).length+(e.sub :: es :: st).length) v' w6):=Lib.hid ⟨vis++[(L+2,e)],pre++[(L+2,e,pc,cc)],_,HST6.out,HJ6.out,HL6.out,by omega,by simp;omega,by
        rw [← HPRE.out,HREL.out];simp,by simp [HVP.out,List.filter_append,zdU,HK.out,zcd],rfl⟩
       clear hown hown6 hgrow hne d5
       gi_wp2_with fail
       go_roundw
       case rel=>exact⟨_,HR6.out⟩
       case measure=>
        rw [HMQ.out]
        exact zdE HR6.out hM6
      ·gi_wp2_with fail
       refine bodyPost_ret (results_none rfl _ _ _) rfl ?_
       exact⟨⟨_,rfl⟩,.inr ⟨_,⟨(zaY (e.sub :: es :: st)).filter zdU,by rw [← HPRE.out,HREL.out];simp [HVP.out,List.filter_append,zdU,HK.out,zcd]⟩,hJx5⟩⟩
     ·have hkt:(e.kind == 15)=false:=by simpa using hk15
      have HK:=Lib.hid hk15
      clear hk15
      have hJ5:=hJ _ _ _ hJr (HA.out.mono (by omega))
      have HS5:=HSA
      have HL5:=Lib.hid (HLR.out.step HA.out HPB.out)
      have hb5:W.heap.size+1≤((wr.setCell ⟨g,L,none⟩ (.slice (some ⟨b,off+6,none⟩) es.length (cy - 1))).alloc (.cells #[.int .i64 e.kind,.string e.name,.string e.more,.int .i64 e.int,.int .i64 e.den,.slice pc e.sub.length cc] 105)).heap.size:=by omega
      rw [hL]
      have d5:=HCA.out
      obtain⟨g5,cp5,cur5,ys5,hv5,hgb5,hcur5,_⟩:=id HS5.out
      simp only [Value.slice.injEq,Option.some.injEq,Addr.mk.injEq,and_true] at hv5
      obtain⟨rfl,-,rfl⟩:=hv5
      obtain⟨g6,cp6,ys,hv6,hgb6,hown,hrows⟩:=zdu HS5.out
      have HROWS:=Lib.hid hrows
      have HCUR:=Lib.hid hcur5
      rw [List.length_cons,hL] at hown
      clear hv6 hrows hcur5
      gi_wp2_with fail
      refine⟨by simp,?_⟩
      gi_wp2_with (first
       | (gi_at_builtin;refine wpListIn_append_own _ rfl _ _ 289 rfl (W.heap.size+1) 103 i0 _ 1 24 Tryz.underlying289 hi0 hz0 hz1 hz2 rfl (by decide) _ _ _ rfl (hown.alloc _) ⟨wr.heap.size+1,0,none⟩ 1 1 [.slice pc e.sub.length cc] rfl rfl ?c4_1 ?c4_2 ?c4_3 ?c4_4 ?c4_5 ?_))
      case c4_1=>rw [show wr.heap.size+1=((wr.setCell ⟨g,L,none⟩ (.slice (some ⟨b,off+6,none⟩) es.length (cy - 1))).alloc (.cells #[.int .i64 e.kind,.string e.name,.string e.more,.int .i64 e.int,.int .i64 e.den,.slice pc e.sub.length cc] 105)).heap.size by simp [World.setCell]];exact zfR _ _ _
      case c4_2=>intro u hu;simp at hu;subst hu;rfl
      case c4_3=>unfold maxLen;omega
      case c4_4=>omega
      case c4_5=>simp;omega
      intro v' w6 hown6 hgrow hne
      have hvn:v' ≠ .slice none 0 0:=hne
      have HST6:=Lib.hid (zeR hL hown6 hvn HROWS.out HSUB.out)
      have HI6:Hid (ItStep (W.heap.size+1) ((wr.setCell ⟨g,L,none⟩ (.slice (some ⟨b,off+6,none⟩) es.length (cy - 1))).alloc (.cells #[.int .i64 e.kind,.string e.name,.string e.more,.int .i64 e.int,.int .i64 e.den,.slice pc e.sub.length cc] 105)) w6):=Lib.hid (((ItStep.refl _ _).alloc hb5 _).grown hgrow hgb5 (by simp;omega) ((Below.heap_alloc _ _ _ (Array.getElem?_eq_some_iff.1 HCUR.out).1).trans HCUR.out))
      have hz6:=HI6.out.others.size
      have HJ6:=Lib.hid (hJ _ _ _ hJ5 (HI6.out.mono (by omega)))
      have HL6:=Lib.hid (HL5.out.step HI6.out HPB.out)
      have hM6:2 * (zaY (e.sub :: es :: st)).length+(e.sub :: es :: st).length<M:=by
       have h1:=HMM.out
       have h2:=congrArg List.length HREL.out
       simp only [List.length_cons] at h1 h2 ⊢
       omega
      have HR6:Hid (zgK (W.heap.size+1) 103 (fun b=>b<lo∨b=W.heap.size) W1 (.mk k nm mr it d sub) J (2 * (zaY (e.sub :: es :: st)).length+(e.sub :: es :: st).length) v' w6):=Lib.hid ⟨vis++[(L+2,e)],pre,_,HST6.out,HJ6.out,HL6.out,by omega,by simp;omega,by
       rw [← HPRE.out,HREL.out];simp,by simp [HVP.out,List.filter_append,zdU,HK.out],rfl⟩
      clear hown hown6 hgrow hne d5
      gi_wp2_with fail
      go_roundw
      case rel=>exact⟨_,HR6.out⟩
      case measure=>
       rw [HMQ.out]
       exact zdE HR6.out hM6
end
section
open Go.RowKit Go.Shelf
attribute [local go_sem] Oper.semAt_some
theorem znV (k:Int) (nm mr:ByteArray) (it d:Int) (p:Option Addr) (len cap:Nat) (w:World) :
  Calls Tryz.prog 233 #[.agg #[.int .i64 k,.string nm,.string mr,.int .i64 it,.int .i64 d,.slice p len cap]] w fun e w'=>
   e = .returned (.func (.func 270) #[] #[.pointer (some ⟨w.heap.size,0,none⟩)])∧w.alloc (.cells #[.int .i64 k,.string nm,.string mr,.int .i64 it,.int .i64 d,.slice p len cap] 105)=w':=by
 go_enter Tryz.func233,Tryz.ntmps233
 go_wp2
 go_ret
 exact⟨rfl,rfl⟩
structure CnFrameM (w:World) (E:Array Value) (T:TypeId) (x:Value) (W:World):Prop where
 e:W.heap[w.heap.size]? = some (.cells E 105 (0,0))
 c:W.heap[w.heap.size+1]? = some (.cells #[x] T (0,0))
 size:w.heap.size+1+1+1≤W.heap.size
 below:Below w.heap.size w W
theorem CnFrameM.grown {w:World} {E:Array Value} {T:TypeId} {x:Value} {A B:World} {row:Option Nat} (h:CnFrameM w E T x A) (hg:A.grownBy B row) (hr:∀ r,row=some r→w.heap.size≤r∧∃ o:Obj,A.heap[r]? = some o∧o.isCells=false):CnFrameM w E T x B:=
 have hr':=fun r e=>(hr r e).2
 ⟨(grownBy_keeps_cells hg hr' h.e rfl).trans h.e,(grownBy_keeps_cells hg hr' h.c rfl).trans h.c,Nat.le_trans h.size hg.size,h.below.trans ((Below.refl _ _).grown hg (by have:=h.size;omega) (fun k e=>(hr k e).1))⟩
theorem CnFrameM.step {w:World} {E:Array Value} {T:TypeId} {x:Value} {A B:World} {base:Nat} (h:CnFrameM w E T x A) (hs:ItStep base A B) (hb:w.heap.size+1+1+1≤base):CnFrameM w E T x B:=
 ⟨(hs.below.block _ (by omega)).trans h.e,(hs.below.block _ (by omega)).trans h.c,Nat.le_trans h.size hs.others.size,h.below.trans (hs.below.mono (by omega))⟩
theorem CnFrameM.set {w:World} {E:Array Value} {T:TypeId} {x:Value} {A:World} (h:CnFrameM w E T x A) (y:Value):CnFrameM w E T y (A.setCell ⟨w.heap.size+1,0,none⟩ y):=
 ⟨(Below.heap_setCell _ _ _ _ (by simp)).trans h.e,one_setCell h.c,by simpa [World.setCell] using h.size,h.below.setCell (p:=⟨w.heap.size+1,0,none⟩) (by simp) _⟩
theorem zzW (w:World) (t1 T:TypeId) (E:Array Value) (x:Value) (V:World) (hV:((w.alloc (.cells E t1)).alloc (.cells #[x] T)).alloc (.cells E t1)=V) (h1:t1=105:=by rfl) :
  CnFrameM w E T x V∧V.heap[w.heap.size+1+1]? = some (.cells E t1 (0,0))∧V.heap.size=w.heap.size+1+1+1:=by
 subst h1
 have q1:=World.alloc_heap_new w (.cells E 105)
 have q2:=World.alloc_heap_new (w.alloc (.cells E 105)) (.cells #[x] T)
 have q3:=World.alloc_heap_new ((w.alloc (.cells E 105)).alloc (.cells #[x] T)) (.cells E 105)
 simp only [World.size_alloc] at q2 q3
 rw [hV] at q3
 refine⟨⟨?_,?_,?_,?_⟩,q3,?_⟩ <;> rw [← hV]
 ·exact(Below.heap_alloc _ _ _ (by simp <;> omega)).trans ((Below.heap_alloc _ _ _ (by simp)).trans q1)
 ·exact(Below.heap_alloc _ _ _ (by simp)).trans q2
 ·simp
 ·exact(((Below.refl _ w).alloc (Nat.le_refl _) _).alloc (by simp) _).alloc (by simp;omega) _
 ·simp
def Cn1 (w:World) (E:Array Value) (pre:List (ItN)) (W:World):Prop:=CnFrameM w E 3 (.int .i64 pre.length) W
def zGq (_:Code) (_:List (ItN)) (_:World):Prop:=False
theorem zEv (w:World) (E:Array Value) (B:Nat) (hB:w.heap.size≤B):OwnFrom B (Cn1 w E):=fun _ _ _ _ hs hg hr=>CnFrameM.grown hs hg (fun r e=>⟨by have:=(hr r e).1;omega,(hr r e).2⟩)
theorem zCl (c:Code) (B:Nat):OwnFrom B (zGq c):=fun _ _ _ _ hs _ _=>hs
theorem zox {t:Ex} {xs:List ItN} (h:zmv t xs):xs.length=confE t:=by
 have:=congrArg List.length (show _=_ from h)
 rw [List.length_map,zqy] at this;exact this
theorem znW (k:Int) (nm mr:ByteArray) (it d:Int) (sub:List Ex) (sv:Value) (w:World) (hm:nodesL sub≤1048576) (hs:zbb w w.heap.size sub sv) :
  Calls Tryz.prog 161 #[.agg #[.int .i64 k,.string nm,.string mr,.int .i64 it,.int .i64 d,sv]] w fun e w'=>e = .returned (.int .i64 (confE (.mk k nm mr it d sub)))∧Below w.heap.size w w':=by
 obtain⟨p,cap,rfl,hcap,_⟩:=zcE hs
 refine(callsIn_wide (n:=4)).1 ?_
 refine callsIn_of_wp_marks Tryz.func161 rfl trivial ?_ rfl
 simp only [Tryz.ntmps161,List.size_toArray,List.length_cons,List.length_nil,Nat.reduceAdd,Nat.reduceSub,Array.replicate_succ,Array.replicate_zero,List.push_toArray,List.append_toArray,List.nil_append,List.cons_append]
 gi_wp2_with (first | (refine⟨trivial,?_⟩;gi_at_call 233;refine(callsIn_wide.2 (znV _ _ _ _ _ _ _ _ _)).mono ?_;rintro e w' ⟨rfl,rfl⟩))
 have HS:=Lib.hid hs
 obtain⟨V,hV⟩:∃ V,(((w.alloc (Obj.cells #[.int .i64 k,.string nm,.string mr,.int .i64 it,.int .i64 d,.slice p sub.length cap] 105)).alloc (Obj.cells #[Value.int IntKind.i64 0] 3)).alloc (Obj.cells #[.int .i64 k,.string nm,.string mr,.int .i64 it,.int .i64 d,.slice p sub.length cap] 105))=V:=⟨_,rfl⟩
 obtain⟨hF,hb4,hz⟩:=zzW w 105 3 #[.int .i64 k,.string nm,.string mr,.int .i64 it,.int .i64 d,.slice p sub.length cap] (.int .i64 0) V hV
 rw [hV]
 clear hV hs
 refine zbA (P:=Tryz.prog) (F:=Fence.wide) (n:=4) rfl (by omega) (gf:=270) (lb:=#[.pointer (some ⟨w.heap.size+1+1,0,none⟩)]) rfl trivial (enters_of Tryz.func270 (by kernel_rfl) rfl)
  (encs:=fun x:ItN=>#[ziZ x]) (Kp:=KeepOut w.heap.size (w.heap.size+1+1)) (R:=ItStep (V.heap.size+1+1)) (X:=fun pre _=>pre.length≤1048577)
  (S:=zmv (.mk k nm mr it d sub)) (Sp:=zyj (.mk k nm mr it d sub))
  (fun r l J Jx hJ _ hY hJ0=>zCi 3 l (w.heap.size+1+1) w.heap.size (w.heap.size+1+1) (by omega) k nm mr it d sub p cap _ (zlc HS.out ((hF.below.alloc (by omega) _).alloc (by simp;omega) _) (Nat.le_refl _)) (by omega) (Nat.le_refl _)
   ((Below.heap_alloc _ _ _ (by simp;omega)).trans ((Below.heap_alloc _ _ _ (by omega)).trans hb4)) hm J Jx (fun pre A B h1 h2=>hJ pre A B h1 (by simpa using h2)) hY hJ0)
  (fun h1 h2=>h1.trans h2) (fun W l o o' _ hl ho=>KeepOut.putObj W l o o' hl ho) (fun h=>h.others.from _) (fun _=>rfl)
  (Cn1 w #[.int .i64 k,.string nm,.string mr,.int .i64 it,.int .i64 d,.slice p sub.length cap]) zGq (zEv w _ _ (by omega)) (fun c=>zCl c _)
  (fun pre A B h hs=>CnFrameM.step h hs (by omega)) (fun c pre A B h hs=>h) hF
  (fun x=>{ tmps:=#[Value.agg #[.int .i64 k,.string nm,.string mr,.int .i64 it,.int .i64 d,.slice p sub.length cap],Value.pointer (some { block:=w.heap.size,off:=0 }),Value.int .i64 0,Value.pointer (some { block:=w.heap.size+1,off:=0 }),
        Value.agg #[.int .i64 k,.string nm,.string mr,.int .i64 it,.int .i64 d,.slice p sub.length cap],Value.func (Fn.func 270) #[] #[Value.pointer (some { block:=w.heap.size+1+1,off:=0 })],ziZ x,undef,undef,undef],defers:=[] }) ?assign ?body ?done ?stop
 case assign=>
  intro l x W K hK
  gi_wp2
  simpa using hK
 case body=>
  rintro l pre x W hI hX
  have c0:=cell_of_one hI.c
  have f0:=free_of_one hI.c
  have HI:=Lib.hid hI
  clear hI
  have hsz:=HI.out.size
  gi_wp2_with fail
  have hF':=HI.out.set (.int .i64 ((pre.length:Int)+1))
  refine⟨(KeepsOthers.setCell _ _ _).from _,(KeepOut.below (Below.refl _ _)).setCell (p:=⟨w.heap.size+1,0,none⟩) (by simp) _,?_⟩
  have e1:((pre++[x]).length:Int)=(pre.length:Int)+1:=by simp
  unfold Cn1
  rw [e1];exact hF'
 case done=>
  rintro D xs W hD hS hI hK
  have hl:=zox hS
  have c0:=cell_of_one hI.c
  have HL:=Lib.hid hl
  have HI:=Lib.hid hI
  clear hl hI hS
  gi_wp2_with fail
  refine⟨by simp,.inl ⟨_,_,rfl,run_takeDeferred hK,?_⟩⟩
  refine⟨.int .i64 xs.length,?_,zk (a:=xs.length) (by rw [HL.out]),HI.out.below.trans (belowK_b (w:=w) (Nat.le_refl _) W D _ _ (by omega) hK rfl rfl)⟩
  simp [results,Tryz.f161,go_sem]
 case stop=>
  rintro D c pre W hD hpre hf hK
  exact hf.elim
end
section
open Go Go.RowKit
theorem zpp {a:Ex} {xa:XV} {w:World} (ha:XAt w a xa) (hsz:nodesE a≤1048576) :
  Calls Tryz.prog 161 #[.agg xa.arr] w fun e w'=>e = .returned (.int .i64 (confE a))∧Below w.heap.size w w':=by
 obtain⟨ea,ha⟩:=ziY ha
 rw [ea]
 rw [zcs] at hsz
 have h:=znW a.kind a.name a.more a.int a.den a.sub _ w (by omega) ha
 rw [Ex.eta] at h
 exact h
theorem zio (a:Ex) (hsz:nodesE a≤1048576):Con Tryz.prog 161 [avE a] (.d (.raw (.int .i64 (confE a)))):=zoz ⟨_,Tryz.func161,by decide +kernel,rfl⟩ fun _ _ hx=>zpp hx hsz
end
section
open Go Go.RowKit
def zfb:Ex:=.mk 0 ⟨#[]⟩ ⟨#[]⟩ 0 0 []
mutual
/-- the conflict of number j settled by a side, and what is left of j -/
def zcf (side:Nat):Ex→Int→Ex × Int
 | .mk k n m i d s,j=>if k=15 then (if j=0 then (s.getD side zfb,-1) else (.mk k n m i d (zP side s (j - 1)).1,(zP side s (j - 1)).2)) else (.mk k n m i d (zP side s j).1,(zP side s j).2)
def zP (side:Nat):List Ex→Int→List Ex × Int
 | [],j=>([],j)
 | e :: es,j=>if j<0 then (e :: es,j) else ((zcf side e j).1 :: (zP side es (zcf side e j).2).1,(zP side es (zcf side e j).2).2)
end
theorem zdz (side:Nat) (l:List Ex) {j:Int} (h:j<0):zP side l j=(l,j):=by
 cases l with
 | nil=>rw [zP]
 | cons e es=>rw [zP,if_pos h]
theorem zeX (side:Nat):∀ (a b:List Ex) (j:Int),zP side (a++b) j=((zP side a j).1++(zP side b (zP side a j).2).1,(zP side b (zP side a j).2).2)
 | [],b,j=>by simp [zP]
 | e :: es,b,j=>by
  by_cases h:j<0
  ·rw [zdz side _ h,zdz side _ h,zdz side b h]
  ·rw [List.cons_append,zP,if_neg h,zP,if_neg h,zeX side es b];rfl
theorem zdA (side:Nat):∀ (a:List Ex) (j:Int),(zP side a j).1.length=a.length
 | [],j=>by rw [zP]
 | e :: es,j=>by
  by_cases h:j<0
  ·rw [zdz side _ h]
  ·rw [zP,if_neg h];simp [zdA side es]
theorem zcl (side:Nat) (l:List Ex) (i:Nat) (h:i<l.length) (j:Int) (hn:¬ (zP side (l.take i) j).2<0) :
  zP side (l.take (i+1)) j=((zP side (l.take i) j).1++[(zcf side l[i] (zP side (l.take i) j).2).1],(zcf side l[i] (zP side (l.take i) j).2).2):=by
 rw [List.take_succ_eq_append_getElem h,zeX]
 rw [zP,if_neg hn,zP]
theorem zpT (side:Nat) (l:List Ex) (i:Nat) (j:Int) (hn:(zP side (l.take i) j).2<0):zP side l j=((zP side (l.take i) j).1++l.drop i,(zP side (l.take i) j).2):=by
 have h:=zeX side (l.take i) (l.drop i) j
 rw [List.take_append_drop,zdz side (l.drop i) hn] at h
 exact h
mutual
theorem znL (side:Nat):∀ (t:Ex) (j:Int),0≤j→(zcf side t j).2=if j<confE t then -1 else j - confE t
 | .mk k n m i d s,j,h=>by
  rw [zcf,confE]
  by_cases hk:k=15
  ·rw [if_pos hk,if_pos hk]
   by_cases h0:j=0
   ·rw [if_pos h0,if_pos (by omega)]
   ·rw [if_neg h0]
    simp only []
    rw [zeB side s (j - 1) (by omega)]
    split <;> split <;> omega
  ·rw [if_neg hk,if_neg hk]
   simp only []
   rw [zeB side s j h]
   split <;> split <;> omega
theorem zeB (side:Nat):∀ (l:List Ex) (j:Int),0≤j→(zP side l j).2=if j<confL l then -1 else j - confL l
 | [],j,h=>by
  have e:confL []=0:=by rw [confL]
  rw [zP,e,if_neg (by omega)]
  show j=j - 0
  omega
 | e :: es,j,h=>by
  have e1:confL (e :: es)=confE e+confL es:=by rw [confL]
  rw [zP,if_neg (by omega),e1]
  have h1:=znL side e j h
  by_cases hc:j<confE e
  ·rw [if_pos hc] at h1
   rw [h1,zdz side es (by omega),if_pos (by omega)]
  ·rw [if_neg hc] at h1
   rw [h1,zeB side es _ (by omega)]
   split <;> split <;> omega
end
theorem ztA (side:Nat) (l:List Ex) (j:Int) (h:0≤j):-1≤(zP side l j).2∧(zP side l j).2≤j:=by
 rw [zeB side l j h];split <;> omega
mutual
def zgL:Ex→Bool
 | .mk k _ _ _ _ s=>(decide (k≠15) || decide (s.length=3)) && zmE s
def zmE:List Ex→Bool
 | []=>true
 | e :: es=>zgL e && zmE es
end
theorem zfq:∀ {l:List Ex} (i:Nat) (h:i<l.length),zmE l=true→zgL l[i]=true
 | e :: es,0,_,h=>by simp only [zmE,Bool.and_eq_true] at h;simpa using h.1
 | e :: es,i+1,hi,h=>by
  simp only [zmE,Bool.and_eq_true] at h
  simpa using zfq i (by simpa using hi) h.2
abbrev zoV (k:Int) (n m:ByteArray) (i d:Int) (s:List Ex) (side:Nat) (j:Int) (q:Nat):St:=
 ⟨[(1,.d (.raw (.int .i64 (zP side (s.take q) j).2))),(2,.d (.raw (.int .i64 side))),(3,.box 0 0),(6,.box 1 0),(8,.own 5003 s.length),(9,.d (.raw (.int .i64 q)))],
  [(0,some (.cell 105 [.d (.raw (.int .i64 k)),.d (.raw (.string n)),.d (.raw (.string m)),.d (.raw (.int .i64 i)),.d (.raw (.int .i64 d)),.d (.sl (zaz s))])),(1,some (.cell 105 [.d (.raw (.int .i64 0)),.d (.raw (.string ⟨#[]⟩)),.d (.raw (.string ⟨#[]⟩)),.d (.raw (.int .i64 0)),.d (.raw (.int .i64 0)),.d (.raw (.slice none 0 0))])),(5003,some (.row 6 105 (zaz ((zP side (s.take q) j).1++s.drop q))))],[]⟩
theorem zmo (side:Nat) (s:List Ex) (j:Int) (q:Nat) (h:q<s.length):(zaz ((zP side (s.take q) j).1++s.drop q)).getD q []=[.raw (.int .i64 s[q].kind),.raw (.string s[q].name),.raw (.string s[q].more),.raw (.int .i64 s[q].int),.raw (.int .i64 s[q].den),.sl (zaz s[q].sub)]:=by
 have hl:(zP side (s.take q) j).1.length=q:=by rw [zdA];simp;omega
 have hq:q<((zP side (s.take q) j).1++s.drop q).length:=by simp;omega
 rw [zap _ q hq]
 have e:((zP side (s.take q) j).1++s.drop q)[q]=s[q]:=by
  rw [List.getElem_append_right (by omega)]
  simp [hl]
 rw [e]
theorem zxA (side:Nat) (s:List Ex) (j:Int) (q:Nat) (h:q<s.length) (hn:¬ (zP side (s.take q) j).2<0) (t:Ex) (ht:t=(zcf side s[q] (zP side (s.take q) j).2).1) :
  (zaz ((zP side (s.take q) j).1++s.drop q)).set q [.raw (.int .i64 t.kind),.raw (.string t.name),.raw (.string t.more),.raw (.int .i64 t.int),.raw (.int .i64 t.den),.sl (zaz t.sub)]=zaz ((zP side (s.take (q+1)) j).1++s.drop (q+1)):=by
 rw [← zbP,zCc,zcl side s q h j hn,ht]
 have hl:(zP side (s.take q) j).1.length=q:=by rw [zdA];simp;omega
 congr 1
 rw [List.set_append_right _ _ (by omega),hl,Nat.sub_self,List.drop_eq_getElem_cons h,List.set_cons_zero]
 simp
theorem zxB (side:Nat) (s:List Ex) (j:Int) (q:Nat) (h:q≤s.length):(zaz ((zP side (s.take q) j).1++s.drop q)).length=s.length:=by
 rw [zg,List.length_append,zdA];simp;omega
theorem settleOne_step (N:Nat) (side:Nat) (hs:side≤2)
  (ih:∀ (t:Ex) (j:Int),nodesE t<N→nodesE t≤1048576→0≤j→j≤1048576→zgL t=true→Con Tryz.prog 234 [avE t,.d (.raw (.int .i64 j)),.d (.raw (.int .i64 side))] (.tup [avE (zcf side t j).1,.d (.raw (.int .i64 (zcf side t j).2))]))
  (k:Int) (n m:ByteArray) (i d:Int) (s:List Ex) (j:Int) (hN:nodesE (.mk k n m i d s)<N+1) (hb:nodesE (.mk k n m i d s)≤1048576) (hj:0≤j) (hj2:j≤1048576) (hsum:zgL (.mk k n m i d s)=true) :
  Con Tryz.prog 234 [avE (.mk k n m i d s),.d (.raw (.int .i64 j)),.d (.raw (.int .i64 side))] (.tup [avE (zcf side (.mk k n m i d s) j).1,.d (.raw (.int .i64 (zcf side (.mk k n m i d s) j).2))]):=by
 rw [nodesE] at hN hb
 have hlen:=zC s
 simp only [zgL,Bool.and_eq_true,Bool.or_eq_true,decide_eq_true_eq] at hsum
 refine zh Tryz.func234 rfl (by decide +kernel) (by simp only [AV.closed,zt,avE,zU,Bool.and_self]) (by simp only [AV.closed,zt,avE,zU,Bool.and_self]) (by simp [Tryz.ntmps234]) fun A hA=>?_
 rw [Tryz.ntmps234] at hA
 refine goC 300 ?_
 simp only [go_sem,hA,avE,zaZ]
 refine zFA (fun hk=>?_) (fun hk=>?_)
 rotate_left
 all_goals simp only [decide_eq_true_eq,decide_eq_false_iff_not] at hk
 ·obtain⟨j',hj',hj2',hone⟩:∃ j':Int,0≤j'∧j'≤1048576∧zcf side (.mk k n m i d s) j=(.mk k n m i d (zP side s j').1,(zP side s j').2)∧j'=j:=⟨j,hj,hj2,by rw [zcf,if_neg hk],rfl⟩
  obtain⟨hone,rfl⟩:=hone
  simp only [go_sem,hA,Int.toNat_natCast,zg]
  refine⟨⟨by omega,by omega,by omega⟩,⟨by simp,zht s⟩,?_⟩
  refine zd [1,2,3,6,8,9] [0,1,5003] [] (fun x σ=>∃ q:Nat,q≤s.length∧x=s.length - q∧σ=zoV k n m i d s side j' q) s.length ⟨0,by omega,by omega,by simp only [go_sem,zoV,List.take_zero,List.drop_zero,zP]⟩ ?_
  rintro x σ ⟨q,hq,rfl,rfl⟩
  refine goC 300 ?_
  have hlow:=ztA side (s.take q) j' hj'
  have hlen2:=zxB side s j' q hq
  by_cases hlt:q<s.length
  ·have h1:decide ((q:Int)<(s.length:Int))=true:=by simpa using hlt
   by_cases hneg:(zP side (s.take q) j').2<0
   ·have h2:decide (0≤(zP side (s.take q) j').2)=false:=by simpa using hneg
    have h3:=zpT side s q j' hneg
    simp only [go_sem,hA,zoV,h1,h2,Tryz.results234,hlen2,hone,h3,zaZ]
   ·have h2:decide (0≤(zP side (s.take q) j').2)=true:=by simp;omega
    have hn1:=zam s q hlt
    simp only [go_sem,hA,zoV,h1,h2,Int.toNat_natCast,zg,zmo side s j' q hlt]
    refine⟨⟨by omega,by omega⟩,by rw [zg] at hlen2;omega,zb 200 (ih s[q] (zP side (s.take q) j').2 (by omega) (by omega) (by omega) (by omega) (zfq q hlt hsum.2)) rfl (by simp only [go_sem,zl]) (by simp only [go_sem,hA]) ?_⟩
    have hst:=zxA side s j' q hlt hneg _ rfl
    have htk:=zcl side s q hlt j' hneg
    simp only [go_sem,hA,zl,Int.toNat_natCast,zg,zmo side s j' q hlt,hst]
    refine⟨⟨by omega,by omega⟩,by rw [zg] at hlen2;omega,⟨by omega,by omega⟩,?_⟩
    exact⟨s.length - (q+1),by omega,q+1,by omega,rfl,by simp only [go_sem,htk];rfl⟩
  ·have h1:decide ((q:Int)<(s.length:Int))=false:=by simp;omega
   obtain rfl:q=s.length:=by omega
   have h3:zP side s j'=((zP side (s.take s.length) j').1++s.drop s.length,(zP side (s.take s.length) j').2):=by simp
   simp only [go_sem,hA,zoV,h1,Tryz.results234,hlen2,hone,h3,zaZ]
 ·subst hk
  have h3:s.length=3:=by rcases hsum.1 with h | h;exact absurd rfl h;exact h
  have hlt:side<s.length:=by omega
  simp only [go_sem,hA]
  refine zFA (fun hk=>?_) (fun hk=>?_)
  ·simp only [decide_eq_true_eq] at hk
   subst hk
   simp only [go_sem,hA,Int.toNat_natCast,zg,zap s side hlt]
   refine⟨⟨by omega,by omega⟩,?_⟩
   rw [zcf,if_pos rfl,if_pos rfl]
   have e:s.getD side zfb=s[side]:=by simp [List.getD_eq_getElem?_getD,hlt]
   rw [e,zbP]
   rfl
  ·simp only [decide_eq_false_iff_not] at hk
   obtain⟨j',hj',hj2',hone⟩:∃ j':Int,0≤j'∧j'≤1048576∧zcf side (.mk 15 n m i d s) j=(.mk 15 n m i d (zP side s j').1,(zP side s j').2)∧j - 1=j':=⟨j - 1,by omega,by omega,by rw [zcf,if_pos rfl,if_neg hk],rfl⟩
   obtain⟨hone,hjj⟩:=hone
   simp only [go_sem,hA,Int.toNat_natCast,zg,hjj]
   refine⟨by unfold zc;omega,⟨by omega,by omega,by omega⟩,⟨by simp,zht s⟩,?_⟩
   refine zd [1,2,3,6,8,9] [0,1,5003] [] (fun x σ=>∃ q:Nat,q≤s.length∧x=s.length - q∧σ=zoV 15 n m i d s side j' q) s.length ⟨0,by omega,by omega,by simp only [go_sem,zoV,List.take_zero,List.drop_zero,zP]⟩ ?_
   rintro x σ ⟨q,hq,rfl,rfl⟩
   refine goC 300 ?_
   have hlow:=ztA side (s.take q) j' hj'
   have hlen2:=zxB side s j' q hq
   by_cases hlt:q<s.length
   ·have h1:decide ((q:Int)<(s.length:Int))=true:=by simpa using hlt
    by_cases hneg:(zP side (s.take q) j').2<0
    ·have h2:decide (0≤(zP side (s.take q) j').2)=false:=by simpa using hneg
     have h3:=zpT side s q j' hneg
     simp only [go_sem,hA,zoV,h1,h2,Tryz.results234,hlen2,hone,h3,zaZ]
    ·have h2:decide (0≤(zP side (s.take q) j').2)=true:=by simp;omega
     have hn1:=zam s q hlt
     simp only [go_sem,hA,zoV,h1,h2,Int.toNat_natCast,zg,zmo side s j' q hlt]
     refine⟨⟨by omega,by omega⟩,by rw [zg] at hlen2;omega,zb 200 (ih s[q] (zP side (s.take q) j').2 (by omega) (by omega) (by omega) (by omega) (zfq q hlt hsum.2)) rfl (by simp only [go_sem,zl]) (by simp only [go_sem,hA]) ?_⟩
     have hst:=zxA side s j' q hlt hneg _ rfl
     have htk:=zcl side s q hlt j' hneg
     simp only [go_sem,hA,zl,Int.toNat_natCast,zg,zmo side s j' q hlt,hst]
     refine⟨⟨by omega,by omega⟩,by rw [zg] at hlen2;omega,⟨by omega,by omega⟩,?_⟩
     exact⟨s.length - (q+1),by omega,q+1,by omega,rfl,by simp only [go_sem,htk];rfl⟩
   ·have h1:decide ((q:Int)<(s.length:Int))=false:=by simp;omega
    obtain rfl:q=s.length:=by omega
    have h3:zP side s j'=((zP side (s.take s.length) j').1++s.drop s.length,(zP side (s.take s.length) j').2):=by simp
    simp only [go_sem,hA,zoV,h1,Tryz.results234,hlen2,hone,h3,zaZ]
theorem zoX (side:Nat) (hs:side≤2) (N:Nat):∀ (t:Ex) (j:Int),nodesE t<N→nodesE t≤1048576→0≤j→j≤1048576→zgL t=true→Con Tryz.prog 234 [avE t,.d (.raw (.int .i64 j)),.d (.raw (.int .i64 side))] (.tup [avE (zcf side t j).1,.d (.raw (.int .i64 (zcf side t j).2))]):=by
 induction N with
 | zero=>intro t j h;omega
 | succ N ih=>intro t j h hb hj hj2 hsum;cases t;exact settleOne_step N side hs ih _ _ _ _ _ _ j h hb hj hj2 hsum
mutual
theorem zmF:∀ t:Ex,zaj t=0→zgL t=true
 | .mk k n m i d s,h=>by
  rw [zaj] at h
  split at h
  ·rename_i hn
   rw [zgL,zsw s h,Bool.and_true,Bool.or_eq_true]
   by_cases hk:k=15
   ·right
    subst hk
    simp only [decide_eq_true_eq]
    by_cases h3:s.length=3
    ·exact h3
    ·exfalso
     have hsh:zaU 15=some (0,0,3):=rfl
     rw [zG hsh (by simp [zaJ,h3])] at hn
     cases hn
   ·left;simpa using hk
  ·exact absurd h (by assumption)
theorem zsw:∀ l:List Ex,zad l=0→zmE l=true
 | [],_=>rfl
 | e :: es,h=>by
  rw [zad] at h
  split at h
  ·rename_i he
   rw [zmE,zmF e he,zsw es h];rfl
  ·exact absurd h (by assumption)
end
theorem zfQ {t:Ex} (h:zB t=0):nodesE t≤400∧depthE t≤40∧zaj t=0:=by
 unfold zB at h
 split at h
 ·cases h
 ·exact⟨by omega,by omega,h⟩
mutual
theorem zbI:∀ t:Ex,confE t≤nodesE t
 | .mk k n m i d s=>by have:=zhw s;rw [confE,nodesE];split <;> omega
theorem zhw:∀ l:List Ex,confL l≤nodesL l
 | []=>by rw [confL,nodesL];omega
 | e :: es=>by have:=zbI e;have:=zhw es;rw [confL,nodesL];omega
end
def zbf (t:Ex) (i side:Int):Ex × Int:=if zB t=0 then (if side<0∨2<side∨i<0∨(confE t:Int)≤i then (zfb,2) else ((zcf side.toNat t i).1,0)) else (zfb,zB t)
theorem zzP (t:Ex) (i side:Int) (hb:nodesE t≤1048576):Con Tryz.prog 162 [avE t,.d (.raw (.int .i64 i)),.d (.raw (.int .i64 side))] (.tup [avE (zbf t i side).1,.d (.raw (.int .i64 (zbf t i side).2))]):=by
 refine zh Tryz.func162 rfl (by decide +kernel) (by simp only [AV.closed,zt,avE,zU,Bool.and_self]) (by simp only [AV.closed,zt,avE,zU,Bool.and_self]) (by simp [Tryz.ntmps162]) fun A hA=>?_
 rw [Tryz.ntmps162] at hA
 refine goC 300 ?_
 simp only [go_sem,hA,zl]
 refine zb 300 (zcr t hb) rfl (by simp only [go_sem,zl]) (by simp only [go_sem,hA]) ?_
 simp only [go_sem,hA]
 refine zFA (fun hk=>?_) (fun hk=>?_)
 all_goals simp only [decide_eq_true_eq,decide_eq_false_iff_not] at hk
 ·simp only [go_sem,hA,Tryz.results162]
  rw [zbf,if_neg hk]
  rfl
 ·have hk0:zB t=0:=by omega
  by_cases h1:side<0
  ·simp only [go_sem,hA,h1,Tryz.results162]
   rw [zbf,if_pos hk0,if_pos (.inl h1)]
   rfl
  ·by_cases h2:2<side
   ·simp only [go_sem,hA,h1,h2,Tryz.results162]
    rw [zbf,if_pos hk0,if_pos (.inr (.inl h2))]
    rfl
   ·by_cases h3:i<0
    ·simp only [go_sem,hA,h1,h2,h3,Tryz.results162]
     rw [zbf,if_pos hk0,if_pos (.inr (.inr (.inl h3)))]
     rfl
    ·obtain⟨s,rfl⟩:∃ s:Nat,side=s:=⟨side.toNat,by omega⟩
     simp only [go_sem,hA,h1,h2,h3]
     refine zb 300 (zio t hb) rfl (by simp only [go_sem,zl]) (by simp only [go_sem,hA]) ?_
     by_cases h4:(confE t:Int)≤i
     ·simp only [go_sem,hA,h4,Tryz.results162]
      rw [zbf,if_pos hk0,if_pos (.inr (.inr (.inr h4)))]
      rfl
     ·simp only [go_sem,hA,h4]
      have h5:=zbI t
      refine zb 200 (zoX s (by omega) (nodesE t+1) t i (by omega) hb (by omega) (by omega) (zmF t (zfQ hk0).2.2)) rfl (by simp only [go_sem,zl]) (by simp only [go_sem,hA]) ?_
      simp only [go_sem,hA,zl,Tryz.results162]
      rw [zbf,if_pos hk0,if_neg (by omega),Int.toNat_natCast]
end
end Go.Proofs.YtpnjjmcimjlfkaaGreatDoor
