/- Texts of this proof, part 15: what the proof uses of them. -/
import Derived.Test.YtpnjjmcimjlfkaaGreatDoorDan
import Derived.Test.YtpnjjmcimjlfkaaGreatDoorDam
import Derived.WalkKit
set_option maxRecDepth 100000
set_option maxHeartbeats 64000000
namespace Go.Proofs.YtpnjjmcimjlfkaaGreatDoor
section
open Go Go.RowKit
def zet (t:Ex):List ByteArray:=if zB t=0 then zcz (zbS t [] []) else []
mutual
theorem zlO:∀ (t:Ex) (bd fs:List ByteArray),(zbS t bd fs).length≤fs.length+nodesE t
 | .mk k n m i d s,bd,fs=>by
  rw [zbS,nodesE]
  have h:=zlM k n m 0 s bd fs
  split
  ·split
   ·omega
   ·unfold zeN
    split
    ·omega
    ·simp
  ·omega
theorem zlM (k:Int) (n m:ByteArray):∀ (i:Nat) (s:List Ex) (bd fs:List ByteArray),(zei k n m i s bd fs).length≤fs.length+nodesL s
 | i,[],bd,fs=>by simp [zei]
 | i,e :: es,bd,fs=>by
  rw [zei,nodesL]
  have h1:=zlO e (zah k n m i bd) fs
  have h2:=zlM k n m (i+1) es bd (zbS e (zah k n m i bd) fs)
  omega
end
def zrJ (fs:List ByteArray) (seen:List Nat):List ByteArray:=seen.map fun j=>atB fs j
theorem zmO {a b:List ByteArray} (h:a.Perm b):zcz a=zcz b:=by
 unfold zcz
 congr 1
 have hp:((a.map fun s=>s.data.toList).mergeSort fun x y=>decide (x≤y)).Perm ((b.map fun s=>s.data.toList).mergeSort fun x y=>decide (x≤y)):=
  (List.mergeSort_perm _ _).trans ((h.map _).trans (List.mergeSort_perm _ _).symm)
 have hs:∀ l:List (List UInt8),(l.mergeSort fun x y=>decide (x≤y)).Pairwise fun x y=>decide (x≤y)=true:=fun l=>
  List.pairwise_mergeSort (fun a b c h1 h2=>by
   simp only [decide_eq_true_eq] at h1 h2 ⊢
   exact List.le_trans h1 h2) (fun a b=>by
   simp only [Bool.or_eq_true,decide_eq_true_eq]
   exact List.le_total a b) l
 refine List.Perm.eq_of_pairwise (fun x y _ _ h1 h2=>?_) (hs _) (hs _) hp
 simp only [decide_eq_true_eq] at h1 h2
 exact List.le_antisymm h1 h2
theorem zBt {fs:List ByteArray} {seen:List Nat} (hn:seen.Nodup) (hl:∀ j ∈ seen,j<fs.length) (ha:∀ j,j<fs.length→j ∈ seen):(zrJ fs seen).Perm fs:=by
 have hp:seen.Perm (List.range fs.length):=(List.perm_ext_iff_of_nodup hn List.nodup_range).2 fun j=>by
  rw [List.mem_range]
  exact⟨hl j,ha j⟩
 have h1:((List.range fs.length).map fun j=>atB fs j)=fs:=by
  apply List.ext_getElem
  ·simp
  ·intro i h1 h2
   simp [atB,h2]
 have h2:=hp.map fun j=>atB fs j
 rw [h1] at h2
 exact h2
abbrev zBT (fs:List ByteArray) (seen:List Nat):St:=⟨[(3,.mp 3000),(4,.grow 5002 (zv (zrJ fs seen))),(17,.box 6001 0)],[(3000,some (.map none (zax fs) (zar fs))),(6001,some (.iter 3000 (zax fs).length seen))],[(5002,some ⟨1,9,(zrJ fs seen).length,none⟩)]⟩
theorem zDC (t:Ex) (hb:nodesE t≤524288) (hok:zB t=0→zmP t=true):Con Tryz.prog 140 [avE t] (.d (.sl (zv (zet t)))):=by
 have cc:=zcr t (by omega)
 refine zh Tryz.func140 rfl (by decide +kernel) rfl (by simp only [AV.closed,zt,avE,zU,Bool.and_self]) (by simp [Tryz.ntmps140]) fun A hA=>?_
 rw [Tryz.ntmps140] at hA
 refine goC 300 ?_
 simp only [go_sem,hA,zl]
 refine zb 300 cc rfl (by simp only [go_sem,zl]) (by simp only [go_sem,hA]) ?_
 by_cases h:zB t=0
 ·have g0:(decide ¬ zB t=0)=false:=by simpa using h
  have hx:zet t=zcz (zbS t [] []):=if_pos h
  have ca:=zAh (nodesE t+1) t [] [] (by omega) (by simp;omega) (hok h)
  simp only [go_sem,hA,g0]
  refine zjJ 8 (args:=[.tmp 10,.const (.slice none 0 0)]) (m:=.tmp 11) ca rfl rfl rfl rfl rfl rfl (zau _) (by simp only [go_sem,zl];rfl) (by simp only [go_sem,hA]) ?_
  simp only [go_sem,hA]
  obtain⟨fs,hfs⟩:∃ fs,zbS t [] []=fs:=⟨_,rfl⟩
  have hfl:fs.length≤524288:=by rw [← hfs];have:=zlO t [] [];simp at this;omega
  rw [hfs] at hx ⊢
  have hkl:(zax fs).length=fs.length:=by simp [zax]
  refine ziR 0 (by simp only [go_sem]) (ztu (kt:=9) (et:=4) rfl (by kernel_rfl) rfl rfl) (by simp only [go_sem,hA]) ?_
  show zcy _ _ _ _ _ _
  simp only [go_sem,hkl]
  have hby16:Tryz.prog.bytesOf 9=16:=by kernel_rfl
  refine ziR 300 (by simp only [go_sem]) (zrz (n:=fs.length) (z:=.string ⟨#[]⟩) (e:=9) (by rfl) (by kernel_rfl) (by kernel_rfl) (by kernel_rfl) (by rfl) (by rfl) (by rw [hby16];omega) (by unfold maxLen;omega) (St.free_of (r:=5002) (by simp only [go_sem,zH]))) (by simp only [go_sem,hA]) ?_
  simp only [go_sem,hA,zH]
  refine zd [3,4,17] [3000,6001] [5002] (fun y σ=>∃ seen:List Nat,seen.Nodup∧(∀ j ∈ seen,j<fs.length)∧y=fs.length - seen.length∧σ=zBT fs seen) fs.length ⟨[],List.nodup_nil,(fun j hj=>by cases hj),rfl,by simp only [go_sem,zBT];rfl⟩ ?_
  rintro y σ ⟨seen,hnd,hlt,rfl,rfl⟩
  have hsl:seen.length≤fs.length:=by
   have:=List.Nodup.length_le_of_subset hnd (l₂:=List.range fs.length) (fun j hj=>List.mem_range.2 (hlt j hj))
   simpa using this
  have hml:(zrJ fs seen).length=seen.length:=by simp [zrJ]
  refine goC 300 ?_
  simp only [go_sem,zBT]
  refine zFy 6 rfl rfl rfl rfl rfl (by simp only [go_sem,hA]) (fun hall=>?_) (fun j hj hj' hns=>?_)
  ·simp only [go_sem,hA]
   refine goC 300 ?_
   simp only [go_sem,hA]
   refine zFx 4 (zrJ fs seen) 300 rfl rfl rfl rfl rfl rfl rfl (by omega) (by simp only [go_sem,hA]) (by decide) ?_
   rw [hx,← zmO (zBt hnd hlt fun j hj=>hall j (by rw [hkl];exact hj))]
   simp only [go_sem,hA,Tryz.results140]
  ·simp only [go_sem,hA]
   refine goC 8 ?_
   simp only [go_sem]
   refine ziR 300 (by simp only [go_sem]) (zvZ (j:=j) (q:=6001) (r:=3000) (by rfl) (by rfl) (by rfl) (by rfl) (by rfl) hj hj') (by simp only [go_sem,hA]) ?_
   have hjl:j<fs.length:=by rw [hkl] at hj;exact hj
   have hkj:(zax fs)[j] = .string fs[j]:=by simp [zax]
   have htj:(zar fs)[j] = .d (.raw (.bool true)):=by simp [zar]
   rw [hkj,htj]
   simp only [go_sem,hA,za,zH]
   have hmet:zrJ fs (seen++[j])=zrJ fs seen++[fs[j]]:=by simp [zrJ,atB,hjl]
   have hnd2:(seen++[j]).Nodup:=List.nodup_append.2 ⟨hnd,by simp,fun a ha b hb=>by
    have:b=j:=by simpa using hb
    subst this
    intro e;subst e;exact hns ha⟩
   have hlt2:∀ i ∈ seen++[j],i<fs.length:=fun i hi=>by
    rcases List.mem_append.1 hi with h | h
    ·exact hlt i h
    ·have:i=j:=by simpa using h
     omega
   have hsl2:(seen++[j]).length≤fs.length:=by
    have:=List.Nodup.length_le_of_subset hnd2 (l₂:=List.range fs.length) (fun j hj=>List.mem_range.2 (hlt2 j hj))
    simpa using this
   have hsl3:(seen++[j]).length=seen.length+1:=by simp
   refine⟨⟨zbn [fs[j]],zaG _,by omega⟩,fs.length - (seen++[j]).length,by omega,seen++[j],hnd2,hlt2,rfl,?_⟩
   rw [hmet,List.length_append,← zhr]
   rfl
 ·have g0:(decide ¬ zB t=0)=true:=by simpa using h
  have hx:zet t=[]:=if_neg h
  simp only [go_sem,hA,g0,hx,Tryz.results140]
  rfl
end
section
open Go Go.RowKit
mutual
theorem zoC:∀ t:Ex,zaj t=0→zmP t=true
 | .mk k n m i d s,h=>by
  obtain⟨h1,h2⟩:=zqz h
  obtain⟨e6,e8,e13,_⟩:=zoB h1
  simp only [zmP,Bool.and_eq_true,Bool.or_eq_true,decide_eq_true_eq]
  exact⟨⟨⟨(Decidable.em (k=6)).elim (fun e=>.inr (e6 e)) .inl,(Decidable.em (k=8)).elim (fun e=>.inr (e8 e)) .inl⟩,(Decidable.em (k=13)).elim (fun e=>.inr (e13 e)) .inl⟩,zlH s h2⟩
theorem zlH:∀ l:List Ex,zad l=0→zoW l=true
 | [],_=>rfl
 | e :: es,h=>by
  obtain⟨h1,h2⟩:=zlJ h
  simp only [zoW,Bool.and_eq_true]
  exact⟨zoC e h1,zlH es h2⟩
end
theorem zwI {t:Ex} (h:zB t=0):zmP t=true:=zoC t (zuy h).1
theorem zfn:∀ a b:List UInt8,Op.bytesLess a b=true ↔ a<b
 | [],[]=>by simp [Op.bytesLess]
 | x :: a,[]=>by simp [Op.bytesLess]
 | [],y :: b=>by simp [Op.bytesLess]
 | x :: a,y :: b=>by
  rw [Op.bytesLess,Bool.or_eq_true,Bool.and_eq_true,List.cons_lt_cons_iff,zfn a b]
  simp
def ltL (a b:ByteArray):Prop:=a.data.toList<b.data.toList
theorem zdq (a b:ByteArray):ltS a b=true ↔ ltL a b:=zfn _ _
theorem zeo {a b c:ByteArray} (h1:ltL a b) (h2:ltL b c):ltL a c:=List.lt_trans h1 h2
theorem zai (a:ByteArray):¬ ltL a a:=List.lt_irrefl _
theorem znX {a b:ByteArray} (h:¬ ltL a b) (hne:a≠b):ltL b a:=by
 have h1:b.data.toList≤a.data.toList:=List.not_lt.1 h
 rcases List.le_iff_lt_or_eq.1 h1 with h2 | h2
 ·exact h2
 ·exact absurd (zCV h2).symm hne
abbrev Srt (l:List ByteArray):Prop:=l.Pairwise ltL
theorem zii {α:Type} {p:α→Bool}:∀ (l:List α),(l.drop (l.takeWhile p).length=[]∨∃ x r,l.drop (l.takeWhile p).length=x :: r∧p x=false)∧l.take (l.takeWhile p).length=l.takeWhile p
 | []=>by simp
 | x :: l=>by
  rw [List.takeWhile_cons]
  cases hp:p x with
  | false=>simp only [Bool.false_eq_true,if_false];exact⟨.inr ⟨x,l,rfl,hp⟩,rfl⟩
  | true=>
   obtain⟨h1,h2⟩:=zii (p:=p) l
   simp only [if_true,List.length_cons,List.drop_succ_cons,List.take_succ_cons,h2,and_true]
   exact h1
theorem zih {α:Type} {p:α→Bool}:∀ {l:List α} {x:α},x ∈ l.takeWhile p→p x=true
 | y :: l,x,h=>by
  rw [List.takeWhile_cons] at h
  cases hp:p y with
  | false=>rw [hp] at h;simp at h
  | true=>
   rw [hp] at h
   simp only [if_true] at h
   rcases List.mem_cons.1 h with rfl | h
   ·exact hp
   ·exact zih h
theorem zyn (l:List ByteArray) (s x:ByteArray):x ∈ zdR l s ↔ x ∈ l∨x=s:=by
 unfold zdR
 split
 ·rename_i h
  have:=List.mem_of_getElem? h
  constructor
  ·exact .inl
  ·rintro (h | rfl)
   ·exact h
   ·exact this
 ·have h:x ∈ l ↔ x ∈ l.take (zib l s)∨x ∈ l.drop (zib l s):=by
   rw [← List.mem_append,List.take_append_drop]
  rw [h]
  simp only [List.mem_append,List.mem_singleton]
  constructor
  ·rintro ((h | h) | h)
   ·exact .inl (.inl h)
   ·exact .inr h
   ·exact .inl (.inr h)
  ·rintro ((h | h) | h)
   ·exact .inl (.inl h)
   ·exact .inr h
   ·exact .inl (.inr h)
theorem zym {l:List ByteArray} (s:ByteArray) (h:Srt l):Srt (zdR l s):=by
 unfold zdR
 split
 ·exact h
 ·rename_i hne
  obtain⟨h1,h2⟩:=zii (p:=fun x=>ltS x s) l
  have hsplit:Srt (l.take (zib l s)++l.drop (zib l s)):=by rw [List.take_append_drop];exact h
  obtain⟨ha,hb,hab⟩:=List.pairwise_append.1 hsplit
  have hlt:∀ x ∈ l.take (zib l s),ltL x s:=fun x hx=>by
   unfold zib at hx
   rw [h2] at hx
   exact(zdq _ _).1 (zih (p:=fun x=>ltS x s) hx)
  have hgt:∀ x ∈ l.drop (zib l s),ltL s x:=fun x hx=>by
   rcases h1 with h1 | ⟨y,r,h1,hy⟩
   ·unfold zib at hx;rw [h1] at hx;cases hx
   ·have hd:l.drop (zib l s)=y :: r:=h1
    have hyne:y≠s:=fun e=>hne (by
     have:(l.drop (zib l s))[0]? = some y:=by rw [hd];rfl
     rw [List.getElem?_drop,Nat.add_zero] at this
     rw [this,e])
    have hys:ltL s y:=znX (fun h=>by rw [(zdq _ _).2 h] at hy;cases hy) hyne
    rw [hd] at hx hb
    rcases List.mem_cons.1 hx with rfl | hx
    ·exact hys
    ·exact zeo hys (List.rel_of_pairwise_cons hb hx)
  refine List.pairwise_append.2 ⟨List.pairwise_append.2 ⟨ha,List.pairwise_singleton _ _,fun x hx y hy=>?_⟩,hb,fun x hx y hy=>?_⟩
  ·rw [List.mem_singleton] at hy;subst hy;exact hlt x hx
  ·rcases List.mem_append.1 hx with hx | hx
   ·exact hab x hx y hy
   ·rw [List.mem_singleton] at hx;subst hx;exact hgt y hy
structure Alike (l fs:List ByteArray):Prop where
 mem:∀ x,x ∈ l ↔ x ∈ fs
 srt:Srt l
 nd:fs.Nodup
theorem zhj {l:List ByteArray} {s:ByteArray}:zbT l s=true ↔ s ∈ l:=by
 simp [zbT]
theorem Alike.add {l fs:List ByteArray} (h:Alike l fs) (s:ByteArray):Alike (zdR l s) (zeN fs s):=by
 refine⟨fun x=>?_,zym s h.srt,?_⟩
 ·rw [zyn]
  unfold zeN
  split
  ·rename_i hs
   have:=zhj.1 hs
   rw [h.mem]
   constructor
   ·rintro (h | rfl)
    ·exact h
    ·exact this
   ·exact .inl
  ·rw [List.mem_append,List.mem_singleton,h.mem]
 ·unfold zeN
  split
  ·exact h.nd
  ·rename_i hs
   refine List.nodup_append.2 ⟨h.nd,by simp,fun a ha b hb e=>?_⟩
   rw [List.mem_singleton] at hb
   subst hb;subst e
   exact hs (zhj.2 ha)
mutual
theorem zop:∀ (t:Ex) (bd l fs:List ByteArray),zaj t=0→Alike l fs→Alike (zdG t bd l) (zbS t bd fs)
 | .mk k n m i d s,bd,l,fs,hc,h=>by
  obtain⟨h1,h2⟩:=zqz hc
  rw [zdG,zbS]
  by_cases hk:k=3
  ·have hs:s=[]:=List.eq_nil_of_length_eq_zero ((zoB h1).2.2.2.1 hk)
   subst hs
   cases hb:zbT bd n with
   | true=>simp only [hk,zcB];simpa using h
   | false=>simp only [hk];simpa using h.add n
  ·simp only [hk,false_and,if_false]
   exact zlD k n m 0 s bd l fs h2 h
theorem zlD (k:Int) (n m:ByteArray):∀ (i:Nat) (s:List Ex) (bd l fs:List ByteArray),zad s=0→Alike l fs→Alike (zcB k n m i s bd l) (zei k n m i s bd fs)
 | i,[],bd,l,fs,_,h=>by rw [zcB,zei];exact h
 | i,e :: es,bd,l,fs,hc,h=>by
  obtain⟨h1,h2⟩:=zlJ hc
  rw [zcB,zei]
  exact zlD k n m (i+1) es bd _ _ h2 (zop e _ l fs h1 h)
end
theorem zyy {l:List ByteArray} (h:Srt l):l.Nodup:=h.imp fun h e=>by subst e;exact zai _ h
theorem Alike.sort {l fs:List ByteArray} (h:Alike l fs):zcz fs=l:=by
 have hp:l.Perm fs:=(List.perm_ext_iff_of_nodup (zyy h.srt) h.nd).2 h.mem
 rw [← zmO hp]
 unfold zcz
 have hs:(l.map fun s=>s.data.toList).Pairwise fun x y=>decide (x≤y)=true:=by
  rw [List.pairwise_map]
  exact h.srt.imp fun h=>decide_eq_true (List.le_of_lt h)
 rw [List.mergeSort_of_pairwise hs,List.map_map]
 have:((fun x:List UInt8=>(⟨x.toArray⟩:ByteArray)) ∘ fun s:ByteArray=>s.data.toList)=id:=by
  funext s;rfl
 rw [this,List.map_id]
theorem zzF {t:Ex} (h:zB t=0):zcz (zbS t [] [])=zdG t [] []:=
 (zop t [] [] [] (zuy h).1 ⟨fun _=>Iff.rfl,.nil,.nil⟩).sort
theorem zyA (t:Ex):zet t=zir t:=by
 unfold zet zir
 split
 ·rename_i h;exact zzF h
 ·rfl
end
section
open Go Go.RowKit
theorem zCW (l:List ByteArray):Con Tryz.prog 136 [.d (.sl (zv l))] (.d (.raw (.int .i64 (zaf l)))):=by
 refine zh Tryz.func136 rfl (by decide +kernel) rfl rfl (by simp [Tryz.ntmps136]) fun A hA=>?_
 rw [Tryz.ntmps136] at hA
 refine goC 400 ?_
 by_cases h5:¬ l.length=1∧¬ l.length=3
 ·have g5:(decide ¬ (l.length:Int)=1)=true:=decide_eq_true (by omega)
  have g6:(decide ¬ (l.length:Int)=3)=true:=decide_eq_true (by omega)
  have he:zaf l=1:=by unfold zaf;rw [if_pos h5]
  simp only [go_sem,hA,g5,g6,za,he,Tryz.results136]
 have h6:l.length=1∨(¬ l.length=1∧l.length=3):=by omega
 have he:zaf l=if l.any (zM l) then 6 else 0:=by unfold zaf;rw [if_neg h5]
 rcases h6 with h6 | ⟨h6,h7⟩
 case' inl=>
  have g5:(decide ¬ (l.length:Int)=1)=false:=decide_eq_false (by omega)
  have g7:decide ((l.length:Int)=1)=true:=decide_eq_true (by omega)
  simp only [go_sem,hA,g5,undef,za]
 case' inr=>
  have g5:(decide ¬ (l.length:Int)=1)=true:=decide_eq_true (by omega)
  have g6:(decide ¬ (l.length:Int)=3)=false:=decide_eq_false (by omega)
  have g7:decide ((l.length:Int)=1)=false:=decide_eq_false (by omega)
  simp only [go_sem,hA,g5,g6,za]
 all_goals
  refine zd [0,13,14,15] [] [] (fun y σ=>∃ q:Nat,q≤l.length∧y=l.length - q∧(l.take q).any (zM l)=false∧σ=zun l q) l.length ⟨0,by omega,by omega,rfl,by simp only [go_sem,zun]⟩ ?_
  rintro y σ ⟨q,hq,rfl,hf,rfl⟩
  refine goC 400 ?_
  by_cases hlt:q<l.length
  ·have k1:decide ((q:Int)<(l.length:Int))=true:=decide_eq_true (by omega)
   have hc:=zye l[q]
   simp only [go_sem,hA,zun,za,k1,Int.toNat_natCast,zF l q hlt]
   refine⟨⟨by omega,by omega⟩,?_⟩
   have hbad:zM l l[q]=true→zaf l=6:=fun h=>by
    rw [he,if_pos]
    rw [List.any_eq_true]
    exact⟨_,List.getElem_mem hlt,h⟩
   have hgood:zM l l[q]=false→(l.take (q+1)).any (zM l)=false:=fun h=>by
    rw [List.take_succ_eq_append_getElem hlt,List.any_append,hf]
    simp [h]
   have g7':decide (l.length=1)=decide ((l.length:Int)=1):=decide_eq_decide.2 (by omega)
   obtain⟨one,g8⟩:∃ one,decide ((l.length:Int)=1)=one:=⟨_,rfl⟩
   rw [g8] at g7'
   cases hn:zI l[q] with
   | true=>
    rw [hn] at hc
    have hb:=hgood (by unfold zM;rw [hn];rfl)
    refine zb 300 hc rfl (by simp only [go_sem]) (by simp only [go_sem,hA]) ?_
    simp only [go_sem,hA,undef]
    exact⟨by unfold zc;omega,l.length - (q+1),by omega,q+1,by omega,rfl,hb,rfl⟩
   | false=>
    rw [hn] at hc
    refine zb 300 hc rfl (by simp only [go_sem]) (by simp only [go_sem,hA]) ?_
    cases one with
    | true=>
     have hb:=hbad (by unfold zM;rw [hn,g7'];rfl)
     simp only [go_sem,hA,za,g8,hb,undef,Tryz.results136]
    | false=>
     by_cases hz:l[q]=⟨#[]⟩
     ·have hb:=hgood (by unfold zM;rw [hn,g7',hz];rfl)
      have k2:decide (¬ l[q]=⟨#[]⟩)=false:=decide_eq_false (fun h=>h hz)
      simp only [go_sem,hA,za,g8,k2]
      exact⟨by unfold zc;omega,l.length - (q+1),by omega,q+1,by omega,rfl,hb,rfl⟩
     ·have hb:=hbad (by unfold zM;rw [hn,g7'];simp [hz])
      have k2:decide (¬ l[q]=⟨#[]⟩)=true:=decide_eq_true hz
      simp only [go_sem,hA,za,g8,k2,hb,Tryz.results136]
  ·have k1:decide ((q:Int)<(l.length:Int))=false:=decide_eq_false (by omega)
   obtain rfl:q=l.length:=by omega
   rw [List.take_length] at hf
   rw [hf] at he
   simp only [go_sem,hA,zun,k1,he,Tryz.results136]
theorem zEa (x:Ex):Con Tryz.prog 139 [avE x] (.d (.raw (.bool (decide (x.kind=4))))):=by
 refine zh Tryz.func139 rfl (by decide +kernel) rfl (by simp only [go_sem,zl]) (by simp [Tryz.ntmps139]) fun A hA=>?_
 rw [Tryz.ntmps139] at hA
 refine goC 400 ?_
 simp only [go_sem,hA,zl,Tryz.results139]
def zck (label:ByteArray) (x:Ex):Bool:=decide (x.kind=5) && decide (x.name=label)
theorem zBf (label:ByteArray) (x:Ex):Con Tryz.prog 141 [avE x,.at_ [.raw (.string label)]] (.d (.raw (.bool (zck label x)))):=by
 refine zh Tryz.func141 rfl (by decide +kernel) rfl (by simp only [go_sem,zl]) (by simp [Tryz.ntmps141]) fun A hA=>?_
 rw [Tryz.ntmps141] at hA
 refine goC 400 ?_
 unfold zck
 cases h:decide (x.kind=5) <;> simp only [go_sem,hA,zl,h,undef,Bool.false_and,Tryz.results141]
def zbj (label:ByteArray) (d:Dc):Int:=
 if d.id<1∨999999<d.id then 2 else if ¬ d.kind=1∧¬ d.kind=2∧¬ d.kind=3 then 9 else if ¬ zaf d.names=0 then zaf d.names else if ¬ zB d.body=0 then zB d.body
 else if zcZ (fun x=>decide (x.kind=4)) d.body then 9 else if 0<(zet d.body).length then 21 else if zcZ (zck label) d.body then 1 else 0
theorem zEI (label:ByteArray) (d:Dc) (hb:nodesE d.body≤524288) (hok:zB d.body=0→zmP d.body=true):Con Tryz.prog 70 [.d (.raw (.string label)),avD d] (.d (.raw (.int .i64 (zbj label d)))):=by
 refine zh Tryz.func70 rfl (by decide +kernel) rfl rfl (by simp [Tryz.ntmps70]) fun A hA=>?_
 rw [Tryz.ntmps70] at hA
 refine goC 400 ?_
 by_cases h1:d.id<1
 ·have g1:decide (d.id<1)=true:=decide_eq_true h1
  have hr:zbj label d=2:=if_pos (.inl h1)
  simp only [go_sem,hA,avD,g1,hr,undef,Tryz.results70]
 have g1:decide (d.id<1)=false:=decide_eq_false h1
 by_cases h2:999999<d.id
 ·have g2:decide (999999<d.id)=true:=decide_eq_true h2
  have hr:zbj label d=2:=if_pos (.inr h2)
  simp only [go_sem,hA,avD,g1,g2,hr,Tryz.results70]
 have g2:decide (999999<d.id)=false:=decide_eq_false h2
 have hr0:zbj label d=if ¬ d.kind=1∧¬ d.kind=2∧¬ d.kind=3 then 9 else if ¬ zaf d.names=0 then zaf d.names else if ¬ zB d.body=0 then zB d.body
   else if zcZ (fun x=>decide (x.kind=4)) d.body then 9 else if 0<(zet d.body).length then 21 else if zcZ (zck label) d.body then 1 else 0:=if_neg (by omega)
 by_cases hk:¬ d.kind=1∧¬ d.kind=2∧¬ d.kind=3
 ·rw [if_pos hk] at hr0
  simp only [go_sem,hA,avD,g1,g2,hk.1,hk.2.1,hk.2.2,hr0,Tryz.results70]
 rw [if_neg hk] at hr0
 have hk3:d.kind=1∨(¬ d.kind=1∧d.kind=2)∨(¬ d.kind=1∧¬ d.kind=2∧d.kind=3):=by omega
 rcases hk3 with hk | ⟨hk,hk'⟩ | ⟨hk,hk',hk''⟩
 case' inl=>simp only [go_sem,hA,avD,g1,g2,hk,undef]
 case' inr.inl=>simp only [go_sem,hA,avD,g1,g2,hk',undef,Int.reduceEq]
 case' inr.inr=>simp only [go_sem,hA,avD,g1,g2,hk'',Int.reduceEq]
 all_goals
  refine zb 400 (zCW d.names) rfl (by simp only [go_sem]) (by simp only [go_sem,hA]) ?_
  by_cases hn:zaf d.names=0
  case neg=>
   have g3:(decide ¬ zaf d.names=0)=true:=decide_eq_true hn
   rw [if_pos hn] at hr0
   simp only [go_sem,hA,g3,hr0,Tryz.results70]
  have g3:(decide ¬ zaf d.names=0)=false:=by simp [hn]
  rw [if_neg (by simp [hn])] at hr0
  simp only [go_sem,hA,g3]
  refine zb 400 (zcr d.body (by omega)) rfl (by simp only [go_sem,zl]) (by simp only [go_sem,hA]) ?_
  by_cases hx:zB d.body=0
  case neg=>
   have g4:(decide ¬ zB d.body=0)=true:=decide_eq_true hx
   rw [if_pos hx] at hr0
   simp only [go_sem,hA,g4,hr0,Tryz.results70]
  have g4:(decide ¬ zB d.body=0)=false:=by simp [hx]
  rw [if_neg (by simp [hx])] at hr0
  simp only [go_sem,hA,g4]
  refine zb 400 (zlK d.body 139 [] (fun x=>decide (x.kind=4)) rfl rfl (by omega) fun x _=>zEa x) rfl (by simp only [go_sem,zl]) (by simp only [go_sem,hA]) ?_
  cases hd:zcZ (fun x=>decide (x.kind=4)) d.body with
  | true=>
   rw [if_pos hd] at hr0
   simp only [go_sem,hA,hr0,Tryz.results70]
  | false=>
  rw [if_neg (by simp [hd])] at hr0
  simp only [go_sem,hA]
  refine zb 400 (zDC d.body hb hok) rfl (by simp only [go_sem,zl]) (by simp only [go_sem,hA]) ?_
  by_cases hf:0<(zet d.body).length
  ·have g5:decide ((0:Int)<((zet d.body).length:Int))=true:=decide_eq_true (by omega)
   rw [if_pos hf] at hr0
   simp only [go_sem,hA,za,g5,hr0,Tryz.results70]
  have g5:decide ((0:Int)<((zet d.body).length:Int))=false:=decide_eq_false (by omega)
  rw [if_neg hf] at hr0
  simp only [go_sem,hA,za,g5]
  refine zBM 0 ?_
  simp only [go_sem]
  refine zb 400 (zlK d.body 141 [.at_ [.raw (.string label)]] (zck label) rfl rfl (by omega) fun x _=>zBf label x) rfl (by simp only [go_sem,zl]) (by simp only [go_sem,hA]) ?_
  cases hd2:zcZ (zck label) d.body with
  | true=>
   rw [if_pos hd2] at hr0
   simp only [go_sem,hA,hr0,Tryz.results70]
  | false=>
   rw [if_neg (by simp [hd2])] at hr0
   simp only [go_sem,hA,hr0,Tryz.results70]
end
section
open Go Go.RowKit
structure Mo where
 label:ByteArray
 uses:List ByteArray
 decls:List Dc
def zeJ (x:Mo):List D:=[.raw (.string x.label),.sl (zv x.uses),.sl (zak x.decls)]
def avM (x:Mo):AV:=.agg [.d (.raw (.string x.label)),.d (.sl (zv x.uses)),.d (.sl (zak x.decls))]
def bdE (label:ByteArray) (l:List Dc) (q:Nat):Int:=
 if ¬ zbj label (atD l q)=0 then zbj label (atD l q) else if 0<q∧(atD l q).id≤(atD l (q - 1)).id then 10 else 0
def zN (x:Mo):Int:=
 if zX x.label.data.toList then
  (if ¬ zfY zaC ⟨x.uses,[]⟩=0 then zfY zaC ⟨x.uses,[]⟩ else if ¬ zj (zcM x.label x.uses) x.uses.length=0 then zj (zcM x.label x.uses) x.uses.length
   else if 100<x.decls.length then 4 else zj (bdE x.label x.decls) x.decls.length) else 6
abbrev zuB (x:Mo) (q:Nat):St:=⟨[(1,.box 0 0),(22,.d (.raw (.int .i64 x.uses.length))),(23,.d (.raw (.int .i64 q)))],[(0,some (.cell 56 [.d (.raw (.string x.label)),.d (.sl (zv x.uses)),.d (.sl (zak x.decls))]))],[]⟩
abbrev zyd (x:Mo) (q:Nat):St:=⟨[(1,.box 0 0),(41,.d (.sl (zak x.decls))),(42,.d (.raw (.int .i64 x.decls.length))),(43,.d (.raw (.int .i64 q)))],[(0,some (.cell 56 [.d (.raw (.string x.label)),.d (.sl (zv x.uses)),.d (.sl (zak x.decls))]))],[]⟩
theorem zjf {u:List ByteArray} (h:zfY zaC ⟨u,[]⟩=0):u.length≤20:=by
 unfold zfY at h
 split at h
 ·cases h
 ·simp only at *;omega
theorem zwP (x:Mo) (hb:∀ d ∈ x.decls,nodesE d.body≤524288):Con Tryz.prog 27 [avM x] (.d (.raw (.int .i64 (zN x)))):=by
 refine zh Tryz.func27 rfl (by decide +kernel) rfl rfl (by simp [Tryz.ntmps27]) fun A hA=>?_
 rw [Tryz.ntmps27] at hA
 refine goC 400 ?_
 simp only [go_sem,hA,avM]
 refine zb 400 (zmV x.label) rfl (by simp only [go_sem]) (by simp only [go_sem,hA]) ?_
 cases hl:zX x.label.data.toList with
 | false=>
  have hr:zN x=6:=by unfold zN;rw [hl];rfl
  simp only [go_sem,hA,hr,Tryz.results27]
 | true=>
 have hr0:zN x=if ¬ zfY zaC ⟨x.uses,[]⟩=0 then zfY zaC ⟨x.uses,[]⟩ else if ¬ zj (zcM x.label x.uses) x.uses.length=0 then zj (zcM x.label x.uses) x.uses.length
   else if 100<x.decls.length then 4 else zj (bdE x.label x.decls) x.decls.length:=by unfold zN;rw [hl];rfl
 simp only [go_sem,hA]
 refine zb 400 (zyx ⟨x.uses,[]⟩ (fun d h=>by cases h)) rfl (by simp only [go_sem,avS];rfl) (by simp only [go_sem,hA]) ?_
 by_cases hs:zfY zaC ⟨x.uses,[]⟩=0
 case neg=>
  have g4:(decide ¬ zfY zaC ⟨x.uses,[]⟩=0)=true:=decide_eq_true hs
  rw [if_pos hs] at hr0
  simp only [go_sem,hA,g4,hr0,Tryz.results27]
 have g4:(decide ¬ zfY zaC ⟨x.uses,[]⟩=0)=false:=by simp [hs]
 have hul:=zjf hs
 rw [if_neg (by simp [hs])] at hr0
 simp only [go_sem,hA,g4,za]
 refine zd [1,22,23] [0] [] (fun y σ=>∃ q:Nat,q≤x.uses.length∧y=x.uses.length - q∧zj (zcM x.label x.uses) q=0∧σ=zuB x q) x.uses.length ⟨0,by omega,by omega,rfl,by simp only [go_sem,zuB]⟩ ?_
 rintro y σ ⟨q,hq,rfl,hf,rfl⟩
 refine goC 400 ?_
 by_cases hlt:q<x.uses.length
 ·have k1:decide ((q:Int)<(x.uses.length:Int))=true:=decide_eq_true (by omega)
  simp only [go_sem,hA,zuB,k1]
  refine zb 400 (zwJ x.label x.uses q hlt (by omega)) rfl (by simp only [go_sem]) (by simp only [go_sem,hA]) ?_
  by_cases hu:zcM x.label x.uses q=0
  ·have g5:(decide ¬ zcM x.label x.uses q=0)=false:=by simp [hu]
   simp only [go_sem,hA,g5]
   exact⟨by unfold zc;omega,x.uses.length - (q+1),by omega,q+1,by omega,rfl,zp hf hu,rfl⟩
  ·have g5:(decide ¬ zcM x.label x.uses q=0)=true:=decide_eq_true hu
   have hn:zj (zcM x.label x.uses) x.uses.length=zcM x.label x.uses q:=zx hf hlt hu
   rw [hn,if_pos hu] at hr0
   simp only [go_sem,hA,g5,hr0,Tryz.results27]
 have k1:decide ((q:Int)<(x.uses.length:Int))=false:=decide_eq_false (by omega)
 obtain rfl:q=x.uses.length:=by omega
 rw [if_neg (by simp [hf])] at hr0
 by_cases h2:100<x.decls.length
 ·have g2:decide ((100:Int)<(x.decls.length:Int))=true:=decide_eq_true (by omega)
  rw [if_pos h2] at hr0
  simp only [go_sem,hA,zuB,zf,k1,g2,hr0,Tryz.results27]
 have g2:decide ((100:Int)<(x.decls.length:Int))=false:=decide_eq_false (by omega)
 rw [if_neg h2] at hr0
 simp only [go_sem,hA,zuB,zf,k1,g2]
 refine zd [1,41,42,43] [0] [] (fun y σ=>∃ q:Nat,q≤x.decls.length∧y=x.decls.length - q∧zj (bdE x.label x.decls) q=0∧σ=zyd x q) x.decls.length ⟨0,by omega,by omega,rfl,by simp only [go_sem,zyd]⟩ ?_
 rintro y σ ⟨q,hq,rfl,hf2,rfl⟩
 refine goC 400 ?_
 by_cases hlt:q<x.decls.length
 case neg=>
  have k1:decide ((q:Int)<(x.decls.length:Int))=false:=decide_eq_false (by omega)
  obtain rfl:q=x.decls.length:=by omega
  rw [hf2] at hr0
  simp only [go_sem,hA,zyd,k1,hr0,Tryz.results27]
 have k1:decide ((q:Int)<(x.decls.length:Int))=true:=decide_eq_true (by omega)
 have hat:=zce x.decls q hlt
 obtain⟨d,hd⟩:∃ d,x.decls[q]=d:=⟨_,rfl⟩
 rw [hd] at hat
 have hc:=zEI x.label d (hb d (by rw [← hd];exact List.getElem_mem hlt)) zwI
 simp only [go_sem,hA,zyd,zf,k1,Int.toNat_natCast,zS x.decls q hlt,hd,zcW]
 refine⟨⟨by omega,by omega⟩,?_⟩
 refine zb 400 hc rfl (by simp only [go_sem,avD]) (by simp only [go_sem,hA]) ?_
 have hbe:bdE x.label x.decls q=if ¬ zbj x.label d=0 then zbj x.label d else if 0<q∧d.id≤(atD x.decls (q - 1)).id then 10 else 0:=by unfold bdE;rw [hat]
 by_cases he:zbj x.label d=0
 case neg=>
  have g5:(decide ¬ zbj x.label d=0)=true:=decide_eq_true he
  rw [if_pos he] at hbe
  rw [zx hf2 hlt (by rw [hbe];exact he),hbe] at hr0
  simp only [go_sem,hA,g5,hr0,Tryz.results27]
 have g5:(decide ¬ zbj x.label d=0)=false:=by simp [he]
 rw [if_neg (by simp [he])] at hbe
 by_cases hq0:0<q
 ·have k2:decide ((0:Int)<(q:Int))=true:=decide_eq_true (by omega)
  have hq1:((q:Int) - 1).toNat=q - 1:=by omega
  have hat1:=zce x.decls (q - 1) (by omega)
  have hin:zc ((q:Int) - 1):=by unfold zc;omega
  rw [hat1] at hbe
  by_cases hi:d.id≤x.decls[q - 1].id
  ·have k3:decide (d.id≤x.decls[q - 1].id)=true:=decide_eq_true hi
   rw [if_pos ⟨hq0,hi⟩] at hbe
   rw [zx hf2 hlt (by rw [hbe];decide),hbe] at hr0
   simp only [go_sem,hA,g5,k2,zf,hq1,zS x.decls (q - 1) (by omega),zcW,k3,hr0,mixed,Tryz.results27]
   exact⟨hin,⟨by omega,by omega⟩,by show chk _ _ _=true;kernel_rfl⟩
  ·have k3:decide (d.id≤x.decls[q - 1].id)=false:=decide_eq_false hi
   rw [if_neg fun h=>hi h.2] at hbe
   simp only [go_sem,hA,g5,k2,zf,hq1,zS x.decls (q - 1) (by omega),zcW,k3,mixed]
   exact⟨hin,⟨by omega,by omega⟩,by show chk _ _ _=true;kernel_rfl,by unfold zc;omega,x.decls.length - (q+1),by omega,q+1,by omega,rfl,zp hf2 hbe,rfl⟩
 ·have k2:decide ((0:Int)<(q:Int))=false:=decide_eq_false (by omega)
  rw [if_neg fun h=>hq0 h.1] at hbe
  simp only [go_sem,hA,g5,k2,undef,mixed]
  exact⟨by show chk _ _ _=true;kernel_rfl,by unfold zc;omega,x.decls.length - (q+1),by omega,q+1,by omega,rfl,zp hf2 hbe,rfl⟩
end
section
open Go Go.RowKit
structure Fl where
 path:ByteArray
 data:ByteArray
def zpq (x:Fl):List D:=[.raw (.string x.path),.raw (.string x.data)]
def avF (x:Fl):AV:=.agg [.d (.raw (.string x.path)),.d (.raw (.string x.data))]
def zy (l:List Fl):List (List D):=l.map zpq
theorem ze (l:List Fl):(zy l).length=l.length:=by simp [zy]
theorem zL (l:List Fl) (i:Nat) (h:i<l.length):(zy l).getD i []=[.raw (.string l[i].path),.raw (.string l[i].data)]:=by
 simp [zy,List.getD_eq_getElem?_getD,h,zpq]
theorem zhT (l:List Fl):zD 2 (zy l):=by
 intro r hr
 obtain⟨x,_,rfl⟩:=List.mem_map.1 hr
 refine⟨rfl,fun y hy=>?_⟩
 simp only [zpq,List.mem_cons,List.not_mem_nil,or_false] at hy
 rcases hy with rfl | rfl <;> rfl
theorem zur (s:ByteArray) (hs:s.size≤9223372036854775807):Con Tryz.prog 75 [.d (.raw (.string s)),.d (.raw (.string ⟨#[46,112,107]⟩))] (.tup [.d (.raw (.string ⟨(Lib.trimSuffix s.data.toList [46,112,107]).toArray⟩)),.d (.raw (.bool (Lib.hasSuffix s.data.toList [46,112,107])))]):=
 zsa (vs:=[.string s,.string ⟨#[46,112,107]⟩]) ⟨_,Tryz.func75,by decide +kernel,rfl⟩ rfl (fun _ _=>.tup [_,_] [_,_] rfl fun i hi _=>by
  match i,hi with
  | 0,_=>exact .d (.raw _)
  | 1,_=>exact .d (.raw _)) fun w=>(Tryz.strings_CutSuffix s ⟨#[46,112,107]⟩ w hs).mono fun e w' h=>⟨h.1,h.2 ▸ Below.refl _ _⟩
def zdV (s:ByteArray):Bool:=Lib.hasSuffix s.data.toList [46,112,107] && decide (¬ zZ ⟨(Lib.trimSuffix s.data.toList [46,112,107]).toArray⟩=⟨#[]⟩)
theorem zog (s:ByteArray) (hs:s.size≤9223372036854775807):Con Tryz.prog 31 [.d (.raw (.string s))] (.d (.raw (.bool (zdV s)))):=by
 refine zh Tryz.func31 rfl (by decide +kernel) rfl rfl (by simp [Tryz.ntmps31]) fun A hA=>?_
 rw [Tryz.ntmps31] at hA
 refine goC 400 ?_
 simp only [go_sem,hA]
 refine zb 400 (zur s hs) rfl (by simp only [go_sem]) (by simp only [go_sem,hA]) ?_
 cases hh:Lib.hasSuffix s.data.toList [46,112,107] with
 | false=>
  have hr:zdV s=false:=by unfold zdV;rw [hh];rfl
  simp only [go_sem,hA,hr,undef,Tryz.results31]
 | true=>
  have hr:zdV s=decide (¬ zZ ⟨(Lib.trimSuffix s.data.toList [46,112,107]).toArray⟩=⟨#[]⟩):=by unfold zdV;rw [hh];rfl
  simp only [go_sem,hA]
  refine zb 400 (zsn ⟨(Lib.trimSuffix s.data.toList [46,112,107]).toArray⟩) rfl (by simp only [go_sem]) (by simp only [go_sem,hA]) ?_
  simp only [go_sem,hA,hr,Tryz.results31]
def zsd (a b:ByteArray):Int:=Lib.compareBytes a.data.toList b.data.toList
theorem zzV (a b:ByteArray):Con Tryz.prog 81 [.d (.raw (.string a)),.d (.raw (.string b))] (.d (.raw (.int .i64 (zsd a b)))):=
 zsa (vs:=[.string a,.string b]) ⟨_,Tryz.func81,by decide +kernel,rfl⟩ rfl (fun _ _=>.d (.raw _)) fun w=>(Tryz.strings_Compare a b w).mono fun e w' h=>⟨h.1,h.2 ▸ Below.refl _ _⟩
theorem zqq (x:Fl) (s:ByteArray):Con Tryz.prog 80 [avF x,.d (.raw (.string s))] (.d (.raw (.int .i64 (zsd x.path s)))):=by
 refine zh Tryz.func80 rfl (by decide +kernel) rfl rfl (by simp [Tryz.ntmps80]) fun A hA=>?_
 rw [Tryz.ntmps80] at hA
 refine goC 400 ?_
 simp only [go_sem,hA,avF]
 refine zb 400 (zzV x.path s) rfl (by simp only [go_sem]) (by simp only [go_sem,hA]) ?_
 simp only [go_sem,hA,Tryz.results80]
end
section
open Go Go.RowKit
theorem zbr {α:Type} {p:α→Bool} {l:List α} {q:Nat} (hq:q<l.length) (h:(l.take q).any p=false) (h1:p l[q]=false):(l.take (q+1)).any p=false:=by
 rw [List.take_succ_eq_append_getElem hq,List.any_append,h]
 simp [h1]
theorem zhY {α:Type} {p:α→Bool} {l:List α} {q:Nat} (hq:q<l.length) (h1:p l[q]=true):l.any p=true:=List.any_eq_true.2 ⟨l[q],List.getElem_mem hq,h1⟩
end
section
open Go Go.RowKit
structure Tc where
 path:ByteArray
 inB:Bool
 inL:Bool
 inR:Bool
 base:ByteArray
 left:ByteArray
 right:ByteArray
def zfj (x:Tc):List D:=[.raw (.string x.path),.raw (.bool x.inB),.raw (.bool x.inL),.raw (.bool x.inR),.raw (.string x.base),.raw (.string x.left),.raw (.string x.right)]
def avC (x:Tc):AV:=.agg [.d (.raw (.string x.path)),.d (.raw (.bool x.inB)),.d (.raw (.bool x.inL)),.d (.raw (.bool x.inR)),.d (.raw (.string x.base)),.d (.raw (.string x.left)),.d (.raw (.string x.right))]
def zac (l:List Tc):List (List D):=l.map zfj
theorem zn (l:List Tc):(zac l).length=l.length:=by simp [zac]
theorem zaO (l:List Tc) (i:Nat) (h:i<l.length):(zac l).getD i []=zfj l[i]:=by simp [zac,List.getD_eq_getElem?_getD,h]
theorem zfN (l:List Tc):zD 7 (zac l):=by
 intro r hr
 obtain⟨x,_,rfl⟩:=List.mem_map.1 hr
 refine⟨rfl,fun y hy=>?_⟩
 simp only [zfj,List.mem_cons,List.not_mem_nil,or_false] at hy
 rcases hy with rfl | rfl | rfl | rfl | rfl | rfl | rfl <;> rfl
def zab (l:List Mo):List (List D):=l.map zeJ
theorem zm (l:List Mo):(zab l).length=l.length:=by simp [zab]
theorem zaN (l:List Mo) (i:Nat) (h:i<l.length):(zab l).getD i []=zeJ l[i]:=by simp [zab,List.getD_eq_getElem?_getD,h]
theorem zfM (l:List Mo):zD 3 (zab l):=by
 intro r hr
 obtain⟨x,_,rfl⟩:=List.mem_map.1 hr
 refine⟨rfl,fun y hy=>?_⟩
 simp only [zeJ,List.mem_cons,List.not_mem_nil,or_false] at hy
 rcases hy with rfl | rfl | rfl <;> rfl
def ixF {α:Type} (p:α→Bool) (l:List α):Int:=if l.any p then (l.findIdx p:Int) else -1
theorem zms {α:Type} {p:α→Bool} {l:List α} {q:Nat} (hq:q<l.length) (hf:(l.take q).any p=false) (h:p l[q]=true):ixF p l=q:=by
 unfold ixF
 rw [if_pos (List.any_eq_true.2 ⟨_,List.getElem_mem hq,h⟩),(List.findIdx_eq hq).2 ⟨h,fun j hj=>?_⟩]
 rw [List.any_eq_false] at hf
 have:=hf l[j] (List.mem_take_iff_getElem.2 ⟨j,by omega,rfl⟩)
 simpa using this
theorem zof {α:Type} (p:α→Bool) (l:List α):decide (0≤ixF p l)=l.any p:=by
 unfold ixF
 cases l.any p with
 | true=>exact decide_eq_true (by simp only [if_true];omega)
 | false=>rfl
abbrev zjF (f:FuncId) (cs:List AV) (l:List Fl) (q:Nat):St:=⟨[(0,.d (.sl (zy l))),(1,.fn f cs),(7,.d (.raw (.int .i64 l.length))),(8,.d (.raw (.int .i64 q)))],[],[]⟩
theorem zBz (l:List Fl) (f:FuncId) (cs:List AV) (p:Fl→Bool) (hcs:zt cs=true) (hcl:zY cs=some cs) (hl:l.length≤1048576) (hp:∀ x ∈ l,Con Tryz.prog f (avF x :: cs) (.d (.raw (.bool (p x))))):Con Tryz.prog 74 [.d (.sl (zy l)),.fn f cs] (.d (.raw (.int .i64 (ixF p l)))):=by
 refine zh Tryz.func74 rfl (by decide +kernel) rfl (by simp only [go_sem,hcs]) (by simp [Tryz.ntmps74]) fun A hA=>?_
 rw [Tryz.ntmps74] at hA
 refine goC 400 ?_
 simp only [go_sem,hA,ze]
 refine zd [0,1,7,8] [] [] (fun y σ=>∃ q:Nat,q≤l.length∧y=l.length - q∧(l.take q).any p=false∧σ=zjF f cs l q) l.length ⟨0,by omega,by omega,rfl,by simp only [go_sem,zjF]⟩ ?_
 rintro y σ ⟨q,hq,rfl,hf,rfl⟩
 refine goC 400 ?_
 by_cases hlt:q<l.length
 ·have k1:decide ((q:Int)<(l.length:Int))=true:=decide_eq_true (by omega)
  have hc:=hp l[q] (List.getElem_mem hlt)
  simp only [go_sem,hA,zjF,ze,k1,Int.toNat_natCast,zL l q hlt]
  refine⟨⟨by omega,by omega⟩,?_⟩
  refine zgv 400 (cs:=cs) hc rfl rfl (by simp only [go_sem]) (by simp only [go_sem,hcl,avF]) (by simp only [go_sem,hA]) ?_
  cases hx:p l[q] with
  | true=>simp only [go_sem,hA,zms hlt hf hx,Tryz.results74]
  | false=>
   simp only [go_sem,hA]
   exact⟨by unfold zc;omega,l.length - (q+1),by omega,q+1,by omega,rfl,zbr hlt hf hx,rfl⟩
 ·have k1:decide ((q:Int)<(l.length:Int))=false:=decide_eq_false (by omega)
  obtain rfl:q=l.length:=by omega
  rw [List.take_length] at hf
  have hr:ixF p l = -1:=by unfold ixF;rw [hf];rfl
  simp only [go_sem,hA,zjF,k1,hr,Tryz.results74]
theorem ztP (l:List Fl) (f:FuncId) (cs:List AV) (p:Fl→Bool) (hcs:zt cs=true) (hcl:zY cs=some cs) (hl:l.length≤1048576) (hp:∀ x ∈ l,Con Tryz.prog f (avF x :: cs) (.d (.raw (.bool (p x))))):Con Tryz.prog 29 [.d (.sl (zy l)),.fn f cs] (.d (.raw (.bool (l.any p)))):=by
 refine zh Tryz.func29 rfl (by decide +kernel) rfl (by simp only [go_sem,hcs]) (by simp [Tryz.ntmps29]) fun A hA=>?_
 rw [Tryz.ntmps29] at hA
 refine goC 400 ?_
 simp only [go_sem,hA]
 refine zb 400 (zBz l f cs p hcs hcl hl hp) rfl (by simp only [go_sem,hcl]) (by simp only [go_sem,hA]) ?_
 simp only [go_sem,hA,zof,Tryz.results29]
abbrev zmr (f:FuncId) (cs:List AV) (l:List Mo) (q:Nat):St:=⟨[(0,.d (.sl (zab l))),(1,.fn f cs),(7,.d (.raw (.int .i64 l.length))),(8,.d (.raw (.int .i64 q)))],[],[]⟩
theorem zDZ (l:List Mo) (f:FuncId) (cs:List AV) (p:Mo→Bool) (hcs:zt cs=true) (hcl:zY cs=some cs) (hl:l.length≤1048576) (hp:∀ x ∈ l,Con Tryz.prog f (avM x :: cs) (.d (.raw (.bool (p x))))):Con Tryz.prog 41 [.d (.sl (zab l)),.fn f cs] (.d (.raw (.int .i64 (ixF p l)))):=by
 refine zh Tryz.func41 rfl (by decide +kernel) rfl (by simp only [go_sem,hcs]) (by simp [Tryz.ntmps41]) fun A hA=>?_
 rw [Tryz.ntmps41] at hA
 refine goC 400 ?_
 simp only [go_sem,hA,zm]
 refine zd [0,1,7,8] [] [] (fun y σ=>∃ q:Nat,q≤l.length∧y=l.length - q∧(l.take q).any p=false∧σ=zmr f cs l q) l.length ⟨0,by omega,by omega,rfl,by simp only [go_sem,zmr]⟩ ?_
 rintro y σ ⟨q,hq,rfl,hf,rfl⟩
 refine goC 400 ?_
 by_cases hlt:q<l.length
 ·have k1:decide ((q:Int)<(l.length:Int))=true:=decide_eq_true (by omega)
  have hc:=hp l[q] (List.getElem_mem hlt)
  simp only [go_sem,hA,zmr,zm,k1,Int.toNat_natCast,zaN l q hlt,zeJ]
  refine⟨⟨by omega,by omega⟩,?_⟩
  refine zgv 400 (cs:=cs) hc rfl rfl (by simp only [go_sem]) (by simp only [go_sem,hcl,avM]) (by simp only [go_sem,hA]) ?_
  cases hx:p l[q] with
  | true=>simp only [go_sem,hA,zms hlt hf hx,Tryz.results41]
  | false=>
   simp only [go_sem,hA]
   exact⟨by unfold zc;omega,l.length - (q+1),by omega,q+1,by omega,rfl,zbr hlt hf hx,rfl⟩
 ·have k1:decide ((q:Int)<(l.length:Int))=false:=decide_eq_false (by omega)
  obtain rfl:q=l.length:=by omega
  rw [List.take_length] at hf
  have hr:ixF p l = -1:=by unfold ixF;rw [hf];rfl
  simp only [go_sem,hA,zmr,k1,hr,Tryz.results41]
abbrev zjE (f:FuncId) (cs:List AV) (l:List Tc) (q:Nat):St:=⟨[(0,.d (.sl (zac l))),(1,.fn f cs),(7,.d (.raw (.int .i64 l.length))),(8,.d (.raw (.int .i64 q)))],[],[]⟩
theorem zBy (l:List Tc) (f:FuncId) (cs:List AV) (p:Tc→Bool) (hcs:zt cs=true) (hcl:zY cs=some cs) (hl:l.length≤1048576) (hp:∀ x ∈ l,Con Tryz.prog f (avC x :: cs) (.d (.raw (.bool (p x))))):Con Tryz.prog 94 [.d (.sl (zac l)),.fn f cs] (.d (.raw (.int .i64 (ixF p l)))):=by
 refine zh Tryz.func94 rfl (by decide +kernel) rfl (by simp only [go_sem,hcs]) (by simp [Tryz.ntmps94]) fun A hA=>?_
 rw [Tryz.ntmps94] at hA
 refine goC 400 ?_
 simp only [go_sem,hA,zn]
 refine zd [0,1,7,8] [] [] (fun y σ=>∃ q:Nat,q≤l.length∧y=l.length - q∧(l.take q).any p=false∧σ=zjE f cs l q) l.length ⟨0,by omega,by omega,rfl,by simp only [go_sem,zjE]⟩ ?_
 rintro y σ ⟨q,hq,rfl,hf,rfl⟩
 refine goC 400 ?_
 by_cases hlt:q<l.length
 ·have k1:decide ((q:Int)<(l.length:Int))=true:=decide_eq_true (by omega)
  have hc:=hp l[q] (List.getElem_mem hlt)
  simp only [go_sem,hA,zjE,zn,k1,Int.toNat_natCast,zaO l q hlt,zfj]
  refine⟨⟨by omega,by omega⟩,?_⟩
  refine zgv 400 (cs:=cs) hc rfl rfl (by simp only [go_sem]) (by simp only [go_sem,hcl,avC]) (by simp only [go_sem,hA]) ?_
  cases hx:p l[q] with
  | true=>simp only [go_sem,hA,zms hlt hf hx,Tryz.results94]
  | false=>
   simp only [go_sem,hA]
   exact⟨by unfold zc;omega,l.length - (q+1),by omega,q+1,by omega,rfl,zbr hlt hf hx,rfl⟩
 ·have k1:decide ((q:Int)<(l.length:Int))=false:=decide_eq_false (by omega)
  obtain rfl:q=l.length:=by omega
  rw [List.take_length] at hf
  have hr:ixF p l = -1:=by unfold ixF;rw [hf];rfl
  simp only [go_sem,hA,zjE,k1,hr,Tryz.results94]
end
section
open Go Go.RowKit
def bsR (lt:Nat→Bool):Nat→Nat→Nat→Nat
 | 0,i,_=>i
 | k+1,i,j=>if i<j then (if lt ((i+j) / 2) then bsR lt k ((i+j) / 2+1) j else bsR lt k i ((i+j) / 2)) else i
theorem zwM (lt:Nat→Bool):∀ k i j,i≤j→i≤bsR lt k i j∧bsR lt k i j≤j
 | 0,i,j,h=>⟨Nat.le_refl _,h⟩
 | k+1,i,j,h=>by
  rw [bsR]
  split
  ·split
   ·have:=zwM lt k ((i+j) / 2+1) j (by omega);omega
   ·have:=zwM lt k i ((i+j) / 2) (by omega);omega
  ·omega
theorem zjZ (lt:Nat→Bool) (k:Nat) {i j:Nat} (h:¬ i<j):bsR lt k i j=i:=by
 cases k with
 | zero=>rfl
 | succ k=>rw [bsR,if_neg h]
theorem zhz (lt:Nat→Bool):∀ k k' i j,j - i≤k→j - i≤k'→bsR lt k i j=bsR lt k' i j
 | 0,k',i,j,h,_=>by rw [zjZ lt 0 (by omega),zjZ lt k' (by omega)]
 | k+1,0,i,j,_,h=>by rw [zjZ lt 0 (by omega),zjZ lt (k+1) (by omega)]
 | k+1,k'+1,i,j,h,h'=>by
  rw [bsR,bsR]
  by_cases hlt:i<j
  ·rw [if_pos hlt,if_pos hlt,zhz lt k k' ((i+j) / 2+1) j (by omega) (by omega),zhz lt k k' i ((i+j) / 2) (by omega) (by omega)]
  ·rw [if_neg hlt,if_neg hlt]
theorem zCS (lt:Nat→Bool) {i j R:Nat} (hij:i<j) (hR:∀ k,j - i≤k→bsR lt k i j=R):if lt ((i+j) / 2) then ∀ k,j - ((i+j) / 2+1)≤k→bsR lt k ((i+j) / 2+1) j=R else ∀ k,(i+j) / 2 - i≤k→bsR lt k i ((i+j) / 2)=R:=by
 have h:=hR (j - i+1) (by omega)
 rw [bsR,if_pos hij] at h
 split
 ·rename_i hl
  rw [if_pos hl] at h
  exact fun k hk=>(zhz lt k (j - i) _ _ hk (by omega)).trans h
 ·rename_i hl
  rw [if_neg hl] at h
  exact fun k hk=>(zhz lt k (j - i) _ _ hk (by omega)).trans h
def zgz (l:List Fl) (s:ByteArray) (h:Nat):Bool:=match l[h]? with
 | some x=>decide (zsd x.path s<0)
 | none=>false
def zbu (l:List Fl) (s:ByteArray):Nat:=bsR (zgz l s) l.length 0 l.length
def zdF (l:List Fl) (s:ByteArray):Bool:=match l[zbu l s]? with
 | some x=>decide (zsd x.path s=0)
 | none=>false
abbrev zCR (l:List Fl) (s:ByteArray) (i j:Nat):St:=⟨[(0,.d (.sl (zy l))),(1,.d (.raw (.string s))),(2,.fn 80 []),(8,.d (.raw (.int .i64 l.length))),(9,.d (.raw (.int .i64 i))),(10,.d (.raw (.int .i64 j)))],[],[]⟩
theorem zBJ (i j:Nat) (h:i+j<4611686018427387904):IntKind.i64.wrap ((IntKind.u64.wrap ((i:Int)+(j:Int))).fdiv (2 ^ min 1 64))=(((i+j) / 2:Nat):Int):=by
 have h1:IntKind.u64.wrap ((i:Int)+(j:Int))=((i+j:Nat):Int):=by
  rw [IntKind.wrap_u64];omega
 have h2:((2:Int) ^ min 1 64)=2:=rfl
 rw [h1,h2,zfW (by unfold zc;rw [Int.fdiv_eq_ediv_of_nonneg _ (by decide)];omega),Int.fdiv_eq_ediv_of_nonneg _ (by decide)]
 omega
theorem zAe (l:List Fl) (s:ByteArray) (hl:l.length≤1048576):Con Tryz.prog 79 [.d (.sl (zy l)),.d (.raw (.string s)),.fn 80 []] (.tup [.d (.raw (.int .i64 (zbu l s))),.d (.raw (.bool (zdF l s)))]):=by
 refine zh Tryz.func79 rfl (by decide +kernel) rfl rfl (by simp [Tryz.ntmps79]) fun A hA=>?_
 rw [Tryz.ntmps79] at hA
 refine goC 400 ?_
 simp only [go_sem,hA,ze]
 refine zd [0,1,2,8,9,10] [] [] (fun y σ=>∃ i j:Nat,i≤j∧j≤l.length∧y=j - i∧(∀ k,j - i≤k→bsR (zgz l s) k i j=zbu l s)∧σ=zCR l s i j) l.length ⟨0,l.length,by omega,by omega,by omega,fun k hk=>zhz _ _ _ _ _ hk (by omega),by simp only [go_sem,zCR]⟩ ?_
 rintro y σ ⟨i,j,hij,hj,rfl,hR,rfl⟩
 refine goC 400 ?_
 by_cases hlt:i<j
 ·have k1:decide ((i:Int)<(j:Int))=true:=decide_eq_true (by omega)
  have hh:=zBJ i j (by omega)
  have hm:(i+j) / 2<l.length:=by omega
  have hb:=zCS (zgz l s) hlt hR
  have hfl:zgz l s ((i+j) / 2)=decide (zsd l[(i+j) / 2].path s<0):=by unfold zgz;rw [List.getElem?_eq_getElem hm]
  rw [hfl] at hb
  simp only [go_sem,hA,zCR,k1,ze,hh,Int.toNat_natCast,zL l _ hm]
  refine⟨by unfold zc;omega,⟨by omega,by omega⟩,?_⟩
  refine zgv 400 (cs:=[]) (zqq l[(i+j) / 2] s) rfl rfl (by simp only [go_sem]) (by simp only [go_sem,avF]) (by simp only [go_sem,hA]) ?_
  cases hx:decide (zsd l[(i+j) / 2].path s<0) with
  | true=>
   rw [hx,if_pos rfl] at hb
   simp only [go_sem,hA,hx]
   exact⟨by unfold zc;omega,j - ((i+j) / 2+1),by omega,(i+j) / 2+1,j,by omega,hj,rfl,hb,rfl⟩
  | false=>
   rw [hx,if_neg (by simp)] at hb
   simp only [go_sem,hA,hx]
   exact⟨(i+j) / 2 - i,by omega,i,(i+j) / 2,by omega,by omega,rfl,hb,rfl⟩
 ·have k1:decide ((i:Int)<(j:Int))=false:=decide_eq_false (by omega)
  have hi:zbu l s=i:=by rw [← hR 0 (by omega)];rfl
  by_cases hil:i<l.length
  ·have k2:decide ((i:Int)<(l.length:Int))=true:=decide_eq_true (by omega)
   have hf:zdF l s=decide (zsd l[i].path s=0):=by unfold zdF;rw [hi,List.getElem?_eq_getElem hil]
   simp only [go_sem,hA,zCR,k1,k2,ze,Int.toNat_natCast,zL l i hil]
   refine⟨⟨by omega,by omega⟩,?_⟩
   refine zgv 400 (cs:=[]) (zqq l[i] s) rfl rfl (by simp only [go_sem]) (by simp only [go_sem,avF]) (by simp only [go_sem,hA]) ?_
   simp only [go_sem,hA,hi,hf,Tryz.results79]
  ·have k2:decide ((i:Int)<(l.length:Int))=false:=decide_eq_false (by omega)
   have hf:zdF l s=false:=by unfold zdF;rw [hi,List.getElem?_eq_none (by omega)]
   simp only [go_sem,hA,zCR,k1,k2,hi,hf,undef,Tryz.results79]
theorem zwD (l:List Fl) (s:ByteArray) (hl:l.length≤1048576):Con Tryz.prog 33 [.d (.sl (zy l)),.d (.raw (.string s))] (.tup [.d (.raw (.int .i64 (zbu l s))),.d (.raw (.bool (zdF l s)))]):=by
 refine zh Tryz.func33 rfl (by decide +kernel) rfl rfl (by simp [Tryz.ntmps33]) fun A hA=>?_
 rw [Tryz.ntmps33] at hA
 refine goC 400 ?_
 simp only [go_sem,hA]
 refine zb 400 (zAe l s hl) rfl (by simp only [go_sem]) (by simp only [go_sem,hA]) ?_
 simp only [go_sem,hA,Tryz.results33]
end
end Go.Proofs.YtpnjjmcimjlfkaaGreatDoor
