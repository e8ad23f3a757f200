/- Texts of this proof, part 23: what the proof uses of them. -/
import Derived.Test.YtpnjjmcimjlfkaaGreatDoorDav
import Derived.Test.YtpnjjmcimjlfkaaGreatDoorDam
import Derived.Test.YtpnjjmcimjlfkaaGreatDoorDal
import Derived.Test.YtpnjjmcimjlfkaaGreatDoorDao
import Derived.Test.YtpnjjmcimjlfkaaGreatDoorDau
set_option maxRecDepth 100000
set_option maxHeartbeats 64000000
namespace Go.Proofs.YtpnjjmcimjlfkaaGreatDoor
section
open Go Go.RowKit
mutual
theorem znK (side:Nat):∀ (t:Ex) (j:Int),nodesE (zcf side t j).1≤nodesE t
 | .mk k n m i d s,j=>by
  have h1:=fun j=>znJ side s j
  have h2:nodesE (s.getD side zfb)≤nodesL s+1:=by
   rw [List.getD_eq_getElem?_getD]
   cases h:s[side]? with
   | none=>simp [zfb,nodesE,nodesL]
   | some x=>
    have hx:=List.mem_of_getElem? h
    have:=znP hx
    simp only [Option.getD_some];omega
  rw [zcf,nodesE]
  split
  ·split
   ·simp only;omega
   ·have:=h1 (j - 1)
    simp only [nodesE];omega
  ·have:=h1 j
   simp only [nodesE];omega
theorem znJ (side:Nat):∀ (l:List Ex) (j:Int),nodesL (zP side l j).1≤nodesL l
 | [],j=>by rw [zP];exact Nat.le_refl _
 | e :: es,j=>by
  rw [zP]
  split
  ·exact Nat.le_refl _
  ·have h1:=znK side e j
   have h2:=znJ side es (zcf side e j).2
   simp only [nodesL];omega
end
theorem zst {l:List Fl} (h:zch l=0):l.length≤200:=by
 unfold zch at h
 split at h
 ·cases h
 ·omega
theorem zpA {m:Mg} (h:zw m=0):zch m.fs=0:=by
 unfold zw at h
 split at h
 ·exact absurd h (by assumption)
 split at h
 ·exact absurd h (by assumption)
 ·rename_i h2;exact Classical.not_not.1 h2
theorem zyg (l:List Tc) (i:Nat) (h:i<l.length):atC l i ∈ l:=by rw [zcY l i h];exact List.getElem_mem h
theorem zsl (l:List Mo) (i:Nat) (h:i<l.length):atM l i ∈ l:=by rw [zbR l i h];exact List.getElem_mem h
theorem zql {l:List Fl} {i:Nat} {x y:Fl} (h:y ∈ zeF l i x):y ∈ l∨y=x:=by
 unfold zeF at h
 rcases List.mem_append.1 h with h | h
 ·exact .inl (List.mem_of_mem_take h)
 ·rcases List.mem_cons.1 h with h | h
  ·exact .inr h
  ·exact .inl (List.mem_of_mem_drop h)
theorem zzx {l:List Fl} {i:Nat} {x:Fl}:(zeF l i x).length=l.length+1:=by
 unfold zeF
 rw [List.length_append,List.length_cons,List.length_take,List.length_drop];omega
theorem zyq (c:Tc) (k:Nat):zal c k=c.left∨zal c k=c.base∨zal c k=c.right:=by
 unfold zal zfx
 split
 ·exact .inl rfl
 ·split
  ·exact .inr (.inl rfl)
  ·exact .inr (.inr rfl)
theorem zlC {m:Mg} {path:ByteArray} (h:m.ts.any (zaD path)=true):m.ts.findIdx (zaD path)<m.ts.length∧(atC m.ts (m.ts.findIdx (zaD path))).path=path:=by
 have h1:=(zrO h).2
 refine⟨h1,?_⟩
 rw [zcY _ _ h1]
 have:=List.findIdx_getElem (xs:=m.ts) (p:=zaD path) (w:=h1)
 simpa [zaD] using this
theorem zqj {m:Mg} {label:ByteArray} (h:m.ms.any (zbD label)=true):m.ms.findIdx (zbD label)<m.ms.length∧(atM m.ms (m.ms.findIdx (zbD label))).label=label:=by
 have h1:=(zrO h).2
 refine⟨h1,?_⟩
 rw [zbR _ _ h1]
 have:=List.findIdx_getElem (xs:=m.ms) (p:=zbD label) (w:=h1)
 simpa [zbD] using this
theorem zzH {m:Mg} (hg:m.Good) (h0:zw m=0) {path:ByteArray} (h:m.ts.any (zaD path)=true) (k:Nat):(zis m path (m.ts.findIdx (zaD path)) k).Good:=by
 obtain⟨h1,h2⟩:=zlC h
 have h3:=zst (zpA h0)
 have h4:=hg.fine.tp _ (zyg _ _ h1)
 have hf:=hg.fine
 have htm:∀ x ∈ m.ts.take (m.ts.findIdx (zaD path))++m.ts.drop (m.ts.findIdx (zaD path)+1),x ∈ m.ts:=fun x hx=>by
  rcases List.mem_append.1 hx with h | h
  ·exact List.mem_of_mem_take h
  ·exact List.mem_of_mem_drop h
 refine⟨⟨hf.ml,?_,hf.bd,?_,fun x hx=>hf.tp x (htm x hx)⟩,?_,hg.dl⟩
 ·unfold zis
  dsimp only
  split
  ·rw [zzx];omega
  ·exact hf.fl
 ·intro x hx
  unfold zis at hx
  dsimp only at hx
  split at hx
  ·rcases zql hx with h | rfl
   ·exact hf.fp x h
   ·refine⟨by rw [← h2];exact h4.1,?_⟩
    rcases zyq (atC m.ts (m.ts.findIdx (zaD path))) k with h | h | h <;> rw [h]
    ·exact h4.2.2.1
    ·exact h4.2.1
    ·exact h4.2.2.2
  ·exact hf.fp x hx
 ·show(m.ts.take _++m.ts.drop _).length≤_
  have:=hg.tl
  rw [List.length_append,List.length_take,List.length_drop];omega
theorem ztC (d:Dc) (nm:ByteArray):nodesE (nmX d nm).1.body≤nodesE d.body:=by
 unfold nmX
 split
 ·exact Nat.le_refl _
 ·exact zdg d.body
theorem zvb (d:Dc) (s:Sq) (k:Nat):nodesE (zde d s k).1.body≤nodesE d.body:=by
 unfold zde
 split
 ·exact ztC _ _
 split
 ·split
  ·show nodesE (zbf d.body s.pos k).1≤_
   unfold zbf
   split
   ·split
    ·exact zdg d.body
    ·exact znK _ _ _
   ·exact zdg d.body
  ·exact zdg d.body
 split
 ·exact zdg d.body
 split
 ·exact Nat.le_refl _
 ·exact ztC _ _
theorem zzm (x:Mo) (s:Sq) (k:Nat):(zcI x s k).1.decls.length≤x.decls.length∧∀ N,(∀ d ∈ x.decls,nodesE d.body≤N)→∀ d ∈ (zcI x s k).1.decls,nodesE d.body≤N:=by
 have z:zca.decls.length≤x.decls.length∧∀ N,(∀ d ∈ x.decls,nodesE d.body≤N)→∀ d ∈ zca.decls,nodesE d.body≤N:=⟨Nat.zero_le _,fun N _ d hd=>by cases hd⟩
 unfold zcI
 split
 ·exact z
 split
 ·exact z
 split
 ·exact z
 split
 ·exact z
 refine⟨zjC s k x.decls _,fun N hN d hd=>?_⟩
 obtain⟨e,he,hd⟩:=List.mem_flatMap.1 (show d ∈ (x.decls.take _).flatMap (zjD s k) from hd)
 have heN:=hN e (List.mem_of_mem_take he)
 unfold zjD at hd
 split at hd
 ·split at hd
  ·rw [List.mem_singleton.1 hd];exact Nat.le_trans (zvb e s k) heN
  ·cases hd
 ·rw [List.mem_singleton.1 hd];exact heN
theorem zBb {m:Mg} (hg:m.Good) (a:Nat) (ha:a<m.ms.length) (s:Sq) (k:Nat):(zlp m a (zcI (atM m.ms a) s k).1).Good:=by
 have hf:=hg.fine
 have hm:=zzm (atM m.ms a) s k
 have key:∀ x ∈ m.ms.set a (zcI (atM m.ms a) s k).1,x ∈ m.ms∨x=(zcI (atM m.ms a) s k).1:=fun x hx=>List.mem_or_eq_of_mem_set hx
 refine⟨⟨by simpa [zlp] using hf.ml,hf.fl,fun x hx=>?_,hf.fp,hf.tp⟩,hg.tl,fun x hx=>?_⟩
 ·rcases key x hx with h | rfl
  ·exact hf.bd x h
  ·exact hm.2 _ (hf.bd _ (zsl _ _ ha))
 ·rcases key x hx with h | rfl
  ·exact hg.dl x h
  ·exact Nat.le_trans hm.1 (hg.dl _ (zsl _ _ ha))
theorem zeq:zbz.Good:=⟨⟨Nat.zero_le _,Nat.zero_le _,fun x hx=>(by cases hx),fun x hx=>(by cases hx),fun x hx=>(by cases hx)⟩,Nat.zero_le _,fun x hx=>(by cases hx)⟩
theorem zkf {m:Mg} (hg:m.Good) (h0:zw m=0) {s:Sq} (hs:s ∈ zK m) (k:Nat):(zaL m s k).1.Good:=by
 unfold zaL
 split
 ·exact zzH hg h0 (zsv hs (by assumption)) k
 split
 ·exact zBb hg _ (zqj (zxF hs (by assumption))).1 s k
 ·exact zeq
theorem zyf {l:List Sq} {i:Nat} (h:i<l.length):atQ l i ∈ l:=by rw [zsk l i h];exact List.getElem_mem h
theorem zuw {m:Mg} (hg:m.Good) (i side:Int):(zaT m i side).1.Good:=by
 unfold zaT
 split
 ·exact zeq
 split
 ·exact zeq
 split
 ·exact zeq
 split
 ·exact zeq
 ·rename_i h0 h1 _ _
  exact zkf hg (Classical.not_not.1 h0) (zyf (by omega)) _
end
section
open Go Go.RowKit
theorem zzM (l:List Mo) (a:Nat) (x:Mo):(zab l).set a (zeJ x)=zab (l.set a x):=by simp [zab,List.map_set]
theorem zux (m:Mg) (hg:m.Good) (i side:Int):Con Tryz.prog 14 [avG m,.d (.raw (.int .i64 i)),.d (.raw (.int .i64 side))] (.tup [avG (zaT m i side).1,.d (.raw (.int .i64 (zaT m i side).2))]):=by
 refine zsb Tryz.func14 rfl (by decide +kernel) rfl rfl (by simp [Tryz.ntmps14]) fun A hA hAX=>?_
 rw [Tryz.ntmps14] at hA
 have hr0:zaT m i side=if ¬ zw m=0 then (zbz,zw m)
  else if i<0∨((zK m).length:Int)≤i∨side<0∨2<side then (zbz,2)
  else if ¬ (zaL m (atQ (zK m) i.toNat) side.toNat).2=0 then (zbz,(zaL m (atQ (zK m) i.toNat) side.toNat).2)
  else if ¬ zw (zaL m (atQ (zK m) i.toNat) side.toNat).1=0 then (zbz,zw (zaL m (atQ (zK m) i.toNat) side.toNat).1)
  else ((zaL m (atQ (zK m) i.toNat) side.toNat).1,0):=rfl
 refine goC 400 ?_
 simp only [go_sem,hA,avG]
 refine zb 400 (zgW m hg.fine) rfl (by simp only [go_sem,avG]) (by simp only [go_sem,hA]) ?_
 by_cases h0:zw m=0
 case neg=>
  have g1:(decide ¬ zw m=0)=true:=decide_eq_true h0
  rw [if_pos h0] at hr0
  simp only [go_sem,hA,g1,hr0,Tryz.results14]
  rfl
 have g1:(decide ¬ zw m=0)=false:=by simp [h0]
 rw [if_neg (by simp [h0])] at hr0
 simp only [go_sem,hA,g1]
 have hll:=zDw m hg.fine.ml hg.tl (fun x hx=>⟨hg.dl x hx,hg.fine.bd x hx⟩) (fun x _=>zqw x) (zqb m hg.fine.ml)
 rw [zqe] at hll
 refine zb 400 hll rfl (by simp only [go_sem,avG]) (by simp only [go_sem,hA]) ?_
 by_cases h1:i<0∨((zK m).length:Int)≤i∨side<0∨2<side
 ·rw [if_pos h1] at hr0
  by_cases a1:i<0
  ·have d1:=decide_eq_true a1
   simp only [go_sem,hA,d1,undef,hr0,Tryz.results14]
   rfl
  have d1:=decide_eq_false a1
  by_cases a2:((zK m).length:Int)≤i
  ·have d2:=decide_eq_true a2
   simp only [go_sem,hA,d1,d2,undef,zr,hr0,Tryz.results14]
   rfl
  have d2:=decide_eq_false a2
  by_cases a3:side<0
  ·have d3:=decide_eq_true a3
   simp only [go_sem,hA,d1,d2,d3,undef,zr,hr0,Tryz.results14]
   rfl
  have d3:=decide_eq_false a3
  have d4:decide (2<side)=true:=decide_eq_true (by omega)
  simp only [go_sem,hA,d1,d2,d3,d4,zr,hr0,Tryz.results14]
  rfl
 rw [if_neg h1] at hr0
 obtain⟨ni,rfl⟩:∃ n:Nat,i=n:=⟨i.toNat,by omega⟩
 obtain⟨k,rfl⟩:∃ n:Nat,side=n:=⟨side.toNat,by omega⟩
 have hk:k<3:=by omega
 have hlt:ni<(zK m).length:=by omega
 have d1:decide ((ni:Int)<0)=false:=decide_eq_false (by omega)
 have d2:decide (((zK m).length:Int)≤(ni:Int))=false:=decide_eq_false (by omega)
 have d3:decide ((k:Int)<0)=false:=decide_eq_false (by omega)
 have d4:decide (2<(k:Int))=false:=decide_eq_false (by omega)
 have hat:=zsk (zK m) ni hlt
 have hs:(zK m)[ni] ∈ zK m:=List.getElem_mem hlt
 have henc:=zhs (zK m) ni hlt
 simp only [Int.toNat_natCast,hat] at hr0
 generalize (zK m)[ni]=s at hr0 hs henc
 have hgood:=zkf hg h0 hs k
 simp only [go_sem,hA,d1,d2,d3,d4,zr,Int.toNat_natCast,henc,zic,spR]
 refine⟨⟨by omega,by omega⟩,?_⟩
 by_cases h5:s.kind=5
 ·obtain⟨hx1,hx2⟩:=zrO (zsv hs h5)
  have hst:zaL m s k=(zis m s.label (m.ts.findIdx (zaD s.label)) k,0):=if_pos h5
  rw [hst,if_neg (by simp)] at hr0
  rw [hst] at hgood
  have d5:decide (s.kind=5)=true:=decide_eq_true h5
  have hfew:=zst (zpA h0)
  simp only [go_sem,hA,d5]
  refine zb 400 (zse m s.label k _ hk hx2 hx1 hg.tl hg.fine.fl) rfl (by simp only [go_sem,avG]) (by simp only [go_sem,hA]) ?_
  simp only at hr0 hgood
  generalize zis m s.label (m.ts.findIdx (zaD s.label)) k=m' at hr0 hgood
  simp only [go_sem,hA,avG]
  refine zb 400 (zgW m' hgood.fine) rfl (by simp only [go_sem,avG]) (by simp only [go_sem,hA]) ?_
  by_cases h6:zw m'=0
  ·have g6:(decide ¬ zw m'=0)=false:=by simp [h6]
   rw [if_neg (by simp [h6])] at hr0
   simp only [go_sem,hA,g6,hr0,Tryz.results14]
  ·have g6:(decide ¬ zw m'=0)=true:=decide_eq_true h6
   rw [if_pos h6] at hr0
   simp only [go_sem,hA,g6,hr0,Tryz.results14]
   rfl
 ·obtain⟨hx1,hx2⟩:=zrO (zxF hs h5)
  have d5:decide (s.kind=5)=false:=decide_eq_false h5
  have hst:zaL m s k=if (zcI (atM m.ms (m.ms.findIdx (zbD s.label))) s k).2=0 then (zlp m (m.ms.findIdx (zbD s.label)) (zcI (atM m.ms (m.ms.findIdx (zbD s.label))) s k).1,0) else (zbz,(zcI (atM m.ms (m.ms.findIdx (zbD s.label))) s k).2):=if_neg h5
  have hix:=zDZ m.ms 42 [.at_ (zic s)] (zbD s.label) rfl rfl hg.fine.ml fun x _=>zEA x s
  rw [hx1] at hix
  generalize m.ms.findIdx (zbD s.label)=a at hix hx2 hst
  have hma:=zbR m.ms a hx2
  have hmb:=zxD h0 _ (List.getElem_mem hx2)
  rw [hma] at hst
  simp only [go_sem,hA,d5]
  refine zBM 7004 ?_
  simp only [go_sem]
  refine zb 400 hix rfl (by simp only [go_sem,zic,spR]) (by simp only [go_sem,hA]) ?_
  simp only [go_sem,hA,zm,Int.toNat_natCast,zaN m.ms a hx2,zeJ,mixed]
  refine⟨⟨by omega,by omega⟩,?_⟩
  refine zbO 400 (ztI m.ms[a] s k hk (hg.dl _ (List.getElem_mem hx2)) (hg.fine.bd _ (List.getElem_mem hx2)) (Nat.le_trans (zkQ hmb) (by decide))) rfl (by simp only [go_sem,avM,avQ]) (by simp only [go_sem,hA]) ?_
  generalize zcI m.ms[a] s k=r at hst
  obtain⟨x,er⟩:=r
  simp only at hst
  simp only [go_sem,hA,avM]
  refine⟨by show chk _ _ _=true;kernel_rfl,?_⟩
  by_cases he:er=0
  case neg=>
   have de:decide (¬ er=0)=true:=decide_eq_true he
   rw [if_neg he] at hst
   rw [hst,if_pos he] at hr0
   simp only [go_sem,hA,de,hr0,Tryz.results14]
   rfl
  subst he
  rw [if_pos rfl] at hst
  rw [hst] at hr0 hgood
  rw [if_neg (by simp)] at hr0
  simp only at hr0 hgood
  simp only [go_sem,hA]
  refine zEj 38 (zCm m.ms hg.fine.ml) rfl rfl (by simp only [go_sem]) (by simp only [go_sem]) (by simp only [go_sem,hA]) (by simp only [go_sem]) ?_
  have hrow:(zab m.ms).getD a []=zeJ m.ms[a]:=zaN m.ms a hx2
  simp only [go_sem,hA,zm,Int.toNat_natCast,Nat.zero_add,hrow,zeJ]
  refine⟨⟨by omega,by omega⟩,hx2,?_⟩
  refine zlh hAX.2 14002 0 0 (rows:=zab (m.ms.set a x)) (by simp only [go_sem] <;> rfl) rfl (by simp only [go_sem,← zzM,zeJ] <;> rfl) (by rw [zm,List.length_set]) ?_
  generalize hm':zlp m a x=m' at hr0 hgood
  have e1:zab (m.ms.set a x)=zab m'.ms:=by rw [← hm'];rfl
  have e2:zy m.fs=zy m'.fs:=by rw [← hm'];rfl
  have e3:zac m.ts=zac m'.ts:=by rw [← hm'];rfl
  rw [e1]
  refine goC 400 ?_
  simp only [go_sem,hA,e2,e3]
  refine zb 400 (zgW m' hgood.fine) rfl (by simp only [go_sem,avG]) (by simp only [go_sem,hA]) ?_
  by_cases h6:zw m'=0
  ·have g6:(decide ¬ zw m'=0)=false:=by simp [h6]
   rw [if_neg (by simp [h6])] at hr0
   simp only [go_sem,hA,g6,hr0,Tryz.results14]
  ·have g6:(decide ¬ zw m'=0)=true:=decide_eq_true h6
   rw [if_pos h6] at hr0
   simp only [go_sem,hA,g6,hr0,Tryz.results14]
   rfl
end
section
open Go Go.RowKit
def zhl (l:List ByteArray):Bool:=decide (10<l.length) || l.any fun s=>decide (120<s.size)
def zee (d:Dc):Bool:=decide (5<d.names.length) || zol d.body || d.names.any fun s=>decide (100<s.size)
def zed (l:List Dc):Bool:=decide (8<l.length) || l.any zee
abbrev zBK (l:List ByteArray) (q:Nat):St:=⟨[(0,.d (.sl (zv l))),(3,.d (.raw (.int .i64 q)))],[],[]⟩
theorem zrl (l:List ByteArray):Con Tryz.prog 62 [.d (.sl (zv l))] (.d (.raw (.bool (zhl l)))):=by
 refine zh Tryz.func62 rfl (by decide +kernel) rfl rfl (by simp [Tryz.ntmps62]) fun A hA=>?_
 rw [Tryz.ntmps62] at hA
 refine goC 400 ?_
 by_cases h1:10<l.length
 ·have g1:decide ((10:Int)<(l.length:Int))=true:=decide_eq_true (by omega)
  have he:zhl l=true:=by unfold zhl;rw [decide_eq_true h1];rfl
  simp only [go_sem,hA,za,g1,he,Tryz.results62]
 have g1:decide ((10:Int)<(l.length:Int))=false:=decide_eq_false (by omega)
 have he:zhl l=l.any fun s=>decide (120<s.size):=by unfold zhl;rw [decide_eq_false h1];rfl
 simp only [go_sem,hA,za,g1]
 refine zd [0,3] [] [] (fun y σ=>∃ q:Nat,q≤l.length∧y=l.length - q∧((l.take q).any fun s=>decide (120<s.size))=false∧σ=zBK l q) l.length ⟨0,by omega,by omega,rfl,by simp only [go_sem,zBK]⟩ ?_
 rintro y σ ⟨q,hq,rfl,hf,rfl⟩
 refine goC 400 ?_
 by_cases hlt:q<l.length
 ·have k1:decide ((q:Int)<(l.length:Int))=true:=decide_eq_true (by omega)
  by_cases h2:120<l[q].size
  ·have k2:decide ((120:Int)<(l[q].size:Int))=true:=decide_eq_true (by omega)
   rw [zhY hlt (decide_eq_true h2)] at he
   simp only [go_sem,hA,zBK,za,k1,Int.toNat_natCast,zF l q hlt,k2,he,Tryz.results62]
   exact⟨by omega,by omega⟩
  ·have k2:decide ((120:Int)<(l[q].size:Int))=false:=decide_eq_false (by omega)
   simp only [go_sem,hA,zBK,za,k1,Int.toNat_natCast,zF l q hlt,k2]
   exact⟨⟨by omega,by omega⟩,by unfold zc;omega,l.length - (q+1),by omega,q+1,by omega,rfl,zbr hlt hf (decide_eq_false h2),rfl⟩
 ·have k1:decide ((q:Int)<(l.length:Int))=false:=decide_eq_false (by omega)
  obtain rfl:q=l.length:=by omega
  rw [List.take_length] at hf
  rw [hf] at he
  simp only [go_sem,hA,zBK,za,k1,he,Tryz.results62]
abbrev zBS (l:List Dc) (q:Nat):St:=⟨[(0,.d (.sl (zak l))),(3,.d (.raw (.int .i64 q)))],[],[]⟩
abbrev zub (l:List Dc) (q k:Nat):St:=⟨[(0,.d (.sl (zak l))),(3,.d (.raw (.int .i64 q))),(4,.d (.raw (.int .i64 k)))],[],[]⟩
theorem zpa (l:List Dc) (hb:∀ d ∈ l,nodesE d.body≤1048576):Con Tryz.prog 63 [.d (.sl (zak l))] (.d (.raw (.bool (zed l)))):=by
 refine zh Tryz.func63 rfl (by decide +kernel) rfl rfl (by simp [Tryz.ntmps63]) fun A hA=>?_
 rw [Tryz.ntmps63] at hA
 refine goC 400 ?_
 by_cases h1:8<l.length
 ·have g1:decide ((8:Int)<(l.length:Int))=true:=decide_eq_true (by omega)
  have he:zed l=true:=by unfold zed;rw [decide_eq_true h1];rfl
  simp only [go_sem,hA,zf,g1,he,Tryz.results63]
 have g1:decide ((8:Int)<(l.length:Int))=false:=decide_eq_false (by omega)
 have he:zed l=l.any zee:=by unfold zed;rw [decide_eq_false h1];rfl
 simp only [go_sem,hA,zf,g1]
 refine zd [0,3] [] [] (fun y σ=>∃ q:Nat,q≤l.length∧y=l.length - q∧(l.take q).any zee=false∧σ=zBS l q) l.length ⟨0,by omega,by omega,rfl,by simp only [go_sem,zBS]⟩ ?_
 rintro y σ ⟨q,hq,rfl,hf,rfl⟩
 refine goC 400 ?_
 by_cases hlt:q<l.length
 case neg=>
  have k1:decide ((q:Int)<(l.length:Int))=false:=decide_eq_false (by omega)
  obtain rfl:q=l.length:=by omega
  rw [List.take_length] at hf
  rw [hf] at he
  simp only [go_sem,hA,zBS,zf,k1,he,Tryz.results63]
 have k1:decide ((q:Int)<(l.length:Int))=true:=decide_eq_true (by omega)
 obtain⟨d,hd⟩:∃ d,l[q]=d:=⟨_,rfl⟩
 have cg:=zAT d.body (hb d (by rw [← hd];exact List.getElem_mem hlt))
 have hhit:zee d=true→zed l=true:=fun h=>by rw [he];exact zhY hlt (by rw [hd];exact h)
 by_cases h2:5<d.names.length
 ·have k2:decide ((5:Int)<(d.names.length:Int))=true:=decide_eq_true (by omega)
  have hr:=hhit (by unfold zee;rw [decide_eq_true h2];rfl)
  simp only [go_sem,hA,zBS,zf,za,k1,Int.toNat_natCast,zS l q hlt,hd,zcW,k2,undef,hr,Tryz.results63]
  exact⟨by omega,by omega⟩
 have k2:decide ((5:Int)<(d.names.length:Int))=false:=decide_eq_false (by omega)
 simp only [go_sem,hA,zBS,zf,za,k1,Int.toNat_natCast,zS l q hlt,hd,zcW,k2]
 refine⟨⟨by omega,by omega⟩,⟨by omega,by omega⟩,?_⟩
 refine zb 300 cg rfl (by simp only [go_sem,zl]) (by simp only [go_sem,hA]) ?_
 cases hg:zol d.body with
 | true=>
  have hr:=hhit (by unfold zee;rw [hg];simp)
  simp only [go_sem,hA,hr,Tryz.results63]
 | false=>
  have hdc:zee d=d.names.any fun s=>decide (100<s.size):=by unfold zee;rw [hg,decide_eq_false h2];rfl
  simp only [go_sem,hA]
  refine zd [0,3,4] [] [] (fun y σ=>∃ k:Nat,k≤d.names.length∧y=d.names.length - k∧((d.names.take k).any fun s=>decide (100<s.size))=false∧σ=zub l q k) d.names.length ⟨0,by omega,by omega,rfl,by simp only [go_sem,zub]⟩ ?_
  rintro y σ ⟨k,hk,rfl,hf2,rfl⟩
  refine goC 400 ?_
  by_cases hkl:k<d.names.length
  ·have k3:decide ((k:Int)<(d.names.length:Int))=true:=decide_eq_true (by omega)
   by_cases h4:100<d.names[k].size
   ·have k4:decide ((100:Int)<(d.names[k].size:Int))=true:=decide_eq_true (by omega)
    have hr:=hhit (by rw [hdc];exact zhY hkl (decide_eq_true h4))
    simp only [go_sem,hA,zub,zf,za,k3,Int.toNat_natCast,zS l q hlt,hd,zcW,zF d.names k hkl,k4,hr,Tryz.results63]
    exact⟨⟨by omega,by omega⟩,⟨by omega,by omega⟩,by omega,by omega⟩
   ·have k4:decide ((100:Int)<(d.names[k].size:Int))=false:=decide_eq_false (by omega)
    simp only [go_sem,hA,zub,zf,za,k3,Int.toNat_natCast,zS l q hlt,hd,zcW,zF d.names k hkl,k4]
    exact⟨⟨by omega,by omega⟩,⟨by omega,by omega⟩,⟨by omega,by omega⟩,by unfold zc;omega,d.names.length - (k+1),by omega,k+1,by omega,rfl,zbr hkl hf2 (decide_eq_false h4),rfl⟩
  ·have k3:decide ((k:Int)<(d.names.length:Int))=false:=decide_eq_false (by omega)
   obtain rfl:k=d.names.length:=by omega
   rw [List.take_length] at hf2
   simp only [go_sem,hA,zub,zf,za,k3,Int.toNat_natCast,zS l q hlt,hd,zcW]
   exact⟨⟨by omega,by omega⟩,by unfold zc;omega,l.length - (q+1),by omega,q+1,by omega,rfl,zbr hlt hf (by rw [hd,hdc];exact hf2),rfl⟩
end
section
open Go Go.RowKit
def zhR (x:Fl):Bool:=decide ((120:Int)<(x.path.size:Int)) || decide ((200:Int)<(x.data.size:Int))
def zeH (l:List Fl):Bool:=decide (10<l.length) || l.any zhR
def zgt (x:Mo):Bool:=decide ((120:Int)<(x.label.size:Int)) || (zhl x.uses || zed x.decls)
def zhQ (x:Tc):Bool:=decide ((120:Int)<(x.path.size:Int)) || (decide ((300:Int)<(x.base.size:Int)) || (decide ((300:Int)<(x.left.size:Int)) || decide ((300:Int)<(x.right.size:Int))))
def zgu (m:Mg):Bool:=decide ((4:Int)<(m.ms.length:Int)) || (zeH m.fs || (decide ((6:Int)<(m.ts.length:Int)) || (m.ms.any zgt || m.ts.any zhQ)))
abbrev zBQ (l:List Fl) (q:Nat):St:=⟨[(0,.d (.sl (zy l))),(3,.d (.raw (.int .i64 q)))],[],[]⟩
theorem zyW (l:List Fl):Con Tryz.prog 24 [.d (.sl (zy l))] (.d (.raw (.bool (zeH l)))):=by
 refine zh Tryz.func24 rfl (by decide +kernel) rfl rfl (by simp [Tryz.ntmps24]) fun A hA=>?_
 rw [Tryz.ntmps24] at hA
 refine goC 400 ?_
 by_cases h1:10<l.length
 ·have g1:decide ((10:Int)<(l.length:Int))=true:=decide_eq_true (by omega)
  have he:zeH l=true:=by unfold zeH;rw [decide_eq_true h1];rfl
  simp only [go_sem,hA,ze,g1,he,Tryz.results24]
 have g1:decide ((10:Int)<(l.length:Int))=false:=decide_eq_false (by omega)
 have he:zeH l=l.any zhR:=by unfold zeH;rw [decide_eq_false h1];rfl
 simp only [go_sem,hA,ze,g1]
 refine zd [0,3] [] [] (fun y σ=>∃ q:Nat,q≤l.length∧y=l.length - q∧((l.take q).any zhR)=false∧σ=zBQ l q) l.length ⟨0,by omega,by omega,rfl,by simp only [go_sem,zBQ]⟩ ?_
 rintro y σ ⟨q,hq,rfl,hf,rfl⟩
 refine goC 400 ?_
 by_cases hlt:q<l.length
 ·have k1:decide ((q:Int)<(l.length:Int))=true:=decide_eq_true (by omega)
  have hx:zhR l[q]=(decide ((120:Int)<(l[q].path.size:Int)) || decide ((200:Int)<(l[q].data.size:Int))):=rfl
  cases d1:decide ((120:Int)<(l[q].path.size:Int)) <;> cases d2:decide ((200:Int)<(l[q].data.size:Int))
  all_goals rw [d1,d2] at hx
  ·simp only [go_sem,hA,zBQ,ze,k1,Int.toNat_natCast,zL l q hlt,d1,d2]
   exact⟨⟨by omega,by omega⟩,⟨by omega,by omega⟩,by unfold zc;omega,l.length - (q+1),by omega,q+1,by omega,rfl,zbr hlt hf hx,rfl⟩
  all_goals
   rw [zhY hlt hx] at he
   simp only [go_sem,hA,zBQ,ze,k1,Int.toNat_natCast,zL l q hlt,d1,d2,undef,he,Tryz.results24]
  ·exact⟨⟨by omega,by omega⟩,by omega,by omega⟩
  ·exact⟨by omega,by omega⟩
  ·exact⟨by omega,by omega⟩
 ·have k1:decide ((q:Int)<(l.length:Int))=false:=decide_eq_false (by omega)
  obtain rfl:q=l.length:=by omega
  rw [List.take_length] at hf
  rw [hf] at he
  simp only [go_sem,hA,zBQ,ze,k1,he,Tryz.results24]
theorem zvH (x:Mo) (hb:∀ d ∈ x.decls,nodesE d.body≤1048576):Con Tryz.prog 25 [avM x] (.d (.raw (.bool (zgt x)))):=by
 refine zh Tryz.func25 rfl (by decide +kernel) rfl rfl (by simp [Tryz.ntmps25]) fun A hA=>?_
 rw [Tryz.ntmps25] at hA
 refine goC 400 ?_
 have hr:zgt x=(decide ((120:Int)<(x.label.size:Int)) || (zhl x.uses || zed x.decls)):=rfl
 cases d1:decide ((120:Int)<(x.label.size:Int)) with
 | true=>
  rw [d1] at hr
  simp only [go_sem,hA,avM,d1,undef,hr,Bool.true_or,Tryz.results25]
 | false=>
  rw [d1,Bool.false_or] at hr
  simp only [go_sem,hA,avM,d1]
  refine zb 300 (zrl x.uses) rfl (by simp only [go_sem]) (by simp only [go_sem,hA]) ?_
  cases d2:zhl x.uses with
  | true=>
   rw [d2] at hr
   simp only [go_sem,hA,undef,hr,Bool.true_or,Tryz.results25]
  | false=>
   rw [d2,Bool.false_or] at hr
   simp only [go_sem,hA]
   refine zb 300 (zpa x.decls hb) rfl (by simp only [go_sem]) (by simp only [go_sem,hA]) ?_
   simp only [go_sem,hA,hr,Tryz.results25]
abbrev zxP (m:Mg) (q:Nat):St:=⟨[(1,.box 0 0),(3,.d (.raw (.int .i64 q)))],[(0,some (.cell 26 [.d (.sl (zab m.ms)),.d (.sl (zy m.fs)),.d (.sl (zac m.ts))]))],[]⟩
abbrev zua (m:Mg) (q:Nat):St:=⟨[(1,.box 0 0),(4,.d (.raw (.int .i64 q)))],[(0,some (.cell 26 [.d (.sl (zab m.ms)),.d (.sl (zy m.fs)),.d (.sl (zac m.ts))]))],[]⟩
theorem zyV (m:Mg) (hb:∀ x ∈ m.ms,∀ d ∈ x.decls,nodesE d.body≤1048576):Con Tryz.prog 7 [avG m] (.d (.raw (.bool (zgu m)))):=by
 refine zh Tryz.func7 rfl (by decide +kernel) rfl rfl (by simp [Tryz.ntmps7]) fun A hA=>?_
 rw [Tryz.ntmps7] at hA
 refine goC 400 ?_
 have hr:zgu m=(decide ((4:Int)<(m.ms.length:Int)) || (zeH m.fs || (decide ((6:Int)<(m.ts.length:Int)) || (m.ms.any zgt || m.ts.any zhQ)))):=rfl
 cases d1:decide ((4:Int)<(m.ms.length:Int)) with
 | true=>
  rw [d1] at hr
  simp only [go_sem,hA,avG,zm,d1,undef,hr,Bool.true_or,Tryz.results7]
 | false=>
 rw [d1,Bool.false_or] at hr
 have hml:¬ 4<m.ms.length:=fun h=>by have:=of_decide_eq_false d1;omega
 simp only [go_sem,hA,avG,zm,d1]
 refine zb 300 (zyW m.fs) rfl (by simp only [go_sem]) (by simp only [go_sem,hA]) ?_
 cases d2:zeH m.fs with
 | true=>
  rw [d2] at hr
  simp only [go_sem,hA,undef,hr,Bool.true_or,Tryz.results7]
 | false=>
 rw [d2,Bool.false_or] at hr
 cases d3:decide ((6:Int)<(m.ts.length:Int)) with
 | true=>
  rw [d3] at hr
  simp only [go_sem,hA,zn,d3,hr,Bool.true_or,Tryz.results7]
 | false=>
 rw [d3,Bool.false_or] at hr
 have htl:¬ 6<m.ts.length:=fun h=>by have:=of_decide_eq_false d3;omega
 simp only [go_sem,hA,zn,d3]
 refine zd [1,3] [0] [] (fun y σ=>∃ q:Nat,q≤m.ms.length∧y=m.ms.length - q∧((m.ms.take q).any zgt)=false∧σ=zxP m q) m.ms.length ⟨0,by omega,by omega,rfl,by simp only [go_sem,zxP]⟩ ?_
 rintro y σ ⟨q,hq,rfl,hf,rfl⟩
 refine goC 400 ?_
 by_cases hlt:q<m.ms.length
 ·have k1:decide ((q:Int)<(m.ms.length:Int))=true:=decide_eq_true (by omega)
  simp only [go_sem,hA,zxP,zm,k1,Int.toNat_natCast,zaN m.ms q hlt,zeJ]
  refine⟨⟨by omega,by omega⟩,?_⟩
  refine zb 300 (zvH m.ms[q] (hb _ (List.getElem_mem hlt))) rfl (by simp only [go_sem,avM]) (by simp only [go_sem,hA]) ?_
  cases hx:zgt m.ms[q] with
  | true=>
   rw [zhY hlt hx,Bool.true_or] at hr
   simp only [go_sem,hA,hr,Tryz.results7]
  | false=>
   simp only [go_sem,hA]
   exact⟨by unfold zc;omega,m.ms.length - (q+1),by omega,q+1,by omega,rfl,zbr hlt hf hx,rfl⟩
 have k1:decide ((q:Int)<(m.ms.length:Int))=false:=decide_eq_false (by omega)
 obtain rfl:q=m.ms.length:=by omega
 rw [List.take_length] at hf
 rw [hf,Bool.false_or] at hr
 simp only [go_sem,hA,zxP,zm,k1]
 refine zd [1,4] [0] [] (fun y σ=>∃ q:Nat,q≤m.ts.length∧y=m.ts.length - q∧((m.ts.take q).any zhQ)=false∧σ=zua m q) m.ts.length ⟨0,by omega,by omega,rfl,by simp only [go_sem,zua]⟩ ?_
 clear hf hlt k1 hq
 rintro y σ ⟨q,hq,rfl,hf,rfl⟩
 refine goC 400 ?_
 by_cases hlt:q<m.ts.length
 ·have k1:decide ((q:Int)<(m.ts.length:Int))=true:=decide_eq_true (by omega)
  have hx:zhQ m.ts[q]=(decide ((120:Int)<(m.ts[q].path.size:Int)) || (decide ((300:Int)<(m.ts[q].base.size:Int)) || (decide ((300:Int)<(m.ts[q].left.size:Int)) || decide ((300:Int)<(m.ts[q].right.size:Int))))):=rfl
  cases e1:decide ((120:Int)<(m.ts[q].path.size:Int)) <;> cases e2:decide ((300:Int)<(m.ts[q].base.size:Int)) <;> cases e3:decide ((300:Int)<(m.ts[q].left.size:Int)) <;> cases e4:decide ((300:Int)<(m.ts[q].right.size:Int))
  all_goals rw [e1,e2,e3,e4] at hx
  ·simp only [go_sem,hA,zua,zn,k1,Int.toNat_natCast,zaO m.ts q hlt,zfj,e1,e2,e3,e4]
   exact⟨⟨by omega,by omega⟩,by unfold zc;omega,m.ts.length - (q+1),by omega,q+1,by omega,rfl,zbr hlt hf hx,rfl⟩
  all_goals
   rw [zhY hlt hx] at hr
   simp only [go_sem,hA,zua,zn,k1,Int.toNat_natCast,zaO m.ts q hlt,zfj,e1,e2,e3,e4,undef,hr,Tryz.results7]
   exact⟨by omega,by omega⟩
 ·have k1:decide ((q:Int)<(m.ts.length:Int))=false:=decide_eq_false (by omega)
  obtain rfl:q=m.ts.length:=by omega
  rw [List.take_length] at hf
  rw [hf] at hr
  simp only [go_sem,hA,zua,zn,k1,hr,Tryz.results7]
end
section
open Go Go.RowKit
abbrev zAy (x y:Mg) (q:Nat):St:=⟨[(2,.box 0 0),(3,.box 1 0),(5,.d (.raw (.int .i64 q)))],[(0,some (.cell 26 [.d (.sl (zab x.ms)),.d (.sl (zy x.fs)),.d (.sl (zac x.ts))])),(1,some (.cell 26 [.d (.sl (zab y.ms)),.d (.sl (zy y.fs)),.d (.sl (zac y.ts))]))],[]⟩
theorem zAN (x y:Mg) (hm:x.ms.length≤1048576) (hf:x.fs.length≤1048576) (ht:x.ts.length≤1048576) (hb:∀ z ∈ x.ms,z.uses.length≤1048576∧z.decls.length≤1048576∧∀ d ∈ z.decls,nodesE d.body≤1048576∧d.names.length≤1048576) :
  Con Tryz.prog 16 [avG x,avG y] (.d (.raw (.bool (eqG x y)))):=by
 refine zh Tryz.func16 rfl (by decide +kernel) rfl rfl (by simp [Tryz.ntmps16]) fun A hA=>?_
 rw [Tryz.ntmps16] at hA
 refine goC 400 ?_
 have hr:eqG x y=(zdL zmf x.ms y.ms && (zdL zos x.fs y.fs && zdL zuh x.ts y.ts)):=rfl
 simp only [go_sem,hA,avG]
 refine zb 400 (zta x.ms y.ms hm hb) rfl (by simp only [go_sem]) (by simp only [go_sem,hA]) ?_
 cases d1:zdL zmf x.ms y.ms with
 | false=>
  rw [d1,Bool.false_and] at hr
  simp only [go_sem,hA,undef,hr,Tryz.results16]
 | true=>
 rw [d1,Bool.true_and] at hr
 simp only [go_sem,hA]
 refine zb 400 (zri x.fs y.fs hf) rfl (by simp only [go_sem]) (by simp only [go_sem,hA]) ?_
 cases d2:zdL zos x.fs y.fs with
 | false=>
  rw [d2,Bool.false_and] at hr
  simp only [go_sem,hA,undef,hr,Tryz.results16]
 | true=>
 rw [d2,Bool.true_and] at hr
 by_cases hlm:x.ts.length=y.ts.length
 ·have g0:(decide ¬ (x.ts.length:Int)=(y.ts.length:Int))=false:=decide_eq_false (by omega)
  simp only [go_sem,hA,zn,g0]
  refine zd [2,3,5] [0,1] [] (fun n σ=>∃ q:Nat,q≤x.ts.length∧n=x.ts.length - q∧x.ts.take q=y.ts.take q∧σ=zAy x y q) x.ts.length ⟨0,by omega,by omega,rfl,by simp only [go_sem,zAy]⟩ ?_
  rintro n σ ⟨q,hq,rfl,hf,rfl⟩
  refine goC 400 ?_
  by_cases hlt:q<x.ts.length
  ·have g1:decide ((q:Int)<(x.ts.length:Int))=true:=decide_eq_true (by omega)
   have hq2:q<y.ts.length:=by omega
   obtain⟨d,hd⟩:∃ d,x.ts[q]=d:=⟨_,rfl⟩
   obtain⟨e,he⟩:∃ e,y.ts[q]=e:=⟨_,rfl⟩
   have hrr:(decide (d.path=e.path) && ((d.inB == e.inB) && ((d.inL == e.inL) && ((d.inR == e.inR) && (decide (d.base=e.base) && (decide (d.left=e.left) && decide (d.right=e.right)))))))=zuh d e:=rfl
   cases hs:zuh d e with
   | true=>
    have hde:=(zfI d e).1 hs
    rw [hs] at hrr
    simp only [go_sem,hA,zAy,zn,g1,Int.toNat_natCast,zaO x.ts q hlt,zaO y.ts q hq2,hd,he,zfj,String.reduceEq,hrr,Bool.not_true,mixed]
    exact⟨⟨by omega,by omega⟩,⟨by omega,by omega⟩,⟨by kernel_rfl,by kernel_rfl⟩,by show chk _ _ _=true;kernel_rfl,by unfold zc;omega,x.ts.length - (q+1),by omega,q+1,by omega,rfl,by rw [List.take_succ_eq_append_getElem hlt,List.take_succ_eq_append_getElem hq2,hf,hd,he,hde],rfl⟩
   | false=>
    rw [hs] at hrr
    have hne:zdL zuh x.ts y.ts=false:=zdl zfI fun e'=>by
     have:x.ts[q]=y.ts[q]:=by simp only [e']
     rw [hd,he] at this
     rw [(zfI d e).2 this] at hs
     cases hs
    rw [hne] at hr
    simp only [go_sem,hA,zAy,zn,g1,Int.toNat_natCast,zaO x.ts q hlt,zaO y.ts q hq2,hd,he,zfj,String.reduceEq,hrr,Bool.not_false,hr,mixed,Tryz.results16]
    exact⟨⟨by omega,by omega⟩,⟨by omega,by omega⟩,⟨by kernel_rfl,by kernel_rfl⟩,by show chk _ _ _=true;kernel_rfl⟩
  ·have g1:decide ((q:Int)<(x.ts.length:Int))=false:=decide_eq_false (by omega)
   obtain rfl:q=x.ts.length:=by omega
   have he:x.ts=y.ts:=by rw [List.take_length,List.take_of_length_le (by omega)] at hf;exact hf
   rw [(zdK zfI _ _).2 he] at hr
   simp only [go_sem,hA,zAy,zn,g1,Tryz.results16,hr]
 ·have g0:(decide ¬ (x.ts.length:Int)=(y.ts.length:Int))=true:=decide_eq_true (by omega)
  have hne:zdL zuh x.ts y.ts=false:=zdl zfI fun e=>hlm (by rw [e])
  rw [hne] at hr
  simp only [go_sem,hA,zn,g0,Tryz.results16,hr]
end
section
open Go Go.RowKit
theorem zep {α:Type} {p:α→Bool} {l:List α} (h:l.any p=false) {x:α} (hx:x ∈ l):p x=false:=by
 cases hp:p x with
 | false=>rfl
 | true=>rw [List.any_eq_true.2 ⟨x,hx,hp⟩] at h;cases h
theorem zok {m:Mg} (h:zgu m=false):m.Good:=by
 simp only [zgu,Bool.or_eq_false_iff,decide_eq_false_iff_not] at h
 obtain⟨h1,h2,h3,h4,h5⟩:=h
 simp only [zeH,Bool.or_eq_false_iff,decide_eq_false_iff_not] at h2
 have hm:∀ x ∈ m.ms,x.decls.length≤8∧∀ d ∈ x.decls,nodesE d.body≤40:=fun x hx=>by
  have:=zep h4 hx
  simp only [zgt,zed,Bool.or_eq_false_iff,decide_eq_false_iff_not] at this
  refine⟨by omega,fun d hd=>?_⟩
  have h6:=zep this.2.2.2 hd
  simp only [zee,Bool.or_eq_false_iff] at h6
  have h7:=h6.1.2
  simp only [zol,Bool.or_eq_false_iff,decide_eq_false_iff_not] at h7
  omega
 refine⟨⟨by omega,by omega,fun x hx d hd=>?_,fun x hx=>?_,fun x hx=>?_⟩,by omega,fun x hx=>?_⟩
 ·have:=(hm x hx).2 d hd;omega
 ·have:=zep h2.2 hx
  simp only [zhR,Bool.or_eq_false_iff,decide_eq_false_iff_not] at this
  omega
 ·have:=zep h5 hx
  simp only [zhQ,Bool.or_eq_false_iff,decide_eq_false_iff_not] at this
  omega
 ·have:=(hm x hx).1;omega
def zBw (m:Mg):List Sq:=if zw m=0 then zK m else []
theorem zzr (m:Mg):ztL m=zaI (zBw m):=by
 unfold ztL zBw
 split
 ·exact zqe m
 ·rfl
theorem zzX {m:Mg} {i side:Int} (h:(zaT m i side).2=0):zw (zaT m i side).1=0:=by
 unfold zaT at h ⊢
 split
 ·rename_i h1;rw [if_pos h1] at h;exact absurd h h1
 rename_i h1;rw [if_neg h1] at h
 split
 ·rename_i h2;rw [if_pos h2] at h;exact absurd h (by simp)
 rename_i h2;rw [if_neg h2] at h
 split
 ·rename_i h3;rw [if_pos h3] at h;exact absurd h h3
 rename_i h3;rw [if_neg h3] at h
 split
 ·rename_i h4;rw [if_pos h4] at h;exact absurd h h4
 ·rename_i h4;exact Decidable.not_not.1 h4
theorem zwH {m:Mg} {i side:Int} (h:¬ (zaT m i side).2=0):(zaT m i side).1=zbz:=by
 unfold zaT at h ⊢
 split
 ·rfl
 rename_i h1;rw [if_neg h1] at h
 split
 ·rfl
 rename_i h2;rw [if_neg h2] at h
 split
 ·rfl
 rename_i h3;rw [if_neg h3] at h
 split
 ·rfl
 ·rename_i h4;rw [if_neg h4] at h;exact absurd rfl h
end
section
open Go Go.RowKit
variable {P:Program} {A:Base P} {σ:St}
def zwx (n:Int):Bool:=decide (-9223372036854775808≤n) && decide (n≤9223372036854775807)
theorem zrR {n:Int} (h:zwx n=true):zc n:=by
 unfold zwx at h
 simp only [Bool.and_eq_true,decide_eq_true_eq] at h
 exact h
def zdB (σ:St):AV→Bool
 | .box _ _=>true
 | .at_ _=>true
 | .elem r _ i _=>match σ.blk r with
  | some (.row _ _ rows)=>decide (i<rows.length)
  | _=>false
 | .selem r _ ver i _=>match σ.tok r with
  | some k=>match k.ex with
   | some rows=>decide (k.len=ver) && decide (i<rows.length)
   | none=>false
  | none=>false
 | _=>false
theorem ztD {t:TypeId} {p x:AV} {e:Eff} {n:Prop} (h:zbk P σ t p=some (x,e,n)) (hb:zdB σ p=true):n:=by
 cases p with
 | box r j=>
  simp only [zbk] at h
  split at h
  ·cases hl:zaw P t _ with
   | none=>rw [hl] at h;cases h
   | some y=>rw [hl] at h;cases h;trivial
  ·cases h
 | at_ cs=>
  simp only [zbk] at h
  cases hl:zaw P t (cs.map .d) with
  | none=>rw [hl] at h;cases h
  | some y=>rw [hl] at h;cases h;trivial
 | elem r st i j=>
  simp only [zbk] at h
  simp only [zdB] at hb
  split at h
  ·rename_i st' ty rows hr
   rw [hr] at hb
   split at h
   ·cases hl:zaw P t (((rows.getD i []).drop j).map .d) with
    | none=>rw [hl] at h;cases h
    | some y=>rw [hl] at h;cases h;simpa using hb
   ·cases h
  ·cases h
 | selem r st ver i j=>
  simp only [zbk] at h
  simp only [zdB] at hb
  split at h
  ·rename_i k hr
   rw [hr] at hb
   simp only at hb
   split at h
   ·rename_i rows hx
    rw [hx] at hb
    split at h
    ·cases hl:zaw P t (((rows.getD i []).drop j).map .d) with
     | none=>rw [hl] at h;cases h
     | some y=>rw [hl] at h;cases h;simpa using hb
    ·cases h
   ·cases h
  ·cases h
 | _=>cases hb
theorem zrF {t:TypeId} {p x y:AV} {e:Eff} {n:Prop} (h:zaM P σ t y p=some (x,e,n)) (hb:zdB σ p=true):n:=by
 cases p with
 | box r j=>
  simp only [zaM] at h
  split at h
  ·split at h
   ·cases h;trivial
   ·cases h
  ·cases h
 | at_ cs=>simp only [zaM] at h;cases h
 | elem r st i j=>
  simp only [zaM] at h
  simp only [zdB] at hb
  split at h
  ·rename_i st' ty rows hr
   rw [hr] at hb
   split at h
   ·split at h
    ·cases h;simpa using hb
    ·cases h
   ·cases h
  ·cases h
 | selem r st ver i j=>
  simp only [zaM] at h
  simp only [zdB] at hb
  split at h
  ·rename_i k hr
   rw [hr] at hb
   simp only at hb
   split at h
   ·rename_i rows ds hx hd
    rw [hx] at hb
    split at h
    ·cases h;simpa using hb
    ·cases h
   ·cases h
  ·cases h
 | _=>cases hb
def zfA (P:Program) (t:TypeId):AV→AV→Bool
 | .own _ len,.d (.raw (.int _ i))=>decide (0≤i) && decide (i<(len:Nat))
 | .stk _ _ _ _ len,.d (.raw (.int _ i))=>decide (0≤i) && decide (i<(len:Nat))
 | x,.d (.raw (.int _ i))=>match P.underlying t,x.rows with
  | some (.slice e),some rows=>decide (0≤i) && (decide (i<(rows.length:Nat)) && decide ((rows.getD i.toNat []).length=P.cellsOf e))
  | _,_=>false
 | _,_=>false
theorem zrH {t:TypeId} {p q x:AV} {e:Eff} {n:Prop} (h:zfy P t p q=some (x,e,n)) (hb:zfA P t p q=true):n:=by
 unfold zfy at h
 split at h
 ·rename_i k i
  split at h
  ·rename_i el ht
   split at h
   ·simp only [zfA] at hb
    split at h
    ·cases h
    ·cases h;simpa using hb
   ·simp only [zfA] at hb
    split at h
    ·cases h
    ·split at h
     ·cases h;simpa using hb
     ·cases h
   ·rename_i x' hn1 hn2
    split at h
    ·rename_i rows hr
     have hb':(decide (0≤i) && (decide (i<(rows.length:Nat)) && decide ((rows.getD i.toNat []).length=P.cellsOf el)))=true:=by
      unfold zfA at hb
      split at hb
      ·rename_i r len _ _ heq;exact absurd rfl (hn1 _ _)
      ·rename_i heq;exact absurd rfl (hn2 _ _ _ _ _)
      ·rename_i heq
       cases heq
       rw [ht,hr] at hb
       exact hb
      ·cases hb
     split at h
     ·cases h
     ·cases h;simpa using hb'
    ·cases h
  ·cases h
 ·cases h
def ztR:IntKind→Bool
 | .i64=>true
 | _=>false
def zpX (op:BinOp) (x y:Value):Bool:=
 match x,y with
 | .int k a,.int _ b=>
  match op with
  | .add=>!ztR k || zwx (a+b)
  | .sub=>!ztR k || zwx (a - b)
  | .mul=>!ztR k || zwx (a * b)
  | .quo=>decide (b≠0) && (!ztR k || zwx (a.tdiv b))
  | .rem=>decide (b≠0)
  | _=>true
 | .string a,.string b=>decide (((a.size+b.size:Nat):Int)≤9223372036854775807)
 | _,_=>true
theorem zBp {op:BinOp} {x y:Value} {r:Value × Prop} (h:zoI op x y=some r) (hb:zpX op x y=true):r.2:=by
 unfold zoI at h
 split at h
 ·simp only [zpX,ztR,Bool.not_true,Bool.false_or] at hb
  split at h <;> (first | (cases h;first | trivial | exact zrR hb | (simp only [Bool.and_eq_true,decide_eq_true_eq] at hb;exact⟨hb.1,zrR hb.2⟩) | simpa using hb) | cases h)
 ·simp only [zpX] at hb
  split at h
  ·split at h <;> (first | (cases h;first | trivial | (simp only [Bool.and_eq_true,decide_eq_true_eq] at hb;exact hb.1) | simpa using hb) | cases h)
  ·cases h
 ·simp only [zpX] at hb
  split at h <;> (first | (cases h;first | trivial | simpa using hb) | cases h)
 ·cases h
def znQ (P:Program) (t:TypeId) (x y:AV):Bool:=
 match P.underlying t with
 | some (.int _)=>match x,y with
  | .d (.raw (.int k _)),.d (.raw (.int yk b))=>decide (0≤b) && decide (k=yk)
  | _,_=>false
 | some (.pointer _)=>true
 | some (.struct _)=>!P.stoodInHeld t && !P.eqGuardType P.depth t
 | some (.array 2 e)=>decide (P.cellsOf e=1) && (decide (zba P e=some false) && !P.eqGuardType P.depth t)
 | _=>false
theorem zfL {op:BinOp} {b:Bool} {need:Prop} {x:AV} {e:Eff} {n:Prop} (h:zot op b need=some (x,e,n)):n=need:=by
 unfold zot at h
 split at h
 ·cases h;rfl
 ·cases h;rfl
 ·cases h
theorem zpY {op:BinOp} {t:TypeId} {x y z:AV} {e:Eff} {n:Prop} (h:znx P op t x y=some (z,e,n)) (hb:znQ P t x y=true):n:=by
 unfold znx at h
 unfold znQ at hb
 split at h
 ·rename_i ht
  rw [ht] at hb
  split at h
  ·simp only [Bool.and_eq_true,decide_eq_true_eq] at hb
   unfold zjx at h
   split at h <;> (first | (cases h;first | exact hb.1 | exact hb.2) | cases h)
  ·cases h
 ·split at h
  ·rw [zfL h];trivial
  ·split at h
   ·rw [zfL h];trivial
   ·split at h
    ·split at h
     ·rw [zfL h];trivial
     ·cases h
    ·cases h
 ·rename_i ht
  rw [ht] at hb
  simp only [Bool.and_eq_true,Bool.not_eq_true'] at hb
  split at h
  ·split at h
   ·split at h
    ·rw [zfL h];exact hb
    ·cases h
   ·cases h
  ·cases h
 ·rename_i ht
  rw [ht] at hb
  simp only [Bool.and_eq_true,Bool.not_eq_true',decide_eq_true_eq] at hb
  split at h
  ·split at h
   ·rw [zfL h];exact hb
   ·cases h
  ·cases h
 ·cases h
def zmq (P:Program) (op:BinOp) (t:TypeId):AV→AV→Bool
 | .d (.raw (.bool _)),.d (.raw (.bool _))=>true
 | .d (.raw x),.d (.raw y)=>match zoI op x y with
  | some _=>zpX op x y
  | none=>znQ P t (.d (.raw x)) (.d (.raw y))
 | x,y=>znQ P t x y
theorem zwj {op:BinOp} {t:TypeId} {p q x:AV} {e:Eff} {n:Prop} (h:zks P op t p q=some (x,e,n)) (hb:zmq P op t p q=true):n:=by
 unfold zks at h
 split at h
 ·split at h
  ·rename_i a b _ _
   cases hq:zoH op a b with
   | none=>rw [hq] at h;cases h
   | some r=>rw [hq] at h;cases h;trivial
  ·cases h
 ·rename_i x' y' hnb
  have hb':(match zoI op x' y' with | some _=>zpX op x' y' | none=>znQ P t (.d (.raw x')) (.d (.raw y')))=true:=by
   unfold zmq at hb
   split at hb
   ·rename_i e1 e2
    cases e1;cases e2
    exact absurd rfl (hnb _ _ rfl)
   ·rename_i e1 e2
    cases e1;cases e2
    exact hb
   ·rename_i hn
    exact absurd rfl (hn _ _ rfl)
  split at h
  ·rename_i r hr
   rw [hr] at hb'
   cases h
   exact zBp hr hb'
  ·rename_i hr
   rw [hr] at hb'
   exact zpY h hb'
 ·rename_i hn1 hn2
  refine zpY h ?_
  unfold zmq at hb
  split at hb
  ·exact absurd rfl (hn1 _ _ rfl)
  ·exact absurd rfl (hn2 _ _ rfl)
  ·exact hb
end
section
open Go Go.RowKit
variable {P:Program} {A:Base P} {σ:St}
def zoN (st:Nat) (rows:List (List D)):Bool:=rows.all fun r=>decide (r.length=st)
theorem zkU {st:Nat} {rows:List (List D)} (h:zoN st rows=true):∀ r ∈ rows,r.length=st:=fun r hr=>by
 have:=List.all_eq_true.1 h r hr
 simpa using this
def zDc (st:Nat) (rows:List (List D)):Bool:=rows.all fun r=>decide (r.length=st) && r.all D.one
theorem zAg {st:Nat} {rows:List (List D)} (h:zDc st rows=true):zD st rows:=fun r hr=>by
 have:=List.all_eq_true.1 h r hr
 simp only [Bool.and_eq_true,decide_eq_true_eq,List.all_eq_true] at this
 exact this
def ziO (P:Program) (kk:Option Tok) (t:TypeId) (x y:AV):Bool:=
 match P.underlying t,y.rows with
 | some (.slice e),some rows2=>zDc (P.cellsOf e) rows2 && (match x with
  | .grow _ rows=>match kk with
   | some k=>decide (rows.length=k.len) && (zoN (P.cellsOf e) rows && decide (rows.length+rows2.length≤1099511627776))
   | none=>false
  | .stk _ _ ver _ len=>match kk with
   | some k=>match k.ex with
    | some rows=>decide (k.len=ver) && (decide (len≤rows.length) && decide (len+rows2.length≤1099511627776))
    | none=>false
   | none=>false
  | _=>decide (rows2.length≤1099511627776))
 | _,_=>false
theorem zpo {kk:Option Tok} {me:Nat} {t:TypeId} {p q x:AV} {e:Eff} {n:Prop} (h:zen P kk me t p q=some (x,e,n)) (hb:ziO P kk t p q=true):n:=by
 unfold zen at h
 unfold ziO at hb
 split at h
 ·rename_i el rows2 ht hq
  rw [ht,hq] at hb
  simp only [Bool.and_eq_true] at hb
  obtain⟨hb1,hb2⟩:=hb
  have hf:=zAg hb1
  split at h
  ·split at h
   ·split at h
    ·simp only at hb2
     split at h
     ·simp only [Bool.and_eq_true,decide_eq_true_eq] at hb2
      split at h
      ·cases h;exact⟨hb2.1,hf,zkU hb2.2.1,hb2.2.2⟩
      ·cases h
     ·cases h
    ·simp only at hb2
     split at h
     ·split at h
      ·rename_i hx
       simp only [hx,Bool.and_eq_true,decide_eq_true_eq] at hb2
       split at h
       ·cases h;exact⟨hb2.1,hf,hb2.2.1,hb2.2.2⟩
       ·cases h
      ·cases h
     ·cases h
    ·simp only [decide_eq_true_eq] at hb2
     cases h;exact⟨hf,hb2⟩
    ·cases h
   ·cases h
  ·cases h
 ·cases h
def zeY (kk:Option Tok) (x y:AV):Bool:=
 match y with
 | .d (.raw (.string s))=>match x with
  | .grow _ rows=>match kk with
   | some k=>decide (rows.length=k.len) && (zoN 1 rows && decide (k.len+s.size≤1099511627776))
   | none=>false
  | _=>decide (s.size≤1099511627776)
 | _=>false
theorem znS {kk:Option Tok} {me:Nat} {t u:TypeId} {p q x:AV} {e:Eff} {n:Prop} (h:zdf P kk me t u p q=some (x,e,n)) (hb:zeY kk p q=true):n:=by
 unfold zdf at h
 split at h
 ·split at h
  ·split at h
   ·split at h
    ·unfold zeY at hb
     simp only at hb
     split at h
     ·simp only [Bool.and_eq_true,decide_eq_true_eq] at hb
      split at h
      ·cases h;exact⟨hb.1,zkU hb.2.1,hb.2.2⟩
      ·cases h
     ·cases h
    ·unfold zeY at hb
     simp only [decide_eq_true_eq] at hb
     cases h;exact hb
    ·cases h
   ·cases h
  ·cases h
 ·cases h
def zky (P:Program) (t:TypeId) (x:AV) (lo hi:Option AV):Bool:=
 match P.underlying t with
 | some .string=>match x with
  | .d (.raw (.string s))=>match zbw lo 0,zbw hi s.size with
   | some l,some h=>decide (0≤l) && (decide (l≤h) && decide (h≤(s.size:Nat)))
   | _,_=>false
  | _=>false
 | some (.slice e)=>match x with
  | .stk _ _ _ _ len=>match zbw lo 0,zbw hi len with
   | some l,some h=>decide (0≤l) && (decide (l≤h) && decide (h≤(len:Nat)))
   | _,_=>false
  | x=>match x.rows with
   | some rows=>match zbw lo 0,zbw hi rows.length with
    | some l,some h=>zoN (P.cellsOf e) rows && (decide (0≤l) && (decide (l≤h) && decide (h≤(rows.length:Nat))))
    | _,_=>false
   | none=>false
 | _=>false
def znR (P:Program) (σ:St) (c:Call):Bool:=
 match c.callee,c.args.toList,c.argTypes.toList with
 | .builtin .len,[_],[_]=>true
 | .builtin .append,[p,q],[t,t']=>if t=t' then ziO P (zja σ (σ.eval p)) t (σ.eval p) (σ.eval q) else zeY (zja σ (σ.eval p)) (σ.eval p) (σ.eval q)
 | _,_,_=>false
theorem ztE {me:Nat} {c:Call} {x:AV} {e:Eff} {n:Prop} (h:zgk P σ me c=some (x,e,n)) (hb:znR P σ c=true):n:=by
 unfold zgk at h
 unfold znR at hb
 split at h
 ·unfold zru at h
  split at h
  ·cases h;trivial
  ·cases h;trivial
  ·cases h;trivial
  ·rename_i q _ _
   cases hr:AV.rows _ with
   | none=>rw [hr] at h;cases h
   | some rows=>rw [hr] at h;cases h;trivial
  ·cases h
 ·rename_i h1 h2 h3
  rw [h1,h2,h3] at hb
  simp only at hb
  split at h
  ·rename_i ht
   rw [if_pos ht] at hb
   exact zpo h hb
  ·rename_i ht
   rw [if_neg ht] at hb
   exact znS h hb
 ·rename_i h1 h2 h3
  rw [h1,h2,h3] at hb
  cases hb
 ·cases h
def ztG (P:Program) (σ:St):Op→Bool
 | .load _ p=>zdB σ (σ.eval p)
 | .store _ p _=>zdB σ (σ.eval p)
 | .binOp op t p q _=>zmq P op t (σ.eval p) (σ.eval q)
 | .unOp .not _ _=>true
 | .unOp .neg _ p=>match σ.eval p with
  | .d (.raw (.int .i64 n))=>zwx (-n)
  | _=>false
 | .indexAddr t p q=>zfA P t (σ.eval p) (σ.eval q)
 | .index _ p q=>match σ.eval p,σ.eval q with
  | .d (.raw (.string s)),.d (.raw (.int _ i))=>decide (0≤i) && decide (i<(s.size:Nat))
  | _,_=>false
 | .slice t p lo hi none=>zky P t (σ.eval p) (lo.map σ.eval) (hi.map σ.eval)
 | .call c=>znR P σ c
 | .move _ | .assign _ | .pick _ _ _ | .alloc _ | .box _ _ | .convert _ _ _ | .extract _ _ | .field _ _ _ | .fieldAddr _ _ _ | .buildSlice _ _ _ | .build _ _ | .makeFunc _ _ _ | .nilCheck _ | .makeInterface _ _=>true
 | _=>false
end
end Go.Proofs.YtpnjjmcimjlfkaaGreatDoor
