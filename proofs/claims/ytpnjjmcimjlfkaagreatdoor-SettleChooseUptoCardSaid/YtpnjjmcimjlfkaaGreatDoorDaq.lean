/- Texts of this proof, part 17: what the proof uses of them. -/
import Derived.Test.YtpnjjmcimjlfkaaGreatDoorDap
import Derived.Test.YtpnjjmcimjlfkaaGreatDoorDao
import Derived.Test.YtpnjjmcimjlfkaaGreatDoorDam
import Derived.Test.YtpnjjmcimjlfkaaGreatDoorCards
import Derived.Test.YtpnjjmcimjlfkaaGreatDoorTie
import Derived.WalkKit
import Derived.ProofKit
import Derived.OpenShut
import Derived.Deep.DeepHandedRow
import Derived.Lib.LaidTab
import Derived.Below
import Derived.ChangeSame
import Derived.Stop.LaidErr
import Derived.MakeChecks
import Derived.ShapedOpen
import Derived.Test.YtpnjjmcimjlfkaaGreatDoorDah
import Derived.Test.YtpnjjmcimjlfkaaGreatDoorDag
set_option maxRecDepth 100000
set_option maxHeartbeats 64000000
namespace Go.Proofs.YtpnjjmcimjlfkaaGreatDoor
section
open Go Go.RowKit
theorem zci (n:Nat):(zbl n).length≤1+n / 128:=by
 induction n using Nat.strongRecOn with
 | ind n ih=>
  by_cases h:n<128
  ·simp [zhJ h]
  ·rw [zhK h];have:=ih (n / 128) (by omega);simp;omega
theorem zBn (d:ByteArray):Con Tryz.prog 171 [avO 1 d] (.d (.raw (.int .i64 0))):=by
 refine zh Tryz.func171 rfl (by decide +kernel) rfl rfl (by simp [Tryz.ntmps171]) fun A hA=>?_
 rw [Tryz.ntmps171] at hA
 refine goC 400 ?_
 simp only [go_sem,hA,Tryz.results171]
 kernel_rfl
theorem zzk (d:ByteArray) (hd:d.size≤60000):Con Tryz.prog 108 [avO 1 d] (.tup [.d (.raw (.string ⟨(zbl 1++(zbl d.size++d.data.toList)).toArray⟩)),.d (.raw (.int .i64 0))]):=by
 refine zh Tryz.func108 rfl (by decide +kernel) rfl rfl (by simp [Tryz.ntmps108]) fun A hA=>?_
 rw [Tryz.ntmps108] at hA
 refine goC 400 ?_
 simp only [go_sem,hA]
 refine zb 400 (zBn d) rfl (by simp only [go_sem]) (by simp only [go_sem,hA]) ?_
 simp only [go_sem,hA]
 refine zjI 100000 400 rfl rfl rfl Tryz.func172 rfl (by decide +kernel) (by simp [Tryz.ntmps172]) (by simp [Tryz.ntmps172]) (by simp only [go_sem,hA]) fun B hB hBf=>?_
 rw [Tryz.ntmps172] at hB
 refine zbt 99 4000 0 1 5 (by simp only [go_sem]) rfl rfl ?_
 refine goC 400 ?_
 simp only [go_sem,hB]
 refine zb 400 (zti 1 (by decide)) rfl (by simp only [go_sem]) (by simp only [go_sem,hB]) ?_
 simp only [go_sem,hA,hB,Tryz.results172]
 have hl1:=zci 1
 have hl2:=zci d.size
 refine⟨⟨by simp,by omega⟩,?_⟩
 refine zjI 200000 400 rfl rfl rfl Tryz.func173 rfl (by decide +kernel) (by simp [Tryz.ntmps173]) (by simp [Tryz.ntmps173]) (by simp only [go_sem,hA]) fun B2 hB2 hBf2=>?_
 rw [Tryz.ntmps173] at hB2
 refine goC 400 ?_
 simp only [go_sem,hB2]
 refine zb 400 (zpJ d (by omega)) rfl (by simp only [go_sem]) (by simp only [go_sem,hB2]) ?_
 simp only [go_sem,hA,hB2,Tryz.results173]
 have hsz:(zbl 1++(zbl d.size++d.data.toList)).length≤65536:=by simp;omega
 have k1:decide ((65536:Int)<((zbv (zbl 1++(zbl d.size++d.data.toList))).length:Int))=false:=decide_eq_false (by rw [zbZ];omega)
 refine⟨⟨by rw [zbZ];omega,by intro r hr;obtain⟨c,_,rfl⟩:=List.mem_map.1 hr;rfl,by simp at hsz ⊢;omega⟩,?_⟩
 simp only [go_sem,hA,k1,Tryz.results108]
theorem znM (d:ByteArray) (hd:d.size≤60000):Con Tryz.prog 72 [avO 1 d] (.d (.raw (.int .i64 0))):=by
 refine zh Tryz.func72 rfl (by decide +kernel) rfl rfl (by simp [Tryz.ntmps72]) fun A hA=>?_
 rw [Tryz.ntmps72] at hA
 refine goC 400 ?_
 simp only [go_sem,hA]
 refine zb 400 (zzk d hd) rfl (by simp only [go_sem]) (by simp only [go_sem,hA]) ?_
 simp only [go_sem,hA,Tryz.results72]
end
section
open Go Go.RowKit
def spL (s:ByteArray):Bool:=decide (zch [⟨s,⟨#[]⟩⟩]=0)
theorem zDA (s:ByteArray):Con Tryz.prog 77 [.d (.raw (.string s))] (.d (.raw (.bool (spL s)))):=by
 refine zh Tryz.func77 rfl (by decide +kernel) rfl rfl (by simp [Tryz.ntmps77]) fun A hA=>?_
 rw [Tryz.ntmps77] at hA
 refine goC 400 ?_
 simp only [go_sem,hA]
 have hT:=zAr [⟨s,⟨#[]⟩⟩] (by simp) fun x hx=>by simp at hx;subst hx;exact znM ⟨#[]⟩ (by decide)
 simp only [zy,zpq,List.map] at hT
 refine zb 400 hT rfl (by simp only [go_sem]) (by simp only [go_sem,hA]) ?_
 simp only [go_sem,hA,spL,Tryz.results77]
theorem zqX (d:ByteArray) (hd:d.size≤60000):Con Tryz.prog 78 [.d (.raw (.string d))] (.d (.raw (.bool true))):=by
 refine zh Tryz.func78 rfl (by decide +kernel) rfl rfl (by simp [Tryz.ntmps78]) fun A hA=>?_
 rw [Tryz.ntmps78] at hA
 refine goC 400 ?_
 simp only [go_sem,hA]
 refine zb 400 (znM d hd) rfl (by simp only [go_sem]) (by simp only [go_sem,hA]) ?_
 simp only [go_sem,hA,Tryz.results78]
def neS (s:ByteArray):Bool:=decide (¬ s=⟨#[]⟩)
def zdS (x:Tc):Int:=
 if spL x.path=false then 6 else if zdV x.path=true then 9 else
  if (!x.inB && neS x.base) || (!x.inL && neS x.left) || (!x.inR && neS x.right) then 1 else 0
theorem zDz (x:Tc) (hx:x.path.size≤9223372036854775807) (h1:x.base.size≤60000) (h2:x.left.size≤60000) (h3:x.right.size≤60000):Con Tryz.prog 32 [avC x] (.d (.raw (.int .i64 (zdS x)))):=by
 refine zh Tryz.func32 rfl (by decide +kernel) rfl rfl (by simp [Tryz.ntmps32]) fun A hA=>?_
 rw [Tryz.ntmps32] at hA
 refine goC 400 ?_
 simp only [go_sem,hA,avC]
 refine zb 400 (zDA x.path) rfl (by simp only [go_sem]) (by simp only [go_sem,hA]) ?_
 cases hp:spL x.path with
 | false=>
  have hr:zdS x=6:=if_pos hp
  simp only [go_sem,hA,hr,Tryz.results32]
 | true=>
  simp only [go_sem,hA]
  refine zb 400 (zog x.path hx) rfl (by simp only [go_sem]) (by simp only [go_sem,hA]) ?_
  cases hm:zdV x.path with
  | true=>
   have hr:zdS x=9:=by unfold zdS;rw [if_neg (by simp [hp]),if_pos hm]
   simp only [go_sem,hA,hr,Tryz.results32]
  | false=>
   have hr:zdS x=if (!x.inB && neS x.base) || (!x.inL && neS x.left) || (!x.inR && neS x.right) then 1 else 0:=by unfold zdS;rw [if_neg (by simp [hp]),if_neg (by simp [hm])]
   rw [hr]
   have f:∀ s:ByteArray,decide (¬ s=⟨#[]⟩)=neS s:=fun _=>rfl
   cases e1:neS x.base <;> cases e2:neS x.left <;> cases e3:neS x.right <;> cases hb:x.inB <;> cases hl:x.inL <;> cases hrr:x.inR
   all_goals simp only [go_sem,hA,undef,f,e1,e2,e3,Tryz.results32]
   all_goals
    refine zb 400 (zqX x.base h1) rfl (by simp only [go_sem]) (by simp only [go_sem,hA]) ?_
    simp only [go_sem,hA]
    refine zb 400 (zqX x.left h2) rfl (by simp only [go_sem]) (by simp only [go_sem,hA]) ?_
    simp only [go_sem,hA]
    refine zb 400 (zqX x.right h3) rfl (by simp only [go_sem]) (by simp only [go_sem,hA]) ?_
    simp only [go_sem,hA]
end
section
open Go Go.RowKit
structure Mg where
 ms:List Mo
 fs:List Fl
 ts:List Tc
def zFF (m:Mg):List D:=[.sl (zab m.ms),.sl (zy m.fs),.sl (zac m.ts)]
def avG (m:Mg):AV:=.agg [.d (.sl (zab m.ms)),.d (.sl (zy m.fs)),.d (.sl (zac m.ts))]
def atM (l:List Mo) (i:Nat):Mo:=l.getD i ⟨⟨#[]⟩,[],[]⟩
theorem zbR (l:List Mo) (i:Nat) (h:i<l.length):atM l i=l[i]:=by simp [atM,List.getD_eq_getElem?_getD,h]
def atC (l:List Tc) (i:Nat):Tc:=l.getD i ⟨⟨#[]⟩,false,false,false,⟨#[]⟩,⟨#[]⟩,⟨#[]⟩⟩
theorem zcY (l:List Tc) (i:Nat) (h:i<l.length):atC l i=l[i]:=by simp [atC,List.getD_eq_getElem?_getD,h]
def zgS (l:List Mo) (q:Nat):Int:=if ¬ zN (atM l q)=0 then zN (atM l q) else if 0<q∧leS (atM l q).label (atM l (q - 1)).label then 10 else 0
def zig (fs:List Fl) (l:List Tc) (q:Nat):Int:=if ¬ zdS (atC l q)=0 then zdS (atC l q) else if 0<q∧leS (atC l q).path (atC l (q - 1)).path then 10 else if zdF fs (atC l q).path then 7 else 0
def zw (m:Mg):Int:=
 if ¬ zj (zgS m.ms) m.ms.length=0 then zj (zgS m.ms) m.ms.length else if ¬ zch m.fs=0 then zch m.fs else if m.fs.any (fun x=>zdV x.path) then 9 else
  if 200<m.ts.length then 4 else zj (zig m.fs m.ts) m.ts.length
structure Mg.Fine (m:Mg):Prop where
 ml:m.ms.length≤1048576
 fl:m.fs.length≤1048576
 bd:∀ x ∈ m.ms,∀ d ∈ x.decls,nodesE d.body≤524288
 fp:∀ x ∈ m.fs,x.path.size≤9223372036854775807∧x.data.size≤60000
 tp:∀ x ∈ m.ts,x.path.size≤9223372036854775807∧x.base.size≤60000∧x.left.size≤60000∧x.right.size≤60000
abbrev zxe (m:Mg) (q:Nat):St:=⟨[(1,.box 0 0),(13,.d (.sl (zab m.ms))),(14,.d (.raw (.int .i64 m.ms.length))),(15,.d (.raw (.int .i64 q)))],[(0,some (.cell 26 [.d (.sl (zab m.ms)),.d (.sl (zy m.fs)),.d (.sl (zac m.ts))]))],[]⟩
abbrev zxd (m:Mg) (q:Nat):St:=⟨[(1,.box 0 0),(54,.d (.sl (zac m.ts))),(55,.d (.raw (.int .i64 m.ts.length))),(56,.d (.raw (.int .i64 q)))],[(0,some (.cell 26 [.d (.sl (zab m.ms)),.d (.sl (zy m.fs)),.d (.sl (zac m.ts))]))],[]⟩
theorem zzI (x:Fl) (hx:x.path.size≤9223372036854775807):Con Tryz.prog 30 [avF x] (.d (.raw (.bool (zdV x.path)))):=by
 refine zh Tryz.func30 rfl (by decide +kernel) rfl rfl (by simp [Tryz.ntmps30]) fun A hA=>?_
 rw [Tryz.ntmps30] at hA
 refine goC 400 ?_
 simp only [go_sem,hA,avF]
 refine zb 400 (zog x.path hx) rfl (by simp only [go_sem]) (by simp only [go_sem,hA]) ?_
 simp only [go_sem,hA,Tryz.results30]
theorem zgW (m:Mg) (hm:m.Fine):Con Tryz.prog 9 [avG m] (.d (.raw (.int .i64 (zw m)))):=by
 refine zh Tryz.func9 rfl (by decide +kernel) rfl rfl (by simp [Tryz.ntmps9]) fun A hA=>?_
 rw [Tryz.ntmps9] at hA
 refine goC 400 ?_
 have hml:=hm.ml
 have hr0:zw m=if ¬ zj (zgS m.ms) m.ms.length=0 then zj (zgS m.ms) m.ms.length else if ¬ zch m.fs=0 then zch m.fs else if m.fs.any (fun x=>zdV x.path) then 9 else
  if 200<m.ts.length then 4 else zj (zig m.fs m.ts) m.ts.length:=rfl
 simp only [go_sem,hA,avG,zm]
 refine zd [1,13,14,15] [0] [] (fun y σ=>∃ q:Nat,q≤m.ms.length∧y=m.ms.length - q∧zj (zgS m.ms) q=0∧σ=zxe m q) m.ms.length ⟨0,by omega,by omega,rfl,by simp only [go_sem,zxe]⟩ ?_
 rintro y σ ⟨q,hq,rfl,hf,rfl⟩
 refine goC 400 ?_
 by_cases hlt:q<m.ms.length
 ·have k1:decide ((q:Int)<(m.ms.length:Int))=true:=decide_eq_true (by omega)
  have hat:=zbR m.ms q hlt
  have hfe:zgS m.ms q=if ¬ zN m.ms[q]=0 then zN m.ms[q] else if 0<q∧leS m.ms[q].label (atM m.ms (q - 1)).label then 10 else 0:=by unfold zgS;rw [hat]
  simp only [go_sem,hA,zxe,zm,k1,Int.toNat_natCast,zaN m.ms q hlt,zeJ]
  refine⟨⟨by omega,by omega⟩,?_⟩
  refine zb 400 (zwP m.ms[q] (hm.bd _ (List.getElem_mem hlt))) rfl (by simp only [go_sem,avM]) (by simp only [go_sem,hA]) ?_
  by_cases hp:zN m.ms[q]=0
  case neg=>
   have g1:(decide ¬ zN m.ms[q]=0)=true:=decide_eq_true hp
   rw [if_pos hp] at hfe
   rw [zx hf hlt (by rw [hfe];exact hp),hfe,if_pos hp] at hr0
   simp only [go_sem,hA,g1,hr0,Tryz.results9]
  have g1:(decide ¬ zN m.ms[q]=0)=false:=by simp [hp]
  rw [if_neg (by simp [hp])] at hfe
  by_cases hq0:0<q
  ·have k2:decide ((0:Int)<(q:Int))=true:=decide_eq_true (by omega)
   have hq1:((q:Int) - 1).toNat=q - 1:=by omega
   have hat1:=zbR m.ms (q - 1) (by omega)
   have hin:zc ((q:Int) - 1):=by unfold zc;omega
   rw [hat1] at hfe
   cases hle:leS m.ms[q].label m.ms[q - 1].label with
   | true=>
    have hle':(Op.bytesLess m.ms[q].label.data.toList m.ms[q - 1].label.data.toList || decide (m.ms[q].label=m.ms[q - 1].label))=true:=hle
    rw [if_pos ⟨hq0,hle⟩] at hfe
    rw [zx hf hlt (by rw [hfe];decide),hfe] at hr0
    simp only [go_sem,hA,g1,k2,zm,hq1,zaN m.ms (q - 1) (by omega),zeJ,hle',hr0,mixed,Tryz.results9]
    exact⟨hin,⟨by omega,by omega⟩,by show chk _ _ _=true;kernel_rfl,by rfl⟩
   | false=>
    have hle':(Op.bytesLess m.ms[q].label.data.toList m.ms[q - 1].label.data.toList || decide (m.ms[q].label=m.ms[q - 1].label))=false:=hle
    rw [if_neg fun h=>by rw [hle] at h;cases h.2] at hfe
    simp only [go_sem,hA,g1,k2,zm,hq1,zaN m.ms (q - 1) (by omega),zeJ,hle',mixed]
    exact⟨hin,⟨by omega,by omega⟩,by show chk _ _ _=true;kernel_rfl,by unfold zc;omega,m.ms.length - (q+1),by omega,q+1,by omega,rfl,zp hf hfe,rfl⟩
  ·have k2:decide ((0:Int)<(q:Int))=false:=decide_eq_false (by omega)
   rw [if_neg fun h=>hq0 h.1] at hfe
   simp only [go_sem,hA,g1,k2,undef,mixed]
   exact⟨by show chk _ _ _=true;kernel_rfl,by unfold zc;omega,m.ms.length - (q+1),by omega,q+1,by omega,rfl,zp hf hfe,rfl⟩
 have k1:decide ((q:Int)<(m.ms.length:Int))=false:=decide_eq_false (by omega)
 obtain rfl:q=m.ms.length:=by omega
 rw [if_neg (by simp [hf])] at hr0
 simp only [go_sem,hA,zxe,k1]
 refine zb 400 (zAr m.fs hm.fl fun x hx=>znM x.data (hm.fp x hx).2) rfl (by simp only [go_sem]) (by simp only [go_sem,hA]) ?_
 by_cases ht:zch m.fs=0
 case neg=>
  have g1:(decide ¬ zch m.fs=0)=true:=decide_eq_true ht
  rw [if_pos ht] at hr0
  simp only [go_sem,hA,g1,hr0,Tryz.results9]
 have g1:(decide ¬ zch m.fs=0)=false:=by simp [ht]
 rw [if_neg (by simp [ht])] at hr0
 simp only [go_sem,hA,g1]
 refine zb 400 (ztP m.fs _ [] (fun x=>zdV x.path) rfl rfl hm.fl fun x hx=>zzI x (hm.fp x hx).1) rfl (by simp only [go_sem]) (by simp only [go_sem,hA]) ?_
 cases hmod:m.fs.any fun x=>zdV x.path with
 | true=>
  rw [hmod] at hr0
  simp only [go_sem,hA,hr0,Tryz.results9]
 | false=>
 rw [if_neg (by simp [hmod])] at hr0
 by_cases h2:200<m.ts.length
 ·have g2:decide ((200:Int)<(m.ts.length:Int))=true:=decide_eq_true (by omega)
  rw [if_pos h2] at hr0
  simp only [go_sem,hA,zn,g2,hr0,Tryz.results9]
 have g2:decide ((200:Int)<(m.ts.length:Int))=false:=decide_eq_false (by omega)
 rw [if_neg h2] at hr0
 simp only [go_sem,hA,zn,g2]
 refine zd [1,54,55,56] [0] [] (fun y σ=>∃ q:Nat,q≤m.ts.length∧y=m.ts.length - q∧zj (zig m.fs m.ts) q=0∧σ=zxd m q) m.ts.length ⟨0,by omega,by omega,rfl,by simp only [go_sem,zxd]⟩ ?_
 clear hf hlt k1 g1 g2
 rintro y σ ⟨q,hq,rfl,hf,rfl⟩
 refine goC 400 ?_
 by_cases hlt:q<m.ts.length
 ·have k1:decide ((q:Int)<(m.ts.length:Int))=true:=decide_eq_true (by omega)
  have hat:=zcY m.ts q hlt
  have hfe:zig m.fs m.ts q=if ¬ zdS m.ts[q]=0 then zdS m.ts[q] else if 0<q∧leS m.ts[q].path (atC m.ts (q - 1)).path then 10 else if zdF m.fs m.ts[q].path then 7 else 0:=by unfold zig;rw [hat]
  simp only [go_sem,hA,zxd,zn,k1,Int.toNat_natCast,zaO m.ts q hlt,zfj]
  refine⟨⟨by omega,by omega⟩,?_⟩
  have htp:=hm.tp _ (List.getElem_mem hlt)
  refine zb 400 (zDz m.ts[q] htp.1 htp.2.1 htp.2.2.1 htp.2.2.2) rfl (by simp only [go_sem,avC]) (by simp only [go_sem,hA]) ?_
  by_cases hp:zdS m.ts[q]=0
  case neg=>
   have g1:(decide ¬ zdS m.ts[q]=0)=true:=decide_eq_true hp
   rw [if_pos hp] at hfe
   rw [zx hf hlt (by rw [hfe];exact hp),hfe] at hr0
   simp only [go_sem,hA,g1,hr0,Tryz.results9]
  have g1:(decide ¬ zdS m.ts[q]=0)=false:=by simp [hp]
  rw [if_neg (by simp [hp])] at hfe
  have rest:∀ h0:¬ (0<q∧leS m.ts[q].path (atC m.ts (q - 1)).path),zig m.fs m.ts q=if zdF m.fs m.ts[q].path then 7 else 0:=fun h0=>by rw [hfe,if_neg h0]
  by_cases hq0:0<q
  ·have k2:decide ((0:Int)<(q:Int))=true:=decide_eq_true (by omega)
   have hq1:((q:Int) - 1).toNat=q - 1:=by omega
   have hat1:=zcY m.ts (q - 1) (by omega)
   have hin:zc ((q:Int) - 1):=by unfold zc;omega
   rw [hat1] at hfe rest
   cases hle:leS m.ts[q].path m.ts[q - 1].path with
   | true=>
    have hle':(Op.bytesLess m.ts[q].path.data.toList m.ts[q - 1].path.data.toList || decide (m.ts[q].path=m.ts[q - 1].path))=true:=hle
    rw [if_pos ⟨hq0,hle⟩] at hfe
    rw [zx hf hlt (by rw [hfe];decide),hfe] at hr0
    simp only [go_sem,hA,g1,k2,zn,hq1,zaO m.ts (q - 1) (by omega),zfj,hle',hr0,mixed,Tryz.results9]
    exact⟨hin,⟨by omega,by omega⟩,by show chk _ _ _=true;kernel_rfl⟩
   | false=>
    have hle':(Op.bytesLess m.ts[q].path.data.toList m.ts[q - 1].path.data.toList || decide (m.ts[q].path=m.ts[q - 1].path))=false:=hle
    have hfe':=rest fun h=>by rw [hle] at h;cases h.2
    simp only [go_sem,hA,g1,k2,zn,hq1,zaO m.ts (q - 1) (by omega),zfj,hle',mixed]
    refine⟨hin,⟨by omega,by omega⟩,by show chk _ _ _=true;kernel_rfl,?_⟩
    refine zb 400 (zwD m.fs m.ts[q].path hm.fl) rfl (by simp only [go_sem]) (by simp only [go_sem,hA]) ?_
    cases hh:zdF m.fs m.ts[q].path with
    | true=>
     rw [hh,if_pos rfl] at hfe'
     rw [zx hf hlt (by rw [hfe'];decide),hfe'] at hr0
     simp only [go_sem,hA,hr0,Tryz.results9]
    | false=>
     rw [hh] at hfe'
     simp only [go_sem,hA]
     exact⟨by unfold zc;omega,m.ts.length - (q+1),by omega,q+1,by omega,rfl,zp hf hfe',rfl⟩
  ·have k2:decide ((0:Int)<(q:Int))=false:=decide_eq_false (by omega)
   have hfe':=rest fun h=>hq0 h.1
   simp only [go_sem,hA,g1,k2,undef,mixed]
   refine⟨by show chk _ _ _=true;kernel_rfl,?_⟩
   refine zb 400 (zwD m.fs m.ts[q].path hm.fl) rfl (by simp only [go_sem]) (by simp only [go_sem,hA]) ?_
   cases hh:zdF m.fs m.ts[q].path with
   | true=>
    rw [hh,if_pos rfl] at hfe'
    rw [zx hf hlt (by rw [hfe'];decide),hfe'] at hr0
    simp only [go_sem,hA,hr0,Tryz.results9]
   | false=>
    rw [hh] at hfe'
    simp only [go_sem,hA]
    exact⟨by unfold zc;omega,m.ts.length - (q+1),by omega,q+1,by omega,rfl,zp hf hfe',rfl⟩
 have k1:decide ((q:Int)<(m.ts.length:Int))=false:=decide_eq_false (by omega)
 obtain rfl:q=m.ts.length:=by omega
 rw [hf] at hr0
 simp only [go_sem,hA,zxd,k1,hr0,Tryz.results9]
end
section
open Go Go.RowKit
theorem zuU {ds:List D} (h:Typed Tryz.prog 62 ds):∃ x:Fl,ds=zpq x∧0≤zaR ds:=by
 obtain⟨parts,rfl,hl,hp⟩:=zbJ h Tryz.underlying62
 match parts,hl with
 | [p0,p1],_=>
  obtain⟨s,e0,_⟩:=zbV (hp 0 (by decide) (by simp)) Tryz.underlying9
  obtain⟨d,e1,_⟩:=zbV (hp 1 (by decide) (by simp)) Tryz.underlying9
  have e0:p0=[.raw (.string s)]:=e0
  have e1:p1=[.raw (.string d)]:=e1
  subst e0 e1
  exact⟨⟨s,d⟩,rfl,Nat.zero_le _⟩
theorem zuT {ds:List D} (h:Typed Tryz.prog 58 ds):∃ x:Tc,ds=zfj x∧0≤zaR ds:=by
 obtain⟨parts,rfl,hl,hp⟩:=zbJ h Tryz.underlying58
 match parts,hl with
 | [p0,p1,p2,p3,p4,p5,p6],_=>
  obtain⟨s,e0,_⟩:=zbV (hp 0 (by decide) (by simp)) Tryz.underlying9
  obtain⟨b1,e1⟩:=zer (hp 1 (by decide) (by simp)) Tryz.underlying4
  obtain⟨b2,e2⟩:=zer (hp 2 (by decide) (by simp)) Tryz.underlying4
  obtain⟨b3,e3⟩:=zer (hp 3 (by decide) (by simp)) Tryz.underlying4
  obtain⟨d1,e4,_⟩:=zbV (hp 4 (by decide) (by simp)) Tryz.underlying9
  obtain⟨d2,e5,_⟩:=zbV (hp 5 (by decide) (by simp)) Tryz.underlying9
  obtain⟨d3,e6,_⟩:=zbV (hp 6 (by decide) (by simp)) Tryz.underlying9
  have e0:p0=[.raw (.string s)]:=e0
  have e1:p1=[.raw (.bool b1)]:=e1
  have e2:p2=[.raw (.bool b2)]:=e2
  have e3:p3=[.raw (.bool b3)]:=e3
  have e4:p4=[.raw (.string d1)]:=e4
  have e5:p5=[.raw (.string d2)]:=e5
  have e6:p6=[.raw (.string d3)]:=e6
  subst e0 e1 e2 e3 e4 e5 e6
  exact⟨⟨s,b1,b2,b3,d1,d2,d3⟩,rfl,Nat.zero_le _⟩
theorem zqL {ds:List D} (h:Typed Tryz.prog 56 ds):∃ x:Mo,ds=zeJ x∧zhf x.decls≤zaR ds:=by
 obtain⟨parts,rfl,hl,hp⟩:=zbJ h Tryz.underlying56
 match parts,hl with
 | [p0,p1,p2],_=>
  obtain⟨s,e2,_⟩:=zbV (hp 0 (by decide) (by simp)) Tryz.underlying9
  obtain⟨rows,e0,hr⟩:=zcg (hp 1 (by decide) (by simp)) Tryz.underlying53
  obtain⟨uses,e6,_⟩:=zix Tryz.underlying9 rows hr
  obtain⟨rows2,e1,hr2⟩:=zcg (hp 2 (by decide) (by simp)) Tryz.underlying54
  obtain⟨decls,e7,hn2⟩:=zdd (enc:=zcW) (sz:=fun x:Dc=>nodesE x.body+x.names.length) (szL:=zhf) rfl (fun a l=>by simp [zhf]) _ (fun ds _ h=>zuV h) rows2 (Nat.le_refl _) hr2
  have e2:p0=[.raw (.string s)]:=e2
  have e0:p1=[.sl rows]:=e0
  have e1:p2=[.sl rows2]:=e1
  subst e0 e1 e2 e6 e7
  refine⟨⟨s,uses,decls⟩,rfl,?_⟩
  simp only [List.flatten_cons,List.flatten_nil,List.append_nil,List.cons_append,List.nil_append,zaR,D.size]
  omega
def ziN (l:List Mo):Nat:=(l.map fun x=>zhf x.decls).sum
theorem zwg {l:List Mo} {x:Mo} (h:x ∈ l) {d:Dc} (hd:d ∈ x.decls):nodesE d.body≤ziN l:=by
 induction l with
 | nil=>cases h
 | cons y l ih=>
  simp only [ziN,List.map_cons,List.sum_cons]
  rcases List.mem_cons.1 h with rfl | h
  ·have:=zwh hd;omega
  ·have:=ih h
   simp only [ziN] at this
   omega
theorem zqM {ds:List D} (h:Typed Tryz.prog 26 ds):∃ m:Mg,ds=zFF m∧ziN m.ms≤zaR ds:=by
 obtain⟨parts,rfl,hl,hp⟩:=zbJ h Tryz.underlying26
 match parts,hl with
 | [p0,p1,p2],_=>
  obtain⟨r0,e0,h0⟩:=zcg (hp 0 (by decide) (by simp)) Tryz.underlying22
  obtain⟨r1,e1,h1⟩:=zcg (hp 1 (by decide) (by simp)) Tryz.underlying23
  obtain⟨r2,e2,h2⟩:=zcg (hp 2 (by decide) (by simp)) Tryz.underlying24
  obtain⟨ms,e3,hn⟩:=zdd (enc:=zeJ) (sz:=fun x:Mo=>zhf x.decls) (szL:=ziN) rfl (fun a l=>by simp [ziN]) _ (fun ds _ h=>zqL h) r0 (Nat.le_refl _) h0
  obtain⟨fs,e4,_⟩:=zdd (enc:=zpq) (sz:=fun _:Fl=>0) (szL:=fun _=>0) rfl (fun a l=>rfl) _ (fun ds _ h=>zuU h) r1 (Nat.le_refl _) h1
  obtain⟨ts,e5,_⟩:=zdd (enc:=zfj) (sz:=fun _:Tc=>0) (szL:=fun _=>0) rfl (fun a l=>rfl) _ (fun ds _ h=>zuT h) r2 (Nat.le_refl _) h2
  have e0:p0=[.sl r0]:=e0
  have e1:p1=[.sl r1]:=e1
  have e2:p2=[.sl r2]:=e2
  subst e0 e1 e2 e3 e4 e5
  refine⟨⟨ms,fs,ts⟩,rfl,?_⟩
  simp only [List.flatten_cons,List.flatten_nil,List.append_nil,List.cons_append,List.nil_append,zaR,D.size]
  omega
def zpN:List TypeId:=zBe++[56,22,62,23,58,24,26]
theorem zyY:zpN.all (zmn Tryz.prog zpN)=true:=by kernel_rfl
end
section
open Go.ChangeShapes Go.WideShapes Go.ChangeAt Go.RowKit
section
variable {H:Type} {enc:TypeId × Value→H} {P:Program}
theorem zpd {f:Func} {s:ChangeSpec} {apart fresh handsOn again:Bool} {W W':World} {args:Array Value} {v:Value} {ds gs:List (DataW H)} {before pa pv:List MemPlace}
  (hW:DataW.Whole enc P f.params.toList s.vars apart W args.toList ds gs before)
  (hres:∀ (b:Nat) (sp:Nat→Bool) (hd:Bool),DataW.TrodAll enc P W' b sp hd f.resultTypes.toList (v.resultList f.resultTypes.size) (s.fn H (ds++gs)).results [])
  (hargs:∀ sp:Nat→Bool,(∀ p ∈ before,sp p.block=true)→DataW.TrodAll enc P W' 0 sp true f.params.toList args.toList (s.fn H (ds++gs)).args pa)
  (hvars:∀ sp:Nat→Bool,(∀ p ∈ before,sp p.block=true)→DataW.TrodVars enc P W' sp s.vars (s.fn H (ds++gs)).vars pv)
  (hps:before=pa++pv) (hb:Below W.heap.size W W')
  (hok:∀ (j:Nat) (t:TypeId) (r:Value),f.resultTypes[j]? = some t→(v.resultList f.resultTypes.size)[j]? = some r→Value.okWide P W' .any 0 t r) :
  s.post enc P f apart fresh handsOn again W args v W':=by
 have hlt:∀ p ∈ before,p.block<W.heap.size:=fun p hp=>hW.lt p hp
 have hold:∀ p ∈ before,(fun b=>decide (b<W.heap.size)) p.block=true:=fun p hp=>by simpa using hlt p hp
 refine⟨ds,gs,before,[],pa,pv,hW,hres _ _ _,hargs _ hold,hvars _ hold,World.keptBut_mono (fun p hp=>⟨hp,?_⟩) (hb.frame (· ∈ before)),fun _=>?_⟩
 ·rw [hps,List.mem_append] at hp
  exact Or.inr hp
 ·obtain⟨_,_,_,_,_,hz,hn⟩:=hW
  refine⟨hok,_,_,([]++pa)++pv,⟨[]++pa,pv,trodAll_append (hargs _ (fun _ _=>rfl)) (hres _ _ _),hvars _ (fun _ _=>rfl),rfl,?_,?_⟩,?_⟩
  ·intro b off hp
   have hin:MemPlace.cell b off ∈ before:=by rw [hps];simpa using hp
   rw [hb.frozen (hlt _ hin)]
   exact hz b off hin
  ·intro ha
   have:=hn ha
   rw [hps] at this
   simpa using this
  ·intro p hp _
   rw [hps]
   simpa using hp
end
theorem own:ownKnob Tryz.prog.godebug=none:=by kernel_rfl
mutual
/-- the cells of a datum of numbers -/
def zqu:DataW Unit→List Value
 | .lit (.int k n)=>[.int k n]
 | .agg l=>zov l
 | _=>[]
def zov:List (DataW Unit)→List Value
 | []=>[]
 | d :: l=>zqu d++zov l
end
def zBc (cs:Array Value):Obj→Obj
 | .cells _ t frozen=>.cells cs t frozen
 | o=>o
def zAt:List (Nat × DataW Unit):=[(4,Rows.laid_math_bits_deBruijn32tab),(5,Rows.laid_math_bits_deBruijn64tab),(3,Rows.laid_internal_strconv_uint64pow10),(2,Rows.laid_unicode_utf8_acceptRanges),(1,Rows.laid_unicode_utf8_first)]
noncomputable def zkC (os:Os):World:=
 { World.holding Tryz.prog os ⟨#[],#[],[]⟩ with heap:=zAt.foldl (fun h x=>h.modify x.1 (zBc (zqu x.2).toArray)) (World.holding Tryz.prog os ⟨#[],#[],[]⟩).heap }
def zGg : List (String × DataW Unit) := [("math/bits.deBruijn32tab",Rows.laid_math_bits_deBruijn32tab),("math/bits.deBruijn64tab",Rows.laid_math_bits_deBruijn64tab),("internal/strconv.uint64pow10",Rows.laid_internal_strconv_uint64pow10),("unicode/utf8.acceptRanges",Rows.laid_unicode_utf8_acceptRanges),("unicode/utf8.first",Rows.laid_unicode_utf8_first)]
theorem zrP {P:Program} {w:World} {g:Nat} {t:TypeId} {zero:Array Value} (h:w.ShapedOpen P) (hg:g<P.globals.size)
  (h0:((begin P (fun _ _=>0) default).world.heap[g]?).bind Obj.row? = some (zero,t)) (hz:zero.size=1)
  (hb:P.buildable t=true) (hc:P.cellTypes P.depth t=some [t]) (hu:P.underlying t=some (.int .i64)):∃ m,w.cell? ⟨g,0,none⟩=some (.int .i64 m):=by
 obtain⟨cs,hh,hs,hr⟩:=h.1 g zero t hg h0
 obtain⟨ts,hts,_,hall⟩:=hr hb
 rw [hc] at hts
 cases hts
 have h1:0<cs.size:=by omega
 obtain⟨u,hu',hok⟩:=hall 0 cs[0] (by simp [h1])
 have:u=t:=by simpa using hu'.symm
 subst this
 have key:∃ m,cs[0] = .int .i64 m:=by
  revert hok
  cases cs[0] <;> simp [Cell.ok,hu]
  exact fun h _=>h
 obtain⟨m,hm⟩:=key
 exact⟨m,by simp [World.cell?,hh,h1,hm]⟩
theorem zEk {W:World} (h:laidMetH Tryz.prog zGg W) (hs:W.ShapedOpen Tryz.prog):Glob Tryz.prog W:=by
 rw [Go.MakeChecks.laidMetH_plain _ _ _ (by kernel_rfl)] at h
 refine⟨?_,fun g _=>?_,fun g hg=>?_⟩
 ·have hx:(((begin Tryz.prog (fun _ _=>0) default).world.heap[5]?).bind Obj.row?).isSome=true:=by kernel_rfl
  obtain⟨⟨zero,t⟩,h0⟩:=Option.isSome_iff_exists.1 hx
  obtain⟨cs,h1,_⟩:=hs.1 5 zero t (of_decide_eq_true (by kernel_rfl)) h0
  have h2:=(Array.getElem?_eq_some_iff.1 h1).1
  have h3:Tryz.prog.globals.size=6:=by kernel_rfl
  omega
 ·exact Lib.tabIs_of_head (g:=3) (t:=355) (e:=40) (n:=20) (by kernel_rfl) (by kernel_rfl) (by kernel_rfl) (by kernel_rfl) (by kernel_rfl) (by kernel_rfl) h.tail.tail
 ·obtain rfl : g = 0 := (Option.some.inj ((show Tryz.prog.globalNamed "internal/bytealg.MaxLen" = some 0 by kernel_rfl).symm.trans hg)).symm
  exact zrP hs (t:=3) (zero:=#[.int .i64 0]) (of_decide_eq_true (by kernel_rfl)) (by kernel_rfl) (by kernel_rfl) (by kernel_rfl) (by kernel_rfl) (by kernel_rfl)
section
variable {H:Type} {enc:TypeId × Value→H} {W:World} {base:Nat} {spare:Nat→Bool} {held:Bool}
theorem zzC {v:Value} {d:DataW H} {p:List MemPlace} (hval:Value.okWide Tryz.prog W .any base 26 v) (h:DataW.Trod enc Tryz.prog W 0 (fun _=>true) true 26 v d p) (hlt:∀ x ∈ p,x.block<W.heap.size):∃ m:Mg,zcw W (below W) (avG m) v∧ziN m.ms≤Rows.uptoBulk d:=by
 obtain⟨fuel,hf⟩:=h
 obtain⟨ds,hT,hR,hS⟩:=zvV zyY _ fuel 26 v.cells.toList (d,p) (Nat.le_refl _) (by decide) hf hlt
 obtain⟨m,rfl,hn⟩:=zqM hT
 obtain⟨cs,rfl,_⟩:=okWide_struct Tryz.underlying26 hval
 have hS:zaR (zFF m)≤Rows.uptoBulk d:=hS
 refine⟨m,?_,by omega⟩
 have:=zDb (cs:=cs.toList) hR
 simpa [avG,zFF] using this
theorem zBE {v:Value} {d:DataW H} {p:List MemPlace} (hval:Value.okWide Tryz.prog W .any base 3 v) (h:DataW.Trod enc Tryz.prog W 0 (fun _=>true) true 3 v d p):∃ n:Int,zcw W (below W) (.d (.raw (.int .i64 n))) v∧zc n:=by
 obtain⟨fuel,hf⟩:=h
 obtain⟨n,rfl⟩:=okWide_int Tryz.underlying3 hval
 obtain⟨n',e,_,hw⟩:=DataW.trod_int Tryz.underlying3 hf
 have:n'=n:=by simpa [Value.cells] using e.symm
 subst this
 refine⟨n',.d (.raw _),?_⟩
 have hw:=hw
 simp only [Lit.wf,Bool.and_eq_true,decide_eq_true_eq] at hw
 have h1:IntKind.i64.min = -9223372036854775808:=rfl
 have h2:IntKind.i64.max=9223372036854775807:=rfl
 unfold zc
 omega
end
theorem zzt {f:FuncId} {args:List AV} {vs:List Value} {W:World} (hc:Con Tryz.prog f args (.d (.raw (.bool true)))) (hg:Glob Tryz.prog W) (hl:args.length=vs.length) (hv:∀ i (hi:i<args.length) (hv:i<vs.length),zcw W (below W) args[i] vs[i]) :
  Calls Tryz.prog f vs.toArray W fun e W'=>e = .returned (.bool true)∧Below W.heap.size W W':=by
 refine(hc.2.2 (below W) W vs (fun _ _ h=>h) hg hl hv).mono ?_
 rintro e w' ⟨v,rfl,hv,hb⟩
 exact⟨by rw [hv.raw_eq],hb⟩
end
section
open Go.RowKit Go.Shelf
def zlP (W:World) (P:Nat→Prop):List (List Ex)→List Value→Prop
 | [],[]=>True
 | r :: st,y :: ys=>zfT W P r y∧zlP W P st ys
 | _,_=>False
theorem zdY {W:World} {P:Nat→Prop}:∀ {st:List (List Ex)} {ys:List Value},zlP W P st ys→ys.length=st.length
 | [],[],_=>rfl
 | r :: st,y :: ys,h=>by simp [zdY h.2]
 | [],y :: ys,h=>h.elim
 | r :: st,[],h=>h.elim
theorem znd {W:World} {P:Nat→Prop} {r:List Ex} {st:List (List Ex)} {ys:List Value} (h:zlP W P (r :: st) ys):∃ y ys',ys=y :: ys'∧zfT W P r y∧zlP W P st ys':=by
 cases ys with
 | nil=>exact h.elim
 | cons y ys=>exact⟨y,ys,rfl,h.1,h.2⟩
theorem zyr {W:World} {P:Nat→Prop} {e:Ex} {es:List Ex} {b off cap n:Nat} (h:zfT W P (e :: es) (.slice (some ⟨b,off,none⟩) n cap)):zfT W P es (.slice (some ⟨b,off+6,none⟩) es.length (cap - 1)):=by
 obtain⟨p,cap',he,hc,hr⟩:=h
 simp only [Value.slice.injEq] at he
 obtain⟨rfl,rfl,rfl⟩:=he
 refine⟨_,_,rfl,by simp at hc;omega,fun hp=>?_⟩
 obtain⟨b',off',h1,h2,h3⟩:=hr (by simp)
 simp only [Option.some.injEq,Addr.mk.injEq,and_true] at h1
 obtain⟨rfl,rfl⟩:=h1
 exact⟨_,_,rfl,h2,(zko.1 h3).2⟩
theorem zyt {W:World} {P:Nat→Prop} (p:Option Addr) (cap:Nat):zfT W P [] (.slice p 0 cap):=⟨p,cap,rfl,by simp,fun h=>by simp at h⟩
def zcx (base T:Nat) (W:World) (P:Nat→Prop) (st:List (List Ex)) (v:Value) (wr:World):Prop:=
 ∃ g cap cur ys,v = .slice (some ⟨g,0,none⟩) st.length cap∧base≤g∧wr.heap[g]? = some (.cells cur T (0,0))∧st.length≤cap∧cap≤maxLen∧cur.size=cap∧cur.toList.take st.length=ys.reverse∧zlP W P st ys
theorem zdu {base T:Nat} {P:Nat→Prop} {W wr:World} {st:List (List Ex)} {v:Value} (h:zcx base T W P st v wr):∃ g cap ys,v = .slice (some ⟨g,0,none⟩) st.length cap∧base≤g∧wr.ownsRow base T 1 v st.length ys.reverse∧zlP W P st ys:=by
 obtain⟨g,cap,cur,ys,rfl,hb,hc,h1,h2,h3,h4,h5⟩:=h
 refine⟨g,cap,ys,rfl,hb,⟨by simp [zdY h5],.inr ⟨g,cap,cur,rfl,hb,hc,h1,h2,by omega,by simpa using h4⟩⟩,h5⟩
theorem zmL {base T:Nat} {P:Nat→Prop} {W wr:World} {st:List (List Ex)} {ys:List Value} {v:Value} (ho:wr.ownsRow base T 1 v st.length ys.reverse) (hn:v ≠ .slice none 0 0) (hr:zlP W P st ys):zcx base T W P st v wr:=by
 obtain⟨_,h | ⟨g,cap,cur,rfl,hb,hc,h1,h2,h3,h4⟩⟩:=ho
 ·exact absurd h.1 hn
 ·exact⟨g,cap,cur,ys,rfl,hb,hc,h1,h2,by omega,by simpa using h4,hr⟩
theorem zle {base T lo hi:Nat} {P:Nat→Prop} {W A B:World} {st:List (List Ex)} {v:Value} (h:zcx base T W P st v A) (hk:KeepOut lo hi A B) (hh:hi≤base):zcx base T W P st v B:=by
 obtain⟨g,cap,cur,ys,rfl,hb,hc,h1⟩:=h
 exact⟨g,cap,cur,ys,rfl,hb,hk.same g _ hc rfl (.inr (by omega)),h1⟩
theorem zvc {base T:Nat} {P:Nat→Prop} {W0 wr:World} {r:List Ex} {st:List (List Ex)} {v:Value} (h:zcx base T W0 P (r :: st) v wr):∃ g cap y,v = .slice (some ⟨g,0,none⟩) (st.length+1) cap∧base≤g∧g<wr.heap.size∧st.length+1≤cap∧cap≤maxLen∧wr.cell? ⟨g,st.length,none⟩=some y∧wr.frozen? ⟨g,st.length,none⟩=false∧zfT W0 P r y ∧
  zcx base T W0 P st (.slice (some ⟨g,0,none⟩) st.length cap) wr:=by
 obtain⟨g,cap,cur,ys,rfl,hb,hc,h1,h2,h3,h4,h5⟩:=h
 obtain⟨y,ys',rfl,hy,hr⟩:=znd h5
 have hl:=zdY hr
 have h1':st.length+1≤cap:=by simpa using h1
 have hty:cur[st.length]? = some y:=by
  have:(cur.toList.take (st.length+1))[st.length]? = some y:=by
   have h4':cur.toList.take (st.length+1)=(y :: ys').reverse:=h4
   rw [h4',List.reverse_cons,List.getElem?_append_right (by simp;omega)];simp [hl]
  rw [List.getElem?_take_of_lt (by omega)] at this
  simpa using this
 refine⟨g,cap,y,rfl,hb,(Array.getElem?_eq_some_iff.1 hc).1,h1',h2,?_,?_,hy,g,cap,cur,ys',rfl,hb,hc,by omega,h2,h3,?_,hr⟩
 ·simp [World.cell?,hc,hty]
 ·simp [World.frozen?,hc]
 ·have h4':cur.toList.take (st.length+1)=(y :: ys').reverse:=h4
  exact zjc h4' hl
theorem zvd {base T:Nat} {P:Nat→Prop} {W0 W3:World} {sub:List Ex} {sv:Value} (hs:zfT W0 P sub sv) (hz:base≤W3.heap.size):zcx base T W0 P [sub] (.slice (some ⟨W3.heap.size,0,none⟩) 1 1) (W3.alloc (.cells #[sv] T)):=
 ⟨W3.heap.size,1,#[sv],[sv],rfl,hz,World.alloc_heap_new _ _,Nat.le_refl _,by unfold maxLen;omega,rfl,rfl,hs,trivial⟩
theorem zmK {base T:Nat} {P:Nat→Prop} {W0 wr:World} {r r':List Ex} {st:List (List Ex)} {g cap n:Nat} {y:Value} (h:zcx base T W0 P (r :: st) (.slice (some ⟨g,0,none⟩) n cap) wr) (hy:zfT W0 P r' y):zcx base T W0 P (r' :: st) (.slice (some ⟨g,0,none⟩) (st.length+1) cap) (wr.setCell ⟨g,st.length,none⟩ y):=by
 obtain⟨g',cap',cur,ys,he,hb,hc,h1,h2,h3,h4,h5⟩:=h
 simp only [Value.slice.injEq,Option.some.injEq,Addr.mk.injEq,and_true] at he
 obtain⟨rfl,-,rfl⟩:=he
 obtain⟨y0,ys',rfl,hy0,hr⟩:=znd h5
 have hl:=zdY hr
 have h1':st.length+1≤cap:=by simpa using h1
 refine⟨g,cap,cur.setIfInBounds st.length y,y :: ys',by simp,hb,?_,h1,h2,by simpa using h3,?_,hy,hr⟩
 ·have hlt:=(Array.getElem?_eq_some_iff.1 hc).1
  have hb:=(Array.getElem?_eq_some_iff.1 hc).2
  simp [World.setCell,Array.getElem_modify,hlt,hb]
 ·have h4':cur.toList.take (st.length+1)=(y0 :: ys').reverse:=h4
  have e1:cur.toList.take st.length=ys'.reverse:=zjc h4' hl
  show(cur.setIfInBounds st.length y).toList.take (st.length+1)=(y :: ys').reverse
  rw [List.take_succ_eq_append_getElem (by simp;omega)]
  simp [e1,List.take_set_of_le]
theorem zje {base T:Nat} {P:Nat→Prop} {W0 wr:World} {st:List (List Ex)} {v:Value} (h:zcx base T W0 P st v wr) (o:Obj):zcx base T W0 P st v (wr.alloc o):=by
 obtain⟨g,cap,cur,ys,rfl,hb,hc,h1⟩:=h
 exact⟨g,cap,cur,ys,rfl,hb,(Below.heap_alloc _ _ _ (Array.getElem?_eq_some_iff.1 hc).1).trans hc,h1⟩
theorem zyJ {W0 wr:World} {P:Nat→Prop} {e:Ex} {es:List Ex} {y:Value} (h:zfT W0 P (e :: es) y) (hl:zfU P W0 wr):∃ b off cy cv,y = .slice (some ⟨b,off,none⟩) (es.length+1) cy∧es.length+1≤cy∧P b∧wr.cell? ⟨b,off,none⟩=some (.int .i64 e.kind)∧wr.cell? ⟨b,off+1,none⟩=some (.string e.name)∧wr.cell? ⟨b,off+2,none⟩=some (.string e.more)∧wr.cell? ⟨b,off+3,none⟩=some (.int .i64 e.int) ∧
  wr.cell? ⟨b,off+4,none⟩=some (.int .i64 e.den)∧wr.cell? ⟨b,off+5,none⟩=some cv∧zfT W0 P e.sub cv:=by
 obtain⟨p,cap,rfl,hc,hr⟩:=h
 obtain⟨b,off,rfl,hb,hrow⟩:=hr (by simp)
 obtain⟨cv,h0,h1,h2,h3,h4,h5,h6⟩:=(zko.1 hrow).1
 exact⟨b,off,cap,cv,rfl,by simpa using hc,hb,hl _ _ hb _ h0,hl _ _ hb _ h1,hl _ _ hb _ h2,hl _ _ hb _ h3,hl _ _ hb _ h4,hl _ _ hb _ h5,h6⟩
theorem zeR {base T:Nat} {P:Nat→Prop} {W0 w6:World} {e:Ex} {es:List Ex} {st:List (List Ex)} {ys:List Value} {v' cv:Value} {L:Nat} (hL:st.length=L) (ho:w6.ownsRow base T 1 v' (L+1+1) (ys.reverse++[cv])) (hn:v' ≠ .slice none 0 0) (hr:zlP W0 P (es :: st) ys) (hc:zfT W0 P e.sub cv) :
  zcx base T W0 P (e.sub :: es :: st) v' w6:=by
 refine zmL (ys:=cv :: ys) ?_ hn ⟨hc,hr⟩
 rw [List.reverse_cons,List.length_cons,List.length_cons,hL]
 exact ho
theorem zfU.keep {lo hi:Nat} {P:Nat→Prop} {W A B:World} (h:zfU P W A) (hk:KeepOut lo hi A B) (hP:∀ b,P b→b<lo∨hi≤b):zfU P W B:=fun b off hb v hv=>zbN hk (h b off hb v hv) (hP b hb)
theorem zfU.step {base:Nat} {P:Nat→Prop} {W A B:World} (h:zfU P W A) (hk:ItStep base A B) (hP:∀ b,P b→b<base):zfU P W B:=fun b off hb v hv=>(hk.below.cell (p:=⟨b,off,none⟩) (hP b hb)).trans (h b off hb v hv)
theorem ItStep.mono {a b:Nat} {A B:World} (h:ItStep b A B) (hab:a≤b):ItStep a A B:=⟨h.below.mono hab,h.others⟩
def zdU (x:Nat × Ex):Bool:=x.2.kind == 15
def zmv (t:Ex) (xs:List (ItN)):Prop:=xs.map zcd=(zdZ 2 t).filter zdU
def zyj (t:Ex) (xs:List (ItN)):Prop:=xs.map zcd <+: (zdZ 2 t).filter zdU
def zgK (base T:Nat) (P:Nat→Prop) (W0:World) (t:Ex) (J:List (ItN)→World→Prop) (m:Nat) (v:Value) (wr:World):Prop:=
 ∃ vis pre st,zcx base T W0 P st v wr∧J pre wr∧zfU P W0 wr∧base≤wr.heap.size∧st.length≤vis.length+1∧vis++zaY st=zdZ 2 t∧pre.map zcd=vis.filter zdU∧m=2 * (zaY st).length+st.length
mutual
theorem zqy:∀ (d:Nat) (t:Ex),((zdZ d t).filter zdU).length=confE t
 | d,.mk k n m i dn s=>by
  have h:=zqx (d+1) s
  simp only [zdZ,confE,List.filter_cons,zdU,Ex.kind]
  by_cases hk:k=15
  ·simp [hk,h];omega
  ·simp [hk,← h]
theorem zqx:∀ (d:Nat) (l:List Ex),((zdw d l).filter zdU).length=confL l
 | d,[]=>by simp [zdw,confL]
 | d,e :: es=>by simp [zdw,confL,zqy d e,zqx d es]
end
theorem zCh {W:World} {k:Int} {nm mr:ByteArray} {it d:Int} {sub:List Ex} {p:Option Addr} {cap lo:Nat} {T:TypeId} (h:zbb W lo sub (.slice p sub.length cap)) (hl:lo≤W.heap.size) :
  zfT (W.alloc (.cells #[.int .i64 k,.string nm,.string mr,.int .i64 it,.int .i64 d,.slice p sub.length cap] T)) (fun b=>b<lo∨b=W.heap.size) [.mk k nm mr it d sub] (.slice (some ⟨W.heap.size,0,none⟩) 1 1):=by
 refine⟨_,1,rfl,Nat.le_refl _,fun _=>⟨W.heap.size,0,rfl,.inr rfl,zko.2 ⟨⟨_,?_,?_,?_,?_,?_,?_,zys (fun _ h=>.inl h) (zmH ((Below.refl _ _).alloc (Nat.le_refl _) _) (fun b hb=>by omega)) (zDs h)⟩,zng⟩⟩⟩ <;> simp [go_sem,Ex.kind,Ex.name,Ex.more,Ex.int,Ex.den]
end
end Go.Proofs.YtpnjjmcimjlfkaaGreatDoor
