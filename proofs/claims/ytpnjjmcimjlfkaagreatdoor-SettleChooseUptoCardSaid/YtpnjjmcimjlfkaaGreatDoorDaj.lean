/- Texts of this proof, part 10: what the proof uses of them. -/
import Derived.Test.YtpnjjmcimjlfkaaGreatDoorDai
import Derived.Test.YtpnjjmcimjlfkaaGreatDoorDah
import Derived.RangeFuncLeaves
import Derived.RangeFuncCalls
set_option maxRecDepth 100000
set_option maxHeartbeats 64000000
namespace Go.Proofs.YtpnjjmcimjlfkaaGreatDoor
section
open Go.RowKit
def zi (k:Int) (nm mr:ByteArray) (b0 b1:Bool):Int:=if zag k nm mr b0 b1 then (if k=13∧nm=mr then 7 else 0) else 6
theorem zBm {s:ByteArray} (h:s.size=1):∃ c:UInt8,s=⟨#[c]⟩:=by
 obtain⟨d⟩:=s
 obtain⟨l⟩:=d
 match l,h with
 | [c],_=>exact⟨c,rfl⟩
theorem zBh {s:ByteArray} (h:¬ s.size=1):zgs zdp s=false:=by
 refine zxN fun i hi e=>h ?_
 simp only [zdp,List.length_cons,List.length_nil] at hi
 have:i=0∨i=1∨i=2∨i=3∨i=4:=by omega
 rcases this with rfl | rfl | rfl | rfl | rfl <;> (rw [← e];rfl)
theorem zzh (c:UInt8):decide ((0:Int)≤Lib.indexByte [43,45,42,61,60] c)=zgs zdp ⟨#[c]⟩:=by
 have e:∀ x:UInt8,decide ((⟨#[x]⟩:ByteArray)=⟨#[c]⟩)=decide (x=c):=fun x=>by
  rw [decide_eq_decide];constructor
  ·intro h;injection h with h;injection h with h;injection h
  ·rintro rfl;rfl
 simp only [zgs,zdp,List.any_cons,List.any_nil,e,Bool.or_false]
 simp only [Lib.indexByte]
 by_cases e1:(43:UInt8)=c
 ·subst e1;decide
 by_cases e2:(45:UInt8)=c
 ·subst e2;decide
 by_cases e3:(42:UInt8)=c
 ·subst e3;decide
 by_cases e4:(61:UInt8)=c
 ·subst e4;decide
 by_cases e5:(60:UInt8)=c
 ·subst e5;decide
 simp [e1,e2,e3,e4,e5]
theorem zlT (k:Int) (nn nu ns:Nat) (nm mr:ByteArray) (it d:Int) (sv:Value) (w:World) (hsh:zaU k=some (nn,nu,ns)) :
  Calls Tryz.prog 260 #[.agg #[.int .i64 k,.string nm,.string mr,.int .i64 it,.int .i64 d,sv],.int .i64 nn] w fun e w'=>e = .returned (.int .i64 (zi k nm mr (decide (1≤nn)) (decide (2≤nn))))∧Below w.heap.size w w':=by
 have HNM:=Lib.hid (fun W=>zkg nm W)
 have HMR:=Lib.hid (fun W=>zkg mr W)
 have HLB:=Lib.hid (fun W=>zqf nm W)
 rcases zdX hsh with⟨rfl,e⟩ | ⟨rfl,e⟩ | ⟨rfl,e⟩ | ⟨rfl,e⟩ | ⟨rfl,e⟩ | ⟨rfl,e⟩ | ⟨rfl,e⟩ | ⟨rfl,e⟩ | ⟨rfl,e⟩ | ⟨rfl,e⟩ | ⟨rfl,e⟩ | ⟨rfl,e⟩ | ⟨rfl,e⟩ | ⟨rfl,e⟩ | ⟨rfl,e⟩
 ·cases e
  have HE:Hid (zi 1 nm mr false false=0):=Lib.hid (by simp [zi,zag,zas,])
  clear  hsh
  have tok1:True:=trivial
  go_enter Tryz.func260,Tryz.ntmps260
  go_wp2_with fail
  go_ret
  exact⟨zk (a:=0) HE.out.symm,(Below.refl _ _).alloc (Nat.le_refl _) _⟩
 ·cases e
  have HE:Hid (zi 2 nm mr false false=0):=Lib.hid (by simp [zi,zag,zas,])
  clear  hsh
  have tok1:True:=trivial
  go_enter Tryz.func260,Tryz.ntmps260
  go_wp2_with fail
  go_ret
  exact⟨zk (a:=0) HE.out.symm,(Below.refl _ _).alloc (Nat.le_refl _) _⟩
 ·cases e
  cases hn:zI nm
  ·rw [hn] at HNM
   have HE:Hid (zi 3 nm mr true false=6):=Lib.hid (by simp [zi,zag,zas,hn])
   clear hn hsh
   have tok1:True:=trivial
   go_enter Tryz.func260,Tryz.ntmps260
   go_wp2_with (first | ((go_at_call 257);have _t:=tok1;(with_reducible refine(HNM.out _).mono ?_);rintro e wn ⟨rfl,hbn⟩;clear tok1 _t;obtain⟨hcn,hfn⟩:=bcellE hbn;have hln:w.heap.size<wn.heap.size:=by(have hzz:=hbn.size;simp at hzz;omega)))
   go_ret
   exact⟨zk (a:=6) HE.out.symm,((Below.refl _ _).alloc (Nat.le_refl _) _).trans (hbn.mono (by first | omega | (simp;done) | (simp;omega)))⟩
  ·rw [hn] at HNM
   have HE:Hid (zi 3 nm mr true false=0):=Lib.hid (by simp [zi,zag,zas,hn])
   clear hn hsh
   have tok1:True:=trivial
   go_enter Tryz.func260,Tryz.ntmps260
   go_wp2_with (first | ((go_at_call 257);have _t:=tok1;(with_reducible refine(HNM.out _).mono ?_);rintro e wn ⟨rfl,hbn⟩;clear tok1 _t;obtain⟨hcn,hfn⟩:=bcellE hbn;have hln:w.heap.size<wn.heap.size:=by(have hzz:=hbn.size;simp at hzz;omega)))
   go_ret
   exact⟨zk (a:=0) HE.out.symm,((Below.refl _ _).alloc (Nat.le_refl _) _).trans (hbn.mono (by first | omega | (simp;done) | (simp;omega)))⟩
 ·cases e
  cases hn:zI nm
  ·rw [hn] at HNM
   have HE:Hid (zi 4 nm mr true true=6):=Lib.hid (by simp [zi,zag,zas,hn])
   clear hn hsh
   have tok1:True:=trivial
   go_enter Tryz.func260,Tryz.ntmps260
   go_wp2_with (first | ((go_at_call 257);have _t:=tok1;(with_reducible refine(HNM.out _).mono ?_);rintro e wn ⟨rfl,hbn⟩;clear tok1 _t;obtain⟨hcn,hfn⟩:=bcellE hbn;have hln:w.heap.size<wn.heap.size:=by(have hzz:=hbn.size;simp at hzz;omega)))
   go_ret
   exact⟨zk (a:=6) HE.out.symm,((Below.refl _ _).alloc (Nat.le_refl _) _).trans (hbn.mono (by first | omega | (simp;done) | (simp;omega)))⟩
  ·rw [hn] at HNM
   cases hm:zI mr
   ·rw [hm] at HMR
    have HE:Hid (zi 4 nm mr true true=6):=Lib.hid (by simp [zi,zag,zas,hn,hm])
    clear hn hm hsh
    have tok1:True:=trivial
    go_enter Tryz.func260,Tryz.ntmps260
    go_wp2_with (first | ((go_at_call 257);have _t:=tok1;(with_reducible refine(HNM.out _).mono ?_);rintro e wn ⟨rfl,hbn⟩;clear tok1 _t;obtain⟨hcn,hfn⟩:=bcellE hbn;have hln:w.heap.size<wn.heap.size:=by(have hzz:=hbn.size;simp at hzz;omega)) | ((go_at_call 257);(with_reducible refine(HMR.out _).mono ?_);rintro e wm ⟨rfl,hbm⟩;obtain⟨hcm,hfm⟩:=bcellE hbm))
    go_ret
    exact⟨zk (a:=6) HE.out.symm,(((Below.refl _ _).alloc (Nat.le_refl _) _).trans (hbn.mono (by first | omega | (simp;done) | (simp;omega)))).trans (hbm.mono (by have:=hbn.size;simp at this;omega))⟩
   ·rw [hm] at HMR
    have HE:Hid (zi 4 nm mr true true=0):=Lib.hid (by simp [zi,zag,zas,hn,hm])
    clear hn hm hsh
    have tok1:True:=trivial
    go_enter Tryz.func260,Tryz.ntmps260
    go_wp2_with (first | ((go_at_call 257);have _t:=tok1;(with_reducible refine(HNM.out _).mono ?_);rintro e wn ⟨rfl,hbn⟩;clear tok1 _t;obtain⟨hcn,hfn⟩:=bcellE hbn;have hln:w.heap.size<wn.heap.size:=by(have hzz:=hbn.size;simp at hzz;omega)) | ((go_at_call 257);(with_reducible refine(HMR.out _).mono ?_);rintro e wm ⟨rfl,hbm⟩;obtain⟨hcm,hfm⟩:=bcellE hbm))
    go_ret
    exact⟨zk (a:=0) HE.out.symm,(((Below.refl _ _).alloc (Nat.le_refl _) _).trans (hbn.mono (by first | omega | (simp;done) | (simp;omega)))).trans (hbm.mono (by have:=hbn.size;simp at this;omega))⟩
 ·cases e
  by_cases hz:nm.size=0
  ·obtain rfl:=zbW hz
   have HE:Hid (zi 5 ⟨#[]⟩ mr true false=0):=Lib.hid rfl
   clear hz HNM HLB hsh
   have tok1:True:=trivial
   go_enter Tryz.func260,Tryz.ntmps260
   go_wp2_with fail
   go_ret
   exact⟨zk (a:=0) HE.out.symm,(Below.refl _ _).alloc (Nat.le_refl _) _⟩
  ·have hz1:=zbK hz
   cases hl:zX nm.data.toList
   ·rw [hl] at HLB
    have HE:Hid (zi 5 nm mr true false=6):=Lib.hid (by simp [zi,zag,zas,hl,hz])
    clear hl hz hsh
    have tok1:True:=trivial
    go_enter Tryz.func260,Tryz.ntmps260
    go_wp2_with (first | ((go_at_call 67);(with_reducible refine(HLB.out _).mono ?_);rintro e wn ⟨rfl,hbn⟩;obtain⟨hcn,hfn⟩:=bcellE hbn))
    go_ret
    exact⟨zk (a:=6) HE.out.symm,((Below.refl _ _).alloc (Nat.le_refl _) _).trans (hbn.mono (by first | omega | (simp;done) | (simp;omega)))⟩
   ·rw [hl] at HLB
    have HE:Hid (zi 5 nm mr true false=0):=Lib.hid (by simp [zi,zag,zas,hl])
    clear hl hz hsh
    have tok1:True:=trivial
    go_enter Tryz.func260,Tryz.ntmps260
    go_wp2_with (first | ((go_at_call 67);(with_reducible refine(HLB.out _).mono ?_);rintro e wn ⟨rfl,hbn⟩;obtain⟨hcn,hfn⟩:=bcellE hbn))
    go_ret
    exact⟨zk (a:=0) HE.out.symm,((Below.refl _ _).alloc (Nat.le_refl _) _).trans (hbn.mono (by first | omega | (simp;done) | (simp;omega)))⟩
 ·cases e
  cases hn:zI nm
  ·rw [hn] at HNM
   have HE:Hid (zi 6 nm mr true false=6):=Lib.hid (by simp [zi,zag,zas,hn])
   clear hn hsh
   have tok1:True:=trivial
   go_enter Tryz.func260,Tryz.ntmps260
   go_wp2_with (first | ((go_at_call 257);have _t:=tok1;(with_reducible refine(HNM.out _).mono ?_);rintro e wn ⟨rfl,hbn⟩;clear tok1 _t;obtain⟨hcn,hfn⟩:=bcellE hbn;have hln:w.heap.size<wn.heap.size:=by(have hzz:=hbn.size;simp at hzz;omega)))
   go_ret
   exact⟨zk (a:=6) HE.out.symm,((Below.refl _ _).alloc (Nat.le_refl _) _).trans (hbn.mono (by first | omega | (simp;done) | (simp;omega)))⟩
  ·rw [hn] at HNM
   have HE:Hid (zi 6 nm mr true false=0):=Lib.hid (by simp [zi,zag,zas,hn])
   clear hn hsh
   have tok1:True:=trivial
   go_enter Tryz.func260,Tryz.ntmps260
   go_wp2_with (first | ((go_at_call 257);have _t:=tok1;(with_reducible refine(HNM.out _).mono ?_);rintro e wn ⟨rfl,hbn⟩;clear tok1 _t;obtain⟨hcn,hfn⟩:=bcellE hbn;have hln:w.heap.size<wn.heap.size:=by(have hzz:=hbn.size;simp at hzz;omega)))
   go_ret
   exact⟨zk (a:=0) HE.out.symm,((Below.refl _ _).alloc (Nat.le_refl _) _).trans (hbn.mono (by first | omega | (simp;done) | (simp;omega)))⟩
 ·cases e
  have HE:Hid (zi 7 nm mr false false=0):=Lib.hid (by simp [zi,zag,zas,])
  clear  hsh
  have tok1:True:=trivial
  go_enter Tryz.func260,Tryz.ntmps260
  go_wp2_with fail
  go_ret
  exact⟨zk (a:=0) HE.out.symm,(Below.refl _ _).alloc (Nat.le_refl _) _⟩
 ·cases e
  cases hn:zI nm
  ·rw [hn] at HNM
   have HE:Hid (zi 8 nm mr true false=6):=Lib.hid (by simp [zi,zag,zas,hn])
   clear hn hsh
   have tok1:True:=trivial
   go_enter Tryz.func260,Tryz.ntmps260
   go_wp2_with (first | ((go_at_call 257);have _t:=tok1;(with_reducible refine(HNM.out _).mono ?_);rintro e wn ⟨rfl,hbn⟩;clear tok1 _t;obtain⟨hcn,hfn⟩:=bcellE hbn;have hln:w.heap.size<wn.heap.size:=by(have hzz:=hbn.size;simp at hzz;omega)))
   go_ret
   exact⟨zk (a:=6) HE.out.symm,((Below.refl _ _).alloc (Nat.le_refl _) _).trans (hbn.mono (by first | omega | (simp;done) | (simp;omega)))⟩
  ·rw [hn] at HNM
   have HE:Hid (zi 8 nm mr true false=0):=Lib.hid (by simp [zi,zag,zas,hn])
   clear hn hsh
   have tok1:True:=trivial
   go_enter Tryz.func260,Tryz.ntmps260
   go_wp2_with (first | ((go_at_call 257);have _t:=tok1;(with_reducible refine(HNM.out _).mono ?_);rintro e wn ⟨rfl,hbn⟩;clear tok1 _t;obtain⟨hcn,hfn⟩:=bcellE hbn;have hln:w.heap.size<wn.heap.size:=by(have hzz:=hbn.size;simp at hzz;omega)))
   go_ret
   exact⟨zk (a:=0) HE.out.symm,((Below.refl _ _).alloc (Nat.le_refl _) _).trans (hbn.mono (by first | omega | (simp;done) | (simp;omega)))⟩
 ·cases e
  have HE:Hid (zi 9 nm mr false false=0):=Lib.hid (by simp [zi,zag,zas,])
  clear  hsh
  have tok1:True:=trivial
  go_enter Tryz.func260,Tryz.ntmps260
  go_wp2_with fail
  go_ret
  exact⟨zk (a:=0) HE.out.symm,(Below.refl _ _).alloc (Nat.le_refl _) _⟩
 ·cases e
  by_cases hz:nm.size=1
  ·obtain⟨c,rfl⟩:=zBm hz
   have HCT:Hid (∀ W:World,Calls Tryz.prog 289 #[.string ⟨#[43,45,42,61,60]⟩,.string ⟨#[c]⟩] W fun e w'=>e = .returned (.bool (zgs zdp ⟨#[c]⟩))∧W=w'):=Lib.hid (fun W=>by have:=zrY ⟨#[43,45,42,61,60]⟩ c W;rw [zzh] at this;exact this)
   cases hl:zgs zdp ⟨#[c]⟩
   ·rw [hl] at HCT
    have HE:Hid (zi 10 ⟨#[c]⟩ mr true false=6):=Lib.hid (by simp [zi,zag,zas,hl])
    clear hl hz HNM HLB hsh
    have tok1:True:=trivial
    go_enter Tryz.func260,Tryz.ntmps260
    go_wp2_with (first | ((go_at_call 289);refine(HCT.out _).mono ?_;rintro e wn ⟨rfl,rfl⟩))
    go_ret
    exact⟨zk (a:=6) HE.out.symm,(Below.refl _ _).alloc (Nat.le_refl _) _⟩
   ·rw [hl] at HCT
    have HE:Hid (zi 10 ⟨#[c]⟩ mr true false=0):=Lib.hid (by simp [zi,zag,zas,hl])
    clear hl hz HNM HLB hsh
    have tok1:True:=trivial
    go_enter Tryz.func260,Tryz.ntmps260
    go_wp2_with (first | ((go_at_call 289);refine(HCT.out _).mono ?_;rintro e wn ⟨rfl,rfl⟩))
    go_ret
    exact⟨zk (a:=0) HE.out.symm,(Below.refl _ _).alloc (Nat.le_refl _) _⟩
  ·have hz1:((nm.size:Int) == 1)=false:=by simp;omega
   have hz2:(nm.size == 1)=false:=by simpa using hz
   have HE:Hid (zi 10 nm mr true false=6):=Lib.hid (by simp [zi,zag,zas,zBh hz])
   clear hz hsh
   have tok1:True:=trivial
   go_enter Tryz.func260,Tryz.ntmps260
   go_wp2_with fail
   go_ret
   exact⟨zk (a:=6) HE.out.symm,(Below.refl _ _).alloc (Nat.le_refl _) _⟩
 ·cases e
  have HE:Hid (zi 11 nm mr false false=0):=Lib.hid (by simp [zi,zag,zas,])
  clear  hsh
  have tok1:True:=trivial
  go_enter Tryz.func260,Tryz.ntmps260
  go_wp2_with fail
  go_ret
  exact⟨zk (a:=0) HE.out.symm,(Below.refl _ _).alloc (Nat.le_refl _) _⟩
 ·cases e
  have HE:Hid (zi 12 nm mr false false=0):=Lib.hid (by simp [zi,zag,zas,])
  clear  hsh
  have tok1:True:=trivial
  go_enter Tryz.func260,Tryz.ntmps260
  go_wp2_with fail
  go_ret
  exact⟨zk (a:=0) HE.out.symm,(Below.refl _ _).alloc (Nat.le_refl _) _⟩
 ·cases e
  cases hn:zI nm
  ·rw [hn] at HNM
   have HE:Hid (zi 13 nm mr true true=6):=Lib.hid (by simp [zi,zag,zas,hn])
   clear hn hsh
   have tok1:True:=trivial
   go_enter Tryz.func260,Tryz.ntmps260
   go_wp2_with (first | ((go_at_call 257);have _t:=tok1;(with_reducible refine(HNM.out _).mono ?_);rintro e wn ⟨rfl,hbn⟩;clear tok1 _t;obtain⟨hcn,hfn⟩:=bcellE hbn;have hln:w.heap.size<wn.heap.size:=by(have hzz:=hbn.size;simp at hzz;omega)))
   go_ret
   exact⟨zk (a:=6) HE.out.symm,((Below.refl _ _).alloc (Nat.le_refl _) _).trans (hbn.mono (by first | omega | (simp;done) | (simp;omega)))⟩
  ·rw [hn] at HNM
   cases hm:zI mr
   ·rw [hm] at HMR
    have HE:Hid (zi 13 nm mr true true=6):=Lib.hid (by simp [zi,zag,zas,hn,hm])
    clear hn hm hsh
    have tok1:True:=trivial
    go_enter Tryz.func260,Tryz.ntmps260
    go_wp2_with (first | ((go_at_call 257);have _t:=tok1;(with_reducible refine(HNM.out _).mono ?_);rintro e wn ⟨rfl,hbn⟩;clear tok1 _t;obtain⟨hcn,hfn⟩:=bcellE hbn;have hln:w.heap.size<wn.heap.size:=by(have hzz:=hbn.size;simp at hzz;omega)) | ((go_at_call 257);(with_reducible refine(HMR.out _).mono ?_);rintro e wm ⟨rfl,hbm⟩;obtain⟨hcm,hfm⟩:=bcellE hbm))
    go_ret
    exact⟨zk (a:=6) HE.out.symm,(((Below.refl _ _).alloc (Nat.le_refl _) _).trans (hbn.mono (by first | omega | (simp;done) | (simp;omega)))).trans (hbm.mono (by have:=hbn.size;simp at this;omega))⟩
   ·rw [hm] at HMR
    by_cases hq:nm=mr
    ·subst hq
     have HE:Hid (zi 13 nm nm true true=7):=Lib.hid (by simp [zi,zag,zas,hn])
     clear hn hm HMR hsh
     have tok1:True:=trivial
     go_enter Tryz.func260,Tryz.ntmps260
     go_wp2_with (first | ((go_at_call 257);have _t:=tok1;(with_reducible refine(HNM.out _).mono ?_);rintro e wn ⟨rfl,hbn⟩;clear tok1 _t;obtain⟨hcn,hfn⟩:=bcellE hbn;have hln:w.heap.size<wn.heap.size:=by(have hzz:=hbn.size;simp at hzz;omega)) | ((go_at_call 257);(with_reducible refine(HNM.out _).mono ?_);rintro e wm ⟨rfl,hbm⟩;obtain⟨hcm,hfm⟩:=bcellE hbm))
     go_ret
     exact⟨zk (a:=7) HE.out.symm,(((Below.refl _ _).alloc (Nat.le_refl _) _).trans (hbn.mono (by first | omega | (simp;done) | (simp;omega)))).trans (hbm.mono (by have:=hbn.size;simp at this;omega))⟩
    ·have hq1:(nm.toList == mr.toList)=false:=(Lib.bytes_beq_false_iff _ _).2 hq
     have HE:Hid (zi 13 nm mr true true=0):=Lib.hid (by simp [zi,zag,zas,hn,hm,hq])
     clear hn hm hq hsh
     have tok1:True:=trivial
     go_enter Tryz.func260,Tryz.ntmps260
     go_wp2_with (first | ((go_at_call 257);have _t:=tok1;(with_reducible refine(HNM.out _).mono ?_);rintro e wn ⟨rfl,hbn⟩;clear tok1 _t;obtain⟨hcn,hfn⟩:=bcellE hbn;have hln:w.heap.size<wn.heap.size:=by(have hzz:=hbn.size;simp at hzz;omega)) | ((go_at_call 257);(with_reducible refine(HMR.out _).mono ?_);rintro e wm ⟨rfl,hbm⟩;obtain⟨hcm,hfm⟩:=bcellE hbm))
     go_ret
     exact⟨zk (a:=0) HE.out.symm,(((Below.refl _ _).alloc (Nat.le_refl _) _).trans (hbn.mono (by first | omega | (simp;done) | (simp;omega)))).trans (hbm.mono (by have:=hbn.size;simp at this;omega))⟩
 ·cases e
  have HE:Hid (zi 14 nm mr false false=0):=Lib.hid (by simp [zi,zag,zas,])
  clear  hsh
  have tok1:True:=trivial
  go_enter Tryz.func260,Tryz.ntmps260
  go_wp2_with fail
  go_ret
  exact⟨zk (a:=0) HE.out.symm,(Below.refl _ _).alloc (Nat.le_refl _) _⟩
 ·cases e
  have HE:Hid (zi 15 nm mr false false=0):=Lib.hid (by simp [zi,zag,zas,])
  clear  hsh
  have tok1:True:=trivial
  go_enter Tryz.func260,Tryz.ntmps260
  go_wp2_with fail
  go_ret
  exact⟨zk (a:=0) HE.out.symm,(Below.refl _ _).alloc (Nat.le_refl _) _⟩
end
section
open Go.RowKit
def zaJ (nn nu ns:Nat) (nm mr:ByteArray) (it d:Int) (len:Nat):Bool:=
 (decide (1≤nn) || decide (nm.size=0)) && (decide (2≤nn) || decide (mr.size=0)) && (decide (1≤nu) || decide (it=0)) && (decide (2≤nu) || decide (d=0)) && decide (len=ns)
def zaW (k:Int) (nm mr:ByteArray) (it d:Int) (len:Nat):Int:=
 match zaU k with
 | none=>9
 | some (nn,nu,ns)=>if zaJ nn nu ns nm mr it d len then (if zi k nm mr (decide (1≤nn)) (decide (2≤nn))=0 then zaF k it d else zi k nm mr (decide (1≤nn)) (decide (2≤nn))) else 1
theorem zhy {k:Int} {nm mr:ByteArray} {it d:Int} {len:Nat} (h:zaU k=none):zaW k nm mr it d len=9:=by simp [zaW,h]
theorem zG {k:Int} {nm mr:ByteArray} {it d:Int} {len nn nu ns:Nat} (h:zaU k=some (nn,nu,ns)) (ha:zaJ nn nu ns nm mr it d len=false):zaW k nm mr it d len=1:=by simp [zaW,h,ha]
theorem zgE {k:Int} {nm mr:ByteArray} {it d:Int} {len nn nu ns:Nat} (h:zaU k=some (nn,nu,ns)) (ha:zaJ nn nu ns nm mr it d len=true) (hn:¬ zi k nm mr (decide (1≤nn)) (decide (2≤nn))=0):zaW k nm mr it d len=zi k nm mr (decide (1≤nn)) (decide (2≤nn)):=by simp only [zaW,h,ha];simp [hn]
theorem zgD {k:Int} {nm mr:ByteArray} {it d:Int} {len nn nu ns:Nat} (h:zaU k=some (nn,nu,ns)) (ha:zaJ nn nu ns nm mr it d len=true) (hn:zi k nm mr (decide (1≤nn)) (decide (2≤nn))=0):zaW k nm mr it d len=zaF k it d:=by simp only [zaW,h,ha];simp [hn]
theorem zsJ {k:Int} {nn nu ns:Nat} (h:zaU k=some (nn,nu,ns)):(nn=0∧nu=1)∨(nn=1∧nu=0)∨(nn=2∧nu=0)∨(nn=1∧nu=1)∨(nn=0∧nu=0)∨(nn=0∧nu=2):=by
 rcases zdX h with⟨_,e⟩ | ⟨_,e⟩ | ⟨_,e⟩ | ⟨_,e⟩ | ⟨_,e⟩ | ⟨_,e⟩ | ⟨_,e⟩ | ⟨_,e⟩ | ⟨_,e⟩ | ⟨_,e⟩ | ⟨_,e⟩ | ⟨_,e⟩ | ⟨_,e⟩ | ⟨_,e⟩ | ⟨_,e⟩ <;> (cases e;simp)
theorem zoY (k:Int) (nm mr:ByteArray) (it d:Int) (p:Option Addr) (len cap:Nat) (w:World) (hsh:zaU k=none) :
  Calls Tryz.prog 216 #[.agg #[.int .i64 k,.string nm,.string mr,.int .i64 it,.int .i64 d,.slice p len cap]] w fun e w'=>e = .returned (.int .i64 (zaW k nm mr it d len))∧Below w.heap.size w w':=by
 have HSH:=Lib.hid (fun W=>zsy k W hsh)
 have HE:=Lib.hid (zhy (nm:=nm) (mr:=mr) (it:=it) (d:=d) (len:=len) hsh)
 obtain⟨w1,hw1,hX⟩:=zxZ w #[.int .i64 k,.string nm,.string mr,.int .i64 it,.int .i64 d,.slice p len cap] 105
 have HW:=Lib.hid hw1
 have HX:=Lib.hid hX
 clear hX hw1 hsh
 go_enter Tryz.func216,Tryz.ntmps216
 go_wp2_with fail
 rw [HW.out]
 refine(HSH.out _).mono ?_
 rintro e ws ⟨rfl,hbs⟩
 obtain⟨c0,c1,c2,c3,c4,c5⟩:=zCT HX.out hbs
 have hl1:w.heap.size<ws.heap.size:=by have:=HX.out.size;have:=hbs.size;omega
 have hbw:Below w.heap.size w ws:=HX.out.below.trans (hbs.mono HX.out.below.size)
 clear hbs
 go_wp2_with fail
 go_ret
 exact⟨zk (a:=9) HE.out.symm,hbw.alloc (by first | omega | (simp;done) | (simp;omega)) _⟩
theorem zmQ (k:Int) (nn nu ns:Nat) (nm mr:ByteArray) (it d:Int) (p:Option Addr) (len cap:Nat) (w:World) (hsh:zaU k=some (nn,nu,ns)) :
  Calls Tryz.prog 216 #[.agg #[.int .i64 k,.string nm,.string mr,.int .i64 it,.int .i64 d,.slice p len cap]] w fun e w'=>e = .returned (.int .i64 (zaW k nm mr it d len))∧Below w.heap.size w w':=by
 have HSH:=Lib.hid (fun W=>zqQ k nn nu ns W hsh)
 have HNE:=Lib.hid (fun W=>zlT k nn nu ns nm mr it d (.slice p len cap) W hsh)
 obtain⟨ne,hne⟩:∃ ne,zi k nm mr (decide (1≤nn)) (decide (2≤nn))=ne:=⟨_,rfl⟩
 rw [hne] at HNE
 have HM:=Lib.hid hne
 have HK:=Lib.hid hsh
 clear hne
 obtain⟨w1,hw1,hX⟩:=zxZ w #[.int .i64 k,.string nm,.string mr,.int .i64 it,.int .i64 d,.slice p len cap] 105
 have HW:=Lib.hid hw1
 have HX:=Lib.hid hX
 clear hX hw1 hsh
 go_enter Tryz.func216,Tryz.ntmps216
 go_wp2_with fail
 rw [HW.out]
 refine(HSH.out _).mono ?_
 rintro e ws ⟨rfl,hbs⟩
 obtain⟨c0,c1,c2,c3,c4,c5⟩:=zCT HX.out hbs
 have hl1:w.heap.size<ws.heap.size:=by have:=HX.out.size;have:=hbs.size;omega
 have hbw:Below w.heap.size w ws:=HX.out.below.trans (hbs.mono HX.out.below.size)
 clear hbs
 rcases zsJ HK.out with⟨rfl,rfl⟩ | ⟨rfl,rfl⟩ | ⟨rfl,rfl⟩ | ⟨rfl,rfl⟩ | ⟨rfl,rfl⟩ | ⟨rfl,rfl⟩
 case' inl=>
  by_cases hz:nm.size=0
  rotate_left
  ·have hz1:=zbK hz
   have HZ:=Lib.hid hz
   clear hz
   go_wp2_with fail
   go_ret
   exact⟨zk (a:=1) (zG HK.out (by simp [zaJ,HZ.out])).symm,hbw.alloc (by first | omega | (simp;done) | (simp;omega)) _⟩
  obtain rfl:=zbW hz
  clear hz
  by_cases hz:mr.size=0
  rotate_left
  ·have hz1:=zbK hz
   have HZ:=Lib.hid hz
   clear hz
   go_wp2_with fail
   go_ret
   exact⟨zk (a:=1) (zG HK.out (by simp [zaJ,HZ.out])).symm,hbw.alloc (by first | omega | (simp;done) | (simp;omega)) _⟩
  obtain rfl:=zbW hz
  clear hz
  by_cases hz:d=0
  rotate_left
  ·have hz1:(d != 0)=true:=by simpa using hz
   have HZ:=Lib.hid hz
   clear hz
   go_wp2_with fail
   go_ret
   exact⟨zk (a:=1) (zG HK.out (by simp [zaJ,HZ.out])).symm,hbw.alloc (by first | omega | (simp;done) | (simp;omega)) _⟩
  subst hz
  by_cases hz:len=ns
  rotate_left
  ·have hz1:((len:Int) != (ns:Int))=true:=by simp;omega
   have hz2:(len != ns)=true:=by simpa using hz
   have HZ:=Lib.hid hz
   clear hz
   go_wp2_with fail
   go_ret
   exact⟨zk (a:=1) (zG HK.out (by simp [zaJ,HZ.out])).symm,hbw.alloc (by first | omega | (simp;done) | (simp;omega)) _⟩
  subst hz
 case' inr.inl=>
  by_cases hz:mr.size=0
  rotate_left
  ·have hz1:=zbK hz
   have HZ:=Lib.hid hz
   clear hz
   go_wp2_with fail
   go_ret
   exact⟨zk (a:=1) (zG HK.out (by simp [zaJ,HZ.out])).symm,hbw.alloc (by first | omega | (simp;done) | (simp;omega)) _⟩
  obtain rfl:=zbW hz
  clear hz
  by_cases hz:it=0
  rotate_left
  ·have hz1:(it != 0)=true:=by simpa using hz
   have HZ:=Lib.hid hz
   clear hz
   go_wp2_with fail
   go_ret
   exact⟨zk (a:=1) (zG HK.out (by simp [zaJ,HZ.out])).symm,hbw.alloc (by first | omega | (simp;done) | (simp;omega)) _⟩
  subst hz
  by_cases hz:d=0
  rotate_left
  ·have hz1:(d != 0)=true:=by simpa using hz
   have HZ:=Lib.hid hz
   clear hz
   go_wp2_with fail
   go_ret
   exact⟨zk (a:=1) (zG HK.out (by simp [zaJ,HZ.out])).symm,hbw.alloc (by first | omega | (simp;done) | (simp;omega)) _⟩
  subst hz
  by_cases hz:len=ns
  rotate_left
  ·have hz1:((len:Int) != (ns:Int))=true:=by simp;omega
   have hz2:(len != ns)=true:=by simpa using hz
   have HZ:=Lib.hid hz
   clear hz
   go_wp2_with fail
   go_ret
   exact⟨zk (a:=1) (zG HK.out (by simp [zaJ,HZ.out])).symm,hbw.alloc (by first | omega | (simp;done) | (simp;omega)) _⟩
  subst hz
 case' inr.inr.inl=>
  by_cases hz:it=0
  rotate_left
  ·have hz1:(it != 0)=true:=by simpa using hz
   have HZ:=Lib.hid hz
   clear hz
   go_wp2_with fail
   go_ret
   exact⟨zk (a:=1) (zG HK.out (by simp [zaJ,HZ.out])).symm,hbw.alloc (by first | omega | (simp;done) | (simp;omega)) _⟩
  subst hz
  by_cases hz:d=0
  rotate_left
  ·have hz1:(d != 0)=true:=by simpa using hz
   have HZ:=Lib.hid hz
   clear hz
   go_wp2_with fail
   go_ret
   exact⟨zk (a:=1) (zG HK.out (by simp [zaJ,HZ.out])).symm,hbw.alloc (by first | omega | (simp;done) | (simp;omega)) _⟩
  subst hz
  by_cases hz:len=ns
  rotate_left
  ·have hz1:((len:Int) != (ns:Int))=true:=by simp;omega
   have hz2:(len != ns)=true:=by simpa using hz
   have HZ:=Lib.hid hz
   clear hz
   go_wp2_with fail
   go_ret
   exact⟨zk (a:=1) (zG HK.out (by simp [zaJ,HZ.out])).symm,hbw.alloc (by first | omega | (simp;done) | (simp;omega)) _⟩
  subst hz
 case' inr.inr.inr.inl=>
  by_cases hz:mr.size=0
  rotate_left
  ·have hz1:=zbK hz
   have HZ:=Lib.hid hz
   clear hz
   go_wp2_with fail
   go_ret
   exact⟨zk (a:=1) (zG HK.out (by simp [zaJ,HZ.out])).symm,hbw.alloc (by first | omega | (simp;done) | (simp;omega)) _⟩
  obtain rfl:=zbW hz
  clear hz
  by_cases hz:d=0
  rotate_left
  ·have hz1:(d != 0)=true:=by simpa using hz
   have HZ:=Lib.hid hz
   clear hz
   go_wp2_with fail
   go_ret
   exact⟨zk (a:=1) (zG HK.out (by simp [zaJ,HZ.out])).symm,hbw.alloc (by first | omega | (simp;done) | (simp;omega)) _⟩
  subst hz
  by_cases hz:len=ns
  rotate_left
  ·have hz1:((len:Int) != (ns:Int))=true:=by simp;omega
   have hz2:(len != ns)=true:=by simpa using hz
   have HZ:=Lib.hid hz
   clear hz
   go_wp2_with fail
   go_ret
   exact⟨zk (a:=1) (zG HK.out (by simp [zaJ,HZ.out])).symm,hbw.alloc (by first | omega | (simp;done) | (simp;omega)) _⟩
  subst hz
 case' inr.inr.inr.inr.inl=>
  by_cases hz:nm.size=0
  rotate_left
  ·have hz1:=zbK hz
   have HZ:=Lib.hid hz
   clear hz
   go_wp2_with fail
   go_ret
   exact⟨zk (a:=1) (zG HK.out (by simp [zaJ,HZ.out])).symm,hbw.alloc (by first | omega | (simp;done) | (simp;omega)) _⟩
  obtain rfl:=zbW hz
  clear hz
  by_cases hz:mr.size=0
  rotate_left
  ·have hz1:=zbK hz
   have HZ:=Lib.hid hz
   clear hz
   go_wp2_with fail
   go_ret
   exact⟨zk (a:=1) (zG HK.out (by simp [zaJ,HZ.out])).symm,hbw.alloc (by first | omega | (simp;done) | (simp;omega)) _⟩
  obtain rfl:=zbW hz
  clear hz
  by_cases hz:it=0
  rotate_left
  ·have hz1:(it != 0)=true:=by simpa using hz
   have HZ:=Lib.hid hz
   clear hz
   go_wp2_with fail
   go_ret
   exact⟨zk (a:=1) (zG HK.out (by simp [zaJ,HZ.out])).symm,hbw.alloc (by first | omega | (simp;done) | (simp;omega)) _⟩
  subst hz
  by_cases hz:d=0
  rotate_left
  ·have hz1:(d != 0)=true:=by simpa using hz
   have HZ:=Lib.hid hz
   clear hz
   go_wp2_with fail
   go_ret
   exact⟨zk (a:=1) (zG HK.out (by simp [zaJ,HZ.out])).symm,hbw.alloc (by first | omega | (simp;done) | (simp;omega)) _⟩
  subst hz
  by_cases hz:len=ns
  rotate_left
  ·have hz1:((len:Int) != (ns:Int))=true:=by simp;omega
   have hz2:(len != ns)=true:=by simpa using hz
   have HZ:=Lib.hid hz
   clear hz
   go_wp2_with fail
   go_ret
   exact⟨zk (a:=1) (zG HK.out (by simp [zaJ,HZ.out])).symm,hbw.alloc (by first | omega | (simp;done) | (simp;omega)) _⟩
  subst hz
 case' inr.inr.inr.inr.inr=>
  by_cases hz:nm.size=0
  rotate_left
  ·have hz1:=zbK hz
   have HZ:=Lib.hid hz
   clear hz
   go_wp2_with fail
   go_ret
   exact⟨zk (a:=1) (zG HK.out (by simp [zaJ,HZ.out])).symm,hbw.alloc (by first | omega | (simp;done) | (simp;omega)) _⟩
  obtain rfl:=zbW hz
  clear hz
  by_cases hz:mr.size=0
  rotate_left
  ·have hz1:=zbK hz
   have HZ:=Lib.hid hz
   clear hz
   go_wp2_with fail
   go_ret
   exact⟨zk (a:=1) (zG HK.out (by simp [zaJ,HZ.out])).symm,hbw.alloc (by first | omega | (simp;done) | (simp;omega)) _⟩
  obtain rfl:=zbW hz
  clear hz
  by_cases hz:len=ns
  rotate_left
  ·have hz1:((len:Int) != (ns:Int))=true:=by simp;omega
   have hz2:(len != ns)=true:=by simpa using hz
   have HZ:=Lib.hid hz
   clear hz
   go_wp2_with fail
   go_ret
   exact⟨zk (a:=1) (zG HK.out (by simp [zaJ,HZ.out])).symm,hbw.alloc (by first | omega | (simp;done) | (simp;omega)) _⟩
  subst hz
 all_goals
  by_cases hz:ne=0
  ·subst hz
   go_wp2_with (first
    | (go_at_call 260;refine(HNE.out _).mono ?_;rintro e wn ⟨rfl,hbn⟩;obtain⟨hcn,hfn⟩:=bcellE hbn;have hln:w.heap.size<ws.heap.size+1:=by omega)
    | (go_at_call 261;refine(zjj _ _ _ _ _ _ _).mono ?_;rintro e wm ⟨rfl,hbm⟩))
   go_ret
   exact⟨zk (zgD HK.out (by simp [zaJ] <;> rfl) HM.out).symm,((hbw.alloc (by first | omega | (simp;done) | (simp;omega)) _).trans (hbn.mono (by first | omega | (simp;done) | (simp;omega)))).trans (hbm.mono (by have hz1:=hbn.size;simp at hz1;omega))⟩
  ·have hz1:(ne != 0)=true:=by simpa using hz
   have HZ:=Lib.hid hz
   clear hz
   go_wp2_with (first
    | (go_at_call 260;refine(HNE.out _).mono ?_;rintro e wn ⟨rfl,hbn⟩;obtain⟨hcn,hfn⟩:=bcellE hbn;have hln:w.heap.size<ws.heap.size+1:=by omega))
   go_ret
   exact⟨zk (a:=ne) ((zgE HK.out (by simp [zaJ] <;> rfl) (by rw [HM.out];exact HZ.out)).trans HM.out).symm,(hbw.alloc (by first | omega | (simp;done) | (simp;omega)) _).trans (hbn.mono (by first | omega | (simp;done) | (simp;omega)))⟩
theorem zmR (k:Int) (nm mr:ByteArray) (it d:Int) (p:Option Addr) (len cap:Nat) (w:World) :
  Calls Tryz.prog 216 #[.agg #[.int .i64 k,.string nm,.string mr,.int .i64 it,.int .i64 d,.slice p len cap]] w fun e w'=>e = .returned (.int .i64 (zaW k nm mr it d len))∧Below w.heap.size w w':=by
 rcases h:zaU k with _ | ⟨nn,nu,ns⟩
 ·exact zoY k nm mr it d p len cap w h
 ·exact zmQ k nn nu ns nm mr it d p len cap w h
end
section
open Go.RowKit
mutual
def zaj:Ex→Int
 | .mk k n m i d s=>if zaW k n m i d s.length=0 then zad s else zaW k n m i d s.length
def zad:List Ex→Int
 | []=>0
 | e :: es=>if zaj e=0 then zad es else zaj e
end
theorem zdj {k:Int} {nm mr:ByteArray} {it d c:Int} {sub:List Ex} (h:zaW k nm mr it d sub.length=c) (hc:¬ c=0):zaj (.mk k nm mr it d sub)=c:=by rw [zaj,h,if_neg hc]
theorem zlI {k:Int} {nm mr:ByteArray} {it d:Int} {sub:List Ex} (h:zaW k nm mr it d sub.length=0):zaj (.mk k nm mr it d sub)=zad sub:=by rw [zaj,if_pos h]
theorem zeL:∀ a b:List Ex,zad (a++b)=if zad a=0 then zad b else zad a
 | [],b=>by simp [zad]
 | e :: es,b=>by
  simp only [zad,List.cons_append,zeL es b]
  by_cases h:zaj e=0 <;> simp [h]
end
section
open Go.RowKit
def zB (t:Ex):Int:=if 400<nodesE t∨40<depthE t then 4 else zaj t
theorem zjT {t:Ex} (h:400<nodesE t):zB t=4:=by rw [zB,if_pos (.inl h)]
theorem zjU {t:Ex} (h:40<depthE t):zB t=4:=by rw [zB,if_pos (.inr h)]
theorem zhx {t:Ex} (h:¬ 400<nodesE t) (h':¬ 40<depthE t):zB t=zaj t:=by rw [zB,if_neg (by omega)]
end
section
open Go.RowKit Go.Shelf
attribute [local go_sem] Oper.semAt_some /- plain: the depths,the first error -/
mutual
theorem zxx:∀ (d:Nat) (t:Ex) (x:Nat × Ex),x ∈ zdZ d t→x.1+1≤d+depthE t
 | d,.mk k n m i dn s,x,h=>by
  simp only [zdZ,List.mem_cons] at h
  rcases h with rfl | h
  ·simp only [depthE];omega
  ·have:=zxw (d+1) s x h;simp only [depthE];omega
theorem zxw:∀ (d:Nat) (l:List Ex) (x:Nat × Ex),x ∈ zdw d l→x.1+1≤d+depthL l
 | d,[],x,h=>by simp [zdw] at h
 | d,e :: es,x,h=>by
  simp only [zdw,List.mem_append] at h
  rcases h with h | h
  ·have:=zxx d e x h;simp only [depthL];omega
  ·have:=zxw d es x h;simp only [depthL];omega
end
mutual
theorem zpL:∀ (d:Nat) (t:Ex),∃ x ∈ zdZ d t,x.1+1=d+depthE t
 | d,.mk k n m i dn s=>by
  rcases zpK (d+1) s with⟨rfl⟩ | ⟨x,hx,he⟩
  ·exact⟨(d,.mk k n m i dn []),by simp [zdZ],by simp [depthE,depthL]⟩
  ·exact⟨x,by simp only [zdZ,List.mem_cons];exact .inr hx,by simp only [depthE];omega⟩
theorem zpK:∀ (d:Nat) (l:List Ex),l=[]∨∃ x ∈ zdw d l,x.1+1=d+depthL l
 | d,[]=>.inl rfl
 | d,e :: es=>by
  right
  obtain⟨x,hx,he⟩:=zpL d e
  rcases zpK d es with rfl | ⟨y,hy,hye⟩
  ·exact⟨x,by simp only [zdw,List.mem_append];exact .inl hx,by simp only [depthL];omega⟩
  ·rcases Nat.le_total (depthE e) (depthL es) with h | h
   ·exact⟨y,by simp only [zdw,List.mem_append];exact .inr hy,by simp only [depthL];omega⟩
   ·exact⟨x,by simp only [zdw,List.mem_append];exact .inl hx,by simp only [depthL];omega⟩
end
def zmp (t:Ex):Int:=zaW t.kind t.name t.more t.int t.den t.sub.length
def zbh:List (Nat × Ex)→Int
 | []=>0
 | x :: xs=>if zmp x.2=0 then zbh xs else zmp x.2
theorem zbU:∀ a b:List (Nat × Ex),zbh (a++b)=if zbh a=0 then zbh b else zbh a
 | [],b=>by simp [zbh]
 | x :: xs,b=>by
  simp only [zbh,List.cons_append,zbU xs b]
  by_cases h:zmp x.2=0 <;> simp [h]
mutual
theorem zgF:∀ (d:Nat) (t:Ex),zaj t=zbh (zdZ d t)
 | d,.mk k n m i dn s=>by
  rw [zaj,zdZ,zbh,ziu (d+1) s];rfl
theorem ziu:∀ (d:Nat) (l:List Ex),zad l=zbh (zdw d l)
 | d,[]=>by simp [zad,zdw,zbh]
 | d,e :: es=>by rw [zad,zdw,zbU,zgF d e,ziu d es]
end
theorem ziB (k:Int) (nm mr:ByteArray) (it d:Int) (p:Option Addr) (len cap:Nat) (w:World) :
  Calls Tryz.prog 215 #[.agg #[.int .i64 k,.string nm,.string mr,.int .i64 it,.int .i64 d,.slice p len cap]] w fun e w'=>
   e = .returned (.func (.func 258) #[] #[.pointer (some ⟨w.heap.size,0,none⟩)])∧w.alloc (.cells #[.int .i64 k,.string nm,.string mr,.int .i64 it,.int .i64 d,.slice p len cap] 105)=w':=by
 go_enter Tryz.func215,Tryz.ntmps215
 go_wp2
 go_ret
 exact⟨rfl,rfl⟩
structure CkFrame (w:World) (E:Array Value) (res cnt:Int) (W:World):Prop where
 e:W.heap[w.heap.size]? = some (.cells E 105 (0,0))
 r:W.heap[w.heap.size+1]? = some (.cells #[.int .i64 res] 29 (0,0))
 c:W.heap[w.heap.size+1+1]? = some (.cells #[.int .i64 cnt] 3 (0,0))
 size:w.heap.size+1+1+1+1≤W.heap.size
 below:Below w.heap.size w W
theorem CkFrame.grown {w:World} {E:Array Value} {res cnt:Int} {A B:World} {row:Option Nat} (h:CkFrame w E res cnt A) (hg:A.grownBy B row) (hr:∀ r,row=some r→w.heap.size≤r∧∃ o:Obj,A.heap[r]? = some o∧o.isCells=false):CkFrame w E res cnt B:=
 have hr':=fun r e=>(hr r e).2
 ⟨(grownBy_keeps_cells hg hr' h.e rfl).trans h.e,(grownBy_keeps_cells hg hr' h.r rfl).trans h.r,(grownBy_keeps_cells hg hr' h.c rfl).trans h.c,Nat.le_trans h.size hg.size,h.below.trans ((Below.refl _ _).grown hg (by have:=h.size;omega) (fun k e=>(hr k e).1))⟩
theorem CkFrame.step {w:World} {E:Array Value} {res cnt:Int} {A B:World} {base:Nat} (h:CkFrame w E res cnt A) (hs:ItStep base A B) (hb:w.heap.size+1+1+1+1≤base):CkFrame w E res cnt B:=
 ⟨(hs.below.block _ (by omega)).trans h.e,(hs.below.block _ (by omega)).trans h.r,(hs.below.block _ (by omega)).trans h.c,Nat.le_trans h.size hs.others.size,h.below.trans (hs.below.mono (by omega))⟩
theorem CkFrame.kept {w:World} {E:Array Value} {res cnt:Int} {A B:World} (h:CkFrame w E res cnt A) (hb:Below A.heap.size A B):CkFrame w E res cnt B:=
 ⟨(hb.block _ (by have:=h.size;omega)).trans h.e,(hb.block _ (by have:=h.size;omega)).trans h.r,(hb.block _ (by have:=h.size;omega)).trans h.c,Nat.le_trans h.size hb.size,h.below.trans (hb.mono (by have:=h.size;omega))⟩
theorem CkFrame.setCnt {w:World} {E:Array Value} {res cnt:Int} {A:World} (h:CkFrame w E res cnt A) (x:Int):CkFrame w E res x (A.setCell ⟨w.heap.size+1+1,0,none⟩ (.int .i64 x)):=
 ⟨(Below.heap_setCell _ _ _ _ (by simp;omega)).trans h.e,(Below.heap_setCell _ _ _ _ (by simp)).trans h.r,one_setCell h.c,by simpa [World.setCell] using h.size,h.below.setCell (p:=⟨w.heap.size+1+1,0,none⟩) (by simp;omega) _⟩
theorem CkFrame.setRes {w:World} {E:Array Value} {res cnt:Int} {A:World} (h:CkFrame w E res cnt A) (x:Int):CkFrame w E x cnt (A.setCell ⟨w.heap.size+1,0,none⟩ (.int .i64 x)):=
 ⟨(Below.heap_setCell _ _ _ _ (by simp)).trans h.e,one_setCell h.r,(Below.heap_setCell _ _ _ _ (by simp)).trans h.c,by simpa [World.setCell] using h.size,h.below.setCell (p:=⟨w.heap.size+1,0,none⟩) (by simp) _⟩
def Ck1 (w:World) (E:Array Value) (pre:List (ItN)) (W:World):Prop:=CkFrame w E 0 pre.length W∧pre.length≤400∧∀ x ∈ pre,x.1≤40
def zGs (w:World) (E:Array Value) (c:Code) (pre:List (ItN)) (W:World):Prop:=c = .ret∧(∃ n,CkFrame w E 4 n W)∧(400<pre.length∨∃ x ∈ pre,40<x.1)
def Ck2 (w:World) (E:Array Value) (D:Nat) (pre:List (ItN)) (W:World):Prop:=(∃ n,CkFrame w E 0 n W)∧zbh (pre.map zcd)=0∧W.heap[D]? = some (.deferred (some []))
def zGr (w:World) (E:Array Value) (D:Nat) (c:Code) (pre:List (ItN)) (W:World):Prop:=c = .ret∧∃ err n,CkFrame w E err n W∧err≠0∧zbh (pre.map zcd)=err∧W.heap[D]? = some (.deferred (some []))
theorem zEz (w:World) (E:Array Value) (B:Nat) (hB:w.heap.size≤B):OwnFrom B (Ck1 w E):=fun s W W' row hs hg hr=>⟨hs.1.grown hg (fun r e=>⟨by have:=(hr r e).1;omega,(hr r e).2⟩),hs.2⟩
theorem zCr (w:World) (E:Array Value) (c:Code) (B:Nat) (hB:w.heap.size≤B):OwnFrom B (zGs w E c):=fun s W W' row hs hg hr=>⟨hs.1,⟨_,hs.2.1.choose_spec.grown hg (fun r e=>⟨by have:=(hr r e).1;omega,(hr r e).2⟩)⟩,hs.2.2⟩
theorem zEy (w:World) (E:Array Value) (D:Nat) (B:Nat) (hB:w.heap.size≤B) (hD:D<B):OwnFrom B (Ck2 w E D):=fun s W W' row hs hg hr=>⟨⟨_,hs.1.choose_spec.grown hg (fun r e=>⟨by have:=(hr r e).1;omega,(hr r e).2⟩)⟩,hs.2.1,(hg.block D (Array.getElem?_eq_some_iff.1 hs.2.2).1 (fun e=>by have:=(hr D e.symm).1;omega)).trans hs.2.2⟩
theorem zCq (w:World) (E:Array Value) (D:Nat) (c:Code) (B:Nat) (hB:w.heap.size≤B) (hD:D<B):OwnFrom B (zGr w E D c):=fun s W W' row ⟨h1,err,n,h2,h3,h4,h5⟩ hg hr=>⟨h1,err,n,h2.grown hg (fun r e=>⟨by have:=(hr r e).1;omega,(hr r e).2⟩),h3,h4,(hg.block D (Array.getElem?_eq_some_iff.1 h5).1 (fun e=>by have:=(hr D e.symm).1;omega)).trans h5⟩
theorem zzs {t:Ex} {pre:List (ItN)} (hp:zeO t pre) (hb:400<pre.length∨∃ x ∈ pre,40<x.1):zB t=4:=by
 rcases hb with hb | ⟨x,hx,h40⟩
 ·apply zjT
  have:=hp.length_le
  rw [List.length_map,zdx] at this;omega
 ·apply zjU
  have:=zxx 1 t (zcd x) (hp.subset (List.mem_map_of_mem hx))
  simp only [zcd] at this;omega
theorem zwn {t:Ex} {pre:List (ItN)} (hp:zeP t pre) (h1:pre.length≤400) (h2:∀ x ∈ pre,x.1≤40):¬ 400<nodesE t∧¬ 40<depthE t:=by
 constructor
 ·have:=congrArg List.length (show _=_ from hp)
  rw [List.length_map,zdx] at this;omega
 ·obtain⟨x,hx,he⟩:=zpL 1 t
  rw [← (show _=_ from hp)] at hx
  obtain⟨y,hy,rfl⟩:=List.mem_map.1 hx
  have:=h2 y hy
  simp only [zcd] at he;omega
theorem zfd {lo:Nat} {A B:World} (h:Below lo A B):zdr lo A B:=fun b off hb _ hv=>(h.cell (p:=⟨b,off,none⟩) hb).trans hv
theorem zCp (w:World) (t1 t2 t3:TypeId) (E:Array Value) (V:World) (hV:(((w.alloc (.cells E t1)).alloc (.cells #[.int .i64 0] t2)).alloc (.cells #[.int .i64 0] t3)).alloc (.cells E t1)=V) (h1:t1=105:=by rfl) (h2:t2=29:=by rfl) (h3:t3=3:=by rfl) :
  CkFrame w E 0 0 V∧V.heap[w.heap.size+1+1+1]? = some (.cells E t1 (0,0))∧V.heap.size=w.heap.size+1+1+1+1:=by
 subst h1 h2 h3
 have q1:=World.alloc_heap_new w (.cells E 105)
 have q2:=World.alloc_heap_new (w.alloc (.cells E 105)) (.cells #[.int .i64 0] 29)
 have q3:=World.alloc_heap_new ((w.alloc (.cells E 105)).alloc (.cells #[.int .i64 0] 29)) (.cells #[.int .i64 0] 3)
 have q4:=World.alloc_heap_new (((w.alloc (.cells E 105)).alloc (.cells #[.int .i64 0] 29)).alloc (.cells #[.int .i64 0] 3)) (.cells E 105)
 simp only [World.size_alloc] at q2 q3 q4
 rw [hV] at q4
 refine⟨⟨?_,?_,?_,?_,?_⟩,q4,?_⟩ <;> rw [← hV]
 ·exact(Below.heap_alloc _ _ _ (by simp <;> omega)).trans ((Below.heap_alloc _ _ _ (by simp <;> omega)).trans ((Below.heap_alloc _ _ _ (by simp)).trans q1))
 ·exact(Below.heap_alloc _ _ _ (by simp <;> omega)).trans ((Below.heap_alloc _ _ _ (by simp)).trans q2)
 ·exact(Below.heap_alloc _ _ _ (by simp)).trans q3
 ·simp
 ·exact((((Below.refl _ w).alloc (Nat.le_refl _) _).alloc (by simp) _).alloc (by simp;omega) _).alloc (by simp;omega) _
 ·simp
end
end Go.Proofs.YtpnjjmcimjlfkaaGreatDoor
