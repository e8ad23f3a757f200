/- Texts of this proof, part 11: what the proof uses of them. -/
import Derived.Test.YtpnjjmcimjlfkaaGreatDoorRaj
import Derived.Deep.Light
import Derived.RangeFuncLeaves
import Derived.RangeFuncCalls
set_option maxRecDepth 100000
set_option maxHeartbeats 64000000
namespace Go.Proofs.YtpnjjmcimjlfkaaGreatDoor
section
open Go.RowKit
theorem zo {k:IntKind} {a b:Int} (h:a=b):Ending.returned (.int k a) = .returned (.int k b):=by rw [h]
def zgw:List ByteArray:=[⟨#[43]⟩,⟨#[45]⟩,⟨#[42]⟩,⟨#[61]⟩,⟨#[60]⟩]
def zaN (k:Int) (nm:ByteArray) (b0:Bool):Bool:=
 if k=5 then decide (nm.size=0) || zbR nm.data.toList else if k=10 then zjx zgw nm else !b0 || zcd nm
def zaE (k:Int) (nm mr:ByteArray) (b0 b1:Bool):Bool:=(!b1 || zcd mr) && zaN k nm b0
def zbz (k it d:Int):Int:=if zaM k it d then 0 else 2
theorem zcw {s:ByteArray} (h:s.size=0):s=⟨#[]⟩:=by
 apply ByteArray.ext;apply Array.eq_empty_of_size_eq_zero;exact h
theorem zca {s:ByteArray} (h:¬ s.size=0):s.toList.isEmpty=false:=by
 rw [List.isEmpty_eq_false_iff,ByteArray.toList_eq];intro e;apply h
 have:s.data.toList.length=0:=by rw [e];rfl
 simpa using this
theorem ziX (k:Int) (nm mr:ByteArray) (it d:Int) (sv:Value) (w:World) :
  Calls Tryz.prog 261 #[.agg #[.int .i64 k,.string nm,.string mr,.int .i64 it,.int .i64 d,sv]] w fun e w'=>e = .returned (.int .i64 (zbz k it d))/\Below w.heap.size w w':=by
 by_cases h1:k=1
 ·subst h1
  skip
  go_enter Tryz.func261,Tryz.ntmps261
  go_wp2_with fail
  all_goals
   go_ret
   refine⟨?_,(Below.refl _ _).alloc (Nat.le_refl _) _⟩
   first
    | (refine zo (a:=0) ?_;unfold zbz;rw [if_pos];(go_light;(first | (simp_all [zaM];done) | (simp_all [zaM];omega))))
    | (refine zo (a:=2) ?_;unfold zbz;rw [if_neg];(go_light;(first | (simp_all [zaM];done) | (simp_all [zaM];omega))))
 by_cases h2:k=2
 ·subst h2
  clear h1
  go_enter Tryz.func261,Tryz.ntmps261
  go_wp2_with fail
  all_goals
   go_ret
   refine⟨?_,(Below.refl _ _).alloc (Nat.le_refl _) _⟩
   first
    | (refine zo (a:=0) ?_;unfold zbz;rw [if_pos];(go_light;(first | (simp_all [zaM];done) | (simp_all [zaM];omega))))
    | (refine zo (a:=2) ?_;unfold zbz;rw [if_neg];(go_light;(first | (simp_all [zaM];done) | (simp_all [zaM];omega))))
 by_cases h5:k=5
 ·subst h5
  clear h1 h2
  go_enter Tryz.func261,Tryz.ntmps261
  go_wp2_with fail
  all_goals
   go_ret
   refine⟨?_,(Below.refl _ _).alloc (Nat.le_refl _) _⟩
   first
    | (refine zo (a:=0) ?_;unfold zbz;rw [if_pos];(go_light;(first | (simp_all [zaM];done) | (simp_all [zaM];omega))))
    | (refine zo (a:=2) ?_;unfold zbz;rw [if_neg];(go_light;(first | (simp_all [zaM];done) | (simp_all [zaM];omega))))
 by_cases h14:k=14
 ·subst h14
  clear h1 h2 h5
  go_enter Tryz.func261,Tryz.ntmps261
  go_wp2_with fail
  all_goals
   go_ret
   refine⟨?_,(Below.refl _ _).alloc (Nat.le_refl _) _⟩
   first
    | (refine zo (a:=0) ?_;unfold zbz;rw [if_pos];(go_light;(first | (simp_all [zaM];done) | (simp_all [zaM];omega))))
    | (refine zo (a:=2) ?_;unfold zbz;rw [if_neg];(go_light;(first | (simp_all [zaM];done) | (simp_all [zaM];omega))))
 have HE:Hid (zaM k it d=true):=Lib.hid (by simp [zaM,h1,h2,h5,h14])
 have f1:(k == 1)=false:=by simpa using h1
 have f2:(k == 2)=false:=by simpa using h2
 have f3:(k == 5)=false:=by simpa using h5
 have f4:(k == 14)=false:=by simpa using h14
 clear h1 h2 h5 h14
 go_enter Tryz.func261,Tryz.ntmps261
 go_wp2_with fail
 go_ret
 exact⟨zo (a:=0) (by unfold zbz;rw [HE.out];rfl),(Below.refl _ _).alloc (Nat.le_refl _) _⟩
theorem zbF {s:ByteArray} {l:List UInt8} (h:¬ (⟨l.toArray⟩:ByteArray)=s):(s.toList == l)=false:=by
 have h1:¬ s.toList=l:=by
  rw [ByteArray.toList_eq];rintro rfl;exact h rfl
 simpa using h1
theorem zmj {s:ByteArray} (h:zjx zez s=true):s=⟨#[99,97,115,101]⟩\/s=⟨#[99,104,97,110,99,101]⟩\/s=⟨#[99,111,110,102,108,105,99,116]⟩\/s=⟨#[101,108,115,101]⟩\/s=⟨#[102,97,108,115,101]⟩\/s=⟨#[102,108,97,107,121]⟩\/s=⟨#[102,117,110]⟩\/s=⟨#[105,102]⟩\/s=⟨#[105,110]⟩\/s=⟨#[108,101,116]⟩\/s=⟨#[110,105,108]⟩\/s=⟨#[111,102]⟩\/s=⟨#[112,117,98]⟩\/s=⟨#[116,101,115,116]⟩\/s=⟨#[116,104,101,110]⟩\/s=⟨#[116,114,117,101]⟩\/s=⟨#[117,115,101]⟩:=by
 simp only [zjx,zez,List.any_cons,List.any_nil,Bool.or_false,Bool.or_eq_true,decide_eq_true_eq] at h
 rcases h with h | h | h | h | h | h | h | h | h | h | h | h | h | h | h | h | h <;> subst h <;> simp
theorem zrV {s:ByteArray} (h:zjx zez s=false):(s.toList == [99,97,115,101])=false/\(s.toList == [99,104,97,110,99,101])=false/\(s.toList == [99,111,110,102,108,105,99,116])=false/\(s.toList == [101,108,115,101])=false/\(s.toList == [102,97,108,115,101])=false/\(s.toList == [102,108,97,107,121])=false/\(s.toList == [102,117,110])=false/\(s.toList == [105,102])=false/\(s.toList == [105,110])=false/\(s.toList == [108,101,116])=false/\(s.toList == [110,105,108])=false/\(s.toList == [111,102])=false/\(s.toList == [112,117,98])=false/\(s.toList == [116,101,115,116])=false/\(s.toList == [116,104,101,110])=false/\(s.toList == [116,114,117,101])=false/\(s.toList == [117,115,101])=false:=by
 simp only [zjx,zez,List.any_cons,List.any_nil,Bool.or_false,Bool.or_eq_false_iff,decide_eq_false_iff_not] at h
 obtain⟨h0,h1,h2,h3,h4,h5,h6,h7,h8,h9,h10,h11,h12,h13,h14,h15,h16⟩:=h
 exact⟨zbF h0,zbF h1,zbF h2,zbF h3,zbF h4,zbF h5,zbF h6,zbF h7,zbF h8,zbF h9,zbF h10,zbF h11,zbF h12,zbF h13,zbF h14,zbF h15,zbF h16⟩
theorem zjY (s:ByteArray) (w:World) :
  Calls Tryz.prog 257 #[.string s] w fun e w'=>e = .returned (.bool (zcd s))/\Below w.heap.size w w':=by
 cases hr:zjx zez s
 ·obtain⟨h0,h1,h2,h3,h4,h5,h6,h7,h8,h9,h10,h11,h12,h13,h14,h15,h16⟩:=zrV hr
  have HE:Hid (zcd s=zcD 24 s.data.toList):=Lib.hid (by simp [zcd,hr])
  clear hr
  go_enter Tryz.func257,Tryz.ntmps257
  go_wp2_with (first | (go_at_call 133;refine(zlQ s _).mono ?_;rintro e w' ⟨rfl,hb⟩))
  go_ret
  exact⟨by rw [HE.out];rfl,hb⟩
 ·have HE:Hid (zcd s=false):=Lib.hid (by simp [zcd,hr])
  rcases zmj hr with rfl | rfl | rfl | rfl | rfl | rfl | rfl | rfl | rfl | rfl | rfl | rfl | rfl | rfl | rfl | rfl | rfl
  all_goals
   clear hr
   go_enter Tryz.func257,Tryz.ntmps257
   go_wp2_with fail
   go_ret
   exact⟨by rw [HE.out];rfl,Below.refl _ _⟩
theorem bcellE {W w1:World} (hb:Below W.heap.size W w1):(∀ b o,b<W.heap.size->w1.cell? ⟨b,o,none⟩=W.cell? ⟨b,o,none⟩)/\(∀ b o,b<W.heap.size->w1.frozen? ⟨b,o,none⟩=W.frozen? ⟨b,o,none⟩):=
 ⟨fun b o h=>hb.cell (p:=⟨b,o,none⟩) h,fun b o h=>hb.frozen (p:=⟨b,o,none⟩) h⟩
def zj (k:Int) (nm mr:ByteArray) (b0 b1:Bool):Int:=if zaE k nm mr b0 b1 then (if k=13/\nm=mr then 7 else 0) else 6
theorem zzV {s:ByteArray} (h:s.size=1):∃ c:UInt8,s=⟨#[c]⟩:=by
 obtain⟨d⟩:=s
 obtain⟨l⟩:=d
 match l,h with
 | [c],_=>exact⟨c,rfl⟩
theorem zzQ {s:ByteArray} (h:¬ s.size=1):zjx zgw s=false:=by
 refine zCW fun i hi e=>h ?_
 simp only [zgw,List.length_cons,List.length_nil] at hi
 have:i=0\/i=1\/i=2\/i=3\/i=4:=by omega
 rcases this with rfl | rfl | rfl | rfl | rfl <;> (rw [<- e];rfl)
theorem zxJ (c:UInt8):decide ((0:Int)<=Lib.indexByte [43,45,42,61,60] c)=zjx zgw ⟨#[c]⟩:=by
 have e:∀ x:UInt8,decide ((⟨#[x]⟩:ByteArray)=⟨#[c]⟩)=decide (x=c):=fun x=>by
  rw [decide_eq_decide];constructor
  ·intro h;injection h with h;injection h with h;injection h
  ·rintro rfl;rfl
 simp only [zjx,zgw,List.any_cons,List.any_nil,e,Bool.or_false]
 simp only [Lib.indexByte]
 by_cases e1:(43:UInt8)=c
 ·subst e1;decide
 by_cases e2:(45:UInt8)=c
 ·subst e2;decide
 by_cases e3:(42:UInt8)=c
 ·subst e3;decide
 by_cases e4:(61:UInt8)=c
 ·subst e4;decide
 by_cases e5:(60:UInt8)=c
 ·subst e5;decide
 simp [e1,e2,e3,e4,e5]
theorem zlq (k:Int) (nn nu ns:Nat) (nm mr:ByteArray) (it d:Int) (sv:Value) (w:World) (hsh:zbO k=some (nn,nu,ns)) :
  Calls Tryz.prog 260 #[.agg #[.int .i64 k,.string nm,.string mr,.int .i64 it,.int .i64 d,sv],.int .i64 nn] w fun e w'=>e = .returned (.int .i64 (zj k nm mr (decide (1<=nn)) (decide (2<=nn))))/\Below w.heap.size w w':=by
 have HNM:=Lib.hid (fun W=>zjY nm W)
 have HMR:=Lib.hid (fun W=>zjY mr W)
 have HLB:=Lib.hid (fun W=>zpg nm W)
 rcases zda hsh with⟨rfl,e⟩ | ⟨rfl,e⟩ | ⟨rfl,e⟩ | ⟨rfl,e⟩ | ⟨rfl,e⟩ | ⟨rfl,e⟩ | ⟨rfl,e⟩ | ⟨rfl,e⟩ | ⟨rfl,e⟩ | ⟨rfl,e⟩ | ⟨rfl,e⟩ | ⟨rfl,e⟩ | ⟨rfl,e⟩ | ⟨rfl,e⟩ | ⟨rfl,e⟩
 ·cases e
  have HE:Hid (zj 1 nm mr false false=0):=Lib.hid (by simp [zj,zaE,zaN,])
  clear  hsh
  have tok1:True:=trivial
  go_enter Tryz.func260,Tryz.ntmps260
  go_wp2_with fail
  go_ret
  exact⟨zo (a:=0) HE.out.symm,(Below.refl _ _).alloc (Nat.le_refl _) _⟩
 ·cases e
  have HE:Hid (zj 2 nm mr false false=0):=Lib.hid (by simp [zj,zaE,zaN,])
  clear  hsh
  have tok1:True:=trivial
  go_enter Tryz.func260,Tryz.ntmps260
  go_wp2_with fail
  go_ret
  exact⟨zo (a:=0) HE.out.symm,(Below.refl _ _).alloc (Nat.le_refl _) _⟩
 ·cases e
  cases hn:zcd nm
  ·rw [hn] at HNM
   have HE:Hid (zj 3 nm mr true false=6):=Lib.hid (by simp [zj,zaE,zaN,hn])
   clear hn hsh
   have tok1:True:=trivial
   go_enter Tryz.func260,Tryz.ntmps260
   go_wp2_with (first | ((go_at_call 257);have _t:=tok1;(with_reducible refine(HNM.out _).mono ?_);rintro e wn ⟨rfl,hbn⟩;clear tok1 _t;obtain⟨hcn,hfn⟩:=bcellE hbn;have hln:w.heap.size<wn.heap.size:=by(have hzz:=hbn.size;simp at hzz;omega)))
   go_ret
   exact⟨zo (a:=6) HE.out.symm,((Below.refl _ _).alloc (Nat.le_refl _) _).trans (hbn.mono (by first | omega | (simp;done) | (simp;omega)))⟩
  ·rw [hn] at HNM
   have HE:Hid (zj 3 nm mr true false=0):=Lib.hid (by simp [zj,zaE,zaN,hn])
   clear hn hsh
   have tok1:True:=trivial
   go_enter Tryz.func260,Tryz.ntmps260
   go_wp2_with (first | ((go_at_call 257);have _t:=tok1;(with_reducible refine(HNM.out _).mono ?_);rintro e wn ⟨rfl,hbn⟩;clear tok1 _t;obtain⟨hcn,hfn⟩:=bcellE hbn;have hln:w.heap.size<wn.heap.size:=by(have hzz:=hbn.size;simp at hzz;omega)))
   go_ret
   exact⟨zo (a:=0) HE.out.symm,((Below.refl _ _).alloc (Nat.le_refl _) _).trans (hbn.mono (by first | omega | (simp;done) | (simp;omega)))⟩
 ·cases e
  cases hn:zcd nm
  ·rw [hn] at HNM
   have HE:Hid (zj 4 nm mr true true=6):=Lib.hid (by simp [zj,zaE,zaN,hn])
   clear hn hsh
   have tok1:True:=trivial
   go_enter Tryz.func260,Tryz.ntmps260
   go_wp2_with (first | ((go_at_call 257);have _t:=tok1;(with_reducible refine(HNM.out _).mono ?_);rintro e wn ⟨rfl,hbn⟩;clear tok1 _t;obtain⟨hcn,hfn⟩:=bcellE hbn;have hln:w.heap.size<wn.heap.size:=by(have hzz:=hbn.size;simp at hzz;omega)))
   go_ret
   exact⟨zo (a:=6) HE.out.symm,((Below.refl _ _).alloc (Nat.le_refl _) _).trans (hbn.mono (by first | omega | (simp;done) | (simp;omega)))⟩
  ·rw [hn] at HNM
   cases hm:zcd mr
   ·rw [hm] at HMR
    have HE:Hid (zj 4 nm mr true true=6):=Lib.hid (by simp [zj,zaE,zaN,hn,hm])
    clear hn hm hsh
    have tok1:True:=trivial
    go_enter Tryz.func260,Tryz.ntmps260
    go_wp2_with (first | ((go_at_call 257);have _t:=tok1;(with_reducible refine(HNM.out _).mono ?_);rintro e wn ⟨rfl,hbn⟩;clear tok1 _t;obtain⟨hcn,hfn⟩:=bcellE hbn;have hln:w.heap.size<wn.heap.size:=by(have hzz:=hbn.size;simp at hzz;omega)) | ((go_at_call 257);(with_reducible refine(HMR.out _).mono ?_);rintro e wm ⟨rfl,hbm⟩;obtain⟨hcm,hfm⟩:=bcellE hbm))
    go_ret
    exact⟨zo (a:=6) HE.out.symm,(((Below.refl _ _).alloc (Nat.le_refl _) _).trans (hbn.mono (by first | omega | (simp;done) | (simp;omega)))).trans (hbm.mono (by have:=hbn.size;simp at this;omega))⟩
   ·rw [hm] at HMR
    have HE:Hid (zj 4 nm mr true true=0):=Lib.hid (by simp [zj,zaE,zaN,hn,hm])
    clear hn hm hsh
    have tok1:True:=trivial
    go_enter Tryz.func260,Tryz.ntmps260
    go_wp2_with (first | ((go_at_call 257);have _t:=tok1;(with_reducible refine(HNM.out _).mono ?_);rintro e wn ⟨rfl,hbn⟩;clear tok1 _t;obtain⟨hcn,hfn⟩:=bcellE hbn;have hln:w.heap.size<wn.heap.size:=by(have hzz:=hbn.size;simp at hzz;omega)) | ((go_at_call 257);(with_reducible refine(HMR.out _).mono ?_);rintro e wm ⟨rfl,hbm⟩;obtain⟨hcm,hfm⟩:=bcellE hbm))
    go_ret
    exact⟨zo (a:=0) HE.out.symm,(((Below.refl _ _).alloc (Nat.le_refl _) _).trans (hbn.mono (by first | omega | (simp;done) | (simp;omega)))).trans (hbm.mono (by have:=hbn.size;simp at this;omega))⟩
 ·cases e
  by_cases hz:nm.size=0
  ·obtain rfl:=zcw hz
   have HE:Hid (zj 5 ⟨#[]⟩ mr true false=0):=Lib.hid rfl
   clear hz HNM HLB hsh
   have tok1:True:=trivial
   go_enter Tryz.func260,Tryz.ntmps260
   go_wp2_with fail
   go_ret
   exact⟨zo (a:=0) HE.out.symm,(Below.refl _ _).alloc (Nat.le_refl _) _⟩
  ·have hz1:=zca hz
   cases hl:zbR nm.data.toList
   ·rw [hl] at HLB
    have HE:Hid (zj 5 nm mr true false=6):=Lib.hid (by simp [zj,zaE,zaN,hl,hz])
    clear hl hz hsh
    have tok1:True:=trivial
    go_enter Tryz.func260,Tryz.ntmps260
    go_wp2_with (first | ((go_at_call 67);(with_reducible refine(HLB.out _).mono ?_);rintro e wn ⟨rfl,hbn⟩;obtain⟨hcn,hfn⟩:=bcellE hbn))
    go_ret
    exact⟨zo (a:=6) HE.out.symm,((Below.refl _ _).alloc (Nat.le_refl _) _).trans (hbn.mono (by first | omega | (simp;done) | (simp;omega)))⟩
   ·rw [hl] at HLB
    have HE:Hid (zj 5 nm mr true false=0):=Lib.hid (by simp [zj,zaE,zaN,hl])
    clear hl hz hsh
    have tok1:True:=trivial
    go_enter Tryz.func260,Tryz.ntmps260
    go_wp2_with (first | ((go_at_call 67);(with_reducible refine(HLB.out _).mono ?_);rintro e wn ⟨rfl,hbn⟩;obtain⟨hcn,hfn⟩:=bcellE hbn))
    go_ret
    exact⟨zo (a:=0) HE.out.symm,((Below.refl _ _).alloc (Nat.le_refl _) _).trans (hbn.mono (by first | omega | (simp;done) | (simp;omega)))⟩
 ·cases e
  cases hn:zcd nm
  ·rw [hn] at HNM
   have HE:Hid (zj 6 nm mr true false=6):=Lib.hid (by simp [zj,zaE,zaN,hn])
   clear hn hsh
   have tok1:True:=trivial
   go_enter Tryz.func260,Tryz.ntmps260
   go_wp2_with (first | ((go_at_call 257);have _t:=tok1;(with_reducible refine(HNM.out _).mono ?_);rintro e wn ⟨rfl,hbn⟩;clear tok1 _t;obtain⟨hcn,hfn⟩:=bcellE hbn;have hln:w.heap.size<wn.heap.size:=by(have hzz:=hbn.size;simp at hzz;omega)))
   go_ret
   exact⟨zo (a:=6) HE.out.symm,((Below.refl _ _).alloc (Nat.le_refl _) _).trans (hbn.mono (by first | omega | (simp;done) | (simp;omega)))⟩
  ·rw [hn] at HNM
   have HE:Hid (zj 6 nm mr true false=0):=Lib.hid (by simp [zj,zaE,zaN,hn])
   clear hn hsh
   have tok1:True:=trivial
   go_enter Tryz.func260,Tryz.ntmps260
   go_wp2_with (first | ((go_at_call 257);have _t:=tok1;(with_reducible refine(HNM.out _).mono ?_);rintro e wn ⟨rfl,hbn⟩;clear tok1 _t;obtain⟨hcn,hfn⟩:=bcellE hbn;have hln:w.heap.size<wn.heap.size:=by(have hzz:=hbn.size;simp at hzz;omega)))
   go_ret
   exact⟨zo (a:=0) HE.out.symm,((Below.refl _ _).alloc (Nat.le_refl _) _).trans (hbn.mono (by first | omega | (simp;done) | (simp;omega)))⟩
 ·cases e
  have HE:Hid (zj 7 nm mr false false=0):=Lib.hid (by simp [zj,zaE,zaN,])
  clear  hsh
  have tok1:True:=trivial
  go_enter Tryz.func260,Tryz.ntmps260
  go_wp2_with fail
  go_ret
  exact⟨zo (a:=0) HE.out.symm,(Below.refl _ _).alloc (Nat.le_refl _) _⟩
 ·cases e
  cases hn:zcd nm
  ·rw [hn] at HNM
   have HE:Hid (zj 8 nm mr true false=6):=Lib.hid (by simp [zj,zaE,zaN,hn])
   clear hn hsh
   have tok1:True:=trivial
   go_enter Tryz.func260,Tryz.ntmps260
   go_wp2_with (first | ((go_at_call 257);have _t:=tok1;(with_reducible refine(HNM.out _).mono ?_);rintro e wn ⟨rfl,hbn⟩;clear tok1 _t;obtain⟨hcn,hfn⟩:=bcellE hbn;have hln:w.heap.size<wn.heap.size:=by(have hzz:=hbn.size;simp at hzz;omega)))
   go_ret
   exact⟨zo (a:=6) HE.out.symm,((Below.refl _ _).alloc (Nat.le_refl _) _).trans (hbn.mono (by first | omega | (simp;done) | (simp;omega)))⟩
  ·rw [hn] at HNM
   have HE:Hid (zj 8 nm mr true false=0):=Lib.hid (by simp [zj,zaE,zaN,hn])
   clear hn hsh
   have tok1:True:=trivial
   go_enter Tryz.func260,Tryz.ntmps260
   go_wp2_with (first | ((go_at_call 257);have _t:=tok1;(with_reducible refine(HNM.out _).mono ?_);rintro e wn ⟨rfl,hbn⟩;clear tok1 _t;obtain⟨hcn,hfn⟩:=bcellE hbn;have hln:w.heap.size<wn.heap.size:=by(have hzz:=hbn.size;simp at hzz;omega)))
   go_ret
   exact⟨zo (a:=0) HE.out.symm,((Below.refl _ _).alloc (Nat.le_refl _) _).trans (hbn.mono (by first | omega | (simp;done) | (simp;omega)))⟩
 ·cases e
  have HE:Hid (zj 9 nm mr false false=0):=Lib.hid (by simp [zj,zaE,zaN,])
  clear  hsh
  have tok1:True:=trivial
  go_enter Tryz.func260,Tryz.ntmps260
  go_wp2_with fail
  go_ret
  exact⟨zo (a:=0) HE.out.symm,(Below.refl _ _).alloc (Nat.le_refl _) _⟩
 ·cases e
  by_cases hz:nm.size=1
  ·obtain⟨c,rfl⟩:=zzV hz
   have HCT:Hid (∀ W:World,Calls Tryz.prog 289 #[.string ⟨#[43,45,42,61,60]⟩,.string ⟨#[c]⟩] W fun e w'=>e = .returned (.bool (zjx zgw ⟨#[c]⟩))/\W=w'):=Lib.hid (fun W=>by have:=zqY ⟨#[43,45,42,61,60]⟩ c W;rw [zxJ] at this;exact this)
   cases hl:zjx zgw ⟨#[c]⟩
   ·rw [hl] at HCT
    have HE:Hid (zj 10 ⟨#[c]⟩ mr true false=6):=Lib.hid (by simp [zj,zaE,zaN,hl])
    clear hl hz HNM HLB hsh
    have tok1:True:=trivial
    go_enter Tryz.func260,Tryz.ntmps260
    go_wp2_with (first | ((go_at_call 289);refine(HCT.out _).mono ?_;rintro e wn ⟨rfl,rfl⟩))
    go_ret
    exact⟨zo (a:=6) HE.out.symm,(Below.refl _ _).alloc (Nat.le_refl _) _⟩
   ·rw [hl] at HCT
    have HE:Hid (zj 10 ⟨#[c]⟩ mr true false=0):=Lib.hid (by simp [zj,zaE,zaN,hl])
    clear hl hz HNM HLB hsh
    have tok1:True:=trivial
    go_enter Tryz.func260,Tryz.ntmps260
    go_wp2_with (first | ((go_at_call 289);refine(HCT.out _).mono ?_;rintro e wn ⟨rfl,rfl⟩))
    go_ret
    exact⟨zo (a:=0) HE.out.symm,(Below.refl _ _).alloc (Nat.le_refl _) _⟩
  ·have hz1:((nm.size:Int) == 1)=false:=by simp;omega
   have hz2:(nm.size == 1)=false:=by simpa using hz
   have HE:Hid (zj 10 nm mr true false=6):=Lib.hid (by simp [zj,zaE,zaN,zzQ hz])
   clear hz hsh
   have tok1:True:=trivial
   go_enter Tryz.func260,Tryz.ntmps260
   go_wp2_with fail
   go_ret
   exact⟨zo (a:=6) HE.out.symm,(Below.refl _ _).alloc (Nat.le_refl _) _⟩
 ·cases e
  have HE:Hid (zj 11 nm mr false false=0):=Lib.hid (by simp [zj,zaE,zaN,])
  clear  hsh
  have tok1:True:=trivial
  go_enter Tryz.func260,Tryz.ntmps260
  go_wp2_with fail
  go_ret
  exact⟨zo (a:=0) HE.out.symm,(Below.refl _ _).alloc (Nat.le_refl _) _⟩
 ·cases e
  have HE:Hid (zj 12 nm mr false false=0):=Lib.hid (by simp [zj,zaE,zaN,])
  clear  hsh
  have tok1:True:=trivial
  go_enter Tryz.func260,Tryz.ntmps260
  go_wp2_with fail
  go_ret
  exact⟨zo (a:=0) HE.out.symm,(Below.refl _ _).alloc (Nat.le_refl _) _⟩
 ·cases e
  cases hn:zcd nm
  ·rw [hn] at HNM
   have HE:Hid (zj 13 nm mr true true=6):=Lib.hid (by simp [zj,zaE,zaN,hn])
   clear hn hsh
   have tok1:True:=trivial
   go_enter Tryz.func260,Tryz.ntmps260
   go_wp2_with (first | ((go_at_call 257);have _t:=tok1;(with_reducible refine(HNM.out _).mono ?_);rintro e wn ⟨rfl,hbn⟩;clear tok1 _t;obtain⟨hcn,hfn⟩:=bcellE hbn;have hln:w.heap.size<wn.heap.size:=by(have hzz:=hbn.size;simp at hzz;omega)))
   go_ret
   exact⟨zo (a:=6) HE.out.symm,((Below.refl _ _).alloc (Nat.le_refl _) _).trans (hbn.mono (by first | omega | (simp;done) | (simp;omega)))⟩
  ·rw [hn] at HNM
   cases hm:zcd mr
   ·rw [hm] at HMR
    have HE:Hid (zj 13 nm mr true true=6):=Lib.hid (by simp [zj,zaE,zaN,hn,hm])
    clear hn hm hsh
    have tok1:True:=trivial
    go_enter Tryz.func260,Tryz.ntmps260
    go_wp2_with (first | ((go_at_call 257);have _t:=tok1;(with_reducible refine(HNM.out _).mono ?_);rintro e wn ⟨rfl,hbn⟩;clear tok1 _t;obtain⟨hcn,hfn⟩:=bcellE hbn;have hln:w.heap.size<wn.heap.size:=by(have hzz:=hbn.size;simp at hzz;omega)) | ((go_at_call 257);(with_reducible refine(HMR.out _).mono ?_);rintro e wm ⟨rfl,hbm⟩;obtain⟨hcm,hfm⟩:=bcellE hbm))
    go_ret
    exact⟨zo (a:=6) HE.out.symm,(((Below.refl _ _).alloc (Nat.le_refl _) _).trans (hbn.mono (by first | omega | (simp;done) | (simp;omega)))).trans (hbm.mono (by have:=hbn.size;simp at this;omega))⟩
   ·rw [hm] at HMR
    by_cases hq:nm=mr
    ·subst hq
     have HE:Hid (zj 13 nm nm true true=7):=Lib.hid (by simp [zj,zaE,zaN,hn])
     clear hn hm HMR hsh
     have tok1:True:=trivial
     go_enter Tryz.func260,Tryz.ntmps260
     go_wp2_with (first | ((go_at_call 257);have _t:=tok1;(with_reducible refine(HNM.out _).mono ?_);rintro e wn ⟨rfl,hbn⟩;clear tok1 _t;obtain⟨hcn,hfn⟩:=bcellE hbn;have hln:w.heap.size<wn.heap.size:=by(have hzz:=hbn.size;simp at hzz;omega)) | ((go_at_call 257);(with_reducible refine(HNM.out _).mono ?_);rintro e wm ⟨rfl,hbm⟩;obtain⟨hcm,hfm⟩:=bcellE hbm))
     go_ret
     exact⟨zo (a:=7) HE.out.symm,(((Below.refl _ _).alloc (Nat.le_refl _) _).trans (hbn.mono (by first | omega | (simp;done) | (simp;omega)))).trans (hbm.mono (by have:=hbn.size;simp at this;omega))⟩
    ·have hq1:(nm.toList == mr.toList)=false:=(Lib.bytes_beq_false_iff _ _).2 hq
     have HE:Hid (zj 13 nm mr true true=0):=Lib.hid (by simp [zj,zaE,zaN,hn,hm,hq])
     clear hn hm hq hsh
     have tok1:True:=trivial
     go_enter Tryz.func260,Tryz.ntmps260
     go_wp2_with (first | ((go_at_call 257);have _t:=tok1;(with_reducible refine(HNM.out _).mono ?_);rintro e wn ⟨rfl,hbn⟩;clear tok1 _t;obtain⟨hcn,hfn⟩:=bcellE hbn;have hln:w.heap.size<wn.heap.size:=by(have hzz:=hbn.size;simp at hzz;omega)) | ((go_at_call 257);(with_reducible refine(HMR.out _).mono ?_);rintro e wm ⟨rfl,hbm⟩;obtain⟨hcm,hfm⟩:=bcellE hbm))
     go_ret
     exact⟨zo (a:=0) HE.out.symm,(((Below.refl _ _).alloc (Nat.le_refl _) _).trans (hbn.mono (by first | omega | (simp;done) | (simp;omega)))).trans (hbm.mono (by have:=hbn.size;simp at this;omega))⟩
 ·cases e
  have HE:Hid (zj 14 nm mr false false=0):=Lib.hid (by simp [zj,zaE,zaN,])
  clear  hsh
  have tok1:True:=trivial
  go_enter Tryz.func260,Tryz.ntmps260
  go_wp2_with fail
  go_ret
  exact⟨zo (a:=0) HE.out.symm,(Below.refl _ _).alloc (Nat.le_refl _) _⟩
 ·cases e
  have HE:Hid (zj 15 nm mr false false=0):=Lib.hid (by simp [zj,zaE,zaN,])
  clear  hsh
  have tok1:True:=trivial
  go_enter Tryz.func260,Tryz.ntmps260
  go_wp2_with fail
  go_ret
  exact⟨zo (a:=0) HE.out.symm,(Below.refl _ _).alloc (Nat.le_refl _) _⟩
def zbg (nn nu ns:Nat) (nm mr:ByteArray) (it d:Int) (len:Nat):Bool:=
 (decide (1<=nn) || decide (nm.size=0)) && (decide (2<=nn) || decide (mr.size=0)) && (decide (1<=nu) || decide (it=0)) && (decide (2<=nu) || decide (d=0)) && decide (len=ns)
def zbe (k:Int) (nm mr:ByteArray) (it d:Int) (len:Nat):Int:=
 match zbO k with
 | none=>9
 | some (nn,nu,ns)=>if zbg nn nu ns nm mr it d len then (if zj k nm mr (decide (1<=nn)) (decide (2<=nn))=0 then zbz k it d else zj k nm mr (decide (1<=nn)) (decide (2<=nn))) else 1
theorem zlh {k:Int} {nm mr:ByteArray} {it d:Int} {len:Nat} (h:zbO k=none):zbe k nm mr it d len=9:=by simp [zbe,h]
theorem zR {k:Int} {nm mr:ByteArray} {it d:Int} {len nn nu ns:Nat} (h:zbO k=some (nn,nu,ns)) (ha:zbg nn nu ns nm mr it d len=false):zbe k nm mr it d len=1:=by simp [zbe,h,ha]
theorem zgE {k:Int} {nm mr:ByteArray} {it d:Int} {len nn nu ns:Nat} (h:zbO k=some (nn,nu,ns)) (ha:zbg nn nu ns nm mr it d len=true) (hn:¬ zj k nm mr (decide (1<=nn)) (decide (2<=nn))=0):zbe k nm mr it d len=zj k nm mr (decide (1<=nn)) (decide (2<=nn)):=by simp only [zbe,h,ha];simp [hn]
theorem zgD {k:Int} {nm mr:ByteArray} {it d:Int} {len nn nu ns:Nat} (h:zbO k=some (nn,nu,ns)) (ha:zbg nn nu ns nm mr it d len=true) (hn:zj k nm mr (decide (1<=nn)) (decide (2<=nn))=0):zbe k nm mr it d len=zbz k it d:=by simp only [zbe,h,ha];simp [hn]
theorem zrK {k:Int} {nn nu ns:Nat} (h:zbO k=some (nn,nu,ns)):(nn=0/\nu=1)\/(nn=1/\nu=0)\/(nn=2/\nu=0)\/(nn=1/\nu=1)\/(nn=0/\nu=0)\/(nn=0/\nu=2):=by
 rcases zda h with⟨_,e⟩ | ⟨_,e⟩ | ⟨_,e⟩ | ⟨_,e⟩ | ⟨_,e⟩ | ⟨_,e⟩ | ⟨_,e⟩ | ⟨_,e⟩ | ⟨_,e⟩ | ⟨_,e⟩ | ⟨_,e⟩ | ⟨_,e⟩ | ⟨_,e⟩ | ⟨_,e⟩ | ⟨_,e⟩ <;> (cases e;simp)
theorem zoe (k:Int) (nm mr:ByteArray) (it d:Int) (p:Option Addr) (len cap:Nat) (w:World) (hsh:zbO k=none) :
  Calls Tryz.prog 216 #[.agg #[.int .i64 k,.string nm,.string mr,.int .i64 it,.int .i64 d,.slice p len cap]] w fun e w'=>e = .returned (.int .i64 (zbe k nm mr it d len))/\Below w.heap.size w w':=by
 have HSH:=Lib.hid (fun W=>zrC k W hsh)
 have HE:=Lib.hid (zlh (nm:=nm) (mr:=mr) (it:=it) (d:=d) (len:=len) hsh)
 obtain⟨w1,hw1,hX⟩:=zBO w #[.int .i64 k,.string nm,.string mr,.int .i64 it,.int .i64 d,.slice p len cap] 105
 have HW:=Lib.hid hw1
 have HX:=Lib.hid hX
 clear hX hw1 hsh
 go_enter Tryz.func216,Tryz.ntmps216
 go_wp2_with fail
 rw [HW.out]
 refine(HSH.out _).mono ?_
 rintro e ws ⟨rfl,hbs⟩
 obtain⟨c0,c1,c2,c3,c4,c5⟩:=zBN HX.out hbs
 have hl1:w.heap.size<ws.heap.size:=by have:=HX.out.size;have:=hbs.size;omega
 have hbw:Below w.heap.size w ws:=HX.out.below.trans (hbs.mono HX.out.below.size)
 clear hbs
 go_wp2_with fail
 go_ret
 exact⟨zo (a:=9) HE.out.symm,hbw.alloc (by first | omega | (simp;done) | (simp;omega)) _⟩
theorem zlZ (k:Int) (nn nu ns:Nat) (nm mr:ByteArray) (it d:Int) (p:Option Addr) (len cap:Nat) (w:World) (hsh:zbO k=some (nn,nu,ns)) :
  Calls Tryz.prog 216 #[.agg #[.int .i64 k,.string nm,.string mr,.int .i64 it,.int .i64 d,.slice p len cap]] w fun e w'=>e = .returned (.int .i64 (zbe k nm mr it d len))/\Below w.heap.size w w':=by
 have HSH:=Lib.hid (fun W=>zpU k nn nu ns W hsh)
 have HNE:=Lib.hid (fun W=>zlq k nn nu ns nm mr it d (.slice p len cap) W hsh)
 obtain⟨ne,hne⟩:∃ ne,zj k nm mr (decide (1<=nn)) (decide (2<=nn))=ne:=⟨_,rfl⟩
 rw [hne] at HNE
 have HM:=Lib.hid hne
 have HK:=Lib.hid hsh
 clear hne
 obtain⟨w1,hw1,hX⟩:=zBO w #[.int .i64 k,.string nm,.string mr,.int .i64 it,.int .i64 d,.slice p len cap] 105
 have HW:=Lib.hid hw1
 have HX:=Lib.hid hX
 clear hX hw1 hsh
 go_enter Tryz.func216,Tryz.ntmps216
 go_wp2_with fail
 rw [HW.out]
 refine(HSH.out _).mono ?_
 rintro e ws ⟨rfl,hbs⟩
 obtain⟨c0,c1,c2,c3,c4,c5⟩:=zBN HX.out hbs
 have hl1:w.heap.size<ws.heap.size:=by have:=HX.out.size;have:=hbs.size;omega
 have hbw:Below w.heap.size w ws:=HX.out.below.trans (hbs.mono HX.out.below.size)
 clear hbs
 rcases zrK HK.out with⟨rfl,rfl⟩ | ⟨rfl,rfl⟩ | ⟨rfl,rfl⟩ | ⟨rfl,rfl⟩ | ⟨rfl,rfl⟩ | ⟨rfl,rfl⟩
 case' inl=>
  by_cases hz:nm.size=0
  rotate_left
  ·have hz1:=zca hz
   have HZ:=Lib.hid hz
   clear hz
   go_wp2_with fail
   go_ret
   exact⟨zo (a:=1) (zR HK.out (by simp [zbg,HZ.out])).symm,hbw.alloc (by first | omega | (simp;done) | (simp;omega)) _⟩
  obtain rfl:=zcw hz
  clear hz
  by_cases hz:mr.size=0
  rotate_left
  ·have hz1:=zca hz
   have HZ:=Lib.hid hz
   clear hz
   go_wp2_with fail
   go_ret
   exact⟨zo (a:=1) (zR HK.out (by simp [zbg,HZ.out])).symm,hbw.alloc (by first | omega | (simp;done) | (simp;omega)) _⟩
  obtain rfl:=zcw hz
  clear hz
  by_cases hz:d=0
  rotate_left
  ·have hz1:(d != 0)=true:=by simpa using hz
   have HZ:=Lib.hid hz
   clear hz
   go_wp2_with fail
   go_ret
   exact⟨zo (a:=1) (zR HK.out (by simp [zbg,HZ.out])).symm,hbw.alloc (by first | omega | (simp;done) | (simp;omega)) _⟩
  subst hz
  by_cases hz:len=ns
  rotate_left
  ·have hz1:((len:Int) != (ns:Int))=true:=by simp;omega
   have hz2:(len != ns)=true:=by simpa using hz
   have HZ:=Lib.hid hz
   clear hz
   go_wp2_with fail
   go_ret
   exact⟨zo (a:=1) (zR HK.out (by simp [zbg,HZ.out])).symm,hbw.alloc (by first | omega | (simp;done) | (simp;omega)) _⟩
  subst hz
 case' inr.inl=>
  by_cases hz:mr.size=0
  rotate_left
  ·have hz1:=zca hz
   have HZ:=Lib.hid hz
   clear hz
   go_wp2_with fail
   go_ret
   exact⟨zo (a:=1) (zR HK.out (by simp [zbg,HZ.out])).symm,hbw.alloc (by first | omega | (simp;done) | (simp;omega)) _⟩
  obtain rfl:=zcw hz
  clear hz
  by_cases hz:it=0
  rotate_left
  ·have hz1:(it != 0)=true:=by simpa using hz
   have HZ:=Lib.hid hz
   clear hz
   go_wp2_with fail
   go_ret
   exact⟨zo (a:=1) (zR HK.out (by simp [zbg,HZ.out])).symm,hbw.alloc (by first | omega | (simp;done) | (simp;omega)) _⟩
  subst hz
  by_cases hz:d=0
  rotate_left
  ·have hz1:(d != 0)=true:=by simpa using hz
   have HZ:=Lib.hid hz
   clear hz
   go_wp2_with fail
   go_ret
   exact⟨zo (a:=1) (zR HK.out (by simp [zbg,HZ.out])).symm,hbw.alloc (by first | omega | (simp;done) | (simp;omega)) _⟩
  subst hz
  by_cases hz:len=ns
  rotate_left
  ·have hz1:((len:Int) != (ns:Int))=true:=by simp;omega
   have hz2:(len != ns)=true:=by simpa using hz
   have HZ:=Lib.hid hz
   clear hz
   go_wp2_with fail
   go_ret
   exact⟨zo (a:=1) (zR HK.out (by simp [zbg,HZ.out])).symm,hbw.alloc (by first | omega | (simp;done) | (simp;omega)) _⟩
  subst hz
 case' inr.inr.inl=>
  by_cases hz:it=0
  rotate_left
  ·have hz1:(it != 0)=true:=by simpa using hz
   have HZ:=Lib.hid hz
   clear hz
   go_wp2_with fail
   go_ret
   exact⟨zo (a:=1) (zR HK.out (by simp [zbg,HZ.out])).symm,hbw.alloc (by first | omega | (simp;done) | (simp;omega)) _⟩
  subst hz
  by_cases hz:d=0
  rotate_left
  ·have hz1:(d != 0)=true:=by simpa using hz
   have HZ:=Lib.hid hz
   clear hz
   go_wp2_with fail
   go_ret
   exact⟨zo (a:=1) (zR HK.out (by simp [zbg,HZ.out])).symm,hbw.alloc (by first | omega | (simp;done) | (simp;omega)) _⟩
  subst hz
  by_cases hz:len=ns
  rotate_left
  ·have hz1:((len:Int) != (ns:Int))=true:=by simp;omega
   have hz2:(len != ns)=true:=by simpa using hz
   have HZ:=Lib.hid hz
   clear hz
   go_wp2_with fail
   go_ret
   exact⟨zo (a:=1) (zR HK.out (by simp [zbg,HZ.out])).symm,hbw.alloc (by first | omega | (simp;done) | (simp;omega)) _⟩
  subst hz
 case' inr.inr.inr.inl=>
  by_cases hz:mr.size=0
  rotate_left
  ·have hz1:=zca hz
   have HZ:=Lib.hid hz
   clear hz
   go_wp2_with fail
   go_ret
   exact⟨zo (a:=1) (zR HK.out (by simp [zbg,HZ.out])).symm,hbw.alloc (by first | omega | (simp;done) | (simp;omega)) _⟩
  obtain rfl:=zcw hz
  clear hz
  by_cases hz:d=0
  rotate_left
  ·have hz1:(d != 0)=true:=by simpa using hz
   have HZ:=Lib.hid hz
   clear hz
   go_wp2_with fail
   go_ret
   exact⟨zo (a:=1) (zR HK.out (by simp [zbg,HZ.out])).symm,hbw.alloc (by first | omega | (simp;done) | (simp;omega)) _⟩
  subst hz
  by_cases hz:len=ns
  rotate_left
  ·have hz1:((len:Int) != (ns:Int))=true:=by simp;omega
   have hz2:(len != ns)=true:=by simpa using hz
   have HZ:=Lib.hid hz
   clear hz
   go_wp2_with fail
   go_ret
   exact⟨zo (a:=1) (zR HK.out (by simp [zbg,HZ.out])).symm,hbw.alloc (by first | omega | (simp;done) | (simp;omega)) _⟩
  subst hz
 case' inr.inr.inr.inr.inl=>
  by_cases hz:nm.size=0
  rotate_left
  ·have hz1:=zca hz
   have HZ:=Lib.hid hz
   clear hz
   go_wp2_with fail
   go_ret
   exact⟨zo (a:=1) (zR HK.out (by simp [zbg,HZ.out])).symm,hbw.alloc (by first | omega | (simp;done) | (simp;omega)) _⟩
  obtain rfl:=zcw hz
  clear hz
  by_cases hz:mr.size=0
  rotate_left
  ·have hz1:=zca hz
   have HZ:=Lib.hid hz
   clear hz
   go_wp2_with fail
   go_ret
   exact⟨zo (a:=1) (zR HK.out (by simp [zbg,HZ.out])).symm,hbw.alloc (by first | omega | (simp;done) | (simp;omega)) _⟩
  obtain rfl:=zcw hz
  clear hz
  by_cases hz:it=0
  rotate_left
  ·have hz1:(it != 0)=true:=by simpa using hz
   have HZ:=Lib.hid hz
   clear hz
   go_wp2_with fail
   go_ret
   exact⟨zo (a:=1) (zR HK.out (by simp [zbg,HZ.out])).symm,hbw.alloc (by first | omega | (simp;done) | (simp;omega)) _⟩
  subst hz
  by_cases hz:d=0
  rotate_left
  ·have hz1:(d != 0)=true:=by simpa using hz
   have HZ:=Lib.hid hz
   clear hz
   go_wp2_with fail
   go_ret
   exact⟨zo (a:=1) (zR HK.out (by simp [zbg,HZ.out])).symm,hbw.alloc (by first | omega | (simp;done) | (simp;omega)) _⟩
  subst hz
  by_cases hz:len=ns
  rotate_left
  ·have hz1:((len:Int) != (ns:Int))=true:=by simp;omega
   have hz2:(len != ns)=true:=by simpa using hz
   have HZ:=Lib.hid hz
   clear hz
   go_wp2_with fail
   go_ret
   exact⟨zo (a:=1) (zR HK.out (by simp [zbg,HZ.out])).symm,hbw.alloc (by first | omega | (simp;done) | (simp;omega)) _⟩
  subst hz
 case' inr.inr.inr.inr.inr=>
  by_cases hz:nm.size=0
  rotate_left
  ·have hz1:=zca hz
   have HZ:=Lib.hid hz
   clear hz
   go_wp2_with fail
   go_ret
   exact⟨zo (a:=1) (zR HK.out (by simp [zbg,HZ.out])).symm,hbw.alloc (by first | omega | (simp;done) | (simp;omega)) _⟩
  obtain rfl:=zcw hz
  clear hz
  by_cases hz:mr.size=0
  rotate_left
  ·have hz1:=zca hz
   have HZ:=Lib.hid hz
   clear hz
   go_wp2_with fail
   go_ret
   exact⟨zo (a:=1) (zR HK.out (by simp [zbg,HZ.out])).symm,hbw.alloc (by first | omega | (simp;done) | (simp;omega)) _⟩
  obtain rfl:=zcw hz
  clear hz
  by_cases hz:len=ns
  rotate_left
  ·have hz1:((len:Int) != (ns:Int))=true:=by simp;omega
   have hz2:(len != ns)=true:=by simpa using hz
   have HZ:=Lib.hid hz
   clear hz
   go_wp2_with fail
   go_ret
   exact⟨zo (a:=1) (zR HK.out (by simp [zbg,HZ.out])).symm,hbw.alloc (by first | omega | (simp;done) | (simp;omega)) _⟩
  subst hz
 all_goals
  by_cases hz:ne=0
  ·subst hz
   go_wp2_with (first
    | (go_at_call 260;refine(HNE.out _).mono ?_;rintro e wn ⟨rfl,hbn⟩;obtain⟨hcn,hfn⟩:=bcellE hbn;have hln:w.heap.size<ws.heap.size+1:=by omega)
    | (go_at_call 261;refine(ziX _ _ _ _ _ _ _).mono ?_;rintro e wm ⟨rfl,hbm⟩))
   go_ret
   exact⟨zo (zgD HK.out (by simp [zbg] <;> rfl) HM.out).symm,((hbw.alloc (by first | omega | (simp;done) | (simp;omega)) _).trans (hbn.mono (by first | omega | (simp;done) | (simp;omega)))).trans (hbm.mono (by have hz1:=hbn.size;simp at hz1;omega))⟩
  ·have hz1:(ne != 0)=true:=by simpa using hz
   have HZ:=Lib.hid hz
   clear hz
   go_wp2_with (first
    | (go_at_call 260;refine(HNE.out _).mono ?_;rintro e wn ⟨rfl,hbn⟩;obtain⟨hcn,hfn⟩:=bcellE hbn;have hln:w.heap.size<ws.heap.size+1:=by omega))
   go_ret
   exact⟨zo (a:=ne) ((zgE HK.out (by simp [zbg] <;> rfl) (by rw [HM.out];exact HZ.out)).trans HM.out).symm,(hbw.alloc (by first | omega | (simp;done) | (simp;omega)) _).trans (hbn.mono (by first | omega | (simp;done) | (simp;omega)))⟩
theorem zma (k:Int) (nm mr:ByteArray) (it d:Int) (p:Option Addr) (len cap:Nat) (w:World) :
  Calls Tryz.prog 216 #[.agg #[.int .i64 k,.string nm,.string mr,.int .i64 it,.int .i64 d,.slice p len cap]] w fun e w'=>e = .returned (.int .i64 (zbe k nm mr it d len))/\Below w.heap.size w w':=by
 rcases h:zbO k with _ | ⟨nn,nu,ns⟩
 ·exact zoe k nm mr it d p len cap w h
 ·exact zlZ k nn nu ns nm mr it d p len cap w h
mutual
def zbI:Ex->Int
 | .mk k n m i d s=>if zbe k n m i d s.length=0 then zcm s else zbe k n m i d s.length
def zcm:List Ex->Int
 | []=>0
 | e :: es=>if zbI e=0 then zcm es else zbI e
end
theorem zvH {k:Int} {nm mr:ByteArray} {it d c:Int} {sub:List Ex} (h:zbe k nm mr it d sub.length=c) (hc:¬ c=0):zbI (.mk k nm mr it d sub)=c:=by rw [zbI,h,if_neg hc]
theorem zty {k:Int} {nm mr:ByteArray} {it d:Int} {sub:List Ex} (h:zbe k nm mr it d sub.length=0):zbI (.mk k nm mr it d sub)=zcm sub:=by rw [zbI,if_pos h]
end
section
open Go.RowKit
def zal (t:Ex):Int:=if 400<nodesE t\/40<zbU t then 4 else zbI t
theorem zre {t:Ex} (h:400<nodesE t):zal t=4:=by rw [zal,if_pos (.inl h)]
theorem zrf {t:Ex} (h:40<zbU t):zal t=4:=by rw [zal,if_pos (.inr h)]
theorem zlg {t:Ex} (h:¬ 400<nodesE t) (h':¬ 40<zbU t):zal t=zbI t:=by rw [zal,if_neg (by omega)]
end
section
open Go.RowKit Go.Shelf
attribute [local go_sem] Oper.semAt_some /- plain: the depths,the first error -/
mutual
theorem zwl:∀ (d:Nat) (t:Ex) (x:Nat × Ex),x ∈ zgu d t->x.1+1<=d+zbU t
 | d,.mk k n m i dn s,x,h=>by
  simp only [zgu,List.mem_cons] at h
  rcases h with rfl | h
  ·simp only [zbU];omega
  ·have:=zwk (d+1) s x h;simp only [zbU];omega
theorem zwk:∀ (d:Nat) (l:List Ex) (x:Nat × Ex),x ∈ zfb d l->x.1+1<=d+zcP l
 | d,[],x,h=>by simp [zfb] at h
 | d,e :: es,x,h=>by
  simp only [zfb,List.mem_append] at h
  rcases h with h | h
  ·have:=zwl d e x h;simp only [zcP];omega
  ·have:=zwk d es x h;simp only [zcP];omega
end
mutual
theorem zoO:∀ (d:Nat) (t:Ex),∃ x ∈ zgu d t,x.1+1=d+zbU t
 | d,.mk k n m i dn s=>by
  rcases zoN (d+1) s with⟨rfl⟩ | ⟨x,hx,he⟩
  ·exact⟨(d,.mk k n m i dn []),by simp [zgu],by simp [zbU,zcP]⟩
  ·exact⟨x,by simp only [zgu,List.mem_cons];exact .inr hx,by simp only [zbU];omega⟩
theorem zoN:∀ (d:Nat) (l:List Ex),l=[]\/∃ x ∈ zfb d l,x.1+1=d+zcP l
 | d,[]=>.inl rfl
 | d,e :: es=>by
  right
  obtain⟨x,hx,he⟩:=zoO d e
  rcases zoN d es with rfl | ⟨y,hy,hye⟩
  ·exact⟨x,by simp only [zfb,List.mem_append];exact .inl hx,by simp only [zcP];omega⟩
  ·rcases Nat.le_total (zbU e) (zcP es) with h | h
   ·exact⟨y,by simp only [zfb,List.mem_append];exact .inr hy,by simp only [zcP];omega⟩
   ·exact⟨x,by simp only [zfb,List.mem_append];exact .inl hx,by simp only [zcP];omega⟩
end
def zlC (t:Ex):Int:=zbe t.kind t.name t.more t.int t.den t.sub.length
def zbr:List (Nat × Ex)->Int
 | []=>0
 | x :: xs=>if zlC x.2=0 then zbr xs else zlC x.2
theorem zce:∀ a b:List (Nat × Ex),zbr (a++b)=if zbr a=0 then zbr b else zbr a
 | [],b=>by simp [zbr]
 | x :: xs,b=>by
  simp only [zbr,List.cons_append,zce xs b]
  by_cases h:zlC x.2=0 <;> simp [h]
mutual
theorem zgF:∀ (d:Nat) (t:Ex),zbI t=zbr (zgu d t)
 | d,.mk k n m i dn s=>by
  rw [zbI,zgu,zbr,zio (d+1) s];rfl
theorem zio:∀ (d:Nat) (l:List Ex),zcm l=zbr (zfb d l)
 | d,[]=>by simp [zcm,zfb,zbr]
 | d,e :: es=>by rw [zcm,zfb,zce,zgF d e,zio d es]
end
theorem ziu (k:Int) (nm mr:ByteArray) (it d:Int) (p:Option Addr) (len cap:Nat) (w:World) :
  Calls Tryz.prog 215 #[.agg #[.int .i64 k,.string nm,.string mr,.int .i64 it,.int .i64 d,.slice p len cap]] w fun e w'=>
   e = .returned (.func (.func 258) #[] #[.pointer (some ⟨w.heap.size,0,none⟩)])/\w.alloc (.cells #[.int .i64 k,.string nm,.string mr,.int .i64 it,.int .i64 d,.slice p len cap] 105)=w':=by
 go_enter Tryz.func215,Tryz.ntmps215
 go_wp2
 go_ret
 exact⟨rfl,rfl⟩
structure CkFrame (w:World) (E:Array Value) (res cnt:Int) (W:World):Prop where
 e:W.heap[w.heap.size]? = some (.cells E 105 (0,0))
 r:W.heap[w.heap.size+1]? = some (.cells #[.int .i64 res] 29 (0,0))
 c:W.heap[w.heap.size+1+1]? = some (.cells #[.int .i64 cnt] 3 (0,0))
 size:w.heap.size+1+1+1+1<=W.heap.size
 below:Below w.heap.size w W
theorem CkFrame.grown {w:World} {E:Array Value} {res cnt:Int} {A B:World} {row:Option Nat} (h:CkFrame w E res cnt A) (hg:A.grownBy B row) (hr:∀ r,row=some r->w.heap.size<=r/\∃ o:Obj,A.heap[r]? = some o/\o.isCells=false):CkFrame w E res cnt B:=
 have hr':=fun r e=>(hr r e).2
 ⟨(grownBy_keeps_cells hg hr' h.e rfl).trans h.e,(grownBy_keeps_cells hg hr' h.r rfl).trans h.r,(grownBy_keeps_cells hg hr' h.c rfl).trans h.c,Nat.le_trans h.size hg.size,h.below.trans ((Below.refl _ _).grown hg (by have:=h.size;omega) (fun k e=>(hr k e).1))⟩
theorem CkFrame.step {w:World} {E:Array Value} {res cnt:Int} {A B:World} {base:Nat} (h:CkFrame w E res cnt A) (hs:ItStep base A B) (hb:w.heap.size+1+1+1+1<=base):CkFrame w E res cnt B:=
 ⟨(hs.below.block _ (by omega)).trans h.e,(hs.below.block _ (by omega)).trans h.r,(hs.below.block _ (by omega)).trans h.c,Nat.le_trans h.size hs.others.size,h.below.trans (hs.below.mono (by omega))⟩
theorem CkFrame.kept {w:World} {E:Array Value} {res cnt:Int} {A B:World} (h:CkFrame w E res cnt A) (hb:Below A.heap.size A B):CkFrame w E res cnt B:=
 ⟨(hb.block _ (by have:=h.size;omega)).trans h.e,(hb.block _ (by have:=h.size;omega)).trans h.r,(hb.block _ (by have:=h.size;omega)).trans h.c,Nat.le_trans h.size hb.size,h.below.trans (hb.mono (by have:=h.size;omega))⟩
theorem CkFrame.setCnt {w:World} {E:Array Value} {res cnt:Int} {A:World} (h:CkFrame w E res cnt A) (x:Int):CkFrame w E res x (A.setCell ⟨w.heap.size+1+1,0,none⟩ (.int .i64 x)):=
 ⟨(Below.heap_setCell _ _ _ _ (by simp;omega)).trans h.e,(Below.heap_setCell _ _ _ _ (by simp)).trans h.r,one_setCell h.c,by simpa [World.setCell] using h.size,h.below.setCell (p:=⟨w.heap.size+1+1,0,none⟩) (by simp;omega) _⟩
theorem CkFrame.setRes {w:World} {E:Array Value} {res cnt:Int} {A:World} (h:CkFrame w E res cnt A) (x:Int):CkFrame w E x cnt (A.setCell ⟨w.heap.size+1,0,none⟩ (.int .i64 x)):=
 ⟨(Below.heap_setCell _ _ _ _ (by simp)).trans h.e,one_setCell h.r,(Below.heap_setCell _ _ _ _ (by simp)).trans h.c,by simpa [World.setCell] using h.size,h.below.setCell (p:=⟨w.heap.size+1,0,none⟩) (by simp) _⟩
def Ck1 (w:World) (E:Array Value) (pre:List (ItN)) (W:World):Prop:=CkFrame w E 0 pre.length W/\pre.length<=400/\∀ x ∈ pre,x.1<=40
def zGS (w:World) (E:Array Value) (c:Code) (pre:List (ItN)) (W:World):Prop:=c = .ret/\(∃ n,CkFrame w E 4 n W)/\(400<pre.length\/∃ x ∈ pre,40<x.1)
def Ck2 (w:World) (E:Array Value) (D:Nat) (pre:List (ItN)) (W:World):Prop:=(∃ n,CkFrame w E 0 n W)/\zbr (pre.map zdQ)=0/\W.heap[D]? = some (.deferred (some []))
def zGR (w:World) (E:Array Value) (D:Nat) (c:Code) (pre:List (ItN)) (W:World):Prop:=c = .ret/\∃ err n,CkFrame w E err n W/\err≠0/\zbr (pre.map zdQ)=err/\W.heap[D]? = some (.deferred (some []))
theorem zDE (w:World) (E:Array Value) (B:Nat) (hB:w.heap.size<=B):OwnFrom B (Ck1 w E):=fun s W W' row hs hg hr=>⟨hs.1.grown hg (fun r e=>⟨by have:=(hr r e).1;omega,(hr r e).2⟩),hs.2⟩
theorem zBm (w:World) (E:Array Value) (c:Code) (B:Nat) (hB:w.heap.size<=B):OwnFrom B (zGS w E c):=fun s W W' row hs hg hr=>⟨hs.1,⟨_,hs.2.1.choose_spec.grown hg (fun r e=>⟨by have:=(hr r e).1;omega,(hr r e).2⟩)⟩,hs.2.2⟩
theorem zDD (w:World) (E:Array Value) (D:Nat) (B:Nat) (hB:w.heap.size<=B) (hD:D<B):OwnFrom B (Ck2 w E D):=fun s W W' row hs hg hr=>⟨⟨_,hs.1.choose_spec.grown hg (fun r e=>⟨by have:=(hr r e).1;omega,(hr r e).2⟩)⟩,hs.2.1,(hg.block D (Array.getElem?_eq_some_iff.1 hs.2.2).1 (fun e=>by have:=(hr D e.symm).1;omega)).trans hs.2.2⟩
theorem zBl (w:World) (E:Array Value) (D:Nat) (c:Code) (B:Nat) (hB:w.heap.size<=B) (hD:D<B):OwnFrom B (zGR w E D c):=fun s W W' row ⟨h1,err,n,h2,h3,h4,h5⟩ hg hr=>⟨h1,err,n,h2.grown hg (fun r e=>⟨by have:=(hr r e).1;omega,(hr r e).2⟩),h3,h4,(hg.block D (Array.getElem?_eq_some_iff.1 h5).1 (fun e=>by have:=(hr D e.symm).1;omega)).trans h5⟩
theorem zxR {t:Ex} {pre:List (ItN)} (hp:zeZ t pre) (hb:400<pre.length\/∃ x ∈ pre,40<x.1):zal t=4:=by
 rcases hb with hb | ⟨x,hx,h40⟩
 ·apply zre
  have:=hp.length_le
  rw [List.length_map,zfj] at this;omega
 ·apply zrf
  have:=zwl 1 t (zdQ x) (hp.subset (List.mem_map_of_mem hx))
  simp only [zdQ] at this;omega
theorem zvg {t:Ex} {pre:List (ItN)} (hp:zfa t pre) (h1:pre.length<=400) (h2:∀ x ∈ pre,x.1<=40):¬ 400<nodesE t/\¬ 40<zbU t:=by
 constructor
 ·have:=congrArg List.length (show _=_ from hp)
  rw [List.length_map,zfj] at this;omega
 ·obtain⟨x,hx,he⟩:=zoO 1 t
  rw [<- (show _=_ from hp)] at hx
  obtain⟨y,hy,rfl⟩:=List.mem_map.1 hx
  have:=h2 y hy
  simp only [zdQ] at he;omega
theorem zfr {lo:Nat} {A B:World} (h:Below lo A B):zdM lo A B:=fun b off hb _ hv=>(h.cell (p:=⟨b,off,none⟩) hb).trans hv
theorem zBk (w:World) (t1 t2 t3:TypeId) (E:Array Value) (V:World) (hV:(((w.alloc (.cells E t1)).alloc (.cells #[.int .i64 0] t2)).alloc (.cells #[.int .i64 0] t3)).alloc (.cells E t1)=V) (h1:t1=105:=by rfl) (h2:t2=29:=by rfl) (h3:t3=3:=by rfl) :
  CkFrame w E 0 0 V/\V.heap[w.heap.size+1+1+1]? = some (.cells E t1 (0,0))/\V.heap.size=w.heap.size+1+1+1+1:=by
 subst h1 h2 h3
 have q1:=World.alloc_heap_new w (.cells E 105)
 have q2:=World.alloc_heap_new (w.alloc (.cells E 105)) (.cells #[.int .i64 0] 29)
 have q3:=World.alloc_heap_new ((w.alloc (.cells E 105)).alloc (.cells #[.int .i64 0] 29)) (.cells #[.int .i64 0] 3)
 have q4:=World.alloc_heap_new (((w.alloc (.cells E 105)).alloc (.cells #[.int .i64 0] 29)).alloc (.cells #[.int .i64 0] 3)) (.cells E 105)
 simp only [World.size_alloc] at q2 q3 q4
 rw [hV] at q4
 refine⟨⟨?_,?_,?_,?_,?_⟩,q4,?_⟩ <;> rw [<- hV]
 ·exact(Below.heap_alloc _ _ _ (by simp <;> omega)).trans ((Below.heap_alloc _ _ _ (by simp <;> omega)).trans ((Below.heap_alloc _ _ _ (by simp)).trans q1))
 ·exact(Below.heap_alloc _ _ _ (by simp <;> omega)).trans ((Below.heap_alloc _ _ _ (by simp)).trans q2)
 ·exact(Below.heap_alloc _ _ _ (by simp)).trans q3
 ·simp
 ·exact((((Below.refl _ w).alloc (Nat.le_refl _) _).alloc (by simp) _).alloc (by simp;omega) _).alloc (by simp;omega) _
 ·simp
end
end Go.Proofs.YtpnjjmcimjlfkaaGreatDoor
