/- Texts of this proof, part 9: what the proof uses of them. -/
import Derived.Test.YtpnjjmcimjlfkaaGreatDoorDag
import Derived.Test.YtpnjjmcimjlfkaaGreatDoorDah
import Derived.Test.YtpnjjmcimjlfkaaGreatDoorProg
import Derived.Outline
import Derived.StillTailTactics
import Derived.Deep.RegionHeld3
import Derived.Lib.SlicesS
import Derived.Deep.Light
set_option maxRecDepth 100000
set_option maxHeartbeats 64000000
namespace Go.Proofs.YtpnjjmcimjlfkaaGreatDoor
section
open Go.RowKit
theorem zll (c:Int) (w:World) (h:zay c=true):Calls Tryz.prog 225 #[.int .u8 c] w fun e w'=>e = .returned (.bool true)∧w=w':=by
 obtain⟨h1,h2⟩:97≤c∧c≤122:=by simpa [zay] using h
 clear h
 go_enter Tryz.func225,Tryz.ntmps225
 go_wp2
 go_ret
 exact⟨rfl,rfl⟩
theorem znh (c:Int) (w:World) (h:zay c=false):Calls Tryz.prog 225 #[.int .u8 c] w fun e w'=>e = .returned (.bool false)∧w=w':=by
 by_cases h1:97≤c
 ·have h2:¬ c≤122:=by simp [zay] at h;omega
  clear h
  go_enter Tryz.func225,Tryz.ntmps225
  go_wp2
  go_ret
  exact⟨rfl,rfl⟩
 ·clear h
  go_enter Tryz.func225,Tryz.ntmps225
  go_wp2
  go_ret
  exact⟨rfl,rfl⟩
theorem zgY (c:Int) (w:World):Calls Tryz.prog 225 #[.int .u8 c] w fun e w'=>e = .returned (.bool (zay c))∧w=w':=by
 cases h:zay c
 ·exact znh c w h
 ·exact zll c w h
theorem zvD (c:Int) (w:World) (h:zbx c=true):Calls Tryz.prog 226 #[.int .u8 c] w fun e w'=>e = .returned (.bool true)∧w=w':=by
 obtain⟨h1,h2⟩:48≤c∧c≤57:=by simpa [zbx] using h
 clear h
 go_enter Tryz.func226,Tryz.ntmps226
 go_wp2
 go_ret
 exact⟨rfl,rfl⟩
theorem zyP (c:Int) (w:World) (h:zbx c=false):Calls Tryz.prog 226 #[.int .u8 c] w fun e w'=>e = .returned (.bool false)∧w=w':=by
 by_cases h1:48≤c
 ·have h2:¬ c≤57:=by simp [zbx] at h;omega
  clear h
  go_enter Tryz.func226,Tryz.ntmps226
  go_wp2
  go_ret
  exact⟨rfl,rfl⟩
 ·clear h
  go_enter Tryz.func226,Tryz.ntmps226
  go_wp2
  go_ret
  exact⟨rfl,rfl⟩
theorem rdigit_any (c:Int) (w:World):Calls Tryz.prog 226 #[.int .u8 c] w fun e w'=>e = .returned (.bool (zbx c))∧w=w':=by
 cases h:zbx c
 ·exact zyP c w h
 ·exact zvD c w h
end
section
open Go.RowKit
def noSlashB (c:UInt8):Bool:=(c.toNat:Int) != 47
theorem zfg:∀ l:List UInt8,(runL noSlashB l<l.length→Lib.indexByte l 47=(runL noSlashB l:Nat))∧(runL noSlashB l=l.length→Lib.indexByte l 47 = -1)
 | []=>⟨fun h=>by simp [runL] at h,fun _=>rfl⟩
 | c :: r=>by
  obtain⟨h1,h2⟩:=zfg r
  have hle:=zqZ noSlashB r
  by_cases hc:(c == 47)=true
  ·have e:noSlashB c=false:=by obtain rfl:=eq_of_beq hc;rfl
   have e2:runL noSlashB (c :: r)=0:=by simp [runL,e]
   rw [e2]
   refine⟨fun _=>by rw [Lib.indexByte,if_pos hc];rfl,fun h=>by simp at h⟩
  ·have e:noSlashB c=true:=by
    have hne:c≠47:=by simpa using hc
    have:c.toNat≠47:=fun h=>hne (UInt8.toNat_inj.1 (by simpa using h))
    simp [noSlashB];omega
   have e2:runL noSlashB (c :: r)=runL noSlashB r+1:=by simp [runL,e]
   rw [e2]
   refine⟨fun h=>?_,fun h=>?_⟩
   ·have h3:=h1 (by simpa using h)
    rw [Lib.indexByte,if_neg hc,h3,if_neg (by simp <;> omega)] <;> omega
   ·have h3:=h2 (by simpa using h)
    rw [Lib.indexByte,if_neg hc,h3];rfl
theorem ztn {l:List UInt8} (h:runL noSlashB l<l.length):zaH l=l.take (runL noSlashB l) :: zaH (l.drop (runL noSlashB l+1)):=(zeW ((zfg l).1 h)).2
theorem zpe {l:List UInt8} (h:¬ runL noSlashB l<l.length):zaH l=[l]:=zhc ((zfg l).2 (by have:=zqZ noSlashB l;omega))
theorem zwS {l:List UInt8} {most:Nat} (h0:0<l.length) (h1:l.length≤most) (hh:zcT l[0]=true) (h:zpD zgJ l l.length):zaA most l=true:=by
 refine zmy h0 h1 (fun j hj=>?_)
 have:=h j hj hj
 unfold zgJ at this
 rcases Nat.eq_zero_or_pos j with rfl | hp
 ·exact .inl hh
 ·cases hl:zcT l[j]
  ·rw [hl] at this;exact .inr ⟨by omega,by simpa using this⟩
  ·exact .inl rfl
theorem zyF (s:ByteArray) (m:Nat) (w:World) (h:s.size=0) :
  Calls Tryz.prog 147 #[.string s,.int .i64 m] w fun e w'=>e = .returned (.bool (zaA m s.data.toList))∧w=w':=by
 have h1:decide ((s.size:Int)<1)=true:=by simp;omega
 have HF:=Lib.hid (zpu (most:=m) (l:=s.data.toList) (by simpa using h))
 clear h
 go_enter Tryz.func147,Tryz.ntmps147
 go_wp2_with fail
 go_ret
 exact⟨by rw [HF.out];rfl,rfl⟩
theorem zvt (s:ByteArray) (m:Nat) (w:World) (h0:0<s.size) (h:m<s.size) :
  Calls Tryz.prog 147 #[.string s,.int .i64 m] w fun e w'=>e = .returned (.bool (zaA m s.data.toList))∧w=w':=by
 have h1:decide ((s.size:Int)<1)=false:=by simp;omega
 have h2:decide ((m:Int)<(s.size:Int))=true:=by simp;omega
 have HF:=Lib.hid (ziv (most:=m) (l:=s.data.toList) (by simpa using h))
 go_enter Tryz.func147,Tryz.ntmps147
 go_wp2_with fail
 go_ret
 exact⟨by rw [HF.out];rfl,rfl⟩
theorem zvu (s:ByteArray) (m:Nat) (w:World) (h0:0<s.size) (h:s.size≤m) (hl:zay ((s[0]'h0).toNat:Int)=false) :
  Calls Tryz.prog 147 #[.string s,.int .i64 m] w fun e w'=>e = .returned (.bool (zaA m s.data.toList))∧w=w':=by
 have h1:decide ((s.size:Int)<1)=false:=by simp;omega
 have h2:decide ((m:Int)<(s.size:Int))=false:=by simp;omega
 have h2':decide (m<s.size)=false:=by simp;omega
 have hz:(0:Int)<s.size:=by omega
 have HF:=Lib.hid (zds (most:=m) (l:=s.data.toList) (j:=0) (by simpa using h0) hl (.inl rfl))
 go_enter Tryz.func147,Tryz.ntmps147
 go_wp2_with (first | (go_at_call 225;refine(znh _ _ hl).mono ?_;rintro e w' ⟨rfl,rfl⟩))
 go_ret
 exact⟨by rw [HF.out];rfl,rfl⟩
theorem zvv (s:ByteArray) (m:Nat) (w:World) (hm:m≤1000) (h0:0<s.size) (h:s.size≤m) (hl:zay ((s[0]'h0).toNat:Int)=true) :
  Calls Tryz.prog 147 #[.string s,.int .i64 m] w fun e w'=>e = .returned (.bool (zaA m s.data.toList))∧w=w':=by
 have h1:decide ((s.size:Int)<1)=false:=by simp;omega
 have h2:decide ((m:Int)<(s.size:Int))=false:=by simp;omega
 have h2':decide (m<s.size)=false:=by simp;omega
 have hz:(0:Int)<s.size:=by omega
 have HL:=Lib.hid hl
 go_enter Tryz.func147,Tryz.ntmps147
 go_wp2_with (first | (go_at_call 225;refine(zll _ _ hl).mono ?_;rintro e w' ⟨rfl,rfl⟩))
 go_loop [5] (fun i=>∃ k:Nat,k≤s.size∧i = .int .i64 k∧zpD zgJ s.data.toList k) (fun i=>s.size - (intOf i).toNat)
 case atStart=>exact⟨0,Nat.zero_le _,rfl,zmZ _ _⟩
 case round=>
  obtain⟨k,hk,rfl,hto⟩:=hrel
  clear hl
  by_cases hlt:k<s.size
  ·cases hlk:zay ((s[k]'hlt).toNat:Int)
   ·cases hdk:zbx ((s[k]'hlt).toNat:Int)
    ·have HF:=Lib.hid (zds (most:=m) (l:=s.data.toList) (j:=k) (by simpa using hlt) hlk (.inr hdk))
     go_wp2_with (first | (go_at_call 225;refine(zgY _ _).mono ?_;rintro e w' ⟨rfl,rfl⟩) | (go_at_call 226;refine(rdigit_any _ _).mono ?_;rintro e w' ⟨rfl,rfl⟩))
     go_ret
     exact⟨by rw [HF.out];rfl,rfl⟩
    ·go_wp2_with (first | (go_at_call 225;refine(zgY _ _).mono ?_;rintro e w' ⟨rfl,rfl⟩) | (go_at_call 226;refine(rdigit_any _ _).mono ?_;rintro e w' ⟨rfl,rfl⟩))
     go_round
     case rel=>exact⟨k+1,by omega,by go_num,ziD hlt hto (by simp [zgJ,zgB,hdk])⟩
     case measure=>simp [intOf];omega
   ·go_wp2_with (first | (go_at_call 225;refine(zgY _ _).mono ?_;rintro e w' ⟨rfl,rfl⟩))
    go_round
    case rel=>exact⟨k+1,by omega,by go_num,ziD hlt hto (by simp [zgJ,zcT,hlk])⟩
    case measure=>simp [intOf];omega
  ·have HF:=Lib.hid (zwS (most:=m) (l:=s.data.toList) (by simpa using h0) (by simpa using h) HL.out (fun j hj _=>hto j hj (by simp at hj;omega)))
   go_wp2_with fail
   go_ret
   exact⟨by rw [HF.out];rfl,rfl⟩
theorem zhG (s:ByteArray) (m:Nat) (w:World) (hm:m≤1000) :
  Calls Tryz.prog 147 #[.string s,.int .i64 m] w fun e w'=>e = .returned (.bool (zaA m s.data.toList))∧w=w':=by
 rcases Nat.eq_zero_or_pos s.size with h | h
 ·exact zyF s m w h
 ·rcases Nat.lt_or_ge m s.size with h' | h'
  ·exact zvt s m w h h'
  ·cases hl:zay ((s[0]'h).toNat:Int)
   ·exact zvu s m w h h' hl
   ·exact zvv s m w hm h h' hl
theorem zpG (s:ByteArray) (w:World) :
  Calls Tryz.prog 227 #[.string s] w fun e w'=>e = .returned (.bool (zaA 24 s.data.toList))∧w=w':=by
 go_enter Tryz.func227,Tryz.ntmps227
 go_wp2_with (first | (go_at_call 147;refine(zhG _ 24 _ (by omega)).mono ?_;rintro e w' ⟨rfl,rfl⟩))
 go_ret
 exact⟨rfl,rfl⟩
theorem znb (s:ByteArray) (w:World) (hs:s.size≤maxLen) :
  Calls Tryz.prog 146 #[.string s] w fun e w'=>e = .returned (.int .i64 (runL noSlashB s.data.toList))∧w=w':=by
 unfold maxLen at hs
 go_enter Tryz.func146,Tryz.ntmps146
 go_wp2_with fail
 go_loop [3] (fun i=>∃ k:Nat,k≤s.size∧i = .int .i64 k∧zpD noSlashB s.data.toList k) (fun i=>s.size - (intOf i).toNat)
 case atStart=>exact⟨0,Nat.zero_le _,rfl,zmZ _ _⟩
 case round=>
  obtain⟨k,hk,rfl,hto⟩:=hrel
  by_cases hlt:k<s.size
  ·cases hr:(((s[k]'hlt).toNat:Int) != 47)
   ·have Hf:=Lib.hid (zxg (p:=noSlashB) (l:=s.data.toList) (k:=k) (by simpa using hk) hto (fun _=>hr))
    go_wp2_with fail
    go_ret
    exact⟨by rw [Hf.out];rfl,rfl⟩
   ·go_wp2_with fail
    go_round
    case rel=>exact⟨k+1,by omega,by go_num,ziD hlt hto hr⟩
    case measure=>simp [intOf];omega
  ·have Hf:=Lib.hid (zxg (p:=noSlashB) (l:=s.data.toList) (k:=k) (by simpa using hk) hto (fun h=>absurd (by simpa using h) hlt))
   go_wp2_with fail
   go_ret
   exact⟨by rw [Hf.out];rfl,rfl⟩
end
section
open Go.RowKit
def zva (v:Value):Nat:=match v with | .string s=>s.size | _=>0
def zDd (s:ByteArray) (v i:Value):Prop:=∃ t:ByteArray,v = .string t∧i = .int .i64 (runL noSlashB t.data.toList)∧t.size≤90∧(zaH s.data.toList).all (zaA 20)=(zaH t.data.toList).all (zaA 20)
theorem zrM {l:List UInt8} (h:l.length≤90):zX l=(zaH l).all (zaA 20):=by simp [zX,h]
theorem zte (s:ByteArray) (w:World) (h:90<s.size) :
  Calls Tryz.prog 82 #[.string s] w fun e w'=>e = .returned (.bool (zX s.data.toList))∧w=w':=by
 have HF:=Lib.hid (zlz (l:=s.data.toList) (by simpa using h))
 go_enter Tryz.func82,Tryz.ntmps82
 go_wp2_with fail
 go_ret
 exact⟨by rw [HF.out];rfl,rfl⟩
theorem zrk (s:ByteArray) (w:World) (h:s.size≤90) :
  Calls Tryz.prog 82 #[.string s] w fun e w'=>e = .returned (.bool (zX s.data.toList))∧w=w':=by
 have h90:decide (90<(s.size:Int))=false:=by simp;omega
 have HL:=Lib.hid (zrM (l:=s.data.toList) (by simpa using h))
 go_enter Tryz.func82,Tryz.ntmps82
 go_wp2_with (first | (go_at_call 146;refine(znb _ _ (by unfold maxLen;omega)).mono ?_;rintro e w' ⟨rfl,rfl⟩))
 go_loop [0,3] (fun v i=>zDd s v i) (fun v _=>zva v)
 case atStart=>exact⟨s,rfl,rfl,h,rfl⟩
 case round=>
  obtain⟨t,rfl,rfl,ht,hq⟩:=hrel
  have HQ:=Lib.hid hq
  clear hq
  have hrl:runL noSlashB t.data.toList≤t.size:=by have:=zqZ noSlashB t.data.toList;simpa using this
  by_cases hlt:runL noSlashB t.data.toList<t.size
  ·have HP:=Lib.hid (ztn (l:=t.data.toList) (by simpa using hlt))
   cases hw:zaA 20 (t.data.toList.take (runL noSlashB t.data.toList))
   ·have HF:Hid (zX s.data.toList=false):=Lib.hid (by rw [HL.out,HQ.out,HP.out,List.all_cons,hw];rfl)
    have Hc:Hid (∀ W,Calls Tryz.prog 147 #[.string (t.extract 0 (runL noSlashB t.data.toList)),.int .i64 20] W fun e w'=>e = .returned (.bool false)∧W=w'):=Lib.hid (fun W=>by
     have h1:=zhG (t.extract 0 (runL noSlashB t.data.toList)) 20 W (by omega)
     rw [zct,List.drop_zero,Nat.sub_zero,hw] at h1;exact h1)
    clear hw
    generalize runL noSlashB t.data.toList=n at *
    go_wp2_with (first | (go_at_call 147;refine(Hc.out _).mono ?_;rintro e w' ⟨rfl,rfl⟩))
    go_ret
    exact⟨by rw [HF.out];rfl,rfl⟩
   ·have Hc:Hid (∀ W,Calls Tryz.prog 147 #[.string (t.extract 0 (runL noSlashB t.data.toList)),.int .i64 20] W fun e w'=>e = .returned (.bool true)∧W=w'):=Lib.hid (fun W=>by
     have h1:=zhG (t.extract 0 (runL noSlashB t.data.toList)) 20 W (by omega)
     rw [zct,List.drop_zero,Nat.sub_zero,hw] at h1;exact h1)
    obtain⟨t2,HT⟩:∃ t2,Hid (t2=t.extract (runL noSlashB t.data.toList+1) t.size):=⟨_,Lib.hid rfl⟩
    have HR:Hid ((zaH s.data.toList).all (zaA 20)=(zaH t2.data.toList).all (zaA 20)):=Lib.hid (by rw [HQ.out,HP.out,List.all_cons,hw,HT.out,zhq];rfl)
    have hsz:t2.size<t.size:=by rw [HT.out];simp;omega
    have Hs:Hid (∀ W,Calls Tryz.prog 146 #[.string (t.extract (runL noSlashB t.data.toList+1) t.size)] W fun e w'=>e = .returned (.int .i64 (runL noSlashB t2.data.toList))∧W=w'):=Lib.hid (fun W=>by
     rw [← HT.out];exact znb t2 W (by unfold maxLen;omega))
    clear hw
    generalize runL noSlashB t.data.toList=n at *
    go_wp2_with (first | (go_at_call 147;refine(Hc.out _).mono ?_;rintro e w' ⟨rfl,rfl⟩) | (go_at_call 146;refine(Hs.out _).mono ?_;rintro e w' ⟨rfl,rfl⟩))
    go_round
    case rel=>exact⟨t2,by rw [HT.out],rfl,by omega,HR.out⟩
    case measure=>simp only [zva];have:=HT.out;rw [this] at hsz;simpa [zva] using hsz
  ·have HF:Hid (zX s.data.toList=zaA 20 t.data.toList):=Lib.hid (by rw [HL.out,HQ.out,zpe (by simpa using hlt)];simp)
   go_wp2_with (first | (go_at_call 147;refine(zhG _ 20 _ (by omega)).mono ?_;rintro e w' ⟨rfl,rfl⟩))
   go_ret
   exact⟨by rw [HF.out];rfl,rfl⟩
theorem zvG (s:ByteArray) (w:World) :
  Calls Tryz.prog 82 #[.string s] w fun e w'=>e = .returned (.bool (zX s.data.toList))∧w=w':=by
 rcases Nat.lt_or_ge 90 s.size with h | h
 ·exact zte s w h
 ·exact zrk s w h
end
section
open Go.RowKit
def zuJ (w1:World) (f:List Ex→Nat) (sub:List Ex) (n i:Value) (wr:World):Prop:=∃ j:Nat,j≤sub.length∧i = .int .i64 j∧n = .int .i64 (f (sub.take j):Nat)∧Below w1.heap.size w1 wr
theorem zvF (N:Nat):∀ (k:Int) (nm mr:ByteArray) (it d:Int) (sub:List Ex) (sv:Value) (w:World),nodesL sub<N→nodesL sub≤1099511627776→zbb w w.heap.size sub sv →
  Calls Tryz.prog 208 #[.agg #[.int .i64 k,.string nm,.string mr,.int .i64 it,.int .i64 d,sv]] w fun e w'=>e = .returned (.int .i64 (nodesL sub+1:Nat))∧Below w.heap.size w w':=by
 induction N with
 | zero=>intro k nm mr it d sub sv w hN;omega
 | succ N ih=>
  intro k nm mr it d sub sv w hN hm hs
  have hl:=zC sub
  obtain⟨p,cap,rfl,hcap,_⟩:=zcE hs
  have HS:=Lib.hid hs
  have HIH:=Lib.hid ih
  clear hs ih
  obtain⟨w1,hw1,hX⟩:=zxZ w #[.int .i64 k,.string nm,.string mr,.int .i64 it,.int .i64 d,.slice p sub.length cap] 105
  have HW:=Lib.hid hw1
  have hsz:=hX.size
  have HB0:=Lib.hid hX.below
  have hc5:w1.cell? ⟨w.heap.size,5,none⟩=some (.slice p sub.length cap):=hX.cell 5 (by simp)
  have HX:=Lib.hid hX
  clear hX hw1
  go_enter Tryz.func208,Tryz.ntmps208
  go_wp2_with fail
  rw [HW.out]
  go_loopw [3,4] (fun n i wr=>zuJ w1 (fun l=>nodesL l+1) sub n i wr) (fun _ i _=>sub.length - (intOf i).toNat)
  case atStart=>exact⟨0,by omega,rfl,rfl,Below.refl _ _⟩
  case round=>
   obtain⟨j,hj,rfl,rfl,hBr⟩:=hrel
   have hcr:=(hBr.cell (p:=⟨w.heap.size,5,none⟩) hsz).trans hc5
   have hcc:=Lib.hid hc5
   have htk:=znO sub j
   have hbd:=hm
   clear hc5
   by_cases hlt:j<sub.length
   ·have hbw:Below w.heap.size w wr:=HB0.out.trans (hBr.mono (by omega))
    obtain⟨b,off,cv,rfl,g0,g1,g2,g3,g4,g5,g6⟩:=zsx HS.out hbw j hlt
    have hn1:=zam sub j hlt
    have hn2:=zcs sub[j]
    have hC:=Lib.hid (HIH.out sub[j].kind sub[j].name sub[j].more sub[j].int sub[j].den sub[j].sub cv wr (by omega) (by omega) g6)
    have HT:=Lib.hid (zkw sub j hlt)
    rw [hn2] at HT
    have hn3:nodesL sub[j].sub+1≤nodesL sub:=by omega
    clear g6 hn1 hn2
    go_wp2_with (go_at_call 208;refine(hC.out).mono ?_;rintro e w' ⟨rfl,hb1⟩)
    go_roundw
    case rel=>exact⟨j+1,by omega,by go_num,by simp only [];rw [HT.out];go_num,hBr.trans (hb1.mono hBr.size)⟩
    case measure=>simp [intOf];omega
   ·obtain rfl:j=sub.length:=by omega
    go_wp2_with fail
    go_ret
    exact⟨by simp [List.take_length],HB0.out.trans (hBr.mono (by omega))⟩
theorem zvI (N:Nat):∀ (k:Int) (nm mr:ByteArray) (it d:Int) (sub:List Ex) (sv:Value) (w:World),nodesL sub<N→nodesL sub≤1099511627776→zbb w w.heap.size sub sv →
  Calls Tryz.prog 266 #[.agg #[.int .i64 k,.string nm,.string mr,.int .i64 it,.int .i64 d,sv]] w fun e w'=>e = .returned (.int .i64 (depthL sub+1:Nat))∧Below w.heap.size w w':=by
 induction N with
 | zero=>intro k nm mr it d sub sv w hN;omega
 | succ N ih=>
  intro k nm mr it d sub sv w hN hm hs
  have hl:=zC sub
  obtain⟨p,cap,rfl,hcap,_⟩:=zcE hs
  have HS:=Lib.hid hs
  have HIH:=Lib.hid ih
  clear hs ih
  obtain⟨w1,hw1,hX⟩:=zxZ w #[.int .i64 k,.string nm,.string mr,.int .i64 it,.int .i64 d,.slice p sub.length cap] 105
  have HW:=Lib.hid hw1
  have hsz:=hX.size
  have HB0:=Lib.hid hX.below
  have hc5:w1.cell? ⟨w.heap.size,5,none⟩=some (.slice p sub.length cap):=hX.cell 5 (by simp)
  have HX:=Lib.hid hX
  clear hX hw1
  go_enter Tryz.func266,Tryz.ntmps266
  go_wp2_with fail
  rw [HW.out]
  go_loopw [3,4] (fun n i wr=>zuJ w1 (fun l=>depthL l) sub n i wr) (fun _ i _=>sub.length - (intOf i).toNat)
  case atStart=>exact⟨0,by omega,rfl,rfl,Below.refl _ _⟩
  case round=>
   obtain⟨j,hj,rfl,rfl,hBr⟩:=hrel
   have hcr:=(hBr.cell (p:=⟨w.heap.size,5,none⟩) hsz).trans hc5
   have hcc:=Lib.hid hc5
   have htk:=zou sub j
   have hbd:=zhU sub
   clear hc5
   by_cases hlt:j<sub.length
   ·have hbw:Below w.heap.size w wr:=HB0.out.trans (hBr.mono (by omega))
    obtain⟨b,off,cv,rfl,g0,g1,g2,g3,g4,g5,g6⟩:=zsx HS.out hbw j hlt
    have hn1:=zam sub j hlt
    have hn2:=zcs sub[j]
    have hC:=Lib.hid (HIH.out sub[j].kind sub[j].name sub[j].more sub[j].int sub[j].den sub[j].sub cv wr (by omega) (by omega) g6)
    have HT:=Lib.hid (zkP sub j hlt)
    rw [zqt] at HT
    have hn3:depthL sub[j].sub≤nodesL sub[j].sub:=zhU _
    have hn4:nodesL sub[j].sub+1≤nodesL sub:=by omega
    clear g6 hn1 hn2
    go_wp2_with (go_at_call 266;refine(hC.out).mono ?_;rintro e w' ⟨rfl,hb1⟩)
    go_roundw
    case rel=>exact⟨j+1,by omega,by go_num,by simp only [];rw [HT.out];go_num,hBr.trans (hb1.mono hBr.size)⟩
    case measure=>simp [intOf];omega
   ·obtain rfl:j=sub.length:=by omega
    go_wp2_with fail
    go_ret
    exact⟨by simp [List.take_length],HB0.out.trans (hBr.mono (by omega))⟩
end
section
open Go.RowKit
def zol (t:Ex):Bool:=decide (40<nodesE t) || zjA t
end
section
open Go.RowKit
def zwU (w:World) (v:Value) (l:List ByteArray):Prop:=
 ∃ (p:Option Addr) (cap:Nat),v = .slice p l.length cap∧l.length≤cap∧∀ i (h:i<l.length),∃ b off,p=some ⟨b,off,none⟩∧b<w.heap.size∧w.cell? ⟨b,off+i,none⟩=some (.string l[i])
def zgs (l:List ByteArray) (s:ByteArray):Bool:=l.any fun x=>decide (x=s)
theorem zEg {l:List ByteArray} {s:ByteArray} {j:Nat} (h:j<l.length) (he:l[j]=s):zgs l s=true:=by
 rw [zgs,List.any_eq_true];exact⟨l[j],List.getElem_mem h,by simpa using he⟩
theorem zxN {l:List ByteArray} {s:ByteArray} (h:∀ i (hi:i<l.length),l[i]≠s):zgs l s=false:=by
 rw [zgs,List.any_eq_false];intro x hx
 obtain⟨i,hi,rfl⟩:=List.getElem_of_mem hx
 simpa using h i hi
theorem zAS (l:List ByteArray) (s:ByteArray) (v:Value) (w:World) (hl:l.length≤1099511627776) (hv:zwU w v l) :
  Calls Tryz.prog 228 #[v,.string s] w fun e w'=>e = .returned (.bool (zgs l s))∧w=w':=by
 obtain⟨p,cap,rfl,hc,hk⟩:=hv
 have HK:=Lib.hid hk
 clear hk
 go_enter Tryz.func228,Tryz.ntmps228
 go_wp2_with fail
 go_loop [5] (fun i=>∃ j:Nat,j≤l.length∧i = .int .i64 j∧Hid (∀ i (hi:i<l.length),i<j→l[i]≠s)) (fun i=>l.length - (intOf i).toNat)
 case atStart=>exact⟨0,by omega,rfl,Lib.hid (fun i _ h=>absurd h (by omega))⟩
 case round=>
  obtain⟨j,hj,rfl,HP⟩:=hrel
  by_cases hlt:j<l.length
  ·obtain⟨b,off,rfl,_,hc⟩:=HK.out j hlt
   by_cases he:l[j]=s
   ·have HF:=Lib.hid (zEg hlt he)
    rw [he] at hc
    clear he
    go_wp2_with fail
    go_ret
    exact⟨by rw [HF.out];rfl,rfl⟩
   ·have HE:=Lib.hid he
    have f2:(l[j].toList == s.toList)=false:=(Lib.bytes_beq_false_iff _ _).2 he
    clear he
    go_wp2_with fail
    go_round
    case rel=>exact⟨j+1,by omega,by go_num,Lib.hid (fun i hi h=>by
     rcases Nat.lt_or_ge i j with h1 | h1
     ·exact HP.out i hi h1
     ·obtain rfl:i=j:=by omega
      exact HE.out)⟩
    case measure=>simp [intOf];omega
  ·have HF:=Lib.hid (zxN (l:=l) (s:=s) (fun i hi=>HP.out i hi (by omega)))
   go_wp2_with fail
   go_ret
   exact⟨by rw [HF.out];rfl,rfl⟩
def zbX:List ByteArray:=[⟨#[99,97,115,101]⟩,⟨#[99,104,97,110,99,101]⟩,⟨#[99,111,110,102,108,105,99,116]⟩,⟨#[101,108,115,101]⟩,⟨#[102,97,108,115,101]⟩,⟨#[102,108,97,107,121]⟩,⟨#[102,117,110]⟩,⟨#[105,102]⟩,⟨#[105,110]⟩,⟨#[108,101,116]⟩,⟨#[110,105,108]⟩,⟨#[111,102]⟩,⟨#[112,117,98]⟩,⟨#[116,101,115,116]⟩,⟨#[116,104,101,110]⟩,⟨#[116,114,117,101]⟩,⟨#[117,115,101]⟩]
theorem zuZ (w:World) (T:TypeId) (l:List ByteArray):zwU (w.alloc (.cells (l.map Value.string).toArray T)) (.slice (some ⟨w.heap.size,0,none⟩) l.length l.length) l:=
 ⟨_,_,rfl,Nat.le_refl _,fun i h=>⟨w.heap.size,0,rfl,by simp,by simp [go_sem,h]⟩⟩
theorem zoZ (w:World) :
  Calls Tryz.prog 229 #[] w fun e w'=>∃ v,e = .returned v∧Below w.heap.size w w'∧zwU w' v zbX:=by
 go_enter Tryz.func229,Tryz.ntmps229
 go_wp2_with fail
 go_ret
 exact⟨_,rfl,(Below.refl _ _).alloc (Nat.le_refl _) _,zuZ w 9 zbX⟩
def zI (s:ByteArray):Bool:=zaA 24 s.data.toList && !zgs zbX s
theorem zyU (s:ByteArray) (w:World) :
  Calls Tryz.prog 148 #[.string s] w fun e w'=>e = .returned (.bool (zI s))∧Below w.heap.size w w':=by
 cases hw:zaA 24 s.data.toList
 ·have HR:=Lib.hid (zpG s w)
  rw [hw] at HR
  have HE:Hid (zI s=false):=Lib.hid (by simp [zI,hw])
  clear hw
  go_enter Tryz.func148,Tryz.ntmps148
  go_wp2_with (go_at_call 227;refine(HR.out).mono ?_;rintro e w' ⟨rfl,rfl⟩)
  go_ret
  exact⟨by rw [HE.out];rfl,Below.refl _ _⟩
 ·have HR:=Lib.hid (zpG s w)
  rw [hw] at HR
  have HE:Hid (zI s = !zgs zbX s):=Lib.hid (by simp [zI,hw])
  clear hw
  go_enter Tryz.func148,Tryz.ntmps148
  go_wp2_with (first
   | (go_at_call 227;refine(HR.out).mono ?_;rintro e w' ⟨rfl,rfl⟩)
   | (go_at_call 229;refine(zoZ _).mono ?_;rintro e w1 ⟨v,rfl,hb,hst⟩)
   | (go_at_call 228;refine(zAS zbX s v _ (by decide) hst).mono ?_;rintro e w' ⟨rfl,rfl⟩))
  go_ret
  exact⟨by rw [HE.out];rfl,hb⟩
end
section
open Go.RowKit
def zaU (k:Int):Option (Nat × Nat × Nat):=
 if k=1 then some (0,1,0) else
 if k=2 then some (0,1,0) else
 if k=3 then some (1,0,0) else
 if k=4 then some (2,0,0) else
 if k=5 then some (1,1,0) else
 if k=6 then some (1,0,1) else
 if k=7 then some (0,0,2) else
 if k=8 then some (1,0,2) else
 if k=9 then some (0,0,3) else
 if k=10 then some (1,0,2) else
 if k=11 then some (0,0,0) else
 if k=12 then some (0,0,2) else
 if k=13 then some (2,0,3) else
 if k=14 then some (0,2,0) else
 if k=15 then some (0,0,3) else
 none
theorem zdX {k:Int} {s:Nat × Nat × Nat} (h:zaU k=some s):(k=1∧s=(0,1,0))∨(k=2∧s=(0,1,0))∨(k=3∧s=(1,0,0))∨(k=4∧s=(2,0,0))∨(k=5∧s=(1,1,0))∨(k=6∧s=(1,0,1))∨(k=7∧s=(0,0,2))∨(k=8∧s=(1,0,2))∨(k=9∧s=(0,0,3))∨(k=10∧s=(1,0,2))∨(k=11∧s=(0,0,0))∨(k=12∧s=(0,0,2))∨(k=13∧s=(2,0,3))∨(k=14∧s=(0,2,0))∨(k=15∧s=(0,0,3)):=by
 unfold zaU at h
 by_cases e1:k=1
 ·rw [if_pos e1] at h;exact .inl ⟨e1,(Option.some.inj h).symm⟩
 rw [if_neg e1] at h
 by_cases e2:k=2
 ·rw [if_pos e2] at h;exact .inr (.inl ⟨e2,(Option.some.inj h).symm⟩)
 rw [if_neg e2] at h
 by_cases e3:k=3
 ·rw [if_pos e3] at h;exact .inr (.inr (.inl ⟨e3,(Option.some.inj h).symm⟩))
 rw [if_neg e3] at h
 by_cases e4:k=4
 ·rw [if_pos e4] at h;exact .inr (.inr (.inr (.inl ⟨e4,(Option.some.inj h).symm⟩)))
 rw [if_neg e4] at h
 by_cases e5:k=5
 ·rw [if_pos e5] at h;exact .inr (.inr (.inr (.inr (.inl ⟨e5,(Option.some.inj h).symm⟩))))
 rw [if_neg e5] at h
 by_cases e6:k=6
 ·rw [if_pos e6] at h;exact .inr (.inr (.inr (.inr (.inr (.inl ⟨e6,(Option.some.inj h).symm⟩)))))
 rw [if_neg e6] at h
 by_cases e7:k=7
 ·rw [if_pos e7] at h;exact .inr (.inr (.inr (.inr (.inr (.inr (.inl ⟨e7,(Option.some.inj h).symm⟩))))))
 rw [if_neg e7] at h
 by_cases e8:k=8
 ·rw [if_pos e8] at h;exact .inr (.inr (.inr (.inr (.inr (.inr (.inr (.inl ⟨e8,(Option.some.inj h).symm⟩)))))))
 rw [if_neg e8] at h
 by_cases e9:k=9
 ·rw [if_pos e9] at h;exact .inr (.inr (.inr (.inr (.inr (.inr (.inr (.inr (.inl ⟨e9,(Option.some.inj h).symm⟩))))))))
 rw [if_neg e9] at h
 by_cases e10:k=10
 ·rw [if_pos e10] at h;exact .inr (.inr (.inr (.inr (.inr (.inr (.inr (.inr (.inr (.inl ⟨e10,(Option.some.inj h).symm⟩)))))))))
 rw [if_neg e10] at h
 by_cases e11:k=11
 ·rw [if_pos e11] at h;exact .inr (.inr (.inr (.inr (.inr (.inr (.inr (.inr (.inr (.inr (.inl ⟨e11,(Option.some.inj h).symm⟩))))))))))
 rw [if_neg e11] at h
 by_cases e12:k=12
 ·rw [if_pos e12] at h;exact .inr (.inr (.inr (.inr (.inr (.inr (.inr (.inr (.inr (.inr (.inr (.inl ⟨e12,(Option.some.inj h).symm⟩)))))))))))
 rw [if_neg e12] at h
 by_cases e13:k=13
 ·rw [if_pos e13] at h;exact .inr (.inr (.inr (.inr (.inr (.inr (.inr (.inr (.inr (.inr (.inr (.inr (.inl ⟨e13,(Option.some.inj h).symm⟩))))))))))))
 rw [if_neg e13] at h
 by_cases e14:k=14
 ·rw [if_pos e14] at h;exact .inr (.inr (.inr (.inr (.inr (.inr (.inr (.inr (.inr (.inr (.inr (.inr (.inr (.inl ⟨e14,(Option.some.inj h).symm⟩)))))))))))))
 rw [if_neg e14] at h
 by_cases e15:k=15
 ·rw [if_pos e15] at h;exact .inr (.inr (.inr (.inr (.inr (.inr (.inr (.inr (.inr (.inr (.inr (.inr (.inr (.inr (⟨e15,(Option.some.inj h).symm⟩))))))))))))))
 rw [if_neg e15] at h
 cases h
theorem zsK {k:Int} (h:zaU k=none):(k == 1)=false∧(k == 2)=false∧(k == 3)=false∧(k == 4)=false∧(k == 5)=false∧(k == 6)=false∧(k == 7)=false∧(k == 8)=false∧(k == 9)=false∧(k == 10)=false∧(k == 11)=false∧(k == 12)=false∧(k == 13)=false∧(k == 14)=false∧(k == 15)=false:=by
 unfold zaU at h
 by_cases e1:k=1
 ·rw [if_pos e1] at h;cases h
 rw [if_neg e1] at h
 by_cases e2:k=2
 ·rw [if_pos e2] at h;cases h
 rw [if_neg e2] at h
 by_cases e3:k=3
 ·rw [if_pos e3] at h;cases h
 rw [if_neg e3] at h
 by_cases e4:k=4
 ·rw [if_pos e4] at h;cases h
 rw [if_neg e4] at h
 by_cases e5:k=5
 ·rw [if_pos e5] at h;cases h
 rw [if_neg e5] at h
 by_cases e6:k=6
 ·rw [if_pos e6] at h;cases h
 rw [if_neg e6] at h
 by_cases e7:k=7
 ·rw [if_pos e7] at h;cases h
 rw [if_neg e7] at h
 by_cases e8:k=8
 ·rw [if_pos e8] at h;cases h
 rw [if_neg e8] at h
 by_cases e9:k=9
 ·rw [if_pos e9] at h;cases h
 rw [if_neg e9] at h
 by_cases e10:k=10
 ·rw [if_pos e10] at h;cases h
 rw [if_neg e10] at h
 by_cases e11:k=11
 ·rw [if_pos e11] at h;cases h
 rw [if_neg e11] at h
 by_cases e12:k=12
 ·rw [if_pos e12] at h;cases h
 rw [if_neg e12] at h
 by_cases e13:k=13
 ·rw [if_pos e13] at h;cases h
 rw [if_neg e13] at h
 by_cases e14:k=14
 ·rw [if_pos e14] at h;cases h
 rw [if_neg e14] at h
 by_cases e15:k=15
 ·rw [if_pos e15] at h;cases h
 rw [if_neg e15] at h
 exact⟨by simpa using e1,by simpa using e2,by simpa using e3,by simpa using e4,by simpa using e5,by simpa using e6,by simpa using e7,by simpa using e8,by simpa using e9,by simpa using e10,by simpa using e11,by simpa using e12,by simpa using e13,by simpa using e14,by simpa using e15⟩
theorem zvm (w:World):Calls Tryz.prog 259 #[.int .i64 1] w fun e w'=>e = .returned (.tuple #[.agg #[.int .i64 0,.int .i64 1,.int .i64 0],.bool true])∧Below w.heap.size w w':=by
 go_enter Tryz.func259,Tryz.ntmps259
 go_wp2_with fail
 exact bodyPost_ret (v:=.tuple #[.agg #[.int .i64 0,.int .i64 1,.int .i64 0],.bool true]) (by simp [results,Tryz.results259,go_sem]) rfl ⟨rfl,(Below.refl _ _).alloc (Nat.le_refl _) _⟩
theorem zvl (w:World):Calls Tryz.prog 259 #[.int .i64 2] w fun e w'=>e = .returned (.tuple #[.agg #[.int .i64 0,.int .i64 1,.int .i64 0],.bool true])∧Below w.heap.size w w':=by
 go_enter Tryz.func259,Tryz.ntmps259
 go_wp2_with fail
 exact bodyPost_ret (v:=.tuple #[.agg #[.int .i64 0,.int .i64 1,.int .i64 0],.bool true]) (by simp [results,Tryz.results259,go_sem]) rfl ⟨rfl,(Below.refl _ _).alloc (Nat.le_refl _) _⟩
theorem zvk (w:World):Calls Tryz.prog 259 #[.int .i64 3] w fun e w'=>e = .returned (.tuple #[.agg #[.int .i64 1,.int .i64 0,.int .i64 0],.bool true])∧Below w.heap.size w w':=by
 go_enter Tryz.func259,Tryz.ntmps259
 go_wp2_with fail
 exact bodyPost_ret (v:=.tuple #[.agg #[.int .i64 1,.int .i64 0,.int .i64 0],.bool true]) (by simp [results,Tryz.results259,go_sem]) rfl ⟨rfl,(Below.refl _ _).alloc (Nat.le_refl _) _⟩
theorem zvj (w:World):Calls Tryz.prog 259 #[.int .i64 4] w fun e w'=>e = .returned (.tuple #[.agg #[.int .i64 2,.int .i64 0,.int .i64 0],.bool true])∧Below w.heap.size w w':=by
 go_enter Tryz.func259,Tryz.ntmps259
 go_wp2_with fail
 exact bodyPost_ret (v:=.tuple #[.agg #[.int .i64 2,.int .i64 0,.int .i64 0],.bool true]) (by simp [results,Tryz.results259,go_sem]) rfl ⟨rfl,(Below.refl _ _).alloc (Nat.le_refl _) _⟩
theorem zvi (w:World):Calls Tryz.prog 259 #[.int .i64 5] w fun e w'=>e = .returned (.tuple #[.agg #[.int .i64 1,.int .i64 1,.int .i64 0],.bool true])∧Below w.heap.size w w':=by
 go_enter Tryz.func259,Tryz.ntmps259
 go_wp2_with fail
 exact bodyPost_ret (v:=.tuple #[.agg #[.int .i64 1,.int .i64 1,.int .i64 0],.bool true]) (by simp [results,Tryz.results259,go_sem]) rfl ⟨rfl,(Below.refl _ _).alloc (Nat.le_refl _) _⟩
theorem zvh (w:World):Calls Tryz.prog 259 #[.int .i64 6] w fun e w'=>e = .returned (.tuple #[.agg #[.int .i64 1,.int .i64 0,.int .i64 1],.bool true])∧Below w.heap.size w w':=by
 go_enter Tryz.func259,Tryz.ntmps259
 go_wp2_with fail
 exact bodyPost_ret (v:=.tuple #[.agg #[.int .i64 1,.int .i64 0,.int .i64 1],.bool true]) (by simp [results,Tryz.results259,go_sem]) rfl ⟨rfl,(Below.refl _ _).alloc (Nat.le_refl _) _⟩
theorem zvg (w:World):Calls Tryz.prog 259 #[.int .i64 7] w fun e w'=>e = .returned (.tuple #[.agg #[.int .i64 0,.int .i64 0,.int .i64 2],.bool true])∧Below w.heap.size w w':=by
 go_enter Tryz.func259,Tryz.ntmps259
 go_wp2_with fail
 exact bodyPost_ret (v:=.tuple #[.agg #[.int .i64 0,.int .i64 0,.int .i64 2],.bool true]) (by simp [results,Tryz.results259,go_sem]) rfl ⟨rfl,(Below.refl _ _).alloc (Nat.le_refl _) _⟩
theorem zvf (w:World):Calls Tryz.prog 259 #[.int .i64 8] w fun e w'=>e = .returned (.tuple #[.agg #[.int .i64 1,.int .i64 0,.int .i64 2],.bool true])∧Below w.heap.size w w':=by
 go_enter Tryz.func259,Tryz.ntmps259
 go_wp2_with fail
 exact bodyPost_ret (v:=.tuple #[.agg #[.int .i64 1,.int .i64 0,.int .i64 2],.bool true]) (by simp [results,Tryz.results259,go_sem]) rfl ⟨rfl,(Below.refl _ _).alloc (Nat.le_refl _) _⟩
theorem zve (w:World):Calls Tryz.prog 259 #[.int .i64 9] w fun e w'=>e = .returned (.tuple #[.agg #[.int .i64 0,.int .i64 0,.int .i64 3],.bool true])∧Below w.heap.size w w':=by
 go_enter Tryz.func259,Tryz.ntmps259
 go_wp2_with fail
 exact bodyPost_ret (v:=.tuple #[.agg #[.int .i64 0,.int .i64 0,.int .i64 3],.bool true]) (by simp [results,Tryz.results259,go_sem]) rfl ⟨rfl,(Below.refl _ _).alloc (Nat.le_refl _) _⟩
theorem zsE (w:World):Calls Tryz.prog 259 #[.int .i64 10] w fun e w'=>e = .returned (.tuple #[.agg #[.int .i64 1,.int .i64 0,.int .i64 2],.bool true])∧Below w.heap.size w w':=by
 go_enter Tryz.func259,Tryz.ntmps259
 go_wp2_with fail
 exact bodyPost_ret (v:=.tuple #[.agg #[.int .i64 1,.int .i64 0,.int .i64 2],.bool true]) (by simp [results,Tryz.results259,go_sem]) rfl ⟨rfl,(Below.refl _ _).alloc (Nat.le_refl _) _⟩
theorem zsD (w:World):Calls Tryz.prog 259 #[.int .i64 11] w fun e w'=>e = .returned (.tuple #[.agg #[.int .i64 0,.int .i64 0,.int .i64 0],.bool true])∧Below w.heap.size w w':=by
 go_enter Tryz.func259,Tryz.ntmps259
 go_wp2_with fail
 exact bodyPost_ret (v:=.tuple #[.agg #[.int .i64 0,.int .i64 0,.int .i64 0],.bool true]) (by simp [results,Tryz.results259,go_sem]) rfl ⟨rfl,(Below.refl _ _).alloc (Nat.le_refl _) _⟩
theorem zsC (w:World):Calls Tryz.prog 259 #[.int .i64 12] w fun e w'=>e = .returned (.tuple #[.agg #[.int .i64 0,.int .i64 0,.int .i64 2],.bool true])∧Below w.heap.size w w':=by
 go_enter Tryz.func259,Tryz.ntmps259
 go_wp2_with fail
 exact bodyPost_ret (v:=.tuple #[.agg #[.int .i64 0,.int .i64 0,.int .i64 2],.bool true]) (by simp [results,Tryz.results259,go_sem]) rfl ⟨rfl,(Below.refl _ _).alloc (Nat.le_refl _) _⟩
theorem zsB (w:World):Calls Tryz.prog 259 #[.int .i64 13] w fun e w'=>e = .returned (.tuple #[.agg #[.int .i64 2,.int .i64 0,.int .i64 3],.bool true])∧Below w.heap.size w w':=by
 go_enter Tryz.func259,Tryz.ntmps259
 go_wp2_with fail
 exact bodyPost_ret (v:=.tuple #[.agg #[.int .i64 2,.int .i64 0,.int .i64 3],.bool true]) (by simp [results,Tryz.results259,go_sem]) rfl ⟨rfl,(Below.refl _ _).alloc (Nat.le_refl _) _⟩
theorem zsA (w:World):Calls Tryz.prog 259 #[.int .i64 14] w fun e w'=>e = .returned (.tuple #[.agg #[.int .i64 0,.int .i64 2,.int .i64 0],.bool true])∧Below w.heap.size w w':=by
 go_enter Tryz.func259,Tryz.ntmps259
 go_wp2_with fail
 exact bodyPost_ret (v:=.tuple #[.agg #[.int .i64 0,.int .i64 2,.int .i64 0],.bool true]) (by simp [results,Tryz.results259,go_sem]) rfl ⟨rfl,(Below.refl _ _).alloc (Nat.le_refl _) _⟩
theorem zsz (w:World):Calls Tryz.prog 259 #[.int .i64 15] w fun e w'=>e = .returned (.tuple #[.agg #[.int .i64 0,.int .i64 0,.int .i64 3],.bool true])∧Below w.heap.size w w':=by
 go_enter Tryz.func259,Tryz.ntmps259
 go_wp2_with fail
 exact bodyPost_ret (v:=.tuple #[.agg #[.int .i64 0,.int .i64 0,.int .i64 3],.bool true]) (by simp [results,Tryz.results259,go_sem]) rfl ⟨rfl,(Below.refl _ _).alloc (Nat.le_refl _) _⟩
theorem zsy (k:Int) (w:World) (h:zaU k=none):Calls Tryz.prog 259 #[.int .i64 k] w fun e w'=>e = .returned (.tuple #[.agg #[.int .i64 0,.int .i64 0,.int .i64 0],.bool false])∧Below w.heap.size w w':=by
 obtain⟨e1,e2,e3,e4,e5,e6,e7,e8,e9,e10,e11,e12,e13,e14,e15⟩:=zsK h
 clear h
 go_enter Tryz.func259,Tryz.ntmps259
 go_wp2_with fail
 exact bodyPost_ret (v:=.tuple #[.agg #[.int .i64 0,.int .i64 0,.int .i64 0],.bool false]) (by simp [results,Tryz.results259,go_sem]) rfl ⟨rfl,(Below.refl _ _).alloc (Nat.le_refl _) _⟩
theorem zqQ (k:Int) (nn nu ns:Nat) (w:World) (h:zaU k=some (nn,nu,ns)):Calls Tryz.prog 259 #[.int .i64 k] w fun e w'=>e = .returned (.tuple #[.agg #[.int .i64 nn,.int .i64 nu,.int .i64 ns],.bool true])∧Below w.heap.size w w':=by
 rcases zdX h with⟨rfl,e⟩ | ⟨rfl,e⟩ | ⟨rfl,e⟩ | ⟨rfl,e⟩ | ⟨rfl,e⟩ | ⟨rfl,e⟩ | ⟨rfl,e⟩ | ⟨rfl,e⟩ | ⟨rfl,e⟩ | ⟨rfl,e⟩ | ⟨rfl,e⟩ | ⟨rfl,e⟩ | ⟨rfl,e⟩ | ⟨rfl,e⟩ | ⟨rfl,e⟩
 ·cases e;exact zvm w
 ·cases e;exact zvl w
 ·cases e;exact zvk w
 ·cases e;exact zvj w
 ·cases e;exact zvi w
 ·cases e;exact zvh w
 ·cases e;exact zvg w
 ·cases e;exact zvf w
 ·cases e;exact zve w
 ·cases e;exact zsE w
 ·cases e;exact zsD w
 ·cases e;exact zsC w
 ·cases e;exact zsB w
 ·cases e;exact zsA w
 ·cases e;exact zsz w
end
section
open Go.RowKit
def zao (k it d:Int):Bool:=
 if k=1 then decide (-999999999≤it) && decide (it≤999999999) else
 if k=2 then decide (it=0) || decide (it=1) else
 if k=5 then decide (1≤it) && decide (it≤999999) else
 if k=14 then decide (1≤d) && decide (d≤999999) && decide (0≤it) && decide (it≤d) else true
end
section
section
open Go.RowKit
theorem zk {k:IntKind} {a b:Int} (h:a=b):Ending.returned (.int k a) = .returned (.int k b):=by rw [h]
def zdp:List ByteArray:=[⟨#[43]⟩,⟨#[45]⟩,⟨#[42]⟩,⟨#[61]⟩,⟨#[60]⟩]
def zas (k:Int) (nm:ByteArray) (b0:Bool):Bool:=
 if k=5 then decide (nm.size=0) || zX nm.data.toList else if k=10 then zgs zdp nm else !b0 || zI nm
def zag (k:Int) (nm mr:ByteArray) (b0 b1:Bool):Bool:=(!b1 || zI mr) && zas k nm b0
def zaF (k it d:Int):Int:=if zao k it d then 0 else 2
theorem zbW {s:ByteArray} (h:s.size=0):s=⟨#[]⟩:=by
 apply ByteArray.ext;apply Array.eq_empty_of_size_eq_zero;exact h
theorem zbK {s:ByteArray} (h:¬ s.size=0):s.toList.isEmpty=false:=by
 rw [List.isEmpty_eq_false_iff,ByteArray.toList_eq];intro e;apply h
 have:s.data.toList.length=0:=by rw [e];rfl
 simpa using this
theorem zjj (k:Int) (nm mr:ByteArray) (it d:Int) (sv:Value) (w:World) :
  Calls Tryz.prog 261 #[.agg #[.int .i64 k,.string nm,.string mr,.int .i64 it,.int .i64 d,sv]] w fun e w'=>e = .returned (.int .i64 (zaF k it d))∧Below w.heap.size w w':=by
 by_cases h1:k=1
 ·subst h1
  skip
  go_enter Tryz.func261,Tryz.ntmps261
  go_wp2_with fail
  all_goals
   go_ret
   refine⟨?_,(Below.refl _ _).alloc (Nat.le_refl _) _⟩
   first
    | (refine zk (a:=0) ?_;unfold zaF;rw [if_pos];(go_light;(first | (simp_all [zao];done) | (simp_all [zao];omega))))
    | (refine zk (a:=2) ?_;unfold zaF;rw [if_neg];(go_light;(first | (simp_all [zao];done) | (simp_all [zao];omega))))
 by_cases h2:k=2
 ·subst h2
  clear h1
  go_enter Tryz.func261,Tryz.ntmps261
  go_wp2_with fail
  all_goals
   go_ret
   refine⟨?_,(Below.refl _ _).alloc (Nat.le_refl _) _⟩
   first
    | (refine zk (a:=0) ?_;unfold zaF;rw [if_pos];(go_light;(first | (simp_all [zao];done) | (simp_all [zao];omega))))
    | (refine zk (a:=2) ?_;unfold zaF;rw [if_neg];(go_light;(first | (simp_all [zao];done) | (simp_all [zao];omega))))
 by_cases h5:k=5
 ·subst h5
  clear h1 h2
  go_enter Tryz.func261,Tryz.ntmps261
  go_wp2_with fail
  all_goals
   go_ret
   refine⟨?_,(Below.refl _ _).alloc (Nat.le_refl _) _⟩
   first
    | (refine zk (a:=0) ?_;unfold zaF;rw [if_pos];(go_light;(first | (simp_all [zao];done) | (simp_all [zao];omega))))
    | (refine zk (a:=2) ?_;unfold zaF;rw [if_neg];(go_light;(first | (simp_all [zao];done) | (simp_all [zao];omega))))
 by_cases h14:k=14
 ·subst h14
  clear h1 h2 h5
  go_enter Tryz.func261,Tryz.ntmps261
  go_wp2_with fail
  all_goals
   go_ret
   refine⟨?_,(Below.refl _ _).alloc (Nat.le_refl _) _⟩
   first
    | (refine zk (a:=0) ?_;unfold zaF;rw [if_pos];(go_light;(first | (simp_all [zao];done) | (simp_all [zao];omega))))
    | (refine zk (a:=2) ?_;unfold zaF;rw [if_neg];(go_light;(first | (simp_all [zao];done) | (simp_all [zao];omega))))
 have HE:Hid (zao k it d=true):=Lib.hid (by simp [zao,h1,h2,h5,h14])
 have f1:(k == 1)=false:=by simpa using h1
 have f2:(k == 2)=false:=by simpa using h2
 have f3:(k == 5)=false:=by simpa using h5
 have f4:(k == 14)=false:=by simpa using h14
 clear h1 h2 h5 h14
 go_enter Tryz.func261,Tryz.ntmps261
 go_wp2_with fail
 go_ret
 exact⟨zk (a:=0) (by unfold zaF;rw [HE.out];rfl),(Below.refl _ _).alloc (Nat.le_refl _) _⟩
theorem zbq {s:ByteArray} {l:List UInt8} (h:¬ (⟨l.toArray⟩:ByteArray)=s):(s.toList == l)=false:=by
 have h1:¬ s.toList=l:=by
  rw [ByteArray.toList_eq];rintro rfl;exact h rfl
 simpa using h1
theorem znl {s:ByteArray} (h:zgs zbX s=true):s=⟨#[99,97,115,101]⟩∨s=⟨#[99,104,97,110,99,101]⟩∨s=⟨#[99,111,110,102,108,105,99,116]⟩∨s=⟨#[101,108,115,101]⟩∨s=⟨#[102,97,108,115,101]⟩∨s=⟨#[102,108,97,107,121]⟩∨s=⟨#[102,117,110]⟩∨s=⟨#[105,102]⟩∨s=⟨#[105,110]⟩∨s=⟨#[108,101,116]⟩∨s=⟨#[110,105,108]⟩∨s=⟨#[111,102]⟩∨s=⟨#[112,117,98]⟩∨s=⟨#[116,101,115,116]⟩∨s=⟨#[116,104,101,110]⟩∨s=⟨#[116,114,117,101]⟩∨s=⟨#[117,115,101]⟩:=by
 simp only [zgs,zbX,List.any_cons,List.any_nil,Bool.or_false,Bool.or_eq_true,decide_eq_true_eq] at h
 rcases h with h | h | h | h | h | h | h | h | h | h | h | h | h | h | h | h | h <;> subst h <;> simp
theorem zsV {s:ByteArray} (h:zgs zbX s=false):(s.toList == [99,97,115,101])=false∧(s.toList == [99,104,97,110,99,101])=false∧(s.toList == [99,111,110,102,108,105,99,116])=false∧(s.toList == [101,108,115,101])=false∧(s.toList == [102,97,108,115,101])=false∧(s.toList == [102,108,97,107,121])=false∧(s.toList == [102,117,110])=false∧(s.toList == [105,102])=false∧(s.toList == [105,110])=false∧(s.toList == [108,101,116])=false∧(s.toList == [110,105,108])=false∧(s.toList == [111,102])=false∧(s.toList == [112,117,98])=false∧(s.toList == [116,101,115,116])=false∧(s.toList == [116,104,101,110])=false∧(s.toList == [116,114,117,101])=false∧(s.toList == [117,115,101])=false:=by
 simp only [zgs,zbX,List.any_cons,List.any_nil,Bool.or_false,Bool.or_eq_false_iff,decide_eq_false_iff_not] at h
 obtain⟨h0,h1,h2,h3,h4,h5,h6,h7,h8,h9,h10,h11,h12,h13,h14,h15,h16⟩:=h
 exact⟨zbq h0,zbq h1,zbq h2,zbq h3,zbq h4,zbq h5,zbq h6,zbq h7,zbq h8,zbq h9,zbq h10,zbq h11,zbq h12,zbq h13,zbq h14,zbq h15,zbq h16⟩
theorem zkg (s:ByteArray) (w:World) :
  Calls Tryz.prog 257 #[.string s] w fun e w'=>e = .returned (.bool (zI s))∧Below w.heap.size w w':=by
 cases hr:zgs zbX s
 ·obtain⟨h0,h1,h2,h3,h4,h5,h6,h7,h8,h9,h10,h11,h12,h13,h14,h15,h16⟩:=zsV hr
  have HE:Hid (zI s=zaA 24 s.data.toList):=Lib.hid (by simp [zI,hr])
  clear hr
  go_enter Tryz.func257,Tryz.ntmps257
  go_wp2_with (first | (go_at_call 133;refine(zmx s _).mono ?_;rintro e w' ⟨rfl,hb⟩))
  go_ret
  exact⟨by rw [HE.out];rfl,hb⟩
 ·have HE:Hid (zI s=false):=Lib.hid (by simp [zI,hr])
  rcases znl hr with rfl | rfl | rfl | rfl | rfl | rfl | rfl | rfl | rfl | rfl | rfl | rfl | rfl | rfl | rfl | rfl | rfl
  all_goals
   clear hr
   go_enter Tryz.func257,Tryz.ntmps257
   go_wp2_with fail
   go_ret
   exact⟨by rw [HE.out];rfl,Below.refl _ _⟩
end
section
open Go.RowKit
theorem bcellE {W w1:World} (hb:Below W.heap.size W w1):(∀ b o,b<W.heap.size→w1.cell? ⟨b,o,none⟩=W.cell? ⟨b,o,none⟩)∧(∀ b o,b<W.heap.size→w1.frozen? ⟨b,o,none⟩=W.frozen? ⟨b,o,none⟩):=
 ⟨fun b o h=>hb.cell (p:=⟨b,o,none⟩) h,fun b o h=>hb.frozen (p:=⟨b,o,none⟩) h⟩
end
end
end Go.Proofs.YtpnjjmcimjlfkaaGreatDoor
