/- Texts of this proof, part 9: what the proof uses of them. -/
import Derived.Below
import Derived.Lib.Bytealg
import Derived.Lib.Strings
import Derived.Test.YtpnjjmcimjlfkaaGreatDoorProg
import Derived.WalkKit
import Derived.WalkSpells
import Derived.WalkLawsBesides
import Derived.Lib.Hide
import Derived.BigQuiet
import Derived.Deep.QuietTactic
import Derived.Test.YtpnjjmcimjlfkaaGreatDoorRah
import Derived.RangeFuncWrites
import Derived.RangeFuncBound
import Derived.RangeFuncCalls
import Derived.RangeFuncLeaves
import Derived.Shelf.Abstract
import Derived.Shelf.RegionOpen
import Derived.OwnWalkIn
import Derived.TacticsInMore
import Derived.LoopNIn
import Derived.LoopIn
import Derived.OneCell
set_option maxRecDepth 100000
set_option maxHeartbeats 64000000
namespace Go.Proofs.YtpnjjmcimjlfkaaGreatDoor
section
def zdg (c:Int):Bool:=decide (97<=c) && decide (c<=122)
def zes (c:Int):Bool:=decide (48<=c) && decide (c<=57)
def zfn (c:UInt8):Bool:=zdg (c.toNat:Int)
def zhv (c:UInt8):Bool:=zes (c.toNat:Int)
def zrr (c:UInt8):Bool:=zfn c || zhv c
def zcD (most:Nat) (l:List UInt8):Bool:=
 match l with
 | []=>false
 | c :: r=>decide (r.length+1<=most) && zfn c && r.all zrr
theorem ztO {most:Nat} {l:List UInt8} (h0:0<l.length) (h1:l.length<=most)
  (h:∀ j (hj:j<l.length),zfn l[j]=true\/(j≠0/\zhv l[j]=true)):zcD most l=true:=by
 cases l with
 | nil=>simp at h0
 | cons c r=>
  simp only [zcD,Bool.and_eq_true,decide_eq_true_eq,List.all_eq_true]
  refine⟨⟨by simpa using h1,?_⟩,fun x hx=>?_⟩
  ·have:=h 0 (by simp)
   simpa using this
  ·obtain⟨j,hj,rfl⟩:=List.getElem_of_mem hx
   have:=h (j+1) (by simpa using hj)
   simp only [List.getElem_cons_succ] at this
   unfold zrr
   rcases this with h | ⟨_,h⟩ <;> simp [h]
theorem zgW {most:Nat} {l:List UInt8} {j:Nat} (hj:j<l.length) (h1:zfn l[j]=false) (h2:j=0\/zhv l[j]=false):zcD most l=false:=by
 cases l with
 | nil=>rfl
 | cons c r=>
  cases j with
  | zero=>simp at h1;simp [zcD,h1]
  | succ j=>
   have hj':j<r.length:=by simpa using hj
   simp only [List.getElem_cons_succ] at h1 h2
   have h3:zhv r[j]=false:=by
    rcases h2 with h | h
    ·omega
    ·exact h
   have:r.all zrr=false:=by
    rw [List.all_eq_false]
    exact⟨r[j],List.getElem_mem _,by simp [zrr,h1,h3]⟩
   simp [zcD,this]
theorem zlR {most:Nat} {l:List UInt8} (h:most<l.length):zcD most l=false:=by
 cases l with
 | nil=>rfl
 | cons c r=>
  have:¬ (r.length+1<=most):=by simp at h;omega
  simp [zcD,this]
theorem zwX {most:Nat} {l:List UInt8} (h:l.length=0):zcD most l=false:=by
 cases l with
 | nil=>rfl
 | cons c r=>simp at h
def zcN:List UInt8->List (List UInt8)
 | []=>[[]]
 | c :: r=>if c == 47 then [] :: zcN r else match zcN r with
  | p :: ps=>(c :: p) :: ps
  | []=>[[c]]
def zbR (l:List UInt8):Bool:=decide (l.length<=90) && (zcN l).all (zcD 20)
theorem zsn {l:List UInt8} (h:Lib.indexByte l 47 = -1):zcN l=[l]:=by
 induction l with
 | nil=>rfl
 | cons c r ih=>
  unfold Lib.indexByte at h
  by_cases hc:(c == 47)=true
  ·simp [hc] at h
  ·rw [if_neg hc] at h
   by_cases hr:(Lib.indexByte r 47 == -1)=true
   ·have:=ih (by simpa using hr)
    rw [zcN,if_neg hc,this]
   ·rw [if_neg hr] at h
    have:=Lib.indexByte_ge r 47
    exfalso;apply hr;simp;omega
theorem zsm:∀ {l:List UInt8} {i:Nat},Lib.indexByte l 47=(i:Int)->i<l.length/\zcN l=l.take i :: zcN (l.drop (i+1)):=by
 intro l
 induction l with
 | nil=>intro i h;simp [Lib.indexByte] at h
 | cons c r ih=>
  intro i h
  unfold Lib.indexByte at h
  by_cases hc:(c == 47)=true
  ·rw [if_pos hc] at h
   obtain rfl:i=0:=by omega
   refine⟨by simp,?_⟩
   rw [zcN,if_pos hc];rfl
  ·rw [if_neg hc] at h
   by_cases hr:(Lib.indexByte r 47 == -1)=true
   ·rw [if_pos hr] at h;omega
   ·rw [if_neg hr] at h
    cases i with
    | zero=>have:=Lib.indexByte_ge r 47;exfalso;apply hr;simp;omega
    | succ i=>
     obtain⟨h1,h2⟩:=ih (i:=i) (by omega)
     refine⟨by simpa using h1,?_⟩
     rw [zcN,if_neg hc,h2]
     simp
end
section
open Go.RowKit
theorem zvh (c:Int) (w:World) (h:zdg c=true):Calls Tryz.prog 211 #[.int .i32 c] w fun e w'=>e = .returned (.bool true)/\w=w':=by
 obtain⟨h1,h2⟩:97<=c/\c<=122:=by simpa [zdg] using h
 clear h
 go_enter Tryz.func211,Tryz.ntmps211
 go_wp2
 go_ret
 exact⟨rfl,rfl⟩
theorem zfR (c:Int) (w:World) (h:zdg c=false):Calls Tryz.prog 211 #[.int .i32 c] w fun e w'=>e = .returned (.bool false)/\w=w':=by
 by_cases h1:97<=c
 ·have h2:¬ c<=122:=by simp [zdg] at h;omega
  clear h
  go_enter Tryz.func211,Tryz.ntmps211
  go_wp2
  go_ret
  exact⟨rfl,rfl⟩
 ·clear h
  go_enter Tryz.func211,Tryz.ntmps211
  go_wp2
  go_ret
  exact⟨rfl,rfl⟩
theorem digit_yes (c:Int) (w:World) (h:zes c=true):Calls Tryz.prog 212 #[.int .i32 c] w fun e w'=>e = .returned (.bool true)/\w=w':=by
 obtain⟨h1,h2⟩:48<=c/\c<=57:=by simpa [zes] using h
 clear h
 go_enter Tryz.func212,Tryz.ntmps212
 go_wp2
 go_ret
 exact⟨rfl,rfl⟩
theorem digit_no (c:Int) (w:World) (h:zes c=false):Calls Tryz.prog 212 #[.int .i32 c] w fun e w'=>e = .returned (.bool false)/\w=w':=by
 by_cases h1:48<=c
 ·have h2:¬ c<=57:=by simp [zes] at h;omega
  clear h
  go_enter Tryz.func212,Tryz.ntmps212
  go_wp2
  go_ret
  exact⟨rfl,rfl⟩
 ·clear h
  go_enter Tryz.func212,Tryz.ntmps212
  go_wp2
  go_ret
  exact⟨rfl,rfl⟩
theorem zlT (s:ByteArray):s.data.toList.length=s.size:=by simp
theorem zvM (w:World) (s:ByteArray) (p:Nat):Below w.heap.size w (w.iter s p):=(Below.refl _ _).alloc (Nat.le_refl _) _
theorem zto (s:ByteArray) (h:0<s.size):s.toList.isEmpty=false:=by
 rw [ByteArray.toList_eq]
 cases hl:s.data.toList with
 | nil=>have:=zlT s;rw [hl] at this;simp at this;omega
 | cons=>rfl
theorem zyu (s:ByteArray) (h:s.size=0):s.toList.isEmpty=true:=by
 rw [ByteArray.toList_eq]
 cases hl:s.data.toList with
 | nil=>rfl
 | cons=>have:=zlT s;rw [hl] at this;simp at this;omega
theorem zzf (s:ByteArray) (w:World) (h:s.size=0) :
  Calls Tryz.prog 133 #[.string s] w fun e w'=>e = .returned (.bool false)/\w=w':=by
 have h0:=zyu s h
 clear h
 go_enter Tryz.func133,Tryz.ntmps133
 go_wp2_with fail
 go_ret
 exact⟨rfl,rfl⟩
theorem zwW (s:ByteArray) (w:World) (h:24<s.size) :
  Calls Tryz.prog 133 #[.string s] w fun e w'=>e = .returned (.bool false)/\w=w':=by
 have h0:=zto s (by omega)
 go_enter Tryz.func133,Tryz.ntmps133
 go_wp2_with fail
 go_ret
 exact⟨rfl,rfl⟩
def ztN (l:List UInt8) (k:Nat):Prop:=∀ j (hj:j<l.length),j<k->zfn l[j]=true\/(j≠0/\zhv l[j]=true)
theorem zkL {s:ByteArray} {k:Nat} (hk:k<s.size) (h:ztN s.data.toList k) (h1:zfn s[k]=true\/(k≠0/\zhv s[k]=true)):ztN s.data.toList (k+1):=by
 intro j hj hlt
 rcases Nat.lt_or_ge j k with hh | hh
 ·exact h j hj hh
 ·obtain rfl:j=k:=by omega
  exact h1
theorem zwV (s:ByteArray) (w:World) (h1:s.size<=24) (h2:0<s.size) :
  Calls Tryz.prog 133 #[.string s] w fun e w'=>e = .returned (.bool (zcD 24 s.data.toList))/\∃ p,w.iter s p=w':=by
 have h0:=zto s h2
 have h24:decide (24<(s.size:Int))=false:=by simp;omega
 go_enter Tryz.func133,Tryz.ntmps133
 go_wp2_with fail
 go_loopw [3,4] (fun _ _ wr=>∃ pos:Nat,wr=w.iter s pos/\pos<=s.size/\ztN s.data.toList pos) (fun _ _ wr=>s.size - wr.iterPos w.heap.size)
 case atStart=>exact⟨0,rfl,by omega,fun j hj h=>absurd h (by omega)⟩
 case round=>
  obtain⟨pos,rfl,hle,hto⟩:=hrel
  by_cases hp:pos<s.size
  ·by_cases ha:(s[pos]'hp).toNat<128
   ·have hnx:∀ ty,(Instr.next (.pointer (some ⟨w.heap.size,0,none⟩)) true ty).run Tryz.prog (w.iter s pos)=_:=fun ty=>run_next_ascii w s pos ty hp ha
    cases hl:zdg ((s[pos]'hp).toNat:Int)
    ·by_cases hz:pos=0
     ·have hzb:((pos:Int) == 0)=true:=by simp [hz]
      have Hf:=Lib.hid (zgW (most:=24) (l:=s.data.toList) (j:=pos) (by simpa using hp) hl (.inl hz))
      clear hz
      go_wp2_with (first | (go_at_call 211;refine(zfR _ _ hl).mono ?_;rintro e w' ⟨rfl,rfl⟩))
      go_ret
      exact⟨by rw [Hf.out];rfl,_,rfl⟩
     ·have hzb:((pos:Int) == 0)=false:=by simp;omega
      cases hd:zes ((s[pos]'hp).toNat:Int)
      ·have Hf:=Lib.hid (zgW (most:=24) (l:=s.data.toList) (j:=pos) (by simpa using hp) hl (.inr hd))
       clear hz
       go_wp2_with (first | (go_at_call 211;refine(zfR _ _ hl).mono ?_;rintro e w' ⟨rfl,rfl⟩) | (go_at_call 212;refine(digit_no _ _ hd).mono ?_;rintro e w' ⟨rfl,rfl⟩))
       go_ret
       exact⟨by rw [Hf.out];rfl,_,rfl⟩
      ·go_wp2_with (first | (go_at_call 211;refine(zfR _ _ hl).mono ?_;rintro e w' ⟨rfl,rfl⟩) | (go_at_call 212;refine(digit_yes _ _ hd).mono ?_;rintro e w' ⟨rfl,rfl⟩))
       go_roundw
       case rel=>exact⟨pos+1,rfl,by omega,zkL hp hto (.inr ⟨hz,hd⟩)⟩
       case measure=>simp;omega
    ·go_wp2_with (first | (go_at_call 211;refine(zvh _ _ hl).mono ?_;rintro e w' ⟨rfl,rfl⟩))
     go_roundw
     case rel=>exact⟨pos+1,rfl,by omega,zkL hp hto (.inl hl)⟩
     case measure=>simp;omega
   ·have hdec:=decode_high s pos hp (by omega)
    obtain⟨hge,hw1⟩:=hdec
    have hle':=decode_le s pos
    have hl:zdg ((Utf8.decode s pos).1:Int)=false:=by simp [zdg];omega
    have hd:zes ((Utf8.decode s pos).1:Int)=false:=by simp [zes];omega
    have hlb:zfn (s[pos]'hp)=false:=by simp [zfn,zdg];omega
    have hdb:zhv (s[pos]'hp)=false:=by simp [zhv,zes];omega
    have Hf:=Lib.hid (zgW (most:=24) (l:=s.data.toList) (j:=pos) (by simpa using hp) hlb (.inr hdb))
    have hnx:∀ ty,(Instr.next (.pointer (some ⟨w.heap.size,0,none⟩)) true ty).run Tryz.prog (w.iter s pos)=_:=fun ty=>run_next_any w s pos ty hp
    clear hlb hdb
    by_cases hz:pos=0
    ·have hzb:((pos:Int) == 0)=true:=by simp [hz]
     clear hz
     go_wp2_with (first | (go_at_call 211;refine(zfR _ _ hl).mono ?_;rintro e w' ⟨rfl,rfl⟩))
     go_ret
     exact⟨by rw [Hf.out];rfl,_,rfl⟩
    ·have hzb:((pos:Int) == 0)=false:=by simp;omega
     clear hz
     go_wp2_with (first | (go_at_call 211;refine(zfR _ _ hl).mono ?_;rintro e w' ⟨rfl,rfl⟩) | (go_at_call 212;refine(digit_no _ _ hd).mono ?_;rintro e w' ⟨rfl,rfl⟩))
     go_ret
     exact⟨by rw [Hf.out];rfl,_,rfl⟩
  ·have hnx:∀ ty,(Instr.next (.pointer (some ⟨w.heap.size,0,none⟩)) true ty).run Tryz.prog (w.iter s pos)=_:=fun ty=>run_next_end w s pos ty hp
   go_wp2_with fail
   go_ret
   refine⟨?_,_,rfl⟩
   rw [ztO (by simpa using h2) (by simpa using h1) (fun j hj=>hto j hj (by simp at hj;omega))]
   rfl
theorem zlQ (s:ByteArray) (w:World) :
  Calls Tryz.prog 133 #[.string s] w fun e w'=>e = .returned (.bool (zcD 24 s.data.toList))/\Below w.heap.size w w':=by
 rcases Nat.eq_zero_or_pos s.size with h | h
 ·rw [zwX (by simpa using h)]
  exact(zzf s w h).mono fun e w' ⟨h1,h2⟩=>⟨h1,h2 ▸ Below.refl _ _⟩
 ·rcases Nat.lt_or_ge 24 s.size with h' | h'
  ·rw [zlR (by simpa using h')]
   exact(zwW s w h').mono fun e w' ⟨h1,h2⟩=>⟨h1,h2 ▸ Below.refl _ _⟩
  ·refine(zwV s w h' h).mono fun e w' ⟨h1,p,h2⟩=>⟨h1,h2 ▸ zvM w s p⟩
theorem zqQ (s:ByteArray) (a b:Nat):(s.extract a b).data.toList=(s.data.toList.drop a).take (b - a):=by
 rw [ByteArray.data_extract,Array.toList_extract,List.extract_eq_take_drop]
theorem zth (s:ByteArray) (a:Nat):(s.extract a s.size).data.toList=s.data.toList.drop a:=by
 rw [zqQ,List.take_of_length_le (by simp)]
theorem zqY (s:ByteArray) (c:UInt8) (w:World) :
  Calls Tryz.prog 289 #[.string s,.string ⟨#[c]⟩] w fun e w'=>e = .returned (.bool (decide ((0:Int)<=Lib.indexByte s.data.toList c)))/\w=w':=
 (Tryz.strings_Contains_one s c w).mono fun _ _ ⟨h1,h2⟩=>⟨h1,h2.symm⟩
end
section
open Go Go.RowKit
def zEi {α:Type} (F:Fence) (n:Nat) (P:Program) (g:Nat) (lb:Array Value) (encs:α->Array Value) (Kp R:World->World->Prop) (X:List α->α->Prop) (S Sp:List α->Prop) (W:World):Prop:=
 ∀ (l:Nat) (J Jx:List α->World->Prop),
  (∀ pre A B,J pre A->R A B->J pre B)->(∀ pre A B,Jx pre A->R A B->Jx pre B) ->
  (∀ pre x A,J pre A->X pre x->YieldAt F (n - 1) P l (encs x) A fun e B=>
   (e = .returned (.bool true)/\J (pre++[x]) B/\Kp A B)\/(e = .returned (.bool false)/\Jx (pre++[x]) B)) ->
  J [] W ->
  CallsIn F n P g (#[.func (.yield l) #[] #[]]++lb) W fun e B=>(∃ v,e = .returned v)/\((∃ xs,S xs/\J xs B)\/(∃ pre,Sp pre/\Jx pre B))
variable {F:Fence} {n:Nat} {P:Program}
theorem zcv {α:Type} {g:Operand} {ps:Array Tmp} {assign body:Code} {Q:Exit->Act->World->Prop} {a:Act} {w:World}
  (hro:F.round=none) (h1:1<=n) {gf:Nat} {lb:Array Value} (hg:a.eval g = .func (.func gf) #[] lb) (hFg:F.fn gf) (eg:∀ args w,(callFunc gf args).run P w = .ok (.enter gf args) w)
  {encs:α->Array Value} {Kp R:World->World->Prop} {X:List α->α->Prop} {S Sp:List α->Prop}
  (hseq:∀ r:Loop,zEi F (n - 1) P gf lb encs Kp R X S Sp ((w.alloc (.deferred (some []))).alloc (.loop r)))
  (hKt:∀ {A B C:World},Kp A B->Kp B C->Kp A C)
  (hKb:∀ (W:World) (l:Nat) (o o':Obj),w.heap.size<=l->W.heap[l]? = some o->o.isCells=false->Kp W (W.putObj l o'))
  (hR:∀ {A B:World},R A B->KeepsFrom w.heap.size A B) (hps:∀ x,(encs x).size=ps.size)
  (I:List α->World->Prop) (Ix:Code->List α->World->Prop) (hI:OwnFrom w.heap.size I) (hIx:∀ c,OwnFrom w.heap.size (Ix c))
  (hIR:∀ pre A B,I pre A->R A B->I pre B) (hIxR:∀ c pre A B,Ix c pre A->R A B->Ix c pre B) (h0:I [] w) (a₁:α->Act)
  (hassign:∀ (l:Nat) (x:α) (W:World) (K:Act->World->Prop),K (a₁ x) W ->
   assign.wpIn (F.inRound l) (n - 1 - 1) P (Exit.then K (fun _ _ _=>False)) { tmps:=(ps.zip (encs x)).foldl (fun t (p,v)=>t.setIfInBounds p v) a.tmps,defers:=[] } W)
  (hbody:∀ (l:Nat) (pre:List α) (x:α) (W:World),I pre W->X pre x->body.wpIn (F.inRound l) (n - 1 - 1) P (ownPostG w.heap.size Kp I Ix (pre++[x]) W) (a₁ x) W)
  (hdone:∀ (D:Nat) (xs:List α) (W:World),w.heap.size<=D->S xs->I xs W->W.heap[D]? = some (.deferred (some []))->Q .normal { a with defers:={ target:=.collected D,args:=#[] } :: a.defers } W)
  (hstop:∀ (D:Nat) (c:Code) (pre:List α) (W:World),w.heap.size<=D->Sp pre->Ix c pre W->W.heap[D]? = some (.deferred (some []))->c.wpIn F n P Q { a with defers:={ target:=.collected D,args:=#[] } :: a.defers } W) :
  (Code.rangeFunc g ps assign body).wpIn F n P Q a w:=by
 refine wpIn_rangeFunc ?_
 intro fn hfn
 rw [hro]
 -- the two blocks that the statement lays: one for the rounds' deferred calls,then the record of the loop
 obtain⟨rec,hrec⟩:∃ rec:LoopState->Option Code->Loop,rec=fun st pe=>{ state:=st,pending:=pe,fn,tmps:=a.tmps,params:=ps,assign,body,defers:=w.heap.size }:=⟨_,rfl⟩
 obtain⟨W1,hW1⟩:∃ W1,(w.alloc (.deferred (some []))).alloc (.loop (rec .ready none))=W1:=⟨_,rfl⟩
 have hL1:W1.heap[w.heap.size+1]? = some (.loop (rec .ready none)):=by
  have:=World.alloc_heap_new (w.alloc (.deferred (some []))) (.loop (rec .ready none))
  rw [World.size_alloc,hW1] at this
  exact this
 have hK1:W1.heap[w.heap.size]? = some (.deferred (some [])):=by
  rw [<- hW1];exact(Below.heap_alloc _ _ _ (by simp)).trans (World.alloc_heap_new w _)
 have hI1:I [] W1:=by rw [<- hW1];exact hI.alloc _ (hI.alloc _ h0)
 have hseq1:zEi F (n - 1) P gf lb encs Kp R X S Sp W1:=hW1 ▸ hseq (rec .ready none)
 refine⟨w.heap.size+1,[{ target:=.collected w.heap.size,args:=#[] }],W1,{ target:=.fn (.func gf) lb,args:=#[.func (.yield (w.heap.size+1)) #[] #[]] },W1,gf,
  #[.func (.yield (w.heap.size+1)) #[] #[]]++lb,W1,?_,?_,?_,?_,fun _=>h1,?_⟩
 ·rw [<- hW1,hrec];exact run_enterLoop_outer _ _ _ _ _
 ·simp only [resolve,hg]
  simp [go_sem]
 ·intro f' hf';simp [Target.leads] at hf';subst hf';exact hFg
 ·simp [invoke,go_sem,eg]
 ·refine(hseq1 (w.heap.size+1)
   (fun pre W=>I pre W/\W.heap[w.heap.size+1]? = some (.loop (rec .ready none))/\W.heap[w.heap.size]? = some (.deferred (some [])))
   (fun pre W=>∃ c,Ix c pre W/\W.heap[w.heap.size+1]? = some (.loop (rec .done (some c)))/\W.heap[w.heap.size]? = some (.deferred (some [])))
   (fun pre A B hs hr=>⟨hIR pre A B hs.1 hr,(hR hr).same _ _ (by omega) hs.2.1 rfl,(hR hr).same _ _ (Nat.le_refl _) hs.2.2 rfl⟩)
   (fun pre A B hs hr=>by
    obtain⟨c,hc,hl,hk⟩:=hs
    exact⟨c,hIxR c pre A B hc hr,(hR hr).same _ _ (by omega) hl rfl,(hR hr).same _ _ (Nat.le_refl _) hk rfl⟩)
   ?_ ⟨hI1,hL1,hK1⟩).mono ?_
  ·rintro pre x W ⟨hi,hl,hk⟩ hX
   have hlt:w.heap.size+1<W.heap.size:=(Array.getElem?_eq_some_iff.1 hl).1
   have hy:=run_yield (P:=P) (args:=encs x) hl (by rw [hrec];exact hps x)
   rw [hrec] at hy
   refine⟨fn,_,assign,body,hy,roundIn_of_wpIn hfn (hassign _ x W _ ⟨_,run_beginRound hl (by rw [hrec]),?_⟩)⟩
   have hl2:(W.putObj (w.heap.size+1) (.loop { rec .ready none with state:=.busy })).heap[w.heap.size+1]? = some (.loop { rec .ready none with state:=.busy }):=World.putObj_heap_same hlt
   have hk2:(W.putObj (w.heap.size+1) (.loop { rec .ready none with state:=.busy })).heap[w.heap.size]? = some (.deferred (some [])):=(World.putObj_heap_other (by omega)).trans hk
   have hw2:Kp W (W.putObj (w.heap.size+1) (.loop { rec .ready none with state:=.busy })):=hKb _ _ _ _ (by omega) hl rfl
   refine wpIn_mono (hbody _ pre x _ (hI.putObj _ hi (by omega) hl rfl) hX) ?_
   have fin:∀ (jump:Option Code) (W3:World),KeepsFrom w.heap.size (W.putObj (w.heap.size+1) (.loop { rec .ready none with state:=.busy })) W3 ->
     (Instr.endRound (w.heap.size+1) jump).run P W3 = .ok (.bool jump.isNone) (W3.putObj (w.heap.size+1) (.loop (rec (if jump.isNone then .ready else .done) jump))) /\
     W3.heap[w.heap.size+1]? = some (.loop { rec .ready none with state:=.busy }) /\
     (W3.putObj (w.heap.size+1) (.loop (rec (if jump.isNone then .ready else .done) jump))).heap[w.heap.size+1]? = some (.loop (rec (if jump.isNone then .ready else .done) jump)) /\
     (W3.putObj (w.heap.size+1) (.loop (rec (if jump.isNone then .ready else .done) jump))).heap[w.heap.size]? = some (.deferred (some [])):=fun jump W3 hk3=>by
    have hl3:=hk3.same _ _ (by omega) hl2 rfl
    have:=run_endRound (P:=P) jump hl3
    rw [hrec] at this ⊢
    exact⟨this,by rw [hrec] at hl3;exact hl3,World.putObj_heap_same (Array.getElem?_eq_some_iff.1 hl3).1,(World.putObj_heap_other (by omega)).trans (hk3.same _ _ (Nat.le_refl _) hk2 rfl)⟩
   have leave:∀ (c:Code) (W3:World),KeepsFrom w.heap.size (W.putObj (w.heap.size+1) (.loop { rec .ready none with state:=.busy })) W3->Ix c (pre++[x]) W3 ->
     ∃ v w',(Instr.endRound (w.heap.size+1) (some c)).run P W3 = .ok v w'/\((Ending.returned v = .returned (.bool true)/\(I (pre++[x]) w'/\w'.heap[w.heap.size+1]? = some (.loop (rec .ready none))/\w'.heap[w.heap.size]? = some (.deferred (some [])))/\Kp W w') \/
      (Ending.returned v = .returned (.bool false)/\∃ c,Ix c (pre++[x]) w'/\w'.heap[w.heap.size+1]? = some (.loop (rec .done (some c)))/\w'.heap[w.heap.size]? = some (.deferred (some [])))):=fun c W3 hk3 hi3=>by
    obtain⟨hr,hl3,hl4,hk4⟩:=fin (some c) W3 hk3
    exact⟨_,_,hr,.inr ⟨rfl,c,(hIx _).putObj _ hi3 (by omega) hl3 rfl,hl4,hk4⟩⟩
   rintro e a3 W3 hp
   cases e with
   | normal=>
    obtain⟨hk3,hkp3,hi3⟩:=hp
    obtain⟨hr,hl3,hl4,hk4⟩:=fin none W3 hk3
    exact⟨_,_,hr,.inl ⟨rfl,⟨hI.putObj _ hi3 (by omega) hl3 rfl,hl4,hk4⟩,hKt (hKt hw2 hkp3) (hKb _ _ _ _ (by omega) hl3 rfl)⟩⟩
   | ret=>exact leave .ret W3 hp.1 hp.2
   | exit id=>exact leave (.exit id) W3 hp.1 hp.2
   | goto t=>exact leave (.goto t) W3 hp.1 hp.2
   | panic ch=>exact hp.elim
   | outgrown=>exact hp.elim
  ·rintro e W2 ⟨⟨v,rfl⟩,(⟨xs,hS,hi,hl,hk⟩ | ⟨pre,hSp,c,hi,hl,hk⟩)⟩
   ·exact⟨none,_,by have:=run_endLoop (P:=P) hl (by rw [hrec];simp);rw [hrec] at this;exact this,hdone _ xs _ (Nat.le_refl _) hS (hI.putObj _ hi (by omega) hl rfl) ((World.putObj_heap_other (by omega)).trans hk)⟩
   ·exact⟨some c,_,by have:=run_endLoop (P:=P) hl (by rw [hrec];simp);rw [hrec] at this;exact this,hstop _ c pre _ (Nat.le_refl _) hSp ((hIx c).putObj _ hi (by omega) hl rfl) ((World.putObj_heap_other (by omega)).trans hk)⟩
end
section
open Go Go.RowKit
variable {F:Fence} {n:Nat} {P:Program}
theorem zfD {α:Type} {g:Operand} {ps:Array Tmp} {assign body:Code} {Q:Exit->Act->World->Prop} {a:Act} {w:World}
  (hro:F.round=none) (h1:1<=n) {gf:Nat} {lb:Array Value} (hg:a.eval g = .func (.func gf) #[] lb) (hFg:F.fn gf) (eg:∀ args w,(callFunc gf args).run P w = .ok (.enter gf args) w)
  {encs:α->Array Value} {Kp R:World->World->Prop} {X:List α->α->Prop} {S Sp:List α->Prop}
  (hseq:∀ r:Loop,zEi F (n - 1) P gf lb encs Kp R X S Sp ((w.alloc (.deferred (some []))).alloc (.loop r)))
  (hKt:∀ {A B C:World},Kp A B->Kp B C->Kp A C)
  (hKb:∀ (W:World) (l:Nat) (o o':Obj),w.heap.size<=l->W.heap[l]? = some o->o.isCells=false->Kp W (W.putObj l o'))
  (hR:∀ {A B:World},R A B->KeepsFrom w.heap.size A B) (hps:∀ x,(encs x).size=ps.size)
  (I:List α->World->Prop) (Ix:Code->List α->World->Prop) (hI:OwnFrom w.heap.size I) (hIx:∀ c,OwnFrom w.heap.size (Ix c))
  (hIR:∀ pre A B,I pre A->R A B->I pre B) (hIxR:∀ c pre A B,Ix c pre A->R A B->Ix c pre B) (h0:I [] w) (a₁:α->Nat->Act) (O:α->Obj) (hKa:∀ (W:World) (o:Obj),Kp W (W.alloc o))
  (hassign:∀ (l:Nat) (x:α) (W:World) (K:Act->World->Prop),K (a₁ x W.heap.size) (W.alloc (O x)) ->
   assign.wpIn (F.inRound l) (n - 1 - 1) P (Exit.then K (fun _ _ _=>False)) { tmps:=(ps.zip (encs x)).foldl (fun t (p,v)=>t.setIfInBounds p v) a.tmps,defers:=[] } W)
  (hbody:∀ (l:Nat) (pre:List α) (x:α) (b:Nat) (W:World),I pre W->X pre x->W.heap[b]? = some (O x)->w.heap.size<=b->body.wpIn (F.inRound l) (n - 1 - 1) P (ownPostG w.heap.size Kp I Ix (pre++[x]) W) (a₁ x b) W)
  (hdone:∀ (D:Nat) (xs:List α) (W:World),w.heap.size<=D->S xs->I xs W->W.heap[D]? = some (.deferred (some []))->Q .normal { a with defers:={ target:=.collected D,args:=#[] } :: a.defers } W)
  (hstop:∀ (D:Nat) (c:Code) (pre:List α) (W:World),w.heap.size<=D->Sp pre->Ix c pre W->W.heap[D]? = some (.deferred (some []))->c.wpIn F n P Q { a with defers:={ target:=.collected D,args:=#[] } :: a.defers } W) :
  (Code.rangeFunc g ps assign body).wpIn F n P Q a w:=by
 refine wpIn_rangeFunc ?_
 intro fn hfn
 rw [hro]
 -- the two blocks that the statement lays: one for the rounds' deferred calls,then the record of the loop
 obtain⟨rec,hrec⟩:∃ rec:LoopState->Option Code->Loop,rec=fun st pe=>{ state:=st,pending:=pe,fn,tmps:=a.tmps,params:=ps,assign,body,defers:=w.heap.size }:=⟨_,rfl⟩
 obtain⟨W1,hW1⟩:∃ W1,(w.alloc (.deferred (some []))).alloc (.loop (rec .ready none))=W1:=⟨_,rfl⟩
 have hL1:W1.heap[w.heap.size+1]? = some (.loop (rec .ready none)):=by
  have:=World.alloc_heap_new (w.alloc (.deferred (some []))) (.loop (rec .ready none))
  rw [World.size_alloc,hW1] at this
  exact this
 have hK1:W1.heap[w.heap.size]? = some (.deferred (some [])):=by
  rw [<- hW1];exact(Below.heap_alloc _ _ _ (by simp)).trans (World.alloc_heap_new w _)
 have hI1:I [] W1:=by rw [<- hW1];exact hI.alloc _ (hI.alloc _ h0)
 have hseq1:zEi F (n - 1) P gf lb encs Kp R X S Sp W1:=hW1 ▸ hseq (rec .ready none)
 refine⟨w.heap.size+1,[{ target:=.collected w.heap.size,args:=#[] }],W1,{ target:=.fn (.func gf) lb,args:=#[.func (.yield (w.heap.size+1)) #[] #[]] },W1,gf,
  #[.func (.yield (w.heap.size+1)) #[] #[]]++lb,W1,?_,?_,?_,?_,fun _=>h1,?_⟩
 ·rw [<- hW1,hrec];exact run_enterLoop_outer _ _ _ _ _
 ·simp only [resolve,hg]
  simp [go_sem]
 ·intro f' hf';simp [Target.leads] at hf';subst hf';exact hFg
 ·simp [invoke,go_sem,eg]
 ·refine(hseq1 (w.heap.size+1)
   (fun pre W=>I pre W/\W.heap[w.heap.size+1]? = some (.loop (rec .ready none))/\W.heap[w.heap.size]? = some (.deferred (some [])))
   (fun pre W=>∃ c,Ix c pre W/\W.heap[w.heap.size+1]? = some (.loop (rec .done (some c)))/\W.heap[w.heap.size]? = some (.deferred (some [])))
   (fun pre A B hs hr=>⟨hIR pre A B hs.1 hr,(hR hr).same _ _ (by omega) hs.2.1 rfl,(hR hr).same _ _ (Nat.le_refl _) hs.2.2 rfl⟩)
   (fun pre A B hs hr=>by
    obtain⟨c,hc,hl,hk⟩:=hs
    exact⟨c,hIxR c pre A B hc hr,(hR hr).same _ _ (by omega) hl rfl,(hR hr).same _ _ (Nat.le_refl _) hk rfl⟩)
   ?_ ⟨hI1,hL1,hK1⟩).mono ?_
  ·rintro pre x W ⟨hi,hl,hk⟩ hX
   have hlt:w.heap.size+1<W.heap.size:=(Array.getElem?_eq_some_iff.1 hl).1
   have hy:=run_yield (P:=P) (args:=encs x) hl (by rw [hrec];exact hps x)
   rw [hrec] at hy
   have hlA:(W.alloc (O x)).heap[w.heap.size+1]? = some (.loop (rec .ready none)):=(Below.heap_alloc _ _ _ hlt).trans hl
   have hkA:(W.alloc (O x)).heap[w.heap.size]? = some (.deferred (some [])):=(Below.heap_alloc _ _ _ (by omega)).trans hk
   have hbA:(W.alloc (O x)).heap[W.heap.size]? = some (O x):=World.alloc_heap_new W _
   have hiA:=hI.alloc (O x) hi
   have hpA:=hKa W (O x)
   have hltA:w.heap.size+1<(W.alloc (O x)).heap.size:=(Array.getElem?_eq_some_iff.1 hlA).1
   refine⟨fn,_,assign,body,hy,roundIn_of_wpIn hfn (hassign _ x W _ ⟨_,run_beginRound hlA (by rw [hrec]),?_⟩)⟩
   obtain⟨bA,hbe⟩:∃ bA,W.heap.size=bA:=⟨_,rfl⟩
   have hbL:w.heap.size<=bA:=by omega
   have hbN:bA≠w.heap.size+1:=by omega
   rw [hbe] at hbA ⊢
   generalize W.alloc (O x)=WA at *
   have hl2:(WA.putObj (w.heap.size+1) (.loop { rec .ready none with state:=.busy })).heap[w.heap.size+1]? = some (.loop { rec .ready none with state:=.busy }):=World.putObj_heap_same hltA
   have hk2:(WA.putObj (w.heap.size+1) (.loop { rec .ready none with state:=.busy })).heap[w.heap.size]? = some (.deferred (some [])):=(World.putObj_heap_other (by omega)).trans hkA
   have hw2:Kp W (WA.putObj (w.heap.size+1) (.loop { rec .ready none with state:=.busy })):=hKt hpA (hKb _ _ _ _ (by omega) hlA rfl)
   refine wpIn_mono (hbody _ pre x bA _ (hI.putObj _ hiA (by omega) hlA rfl) hX ((World.putObj_heap_other hbN).trans hbA) hbL) ?_
   have fin:∀ (jump:Option Code) (W3:World),KeepsFrom w.heap.size (WA.putObj (w.heap.size+1) (.loop { rec .ready none with state:=.busy })) W3 ->
     (Instr.endRound (w.heap.size+1) jump).run P W3 = .ok (.bool jump.isNone) (W3.putObj (w.heap.size+1) (.loop (rec (if jump.isNone then .ready else .done) jump))) /\
     W3.heap[w.heap.size+1]? = some (.loop { rec .ready none with state:=.busy }) /\
     (W3.putObj (w.heap.size+1) (.loop (rec (if jump.isNone then .ready else .done) jump))).heap[w.heap.size+1]? = some (.loop (rec (if jump.isNone then .ready else .done) jump)) /\
     (W3.putObj (w.heap.size+1) (.loop (rec (if jump.isNone then .ready else .done) jump))).heap[w.heap.size]? = some (.deferred (some [])):=fun jump W3 hk3=>by
    have hl3:=hk3.same _ _ (by omega) hl2 rfl
    have:=run_endRound (P:=P) jump hl3
    rw [hrec] at this ⊢
    exact⟨this,by rw [hrec] at hl3;exact hl3,World.putObj_heap_same (Array.getElem?_eq_some_iff.1 hl3).1,(World.putObj_heap_other (by omega)).trans (hk3.same _ _ (Nat.le_refl _) hk2 rfl)⟩
   have leave:∀ (c:Code) (W3:World),KeepsFrom w.heap.size (WA.putObj (w.heap.size+1) (.loop { rec .ready none with state:=.busy })) W3->Ix c (pre++[x]) W3 ->
     ∃ v w',(Instr.endRound (w.heap.size+1) (some c)).run P W3 = .ok v w'/\((Ending.returned v = .returned (.bool true)/\(I (pre++[x]) w'/\w'.heap[w.heap.size+1]? = some (.loop (rec .ready none))/\w'.heap[w.heap.size]? = some (.deferred (some [])))/\Kp W w') \/
      (Ending.returned v = .returned (.bool false)/\∃ c,Ix c (pre++[x]) w'/\w'.heap[w.heap.size+1]? = some (.loop (rec .done (some c)))/\w'.heap[w.heap.size]? = some (.deferred (some [])))):=fun c W3 hk3 hi3=>by
    obtain⟨hr,hl3,hl4,hk4⟩:=fin (some c) W3 hk3
    exact⟨_,_,hr,.inr ⟨rfl,c,(hIx _).putObj _ hi3 (by omega) hl3 rfl,hl4,hk4⟩⟩
   rintro e a3 W3 hp
   cases e with
   | normal=>
    obtain⟨hk3,hkp3,hi3⟩:=hp
    obtain⟨hr,hl3,hl4,hk4⟩:=fin none W3 hk3
    exact⟨_,_,hr,.inl ⟨rfl,⟨hI.putObj _ hi3 (by omega) hl3 rfl,hl4,hk4⟩,hKt (hKt hw2 hkp3) (hKb _ _ _ _ (by omega) hl3 rfl)⟩⟩
   | ret=>exact leave .ret W3 hp.1 hp.2
   | exit id=>exact leave (.exit id) W3 hp.1 hp.2
   | goto t=>exact leave (.goto t) W3 hp.1 hp.2
   | panic ch=>exact hp.elim
   | outgrown=>exact hp.elim
  ·rintro e W2 ⟨⟨v,rfl⟩,(⟨xs,hS,hi,hl,hk⟩ | ⟨pre,hSp,c,hi,hl,hk⟩)⟩
   ·exact⟨none,_,by have:=run_endLoop (P:=P) hl (by rw [hrec];simp);rw [hrec] at this;exact this,hdone _ xs _ (Nat.le_refl _) hS (hI.putObj _ hi (by omega) hl rfl) ((World.putObj_heap_other (by omega)).trans hk)⟩
   ·exact⟨some c,_,by have:=run_endLoop (P:=P) hl (by rw [hrec];simp);rw [hrec] at this;exact this,hstop _ c pre _ (Nat.le_refl _) hSp ((hIx c).putObj _ hi (by omega) hl rfl) ((World.putObj_heap_other (by omega)).trans hk)⟩
end
section
open Go.RowKit Go.Shelf
attribute [local go_sem] Oper.semAt_some
def zvK (w:World) (b:Nat):Nat:=match w.cell? ⟨b,0,none⟩ with | some (Value.string r)=>r.size | _=>0
theorem zpF {w:World} {b t:Nat} {r:ByteArray} (h:w.heap[b]? = some (.cells #[.string r] t (0,0))):zvK w b=r.size:=by simp [zvK,cell_of_one h]
def zee (s:ByteArray) (xs:List ByteArray):Prop:=xs.map (fun x=>x.data.toList)=zcN s.data.toList
def zgi (s:ByteArray) (xs:List ByteArray):Prop:=xs.map (fun x=>x.data.toList) <+: zcN s.data.toList
def zpI (bs:List Nat) (A B:World):Prop:=∀ b ∈ bs,B.heap[b]? = A.heap[b]?
def ziP (b:Nat) (A B:World):Prop:=∃ r:ByteArray,B=A.setCell ⟨b,0,none⟩ (.string r)
theorem zxY (s:ByteArray) (c:UInt8) (w:World) :
  Calls Tryz.prog 256 #[.string s,.string ⟨#[c]⟩] w fun e w'=>e = .returned (.int .i64 (Lib.indexByte s.data.toList c))/\w=w':=
 (Tryz.strings_Index_one s c w).mono fun _ _ ⟨h1,h2⟩=>⟨h1,h2.symm⟩
theorem zoF (n l b1 b2 b3:Nat) (hn1:1<=n) (s:ByteArray) (hs:s.size<=9223372036854775806) (h12:b1≠b2) (h32:b3≠b2) (J Jx:List ByteArray->World->Prop)
  (hJ:∀ pre A B,J pre A->ziP b2 A B->J pre B)
  (hY:∀ pre x A,J pre A->YieldAt Fence.wide (n - 1) Tryz.prog l #[.string x] A fun e B=>
   (e = .returned (.bool true)/\J (pre++[x]) B/\zpI [b1,b2,b3] A B)\/(e = .returned (.bool false)/\Jx (pre++[x]) B))
  (W:World) (hb1:W.heap[b1]? = some (.cells #[.string ⟨#[47]⟩] 9 (0,0))) (hb2:W.heap[b2]? = some (.cells #[.string s] 9 (0,0))) (hb3:W.heap[b3]? = some (.cells #[.int .i64 0] 3 (0,0))) (h0:J [] W) :
  CallsIn Fence.wide n Tryz.prog 254 #[.func (.yield l) #[] #[],.pointer (some ⟨b1,0,none⟩),.pointer (some ⟨b2,0,none⟩),.pointer (some ⟨b3,0,none⟩)] W fun e B=>(∃ v,e = .returned v) /\
   ((∃ xs:List ByteArray,zee s xs/\J xs B)\/(∃ pre:List ByteArray,zgi s pre/\Jx pre B)):=by
 have c1:=cell_of_one hb1
 refine callsIn_of_wp Tryz.func254 rfl trivial ?_ rfl
 simp only [Tryz.ntmps254,List.size_toArray,List.length_cons,List.length_nil,Nat.reduceAdd,Nat.reduceSub,Array.replicate_succ,Array.replicate_zero,List.push_toArray,List.append_toArray,List.nil_append,List.cons_append]
 gi_wp2_with fail
 gi_loopw [7,8] (fun _ _ wr=>∃ (pre:List ByteArray) (r:ByteArray),wr.heap[b1]? = some (.cells #[.string ⟨#[47]⟩] 9 (0,0))/\wr.heap[b2]? = some (.cells #[.string r] 9 (0,0))/\wr.heap[b3]? = some (.cells #[.int .i64 0] 3 (0,0)) /\
   r.size<=9223372036854775806/\J pre wr/\Hid (pre.map (·.data.toList)++zcN r.data.toList=zcN s.data.toList)) (fun _ _ wr=>zvK wr b2)
 case atStart=>exact⟨[],s,hb1,hb2,hb3,hs,h0,Lib.hid rfl⟩
 case round=>
  obtain⟨pre,r,hr1,hr2,hr3,hrs,hJr,hP⟩:=hrel
  have d1:=cell_of_one hr1
  have d2:=cell_of_one hr2
  have d3:=cell_of_one hr3
  have f2:=free_of_one hr2
  have hge:=Lib.indexByte_ge r.data.toList 47
  have HC:=Lib.hid (zxY r 47 wr)
  have HR1:=Lib.hid hr1
  have HR2:=Lib.hid hr2
  have HR3:=Lib.hid hr3
  clear hr1 hr2 hr3 c1 hb1 hb2 hb3
  by_cases hneg:Lib.indexByte r.data.toList 47<0
  ·have hm1:Lib.indexByte r.data.toList 47 = -1:=by omega
   have HN:=Lib.hid (zsn hm1)
   rw [hm1] at HC
   clear hm1 hneg hge
   obtain⟨fn,tmps,assign,body,hy,hR⟩:=hY pre r wr hJr
   gi_wp2_with (first | (refine⟨trivial,?_⟩;gi_at_call 256;refine(callsIn_wide.2 HC.out).mono ?_;rintro e w' ⟨rfl,rfl⟩))
   refine hR.mono ?_
   rintro e W3 (⟨rfl,hJ3,hk3⟩ | ⟨rfl,hJx3⟩)
   ·gi_wp2_with fail
    go_end0
    exact⟨⟨_,rfl⟩,.inl ⟨_,by unfold zee;rw [<- hP.out,HN.out];simp,hJ3⟩⟩
   ·gi_wp2_with fail
    go_end0
    exact⟨⟨_,rfl⟩,.inr ⟨_,by unfold zgi;rw [<- hP.out,HN.out];simp,hJx3⟩⟩
  ·obtain⟨i,hi⟩:∃ i:Nat,Lib.indexByte r.data.toList 47=(i:Int):=⟨_,(Int.toNat_of_nonneg (by omega)).symm⟩
   obtain⟨hlt,hparts⟩:=zsm hi
   have hlt':i<r.size:=by simpa using hlt
   rw [hi] at HC
   clear hi hlt hneg hge
   have HN:=Lib.hid hparts
   clear hparts
   obtain⟨fn,tmps,assign,body,hy,hR⟩:=hY pre (r.extract 0 i) wr hJr
   gi_wp2_with (first | (refine⟨trivial,?_⟩;gi_at_call 256;refine(callsIn_wide.2 HC.out).mono ?_;rintro e w' ⟨rfl,rfl⟩))
   refine hR.mono ?_
   rintro e W3 (⟨rfl,hJ3,hk3⟩ | ⟨rfl,hJx3⟩)
   ·have k1:W3.heap[b1]? = _:=(hk3 b1 (by simp)).trans HR1.out
    have k2:W3.heap[b2]? = _:=(hk3 b2 (by simp)).trans HR2.out
    have k3:W3.heap[b3]? = _:=(hk3 b3 (by simp)).trans HR3.out
    have g1:=cell_of_one k1
    have g2:=cell_of_one k2
    have g3:=cell_of_one k3
    have e2:=free_of_one k2
    have K1:=Lib.hid k1
    have K2:=Lib.hid k2
    have K3:=Lib.hid k3
    have hk3':=Lib.hid hk3
    clear k1 k2 k3 d1 d2 d3 f2 hk3
    gi_wp2_with fail
    go_roundw
    case rel=>
     refine⟨_,r.extract (i+1) r.size,?_,one_setCell K2.out,?_,by simp;omega,hJ _ _ _ hJ3 ⟨_,rfl⟩,Lib.hid ?_⟩
     ·exact(Below.heap_setCell _ _ _ _ h12).trans K1.out
     ·exact(Below.heap_setCell _ _ _ _ h32).trans K3.out
     ·rw [<- hP.out,HN.out,zth]
      simp
    case measure=>rw [zpF (one_setCell K2.out),zpF HR2.out];simp;omega
   ·gi_wp2_with fail
    refine bodyPost_ret (results_none rfl _ _ _) rfl ?_
    exact⟨⟨_,rfl⟩,.inr ⟨_,⟨zcN (r.data.toList.drop (i+1)),by rw [<- hP.out,HN.out];simp⟩,hJx3⟩⟩
theorem ziV (s sep:ByteArray) (w:World) :
  Calls Tryz.prog 132 #[.string s,.string sep] w fun e w'=>
   e = .returned (.func (.func 254) #[] #[.pointer (some ⟨w.heap.size+1,0,none⟩),.pointer (some ⟨w.heap.size,0,none⟩),.pointer (some ⟨w.heap.size+1+1,0,none⟩)]) /\
   ((w.alloc (.cells #[.string s] 9)).alloc (.cells #[.string sep] 9)).alloc (.cells #[.int .i64 0] 3)=w':=by
 go_enter Tryz.func132,Tryz.ntmps132
 go_wp2
 go_ret
 exact⟨rfl,rfl⟩
theorem zsN {l:List UInt8} (h:90<l.length):zbR l=false:=by
 have:¬ l.length<=90:=by omega
 simp [zbR,this]
theorem zvl (s:ByteArray) (w:World) (h:90<s.size) :
  Calls Tryz.prog 67 #[.string s] w fun e w'=>e = .returned (.bool (zbR s.data.toList))/\Below w.heap.size w w':=by
 have HF:=Lib.hid (zsN (l:=s.data.toList) (by simpa using h))
 go_enter Tryz.func67,Tryz.ntmps67
 go_wp2_with fail
 refine bodyPost_ret (v:=.bool false) (by simp [results,Tryz.results67,go_sem]) rfl ?_
 exact⟨by rw [HF.out],(Below.refl _ _).alloc (Nat.le_refl _) _⟩
theorem ztP {l:List UInt8} {a b:Nat} (h:l.length<=a) (h':l.length<=b):zcD a l=zcD b l:=by
 cases l with
 | nil=>rfl
 | cons c r=>
  have h1:r.length+1<=a:=by simpa using h
  have h2:r.length+1<=b:=by simpa using h'
  simp [zcD,h1,h2]
theorem zlb {bs:List Nat} {A B:World} (h:Below A.heap.size A B) (hb:∀ b ∈ bs,b<A.heap.size):zpI bs A B:=fun b hm=>h.block b (hb b hm)
theorem zbb {A B:World} (h:Below A.heap.size A B):KeepsOthers A B:=⟨h.size,fun k _ hk _=>(h.block k (Array.getElem?_eq_some_iff.1 hk).1).trans hk⟩
def zhE (pre:List ByteArray):Prop:=∀ p ∈ pre,zcD 20 p.data.toList=true
def zrv (pre:List ByteArray):Prop:=∃ p ∈ pre,zcD 20 p.data.toList=false
def zkJ (w:World) (pre:List ByteArray) (W:World):Prop:=zhE pre/\W.heap[w.heap.size]? = some (.cells #[.bool false] 4 (0,0))/\w.heap.size+1+1+1+1<=W.heap.size/\Below w.heap.size w W
def zrt (w:World) (c:Code) (pre:List ByteArray) (W:World):Prop:=c = .ret/\zrv pre/\W.heap[w.heap.size]? = some (.cells #[.bool false] 4 (0,0))/\w.heap.size+1+1+1+1<=W.heap.size/\Below w.heap.size w W
theorem allWords_snoc {pre:List ByteArray} {x:ByteArray} (h:zhE pre) (hx:zcD 20 x.data.toList=true):zhE (pre++[x]):=by
 intro p hp
 rcases List.mem_append.1 hp with h1 | h1
 ·exact h p h1
 ·simp at h1;subst h1;exact hx
theorem zjU {pre:List ByteArray} {x:ByteArray} (hx:zcD 20 x.data.toList=false):zrv (pre++[x]):=⟨x,by simp,hx⟩
theorem zfN {W W':World} {row:Option Nat} {b:Nat} {v:Value} {t:TypeId} (h:W.heap[b]? = some (.cells #[v] t (0,0))) (hg:W.grownBy W' row) (hr:∀ r,row=some r->∃ o:Obj,W.heap[r]? = some o/\o.isCells=false):W'.heap[b]? = some (.cells #[v] t (0,0)):=
 (grownBy_keeps_cells hg hr h rfl).trans h
theorem zvp (w:World) (B:Nat) (hB:w.heap.size<=B):OwnFrom B (zkJ w):=fun s W W' row hs hg hr=>
 ⟨hs.1,zfN hs.2.1 hg (fun r e=>(hr r e).2),Nat.le_trans hs.2.2.1 hg.size,hs.2.2.2.trans ((Below.refl _ _).grown hg (by have:=hs.2.2.1;omega) (fun k e=>by have:=(hr k e).1;omega))⟩
theorem zvm (w:World) (c:Code) (B:Nat) (hB:w.heap.size<=B):OwnFrom B (zrt w c):=fun s W W' row hs hg hr=>
 ⟨hs.1,hs.2.1,zfN hs.2.2.1 hg (fun r e=>(hr r e).2),Nat.le_trans hs.2.2.2.1 hg.size,hs.2.2.2.2.trans ((Below.refl _ _).grown hg (by have:=hs.2.2.2.1;omega) (fun k e=>by have:=(hr k e).1;omega))⟩
theorem zqG (w:World) (pre:List ByteArray) (A B:World) (h:zkJ w pre A) (hr:ziP (w.heap.size+1) A B):zkJ w pre B:=by
 obtain⟨r,rfl⟩:=hr
 refine⟨h.1,(Below.heap_setCell _ _ _ _ (by simp)).trans h.2.1,by simpa [World.setCell] using h.2.2.1,h.2.2.2.setCell (p:=⟨w.heap.size+1,0,none⟩) (by simp) _⟩
theorem zqF (w:World) (c:Code) (pre:List ByteArray) (A B:World) (h:zrt w c pre A) (hr:ziP (w.heap.size+1) A B):zrt w c pre B:=by
 obtain⟨r,rfl⟩:=hr
 refine⟨h.1,h.2.1,(Below.heap_setCell _ _ _ _ (by simp)).trans h.2.2.1,by simpa [World.setCell] using h.2.2.2.1,h.2.2.2.2.setCell (p:=⟨w.heap.size+1,0,none⟩) (by simp) _⟩
theorem labelI_below (w:World) (pre pre':List ByteArray) (A B:World) (h:zkJ w pre A) (hw:zhE pre') (hb:Below A.heap.size A B):zkJ w pre' B:=
 ⟨hw,(hb.block _ (by have:=h.2.2.1;omega)).trans h.2.1,Nat.le_trans h.2.2.1 hb.size,h.2.2.2.trans (hb.mono (by have:=h.2.2.1;omega))⟩
theorem zvo {s:ByteArray} {xs:List ByteArray} (h:s.size<=90) (hx:zee s xs) (ha:zhE xs):zbR s.data.toList=true:=by
 unfold zee at hx
 unfold zbR
 rw [<- hx,Bool.and_eq_true]
 refine⟨by simpa using h,?_⟩
 rw [List.all_eq_true]
 intro p hp
 obtain⟨q,hq,rfl⟩:=List.mem_map.1 hp
 exact ha q hq
theorem zvn {s:ByteArray} {xs:List ByteArray} (hx:zgi s xs) (ha:zrv xs):zbR s.data.toList=false:=by
 unfold zbR
 rw [Bool.and_eq_false_iff];right
 rw [List.all_eq_false]
 obtain⟨q,hq,hb⟩:=ha
 exact⟨q.data.toList,(show _ <+: _ from hx).subset (List.mem_map.2 ⟨q,hq,rfl⟩),by simp [hb]⟩
theorem zsM (s:ByteArray) (w:World) (h:s.size<=90) :
  Calls Tryz.prog 67 #[.string s] w fun e w'=>e = .returned (.bool (zbR s.data.toList))/\Below w.heap.size w w':=by
 have h90:decide (90<(s.size:Int))=false:=by simp;omega
 refine(callsIn_wide (n:=4)).1 ?_
 refine callsIn_of_wp_marks Tryz.func67 rfl trivial ?_ rfl
 simp only [Tryz.ntmps67,List.size_toArray,List.length_cons,List.length_nil,Nat.reduceAdd,Nat.reduceSub,Array.replicate_succ,Array.replicate_zero,List.push_toArray,List.append_toArray,List.nil_append,List.cons_append]
 gi_wp2_with (first | (refine⟨trivial,?_⟩;gi_at_call 132;refine(callsIn_wide.2 (ziV s ⟨#[47]⟩ _)).mono ?_;rintro e w' ⟨rfl,rfl⟩))
 obtain⟨W0,hW0⟩:∃ W0,((((w.alloc (Obj.cells #[Value.bool false] 4)).alloc (Obj.cells #[Value.string s] 9)).alloc (Obj.cells #[Value.string ⟨#[47]⟩] 9)).alloc (Obj.cells #[Value.int IntKind.i64 0] 3))=W0:=⟨_,rfl⟩
 have z0:w.heap.size+1+1+1+1=W0.heap.size:=by rw [<- hW0];simp
 have q0:W0.heap[w.heap.size]? = some (.cells #[.bool false] 4 (0,0)):=by rw [<- hW0];exact(Below.heap_alloc _ _ _ (by simp <;> omega)).trans ((Below.heap_alloc _ _ _ (by simp <;> omega)).trans ((Below.heap_alloc _ _ _ (by simp)).trans (World.alloc_heap_new w _)))
 have q1:W0.heap[w.heap.size+1]? = some (.cells #[.string s] 9 (0,0)):=by
  rw [<- hW0];refine(Below.heap_alloc _ _ _ (by simp <;> omega)).trans ((Below.heap_alloc _ _ _ (by simp)).trans ?_)
  have:=World.alloc_heap_new (w.alloc (Obj.cells #[Value.bool false] 4)) (Obj.cells #[Value.string s] 9)
  rwa [World.size_alloc] at this
 have q2:W0.heap[w.heap.size+1+1]? = some (.cells #[.string ⟨#[47]⟩] 9 (0,0)):=by
  rw [<- hW0];refine(Below.heap_alloc _ _ _ (by simp)).trans ?_
  have:=World.alloc_heap_new ((w.alloc (Obj.cells #[Value.bool false] 4)).alloc (Obj.cells #[Value.string s] 9)) (Obj.cells #[Value.string ⟨#[47]⟩] 9)
  simp only [World.size_alloc] at this
  exact this
 have q3:W0.heap[w.heap.size+1+1+1]? = some (.cells #[.int .i64 0] 3 (0,0)):=by
  rw [<- hW0]
  have:=World.alloc_heap_new (((w.alloc (Obj.cells #[Value.bool false] 4)).alloc (Obj.cells #[Value.string s] 9)).alloc (Obj.cells #[Value.string ⟨#[47]⟩] 9)) (Obj.cells #[Value.int IntKind.i64 0] 3)
  simp only [World.size_alloc] at this
  exact this
 have bl:Below w.heap.size w W0:=by
  rw [<- hW0];exact((((Below.refl _ w).alloc (Nat.le_refl _) _).alloc (by simp) _).alloc (by simp <;> omega) _).alloc (by simp <;> omega) _
 rw [hW0]
 clear hW0
 have hal:∀ (r:Loop) (b:Nat) (o:Obj),W0.heap[b]? = some o->((W0.alloc (.deferred (some []))).alloc (.loop r)).heap[b]? = some o:=fun r b o hb=>by
  have:=(Array.getElem?_eq_some_iff.1 hb).1
  exact(Below.heap_alloc _ _ _ (by simp <;> omega)).trans ((Below.heap_alloc _ _ _ this).trans hb)
 refine zcv (P:=Tryz.prog) (F:=Fence.wide) (n:=4) rfl (by omega) (gf:=254) (lb:=#[.pointer (some ⟨w.heap.size+1+1,0,none⟩),.pointer (some ⟨w.heap.size+1,0,none⟩),.pointer (some ⟨w.heap.size+1+1+1,0,none⟩)]) rfl trivial (enters_of Tryz.func254 (by kernel_rfl) rfl)
  (encs:=fun x:ByteArray=>#[.string x]) (Kp:=zpI [w.heap.size+1+1,w.heap.size+1,w.heap.size+1+1+1]) (R:=ziP (w.heap.size+1)) (X:=fun _ _=>True)
  (S:=zee s) (Sp:=zgi s)
  (fun r l J Jx hJ _ hY hJ0=>zoF 3 l _ _ _ (by omega) s (by omega) (by omega) (by omega) J Jx hJ (fun pre x A hA=>hY pre x A hA trivial) _ (hal r _ _ q2) (hal r _ _ q1) (hal r _ _ q3) hJ0)
  (fun h1 h2 b hb=>(h2 b hb).trans (h1 b hb)) (fun W l o o' hl _ _ b hb=>World.putObj_heap_other (by simp at hb;omega))
  (fun⟨r,hr⟩=>hr ▸ (KeepsOthers.setCell _ _ _).from _) (fun _=>rfl)
  (zkJ w) (zrt w) (zvp w _ (by omega)) (fun c=>zvm w c _ (by omega)) (zqG w) (zqF w)
  ⟨fun _ hp=>by simp at hp,q0,by omega,bl⟩
  (fun x=>{ tmps:=#[Value.string s,undef,Value.pointer (some { block:=w.heap.size,off:=0 }),Value.string x,Value.string s,Value.int IntKind.i64 ↑s.size,Value.bool false,Value.string s,
        Value.func (Fn.func 254) #[] #[Value.pointer (some { block:=w.heap.size+1+1,off:=0 }),Value.pointer (some { block:=w.heap.size+1,off:=0 }),Value.pointer (some { block:=w.heap.size+1+1+1,off:=0 })],
        Value.string x,undef,undef,undef,undef,undef,undef,undef,undef],defers:=[] }) ?assign ?body ?done ?stop
 case assign=>
  intro l x W K hK
  gi_wp2
  exact hK
 case body=>
  rintro l pre x W hI -
  have c0:=cell_of_one hI.2.1
  have f0:=free_of_one hI.2.1
  have HI:=Lib.hid hI
  clear hI
  by_cases hx:20<x.size
  ·have HX:=Lib.hid (zjU (pre:=pre) (zlR (l:=x.data.toList) (most:=20) (by simpa using hx)))
   gi_wp2_with fail
   refine⟨trivial,?_⟩
   gi_wp2_with fail
   exact⟨(KeepsOthers.setCell _ _ _).from _,rfl,HX.out,one_setCell HI.out.2.1,by simpa [World.setCell] using HI.out.2.2.1,HI.out.2.2.2.setCell (p:=⟨w.heap.size,0,none⟩) (Nat.le_refl _) _⟩
  ·have HL:=Lib.hid (ztP (l:=x.data.toList) (a:=24) (b:=20) (by simp;omega) (by simp;omega))
   cases hw:zcD 24 x.data.toList
   ·gi_wp2_with (first | (refine⟨trivial,?_⟩;gi_at_call 133;refine(CallsIn.inRound l (callsIn_wide.2 (zlQ x W))).mono ?_;rintro e w' ⟨rfl,hb⟩;have g0:=(hb.cell (p:=⟨w.heap.size,0,none⟩) (by have:=HI.out.2.2.1;show w.heap.size<_;omega)).trans c0;have e0:=(hb.frozen (p:=⟨w.heap.size,0,none⟩) (by have:=HI.out.2.2.1;show w.heap.size<_;omega)).trans f0;have HB:=Lib.hid hb;clear hb))
    have hq:=labelI_below w pre pre W _ HI.out HI.out.1 HB.out
    exact⟨((zbb HB.out).trans (KeepsOthers.setCell _ _ _)).from _,rfl,zjU (HL.out ▸ hw),one_setCell hq.2.1,by simpa [World.setCell] using hq.2.2.1,hq.2.2.2.setCell (p:=⟨w.heap.size,0,none⟩) (Nat.le_refl _) _⟩
   ·gi_wp2_with (first | (refine⟨trivial,?_⟩;gi_at_call 133;refine(CallsIn.inRound l (callsIn_wide.2 (zlQ x W))).mono ?_;rintro e w' ⟨rfl,hb⟩;have HB:=Lib.hid hb;clear hb))
    exact⟨(zbb HB.out).from _,zlb HB.out (by have:=HI.out.2.2.1;intro b hb;simp at hb;omega),labelI_below w pre _ W _ HI.out (allWords_snoc HI.out.1 (HL.out ▸ hw)) HB.out⟩
 case done=>
  rintro D ys W hD hS hI hK
  have c0:=cell_of_one hI.2.1
  have f0:=free_of_one hI.2.1
  have HI:=Lib.hid hI
  clear hI
  gi_wp2_with fail
  have hK':=(KeepsOthers.setCell W ⟨w.heap.size,0,none⟩ (.bool true)).same D _ hK rfl
  refine⟨by simp,.inl ⟨_,_,rfl,run_takeDeferred hK',?_⟩⟩
  have hc5:=cell_kept (cell_of_one (one_setCell (u:=.bool true) HI.out.2.1)) (grownBy_putObj' _ D (.deferred none)) (fun r e=>by cases e;exact⟨_,hK',rfl⟩)
  refine⟨.bool true,?_,by rw [zvo h hS HI.out.1],(HI.out.2.2.2.setCell (p:=⟨w.heap.size,0,none⟩) (Nat.le_refl _) _).trans (belowK_b (w:=w) (Nat.le_refl _) _ D _ _ (by omega) hK' rfl rfl)⟩
  simp [results,Tryz.f67,go_sem,hc5]
 case stop=>
  rintro D c pre W hD hpre ⟨rfl,hbad,hcr,_,hB⟩ hK
  gi_wp2_with fail
  refine⟨by simp,.inl ⟨_,_,rfl,run_takeDeferred hK,?_⟩⟩
  have hc5:=cell_kept (cell_of_one hcr) (grownBy_putObj' _ D (.deferred none)) (fun r e=>by cases e;exact⟨_,hK,rfl⟩)
  refine⟨.bool false,?_,by rw [zvn hpre hbad],hB.trans (belowK_b (w:=w) (Nat.le_refl _) W D _ _ (by omega) hK rfl rfl)⟩
  simp [results,Tryz.f67,go_sem,hc5]
theorem zpg (s:ByteArray) (w:World) :
  Calls Tryz.prog 67 #[.string s] w fun e w'=>e = .returned (.bool (zbR s.data.toList))/\Below w.heap.size w w':=by
 rcases Nat.lt_or_ge 90 s.size with h | h
 ·exact zvl s w h
 ·exact zsM s w h
end
end Go.Proofs.YtpnjjmcimjlfkaaGreatDoor
