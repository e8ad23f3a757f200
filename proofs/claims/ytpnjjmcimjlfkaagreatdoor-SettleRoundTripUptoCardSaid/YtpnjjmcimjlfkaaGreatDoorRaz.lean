/- Texts of this proof, part 26: what the proof uses of them. -/
import Derived.Test.YtpnjjmcimjlfkaaGreatDoorRaw
import Derived.Test.YtpnjjmcimjlfkaaGreatDoorRar
import Derived.Test.YtpnjjmcimjlfkaaGreatDoorRay
import Derived.Test.YtpnjjmcimjlfkaaGreatDoorRaj
import Derived.Test.YtpnjjmcimjlfkaaGreatDoorRau
set_option maxRecDepth 100000
set_option maxHeartbeats 64000000
namespace Go.Proofs.YtpnjjmcimjlfkaaGreatDoor
section
open Go Go.RowKit Go.Shelf
attribute [local go_sem] Oper.semAt_some St.ren zhZ zgU AV.ren zdd Blk.ren St.setBlk
theorem ztB (l:List UInt8):(zC l).take l.length=zC l:=by
 rw [<- zh l,List.take_length]
abbrev zim (a:AV) (ver:Nat) (l:List UInt8):Blk:=.cell 148 [.d (.raw (.bool true)),a,.stk 910 1 ver 0 l.length,.d (.raw (.string ⟨#[]⟩)),.d (.raw (.bool false))]
abbrev zil (ver:Nat) (l:List UInt8):Tok:=⟨1,5,ver,some (zC l)⟩
abbrev cwL (a:AV) (ver:Nat) (l:List UInt8) (bs:List (Nat × Option Blk)):Lent:=⟨(901,some (zim a ver l)) :: bs,[(910,some (zil ver l))]⟩
def cwA (a:AV):Prop:=a = .d (.raw (.pointer none))\/a = .box 901 1
def zaG (l t:List UInt8) (bs:List (Nat × Option Blk)) (o:Out):Prop:=∃ ver,o = .ret (.tup []) (cwL (.box 901 1) ver (l++t) bs)
theorem zm {l t:List UInt8} {bs:List (Nat × Option Blk)} {res:AV} {L':Lent} (h:zaG l t bs (.ret res L')):res = .tup []/\∃ ver,L'=cwL (.box 901 1) ver (l++t) bs:=by
 obtain⟨ver,h⟩:=h
 cases h;exact⟨rfl,ver,rfl⟩
theorem zn {l t:List UInt8} {bs:List (Nat × Option Blk)} {v:Value} (h:zaG l t bs (.pan v)):False:=by
 obtain⟨ver,h⟩:=h;cases h
theorem zDF (a:AV) (ver:Nat) (l:List UInt8) (ha:cwA a):zI Tryz.prog 312 [.box 901 1] (cwL a ver l []) (fun o=>o = .ret (.tup []) (cwL (.box 901 1) ver l [])):=by
 refine kL [901] [910] Tryz.func312 Tryz.ntmps312 fun A hA hX=>?_
 rcases ha with rfl | rfl
 ·refine goC 35 ?_
  simp only [go_sem,hA]
  refine ziJ 0 (by simp only [go_sem]) (zii rfl rfl rfl (by simp) (by kernel_rfl) (by kernel_rfl) (by rw [show Tryz.prog.cellsOf 146=2 by kernel_rfl];decide)) (by simp only [go_sem,hA]) ?_
  simp only [go_sem]
  refine ziJ 0 (by simp only [go_sem]) (zjr rfl rfl rfl rfl fun v w=>by rw [run_callFunc_extern Tryz.func339 (by kernel_rfl) (by kernel_rfl) (by kernel_rfl) (e:=Extern.AbiNoEscape.same) (by kernel_rfl),Lib.run_noEscape];rfl) (by simp only [go_sem,hA]) ?_
  simp only [go_sem]
  refine ziJ 300 (by simp only [go_sem]) (zgM rfl rfl rfl (by kernel_rfl) (by kernel_rfl) (by rw [show Tryz.prog.cellsOf 146=2 by kernel_rfl];decide) (by kernel_rfl)) (by simp only [go_sem,hA]) ?_
  simp only [go_sem,hA,Tryz.results312]
  exact⟨_,rfl,rfl,rfl⟩
 ·refine goC 300 ?_
  simp only [go_sem,hA,Tryz.results312]
  exact⟨_,rfl,rfl,rfl⟩
theorem zpK (a:AV) (ver:Nat) (l t:List UInt8) (ha:cwA a) (hb:l.length+t.length<=1099511627776):zI Tryz.prog 276 [.box 901 1,.d (.raw (.string ⟨t.toArray⟩))] (cwL a ver l []) (fun o=>o = .ret (.tup [.d (.raw (.int .i64 t.length)),.d (.raw .nilIface)]) (cwL (.box 901 1) (ver+1) (l++t) [])):=by
 refine kL [901] [910] Tryz.func276 Tryz.ntmps276 fun A hA hX=>?_
 refine goC 400 ?_
 simp only [go_sem,hA]
 refine zae [901] [910] 400 (zDF a ver l ha) rfl rfl rfl rfl (by rcases ha with rfl | rfl <;> rfl) (by simp only [go_sem,hA]) (fun res L' h=>?_) (fun pv h=>by cases h)
 cases h
 simp only [go_sem,hA,zh,ztB,zck,zbm,<- List.length_append,Tryz.results276]
 exact⟨⟨Nat.le_refl _,by rw [List.length_append];exact hb⟩,_,rfl,rfl,rfl⟩
theorem zxN (ver:Nat) (l:List UInt8) (n:Nat) (hn:n<=1099511627776) (rest:List D) (hb:l.length+(zb n).length<=1099511627776):zI Tryz.prog 243 [.box 901 0,.at_ (.raw (.int .i64 n) :: rest)] (cwL (.box 901 1) ver l []) (zaG l (zb n) []):=by
 refine kL [901] [910] Tryz.func243 Tryz.ntmps243 fun A hA hX=>?_
 refine goC 400 ?_
 simp only [go_sem,hA]
 refine gC (zhg n hn) ?_
 simp only [go_sem,hA]
 refine gL [901] [910] (zpK (.box 901 1) ver l (zb n) (.inr rfl) hb) (fun pv h=>by cases h) fun res L' h=>?_
 cases h
 simp only [go_sem,Tryz.results243]
 exact⟨_,rfl,rfl,_,rfl⟩
theorem zcT (a:AV) (ver:Nat) (l:List UInt8) (ha:cwA a) (n:Nat) (hn:n<=1099511627776) (hb:l.length+(zb n).length<=1099511627776):zI Tryz.prog 243 [.box 901 0,.box 907 0] (cwL a ver l [(907,some (.cell 3 [.d (.raw (.int .i64 n))]))]) (zaG l (zb n) [(907,some (.cell 3 [.d (.raw (.int .i64 n))]))]):=by
 refine kL [901,907] [910] Tryz.func243 Tryz.ntmps243 fun A hA hX=>?_
 refine goC 400 ?_
 simp only [go_sem,hA]
 refine gC (zhg n hn) ?_
 simp only [go_sem,hA]
 refine zae [901] [910] 400 (zpK a ver l (zb n) ha hb) rfl rfl rfl rfl (by rcases ha with rfl | rfl <;> rfl) (by simp only [go_sem,hA]) (fun res L' h=>?_) (fun pv h=>by cases h)
 cases h
 simp only [go_sem,Tryz.results243]
 exact⟨_,rfl,rfl,_,rfl⟩
theorem zgj (ver:Nat) (l:List UInt8) (s:ByteArray) (hs:s.size<=65536) (rest:List D) (hb:l.length+(zi s).length<=1099511627776):zI Tryz.prog 244 [.box 901 0,.at_ (.raw (.string s) :: rest)] (cwL (.box 901 1) ver l []) (zaG l (zi s) []):=by
 refine kL [901] [910] Tryz.func244 Tryz.ntmps244 fun A hA hX=>?_
 refine goC 400 ?_
 simp only [go_sem,hA]
 refine gC (zhK s hs) ?_
 simp only [go_sem,hA]
 refine gL [901] [910] (zpK (.box 901 1) ver l (zi s) (.inr rfl) hb) (fun pv h=>by cases h) fun res L' h=>?_
 cases h
 simp only [go_sem,Tryz.results244]
 exact⟨_,rfl,rfl,_,rfl⟩
def zeI:Prop:=∀ l:List ByteArray,zjD l->Con Tryz.prog 278 [.d (.sl (zQ l))] (.tup [.d (.raw (.string ⟨(zaQ l).toArray⟩)),.d (.raw (.int .i64 0))])
theorem zvS (hPT:zeI) (ver:Nat) (l:List UInt8) (s:List ByteArray) (hs:zjD s) (rest:List D) (hb:l.length+(zaQ s).length<=1099511627776):zI Tryz.prog 245 [.box 901 0,.at_ (.sl (zQ s) :: rest)] (cwL (.box 901 1) ver l []) (zaG l (zaQ s) []):=by
 refine kL [901] [910] Tryz.func245 Tryz.ntmps245 fun A hA hX=>?_
 refine goC 400 ?_
 simp only [go_sem,hA]
 refine gC (hPT s hs) ?_
 simp only [go_sem,hA]
 refine gL [901] [910] (zpK (.box 901 1) ver l (zaQ s) (.inr rfl) hb) (fun pv h=>by cases h) fun res L' h=>?_
 cases h
 simp only [go_sem,Tryz.results245]
 exact⟨_,rfl,rfl,_,rfl⟩
theorem zgX (ver:Nat) (l:List UInt8) (b:Bool) (rest:List D) (hb:l.length+(zL b).length<=1099511627776):zI Tryz.prog 248 [.box 901 0,.at_ (.raw (.bool b) :: rest)] (cwL (.box 901 1) ver l []) (zaG l (zL b) []):=by
 refine kL [901] [910] Tryz.func248 Tryz.ntmps248 fun A hA hX=>?_
 cases b
 all_goals
  refine goC 400 ?_
  simp only [go_sem,hA]
  refine zaA 0 907 rfl ⟨by rw [hX.1];rfl,by rw [hX.2];rfl⟩ rfl rfl _ (by simp only [go_sem];rfl) ?_
  refine gL [901,907] [910] (zcT (.box 901 1) ver l (.inr rfl) _ (by decide) hb) (fun pv h=>(zn h).elim) fun res L' h=>?_
  obtain⟨rfl,ver',rfl⟩:=zm h
  simp only [go_sem,hA,Tryz.results248]
  exact⟨_,rfl,rfl,ver',rfl⟩
theorem zzi (ver:Nat) (l:List UInt8) (b:Bool) (hb:l.length+(zL b).length<=1099511627776):zI Tryz.prog 248 [.box 901 0,.box 908 0] (cwL (.box 901 1) ver l [(908,some (.cell 4 [.d (.raw (.bool b))]))]) (zaG l (zL b) [(908,some (.cell 4 [.d (.raw (.bool b))]))]):=by
 refine kL [901,908] [910] Tryz.func248 Tryz.ntmps248 fun A hA hX=>?_
 cases b
 all_goals
  refine goC 400 ?_
  simp only [go_sem,hA]
  refine zaA 0 907 rfl ⟨by rw [hX.1];rfl,by rw [hX.2];rfl⟩ rfl rfl _ (by simp only [go_sem];rfl) ?_
  refine gL [901,907] [910] (zcT (.box 901 1) ver l (.inr rfl) _ (by decide) hb) (fun pv h=>(zn h).elim) fun res L' h=>?_
  obtain⟨rfl,ver',rfl⟩:=zm h
  simp only [go_sem,hA,Tryz.results248]
  exact⟨_,rfl,rfl,ver',rfl⟩
end
section
open Go Go.RowKit Go.Shelf
attribute [local go_sem] Oper.semAt_some
abbrev zih (l:List ByteArray) (k:Nat):List UInt8:=zb l.length++(l.take k).flatMap zi
theorem zxt (l:List ByteArray) (hl:zjD l) (k:Nat):(zih l k).length<=100000000:=by
 have h1:=zye (l.take k) fun s h=>hl.2 s (List.mem_of_mem_take h)
 have h2:=zat l.length
 have h3:(l.take k).length<=1000:=by rw [List.length_take];have:=hl.1;omega
 have h4:((l.take k).flatMap zi).length<=(l.take k).length * 66049:=h1
 have h5:=hl.1
 rw [List.length_append];omega
theorem zuG (l:List ByteArray) (k:Nat) (h:k<l.length):Lib.byteCells (zih l (k+1))=Lib.byteCells (zih l k)++Lib.byteCells (zb l[k].size)++Lib.strCells l[k]:=by
 unfold zih
 rw [List.take_succ_eq_append_getElem h,List.flatMap_append]
 simp [Lib.byteCells,Lib.strCells,zi]
def zGO (w:World) (l:List ByteArray) (i:Value) (wr:World):Prop:=∃ k:Nat,k<=l.length/\i = .int .i64 k/\Below w.heap.size w wr/\w.heap.size<wr.heap.size/\Lib.IsBuilder 146 5 w.heap.size w.heap.size (Lib.byteCells (zih l k)) wr
theorem zms (l:List ByteArray) (hl:zjD l) (v:Value) (w:World) (hv:zFG w v l):Calls Tryz.prog 278 #[v] w fun e w'=>
  e = .returned (.tuple #[.string ⟨(zaQ l).toArray⟩,.int .i64 0])/\Below w.heap.size w w':=by
 obtain⟨p,cap,rfl,hc,hk⟩:=hv
 have HK:=Lib.hid hk
 have HL:=Lib.hid hl
 have hl1:=hl.1
 clear hk hl
 have g0:decide ((1000:Int)<(l.length:Int))=false:=decide_eq_false (by omega)
 go_enter Tryz.func278,Tryz.ntmps278
 go_wp2_with fail
 go_loop [5,14] (fun _ i=>∃ j:Nat,j<=l.length/\i = .int .i64 j) (fun _ i=>l.length - (intOf i).toNat)
 case atStart=>exact⟨0,by omega,rfl⟩
 case round=>
  obtain⟨j,hj,rfl⟩:=hrel
  by_cases hlt:j<l.length
  ·obtain⟨b,off,rfl,hb,hcc⟩:=HK.out j hlt
   have g1:decide ((65536:Int)<(l[j].size:Int))=false:=decide_eq_false (by have:=HL.out.2 _ (List.getElem_mem hlt);omega)
   generalize l[j]=T at *
   go_wp2_with fail
   go_round
   case rel=>exact⟨j+1,by omega,by go_num⟩
   case measure=>simp [intOf];omega
  ·have HB:=Lib.hid (Lib.fresh_isBuilder 146 5 w)
   go_wp2_with (first | (go_at_call 275;refine(writeInt_any _ _ _ l.length (by omega) _ HB.out (by simp) (by simp) (by simp)).mono ?_;rintro e w1 ⟨rfl,h1,h2,h3⟩;have HC:=Lib.hid h1;have HD:=Lib.hid h2;have HO:=Lib.hid h3;clear h1 h2 h3))
   go_loopw [8,27] (fun _ i wr=>zGO w l i wr) (fun _ i _=>l.length - (intOf i).toNat)
   case atStart=>exact⟨0,by omega,rfl,((Below.refl _ w).alloc (Nat.le_refl _) _).trans HD.out,by have:=HD.out.size;simp at this;omega,by simpa [zih] using HC.out⟩
   case round=>
    obtain⟨k,hk,rfl,hBr,hsz,hbd⟩:=hrel
    have HBD:=Lib.hid hbd
    have HP:=Lib.hid (zxt l HL.out k)
    clear hbd
    by_cases hkl:k<l.length
    ·obtain⟨b,off,rfl,hb,hcc⟩:=HK.out k hkl
     have hcw:wr.cell? ⟨b,off+k,none⟩=some (.string l[k]):=(World.cell?_of_block (w:=w) (a:=⟨b,off+k,none⟩) (hBr.block b hb)).trans hcc
     have HN:=Lib.hid (zuG l k hkl)
     have HT:Hid (l[k].size<=65536):=Lib.hid (HL.out.2 _ (List.getElem_mem hkl))
     have HS:Hid ((zb l[k].size).length<=1000):=Lib.hid (by have:=zat l[k].size;have:=HT.out;omega)
     clear hcc
     generalize l[k]=T at *
     have HBr:=Lib.hid hBr
     go_wp2_with (first | (go_at_call 275;refine(writeInt_any _ _ _ T.size (by have:=HT.out;omega) _ HBD.out (by have:=HP.out;rw [Lib.byteCells_length];omega) (by have:=HBr.out.size;omega) hsz).mono ?_;rintro e w2 ⟨rfl,h1,h2,h3⟩;have HC2:=Lib.hid h1;have HD2:=Lib.hid h2;have HO2:=Lib.hid h3;clear h1 h2 h3) | (go_at_call 276;refine(writeString_any _ _ _ T _ HC2.out (by have:=HP.out;have:=HS.out;have:=HT.out;rw [List.length_append,Lib.byteCells_length,Lib.byteCells_length];omega) (by have:=HBr.out.size;have:=HD2.out.size;omega)).mono ?_;rintro e w3 ⟨rfl,h1,h2,h3⟩;have HC3:=Lib.hid h1;have HD3:=Lib.hid h2;have HO3:=Lib.hid h3;clear h1 h2 h3))
     go_roundw
     case rel=>exact⟨k+1,by omega,by go_num,hBr.trans (HD2.out.trans HD3.out),by have:=HD2.out.size;have:=HD3.out.size;omega,by rw [HN.out];exact HC3.out⟩
     case measure=>simp [intOf];omega
    ·obtain rfl:k=l.length:=by omega
     have HBr:=Lib.hid hBr
     go_wp2_with (first | (go_at_call 112;refine(Tryz.Builder_String_any w.heap.size w.heap.size (zih l l.length) _ (by simpa using HBD.out) (by have:=HBr.out.size;omega)).mono ?_;rintro e w' ⟨rfl,hb⟩;have HE:=Lib.hid hb;clear hb))
     refine bodyPost_ret (v:=.tuple #[.string ⟨(zih l l.length).toArray⟩,.int .i64 0]) (by simp [results,Tryz.results278,go_sem]) rfl ?_
     have hpt:zih l l.length=zaQ l:=by unfold zih;rw [List.take_length];rfl
     rw [hpt]
     exact⟨rfl,HBr.out.trans HE.out⟩
theorem zmt:zeI:=fun l hl=>by
 refine⟨⟨_,Tryz.func278,by decide +kernel,rfl⟩,rfl,fun F w us hF hG hlen hv=>?_⟩
 match us,hlen with
 | [v],_=>
  have h0:=hv 0 (by simp) (by simp)
  simp only [List.getElem_cons_zero] at h0
  unfold zch at h0
  have hr:=h0.sl
  obtain⟨p,cap,rfl,hc⟩:=hr.slice
  rw [zg] at hc hr
  refine(zms l hl _ w ⟨p,cap,by rw [zg],hc,fun i hi=>?_⟩).mono fun e w' h=>⟨_,h.1,zkw _ _,h.2⟩
  obtain⟨b,off,e1,e2⟩:=hr.row i (by rw [zg];exact hi) (st:=1) (by simp [zQ])
  obtain⟨h1,u,h2,h3⟩:=e2 0 (by simp [zQ])
  refine⟨b,off,e1,hF _ _ h1,?_⟩
  rw [Nat.mul_one,Nat.add_zero] at h2
  rw [h2]
  have h4:Reads w (gh0 F).F (.raw (.string l[i])) u:=by simpa [zQ] using h3
  rw [h4.raw_eq]
end
section
open Go Go.RowKit Go.Shelf
attribute [local go_sem] Oper.semAt_some St.ren zhZ zgU AV.ren zdd Blk.ren St.setBlk List.getD_cons_zero
theorem zya {l:List ByteArray} (hl:zjD l) (t:List UInt8):zwA ⟨(zaQ l++t).toArray⟩=(l,(zaQ l).length,0):=by
 have go:∀ (m:List ByteArray) (p:Nat) (acc:List ByteArray) (s:List UInt8),(∀ x ∈ m,x.size<=65536)->s.drop p=m.flatMap zi++t->p<=s.length->tsGo ⟨s.toArray⟩ m.length p acc=(acc++m,p+(m.flatMap zi).length,0):=by
  intro m
  induction m with
  | nil=>intro p acc s _ _ _;simp [tsGo]
  | cons x m ih=>
   intro p acc s hm hs hp
   have e1:(⟨s.toArray⟩:ByteArray).extract p (⟨s.toArray⟩:ByteArray).size=⟨(zi x++(m.flatMap zi++t)).toArray⟩:=by rw [znr,hs,List.flatMap_cons,List.append_assoc]
   rw [List.length_cons,tsGo,e1,zhp (hm x (.head _))]
   have h1:(s.drop p).drop (zi x).length=m.flatMap zi++t:=by rw [hs,List.flatMap_cons,List.append_assoc,List.drop_left]
   rw [List.drop_drop] at h1
   have h2:p+(zi x).length<=s.length:=by
    have:=congrArg List.length hs
    rw [List.length_drop,List.flatMap_cons,List.append_assoc,List.length_append] at this;omega
   simp only [ne_eq,not_true_eq_false,if_false]
   rw [ih _ _ s (fun y hy=>hm y (.tail _ hy)) h1 h2,List.flatMap_cons,List.length_append,List.append_assoc,List.singleton_append,Nat.add_assoc]
 have hp:zaQ l=zb l.length++l.flatMap zi:=rfl
 have h0:zbx ⟨(zaQ l++t).toArray⟩=(l.length,(zb l.length).length,0):=by rw [hp,List.append_assoc];exact zfT (by have:=hl.1;omega) _
 have h1:=go l (zb l.length).length [] (zaQ l++t) hl.2 (by rw [hp,List.append_assoc,List.drop_left]) (by rw [hp];simp)
 unfold zwA
 rw [h0,if_neg (by simp),if_neg (by have:=hl.1;simp only;omega),h1,hp]
 simp
abbrev zgR (s:List UInt8):Blk:=.cell 148 [.d (.raw (.bool false)),.d (.raw (.pointer none)),.d (.raw (.slice none 0 0)),.d (.raw (.string ⟨s.toArray⟩)),.d (.raw (.bool false))]
abbrev crL (s:List UInt8) (bs:List (Nat × Option Blk)):Lent:=⟨(901,some (zgR s)) :: bs,[]⟩
def zG (s:List UInt8) (bs:List (Nat × Option Blk)) (o:Out):Prop:=o = .ret (.tup []) (crL s bs)
theorem zf {s:List UInt8} {bs:List (Nat × Option Blk)} {v:Value} (h:zG s bs (.pan v)):False:=by cases h
def mdB (pre:List D) (x:D) (post:List D):List AV:=(pre++x :: post).map AV.d
theorem zAg (pre:List D) (x:D) (post:List D):(mdB pre x post).drop pre.length = .d x :: post.map AV.d:=by
 unfold mdB
 rw [List.map_append,List.drop_left' (by simp)];rfl
theorem zve (pre:List D) (x:D) (post:List D):(mdB pre x post).length=pre.length+(post.length+1):=by simp [mdB]
theorem zlE (pre:List D) (x y:D) (post:List D):List.take pre.length (mdB pre x post)++[.d y]++List.drop (pre.length+1) (mdB pre x post)=mdB pre y post:=by
 unfold mdB
 rw [List.map_append,List.map_append,List.take_left' (by simp),<- List.drop_drop,List.drop_left' (by simp)]
 simp
theorem zqA (pre:List D) (x:D) (post:List D):decide (pre.length+1<=(mdB pre x post).length)=true:=by
 rw [zve];exact decide_eq_true (by omega)
theorem zBU (h:Nat->Bool):∀ l:List D,(l.map AV.d).all (AV.lentOk h)=true
 | []=>rfl
 | x :: l=>by rw [List.map_cons,List.all_cons,zBU h l];rfl
theorem zqz (h:Nat->Bool) (pre:List D) (x:D) (post:List D):(mdB pre x post).all (AV.lentOk h)=true:=zBU h _
theorem zvd (r:Nat):∀ l:List D,zbq r (l.map AV.d)=false
 | []=>rfl
 | x :: l=>by rw [List.map_cons,zbq,zvd r l];rfl
theorem zsJ (r:Nat) (pre:List D) (x:D) (post:List D):zbq r (mdB pre x post)=false:=zvd r _
theorem zzz (q r:Nat):∀ l:List D,zdd q r (l.map AV.d)=l.map AV.d
 | []=>rfl
 | x :: l=>by rw [List.map_cons,zdd,zzz q r l];rfl
theorem zCQ (q r:Nat) (pre:List D) (x:D) (post:List D):zdd q r (mdB pre x post)=mdB pre x post:=zzz q r _
theorem zAH (l:List UInt8) (a:Nat):(⟨l.toArray⟩:ByteArray).extract a l.length=⟨(l.drop a).toArray⟩:=by
 have:=znr l a
 rwa [zbm] at this
theorem ztX (s:List UInt8) (n:Nat) (hn:n<=s.length):zI Tryz.prog 277 [.box 901 0,.d (.raw (.int .i64 n)),.d (.raw (.int .i64 0))] (crL s []) (zG (s.drop n) []):=by
 refine kL [901] [] Tryz.func277 Tryz.ntmps277 fun A hA hX=>?_
 refine goC 400 ?_
 simp only [go_sem,hA,Int.toNat_natCast,zbm,zAH,Tryz.results277]
 exact⟨⟨by omega,by omega,by omega⟩,_,rfl,rfl,rfl⟩
theorem zsC (q:Nat) (hq:q=902\/q=903\/q=907) (ty:TypeId) (pre post:List D) (x:D) (n:Nat) (hn:n<=1099511627776) (t:List UInt8) (hb:(zb n++t).length<=1048576):zI Tryz.prog 243 [.box 901 0,.box q pre.length] (crL (zb n++t) [(q,some (.cell ty (mdB pre x post)))]) (zG t [(q,some (.cell ty (mdB pre (.raw (.int .i64 n)) post)))]):=by
 have hsz:(⟨(zb n++t).toArray⟩:ByteArray).size<=1048576:=by rw [zbm];exact hb
 have hg:=zjB ⟨(zb n++t).toArray⟩ hsz
 rw [zfT hn] at hg
 have ht:=ztX (zb n++t) (zb n).length (by simp)
 rw [List.drop_left] at ht
 rcases hq with rfl | rfl | rfl
 all_goals
  first | refine kL [901,902] [] Tryz.func243 Tryz.ntmps243 fun A hA hX=>?_ | refine kL [901,903] [] Tryz.func243 Tryz.ntmps243 fun A hA hX=>?_ | refine kL [901,907] [] Tryz.func243 Tryz.ntmps243 fun A hA hX=>?_
  refine goC 400 ?_
  simp only [go_sem,hA]
  refine gC hg ?_
  simp only [go_sem,hA,zqA,zlE]
  refine gL [901] [] ht (fun pv h=>by cases h) fun res L' h=>?_
  cases h
  simp only [go_sem,Tryz.results243]
  exact⟨_,rfl,rfl,by simp only [zqz],rfl⟩
theorem zeK (q:Nat) (hq:q=902\/q=903\/q=907) (ty:TypeId) (pre post:List D) (x:D) (s:ByteArray) (hs:s.size<=65536) (t:List UInt8) (hb:(zi s++t).length<=1048576):zI Tryz.prog 244 [.box 901 0,.box q pre.length] (crL (zi s++t) [(q,some (.cell ty (mdB pre x post)))]) (zG t [(q,some (.cell ty (mdB pre (.raw (.string s)) post)))]):=by
 have hsz:(⟨(zi s++t).toArray⟩:ByteArray).size<=1048576:=by rw [zbm];exact hb
 have hg:=zky ⟨(zi s++t).toArray⟩ hsz
 rw [zhp hs] at hg
 have ht:=ztX (zi s++t) (zi s).length (by simp)
 rw [List.drop_left] at ht
 rcases hq with rfl | rfl | rfl
 all_goals
  first | refine kL [901,902] [] Tryz.func244 Tryz.ntmps244 fun A hA hX=>?_ | refine kL [901,903] [] Tryz.func244 Tryz.ntmps244 fun A hA hX=>?_ | refine kL [901,907] [] Tryz.func244 Tryz.ntmps244 fun A hA hX=>?_
  refine goC 400 ?_
  simp only [go_sem,hA]
  refine gC hg ?_
  simp only [go_sem,hA,zqA,zlE]
  refine gL [901] [] ht (fun pv h=>by cases h) fun res L' h=>?_
  cases h
  simp only [go_sem,Tryz.results244]
  exact⟨_,rfl,rfl,by simp only [zqz],rfl⟩
theorem zvT (q:Nat) (hq:q=902\/q=903\/q=907) (ty:TypeId) (pre post:List D) (x:D) (l:List ByteArray) (hl:zjD l) (t:List UInt8) (hb:(zaQ l++t).length<=1048576):zI Tryz.prog 245 [.box 901 0,.box q pre.length] (crL (zaQ l++t) [(q,some (.cell ty (mdB pre x post)))]) (zG t [(q,some (.cell ty (mdB pre (.sl (zQ l)) post)))]):=by
 have hsz:(⟨(zaQ l++t).toArray⟩:ByteArray).size<=1048576:=by rw [zbm];exact hb
 have hg:=zvs ⟨(zaQ l++t).toArray⟩ hsz
 rw [zya hl] at hg
 have ht:=ztX (zaQ l++t) (zaQ l).length (by simp)
 rw [List.drop_left] at ht
 rcases hq with rfl | rfl | rfl
 all_goals
  first | refine kL [901,902] [] Tryz.func245 Tryz.ntmps245 fun A hA hX=>?_ | refine kL [901,903] [] Tryz.func245 Tryz.ntmps245 fun A hA hX=>?_ | refine kL [901,907] [] Tryz.func245 Tryz.ntmps245 fun A hA hX=>?_
  refine goC 400 ?_
  simp only [go_sem,hA]
  refine gC hg ?_
  simp only [go_sem,hA,zqA,zlE]
  refine gL [901] [] ht (fun pv h=>by cases h) fun res L' h=>?_
  cases h
  simp only [go_sem,Tryz.results245]
  exact⟨_,rfl,rfl,by simp only [zqz],rfl⟩
theorem zdT (n:Nat) (hn:n<=1099511627776) (t:List UInt8) (hb:(zb n++t).length<=1048576):zI Tryz.prog 243 [.box 901 0,.box 907 0] (crL (zb n++t) [(907,some (.cell 3 [.d (.raw (.int .i64 0))]))]) (zG t [(907,some (.cell 3 [.d (.raw (.int .i64 n))]))]):=zsC 907 (.inr (.inr rfl)) 3 [] [] (.raw (.int .i64 0)) n hn t hb
theorem zhF (q:Nat) (hq:q=902\/q=903\/q=908) (ty:TypeId) (pre post:List D) (b:Bool) (t:List UInt8) (hb:(zL b++t).length<=1048576):zI Tryz.prog 248 [.box 901 0,.box q pre.length] (crL (zL b++t) [(q,some (.cell ty (mdB pre (.raw (.bool false)) post)))]) (zG t [(q,some (.cell ty (mdB pre (.raw (.bool b)) post)))]):=by
 have hn:=zdT (if b then 1 else 0) (by split <;> decide) t hb
 rcases hq with rfl | rfl | rfl
 all_goals
  first | refine kL [901,902] [] Tryz.func248 Tryz.ntmps248 fun A hA hX=>?_ | refine kL [901,903] [] Tryz.func248 Tryz.ntmps248 fun A hA hX=>?_ | refine kL [901,908] [] Tryz.func248 Tryz.ntmps248 fun A hA hX=>?_
  refine goC 400 ?_
  simp only [go_sem,hA,zAg,zsJ,List.getElem?_cons_zero]
  refine zaA 0 907 rfl ⟨by rw [hX.1];rfl,by rw [hX.2];rfl⟩ (by simp only [go_sem,zai,zP,zsJ]) rfl _ (by simp only [go_sem,zCQ];rfl) ?_
  refine gL [901,907] [] hn (fun pv h=>by cases h) fun res L' h=>?_
  cases h
  cases b
  all_goals
   simp only [go_sem,hA,zqA,zlE,Tryz.results248]
   exact⟨_,rfl,rfl,by simp only [zqz],rfl⟩
end
end Go.Proofs.YtpnjjmcimjlfkaaGreatDoor
