/- Texts of this proof, part 12: what the proof uses of them. -/
import Derived.Test.YtpnjjmcimjlfkaaGreatDoorDak
import Derived.Test.YtpnjjmcimjlfkaaGreatDoorDai
import Derived.Test.YtpnjjmcimjlfkaaGreatDoorDaf
import Derived.Lib.ItoaNum
import Derived.Lib.ItoaLen
import Derived.Shelf.Strings.Builder1
import Derived.Shelf.Small.Strs
import Derived.Shelf.Strings.BuilderF
import Derived.Shelf.Strings.BuilderK
import Derived.Shelf.Strconv.Itoa0
import Derived.Shelf.Strconv.Itoa1
import Derived.Shelf.LaysM
import Derived.Shelf.Strconv.Itoa2
import Derived.Shelf.Strconv.Itoa3
import Derived.Shelf.Strings.Search1
import Derived.Shelf.Strings.Search2
import Derived.Shelf.Strings.Search3
import Derived.Shelf.Strings.Shaped
import Derived.Shelf.Strings.Prefix
import Derived.Shelf.Unicode.DecodeSlow
import Derived.Shelf.Strings.BuilderCap
import Derived.Shelf.Slices.Turned
import Derived.Ground.Names2Prog
import Derived.Shelf.Slices.Clone
import Derived.Ground.SlgnProg
import Derived.Shelf.SlicesE.Clone
import Derived.Test.YtpnjjmcimjlfkaaGreatDoorProg
import Derived.Test.YtpnjjmcimjlfkaaGreatDoorDag
import Derived.Lib.Builder
import Derived.Lib.AppendStr
import Derived.Lib.UnsafeStr
import Derived.WalkKit
import Derived.Laws.Externs
import Derived.Lib.Hide
set_option maxRecDepth 100000
set_option maxHeartbeats 64000000
namespace Go.Proofs.YtpnjjmcimjlfkaaGreatDoor
section
open Go.RowKit
theorem zqW {a:Ex} {xa:XV} {w:World} (ha:XAt w a xa) (hsz:nodesE a≤1048576) :
  Calls Tryz.prog 137 #[.agg xa.arr] w fun e w'=>e = .returned (.int .i64 (zB a))∧Below w.heap.size w w':=by
 obtain⟨ea,ha⟩:=ziY ha
 rw [ea]
 rw [zcs] at hsz
 have h:=zmW a.kind a.name a.more a.int a.den a.sub _ w (by omega) ha
 rw [Ex.eta] at h
 exact h
end
section
open Go Go.RowKit
theorem zrZ {P:Program} {f:FuncId} {s:ByteArray} {r:Value} (he:zdm P f) (h:∀ (w:World),Calls P f #[.string s] w fun e w'=>e = .returned r∧Below w.heap.size w w'):Con P f [.d (.raw (.string s))] (.d (.raw r)):=by
 refine⟨he,rfl,fun F w vs hF _ hl hv=>?_⟩
 match vs,hl with
 | [v],_=>
  have h0:=hv 0 (by simp) (by simp)
  simp only [List.getElem_cons_zero] at h0
  unfold zcw at h0
  rw [h0.raw_eq]
  exact(h w).mono fun e w' h'=>⟨r,h'.1,.d (.raw _),h'.2⟩
theorem zeV (s:ByteArray):Con Tryz.prog 148 [.d (.raw (.string s))] (.d (.raw (.bool (zI s)))):=zrZ ⟨_,Tryz.func148,by decide +kernel,rfl⟩ fun w=>zyU s w
theorem zhb (s:ByteArray):Con Tryz.prog 82 [.d (.raw (.string s))] (.d (.raw (.bool (zX s.data.toList)))):=zrZ ⟨_,Tryz.func82,by decide +kernel,rfl⟩ fun w=>(zvG s w).mono fun e w' h=>⟨h.1,h.2 ▸ Below.refl _ _⟩
theorem ztc (a:Ex) (hsz:nodesE a≤1048576):Con Tryz.prog 208 [avE a] (.d (.raw (.int .i64 (nodesE a)))):=zoz ⟨_,Tryz.func208,by decide +kernel,rfl⟩ fun x w ha=>by
 obtain⟨ea,ha⟩:=ziY ha
 rw [ea]
 rw [zcs] at hsz ⊢
 exact zvF (nodesL a.sub+1) a.kind a.name a.more a.int a.den a.sub _ w (by omega) (by omega) ha
theorem zAU (a:Ex) (hsz:nodesE a≤1048576):Con Tryz.prog 266 [avE a] (.d (.raw (.int .i64 (depthE a)))):=zoz ⟨_,Tryz.func266,by decide +kernel,rfl⟩ fun x w ha=>by
 obtain⟨ea,ha⟩:=ziY ha
 rw [ea]
 rw [zcs] at hsz
 rw [zqt]
 exact zvI (nodesL a.sub+1) a.kind a.name a.more a.int a.den a.sub _ w (by omega) (by omega) ha
abbrev zxp (k:Int) (n m:ByteArray) (i d:Int) (s:List Ex) (q:Nat):St:=⟨[(1,.box 0 0),(3,.d (.raw (.int .i64 q)))],[(0,some (.cell 105 (zcX k n m i d s)))],[]⟩
theorem rLong_step (N:Nat) (ih:∀ t:Ex,nodesE t<N→nodesE t≤1048576→Con Tryz.prog 209 [avE t] (.d (.raw (.bool (zjA t)))))
  (k:Int) (n m:ByteArray) (i d:Int) (s:List Ex) (hN:nodesE (.mk k n m i d s)<N+1) (hb:nodesE (.mk k n m i d s)≤1048576):Con Tryz.prog 209 [avE (.mk k n m i d s)] (.d (.raw (.bool (zjA (.mk k n m i d s))))):=by
 rw [nodesE] at hN hb
 have hlen:=zC s
 refine zh Tryz.func209 rfl (by decide +kernel) rfl (by simp only [AV.closed,zt,avE,zU,Bool.and_self]) (by simp [Tryz.ntmps209]) fun A hA=>?_
 rw [Tryz.ntmps209] at hA
 refine goC 300 ?_
 rw [zjA]
 have c1:decide (100<n.size)=decide ((100:Int)<(n.size:Int)):=decide_eq_decide.2 (by omega)
 have c2:decide (100<m.size)=decide ((100:Int)<(m.size:Int)):=decide_eq_decide.2 (by omega)
 rw [c1,c2]
 cases g1:decide ((100:Int)<(n.size:Int)) with
 | true=>simp only [go_sem,hA,avE,zaZ,g1,undef,Bool.true_or,Tryz.results209]
 | false=>
 cases g2:decide ((100:Int)<(m.size:Int)) with
 | true=>simp only [go_sem,hA,avE,zaZ,g1,g2,Bool.true_or,Bool.false_or,Tryz.results209]
 | false=>
 simp only [go_sem,hA,avE,zaZ,g1,g2,Bool.false_or]
 refine zd [1,3] [0] [] (fun x σ=>∃ q:Nat,q≤s.length∧x=s.length - q∧zgP (s.take q)=false∧σ=zxp k n m i d s q) s.length ⟨0,by omega,by omega,rfl,by simp only [go_sem,zxp]⟩ ?_
 rintro x σ ⟨q,hq,rfl,hf,rfl⟩
 refine goC 300 ?_
 by_cases hlt:q<s.length
 ·have k1:decide ((q:Int)<(s.length:Int))=true:=decide_eq_true (by omega)
  have hn1:=zam s q hlt
  simp only [go_sem,hA,zxp,zg,k1,Int.toNat_natCast,zap s q hlt]
  refine⟨⟨by omega,by omega⟩,?_⟩
  refine zb 300 (ih s[q] (by omega) (by omega)) rfl (by simp only [go_sem,zl]) (by simp only [go_sem,hA]) ?_
  cases he:zjA s[q] with
  | true=>simp only [go_sem,hA,zBv hlt he,Tryz.results209]
  | false=>
   simp only [go_sem,hA]
   exact⟨by unfold zc;omega,s.length - (q+1),by omega,q+1,by omega,rfl,by rw [zgO s q hlt,hf,he];rfl,rfl⟩
 ·have k1:decide ((q:Int)<(s.length:Int))=false:=decide_eq_false (by omega)
  obtain rfl:q=s.length:=by omega
  rw [List.take_length] at hf
  simp only [go_sem,hA,zxp,zg,k1,hf,Tryz.results209]
theorem zDP (N:Nat):∀ t:Ex,nodesE t<N→nodesE t≤1048576→Con Tryz.prog 209 [avE t] (.d (.raw (.bool (zjA t)))):=by
 induction N with
 | zero=>intro t h;omega
 | succ N ih=>intro t h hb;cases t;exact rLong_step N ih _ _ _ _ _ _ h hb
theorem zAT (a:Ex) (hsz:nodesE a≤1048576):Con Tryz.prog 131 [avE a] (.d (.raw (.bool (zol a)))):=by
 refine zh Tryz.func131 rfl (by decide +kernel) rfl (by simp only [AV.closed,zt,avE,zU,Bool.and_self]) (by simp [Tryz.ntmps131]) fun A hA=>?_
 rw [Tryz.ntmps131] at hA
 have c1:decide (40<nodesE a)=decide ((40:Int)<(nodesE a:Int)):=decide_eq_decide.2 (by omega)
 refine goC 300 ?_
 unfold zol
 rw [c1]
 simp only [go_sem,hA,zl]
 refine zb 300 (ztc a hsz) rfl (by simp only [go_sem,zl]) (by simp only [go_sem,hA]) ?_
 cases g1:decide ((40:Int)<(nodesE a:Int)) with
 | true=>simp only [go_sem,hA,g1,undef,Bool.true_or,Tryz.results131]
 | false=>
  simp only [go_sem,hA,g1,Bool.false_or]
  refine zb 300 (zDP (nodesE a+1) a (by omega) hsz) rfl (by simp only [go_sem,zl]) (by simp only [go_sem,hA]) ?_
  simp only [go_sem,hA,Tryz.results131]
abbrev zxn (k:Int) (n m:ByteArray) (i d:Int) (s:List Ex) (k':Int) (n' m':ByteArray) (i' d':Int) (s':List Ex) (q:Nat):St:=⟨[(2,.box 0 0),(3,.box 1 0),(5,.d (.raw (.int .i64 q)))],[(0,some (.cell 105 (zcX k n m i d s))),(1,some (.cell 105 (zcX k' n' m' i' d' s')))],[]⟩
theorem rSame_step (N:Nat) (ih:∀ t u:Ex,nodesE t<N→nodesE t≤1099511627776→Con Tryz.prog 272 [avE t,avE u] (.d (.raw (.bool (zeS t u)))))
  (k:Int) (n m:ByteArray) (i d:Int) (s:List Ex) (k':Int) (n' m':ByteArray) (i' d':Int) (s':List Ex) (hN:nodesE (.mk k n m i d s)<N+1) (hb:nodesE (.mk k n m i d s)≤1099511627776) :
  Con Tryz.prog 272 [avE (.mk k n m i d s),avE (.mk k' n' m' i' d' s')] (.d (.raw (.bool (zeS (.mk k n m i d s) (.mk k' n' m' i' d' s'))))):=by
 rw [nodesE] at hN hb
 have hlen:=zC s
 refine zh Tryz.func272 rfl (by decide +kernel) rfl (by simp only [AV.closed,zt,avE,zU,Bool.and_self]) (by simp [Tryz.ntmps272]) fun A hA=>?_
 rw [Tryz.ntmps272] at hA
 refine goC 300 ?_
 rw [zeS]
 by_cases hk:k=k'
 case neg=>
  have gk:(decide ¬ k=k')=true:=decide_eq_true hk
  simp only [go_sem,hA,avE,zaZ,gk,undef,decide_eq_false hk,Bool.false_and,Bool.and_false,Tryz.results272]
 have gk:(decide ¬ k=k')=false:=by simp [hk]
 by_cases hn:n=n'
 case neg=>
  have gn:(decide ¬ n=n')=true:=decide_eq_true hn
  simp only [go_sem,hA,avE,zaZ,gk,gn,undef,decide_eq_false hn,Bool.false_and,Bool.and_false,Tryz.results272]
 have gn:(decide ¬ n=n')=false:=by simp [hn]
 by_cases hm:m=m'
 case neg=>
  have gm:(decide ¬ m=m')=true:=decide_eq_true hm
  simp only [go_sem,hA,avE,zaZ,gk,gn,gm,undef,decide_eq_false hm,Bool.false_and,Bool.and_false,Tryz.results272]
 have gm:(decide ¬ m=m')=false:=by simp [hm]
 by_cases hi:i=i'
 case neg=>
  have gi:(decide ¬ i=i')=true:=decide_eq_true hi
  simp only [go_sem,hA,avE,zaZ,gk,gn,gm,gi,undef,decide_eq_false hi,Bool.false_and,Bool.and_false,Tryz.results272]
 have gi:(decide ¬ i=i')=false:=by simp [hi]
 by_cases hd:d=d'
 case neg=>
  have gd:(decide ¬ d=d')=true:=decide_eq_true hd
  simp only [go_sem,hA,avE,zaZ,gk,gn,gm,gi,gd,undef,decide_eq_false hd,Bool.false_and,Bool.and_false,Tryz.results272]
 have gd:(decide ¬ d=d')=false:=by simp [hd]
 rw [decide_eq_true hk,decide_eq_true hn,decide_eq_true hm,decide_eq_true hi,decide_eq_true hd]
 simp only [Bool.true_and]
 by_cases hl:s.length=s'.length
 case neg=>
  have gl:(decide ¬ (s.length:Int)=(s'.length:Int))=true:=decide_eq_true (by omega)
  have hr:zcK s s'=false:=by
   cases hs:zcK s s' with
   | false=>rfl
   | true=>exact absurd (by rw [(zhF s s').1 hs]) hl
  simp only [go_sem,hA,avE,zaZ,gk,gn,gm,gi,gd,gl,zg,hr,Tryz.results272]
 have gl:(decide ¬ (s.length:Int)=(s'.length:Int))=false:=by simp [hl]
 simp only [go_sem,hA,avE,zaZ,gk,gn,gm,gi,gd,gl,zg]
 refine zd [2,3,5] [0,1] [] (fun x σ=>∃ q:Nat,q≤s.length∧x=s.length - q∧zcK (s.take q) (s'.take q)=true∧σ=zxn k n m i d s k' n' m' i' d' s' q) s.length ⟨0,by omega,by omega,rfl,by simp only [go_sem,zxn]⟩ ?_
 rintro x σ ⟨q,hq,rfl,hf,rfl⟩
 refine goC 300 ?_
 by_cases hlt:q<s.length
 ·have k1:decide ((q:Int)<(s.length:Int))=true:=decide_eq_true (by omega)
  have hlt':q<s'.length:=by omega
  have hn1:=zam s q hlt
  have hts:=zlU s s' q hlt hlt'
  simp only [go_sem,hA,zxn,zg,k1,Int.toNat_natCast,zap s q hlt,zap s' q hlt',mixed]
  refine⟨⟨by omega,by omega⟩,⟨by omega,by omega⟩,?_⟩
  refine zbO 300 (ih s[q] s'[q] (by omega) (by omega)) rfl (by simp only [go_sem,zl]) (by simp only [go_sem,hA]) ?_
  cases he:zeS s[q] s'[q] with
  | true=>
   rw [he,hf] at hts
   simp only [go_sem,hA]
   exact⟨by show chk _ _ _=true;kernel_rfl,by unfold zc;omega,s.length - (q+1),by omega,q+1,by omega,rfl,hts,rfl⟩
  | false=>
   have hr:zcK s s'=false:=by
    cases hs:zcK s s' with
    | false=>rfl
    | true=>
     have e:=(zhF s s').1 hs
     subst e
     rw [zvs] at he
     cases he
   simp only [go_sem,hA,hr,Tryz.results272]
   show chk _ _ _=true
   kernel_rfl
 ·have k1:decide ((q:Int)<(s.length:Int))=false:=decide_eq_false (by omega)
  obtain rfl:q=s.length:=by omega
  rw [List.take_length,hl,List.take_length] at hf
  simp only [go_sem,hA,zxn,zg,k1,hf,Tryz.results272]
theorem zDN (N:Nat):∀ t u:Ex,nodesE t<N→nodesE t≤1099511627776→Con Tryz.prog 272 [avE t,avE u] (.d (.raw (.bool (zeS t u)))):=by
 induction N with
 | zero=>intro t u h;omega
 | succ N ih=>intro t u h hb;cases t;cases u;exact rSame_step N ih _ _ _ _ _ _ _ _ _ _ _ _ h hb
theorem zDO (a b:Ex) (hsz:nodesE a≤1099511627776):Con Tryz.prog 272 [avE a,avE b] (.d (.raw (.bool (zeS a b)))):=zDN (nodesE a+1) a b (by omega) hsz
def shB:Option (Nat × Nat × Nat)→List AV
 | some (a,b,c)=>[.d (.raw (.bool (decide (1≤a)))),.d (.raw (.bool (decide (2≤a)))),.d (.raw (.bool (decide (1≤b)))),.d (.raw (.bool (decide (2≤b)))),.d (.raw (.int .i64 c))]
 | none=>[.d (.raw (.bool false)),.d (.raw (.bool false)),.d (.raw (.bool false)),.d (.raw (.bool false)),.d (.raw (.int .i64 0))]
theorem zvq (o:Option (Nat × Nat × Nat)):zt (shB o)=true:=by cases o <;> rfl
theorem zAM (k:Int):Con Tryz.prog 302 [.d (.raw (.int .i64 k))] (.tup [.agg (shB (zaU k)),.d (.raw (.bool (zaU k).isSome))]):=by
 refine zh Tryz.func302 rfl (by decide +kernel) (by simp only [AV.closed,zt,zvq,Bool.and_self]) rfl (by simp [Tryz.ntmps302]) fun A hA=>?_
 rw [Tryz.ntmps302] at hA
 refine goC 400 ?_
 have h:k=1∨k=2∨k=3∨k=4∨k=5∨k=6∨k=7∨k=8∨k=9∨k=10∨k=11∨k=12∨k=13∨k=14∨k=15∨(¬ k=1∧¬ k=2∧¬ k=3∧¬ k=4∧¬ k=5∧¬ k=6∧¬ k=7∧¬ k=8∧¬ k=9∧¬ k=10∧¬ k=11∧¬ k=12∧¬ k=13∧¬ k=14∧¬ k=15):=by omega
 rcases h with rfl | rfl | rfl | rfl | rfl | rfl | rfl | rfl | rfl | rfl | rfl | rfl | rfl | rfl | rfl | ⟨h1,h2,h3,h4,h5,h6,h7,h8,h9,h10,h11,h12,h13,h14,h15⟩
 case' inr.inr.inr.inr.inr.inr.inr.inr.inr.inr.inr.inr.inr.inr.inr=>
  have e:zaU k=none:=by unfold zaU;simp only [h1,h2,h3,h4,h5,h6,h7,h8,h9,h10,h11,h12,h13,h14,h15,if_false]
  rw [e]
  simp only [go_sem,hA,h1,h2,h3,h4,h5,h6,h7,h8,h9,h10,h11,h12,h13,h14,h15,decide_false,Tryz.results302]
 all_goals first | rfl | (simp only [go_sem,hA,Int.reduceEq,decide_true,decide_false,Tryz.results302] <;> rfl)
theorem zyS (t:Ex):Con Tryz.prog 304 [avE t] (.d (.raw (.bool (zao t.kind t.int t.den)))):=by
 refine zh Tryz.func304 rfl (by decide +kernel) rfl (by simp only [AV.closed,zt,avE,zU,Bool.and_self]) (by simp [Tryz.ntmps304]) fun A hA=>?_
 rw [Tryz.ntmps304] at hA
 refine goC 400 ?_
 unfold zao
 by_cases h1:t.kind=1
 ·rw [if_pos h1]
  cases a1:decide (-999999999≤t.int) <;> simp only [go_sem,hA,zl,h1,a1,undef,decide_true,Bool.true_and,Bool.false_and,Tryz.results304]
 rw [if_neg h1]
 by_cases h2:t.kind=2
 ·rw [if_pos h2]
  cases a1:decide (t.int=0) <;> simp only [go_sem,hA,zl,h2,a1,undef,Int.reduceEq,decide_true,decide_false,Bool.true_or,Bool.false_or,Tryz.results304]
 rw [if_neg h2]
 by_cases h5:t.kind=5
 ·rw [if_pos h5]
  cases a1:decide (1≤t.int) <;> simp only [go_sem,hA,zl,h5,a1,undef,Int.reduceEq,decide_true,decide_false,Bool.true_and,Bool.false_and,Tryz.results304]
 rw [if_neg h5]
 by_cases h14:t.kind=14
 ·rw [if_pos h14]
  cases a1:decide (1≤t.den) <;> cases a2:decide (t.den≤999999) <;> cases a3:decide (0≤t.int) <;> simp only [go_sem,hA,zl,h14,a1,a2,a3,undef,Int.reduceEq,decide_true,decide_false,Bool.true_and,Bool.false_and,Bool.and_false,Tryz.results304]
 rw [if_neg h14]
 have d1:=decide_eq_false h1
 have d2:=decide_eq_false h2
 have d5:=decide_eq_false h5
 have d14:=decide_eq_false h14
 simp only [go_sem,hA,zl,d1,d2,d5,d14,Tryz.results304]
theorem ziU (s:ByteArray):decide (s.size=0)=decide (s=⟨#[]⟩):=by
 refine decide_eq_decide.2 ⟨fun h=>zbW h,fun h=>by rw [h];rfl⟩
theorem zBI (s:ByteArray):Con Tryz.prog 228 [.d (.sl (zv zdp)),.d (.raw (.string s))] (.d (.raw (.bool (zgs zdp s)))):=zAR zdp s (by decide)
theorem zAP (t:Ex) (b0 b1 b2 b3:Bool) (ns:Int):Con Tryz.prog 303 [avE t,.agg [.d (.raw (.bool b0)),.d (.raw (.bool b1)),.d (.raw (.bool b2)),.d (.raw (.bool b3)),.d (.raw (.int .i64 ns))]] (.d (.raw (.bool (zag t.kind t.name t.more b0 b1)))):=by
 refine zh Tryz.func303 rfl (by decide +kernel) rfl (by simp only [AV.closed,zt,avE,zU,Bool.and_self]) (by simp [Tryz.ntmps303]) fun A hA=>?_
 rw [Tryz.ntmps303] at hA
 unfold zag zas
 have e:∀ b:Bool,(b=true∧zI t.more=false)∨((!b || zI t.more)=true∧(b=false∨(b=true∧zI t.more=true))):=fun b=>by cases b <;> cases zI t.more <;> simp
 rw [ziU]
 refine ztX 400 [2,3] [0,1] [] (fun σ=>σ=(⟨[(2,.box 0 0),(3,.box 1 0)],[(0,some (.cell 105 (zcX t.kind t.name t.more t.int t.den t.sub))),(1,some (.cell 326 [.d (.raw (.bool b0)),.d (.raw (.bool b1)),.d (.raw (.bool b2)),.d (.raw (.bool b3)),.d (.raw (.int .i64 ns))]))],[]⟩:St)) (by simp only [go_sem,hA,zl]) ?_
 rintro σ rfl
 refine goC 400 ?_
 rcases e b1 with⟨rfl,hm⟩ | ⟨hb,hm⟩
 ·rw [hm]
  simp only [go_sem,hA]
  refine zb 400 (zeV t.more) rfl (by simp only [go_sem]) (by simp only [go_sem,hA]) ?_
  rw [hm]
  simp only [go_sem,hA,Bool.false_or,Bool.false_and,Tryz.results303]
 rw [hb,Bool.true_and]
 rcases hm with rfl | ⟨rfl,hm⟩
 case' inr=>
  simp only [go_sem,hA]
  refine zb 400 (zeV t.more) rfl (by simp only [go_sem]) (by simp only [go_sem,hA]) ?_
  rw [hm]
 all_goals
  by_cases h5:t.kind=5
  ·rw [if_pos h5]
   have d5:=decide_eq_true h5
   cases a1:decide (t.name=⟨#[]⟩) with
   | true=>simp only [go_sem,hA,d5,a1,undef,Bool.true_or,Tryz.results303]
   | false=>
    simp only [go_sem,hA,d5,a1,undef,Bool.false_or]
    refine zb 400 (zhb t.name) rfl (by simp only [go_sem]) (by simp only [go_sem,hA]) ?_
    simp only [go_sem,hA,Tryz.results303]
  rw [if_neg h5]
  have d5:=decide_eq_false h5
  by_cases h10:t.kind=10
  ·rw [if_pos h10]
   have d10:=decide_eq_true h10
   simp only [go_sem,hA,d5,d10,undef]
   refine zb 400 (zBI t.name) rfl (by simp only [go_sem] <;> rfl) (by simp only [go_sem,hA]) ?_
   simp only [go_sem,hA,Tryz.results303]
  rw [if_neg h10]
  have d10:=decide_eq_false h10
  cases b0 with
  | false=>simp only [go_sem,hA,d5,d10,undef,Bool.not_false,Bool.true_or,Tryz.results303]
  | true=>
   simp only [go_sem,hA,d5,d10,undef,Bool.not_true,Bool.false_or]
   refine zb 400 (zeV t.name) rfl (by simp only [go_sem]) (by simp only [go_sem,hA]) ?_
   simp only [go_sem,hA,Tryz.results303]
theorem zuA {l:List Ex} {q:Nat} (hq:q<l.length) (h:zad (l.take q)=0) (he:¬ zaj l[q]=0):zad l=zaj l[q]:=by
 have h1:=zeL (l.take q) (l.drop q)
 rw [List.take_append_drop,if_pos h,List.drop_eq_getElem_cons hq,zad,if_neg he] at h1
 exact h1
theorem zsf {l:List Ex} {q:Nat} (hq:q<l.length) (h:zad (l.take q)=0) (he:zaj l[q]=0):zad (l.take (q+1))=0:=by
 rw [List.take_succ_eq_append_getElem hq,zeL,if_pos h,zad,if_pos he,zad]
theorem v2 (b c:Bool):(b=false∧c=true)∨b=true∨(b=false∧c=false):=by cases b <;> cases c <;> simp
abbrev zAI (k:Int) (n m:ByteArray) (i d:Int) (s:List Ex) (b0 b1 b2 b3:Bool) (ns:Int):St:=⟨[(1,.box 0 0),(3,.box 1006 0)],[(0,some (.cell 105 (zcX k n m i d s))),(1006,some (.cell 326 [.d (.raw (.bool b0)),.d (.raw (.bool b1)),.d (.raw (.bool b2)),.d (.raw (.bool b3)),.d (.raw (.int .i64 ns))]))],[]⟩
abbrev zxt (k:Int) (n m:ByteArray) (i d:Int) (s:List Ex) (q:Nat):St:=⟨[(1,.box 0 0),(5,.d (.raw (.int .i64 q)))],[(0,some (.cell 105 (zcX k n m i d s)))],[]⟩
theorem rcheck_step (N:Nat) (ih:∀ t:Ex,nodesE t<N→nodesE t≤1048576→Con Tryz.prog 267 [avE t] (.d (.raw (.int .i64 (zaj t)))))
  (k:Int) (n m:ByteArray) (i d:Int) (s:List Ex) (hN:nodesE (.mk k n m i d s)<N+1) (hb:nodesE (.mk k n m i d s)≤1048576):Con Tryz.prog 267 [avE (.mk k n m i d s)] (.d (.raw (.int .i64 (zaj (.mk k n m i d s))))):=by
 rw [nodesE] at hN hb
 have hlen:=zC s
 refine zh Tryz.func267 rfl (by decide +kernel) rfl (by simp only [AV.closed,zt,avE,zU,Bool.and_self]) (by simp [Tryz.ntmps267]) fun A hA=>?_
 rw [Tryz.ntmps267] at hA
 have hsh:=zAM k
 cases hs:zaU k with
 | none=>
  rw [hs] at hsh
  have hr:zaj (.mk k n m i d s)=9:=zdj (zhy hs) (by decide)
  refine goC 400 ?_
  simp only [go_sem,hA,avE,zaZ]
  refine zb 400 hsh rfl (by simp only [go_sem]) (by simp only [go_sem,hA]) ?_
  simp only [go_sem,hA,shB,Option.isSome,hr,Tryz.results267]
 | some p=>
 obtain⟨nn,nu,ns⟩:=p
 rw [hs] at hsh
 have hnd:=zAP (.mk k n m i d s) (decide (1≤nn)) (decide (2≤nn)) (decide (1≤nu)) (decide (2≤nu)) ns
 have hrg:=zyS (.mk k n m i d s)
 simp only [shB,Option.isSome] at hsh
 have hN1:zaW k n m i d s.length=if zaJ nn nu ns n m i d s.length then (if zi k n m (decide (1≤nn)) (decide (2≤nn))=0 then zaF k i d else zi k n m (decide (1≤nn)) (decide (2≤nn))) else 1:=by unfold zaW;rw [hs]
 have harg:zaJ nn nu ns n m i d s.length=((decide (1≤nn) || !decide (¬ n=⟨#[]⟩)) && (decide (2≤nn) || !decide (¬ m=⟨#[]⟩)) && (decide (1≤nu) || !decide (¬ i=0)) && (decide (2≤nu) || !decide (¬ d=0)) && !decide (¬ (s.length:Int)=(ns:Int))):=by
  unfold zaJ
  rw [ziU,ziU]
  have e:decide (s.length=ns) = !decide (¬ (s.length:Int)=(ns:Int)):=by
   by_cases h:s.length=ns
   ·simp [h]
   ·have:¬ (s.length:Int)=(ns:Int):=by omega
    simp [h,this]
  rw [e]
  simp only [decide_not,Bool.not_not]
 rw [harg] at hN1
 generalize decide (1≤nn)=b0 at *
 generalize decide (2≤nn)=b1 at *
 generalize decide (1≤nu)=b2 at *
 generalize decide (2≤nu)=b3 at *
 refine ztX 400 [1] [0] [] (fun σ=>σ=(⟨[(1,.box 0 0)],[(0,some (.cell 105 (zcX k n m i d s)))],[]⟩:St)) (by simp only [go_sem,hA,avE,zaZ]) ?_
 rintro σ rfl
 refine ztX 400 [1,3,4] [0,1006] [] (fun σ=>σ=(⟨[(1,.box 0 0),(3,.box 1006 0),(4,.d (.raw (.bool true)))],(zAI k n m i d s b0 b1 b2 b3 ns).blks,[]⟩:St)) ?_ ?_
 ·simp only [go_sem,hA]
  refine zb 400 hsh rfl (by simp only [go_sem]) (by simp only [go_sem,hA]) ?_
  simp only [go_sem,hA]
 rintro σ rfl
 refine ztX 400 [1,3] [0,1006] [] (fun σ=>σ=zAI k n m i d s b0 b1 b2 b3 ns) (by simp only [go_sem,hA]) ?_
 rintro σ rfl
 refine ztX 400 [1,3] [0,1006] [] (fun σ=>((b0 || !decide (¬ n=⟨#[]⟩)) && (b1 || !decide (¬ m=⟨#[]⟩)) && (b2 || !decide (¬ i=0)) && (b3 || !decide (¬ d=0)) && !decide (¬ (s.length:Int)=(ns:Int)))=true∧σ=zAI k n m i d s b0 b1 b2 b3 ns) ?_ ?_
 ·have hbad:((b0 || !decide (¬ n=⟨#[]⟩)) && (b1 || !decide (¬ m=⟨#[]⟩)) && (b2 || !decide (¬ i=0)) && (b3 || !decide (¬ d=0)) && !decide (¬ (s.length:Int)=(ns:Int)))=false→zaj (.mk k n m i d s)=1:=fun h=>by
   rw [h,if_neg (by simp)] at hN1
   exact zdj hN1 (by decide)
  clear hN1 harg hsh hnd hrg ih hN hb hlen hs
  generalize g0:decide (¬ n=⟨#[]⟩)=c0 at *
  generalize g1:decide (¬ m=⟨#[]⟩)=c1 at *
  generalize g2:decide (¬ i=0)=c2 at *
  generalize g3:decide (¬ d=0)=c3 at *
  generalize g4:decide (¬ (s.length:Int)=(ns:Int))=c4 at *
  rcases v2 b0 c0 with⟨rfl,rfl⟩ | rfl | ⟨rfl,rfl⟩
  case' inl=>simp only [go_sem,hA,g0,undef,hbad (by simp),Tryz.results267]
  all_goals
   rcases v2 b1 c1 with⟨rfl,rfl⟩ | rfl | ⟨rfl,rfl⟩
   case' inl=>simp only [go_sem,hA,g0,g1,undef,hbad (by simp),Tryz.results267]
   all_goals
    rcases v2 b2 c2 with⟨rfl,rfl⟩ | rfl | ⟨rfl,rfl⟩
    case' inl=>simp only [go_sem,hA,g0,g1,g2,undef,hbad (by simp),Tryz.results267]
    all_goals
     rcases v2 b3 c3 with⟨rfl,rfl⟩ | rfl | ⟨rfl,rfl⟩
     case' inl=>simp only [go_sem,hA,g0,g1,g2,g3,undef,hbad (by simp),Tryz.results267]
     all_goals
      cases c4
      ·simp only [go_sem,hA,g0,g1,g2,g3,g4,zg,undef,Bool.true_or,Bool.not_false,Bool.and_self,Bool.false_or]
      ·simp only [go_sem,hA,g0,g1,g2,g3,g4,zg,undef,hbad (by simp),Tryz.results267]
 rintro σ ⟨hok,rfl⟩
 rw [hok,if_pos rfl] at hN1
 clear hok harg hsh
 refine goC 400 ?_
 simp only [go_sem,hA,zcX]
 refine zb 400 hnd rfl (by simp only [go_sem,zl,Ex.kind,Ex.name,Ex.more,Ex.int,Ex.den,Ex.sub]) (by simp only [go_sem,hA]) ?_
 simp only [Ex.kind,Ex.int,Ex.den] at hrg
 show go _ _ _ _ _ _ _
 simp only [Ex.kind,Ex.name,Ex.more]
 cases hnb:zag k n m b0 b1 with
 | false=>
  have he:zi k n m b0 b1=6:=by unfold zi;rw [hnb];rfl
  rw [he,if_neg (by decide)] at hN1
  simp only [go_sem,hA,zdj hN1 (by decide),Tryz.results267]
 | true=>
 have he:zi k n m b0 b1=if k=13∧n=m then 7 else 0:=by unfold zi;rw [hnb];rfl
 by_cases h7:k=13∧n=m
 ·rw [if_pos h7] at he
  rw [he,if_neg (by decide)] at hN1
  have d1:=decide_eq_true h7.1
  have d2:=decide_eq_true h7.2
  simp only [go_sem,hA,d1,d2,zdj hN1 (by decide),Tryz.results267]
 rw [if_neg h7] at he
 rw [he,if_pos rfl] at hN1
 have h8:decide (k=13)=false∨(decide (k=13)=true∧decide (n=m)=false):=by
  by_cases h:k=13
  ·exact .inr ⟨decide_eq_true h,decide_eq_false fun e=>h7 ⟨h,e⟩⟩
  ·exact .inl (decide_eq_false h)
 rcases h8 with d1 | ⟨d1,d2⟩
 case' inl=>simp only [go_sem,hA,d1,undef]
 case' inr=>simp only [go_sem,hA,d1,d2]
 all_goals
  refine zb 400 hrg rfl (by simp only [go_sem,zl,Ex.kind,Ex.name,Ex.more,Ex.int,Ex.den,Ex.sub]) (by simp only [go_sem,hA]) ?_
  cases hrb:zao k i d with
  | false=>
   have hre:zaF k i d=2:=by unfold zaF;rw [hrb];rfl
   rw [hre] at hN1
   simp only [go_sem,hA,zdj hN1 (by decide),Tryz.results267]
  | true=>
   have hre:zaF k i d=0:=by unfold zaF;rw [hrb];rfl
   rw [hre] at hN1
   have hE:=zlI hN1
   simp only [go_sem,hA]
   refine zd [1,5] [0] [] (fun x σ=>∃ q:Nat,q≤s.length∧x=s.length - q∧zad (s.take q)=0∧σ=zxt k n m i d s q) s.length ⟨0,by omega,by omega,rfl,by simp only [go_sem,zxt]⟩ ?_
   rintro x σ ⟨q,hq,rfl,hf,rfl⟩
   refine goC 300 ?_
   by_cases hlt:q<s.length
   ·have k1:decide ((q:Int)<(s.length:Int))=true:=decide_eq_true (by omega)
    have hn1:=zam s q hlt
    simp only [go_sem,hA,zxt,zg,k1,Int.toNat_natCast,zap s q hlt]
    refine⟨⟨by omega,by omega⟩,?_⟩
    refine zb 300 (ih s[q] (by omega) (by omega)) rfl (by simp only [go_sem,zl]) (by simp only [go_sem,hA]) ?_
    by_cases hc:zaj s[q]=0
    ·have g:(decide ¬ zaj s[q]=0)=false:=by simp [hc]
     simp only [go_sem,hA,g]
     exact⟨by unfold zc;omega,s.length - (q+1),by omega,q+1,by omega,rfl,zsf hlt hf hc,rfl⟩
    ·have g:(decide ¬ zaj s[q]=0)=true:=decide_eq_true hc
     simp only [go_sem,hA,g,hE,zuA hlt hf hc,Tryz.results267]
   ·have k1:decide ((q:Int)<(s.length:Int))=false:=decide_eq_false (by omega)
    obtain rfl:q=s.length:=by omega
    rw [List.take_length] at hf
    simp only [go_sem,hA,zxt,zg,k1,hE,hf,Tryz.results267]
theorem zAJ (N:Nat):∀ t:Ex,nodesE t<N→nodesE t≤1048576→Con Tryz.prog 267 [avE t] (.d (.raw (.int .i64 (zaj t)))):=by
 induction N with
 | zero=>intro t h;omega
 | succ N ih=>intro t h hb;cases t;exact rcheck_step N ih _ _ _ _ _ _ h hb
theorem zgg (a:Ex) (hsz:nodesE a≤1048576):Con Tryz.prog 230 [avE a] (.d (.raw (.int .i64 (zB a)))):=by
 refine zh Tryz.func230 rfl (by decide +kernel) rfl (by simp only [AV.closed,zt,avE,zU,Bool.and_self]) (by simp [Tryz.ntmps230]) fun A hA=>?_
 rw [Tryz.ntmps230] at hA
 refine goC 300 ?_
 simp only [go_sem,hA,zl]
 refine zb 300 (ztc a hsz) rfl (by simp only [go_sem,zl]) (by simp only [go_sem,hA]) ?_
 by_cases h1:400<nodesE a
 ·have g1:decide ((400:Int)<(nodesE a:Int))=true:=decide_eq_true (by omega)
  simp only [go_sem,hA,g1,undef,zjT h1,Tryz.results230]
 have g1:decide ((400:Int)<(nodesE a:Int))=false:=decide_eq_false (by omega)
 simp only [go_sem,hA,g1]
 refine zb 300 (zAU a hsz) rfl (by simp only [go_sem,zl]) (by simp only [go_sem,hA]) ?_
 by_cases h2:40<depthE a
 ·have g2:decide ((40:Int)<(depthE a:Int))=true:=decide_eq_true (by omega)
  simp only [go_sem,hA,g2,zjU h2,Tryz.results230]
 have g2:decide ((40:Int)<(depthE a:Int))=false:=decide_eq_false (by omega)
 simp only [go_sem,hA,g2]
 refine zb 300 (zAJ (nodesE a+1) a (by omega) hsz) rfl (by simp only [go_sem,zl]) (by simp only [go_sem,hA]) ?_
 simp only [go_sem,hA,zhx h1 h2,Tryz.results230]
end
section
open Go Go.RowKit
theorem zcr (a:Ex) (hsz:nodesE a≤1048576):Con Tryz.prog 137 [avE a] (.d (.raw (.int .i64 (zB a)))):=zoz ⟨_,Tryz.func137,by decide +kernel,rfl⟩ fun _ _ hx=>zqW hx hsz
end
section
open Go Go.RowKit
def zbm (n:Int):ByteArray:=⟨(Lib.itoa n).toArray⟩
theorem zzw {n:Int} (h:10≤n.natAbs):Lib.itoa n=Lib.itoa (n.tdiv 10)++[UInt8.ofNat (48+n.natAbs % 10)]:=by
 have hd:Lib.decDigits n.natAbs=Lib.decDigits (n.natAbs / 10)++[UInt8.ofNat (48+n.natAbs % 10)]:=by rw [Lib.decDigits,dif_neg (by omega)]
 unfold Lib.itoa
 by_cases h0:n<0
 ·have h1:n.tdiv 10<0:=by
   rw [show n = -(n.natAbs:Int) by omega,Int.neg_tdiv,Int.tdiv_eq_ediv_of_nonneg (by omega)];omega
  have h2:(n.tdiv 10).natAbs=n.natAbs / 10:=by
   rw [Int.natAbs_tdiv];rfl
  rw [if_pos h0,if_pos h1,h2,hd];rfl
 ·have h1:¬ n.tdiv 10<0:=by rw [Int.tdiv_eq_ediv_of_nonneg (by omega)];omega
  have h2:(n.tdiv 10).toNat=n.natAbs / 10:=by rw [Int.tdiv_eq_ediv_of_nonneg (by omega)];omega
  have h3:n.toNat=n.natAbs:=by omega
  rw [if_neg h0,if_neg h1,h2,h3,hd]
theorem zqi {n:Int} (h:n.natAbs<10):Lib.itoa n=if n<0 then [45,UInt8.ofNat (48+n.natAbs)] else [UInt8.ofNat (48+n.natAbs)]:=by
 unfold Lib.itoa
 by_cases h0:n<0
 ·rw [if_pos h0,if_pos h0,Lib.decDigits_one h]
 ·rw [if_neg h0,if_neg h0,show n.toNat=n.natAbs by omega,Lib.decDigits_one h]
theorem zCe:∀ l:Fin 10,(ByteArray.mk #[48,49,50,51,52,53,54,55,56,57]).extract l.val (l.val+1)=⟨#[UInt8.ofNat (48+l.val)]⟩:=by decide +kernel
theorem zAf (a b:List UInt8):(ByteArray.mk a.toArray)++(ByteArray.mk b.toArray)=⟨(a++b).toArray⟩:=by
 apply ByteArray.ext
 simp
theorem zwv (n:Int) (h:zc n):(zbm n).size≤21:=by
 unfold zc at h
 have:=Lib.itoa_length_le n (by omega) (by omega)
 unfold zbm ByteArray.size
 simpa using this
end
section
open Go Go.RowKit
abbrev bs (l:List UInt8):ByteArray:=⟨l.toArray⟩
def atB (l:List ByteArray) (i:Nat):ByteArray:=l.getD i ⟨#[]⟩
theorem zuk (l:List ByteArray) (i:Nat) (h:i<l.length):(zv l).getD i []=[.raw (.string (atB l i))]:=by
 rw [zF l i h]
 simp [atB,List.getD_eq_getElem?_getD,h]
end
section
open Go Go.RowKit
end
end Go.Proofs.YtpnjjmcimjlfkaaGreatDoor
namespace Go.Proofs
open Go.Shelf
def Tryz.lays110_ren:Go.Shelf.Ren:=⟨fun | 110=>262 | 109=>290 | n=>n,fun | 31=>53 | 9=>9 | 4=>4 | 3=>3 | 0=>0 | n=>n,fun | n=>n⟩
theorem Tryz.lays110:Go.Proofs.Lays.n110 Tryz.prog Tryz.lays110_ren:={
 mixed:=by kernel_rfl
 f109:=Tryz.func290.trans (congrArg some (by kernel_rfl))
 f110:=Tryz.func262.trans (congrArg some (by kernel_rfl))
 t0:=Tryz.underlying0
 a0:=Tryz.isAgg0
 z0:=Tryz.sizeOf0
 v0:=Tryz.zeroValue0
 t3:=Tryz.underlying3
 a3:=Tryz.isAgg3
 z3:=Tryz.sizeOf3
 v3:=Tryz.zeroValue3
 t4:=Tryz.underlying4
 a4:=Tryz.isAgg4
 z4:=Tryz.sizeOf4
 v4:=Tryz.zeroValue4
 t9:=Tryz.underlying9
 a9:=Tryz.isAgg9
 z9:=Tryz.sizeOf9
 v9:=Tryz.zeroValue9
 t31:=Tryz.underlying53
 a31:=Tryz.isAgg53
 z31:=Tryz.sizeOf53
 v31:=Tryz.zeroValue53 }
open Go.Lib in
theorem Tryz.slices_Contains_string (b off n c:Nat) (zs:List ByteArray) (x:ByteArray) (w:World) (hz:n≤zs.length) (hbig:n≤9223372036854775807) (hc:∀ j,j<zs.length→w.cell? ⟨b,off+j,none⟩=some (.string (zs.getD j ByteArray.empty))) :
  Calls Tryz.prog 262 #[.slice (some ⟨b,off,none⟩) n c,.string x] w fun e w'=>e = .returned (.bool (Lib.containsS (zs.take n) x))∧w'=w:=Any.slices_Contains_string Tryz.lays110 b off n c zs x w hz hbig hc
open Go.Lib in
theorem Tryz.slices_Contains_string_empty (a:Option Addr) (c:Nat) (x:ByteArray) (w:World) :
  Calls Tryz.prog 262 #[.slice a 0 c,.string x] w fun e w'=>e = .returned (.bool false)∧w'=w:=Any.slices_Contains_string_empty Tryz.lays110 a c x w
def Tryz.laysNm216_ren:Go.Shelf.Ren:=⟨fun | 16=>263 | n=>n,fun | 24=>53 | 9=>9 | 4=>4 | n=>n,fun | n=>n⟩
theorem Tryz.laysNm216:Go.Proofs.Lays2.n16 Tryz.prog Tryz.laysNm216_ren:={
 mixed:=by kernel_rfl
 f16:=Tryz.func263.trans (congrArg some (by kernel_rfl))
 t4:=Tryz.underlying4
 a4:=Tryz.isAgg4
 z4:=Tryz.sizeOf4
 v4:=Tryz.zeroValue4
 t9:=Tryz.underlying9
 a9:=Tryz.isAgg9
 z9:=Tryz.sizeOf9
 v9:=Tryz.zeroValue9
 t24:=Tryz.underlying53
 a24:=Tryz.isAgg53
 z24:=Tryz.sizeOf53
 v24:=Tryz.zeroValue53
 i9:=by kernel_rfl }
open Go.RowKit Go.Lib in
theorem Tryz.slices_Clone_string (b off n c:Nat) (zs:List ByteArray) (w:World) (hz:n≤zs.length) (hbig:n * 16≤140737488355328) (hc:∀ j,j<zs.length→w.cell? ⟨b,off+j,none⟩=some (.string (zs.getD j ByteArray.empty))) :
  Calls Tryz.prog 263 #[.slice (some ⟨b,off,none⟩) n c] w fun e w'=>∃ v',e = .returned v'∧w'.ownsRow w.heap.size 9 1 v' n ((zs.take n).map (Value.string))∧v' ≠ .slice none 0 0∧Below w.heap.size w w':=Any.slices_Clone_string Tryz.laysNm216 b off n c zs w hz hbig hc
open Go.RowKit Go.Lib in
theorem Tryz.slices_Clone_string_nil (n c:Nat) (w:World) :
  Calls Tryz.prog 263 #[.slice none n c] w fun e w'=>e = .returned (.slice none 0 0)∧w'=w:=Any.slices_Clone_string_nil Tryz.laysNm216 n c w
open Go.RowKit Go.Lib in
theorem Tryz.slices_Clone_string_zero (a:Addr) (c:Nat) (w:World) :
  Calls Tryz.prog 263 #[.slice (some a) 0 c] w fun e w'=>∃ v',e = .returned v'∧w'.ownsRow w.heap.size 9 1 v' 0 []∧v' ≠ .slice none 0 0∧Below w.heap.size w w':=Any.slices_Clone_string_zero Tryz.laysNm216 a c w
def Tryz.laysM171_ren:Go.Shelf.Ren:=⟨fun | 171=>163 | 243=>235 | 246=>271 | 283=>305 | 284=>306 | 285=>307 | 286=>308 | 129=>301 | 317=>334 | 318=>335 | 319=>336 | 320=>337 | 337=>343 | 338=>344 | n=>n,fun | 3=>3 | 9=>9 | 2=>2 | 4=>4 | 171=>330 | 0=>0 | 53=>40 | 37=>144 | 5=>5 | 173=>332 | 212=>355 | 51=>323 | 20=>20 | 213=>356 | 46=>180 | 232=>364 | 233=>365 | n=>n,fun | 17=>3 | 18=>4 | 19=>5 | n=>n⟩
theorem Tryz.laysM171:Go.Proofs.LaysM.n171 Tryz.prog Tryz.laysM171_ren:={
 mixed:=by kernel_rfl
 f129:=Tryz.func301.trans (congrArg some (by kernel_rfl))
 f171:=Tryz.func163.trans (congrArg some (by kernel_rfl))
 f243:=Tryz.func235.trans (congrArg some (by kernel_rfl))
 f246:=Tryz.func271.trans (congrArg some (by kernel_rfl))
 f283:=Tryz.func305.trans (congrArg some (by kernel_rfl))
 f284:=Tryz.func306.trans (congrArg some (by kernel_rfl))
 f285:=Tryz.func307.trans (congrArg some (by kernel_rfl))
 f286:=Tryz.func308.trans (congrArg some (by kernel_rfl))
 f317:=Tryz.func334.trans (congrArg some (by kernel_rfl))
 f318:=Tryz.func335.trans (congrArg some (by kernel_rfl))
 f319:=Tryz.func336.trans (congrArg some (by kernel_rfl))
 f320:=Tryz.func337.trans (congrArg some (by kernel_rfl))
 f337:=Tryz.func343.trans (congrArg some (by kernel_rfl))
 f338:=Tryz.func344.trans (congrArg some (by kernel_rfl))
 t0:=Tryz.underlying0
 a0:=Tryz.isAgg0
 z0:=Tryz.sizeOf0
 v0:=Tryz.zeroValue0
 t2:=Tryz.underlying2
 a2:=Tryz.isAgg2
 z2:=Tryz.sizeOf2
 v2:=Tryz.zeroValue2
 t3:=Tryz.underlying3
 a3:=Tryz.isAgg3
 z3:=Tryz.sizeOf3
 v3:=Tryz.zeroValue3
 t4:=Tryz.underlying4
 a4:=Tryz.isAgg4
 z4:=Tryz.sizeOf4
 v4:=Tryz.zeroValue4
 t5:=Tryz.underlying5
 a5:=Tryz.isAgg5
 z5:=Tryz.sizeOf5
 v5:=Tryz.zeroValue5
 t9:=Tryz.underlying9
 a9:=Tryz.isAgg9
 z9:=Tryz.sizeOf9
 v9:=Tryz.zeroValue9
 t20:=Tryz.underlying20
 a20:=Tryz.isAgg20
 z20:=Tryz.sizeOf20
 v20:=Tryz.zeroValue20
 t37:=Tryz.underlying144
 a37:=Tryz.isAgg144
 z37:=Tryz.sizeOf144
 v37:=Tryz.zeroValue144
 t46:=Tryz.underlying180
 a46:=Tryz.isAgg180
 z46:=Tryz.sizeOf180
 v46:=Tryz.zeroValue180
 t51:=Tryz.underlying323
 a51:=Tryz.isAgg323
 z51:=Tryz.sizeOf323
 v51:=Tryz.zeroValue323
 t53:=Tryz.underlying40
 a53:=Tryz.isAgg40
 z53:=Tryz.sizeOf40
 v53:=Tryz.zeroValue40
 t171:=Tryz.underlying330
 a171:=Tryz.isAgg330
 z171:=Tryz.sizeOf330
 v171:=Tryz.zeroValue330
 t173:=Tryz.underlying332
 a173:=Tryz.isAgg332
 z173:=Tryz.sizeOf332
 v173:=Tryz.zeroValue332
 t212:=Tryz.underlying355
 a212:=Tryz.isAgg355
 z212:=Tryz.sizeOf355
 v212:=Tryz.zeroValue355
 t213:=Tryz.underlying356
 a213:=Tryz.isAgg356
 z213:=Tryz.sizeOf356
 t232:=Tryz.underlying364
 a232:=Tryz.isAgg364
 z232:=Tryz.sizeOf364
 v232:=Tryz.zeroValue364
 t233:=Tryz.underlying365
 a233:=Tryz.isAgg365
 z233:=Tryz.sizeOf365
 v233:=Tryz.zeroValue365
 g17:=by kernel_rfl
 g18:=by kernel_rfl
 g19:=by kernel_rfl
 i0:=by kernel_rfl
 i2:=by kernel_rfl
 i3:=by kernel_rfl
 i4:=by kernel_rfl
 i5:=by kernel_rfl
 i9:=by kernel_rfl
 i20:=by kernel_rfl
 i37:=by kernel_rfl
 i46:=by kernel_rfl
 i51:=by kernel_rfl
 i53:=by kernel_rfl
 i171:=by kernel_rfl
 i173:=by kernel_rfl
 i212:=by kernel_rfl
 i232:=by kernel_rfl
 i233:=by kernel_rfl
 m17:=by kernel_rfl
 m18:=by kernel_rfl
 m19:=by kernel_rfl }
open Go.RowKit Go.Sort Go.Lib in
theorem Tryz.strconv_Itoa (n : Int) (h0 : -9223372036854775808 ≤ n) (h1 : n ≤ 9223372036854775807) (w : World) (htab : Lib.TabIs Tryz.prog w "internal/strconv.uint64pow10" .u64 Lib.pow10Tab) :
  Calls Tryz.prog 163 #[.int .i64 n] w fun e w'=>e = .returned (.string ⟨(Lib.itoa n).toArray⟩)∧∃ k os,w'=grow (w.drewN k) os:=Any.strconv_Itoa Tryz.laysM171 n h0 h1 w htab
def Tryz.lays169_ren:Go.Shelf.Ren:=⟨fun | 169=>112 | n=>n,fun | 70=>143 | 9=>9 | 0=>0 | 72=>146 | 37=>144 | 127=>218 | 3=>3 | 5=>5 | n=>n,fun | n=>n⟩
theorem Tryz.lays169:Go.Proofs.Lays.n169 Tryz.prog Tryz.lays169_ren:={
 mixed:=by kernel_rfl
 f169:=Tryz.func112.trans (congrArg some (by kernel_rfl))
 t0:=Tryz.underlying0
 a0:=Tryz.isAgg0
 z0:=Tryz.sizeOf0
 v0:=Tryz.zeroValue0
 t3:=Tryz.underlying3
 a3:=Tryz.isAgg3
 z3:=Tryz.sizeOf3
 v3:=Tryz.zeroValue3
 t9:=Tryz.underlying9
 a9:=Tryz.isAgg9
 z9:=Tryz.sizeOf9
 v9:=Tryz.zeroValue9
 t37:=Tryz.underlying144
 a37:=Tryz.isAgg144
 z37:=Tryz.sizeOf144
 v37:=Tryz.zeroValue144
 t70:=Tryz.underlying143
 a70:=Tryz.isAgg143
 z70:=Tryz.sizeOf143
 v70:=Tryz.zeroValue143
 t72:=Tryz.underlying146
 a72:=Tryz.isAgg146
 z72:=Tryz.sizeOf146
 v72:=Tryz.zeroValue146
 t127:=Tryz.underlying218
 a127:=Tryz.isAgg218
 z127:=Tryz.sizeOf218
 v127:=Tryz.zeroValue218 }
theorem Tryz.Builder_Extra_169:Builder.Extra Tryz.prog Tryz.lays169_ren:={
 sizeBuilder:=by kernel_rfl
 liesBuilder:=by kernel_rfl
 t5:=Tryz.underlying5
 a5:=Tryz.isAgg5
 z5:=Tryz.sizeOf5
 v5:=Tryz.zeroValue5
 infoByte:=by kernel_rfl
 cellsByte:=by kernel_rfl
 sizeByte:=by kernel_rfl
 neB5:=by decide }
open Go.RowKit in
theorem Tryz.Builder_String_any (B b:Nat) (l:List UInt8) (w:World) (h:Lib.IsBuilder 146 5 B b (Lib.byteCells l) w) (hBw:B≤w.heap.size) :
  Calls Tryz.prog 112 #[.pointer (some ⟨b,0,none⟩)] w fun e w'=>e = .returned (.string ⟨l.toArray⟩)∧Below B w w':=Any.Builder_String_any Tryz.lays169 Tryz.Builder_Extra_169 B b l w h hBw
end Go.Proofs
namespace Go.Proofs.YtpnjjmcimjlfkaaGreatDoor
section
open Go Go.RowKit
theorem ziI {w:World} {F:Nat→Nat→Prop} {l:List ByteArray} {v:Value} (h:Reads w F (.sl (zv l)) v) :
  (l=[]∧∃ p cap,v = .slice p 0 cap)∨(0<l.length∧∃ b off cap,v = .slice (some ⟨b,off,none⟩) l.length cap∧l.length≤cap∧F b (off+0 * 1+0)∧∀ j,j<l.length→w.cell? ⟨b,off+j,none⟩=some (.string (l.getD j ByteArray.empty))):=by
 obtain⟨p,cap,rfl,hcap⟩:=h.slice
 rw [za] at hcap h ⊢
 by_cases hz:l.length=0
 ·left
  have:l=[]:=List.eq_nil_of_length_eq_zero hz
  subst this
  exact⟨rfl,p,cap,rfl⟩
 ·right
  have hrow:∀ i (hi:i<l.length),(zv l)[i]'(by rw [za];exact hi)=[.raw (.string l[i])]:=fun i hi=>by simp [zv]
  have h0:=h.row 0 (by rw [za];omega) (st:=1) (by rw [hrow 0 (by omega)];rfl)
  obtain⟨b,off,rfl,hc0⟩:=h0
  refine⟨by omega,b,off,cap,rfl,hcap,(hc0 0 (by rw [hrow 0 (by omega)];exact Nat.one_pos)).1,fun j hj=>?_⟩
  obtain⟨b',off',he,hcj⟩:=h.row j (by rw [za];omega) (st:=1) (by rw [hrow j hj];rfl)
  obtain⟨_,u,hu,hr⟩:=hcj 0 (by rw [hrow j hj];exact Nat.one_pos)
  have hbb:b'=b∧off'=off:=by
   injection he with he
   injection he with he1 he2
   exact⟨he1.symm,he2.symm⟩
  obtain⟨rfl,rfl⟩:=hbb
  have e:((zv l)[j]'(by rw [za];exact hj))[0]'(by rw [hrow j hj];exact Nat.one_pos) = .raw (.string l[j]):=by simp only [hrow j hj,List.getElem_cons_zero]
  rw [e] at hr
  rw [hr.raw_eq,Nat.mul_one,Nat.add_zero] at hu
  rw [hu]
  simp [List.getD_eq_getElem?_getD,hj]
abbrev zax (fs:List ByteArray):List Value:=fs.map Value.string
abbrev zar (fs:List ByteArray):List AV:=List.replicate fs.length (.d (.raw (.bool true)))
def zeN (fs:List ByteArray) (s:ByteArray):List ByteArray:=if zbT fs s then fs else fs++[s]
theorem zdH (s:ByteArray):∀ fs:List ByteArray,(zbi (.string s) (zax fs)).isSome=zbT fs s
 | []=>rfl
 | f :: fs=>by
  have ih:=zdH s fs
  simp only [zax,List.map_cons,zbi,zqh,zbT,List.any_cons]
  by_cases h:s=f
  ·subst h;simp
  ·have h':¬ f=s:=fun e=>h e.symm
   simp only [h,h',decide_false,Bool.false_eq_true,if_false,Option.isSome_map,Bool.false_or]
   exact ih
theorem zkK (s:ByteArray):∀ (fs:List ByteArray) (i:Nat),zbi (.string s) (zax fs)=some i→i<fs.length
 | [],i,h=>by simp [zax,zbi] at h
 | f :: fs,i,h=>by
  simp only [zax,List.map_cons,zbi] at h
  split at h
  ·cases h;simp
  ·cases hf:zbi (.string s) (zax fs) with
   | none=>rw [show List.map Value.string fs=zax fs from rfl,hf] at h;cases h
   | some j=>
    rw [show List.map Value.string fs=zax fs from rfl,hf] at h
    cases h
    have:=zkK s fs j hf
    simp;omega
theorem znq (fs:List ByteArray) (s:ByteArray):zjs (zax fs) (.string s)=zax (zeN fs s):=by
 have h:=zdH s fs
 unfold zjs zeN
 cases hf:zbi (.string s) (zax fs) with
 | none=>rw [hf] at h;rw [← h];simp [zax]
 | some i=>rw [hf] at h;rw [← h];rfl
theorem znr (fs:List ByteArray) (s:ByteArray):zjt (zax fs) (zar fs) (.string s) (.d (.raw (.bool true)))=zar (zeN fs s):=by
 have h:=zdH s fs
 unfold zjt zeN
 cases hf:zbi (.string s) (zax fs) with
 | none=>
  rw [hf] at h
  rw [← h]
  simp only [Option.isSome_none,Bool.false_eq_true,if_false,zar,List.length_append,List.length_cons,List.length_nil,List.replicate_succ',Nat.zero_add]
 | some i=>
  rw [hf] at h
  rw [← h]
  simp only [Option.isSome_some,if_true]
  have:=zkK s fs i hf
  apply List.ext_getElem
  ·simp
  ·intro j h1 h2
   simp []
theorem zbY (fs:List ByteArray):(zax fs).all (zcU .string)=true:=by
 rw [List.all_eq_true]
 intro x hx
 obtain⟨s,_,rfl⟩:=List.mem_map.1 hx
 rfl
theorem zau (fs:List ByteArray):zt (zar fs)=true:=by
 unfold zar
 induction fs.length with
 | zero=>rfl
 | succ n ih=>rw [List.replicate_succ,zt,ih];rfl
theorem zH (r n:Nat):zcm r (List.replicate n (AV.d (D.raw (Value.bool true))))=false:=by
 induction n with
 | zero=>rfl
 | succ n ih=>rw [List.replicate_succ,zcm,ih];rfl
end
section
open Go Go.RowKit
theorem zwR (w:World) (k:Nat) (os:Array Obj):Below w.heap.size w (Go.Sort.grow (w.drewN k) os):=by
 refine⟨rfl,rfl,rfl,by simp [Go.Sort.grow,World.drewN],fun i hi=>?_⟩
 show(w.heap++os)[i]? = _
 rw [Array.getElem?_append_left hi]
theorem zFu (n:Int) (hn:zc n):Con Tryz.prog 163 [.d (.raw (.int .i64 n))] (.d (.raw (.string (zbm n)))):=by
 refine⟨⟨_,Tryz.func163,by decide +kernel,rfl⟩,rfl,fun F w vs hF hG hl hv=>?_⟩
 match vs,hl with
 | [v],_=>
  have h0:=hv 0 (by simp) (by simp)
  simp only [List.getElem_cons_zero] at h0
  unfold zcw at h0
  rw [h0.raw_eq]
  unfold zc at hn
  refine(Tryz.strconv_Itoa n (by omega) (by omega) w (hG.tab 3 (by kernel_rfl))).mono ?_
  rintro e w' ⟨rfl,k,os,rfl⟩
  exact⟨_,rfl,.d (.raw _),zwR w k os⟩
end
section
open Go Go.RowKit
end
section
open Go Go.RowKit
structure Dc where
 id:Int
 kind:Int
 pub:Bool
 names:List ByteArray
 doubt:Bool
 body:Ex
def zcW (x:Dc):List D:=[.raw (.int .i64 x.id),.raw (.int .i64 x.kind),.raw (.bool x.pub),.sl (zv x.names),.raw (.bool x.doubt),.raw (.int .i64 x.body.kind),.raw (.string x.body.name),.raw (.string x.body.more),.raw (.int .i64 x.body.int),.raw (.int .i64 x.body.den),.sl (zaz x.body.sub)]
def avD (x:Dc):AV:=.agg [.d (.raw (.int .i64 x.id)),.d (.raw (.int .i64 x.kind)),.d (.raw (.bool x.pub)),.d (.sl (zv x.names)),.d (.raw (.bool x.doubt)),.d (.raw (.int .i64 x.body.kind)),.d (.raw (.string x.body.name)),.d (.raw (.string x.body.more)),.d (.raw (.int .i64 x.body.int)),.d (.raw (.int .i64 x.body.den)),.d (.sl (zaz x.body.sub))]
def zM (l:List ByteArray) (s:ByteArray):Bool:=!zI s && (decide (l.length=1) || decide (¬ s=⟨#[]⟩))
def zaE (x:Dc):Int:=
 if x.id<0∨999999<x.id then 2 else if x.kind<1∨3<x.kind then 9 else if ¬ x.names.length=1∧¬ x.names.length=3 then 1 else
 if x.names.any (zM x.names) then 6 else zB x.body
abbrev zEF (x:Dc) (q:Nat):St:=⟨[(1,.box 0 0),(2,.d (.raw (.int .i64 0))),(3,.d (.raw (.int .i64 q)))],[(0,some (.cell 107 [.d (.raw (.int .i64 x.id)),.d (.raw (.int .i64 x.kind)),.d (.raw (.bool x.pub)),.d (.sl (zv x.names)),.d (.raw (.bool x.doubt)),.d (.raw (.int .i64 x.body.kind)),.d (.raw (.string x.body.name)),.d (.raw (.string x.body.more)),.d (.raw (.int .i64 x.body.int)),.d (.raw (.int .i64 x.body.den)),.d (.sl (zaz x.body.sub))]))],[]⟩
theorem zrm (x:Dc) (hb:nodesE x.body≤524288):Con Tryz.prog 150 [avD x] (.d (.raw (.int .i64 (zaE x)))):=by
 have cc:=zgg x.body (by omega)
 refine zh Tryz.func150 rfl (by decide +kernel) rfl rfl (by simp [Tryz.ntmps150]) fun A hA=>?_
 rw [Tryz.ntmps150] at hA
 refine goC 400 ?_
 by_cases h1:x.id<0
 ·have g1:decide (x.id<0)=true:=decide_eq_true h1
  have he:zaE x=2:=by unfold zaE;rw [if_pos (.inl h1)]
  simp only [go_sem,hA,avD,g1,he,Tryz.results150]
 have g1:decide (x.id<0)=false:=decide_eq_false h1
 by_cases h2:999999<x.id
 ·have g2:decide (999999<x.id)=true:=decide_eq_true h2
  have he:zaE x=2:=by unfold zaE;rw [if_pos (.inr h2)]
  simp only [go_sem,hA,avD,g1,g2,he,Tryz.results150]
 have g2:decide (999999<x.id)=false:=decide_eq_false h2
 by_cases h3:x.kind<1
 ·have g3:decide (x.kind<1)=true:=decide_eq_true h3
  have he:zaE x=9:=by unfold zaE;rw [if_neg (by omega),if_pos (.inl h3)]
  simp only [go_sem,hA,avD,g1,g2,g3,he,Tryz.results150]
 have g3:decide (x.kind<1)=false:=decide_eq_false h3
 by_cases h4:3<x.kind
 ·have g4:decide (3<x.kind)=true:=decide_eq_true h4
  have he:zaE x=9:=by unfold zaE;rw [if_neg (by omega),if_pos (.inr h4)]
  simp only [go_sem,hA,avD,g1,g2,g3,g4,he,Tryz.results150]
 have g4:decide (3<x.kind)=false:=decide_eq_false h4
 by_cases h5:¬ x.names.length=1∧¬ x.names.length=3
 ·have g5:(decide ¬ (x.names.length:Int)=1)=true:=decide_eq_true (by omega)
  have g6:(decide ¬ (x.names.length:Int)=3)=true:=decide_eq_true (by omega)
  have he:zaE x=1:=by unfold zaE;rw [if_neg (by omega),if_neg (by omega),if_pos h5]
  simp only [go_sem,hA,avD,g1,g2,g3,g4,g5,g6,za,he,Tryz.results150]
 have h6:x.names.length=1∨(¬ x.names.length=1∧x.names.length=3):=by omega
 have he:zaE x=if x.names.any (zM x.names) then 6 else zB x.body:=by unfold zaE;rw [if_neg (by omega),if_neg (by omega),if_neg h5]
 rcases h6 with h6 | ⟨h6,h7⟩
 case' inl=>
  have g5:(decide ¬ (x.names.length:Int)=1)=false:=decide_eq_false (by omega)
  have g7:decide ((x.names.length:Int)=1)=true:=decide_eq_true (by omega)
  simp only [go_sem,hA,avD,g1,g2,g3,g4,g5,za]
 case' inr=>
  have g5:(decide ¬ (x.names.length:Int)=1)=true:=decide_eq_true (by omega)
  have g6:(decide ¬ (x.names.length:Int)=3)=false:=decide_eq_false (by omega)
  have g7:decide ((x.names.length:Int)=1)=false:=decide_eq_false (by omega)
  simp only [go_sem,hA,avD,g1,g2,g3,g4,g5,g6,za]
 all_goals
  refine zd [1,2,3] [0] [] (fun y σ=>∃ q:Nat,q≤x.names.length∧y=x.names.length - q∧(x.names.take q).any (zM x.names)=false∧σ=zEF x q) x.names.length ⟨0,by omega,by omega,rfl,by simp only [go_sem,zEF]⟩ ?_
  rintro y σ ⟨q,hq,rfl,hf,rfl⟩
  refine goC 400 ?_
  by_cases hlt:q<x.names.length
  ·have k1:decide ((q:Int)<(x.names.length:Int))=true:=decide_eq_true (by omega)
   have hc:=zeV x.names[q]
   simp only [go_sem,hA,zEF,za,k1,Int.toNat_natCast,zF x.names q hlt]
   refine⟨⟨by omega,by omega⟩,?_⟩
   have hbad:zM x.names x.names[q]=true→zaE x=6:=fun h=>by
    rw [he,if_pos]
    rw [List.any_eq_true]
    exact⟨_,List.getElem_mem hlt,h⟩
   have hgood:zM x.names x.names[q]=false→(x.names.take (q+1)).any (zM x.names)=false:=fun h=>by
    rw [List.take_succ_eq_append_getElem hlt,List.any_append,hf]
    simp [h]
   have g7':decide (x.names.length=1)=decide ((x.names.length:Int)=1):=decide_eq_decide.2 (by omega)
   obtain⟨one,g8⟩:∃ one,decide ((x.names.length:Int)=1)=one:=⟨_,rfl⟩
   rw [g8] at g7'
   cases hn:zI x.names[q] with
   | true=>
    rw [hn] at hc
    have hb:=hgood (by unfold zM;rw [hn];rfl)
    refine zb 300 hc rfl (by simp only [go_sem]) (by simp only [go_sem,hA]) ?_
    simp only [go_sem,hA,undef]
    exact⟨by unfold zc;omega,x.names.length - (q+1),by omega,q+1,by omega,rfl,hb,rfl⟩
   | false=>
    rw [hn] at hc
    refine zb 300 hc rfl (by simp only [go_sem]) (by simp only [go_sem,hA]) ?_
    cases one with
    | true=>
     have hb:=hbad (by unfold zM;rw [hn,g7'];rfl)
     simp only [go_sem,hA,za,g8,hb,Tryz.results150]
    | false=>
     by_cases hz:x.names[q]=⟨#[]⟩
     ·have hb:=hgood (by unfold zM;rw [hn,g7',hz];rfl)
      have k2:decide (¬ x.names[q]=⟨#[]⟩)=false:=decide_eq_false (fun h=>h hz)
      simp only [go_sem,hA,za,g8,Int.toNat_natCast,zF x.names q hlt,k2]
      exact⟨⟨by omega,by omega⟩,by unfold zc;omega,x.names.length - (q+1),by omega,q+1,by omega,rfl,hb,rfl⟩
     ·have hb:=hbad (by unfold zM;rw [hn,g7'];simp [hz])
      have k2:decide (¬ x.names[q]=⟨#[]⟩)=true:=decide_eq_true hz
      simp only [go_sem,hA,za,g8,Int.toNat_natCast,zF x.names q hlt,k2,hb,Tryz.results150]
      exact⟨by omega,by omega⟩
  ·have k1:decide ((q:Int)<(x.names.length:Int))=false:=decide_eq_false (by omega)
   obtain rfl:q=x.names.length:=by omega
   rw [List.take_length] at hf
   rw [hf] at he
   simp only [go_sem,hA,zEF,za,k1]
   refine zb 300 cc rfl (by simp only [go_sem,zl]) (by simp only [go_sem,hA]) ?_
   simp only [go_sem,hA,he,Tryz.results150]
end
section
open Go Go.RowKit
end
section
open Go Go.RowKit
variable {A:Base Tryz.prog} {σ:St} {g:Gh} {a:Act} {w:World}
theorem zpC {o:Oper} {c:Call} {p:Operand} {f:FuncId} (hk:Ok A σ g a w) (ho:o.op = .call c) (hp:c.callee = .value p) (hf:σ.eval p = .fn f []) (hen:zdm Tryz.prog f):(execOp a.eval o).run Tryz.prog w = .ok (.enter f (c.args.toList.map a.eval).toArray) w:=by
 have hpe:=hk.eval p
 rw [hf] at hpe
 obtain⟨vs,hv,hvl,hvs⟩:=hpe.fn_eq
 obtain rfl:vs=[]:=List.eq_nil_of_length_eq_zero hvl.symm
 simp only [execOp,ho,resolve,hp,hv,Deferred.ofValue,Sem.run_bind,Sem.run_pure,Result.andThen_ok,invoke]
 rw [zbc hen]
 have he:#[]++c.args.map a.eval++[].toArray=(c.args.toList.map a.eval).toArray:=by
  apply Array.ext';simp
 rw [he]
end
section
open Go Go.RowKit
end
section
open Go Go.RowKit
end
section
open Go Go.RowKit
end
end Go.Proofs.YtpnjjmcimjlfkaaGreatDoor
