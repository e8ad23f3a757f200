/- Texts of this proof, part 16: what the proof uses of them. -/
import Derived.Test.YtpnjjmcimjlfkaaGreatDoorDao
import Derived.Test.YtpnjjmcimjlfkaaGreatDoorDah
import Derived.Test.YtpnjjmcimjlfkaaGreatDoorProg
import Derived.Test.YtpnjjmcimjlfkaaGreatDoorDag
import Derived.Lib.Builder
import Derived.Lib.AppendStr
import Derived.Lib.UnsafeStr
import Derived.WalkKit
import Derived.Laws.Externs
import Derived.Lib.Hide
import Derived.Test.YtpnjjmcimjlfkaaGreatDoorDal
set_option maxRecDepth 100000
set_option maxHeartbeats 64000000
namespace Go.Proofs.YtpnjjmcimjlfkaaGreatDoor
section
open Go Go.RowKit
def nmC (c:Int):Bool:=(decide (97≤c) && decide (c≤122)) || ((decide (65≤c) && decide (c≤90)) || ((decide (48≤c) && decide (c≤57)) || (decide (c=46) || (decide (c=95) || decide (c=45)))))
theorem zdk (a b:Bool):(a=true∧b=true)∨a=false∨(a=true∧b=false):=by cases a <;> cases b <;> simp
theorem zwi (c:Int):Con Tryz.prog 221 [.d (.raw (.int .u8 c))] (.d (.raw (.bool (nmC c)))):=by
 refine zh Tryz.func221 rfl (by decide +kernel) rfl rfl (by simp [Tryz.ntmps221]) fun A hA=>?_
 rw [Tryz.ntmps221] at hA
 refine goC 400 ?_
 unfold nmC
 rcases zdk (decide (97≤c)) (decide (c≤122)) with⟨h1,h2⟩ | h1 | ⟨h1,h2⟩
 case' inl=>simp only [go_sem,hA,h1,h2,undef,Tryz.results221]
 case' inr.inl=>
  rcases zdk (decide (65≤c)) (decide (c≤90)) with⟨h3,h4⟩ | h3 | ⟨h3,h4⟩
  case' inl=>simp only [go_sem,hA,h1,h3,h4,undef,Bool.false_and,Tryz.results221]
 case' inr.inr=>
  rcases zdk (decide (65≤c)) (decide (c≤90)) with⟨h3,h4⟩ | h3 | ⟨h3,h4⟩
  case' inl=>simp only [go_sem,hA,h1,h2,h3,h4,undef,Bool.false_and,Tryz.results221]
 all_goals
  rcases zdk (decide (48≤c)) (decide (c≤57)) with⟨h5,h6⟩ | h5 | ⟨h5,h6⟩ <;> cases h7:decide (c=46) <;> cases h8:decide (c=95)
 all_goals
  simp only [go_sem, *,undef,Bool.false_and,Tryz.results221]
def zaq (l:List UInt8):Bool:=decide (1≤l.length) && decide (l.length≤24) && decide (¬ l=[46]) && decide (¬ l=[46,46]) && l.all fun c=>nmC c.toNat
abbrev zDq (s:ByteArray) (q:Nat):St:=⟨[(0,.d (.raw (.string s))),(21,.d (.raw (.int .i64 s.size))),(22,.d (.raw (.int .i64 q)))],[],[]⟩
theorem zmG (s:ByteArray) (l:List UInt8):(s=⟨l.toArray⟩) ↔ s.data.toList=l:=by
 constructor
 ·rintro rfl;rfl
 ·intro h;cases s;subst h;simp
theorem zDp (s:ByteArray):Con Tryz.prog 142 [.d (.raw (.string s))] (.d (.raw (.bool (zaq s.data.toList)))):=by
 refine zh Tryz.func142 rfl (by decide +kernel) rfl rfl (by simp [Tryz.ntmps142]) fun A hA=>?_
 rw [Tryz.ntmps142] at hA
 have hsl:s.data.toList.length=s.size:=by simp
 refine goC 400 ?_
 by_cases h1:s.size<1
 ·have g1:decide ((s.size:Int)<1)=true:=decide_eq_true (by omega)
  have hr:zaq s.data.toList=false:=by unfold zaq;rw [hsl,decide_eq_false (by omega:¬ 1≤s.size)];rfl
  simp only [go_sem,hA,g1,hr,undef,Tryz.results142]
 have g1:decide ((s.size:Int)<1)=false:=decide_eq_false (by omega)
 by_cases h2:24<s.size
 ·have g2:decide ((24:Int)<(s.size:Int))=true:=decide_eq_true (by omega)
  have hr:zaq s.data.toList=false:=by unfold zaq;rw [hsl,decide_eq_false (by omega:¬ s.size≤24),Bool.and_false];rfl
  simp only [go_sem,hA,g1,g2,hr,undef,Tryz.results142]
 have g2:decide ((24:Int)<(s.size:Int))=false:=decide_eq_false (by omega)
 have e3:(s=⟨#[46]⟩) ↔ s.data.toList=[46]:=zmG s [46]
 have e4:(s=⟨#[46,46]⟩) ↔ s.data.toList=[46,46]:=zmG s [46,46]
 by_cases h3:s=⟨#[46]⟩
 ·have g3:decide (s=⟨#[46]⟩)=true:=decide_eq_true h3
  have hr:zaq s.data.toList=false:=by rw [e3.1 h3];decide
  simp only [go_sem,hA,g1,g2,g3,hr,undef,Tryz.results142]
 have g3:decide (s=⟨#[46]⟩)=false:=decide_eq_false h3
 by_cases h4:s=⟨#[46,46]⟩
 ·have g4:decide (s=⟨#[46,46]⟩)=true:=decide_eq_true h4
  have hr:zaq s.data.toList=false:=by rw [e4.1 h4];decide
  simp only [go_sem,hA,g1,g2,g3,g4,hr,Tryz.results142]
 have g4:decide (s=⟨#[46,46]⟩)=false:=decide_eq_false h4
 have hv:zaq s.data.toList=s.data.toList.all fun c=>nmC c.toNat:=by
  unfold zaq
  have n3:decide (¬ s.data.toList=[46])=true:=decide_eq_true fun h=>h3 (e3.2 h)
  have n4:decide (¬ s.data.toList=[46,46])=true:=decide_eq_true fun h=>h4 (e4.2 h)
  rw [hsl,decide_eq_true (by omega:1≤s.size),decide_eq_true (by omega:s.size≤24),n3,n4]
  rfl
 simp only [go_sem,hA,g1,g2,g3,g4]
 refine zd [0,21,22] [] [] (fun y σ=>∃ q:Nat,q≤s.size∧y=s.size - q∧((s.data.toList.take q).all fun c=>nmC c.toNat)=true∧σ=zDq s q) s.size ⟨0,by omega,by omega,rfl,by simp only [go_sem,zDq]⟩ ?_
 rintro y σ ⟨q,hq,rfl,hf,rfl⟩
 refine goC 400 ?_
 by_cases hlt:q<s.size
 ·have k1:decide ((q:Int)<(s.size:Int))=true:=decide_eq_true (by omega)
  have hql:q<s.data.toList.length:=by omega
  have hgd:s.data.toList.getD q 0=s.data.toList[q]:=by simp only [List.getD_eq_getElem?_getD,List.getElem?_eq_getElem hql,Option.getD_some]
  simp only [go_sem,hA,zDq,k1,Int.toNat_natCast,hgd]
  refine⟨⟨by omega,by omega⟩,?_⟩
  refine zb 400 (zwi s.data.toList[q].toNat) rfl (by simp only [go_sem]) (by simp only [go_sem,hA]) ?_
  cases hc:nmC (s.data.toList[q].toNat:Int) with
  | true=>
   simp only [go_sem,hA]
   refine⟨by unfold zc;omega,s.size - (q+1),by omega,q+1,by omega,rfl,?_,rfl⟩
   rw [List.take_succ_eq_append_getElem hql,List.all_append,hf]
   simp only [List.all_cons,List.all_nil,hc,Bool.and_true]
  | false=>
   have hr:zaq s.data.toList=false:=by
    rw [hv,List.all_eq_false]
    exact⟨_,List.getElem_mem hql,by rw [hc];decide⟩
   simp only [go_sem,hA,hr,Tryz.results142]
 ·have k1:decide ((q:Int)<(s.size:Int))=false:=decide_eq_false (by omega)
  obtain rfl:q=s.size:=by omega
  rw [List.take_of_length_le (by omega)] at hf
  rw [hf] at hv
  simp only [go_sem,hA,zDq,k1,hv,Tryz.results142]
end
section
open Go Go.RowKit Go.Shelf
attribute [local go_sem] Oper.semAt_some
def zbF (l:List UInt8):Bool:=decide (l.length≤100) && (zaH l).all zaq
theorem zoy {P:Program} {f:FuncId} {vs:List Value} {y:AV} {r:Value} (he:zdm P f) (hc:y.closed=true) (hy:∀ w F,zcw w F y r) (h:∀ (w:World),Glob P w→Calls P f vs.toArray w fun e w'=>e = .returned r∧Below w.heap.size w w'):Con P f (vs.map fun v=>.d (.raw v)) y:=by
 refine⟨he,hc,fun F w us hF hG hl hv=>?_⟩
 obtain rfl:us=vs:=by
  refine List.ext_getElem (by simpa using hl.symm) fun i h1 h2=>?_
  have h0:=hv i (by simpa using h2) h1
  rw [List.getElem_map] at h0
  exact h0.raw_eq
 exact(h w hG).mono fun e w' h'=>⟨r,h'.1,hy _ _,h'.2⟩
theorem zzU {P:Program} {f:FuncId} {vs:List Value} {r:Value} (hc:Con P f (vs.map fun v=>.d (.raw v)) (.d (.raw r))) (w:World) (hG:Glob P w):Calls P f vs.toArray w fun e w'=>e = .returned r∧Below w.heap.size w w':=by
 refine(hc.2.2 (fun _ _=>False) w vs (fun _ _ h=>h.elim) hG (by simp) fun i hi hv=>?_).mono fun e w' ⟨v,h1,h2,h3⟩=>⟨by rw [h1,h2.raw_eq],h3⟩
 rw [List.getElem_map]
 exact .d (.raw _)
theorem zss (s:ByteArray) (w:World) (hG:Glob Tryz.prog w):Calls Tryz.prog 142 #[.string s] w fun e w'=>e = .returned (.bool (zaq s.data.toList))∧Below w.heap.size w w':=zzU (vs:=[.string s]) (zDp s) w hG
theorem znt {l:List UInt8} (h:100<l.length):zbF l=false:=by
 have:¬ l.length≤100:=by omega
 simp [zbF,this]
theorem zza (s:ByteArray) (w:World) (h:100<s.size) :
  Calls Tryz.prog 71 #[.string s] w fun e w'=>e = .returned (.bool (zbF s.data.toList))∧Below w.heap.size w w':=by
 have HF:=Lib.hid (znt (l:=s.data.toList) (by simpa using h))
 go_enter Tryz.func71,Tryz.ntmps71
 go_wp2_with fail
 refine bodyPost_ret (v:=.bool false) (by simp [results,Tryz.results71,go_sem]) rfl ?_
 exact⟨by rw [HF.out],(Below.refl _ _).alloc (Nat.le_refl _) _⟩
def zoS (pre:List ByteArray):Prop:=∀ p ∈ pre,zaq p.data.toList=true
def zwW (pre:List ByteArray):Prop:=∃ p ∈ pre,zaq p.data.toList=false
def zqG (w:World) (pre:List ByteArray) (W:World):Prop:=zoS pre∧W.heap[w.heap.size]? = some (.cells #[.bool false] 4 (0,0))∧w.heap.size+1+1+1+1≤W.heap.size∧Below w.heap.size w W
def zyi (w:World) (c:Code) (pre:List ByteArray) (W:World):Prop:=c = .ret∧zwW pre∧W.heap[w.heap.size]? = some (.cells #[.bool false] 4 (0,0))∧w.heap.size+1+1+1+1≤W.heap.size∧Below w.heap.size w W
theorem allVal_snoc {pre:List ByteArray} {x:ByteArray} (h:zoS pre) (hx:zaq x.data.toList=true):zoS (pre++[x]):=by
 intro p hp
 rcases List.mem_append.1 hp with h1 | h1
 ·exact h p h1
 ·simp at h1;subst h1;exact hx
theorem zuC {pre:List ByteArray} {x:ByteArray} (hx:zaq x.data.toList=false):zwW (pre++[x]):=⟨x,by simp,hx⟩
theorem zze (w:World) (B:Nat) (hB:w.heap.size≤B):OwnFrom B (zqG w):=fun s W W' row hs hg hr=>
 ⟨hs.1,zfz hs.2.1 hg (fun r e=>(hr r e).2),Nat.le_trans hs.2.2.1 hg.size,hs.2.2.2.trans ((Below.refl _ _).grown hg (by have:=hs.2.2.1;omega) (fun k e=>by have:=(hr k e).1;omega))⟩
theorem zzb (w:World) (c:Code) (B:Nat) (hB:w.heap.size≤B):OwnFrom B (zyi w c):=fun s W W' row hs hg hr=>
 ⟨hs.1,hs.2.1,zfz hs.2.2.1 hg (fun r e=>(hr r e).2),Nat.le_trans hs.2.2.2.1 hg.size,hs.2.2.2.2.trans ((Below.refl _ _).grown hg (by have:=hs.2.2.2.1;omega) (fun k e=>by have:=(hr k e).1;omega))⟩
theorem ztm (w:World) (pre:List ByteArray) (A B:World) (h:zqG w pre A) (hr:ziW (w.heap.size+1) A B):zqG w pre B:=by
 obtain⟨r,rfl⟩:=hr
 refine⟨h.1,(Below.heap_setCell _ _ _ _ (by simp)).trans h.2.1,by simpa [World.setCell] using h.2.2.1,h.2.2.2.setCell (p:=⟨w.heap.size+1,0,none⟩) (by simp) _⟩
theorem ztl (w:World) (c:Code) (pre:List ByteArray) (A B:World) (h:zyi w c pre A) (hr:ziW (w.heap.size+1) A B):zyi w c pre B:=by
 obtain⟨r,rfl⟩:=hr
 refine⟨h.1,h.2.1,(Below.heap_setCell _ _ _ _ (by simp)).trans h.2.2.1,by simpa [World.setCell] using h.2.2.2.1,h.2.2.2.2.setCell (p:=⟨w.heap.size+1,0,none⟩) (by simp) _⟩
theorem pathI_below (w:World) (pre pre':List ByteArray) (A B:World) (h:zqG w pre A) (hw:zoS pre') (hb:Below A.heap.size A B):zqG w pre' B:=
 ⟨hw,(hb.block _ (by have:=h.2.2.1;omega)).trans h.2.1,Nat.le_trans h.2.2.1 hb.size,h.2.2.2.trans (hb.mono (by have:=h.2.2.1;omega))⟩
theorem zzd {s:ByteArray} {xs:List ByteArray} (h:s.size≤100) (hx:zdM s xs) (ha:zoS xs):zbF s.data.toList=true:=by
 unfold zdM at hx
 unfold zbF
 rw [← hx,Bool.and_eq_true]
 refine⟨by simpa using h,?_⟩
 rw [List.all_eq_true]
 intro p hp
 obtain⟨q,hq,rfl⟩:=List.mem_map.1 hp
 exact ha q hq
theorem zzc {s:ByteArray} {xs:List ByteArray} (hx:zfV s xs) (ha:zwW xs):zbF s.data.toList=false:=by
 unfold zbF
 rw [Bool.and_eq_false_iff];right
 rw [List.all_eq_false]
 obtain⟨q,hq,hb⟩:=ha
 exact⟨q.data.toList,(show _ <+: _ from hx).subset (List.mem_map.2 ⟨q,hq,rfl⟩),by simp [hb]⟩
theorem zvQ (s:ByteArray) (w:World) (hG:Glob Tryz.prog w) (h:s.size≤100) :
  Calls Tryz.prog 71 #[.string s] w fun e w'=>e = .returned (.bool (zbF s.data.toList))∧Below w.heap.size w w':=by
 have h100:decide (100<(s.size:Int))=false:=by simp;omega
 refine(callsIn_wide (n:=4)).1 ?_
 refine callsIn_of_wp_marks Tryz.func71 rfl trivial ?_ rfl
 simp only [Tryz.ntmps71,List.size_toArray,List.length_cons,List.length_nil,Nat.reduceAdd,Nat.reduceSub,Array.replicate_succ,Array.replicate_zero,List.push_toArray,List.append_toArray,List.nil_append,List.cons_append]
 gi_wp2_with (first | (refine⟨trivial,?_⟩;gi_at_call 132;refine(callsIn_wide.2 (zjg s ⟨#[47]⟩ _)).mono ?_;rintro e w' ⟨rfl,rfl⟩))
 obtain⟨W0,hW0⟩:∃ W0,((((w.alloc (Obj.cells #[Value.bool false] 4)).alloc (Obj.cells #[Value.string s] 9)).alloc (Obj.cells #[Value.string ⟨#[47]⟩] 9)).alloc (Obj.cells #[Value.int IntKind.i64 0] 3))=W0:=⟨_,rfl⟩
 have z0:w.heap.size+1+1+1+1=W0.heap.size:=by rw [← hW0];simp
 have q0:W0.heap[w.heap.size]? = some (.cells #[.bool false] 4 (0,0)):=by rw [← hW0];exact(Below.heap_alloc _ _ _ (by simp <;> omega)).trans ((Below.heap_alloc _ _ _ (by simp <;> omega)).trans ((Below.heap_alloc _ _ _ (by simp)).trans (World.alloc_heap_new w _)))
 have q1:W0.heap[w.heap.size+1]? = some (.cells #[.string s] 9 (0,0)):=by
  rw [← hW0];refine(Below.heap_alloc _ _ _ (by simp <;> omega)).trans ((Below.heap_alloc _ _ _ (by simp)).trans ?_)
  have:=World.alloc_heap_new (w.alloc (Obj.cells #[Value.bool false] 4)) (Obj.cells #[Value.string s] 9)
  rwa [World.size_alloc] at this
 have q2:W0.heap[w.heap.size+1+1]? = some (.cells #[.string ⟨#[47]⟩] 9 (0,0)):=by
  rw [← hW0];refine(Below.heap_alloc _ _ _ (by simp)).trans ?_
  have:=World.alloc_heap_new ((w.alloc (Obj.cells #[Value.bool false] 4)).alloc (Obj.cells #[Value.string s] 9)) (Obj.cells #[Value.string ⟨#[47]⟩] 9)
  simp only [World.size_alloc] at this
  exact this
 have q3:W0.heap[w.heap.size+1+1+1]? = some (.cells #[.int .i64 0] 3 (0,0)):=by
  rw [← hW0]
  have:=World.alloc_heap_new (((w.alloc (Obj.cells #[Value.bool false] 4)).alloc (Obj.cells #[Value.string s] 9)).alloc (Obj.cells #[Value.string ⟨#[47]⟩] 9)) (Obj.cells #[Value.int IntKind.i64 0] 3)
  simp only [World.size_alloc] at this
  exact this
 have bl:Below w.heap.size w W0:=by
  rw [← hW0];exact((((Below.refl _ w).alloc (Nat.le_refl _) _).alloc (by simp) _).alloc (by simp <;> omega) _).alloc (by simp <;> omega) _
 rw [hW0]
 clear hW0
 have hal:∀ (r:Loop) (b:Nat) (o:Obj),W0.heap[b]? = some o→((W0.alloc (.deferred (some []))).alloc (.loop r)).heap[b]? = some o:=fun r b o hb=>by
  have:=(Array.getElem?_eq_some_iff.1 hb).1
  exact(Below.heap_alloc _ _ _ (by simp <;> omega)).trans ((Below.heap_alloc _ _ _ this).trans hb)
 refine zbA (P:=Tryz.prog) (F:=Fence.wide) (n:=4) rfl (by omega) (gf:=254) (lb:=#[.pointer (some ⟨w.heap.size+1+1,0,none⟩),.pointer (some ⟨w.heap.size+1,0,none⟩),.pointer (some ⟨w.heap.size+1+1+1,0,none⟩)]) rfl trivial (enters_of Tryz.func254 (by kernel_rfl) rfl)
  (encs:=fun x:ByteArray=>#[.string x]) (Kp:=zqH [w.heap.size+1+1,w.heap.size+1,w.heap.size+1+1+1]) (R:=ziW (w.heap.size+1)) (X:=fun _ _=>True)
  (S:=zdM s) (Sp:=zfV s)
  (fun r l J Jx hJ _ hY hJ0=>zpz 3 l _ _ _ (by omega) s (by omega) (by omega) (by omega) J Jx hJ (fun pre x A hA=>hY pre x A hA trivial) _ (hal r _ _ q2) (hal r _ _ q1) (hal r _ _ q3) hJ0)
  (fun h1 h2 b hb=>(h2 b hb).trans (h1 b hb)) (fun W l o o' hl _ _ b hb=>World.putObj_heap_other (by simp at hb;omega))
  (fun⟨r,hr⟩=>hr ▸ (KeepsOthers.setCell _ _ _).from _) (fun _=>rfl)
  (zqG w) (zyi w) (zze w _ (by omega)) (fun c=>zzb w c _ (by omega)) (ztm w) (ztl w)
  ⟨fun _ hp=>by simp at hp,q0,by omega,bl⟩
  (fun x=>{ tmps:=#[Value.string s,undef,Value.pointer (some { block:=w.heap.size,off:=0 }),Value.string x,Value.string s,Value.int IntKind.i64 ↑s.size,Value.bool false,Value.string s,
        Value.func (Fn.func 254) #[] #[Value.pointer (some { block:=w.heap.size+1+1,off:=0 }),Value.pointer (some { block:=w.heap.size+1,off:=0 }),Value.pointer (some { block:=w.heap.size+1+1+1,off:=0 })],
        Value.string x,undef,undef,undef],defers:=[] }) ?assign ?body ?done ?stop
 case assign=>
  intro l x W K hK
  gi_wp2
  exact hK
 case body=>
  rintro l pre x W hI -
  have c0:=cell_of_one hI.2.1
  have f0:=free_of_one hI.2.1
  have HV:=Lib.hid (zss x W (hG.keep (X:=fun _=>False) (.of hI.2.2.2) fun _ h=>h.elim))
  have HI:=Lib.hid hI
  clear hI
  cases hw:zaq x.data.toList
  ·gi_wp2_with (first | (refine⟨trivial,?_⟩;gi_at_call 142;refine(CallsIn.inRound l (callsIn_wide.2 HV.out)).mono ?_;rintro e w' ⟨rfl,hb⟩;have g0:=(hb.cell (p:=⟨w.heap.size,0,none⟩) (by have:=HI.out.2.2.1;show w.heap.size<_;omega)).trans c0;have e0:=(hb.frozen (p:=⟨w.heap.size,0,none⟩) (by have:=HI.out.2.2.1;show w.heap.size<_;omega)).trans f0;have HB:=Lib.hid hb;clear hb))
   have hq:=pathI_below w pre pre W _ HI.out HI.out.1 HB.out
   exact⟨((zaS HB.out).trans (KeepsOthers.setCell _ _ _)).from _,rfl,zuC hw,one_setCell hq.2.1,by simpa [World.setCell] using hq.2.2.1,hq.2.2.2.setCell (p:=⟨w.heap.size,0,none⟩) (Nat.le_refl _) _⟩
  ·gi_wp2_with (first | (refine⟨trivial,?_⟩;gi_at_call 142;refine(CallsIn.inRound l (callsIn_wide.2 HV.out)).mono ?_;rintro e w' ⟨rfl,hb⟩;have HB:=Lib.hid hb;clear hb))
   exact⟨(zaS HB.out).from _,zlB HB.out (by have:=HI.out.2.2.1;intro b hb;simp at hb;omega),pathI_below w pre _ W _ HI.out (allVal_snoc HI.out.1 hw) HB.out⟩
 case done=>
  rintro D ys W hD hS hI hK
  have c0:=cell_of_one hI.2.1
  have f0:=free_of_one hI.2.1
  have HI:=Lib.hid hI
  clear hI
  gi_wp2_with fail
  have hK':=(KeepsOthers.setCell W ⟨w.heap.size,0,none⟩ (.bool true)).same D _ hK rfl
  refine⟨by simp,.inl ⟨_,_,rfl,run_takeDeferred hK',?_⟩⟩
  have hc5:=cell_kept (cell_of_one (one_setCell (u:=.bool true) HI.out.2.1)) (grownBy_putObj' _ D (.deferred none)) (fun r e=>by cases e;exact⟨_,hK',rfl⟩)
  refine⟨.bool true,?_,by rw [zzd h hS HI.out.1],(HI.out.2.2.2.setCell (p:=⟨w.heap.size,0,none⟩) (Nat.le_refl _) _).trans (belowK_b (w:=w) (Nat.le_refl _) _ D _ _ (by omega) hK' rfl rfl)⟩
  simp [results,Tryz.f71,go_sem,hc5]
 case stop=>
  rintro D c pre W hD hpre ⟨rfl,hbad,hcr,_,hB⟩ hK
  gi_wp2_with fail
  refine⟨by simp,.inl ⟨_,_,rfl,run_takeDeferred hK,?_⟩⟩
  have hc5:=cell_kept (cell_of_one hcr) (grownBy_putObj' _ D (.deferred none)) (fun r e=>by cases e;exact⟨_,hK,rfl⟩)
  refine⟨.bool false,?_,by rw [zzc hpre hbad],hB.trans (belowK_b (w:=w) (Nat.le_refl _) W D _ _ (by omega) hK rfl rfl)⟩
  simp [results,Tryz.f71,go_sem,hc5]
theorem zBA (s:ByteArray):Con Tryz.prog 71 [.d (.raw (.string s))] (.d (.raw (.bool (zbF s.data.toList)))):=
 zoy (vs:=[.string s]) ⟨_,Tryz.func71,by decide +kernel,rfl⟩ rfl (fun _ _=>.d (.raw _)) fun w hG=>by
  rcases Nat.lt_or_ge 100 s.size with h | h
  ·exact zza s w h
  ·exact zvQ s w hG h
end
section
open Go Go.RowKit
theorem zbH {f:Nat→Int}:∀ {n:Nat},zj f n=0→∀ i,i<n→f i=0
 | 0,_,i,h=>by omega
 | n+1,h,i,hi=>by
  rw [zj] at h
  split at h
  ·rename_i h0
   by_cases e:i=n
   ·rw [e];exact h
   ·exact zbH h0 i (by omega)
  ·rename_i h0;exact absurd h h0
abbrev avO (k:Int) (d:ByteArray):AV:=.agg [.d (.raw (.int .i64 k)),.d (.raw (.string d)),.d (.sl []),.d (.raw (.int .u64 0)),.d (.raw (.int .u64 0)),.d (.sl []),.d (.raw (.string ⟨#[]⟩)),.d (.raw (.int .i64 0)),.d (.raw (.string ⟨#[]⟩))]
theorem zFJ (d:ByteArray):Con Tryz.prog 73 [.d (.raw (.string d))] (avO 1 d):=by
 refine zh Tryz.func73 rfl (by decide +kernel) rfl rfl (by simp [Tryz.ntmps73]) fun A hA=>?_
 rw [Tryz.ntmps73] at hA
 refine goC 400 ?_
 simp only [go_sem,hA,Tryz.results73]
def leS (a b:ByteArray):Bool:=Op.bytesLess a.data.toList b.data.toList || decide (a=b)
def atF (l:List Fl) (i:Nat):Fl:=l.getD i ⟨⟨#[]⟩,⟨#[]⟩⟩
theorem zeZ (l:List Fl) (i:Nat) (h:i<l.length):atF l i=l[i]:=by simp [atF,List.getD_eq_getElem?_getD,h]
def zcC (l:List Fl) (q:Nat):Int:=if zbF (atF l q).path.data.toList then (if 0<q∧leS (atF l q).path (atF l (q - 1)).path then 10 else 0) else 6
def zcH (l:List Fl):List ByteArray:=l.foldl (fun fs x=>zeN fs x.path) []
theorem ztk (l:List Fl) (x:Fl):zcH (l++[x])=zeN (zcH l) x.path:=by simp [zcH]
def ziw (fs:List ByteArray) (s:ByteArray) (i:Nat):Bool:=decide (s.data.toList.getD i 0=47) && zbT fs (s.extract 0 i)
def zuQ (fs:List ByteArray) (s:ByteArray):Bool:=(List.range s.size).any (ziw fs s)
def zch (l:List Fl):Int:=
 if 200<l.length then 4 else if ¬ zj (zcC l) l.length=0 then zj (zcC l) l.length else if l.any fun x=>zuQ (zcH l) x.path then 7 else 0
abbrev zxa (l:List Fl) (q:Nat):St:=⟨[(0,.d (.sl (zy l))),(3,.mp 3000),(13,.d (.sl (zy l))),(14,.d (.raw (.int .i64 l.length))),(15,.d (.raw (.int .i64 q)))],[(3000,some (.map none (zax (zcH (l.take q))) (zar (zcH (l.take q)))))],[]⟩
abbrev zwZ (l:List Fl) (fs:List ByteArray) (q:Nat):St:=⟨[(3,.mp 3000),(49,.d (.sl (zy l))),(50,.d (.raw (.int .i64 l.length))),(51,.d (.raw (.int .i64 q)))],[(3000,some (.map none (zax fs) (zar fs)))],[]⟩
abbrev zpx (l:List Fl) (fs:List ByteArray) (x:Fl) (q k:Nat):St:=⟨[(3,.mp 3000),(7,.box 17002 0),(49,.d (.sl (zy l))),(50,.d (.raw (.int .i64 l.length))),(51,.d (.raw (.int .i64 q))),(57,.d (.raw (.int .i64 x.path.size))),(58,.d (.raw (.int .i64 k)))],[(3000,some (.map none (zax fs) (zar fs))),(17002,some (.cell 62 [.d (.raw (.string x.path)),.d (.raw (.string x.data))]))],[]⟩
theorem zAr (l:List Fl) (hl:l.length≤1048576) (hO:∀ x ∈ l,Con Tryz.prog 72 [avO 1 x.data] (.d (.raw (.int .i64 0)))):Con Tryz.prog 28 [.d (.sl (zy l))] (.d (.raw (.int .i64 (zch l)))):=by
 refine zh Tryz.func28 rfl (by decide +kernel) rfl rfl (by simp [Tryz.ntmps28]) fun A hA=>?_
 rw [Tryz.ntmps28] at hA
 refine goC 400 ?_
 by_cases h1:200<l.length
 ·have g1:decide ((200:Int)<(l.length:Int))=true:=decide_eq_true (by omega)
  have hr:zch l=4:=if_pos h1
  simp only [go_sem,hA,ze,g1,hr,Tryz.results28]
 have g1:decide ((200:Int)<(l.length:Int))=false:=decide_eq_false (by omega)
 have hr0:zch l=if ¬ zj (zcC l) l.length=0 then zj (zcC l) l.length else if l.any fun x=>zuQ (zcH l) x.path then 7 else 0:=if_neg h1
 simp only [go_sem,hA,ze,g1]
 refine zd [0,3,13,14,15] [3000] [] (fun y σ=>∃ q:Nat,q≤l.length∧y=l.length - q∧zj (zcC l) q=0∧σ=zxa l q) l.length ⟨0,by omega,by omega,rfl,by simp only [go_sem,zxa];rfl⟩ ?_
 rintro y σ ⟨q,hq,rfl,hf,rfl⟩
 refine goC 400 ?_
 by_cases hlt:q<l.length
 ·have k1:decide ((q:Int)<(l.length:Int))=true:=decide_eq_true (by omega)
  have hat:=zeZ l q hlt
  have hfe:zcC l q=if zbF l[q].path.data.toList then (if 0<q∧leS l[q].path (atF l (q - 1)).path then 10 else 0) else 6:=by unfold zcC;rw [hat]
  simp only [go_sem,hA,zxa,ze,k1,Int.toNat_natCast,zL l q hlt,zH]
  refine⟨⟨by omega,by omega⟩,?_⟩
  refine zb 400 (zBA l[q].path) rfl (by simp only [go_sem]) (by simp only [go_sem,hA]) ?_
  cases hp:zbF l[q].path.data.toList with
  | false=>
   rw [hp] at hfe
   have hfe':zcC l q=6:=hfe
   rw [zx hf hlt (by rw [hfe'];decide),hfe'] at hr0
   simp only [go_sem,hA,hr0,Tryz.results28]
   rfl
  | true=>
  rw [hp,if_pos rfl] at hfe
  simp only [go_sem,hA]
  refine zb 400 (zFJ l[q].data) rfl (by simp only [go_sem]) (by simp only [go_sem,hA]) ?_
  simp only [go_sem]
  refine zb 400 (hO l[q] (List.getElem_mem hlt)) rfl (by simp only [go_sem]) (by simp only [go_sem,hA]) ?_
  have hsn:zcH (l.take (q+1))=zeN (zcH (l.take q)) l[q].path:=by rw [List.take_succ_eq_append_getElem hlt,ztk]
  by_cases hq0:0<q
  ·have k2:decide ((0:Int)<(q:Int))=true:=decide_eq_true (by omega)
   have hq1:((q:Int) - 1).toNat=q - 1:=by omega
   have hat1:=zeZ l (q - 1) (by omega)
   have hin:zc ((q:Int) - 1):=by unfold zc;omega
   rw [hat1] at hfe
   cases hle:leS l[q].path l[q - 1].path with
   | true=>
    have hle':(Op.bytesLess l[q].path.data.toList l[q - 1].path.data.toList || decide (l[q].path=l[q - 1].path))=true:=hle
    rw [if_pos ⟨hq0,hle⟩] at hfe
    rw [zx hf hlt (by rw [hfe];decide),hfe] at hr0
    simp only [go_sem,hA,k2,ze,hq1,zL l (q - 1) (by omega),hle',hr0,mixed,Tryz.results28]
    exact⟨hin,⟨by omega,by omega⟩,by show chk _ _ _=true;kernel_rfl,by rfl⟩
   | false=>
    have hle':(Op.bytesLess l[q].path.data.toList l[q - 1].path.data.toList || decide (l[q].path=l[q - 1].path))=false:=hle
    rw [if_neg fun h=>by rw [hle] at h;cases h.2] at hfe
    simp only [go_sem,hA,k2,ze,hq1,zL l (q - 1) (by omega),hle',mixed]
    refine⟨hin,⟨by omega,by omega⟩,by show chk _ _ _=true;kernel_rfl,zbY _,by unfold zc;omega,l.length - (q+1),by omega,q+1,by omega,rfl,zp hf hfe,?_⟩
    rw [hsn,← znq,← znr];rfl
  ·have k2:decide ((0:Int)<(q:Int))=false:=decide_eq_false (by omega)
   rw [if_neg fun h=>hq0 h.1] at hfe
   simp only [go_sem,hA,k2,undef,mixed]
   refine⟨by show chk _ _ _=true;kernel_rfl,zbY _,by unfold zc;omega,l.length - (q+1),by omega,q+1,by omega,rfl,zp hf hfe,?_⟩
   rw [hsn,← znq,← znr];rfl
 have k1:decide ((q:Int)<(l.length:Int))=false:=decide_eq_false (by omega)
 obtain rfl:q=l.length:=by omega
 rw [if_neg (by simp [hf])] at hr0
 simp only [go_sem,hA,zxa,k1,List.take_length,ze]
 generalize zcH l=fs at hr0 ⊢
 refine zd [3,49,50,51] [3000] [] (fun y σ=>∃ q:Nat,q≤l.length∧y=l.length - q∧((l.take q).any fun x=>zuQ fs x.path)=false∧σ=zwZ l fs q) l.length ⟨0,by omega,by omega,rfl,by simp only [go_sem,zwZ]⟩ ?_
 rintro y σ ⟨q,hq,rfl,hf2,rfl⟩
 refine goC 400 ?_
 by_cases hlt:q<l.length
 case neg=>
  have k1:decide ((q:Int)<(l.length:Int))=false:=decide_eq_false (by omega)
  obtain rfl:q=l.length:=by omega
  rw [List.take_length] at hf2
  rw [hf2] at hr0
  simp only [go_sem,hA,zwZ,k1,hr0,Tryz.results28]
 have k1:decide ((q:Int)<(l.length:Int))=true:=decide_eq_true (by omega)
 obtain⟨x,hx⟩:∃ x,l[q]=x:=⟨_,rfl⟩
 have hxl:x ∈ l:=by rw [← hx];exact List.getElem_mem hlt
 have hsx:x.path.size≤100:=by
  have h:=zbH hf q hlt
  unfold zcC at h
  rw [zeZ l q hlt,hx] at h
  split at h
  ·rename_i h2
   unfold zbF at h2
   simp only [Bool.and_eq_true,decide_eq_true_eq] at h2
   have:=h2.1
   simpa using this
  ·cases h
 simp only [go_sem,hA,zwZ,ze,k1,Int.toNat_natCast,zL l q hlt,hx,zH]
 refine⟨⟨by omega,by omega⟩,?_⟩
 refine zd [3,7,49,50,51,57,58] [3000,17002] [] (fun y σ=>∃ k:Nat,k≤x.path.size∧y=x.path.size - k∧((List.range k).any (ziw fs x.path))=false∧σ=zpx l fs x q k) x.path.size ⟨0,by omega,by omega,rfl,by simp only [go_sem,zpx]⟩ ?_
 rintro y σ ⟨k,hk,rfl,hf3,rfl⟩
 refine goC 400 ?_
 by_cases hkl:k<x.path.size
 case neg=>
  have k2:decide ((k:Int)<(x.path.size:Int))=false:=decide_eq_false (by omega)
  obtain rfl:k=x.path.size:=by omega
  simp only [go_sem,hA,zpx,k2]
  exact⟨by unfold zc;omega,l.length - (q+1),by omega,q+1,by omega,rfl,zbr hlt hf2 (by rw [hx];exact hf3),rfl⟩
 have k2:decide ((k:Int)<(x.path.size:Int))=true:=decide_eq_true (by omega)
 have hun:ziw fs x.path k=(decide ((x.path.data.toList.getD k 0).toNat=47) && zbT fs (x.path.extract 0 k)):=by
  unfold ziw
  congr 1
  exact decide_eq_decide.2 ⟨fun h=>by rw [h];rfl,fun h=>UInt8.toNat_inj.1 h⟩
 have hstep:ziw fs x.path k=false→((List.range (k+1)).any (ziw fs x.path))=false:=fun h=>by rw [List.range_succ,List.any_append,hf3];simp [h]
 cases h47:decide (((x.path.data.toList.getD k 0).toNat:Int)=47) with
 | false=>
  have hu:=hstep (by rw [hun,decide_eq_false (fun h=>by have:=of_decide_eq_false h47;omega)];rfl)
  simp only [go_sem,hA,zpx,k2,Int.toNat_natCast,h47,undef]
  exact⟨⟨by omega,by omega⟩,by unfold zc;omega,x.path.size - (k+1),by omega,k+1,by omega,rfl,hu,rfl⟩
 | true=>
  have h47':(x.path.data.toList.getD k 0).toNat=47:=by have:=of_decide_eq_true h47;omega
  cases hh:zbT fs (x.path.extract 0 k) with
  | true=>
   obtain⟨j,hj1,hj2⟩:=zkI hh
   have hr1:zch l=7:=by
    rw [hr0,if_pos]
    exact List.any_eq_true.2 ⟨x,hxl,List.any_eq_true.2 ⟨k,List.mem_range.2 hkl,by rw [hun,hh,decide_eq_true h47'];rfl⟩⟩
   simp only [go_sem,hA,zpx,k2,Int.toNat_natCast,h47,hj1,hj2,hr1,Tryz.results28]
   exact⟨⟨by omega,by omega⟩,⟨by omega,by omega⟩,zbY _⟩
  | false=>
   have hj:=zkJ hh
   have hu:=hstep (by rw [hun,hh,Bool.and_false])
   simp only [go_sem,hA,zpx,k2,Int.toNat_natCast,h47,hj]
   exact⟨⟨by omega,by omega⟩,⟨by omega,by omega⟩,zbY _,by unfold zc;omega,x.path.size - (k+1),by omega,k+1,by omega,rfl,hu,rfl⟩
end
section
open Go Go.RowKit Go.Shelf
attribute [local go_sem] Oper.semAt_some
def zbl (n:Nat):List UInt8:=if h:n<128 then [n.toUInt8] else (n % 128+128).toUInt8 :: zbl (n / 128)
termination_by n
decreasing_by omega
theorem zhJ {n:Nat} (h:n<128):zbl n=[n.toUInt8]:=by rw [zbl,dif_pos h]
theorem zhK {n:Nat} (h:¬ n<128):zbl n=(n % 128+128).toUInt8 :: zbl (n / 128):=by rw [zbl,dif_neg h]
theorem zth (n:Nat):(zbl n).length≤n+1:=by
 induction n using Nat.strongRecOn with
 | ind n ih=>
  by_cases h:n<128
  ·simp [zhJ h]
  ·rw [zhK h];have:=ih (n / 128) (by omega);simp;omega
def zwV (b:Nat) (A B:World):Prop:=∃ r:Int,B=A.setCell ⟨b,0,none⟩ (.int .i64 r)
def zwN (w:World) (b:Nat):Nat:=match w.cell? ⟨b,0,none⟩ with | some (Value.int _ r)=>r.toNat | _=>0
theorem zqC {w:World} {b t:Nat} {r:Int} (h:w.heap[b]? = some (.cells #[.int .i64 r] t (0,0))):zwN w b=r.toNat:=by simp [zwN,cell_of_one h]
theorem zFG (n l b1:Nat) (hn1:1≤n) (m:Nat) (hm:m≤1099511627776) (J Jx:List UInt8→World→Prop)
  (hJ:∀ pre A B,J pre A→zwV b1 A B→J pre B)
  (hY:∀ pre x A,J pre A→pre.length<(zbl m).length→YieldAt Fence.wide (n - 1) Tryz.prog l #[.int .u8 x.toNat] A fun e B=>
   (e = .returned (.bool true)∧J (pre++[x]) B∧zqH [b1] A B)∨(e = .returned (.bool false)∧Jx (pre++[x]) B))
  (W:World) (hb1:W.heap[b1]? = some (.cells #[.int .i64 m] 3 (0,0))) (h0:J [] W) :
  CallsIn Fence.wide n Tryz.prog 338 #[.func (.yield l) #[] #[],.pointer (some ⟨b1,0,none⟩)] W fun e B=>(∃ v,e = .returned v) ∧
   ((∃ xs:List UInt8,xs=zbl m∧J xs B)∨(∃ pre:List UInt8,pre <+: zbl m∧Jx pre B)):=by
 have c1:=cell_of_one hb1
 refine callsIn_of_wp Tryz.func338 rfl trivial ?_ rfl
 simp only [Tryz.ntmps338,List.size_toArray,List.length_cons,List.length_nil,Nat.reduceAdd,Nat.reduceSub,Array.replicate_succ,Array.replicate_zero,List.push_toArray,List.append_toArray,List.nil_append,List.cons_append]
 gi_wp2_with fail
 gi_loopw [] (fun wr=>∃ (pre:List UInt8) (r:Nat),wr.heap[b1]? = some (.cells #[.int .i64 r] 3 (0,0)) ∧
   r≤1099511627776∧J pre wr∧Hid (pre++zbl r=zbl m)) (fun wr=>zwN wr b1)
 case atStart=>exact⟨[],m,hb1,hm,h0,Lib.hid rfl⟩
 case round=>
  obtain⟨pre,r,hr1,hrm,hJr,hP⟩:=hrel
  have d1:=cell_of_one hr1
  have f1:=free_of_one hr1
  have HR1:=Lib.hid hr1
  clear hr1 c1 hb1
  by_cases hlt:r<128
  ·have hge:decide ((128:Int)≤(r:Int))=false:=by simp;omega
   have hy0:=hY pre r.toUInt8 wr hJr (by rw [← hP.out,zhJ hlt];simp)
   have hv:((r.toUInt8.toNat:Nat):Int)=(r:Int):=by simp [Nat.toUInt8];omega
   rw [hv] at hy0
   have HN:=Lib.hid (zhJ hlt)
   clear hv
   obtain⟨fn,tmps,assign,body,hy,hR⟩:=hy0
   gi_wp2_with fail
   refine hR.mono ?_
   rintro e W3 (⟨rfl,hJ3,hk3⟩ | ⟨rfl,hJx3⟩)
   ·gi_wp2_with fail
    go_end0
    exact⟨⟨_,rfl⟩,.inl ⟨_,by rw [← hP.out,HN.out],hJ3⟩⟩
   ·gi_wp2_with fail
    go_end0
    exact⟨⟨_,rfl⟩,.inr ⟨_,by rw [← hP.out,HN.out];exact List.prefix_rfl,hJx3⟩⟩
  ·have hge:decide ((128:Int)≤(r:Int))=true:=by simp;omega
   have hy0:=hY pre (r % 128+128).toUInt8 wr hJr (by rw [← hP.out,zhK hlt];simp)
   have hv:(((r % 128+128).toUInt8.toNat:Nat):Int)=(r:Int) % 128+128:=by simp [Nat.toUInt8];omega
   rw [hv] at hy0
   have HN:=Lib.hid (zhK hlt)
   have HL:=Lib.hid hlt
   clear hv
   obtain⟨fn,tmps,assign,body,hy,hR⟩:=hy0
   gi_wp2_with fail
   refine hR.mono ?_
   rintro e W3 (⟨rfl,hJ3,hk3⟩ | ⟨rfl,hJx3⟩)
   ·have k1:W3.heap[b1]? = _:=(hk3 b1 (by simp)).trans HR1.out
    have g1:=cell_of_one k1
    have e1:=free_of_one k1
    have K1:=Lib.hid k1
    have hk3':=Lib.hid hk3
    clear k1 d1 f1 hk3
    gi_wp2_with fail
    go_roundw
    case rel=>
     refine⟨_,r / 128,one_setCell K1.out,by omega,hJ _ _ _ hJ3 ⟨_,rfl⟩,Lib.hid ?_⟩
     rw [← hP.out,HN.out]
     simp
    case measure=>rw [zqC (one_setCell K1.out),zqC HR1.out];have:=HL.out;simp;omega
   ·gi_wp2_with fail
    refine bodyPost_ret (results_none rfl _ _ _) rfl ?_
    exact⟨⟨_,rfl⟩,.inr ⟨_,⟨zbl (r / 128),by rw [← hP.out,HN.out];simp⟩,hJx3⟩⟩
end
section
open Go.RowKit
theorem sizeBuilder:(Tryz.prog.info? 146).map (·.size)=some 2:=by kernel_rfl
theorem liesBuilder:liesAt Tryz.prog Tryz.prog.depth 146 (2 / Tryz.prog.cellsOf 146) 0 146 1=true:=by kernel_rfl
theorem infoByte:(Tryz.prog.info? 5).map (fun i=>(i.zero,i.size,i.bytes))=some (some (.int .u8 0),1,1):=by kernel_rfl
def zaP (b:Nat) (w w':World):Prop:=w.heap.size≤w'.heap.size∧∀ i o,w.heap[i]? = some o→i≠b→(∀ cs fr,o ≠ .cells cs 5 fr)→w'.heap[i]? = some o
theorem zaP.cells {b:Nat} {w w':World} (h:zaP b w w') (i:Nat) (cs:Array Value) (t:TypeId) (fr:Nat × Nat) (hi:w.heap[i]? = some (.cells cs t fr)) (hb:i≠b) (ht:t≠5):w'.heap[i]? = some (.cells cs t fr):=
 h.2 i _ hi hb fun cs' fr' e=>by injection e;exact ht ‹_›
theorem zaP.refl (b:Nat) (w:World):zaP b w w:=⟨Nat.le_refl _,fun _ _ h _ _=>h⟩
theorem zaP.trans {b:Nat} {x y z:World} (h:zaP b x y) (k:zaP b y z):zaP b x z:=⟨Nat.le_trans h.1 k.1,fun i o hi hb ht=>k.2 i o (h.2 i o hi hb ht) hb ht⟩
theorem zaP.setCell {b:Nat} {x y:World} (h:zaP b x y) (j:Nat) (v:Value):zaP b x (y.setCell ⟨b,j,none⟩ v):=
 ⟨by simpa [World.setCell] using h.1,fun i o hi hb ht=>(Below.heap_setCell _ _ _ _ hb).trans (h.2 i o hi hb ht)⟩
theorem zaP.alloc {b:Nat} {x y:World} (h:zaP b x y) (o:Obj):zaP b x (y.alloc o):=
 ⟨Nat.le_trans h.1 (by simp),fun i o' hi hb ht=>(Below.heap_alloc _ _ _ (Nat.lt_of_lt_of_le (Array.getElem?_eq_some_iff.1 hi).1 h.1)).trans (h.2 i o' hi hb ht)⟩
theorem zaP.grown {b:Nat} {x y z:World} (h:zaP b x y) {v:Value} {B n:Nat} {xs:List Value} (hown:y.ownsRow B 5 1 v n xs) (hg:y.grownBy z v.ownBlock):zaP b x z:=
 ⟨Nat.le_trans h.1 hg.size,fun i o hi hb ht=>by
  have h1:=h.2 i o hi hb ht
  refine(hg.block i (Array.getElem?_eq_some_iff.1 h1).1 ?_).trans h1
  rcases hown.2 with⟨rfl,_⟩ | ⟨g,cap,cur,rfl,_,hgc,_⟩
  ·simp [Value.ownBlock]
  ·intro e
   simp [Value.ownBlock] at e
   rw [e,hgc] at h1
   simp at h1
   exact ht _ _ h1.symm⟩
theorem zow (b:Nat) (w:World) (h0:w.cell? ⟨b,0,none⟩=some (.pointer (some ⟨b,0,none⟩))) :
  Calls Tryz.prog 312 #[.pointer (some ⟨b,0,none⟩)] w fun e w'=>e = .returned (.tuple #[])∧w'=w:=by
 obtain⟨j,hj,_⟩:=Option.map_eq_some_iff.1 sizeBuilder
 go_enter Tryz.func312,Tryz.ntmps312
 go_wp2
 rw [Lib.run_neq_ptr_same w _ Tryz.underlying143 hj]
 go_wp2
 go_end0
 exact⟨rfl,rfl⟩
theorem zmg (b:Nat) (w:World) (h0:w.cell? ⟨b,0,none⟩=some (.pointer none)) (hsh:w.shape? b=some (146,2)) (hfz:w.frozen? ⟨b,0,none⟩=false) :
  Calls Tryz.prog 312 #[.pointer (some ⟨b,0,none⟩)] w fun e w'=>e = .returned (.tuple #[])∧w'=w.setCell ⟨b,0,none⟩ (.pointer (some ⟨b,0,none⟩)):=by
 obtain⟨j,hj,hjs⟩:=Option.map_eq_some_iff.1 sizeBuilder
 go_enter Tryz.func312,Tryz.ntmps312
 go_wp2
 rw [Lib.run_to_unsafe w ⟨b,0,none⟩ Tryz.underlying143 Tryz.underlying357 hj (by rw [hjs];decide) hsh (Nat.zero_lt_succ 1)]
 simp only [Result.andThen]
 rw [Oper.upon_value]
 go_wp2
 rw [run_callFunc_extern Tryz.func339 (by kernel_rfl) (by kernel_rfl) (by kernel_rfl) (e:=Extern.AbiNoEscape.same) (by kernel_rfl)]
 rw [Lib.run_noEscape]
 simp only [Result.andThen]
 rw [Oper.upon_value]
 go_wp2
 rw [Lib.run_from_unsafe w ⟨b,0,none⟩ Tryz.underlying357 Tryz.underlying143 hj hsh liesBuilder]
 simp only [Result.andThen]
 rw [Oper.upon_value]
 go_wp2
 go_end0
 exact⟨rfl,rfl⟩
theorem zit (B b:Nat) (bs:List Value) (w:World) (h:Lib.IsBuilder 146 5 B b bs w) :
  Calls Tryz.prog 312 #[.pointer (some ⟨b,0,none⟩)] w fun e w'=>e = .returned (.tuple #[])∧Lib.BuilderAt 146 5 B b (.pointer (some ⟨b,0,none⟩)) bs w'∧Below B w w'∧zaP b w w':=by
 rcases h with h | h
 ·refine(zmg b w h.cell0 h.shape h.frozen0).mono ?_
  rintro e w' ⟨rfl,rfl⟩
  exact⟨rfl,h.used _,(Below.refl B w).setCell (p:=⟨b,0,none⟩) h.1 _,(zaP.refl b w).setCell 0 _⟩
 ·refine(zow b w h.cell0).mono ?_
  rintro e w' ⟨rfl,rfl⟩
  exact⟨rfl,h,Below.refl B _,zaP.refl b _⟩
theorem zoT (B b:Nat) (bs:List Value) (c:Int) (w:World) (h:Lib.IsBuilder 146 5 B b bs w) (hlen:bs.length+1≤140737488355328) (hBw:B≤w.heap.size) :
  Calls Tryz.prog 311 #[.pointer (some ⟨b,0,none⟩),.int .u8 c] w fun e w'=>e = .returned .nilIface∧Lib.IsBuilder 146 5 B b (bs++[.int .u8 c]) w'∧Below B w w'∧zaP b w w':=by
 obtain⟨i0,hi,hz0,hz1,hz2⟩:=info_parts infoByte
 go_enter Tryz.func311,Tryz.ntmps311
 go_wp2_with (go_at_call 312;refine(zit B b bs _ h).mono ?_)
 rintro e w1 ⟨rfl,h1,hb1,ho1⟩
 obtain⟨hB,v,hbk,hown,hne⟩:=h1
 have c0:w1.cell? ⟨b,0,none⟩=some (.pointer (some ⟨b,0,none⟩)):=by rw [Lib.cell_of_heap hbk];rfl
 have c1:w1.cell? ⟨b,1,none⟩=some v:=by rw [Lib.cell_of_heap hbk];rfl
 go_wp2_with (at_builtin;refine wpList_append_own _ rfl _ _ 144 rfl B 5 i0 (.int .u8 0) 1 1 Tryz.underlying144 hi hz0 hz1 hz2 rfl (by decide) _ _ _ rfl (hown.alloc _) ⟨w1.heap.size,0,none⟩ 1 1 [.int .u8 c] rfl rfl ?c1 ?c2 ?c3 ?c4 ?c5 ?_)
 case c1=>
  intro j u hj
  match j,hj with
  | 0,hj=>simp at hj;subst hj;simp [Addr.add]
 case c2=>intro u hu;simp at hu;subst hu;rfl
 case c3=>unfold maxLen;omega
 case c4=>omega
 case c5=>have:=hb1.size;simp;omega
 intro v' w2 hown' hgrow _
 have hlt:b<w1.heap.size:=(Array.getElem?_eq_some_iff.1 hbk).1
 have hb2:w2.heap[b]? = some (.cells #[.pointer (some ⟨b,0,none⟩),v] 146 (0,0)):=by
  rw [hgrow.block b (by simp;omega) (fun e=>hne e.symm),Lib.alloc_old w1 _ b hlt]
  exact hbk
 have d0:w2.cell? ⟨b,0,none⟩=some (.pointer (some ⟨b,0,none⟩)):=by rw [Lib.cell_of_heap hb2];rfl
 have d1:w2.cell? ⟨b,1,none⟩=some v:=by rw [Lib.cell_of_heap hb2];rfl
 have f1:w2.frozen? ⟨b,1,none⟩=false:=Lib.frozen_of_heap hb2 1
 obtain⟨g,cap,rfl⟩:∃ g cap,v' = .slice (some ⟨g,0,none⟩) (bs.length+1) cap:=by
  rcases hown'.2 with⟨_,h0⟩ | ⟨g,cap,cur,hv,_⟩
  ·omega
  ·exact⟨g,cap,hv⟩
 have HW:=Lib.hid hown'
 have HG:=Lib.hid hgrow
 have HB2:=Lib.hid hb2
 clear hown' hgrow hb2
 go_wp2
 go_ret
 refine⟨rfl,.inr ?_,?_,?_⟩
 ·exact Lib.BuilderAt.put (T:=146) (e:=5) hB HB2.out (bs':=bs++[.int .u8 c]) (by simpa using HW.out) (by decide)
 ·exact((hb1.alloc (by have:=hb1.size;omega) _).grown HG.out (by have:=hb1.size;simp;omega) (fun k hk=>(hown.lt k hk).1)).setCell (p:=⟨b,1,none⟩) hB _
 ·exact((ho1.alloc _).grown (hown.alloc _) HG.out).setCell 1 _
theorem zlR (B b:Nat) (bs:List Value) (s:ByteArray) (w:World) (h:Lib.IsBuilder 146 5 B b bs w) (hlen:bs.length+s.size≤140737488355328) (hBw:B≤w.heap.size) :
  Calls Tryz.prog 276 #[.pointer (some ⟨b,0,none⟩),.string s] w fun e w'=>e = .returned (.tuple #[.int .i64 s.size,.nilIface])∧Lib.IsBuilder 146 5 B b (bs++Lib.strCells s) w'∧Below B w w'∧zaP b w w':=by
 obtain⟨i0,hi,hz0,hz1,hz2⟩:=info_parts infoByte
 go_enter Tryz.func276,Tryz.ntmps276
 go_wp2_with (go_at_call 312;refine(zit B b bs _ h).mono ?_)
 rintro e w1 ⟨rfl,h1,hb1,ho1⟩
 obtain⟨hB,v,hbk,hown,hne⟩:=h1
 have c0:w1.cell? ⟨b,0,none⟩=some (.pointer (some ⟨b,0,none⟩)):=by rw [Lib.cell_of_heap hbk];rfl
 have c1:w1.cell? ⟨b,1,none⟩=some v:=by rw [Lib.cell_of_heap hbk];rfl
 go_wp2_with (at_builtin;refine Lib.wpList_append_own_string _ rfl _ _ 144 9 rfl B 5 i0 Tryz.underlying144 Tryz.underlying9 hi hz0 hz1 hz2 _ _ _ rfl hown s rfl ?c3 ?c4 ?c5 ?_)
 case c3=>unfold maxLen;omega
 case c4=>omega
 case c5=>have:=hb1.size;omega
 intro v' w2 hown' hgrow _
 have hlt:b<w1.heap.size:=(Array.getElem?_eq_some_iff.1 hbk).1
 have hb2:w2.heap[b]? = some (.cells #[.pointer (some ⟨b,0,none⟩),v] 146 (0,0)):=by
  rw [hgrow.block b hlt (fun e=>hne e.symm)]
  exact hbk
 have d0:w2.cell? ⟨b,0,none⟩=some (.pointer (some ⟨b,0,none⟩)):=by rw [Lib.cell_of_heap hb2];rfl
 have d1:w2.cell? ⟨b,1,none⟩=some v:=by rw [Lib.cell_of_heap hb2];rfl
 have f1:w2.frozen? ⟨b,1,none⟩=false:=Lib.frozen_of_heap hb2 1
 obtain⟨ao,n',cap,rfl⟩:∃ ao n' cap,v' = .slice ao n' cap:=by
  rcases hown'.2 with⟨hv,_⟩ | ⟨g,cap,cur,hv,_⟩
  ·exact⟨_,_,_,hv⟩
  ·exact⟨_,_,_,hv⟩
 have HW:=Lib.hid hown'
 have HG:=Lib.hid hgrow
 have HB2:=Lib.hid hb2
 clear hown' hgrow hb2
 go_wp2
 go_ret2
 refine⟨rfl,.inr ?_,?_,?_⟩
 ·exact Lib.BuilderAt.put (T:=146) (e:=5) hB HB2.out (bs':=bs++Lib.strCells s) (by simpa [Lib.strCells_length] using HW.out) (by decide)
 ·exact(hb1.grown HG.out (by have:=hb1.size;omega) (fun k hk=>(hown.lt k hk).1)).setCell (p:=⟨b,1,none⟩) hB _
 ·exact(ho1.grown hown HG.out).setCell 1 _
end
section
open Go Go.RowKit Go.Shelf
attribute [local go_sem] Oper.semAt_some
theorem zeE {T e:TypeId} {B b:Nat} {bs:List Value} {w w':World} (h:Lib.IsBuilder T e B b bs w) (hk:∀ i cs t fr,w.heap[i]? = some (.cells cs t fr)→(t=e∨i=b)→w'.heap[i]? = w.heap[i]?):Lib.IsBuilder T e B b bs w':=by
 have go:∀ p,Lib.BuilderAt T e B b p bs w→Lib.BuilderAt T e B b p bs w':=by
  rintro p ⟨hB,v,hb,hown,hne⟩
  refine⟨hB,v,(hk b _ _ _ hb (.inr rfl)).trans hb,zff hown fun x hx=>?_,hne⟩
  rcases hown.2 with⟨rfl,_⟩ | ⟨g,cap,cur,rfl,_,hg,_⟩
  ·simp [Value.ownBlock] at hx
  ·simp [Value.ownBlock] at hx;subst hx;exact hk _ _ _ _ hg (.inl rfl)
 exact h.elim (fun h=>.inl (go _ h)) fun h=>.inr (go _ h)
def zES (w:World) (B b:Nat) (bs:List Value) (pre:List UInt8) (W:World):Prop:=
 Lib.IsBuilder 146 5 B b (bs++Lib.byteCells pre) W∧W.heap[w.heap.size]? = some (.cells #[.pointer (some ⟨b,0,none⟩)] 143 (0,0)) ∧
  (∃ x:Int,W.heap[w.heap.size+1]? = some (.cells #[.int .i64 x] 3 (0,0)))∧w.heap.size+1+1≤W.heap.size∧Below B w W∧zaP b w W
theorem zwK {W W':World} {row:Option Nat} {i:Nat} {cs:Array Value} {t:TypeId} {fr:Nat × Nat} (h:W.heap[i]? = some (.cells cs t fr)) (hg:W.grownBy W' row) (hr:∀ r,row=some r→∃ o:Obj,W.heap[r]? = some o∧o.isCells=false):W'.heap[i]? = W.heap[i]?:=
 grownBy_keeps_cells hg hr h rfl
theorem zsq (w:World) (B b:Nat) (bs:List Value) (B':Nat) (hB:B≤w.heap.size) (hB':w.heap.size≤B'):OwnFrom B' (zES w B b bs):=fun s W W' row ⟨h1,h2,⟨x,h3⟩,h4,h5,h6⟩ hg hr=>
 have hr':=fun r e=>(hr r e).2
 ⟨zeE h1 fun _ _ _ _ hi _=>zwK hi hg hr',zfz h2 hg hr',⟨x,zfz h3 hg hr'⟩,Nat.le_trans h4 hg.size,
  h5.trans ((Below.refl _ _).grown hg (by omega) (fun k e=>by have:=(hr k e).1;omega)),Nat.le_trans h6.1 hg.size,fun i o hi hb ht=>(hg.block i (by have:=(Array.getElem?_eq_some_iff.1 (h6.2 i o hi hb ht)).1;omega) (fun e=>by have:=(hr i e.symm).1;have:=(Array.getElem?_eq_some_iff.1 hi).1;omega)).trans (h6.2 i o hi hb ht)⟩
theorem zuM (w:World) (B b:Nat) (bs:List Value) (hB:B≤w.heap.size) (hb:b<w.heap.size) (pre:List UInt8) (A A':World) (h:zES w B b bs pre A) (hr:zwV (w.heap.size+1) A A'):zES w B b bs pre A':=by
 obtain⟨r,rfl⟩:=hr
 obtain⟨h1,h2,⟨x,h3⟩,h4,h5,h6⟩:=h
 refine⟨zeE h1 fun i cs t fr hi ht=>Below.heap_setCell _ _ _ _ ?_,(Below.heap_setCell _ _ _ _ (by simp)).trans h2,⟨_,one_setCell h3⟩,by simpa [World.setCell] using h4,h5.setCell (p:=⟨w.heap.size+1,0,none⟩) (show B≤w.heap.size+1 by omega) _,?_⟩
 ·intro he
  have he:i=w.heap.size+1:=he
  rcases ht with ht | ht
  ·rw [he,h3] at hi
   simp at hi
   exact absurd (hi.2.1.trans ht) (by decide)
  ·omega
 ·refine⟨by simpa [World.setCell] using h6.1,fun i o hi hb' ht=>(Below.heap_setCell _ _ _ _ ?_).trans (h6.2 i o hi hb' ht)⟩
  have:=(Array.getElem?_eq_some_iff.1 hi).1
  show i≠w.heap.size+1
  omega
theorem zrX (m:Nat) (w:World):Calls Tryz.prog 310 #[.int .i64 m] w fun e w'=>
  e = .returned (.func (.func 338) #[] #[.pointer (some ⟨w.heap.size,0,none⟩)])∧w'=w.alloc (.cells #[.int .i64 m] 3):=by
 go_enter Tryz.func310,Tryz.ntmps310
 go_wp2_with fail
 go_ret
 exact⟨rfl,rfl⟩
theorem writeInt_any (B b:Nat) (bs:List Value) (m:Nat) (hm:m≤1099511627776) (w:World) (h:Lib.IsBuilder 146 5 B b bs w) (hlen:bs.length≤1099511627776) (hBw:B≤w.heap.size) (hbw:b<w.heap.size) :
  Calls Tryz.prog 275 #[.pointer (some ⟨b,0,none⟩),.int .i64 m] w fun e w'=>e = .returned (.tuple #[])∧Lib.IsBuilder 146 5 B b (bs++Lib.byteCells (zbl m)) w'∧Below B w w'∧zaP b w w':=by
 refine(callsIn_wide (n:=4)).1 ?_
 refine callsIn_of_wp_marks Tryz.func275 rfl trivial ?_ rfl
 simp only [Tryz.ntmps275,List.size_toArray,List.length_cons,List.length_nil,Nat.reduceAdd,Nat.reduceSub,Array.replicate_succ,Array.replicate_zero,List.push_toArray,List.append_toArray,List.nil_append,List.cons_append]
 gi_wp2_with (first | (refine⟨trivial,?_⟩;gi_at_call 310;refine(callsIn_wide.2 (zrX m _)).mono ?_;rintro e w' ⟨rfl,rfl⟩))
 obtain⟨W0,hW0⟩:∃ W0,((w.alloc (Obj.cells #[Value.pointer (some ⟨b,0,none⟩)] 143)).alloc (Obj.cells #[Value.int IntKind.i64 m] 3))=W0:=⟨_,rfl⟩
 have z0:w.heap.size+1+1=W0.heap.size:=by rw [← hW0];simp
 have q0:W0.heap[w.heap.size]? = some (.cells #[.pointer (some ⟨b,0,none⟩)] 143 (0,0)):=by rw [← hW0];exact(Below.heap_alloc _ _ _ (by simp)).trans (World.alloc_heap_new w _)
 have q1:W0.heap[w.heap.size+1]? = some (.cells #[.int .i64 m] 3 (0,0)):=by
  rw [← hW0]
  have:=World.alloc_heap_new (w.alloc (Obj.cells #[Value.pointer (some ⟨b,0,none⟩)] 143)) (Obj.cells #[Value.int IntKind.i64 m] 3)
  rwa [World.size_alloc] at this
 have bl:Below B w W0:=by rw [← hW0];exact((Below.refl _ w).alloc hBw _).alloc (by simp;omega) _
 have ob:zaP b w W0:=by rw [← hW0];exact((zaP.refl _ w).alloc _).alloc _
 have hb0:Lib.IsBuilder 146 5 B b bs W0:=by
  rw [← hW0]
  refine zeE h fun i cs t fr hi _=>?_
  have:=(Array.getElem?_eq_some_iff.1 hi).1
  exact(Below.heap_alloc _ _ _ (by simp;omega)).trans (Below.heap_alloc _ _ _ this)
 rw [hW0]
 clear hW0
 have hal:∀ (r:Loop) (b:Nat) (o:Obj),W0.heap[b]? = some o→((W0.alloc (.deferred (some []))).alloc (.loop r)).heap[b]? = some o:=fun r b o hb=>by
  have:=(Array.getElem?_eq_some_iff.1 hb).1
  exact(Below.heap_alloc _ _ _ (by simp;omega)).trans ((Below.heap_alloc _ _ _ this).trans hb)
 refine zbA (P:=Tryz.prog) (F:=Fence.wide) (n:=4) rfl (by omega) (gf:=338) (lb:=#[.pointer (some ⟨w.heap.size+1,0,none⟩)]) rfl trivial (enters_of Tryz.func338 (by kernel_rfl) rfl)
  (encs:=fun x:UInt8=>#[.int .u8 x.toNat]) (Kp:=zqH [w.heap.size+1]) (R:=zwV (w.heap.size+1)) (X:=fun pre _=>pre.length<(zbl m).length)
  (S:=fun xs=>xs=zbl m) (Sp:=fun pre=>pre <+: zbl m)
  (fun r l J Jx hJ _ hY hJ0=>zFG 3 l _ (by omega) m hm J Jx hJ (fun pre x A hA hx=>hY pre x A hA hx) _ (hal r _ _ q1) hJ0)
  (fun h1 h2 b hb=>(h2 b hb).trans (h1 b hb)) (fun W l o o' hl _ _ b hb=>World.putObj_heap_other (by simp at hb;omega))
  (fun⟨r,hr⟩=>hr ▸ (KeepsOthers.setCell _ _ _).from _) (fun _=>rfl)
  (zES w B b bs) (fun _ _ _=>False) (zsq w B b bs _ hBw (by omega)) (fun c s W W' row h _ _=>h) (zuM w B b bs hBw hbw) (fun _ _ _ _ h _=>h)
  ⟨by simpa [Lib.byteCells] using hb0,q0,⟨_,q1⟩,by omega,bl,ob⟩
  (fun x=>{ tmps:=#[Value.pointer (some { block:=b,off:=0 }),Value.int IntKind.i64 ↑m,
        Value.pointer (some { block:=w.heap.size,off:=0 }),undef,Value.int .u8 x.toNat,Value.int IntKind.i64 ↑m,
        Value.func (Fn.func 338) #[] #[Value.pointer (some { block:=w.heap.size+1,off:=0 })],Value.int .u8 x.toNat,undef,
        undef,undef],defers:=[] }) ?assign ?body ?done ?stop
 case assign=>
  intro l x W K hK
  gi_wp2
  exact hK
 case body=>
  rintro l pre x W hI hX
  have c0:=cell_of_one hI.2.1
  have HX:=Lib.hid hX
  have HV:=Lib.hid (zoT B b _ x.toNat W hI.1 (by have:=zth m;simp [Lib.byteCells_length];omega) (by have:=hI.2.2.2.1;omega))
  have HI:=Lib.hid hI
  clear hI hX
  gi_wp2_with (first | (refine⟨trivial,?_⟩;gi_at_call 311;refine(CallsIn.inRound l (callsIn_wide.2 HV.out)).mono ?_;rintro e w' ⟨rfl,h1,h2,h3⟩;have HB:=Lib.hid (And.intro h1 (And.intro h2 h3));clear h1 h2 h3))
  obtain⟨x',hx'⟩:=HI.out.2.2.1
  have k1:=HB.out.2.2.cells _ _ _ _ hx' (by omega) (by decide)
  refine⟨⟨HB.out.2.2.1,fun k o hk ho hc=>HB.out.2.2.2 k o ho (by omega) (fun cs fr e=>by subst e;cases hc)⟩,fun i hi=>?_,?_⟩
  ·simp at hi
   subst hi
   exact k1.trans hx'.symm
  ·refine⟨by rw [Lib.byteCells_append,← List.append_assoc];exact HB.out.1,HB.out.2.2.cells _ _ _ _ HI.out.2.1 (by omega) (by decide),⟨x',k1⟩,Nat.le_trans HI.out.2.2.2.1 HB.out.2.2.1,HI.out.2.2.2.2.1.trans HB.out.2.1,HI.out.2.2.2.2.2.trans HB.out.2.2⟩
 case done=>
  rintro D ys W hD hS hI hK
  have HI:=Lib.hid hI
  clear hI
  gi_wp2_with fail
  have HI':=(zsq w B b bs W0.heap.size hBw (by omega)).putObj (.deferred none) HI.out hD hK rfl
  refine⟨by simp,.inl ⟨_,_,rfl,run_takeDeferred hK,?_⟩⟩
  refine⟨.tuple #[],?_,rfl,by rw [← hS];exact HI'.1,HI'.2.2.2.2.1,HI'.2.2.2.2.2⟩
  simp [results,Tryz.f275,go_sem]
 case stop=>
  rintro D c pre W hD hpre h hK
  exact h.elim
end
section
open Go Go.RowKit Go.Shelf
attribute [local go_sem] Oper.semAt_some
theorem zzD (m:Nat) (hm:m≤1099511627776) (w:World):Calls Tryz.prog 274 #[.int .i64 m] w fun e w'=>e = .returned (.bool true)∧w=w':=by
 have h1:decide ((0:Int)≤(m:Int))=true:=by simp
 have h2:decide ((m:Int)≤1099511627776)=true:=by simp;omega
 go_enter Tryz.func274,Tryz.ntmps274
 go_wp2_with fail
 go_ret
 exact⟨rfl,rfl⟩
theorem zrq (m:Nat) (hm:m≤1099511627776) (w:World):Calls Tryz.prog 240 #[.int .i64 m] w fun e w'=>
  e = .returned (.tuple #[.string ⟨(zbl m).toArray⟩,.int .i64 0])∧Below w.heap.size w w':=by
 have HB:=Lib.hid (Lib.fresh_isBuilder 146 5 w)
 go_enter Tryz.func240,Tryz.ntmps240
 go_wp2_with (first | (go_at_call 274;refine(zzD m hm _).mono ?_;rintro e w' ⟨rfl,rfl⟩) | (go_at_call 275;refine(writeInt_any _ _ _ m hm _ HB.out (by simp) (by simp) (by simp)).mono ?_;rintro e w' ⟨rfl,h1,h2,h3⟩;have HC:=Lib.hid h1;have HD:=Lib.hid h2;clear h1 h2 h3) |
  (go_at_call 112;refine(Tryz.Builder_String_any w.heap.size w.heap.size (zbl m) _ (by simpa using HC.out) (by have:=HD.out.size;simp at this;omega)).mono ?_;rintro e w' ⟨rfl,hb⟩;have HE:=Lib.hid hb;clear hb))
 refine bodyPost_ret (v:=.tuple #[.string ⟨(zbl m).toArray⟩,.int .i64 0]) (by simp [results,Tryz.results240,go_sem]) rfl ?_
 exact⟨rfl,((Below.refl _ w).alloc (Nat.le_refl _) _).trans (HD.out.trans HE.out)⟩
theorem zpc (s:ByteArray) (hs:s.size≤65536) (w:World):Calls Tryz.prog 241 #[.string s] w fun e w'=>
  e = .returned (.tuple #[.string ⟨(zbl s.size++s.data.toList).toArray⟩,.int .i64 0])∧Below w.heap.size w w':=by
 have HB:=Lib.hid (Lib.fresh_isBuilder 146 5 w)
 have hgt:decide ((65536:Int)<(s.size:Int))=false:=by simp;omega
 have hl:=zth s.size
 go_enter Tryz.func241,Tryz.ntmps241
 go_wp2_with (first | (go_at_call 275;refine(writeInt_any _ _ _ s.size (by omega) _ HB.out (by simp) (by simp) (by simp)).mono ?_;rintro e w1 ⟨rfl,h1,h2,h3⟩;have HC:=Lib.hid h1;have HD:=Lib.hid h2;clear h1 h2 h3) |
  (go_at_call 276;refine(zlR _ _ _ s _ HC.out (by simp [Lib.byteCells_length];omega) (by have:=HD.out.size;simp at this;omega)).mono ?_;rintro e w2 ⟨rfl,h1,h2,h3⟩;have HC2:=Lib.hid h1;have HD2:=Lib.hid h2;clear h1 h2 h3) |
  (go_at_call 112;refine(Tryz.Builder_String_any w.heap.size w.heap.size (zbl s.size++s.data.toList) _ (by rw [Lib.byteCells_append];simpa [Lib.strCells_eq] using HC2.out) (by have:=HD.out.size;have:=HD2.out.size;simp at *;omega)).mono ?_;rintro e w' ⟨rfl,hb⟩;have HE:=Lib.hid hb;clear hb))
 refine bodyPost_ret (v:=.tuple #[.string ⟨(zbl s.size++s.data.toList).toArray⟩,.int .i64 0]) (by simp [results,Tryz.results241,go_sem]) rfl ?_
 exact⟨rfl,((Below.refl _ w).alloc (Nat.le_refl _) _).trans (HD.out.trans (HD2.out.trans HE.out))⟩
theorem zqo {a b:Value} (w:World) (F:Nat→Nat→Prop):zcw w F (.tup [.d (.raw a),.d (.raw b)]) (.tuple #[a,b]):=by
 refine .tup _ [a,b] rfl fun i hi hv=>?_
 match i,hi with
 | 0,_=>exact .d (.raw _)
 | 1,_=>exact .d (.raw _)
theorem zti (m:Nat) (hm:m≤1099511627776):Con Tryz.prog 240 [.d (.raw (.int .i64 m))] (.tup [.d (.raw (.string ⟨(zbl m).toArray⟩)),.d (.raw (.int .i64 0))]):=
 zoy (vs:=[.int .i64 m]) ⟨_,Tryz.func240,by decide +kernel,rfl⟩ rfl (fun w F=>zqo w F) fun w _=>zrq m hm w
theorem zpJ (s:ByteArray) (hs:s.size≤65536):Con Tryz.prog 241 [.d (.raw (.string s))] (.tup [.d (.raw (.string ⟨(zbl s.size++s.data.toList).toArray⟩)),.d (.raw (.int .i64 0))]):=
 zoy (vs:=[.string s]) ⟨_,Tryz.func241,by decide +kernel,rfl⟩ rfl (fun w F=>zqo w F) fun w _=>zpc s hs w
end
end Go.Proofs.YtpnjjmcimjlfkaaGreatDoor
