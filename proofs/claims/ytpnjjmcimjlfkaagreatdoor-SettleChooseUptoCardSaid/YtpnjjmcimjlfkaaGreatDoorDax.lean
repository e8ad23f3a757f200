/- Texts of this proof, part 24: what the proof uses of them. -/
import Derived.Test.YtpnjjmcimjlfkaaGreatDoorDaw
import Derived.Lib.Builder
import Derived.Lib.UnsafeStr
import Derived.Laws.Externs
import Derived.Test.YtpnjjmcimjlfkaaGreatDoorDap
import Derived.Test.YtpnjjmcimjlfkaaGreatDoorDal
import Derived.Shelf.RegionOpenPlain
set_option maxRecDepth 100000
set_option maxHeartbeats 64000000
namespace Go.Proofs.YtpnjjmcimjlfkaaGreatDoor
section
open Go Go.RowKit
variable {P:Program} {A:Base P} {σ:St}
theorem zrG {me:Nat} {t:TypeId} {p:Operand} {lo hi:Option Operand} {x:AV} {e:Eff} {n:Prop} (h:zJ P σ me (.slice t p lo hi none)=some (x,e,n)) (hb:zky P t (σ.eval p) (lo.map σ.eval) (hi.map σ.eval)=true):n:=by
 simp only [zJ] at h
 unfold zky at hb
 split at h
 ·rename_i ht
  rw [ht] at hb
  simp only at hb
  split at h
  ·rename_i s hs
   rw [hs] at hb
   simp only at hb
   split at h
   ·rename_i l hh hl hhh
    simp only [hl,hhh,Bool.and_eq_true,decide_eq_true_eq] at hb
    cases h;exact hb
   ·cases h
  ·cases h
 ·rename_i el ht
  rw [ht] at hb
  simp only at hb
  split at h
  ·rename_i r st ver off len hs
   rw [hs] at hb
   simp only at hb
   split at h
   ·rename_i l hh hl hhh
    simp only [hl,hhh,Bool.and_eq_true,decide_eq_true_eq] at hb
    split at h
    ·cases h
    ·split at h
     ·cases h;exact hb
     ·cases h
   ·cases h
  ·rename_i hns
   split at h
   ·rename_i rows hr
    have hb2:(match zbw (lo.map σ.eval) 0,zbw (hi.map σ.eval) rows.length with
     | some l,some h=>zoN (P.cellsOf el) rows && (decide (0≤l) && (decide (l≤h) && decide (h≤(rows.length:Nat))))
     | _,_=>false)=true:=by
     split at hb
     ·rename_i hs;exact absurd hs (hns _ _ _ _ _)
     ·rw [hr] at hb;exact hb
    split at h
    ·rename_i l hh hl hhh
     simp only [hl,hhh,Bool.and_eq_true,decide_eq_true_eq] at hb2
     split at h
     ·cases h
     ·cases h;exact⟨zkU hb2.1,hb2.2⟩
    ·cases h
   ·cases h
 ·cases h
theorem zfC {α:Type} {o:Option α} {f:α→AV} {x:AV} {e:Eff} {n:Prop} (h:(o.map fun y=>(f y,Eff.none,True))=some (x,e,n)):n:=by
 cases o with
 | none=>cases h
 | some y=>cases h;trivial
theorem ztF {me:Nat} {op:Op} {x:AV} {e:Eff} {n:Prop} (h:zJ P σ me op=some (x,e,n)) (hb:ztG P σ op=true):n:=by
 cases op with
 | move p=>cases h;trivial
 | assign p=>cases h;trivial
 | pick c p q=>
  simp only [zJ] at h
  split at h
  ·cases h;trivial
  ·cases h
 | alloc ty=>
  simp only [zJ] at h
  split at h
  ·cases h;trivial
  ·cases h
 | box ty p=>
  simp only [zJ] at h
  split at h
  ·cases h;trivial
  ·cases h
 | load t p=>exact ztD h hb
 | store t p q=>exact zrF h hb
 | binOp op t p q u=>exact zwj h hb
 | unOp u t p=>
  cases u with
  | not=>
   simp only [zJ] at h
   split at h
   ·cases h;trivial
   ·cases h
  | neg=>
   simp only [zJ] at h
   simp only [ztG] at hb
   split at h
   ·rename_i m hm
    rw [hm] at hb
    cases h;exact zrR hb
   ·cases h
  | _=>cases hb
 | convert s t p=>
  simp only [zJ] at h
  split at h
  ·split at h
   ·cases h;trivial
   ·cases h
  ·unfold zjw at h
   split at h
   ·split at h
    ·exact zfC (f:=fun(l:List UInt8)=>AV.d (.raw (.string ⟨l.toArray⟩))) h
    ·cases h
   ·cases h
 | extract p k=>
  simp only [zJ] at h
  split at h
  ·exact zfC (f:=fun y=>y) h
  ·cases h
 | field s p k=>
  simp only [zJ] at h
  split at h
  ·split at h
   ·exact zfC (f:=fun y=>y) h
   ·cases h
  ·cases h
 | fieldAddr s p k=>
  simp only [zJ] at h
  split at h
  ·split at h
   ·split at h
    ·cases h
    ·exact zfC (f:=fun y=>y) h
   ·cases h
  ·cases h
 | indexAddr t p q=>exact zrH h hb
 | index t p q=>
  simp only [zJ] at h
  simp only [ztG] at hb
  split at h
  ·rename_i h1 h2 h3
   rw [h2,h3] at hb
   simp only [Bool.and_eq_true,decide_eq_true_eq] at hb
   cases h;exact hb
  ·cases h
 | slice t p lo hi mx=>
  cases mx with
  | none=>exact zrG h hb
  | some m=>cases hb
 | call c=>exact ztE h hb
 | buildSlice t k ps=>
  simp only [zJ] at h
  split at h
  ·split at h
   ·split at h
    ·cases h;trivial
    ·cases h
   ·cases h
  ·cases h
 | build t ps=>
  simp only [zJ] at h
  split at h
  ·split at h
   ·split at h
    ·exact zfC (f:=fun y=>AV.agg y) h
    ·cases h
   ·cases h
  ·split at h
   ·split at h
    ·cases h
    ·exact zfC (f:=fun y=>AV.agg y) h
   ·cases h
  ·cases h
 | makeFunc f fs cs=>
  cases f with
  | func f=>
   simp only [zJ] at h
   split at h
   ·cases h;trivial
   ·split at h
    ·cases h;trivial
    ·cases h
   ·cases h
  | _=>simp only [zJ] at h;cases h
 | nilCheck p=>
  simp only [zJ] at h
  split at h
  ·cases h;trivial
  ·cases h
 | makeInterface t p=>
  simp only [zJ] at h
  split at h
  ·cases h;trivial
  ·cases h
 | _=>cases hb
end
section
open Go Go.RowKit
variable {P:Program}
def zuS {α:Type}:List (Nat × α)→Nat→α→List (Nat × α)
 | [],t,x=>[(t,x)]
 | (k,y) :: r,t,x=>if k=t then (t,x) :: r else (k,y) :: zuS r t x
theorem zhO {α:Type} (t:Nat) (x:α) (n:Nat):∀ l:List (Nat × α),zQ (zuS l t x) n=if t=n then some x else zQ l n
 | []=>by simp [zuS,zQ]
 | (k,y) :: r=>by
  unfold zuS
  by_cases h:k=t
  ·rw [if_pos h]
   subst h
   simp only [zQ]
   split <;> rfl
  ·rw [if_neg h]
   simp only [zQ]
   rw [zhO t x n r]
   by_cases h2:k=n
   ·subst h2;rw [if_pos rfl,if_neg fun e=>h e.symm,if_pos rfl]
   ·rw [if_neg h2,if_neg h2]
def St.putU (σ:St) (t:Option Tmp) (x:AV):St:=
 match t with
 | some t=>{ σ with env:=zuS σ.env t x }
 | none=>σ
def St.appU (σ:St):Eff→St
 | .none=>σ
 | .blk r b=>{ σ with blks:=zuS σ.blks r (some b) }
 | .tok r k=>{ σ with toks:=zuS σ.toks r (some k) }
def St.Like (σ τ:St):Prop:=(∀ t,τ.get t=σ.get t)∧(∀ r,τ.blk r=σ.blk r)∧∀ r,τ.tok r=σ.tok r
theorem St.Like.ok {A:Base P} {σ τ:St} {g:Gh} {a:Act} {w:World} (h:St.Like σ τ) (hk:Ok A σ g a w):Ok A τ g a w:=hk.sub (fun t=>.inr (h.1 t)) (fun r=>.inr (h.2.1 r)) fun r=>.inr (h.2.2 r)
theorem zjr (σ:St) (t:Option Tmp) (x:AV):St.Like (σ.put t x) (σ.putU t x):=by
 cases t with
 | none=>exact⟨fun _=>rfl,fun _=>rfl,fun _=>rfl⟩
 | some t=>exact⟨fun n=>by simp only [St.get,St.put,St.putU,zhO,zQ],fun _=>rfl,fun _=>rfl⟩
theorem zuE (σ:St) (e:Eff) (t:Option Tmp) (x:AV):St.Like ((σ.app e).put t x) ((σ.appU e).putU t x):=by
 have h1:St.Like (σ.app e) (σ.appU e):=by
  cases e with
  | none=>exact⟨fun _=>rfl,fun _=>rfl,fun _=>rfl⟩
  | blk r b=>exact⟨fun _=>rfl,fun n=>by simp only [St.blk,St.app,St.appU,St.setBlk,zhO,zQ],fun _=>rfl⟩
  | tok r k=>exact⟨fun _=>rfl,fun _=>rfl,fun n=>by simp only [St.tok,St.app,St.appU,St.setTok,zhO,zQ]⟩
 have h2:=zjr (σ.appU e) t x
 refine⟨fun n=>?_,fun r=>?_,fun r=>?_⟩
 ·rw [h2.1,St.get_put,St.get_put,h1.1]
 ·rw [h2.2.1,St.blk_put,St.blk_put,h1.2.1]
 ·rw [h2.2.2,St.tok_put,St.tok_put,h1.2.2]
theorem zfs {A:Base P} {σ τ:St} {all l:List Oper} {K:Exit→St→Prop} (h:St.Like σ τ) (hs:zid P A all l τ K):zid P A all l σ K:=fun g a w hk=>hs g a w (h.ok hk)
structure XS where
 σ:St
 c:Nat
inductive XM where
 | code (c:Code)
 | ops (all rest:List Oper) (i base:Nat)
 | dops (all rest:List Oper) (i base:Nat) (acc:List RI)
def zjY (σ:St):Op→Option (Bool × FuncId × List AV)
 | .call c=>match c.callee with
  | .value p=>match σ.eval p with
   | .fn f cs=>some (true,f,c.args.toList.map σ.eval++cs)
   | .bnd f x=>some (false,f,x :: c.args.toList.map σ.eval)
   | _=>none
  | _=>none
 | _=>none
def zFd:Exit→Bool
 | .normal=>true
 | .ret=>true
 | _=>false
abbrev Rec:=Nat→XM→XS→Option (Exit × XS)
def zCj (P:Program) (tbl:FuncId→List AV→Option AV) (rec:Rec) (f:FuncId) (ys:List AV):Option AV:=
 match tbl f ys with
 | some r=>some r
 | none=>match P.funcs[f]? with
  | some fn=>match fn.body with
   | some c => if zt ys && decide (ys.length ≤ fn.ntmps) && !(fn.name == "runtime.NumGoroutine") then
     match rec fn.ntmps (.code c) ⟨St.enter ys,0⟩ with
     | some (e,s')=>if zFd e then (match zhp P s'.σ fn.results.toList with
      | some r=>if r.closed then some r else none
      | none=>none) else none
     | none=>none
    else none
   | none=>none
  | none=>none
def zEp (P:Program) (rec:Rec) (s:XS) (f:FuncId) (asL:List AV):Option (AV × XS):=
 match P.funcs[f]? with
 | some fn=>match fn.body with
  | some c => if decide (asL.length ≤ fn.ntmps) && decide (fn.ntmps ≤ 1000000) && !(fn.name == "runtime.NumGoroutine") then
    match rec fn.ntmps (.code c) ⟨s.σ.enterI asL,s.c⟩ with
    | some (e,s')=>if zFd e then (rawRes P s'.σ fn.results.toList).map fun y=>(y,⟨s'.σ.backI,s'.c⟩) else none
    | none=>none
   else none
  | none=>none
 | none=>none
def zCL (P:Program) (tbl:FuncId→List AV→Option AV) (rec:Rec) (s:XS) (b:Bool) (f:FuncId) (asL:List AV):Option (AV × XS):=
 match (bif b then zY asL else none).bind (zCj P tbl rec f) with
 | some r=>some (r,s)
 | none=>zEp P rec s f asL
def zfi (P:Program) (tbl:FuncId→List AV→Option AV) (sp:St→Nat→Oper→Option (St × AV)) (sh:St→Nat→Oper→Option (AV × Eff)) (rec:Rec) (N:Nat) (m:XM) (s:XS):Option (Exit × XS):=
 match m with
 | .code c=>match c with
  | .skip=>some (.normal,s)
  | .region _ ops false=>rec N (.ops ops.toList ops.toList 0 (1000 * (s.c+1000))) ⟨s.σ,s.c+1⟩
  | .region _ ops true=>rec N (.dops ops.toList ops.toList 0 (1000 * (s.c+1000)) []) ⟨s.σ,s.c+1⟩
  | .seq x y=>match rec N (.code x) s with
   | some (.normal,s')=>rec N (.code y) s'
   | r=>r
  | .cond c x y=>match s.σ.eval c with
   | .d (.raw (.bool b))=>rec N (.code (bif b then x else y)) s
   | _=>none
  | .block id c=>match rec N (.code c) s with
   | some (.exit id',s')=>if id'=id then some (.normal,s') else some (.exit id',s')
   | r=>r
  | .loop c=>match rec N (.code c) s with
   | some (.normal,s')=>rec N (.code (.loop c)) s'
   | r=>r
  | .exit id=>some (.exit id,s)
  | .ret=>some (.ret,s)
  | _=>none
 | .ops all l i base=>match l with
  | []=>some (.normal,s)
  | o :: rest=>if zat N o then (match zcV N all s.σ o with
   | none=>none
   | some false=>rec N (.ops all rest (i+1) base) ⟨s.σ.putU o.dst (.d (.raw undef)),s.c⟩
   | some true=>match sp s.σ (base+i) o with
    | some (σ',x)=>rec N (.ops all rest (i+1) base) ⟨σ'.putU o.dst x,s.c⟩
    | none=>match sh s.σ (base+i) o with
    | some (x,e)=>if s.σ.ment (base+i) then none else rec N (.ops all rest (i+1) base) ⟨(s.σ.appU e).putU o.dst x,s.c⟩
    | none=>match zjY s.σ o.op with
     | some (b,f,asL)=>match zCL P tbl rec s b f asL with
      | some (y,s')=>rec N (.ops all rest (i+1) base) ⟨s'.σ.putU o.dst y,s'.c⟩
      | none=>none
     | none=>match zJ P s.σ (base+i) o.op with
      | some (x,e,_)=>if ztG P s.σ o.op && (!zgN o.op || !s.σ.ment (base+i)) then rec N (.ops all rest (i+1) base) ⟨(s.σ.appU e).putU o.dst x,s.c⟩ else none
      | none=>none) else none
 | .dops all l i base acc=>match l with
  | []=>if chk all base acc then some (.normal,s) else none
  | o :: rest=>if zat N o then (match zcV N all s.σ o with
   | none=>none
   | some false=>rec N (.dops all rest (i+1) base (acc++[ziH s.σ o (.d (.raw undef)) .none])) ⟨s.σ.put o.dst (.d (.raw undef)),s.c⟩
   | some true=>match sh s.σ (base+i) o with
    | some (x,e)=>if s.σ.ment (base+i) then none else rec N (.dops all rest (i+1) base (acc++[ziH s.σ o x e])) ⟨(s.σ.app e).put o.dst x,s.c⟩
    | none=>match zjY s.σ o.op with
     | some (b,f,asL)=>match (bif b then zY asL else none).bind (zCj P tbl rec f) with
      | some y=>rec N (.dops all rest (i+1) base (acc++[ziH s.σ o y .none])) ⟨s.σ.put o.dst y,s.c⟩
      | none=>none
     | none=>match zJ P s.σ (base+i) o.op with
      | some (x,e,_)=>if ztG P s.σ o.op && (!zgN o.op || !s.σ.ment (base+i)) then rec N (.dops all rest (i+1) base (acc++[ziH s.σ o x e])) ⟨(s.σ.app e).put o.dst x,s.c⟩ else none
      | none=>none) else none
def ex (P:Program) (tbl:FuncId→List AV→Option AV) (sp:St→Nat→Oper→Option (St × AV)) (sh:St→Nat→Oper→Option (AV × Eff)):Nat→Rec
 | 0=>fun _ _ _=>none
 | n+1=>zfi P tbl sp sh (ex P tbl sp sh n)
end
section
open Go Go.RowKit
variable {P:Program} {tbl:FuncId→List AV→Option AV} {sp:St→Nat→Oper→Option (St × AV)} {sh:St→Nat→Oper→Option (AV × Eff)}
theorem zhE {A:Base P} (K:Exit→St→Prop):stk P A [] K=K:=by funext e σ;rfl
theorem zvr {A:Base P} {σ:St} {c:Code} {s:List Itm} {Q:Exit→St→Prop} (I:Nat→St→Prop) (n0:Nat) (h0:I n0 σ)
  (round:∀ n σ,I n σ→zbe P A c σ (stk P A (.inv (fun σ'=>∃ n',n'<n∧I n' σ') :: s) Q)):zbe P A (.loop c) σ (stk P A s Q):=by
 intro g a w hk b k cs hro hb hr
 have key:∀ n a w,(∃ σ g,I n σ∧Ok A σ g a w) →
   ∃ e a' w',zgh A (stk P A s Q) e a' w'∧ArrivesIn (Machine.fenced P A.fe) P (lone (b.atR a (.code c :: .inLoop c :: k)) cs w) b k cs e a' w':=by
  intro n
  induction n using Nat.strongRecOn with
  | _ n ih=>
   rintro a w ⟨σ1,g1,hI,hk1⟩
   obtain⟨e,a₁,w₁,⟨σ2,g2,hq,hk2⟩,harr⟩:=round n σ1 hI g1 a w hk1 b (.inLoop c :: k) cs hro hb hr
   cases e with
   | normal=>
    obtain⟨n',hlt,hI'⟩:=hq
    obtain⟨e₂,a₂,w₂,hq₂,harr₂⟩:=ih n' hlt a₁ w₁ ⟨_,g2,hI',hk2⟩
    exact⟨e₂,a₂,w₂,hq₂,.of_steps (StepsIn.trans harr (.one (fenced_calm hb hr rfl) stepR_inLoop)) harr₂⟩
   | exit id=>exact⟨_,a₁,w₁,⟨σ2,g2,hq,hk2⟩,.pass (x:=.inLoop c) rfl (fun _ _=>.inl (by simp)) harr⟩
   | goto l=>exact⟨_,a₁,w₁,⟨σ2,g2,hq,hk2⟩,.pass (x:=.inLoop c) rfl (fun _ _=>.inl (by simp)) harr⟩
   | ret=>exact⟨_,a₁,w₁,⟨σ2,g2,hq,hk2⟩,.pass (x:=.inLoop c) rfl (fun _ _=>.inl (by simp)) harr⟩
   | panic ch=>exact⟨_,a₁,w₁,⟨σ2,g2,hq,hk2⟩,.pass (x:=.inLoop c) rfl (fun _ _=>.inl (by simp)) harr⟩
   | outgrown=>exact⟨_,a₁,w₁,⟨σ2,g2,hq,hk2⟩,.pass (x:=.inLoop c) rfl (fun _ _=>.inl (by simp)) harr⟩
 obtain⟨e,a',w',hq,harr⟩:=key n0 a w ⟨_,g,h0,hk⟩
 exact⟨e,a',w',hq,.of_steps (.one (fenced_calm hb hr rfl) stepR_loop) harr⟩
def zGn (P:Program) (A:Base P):XM→St→(Exit→St→Prop)→Prop
 | .code c,σ,K=>zbe P A c σ K
 | .ops all rest _ _,σ,K=>zid P A all rest σ K
 | .dops all rest i base acc,σ,K=>P.follows .mixedOrders=true→zoR P A all rest i base acc [] σ K
def Snd (P:Program) (rec:Rec):Prop:=∀ N m s e s',rec N m s=some (e,s')→∀ A:Base P,A.N=N→zGn P A m s.σ fun e' σ'=>e'=e∧σ'=s'.σ
def zoP (P:Program) (tbl:FuncId→List AV→Option AV):Prop:=∀ f ys r,tbl f ys=some r→Con P f ys r
def zET (P:Program) (sp:St→Nat→Oper→Option (St × AV)):Prop:=∀ (A:Base P) σ me o σ' x,sp σ me o=some (σ',x)→zO P A o σ σ' x
def zEU (P:Program) (sh:St→Nat→Oper→Option (AV × Eff)):Prop:=∀ σ me o x e,sh σ me o=some (x,e)→zGd P σ me o x e
theorem zsc {rec:Rec} (hr:Snd P rec) (ht:zoP P tbl) {f:FuncId} {ys:List AV} {r:AV} (h:zCj P tbl rec f ys=some r):Con P f ys r:=by
 unfold zCj at h
 split at h
 ·rename_i r' h1;cases h;exact ht _ _ _ h1
 split at h
 ·rename_i fn hfn
  split at h
  ·rename_i c hb
   split at h
   ·rename_i hc
    simp only [Bool.and_eq_true,decide_eq_true_eq,Bool.not_eq_true'] at hc
    split at h
    ·rename_i e s' hrun
     split at h
     ·rename_i hdone
      split at h
      ·rename_i r' hfin
       split at h
       ·rename_i hcl
        cases h
        refine zh hfn hb hc.2 hcl hc.1.1 hc.1.2 fun A hA=>?_
        rw [zhE]
        refine zbe.mono (hr _ _ _ _ _ hrun A hA) fun e' σ' hq=>?_
        obtain⟨rfl,rfl⟩:=hq
        cases e' with
        | normal=>exact hfin
        | ret=>exact hfin
        | exit | goto | panic | outgrown=>cases hdone
       ·cases h
      ·cases h
     ·cases h
    ·cases h
   ·cases h
  ·cases h
 ·cases h
theorem zxT {rec:Rec} (hr:Snd P rec) {A:Base P} {s s':XS} {f:FuncId} {asL:List AV} {all rest:List Oper} {o:Oper} {y:AV} {K:Exit→St→Prop}
  (hent : ∀ (fn : Func) (c : Code),P.funcs[f]? = some fn → fn.body = some c → (fn.name == "runtime.NumGoroutine") = false → asL.length ≤ fn.ntmps → fn.ntmps ≤ 1000000 →
   (∀ A':Base P,A'.N=fn.ntmps→(A'.fx=A.fx∧A'.tk0=A.tk0)→zbe P A' c (s.σ.enterI asL) (stk P A' [.off 0] (zyN P fn.results.toList fun y σ'=>go P A 0 (.ops all rest (0+1) 0) [] (σ'.backI.put o.dst y) K)))→zcy P A (.exe (some f) all o rest 0 0) [] s.σ K)
  (h:zEp P rec s f asL=some (y,s')) (hk:zid P A all rest (s'.σ.put o.dst y) K):zoQ P A all o rest s.σ K:=by
 unfold zEp at h
 split at h
 ·rename_i fn hfn
  split at h
  ·rename_i c hb
   split at h
   ·rename_i hc
    simp only [Bool.and_eq_true,decide_eq_true_eq,Bool.not_eq_true'] at hc
    split at h
    ·rename_i e s1 hrun
     split at h
     ·rename_i hdone
      cases hraw:rawRes P s1.σ fn.results.toList with
      | none=>rw [hraw] at h;cases h
      | some y'=>
       rw [hraw] at h
       cases h
       have:=hent fn c hfn hb hc.2 hc.1.1 hc.1.2 fun A' hA' _=>by
        refine zbe.mono (hr _ _ _ _ _ hrun A' hA') fun e' σ' hq=>?_
        obtain⟨rfl,rfl⟩:=hq
        show stk P A' [.off 0] _ e' s1.σ
        have hgo:zyN P fn.results.toList (fun y σ'=>go P A 0 (.ops all rest (0+1) 0) [] (σ'.backI.put o.dst y) K) e' s1.σ:=by
         have key:(match rawRes P s1.σ fn.results.toList with | some y=>go P A 0 (.ops all rest (0+1) 0) [] (s1.σ.backI.put o.dst y) K | none=>False):=by
          rw [hraw]
          show zid P A all rest _ (stk P A [] K)
          rw [zhE];exact hk
         cases e' with
         | normal=>exact key
         | ret=>exact key
         | exit | goto | panic | outgrown=>cases hdone
        cases e' <;> exact hgo
       have h2:zoQ P A all o rest s.σ (stk P A [] K):=this
       rw [zhE] at h2
       exact h2
     ·cases h
    ·cases h
   ·cases h
  ·cases h
 ·cases h
theorem zjX {σ:St} {op:Op} {b:Bool} {f:FuncId} {asL:List AV} (h:zjY σ op=some (b,f,asL)):∃ cl p,op = .call cl∧cl.callee = .value p∧((b=true∧∃ cs,σ.eval p = .fn f cs∧asL=cl.args.toList.map σ.eval++cs)∨(b=false∧∃ x,σ.eval p = .bnd f x∧asL=x :: cl.args.toList.map σ.eval)):=by
 unfold zjY at h
 split at h
 ·rename_i cl
  split at h
  ·rename_i p hp
   split at h
   ·rename_i f' cs hf
    cases h
    exact⟨cl,p,rfl,hp,.inl ⟨rfl,cs,hf,rfl⟩⟩
   ·rename_i f' x hf
    cases h
    exact⟨cl,p,rfl,hp,.inr ⟨rfl,x,hf,rfl⟩⟩
   ·cases h
  ·cases h
 ·cases h
theorem zCK {rec:Rec} (hr:Snd P rec) (ht:zoP P tbl) {A:Base P} {s s':XS} {b:Bool} {f:FuncId} {asL:List AV} {all rest:List Oper} {o:Oper} {y:AV} {K:Exit→St→Prop} (hc:zjY s.σ o.op=some (b,f,asL)) (hd:zat A.N o=true)
  (h:zCL P tbl rec s b f asL=some (y,s')) (hk:zid P A all rest (s'.σ.put o.dst y) K):zoQ P A all o rest s.σ K:=by
 obtain⟨cl,p,ho,hp,⟨rfl,cs,hf,rfl⟩ | ⟨rfl,x,hf,rfl⟩⟩:=zjX hc
 ·unfold zCL at h
  split at h
  ·rename_i r hb
   cases h
   cases hcl:zY (cl.args.toList.map s.σ.eval++cs) with
   | none=>rw [hcl] at hb;cases hb
   | some ys=>
    rw [hcl] at hb
    exact zpB ho hp hf hcl (zsc hr ht hb) hd hk
  ·exact zxT hr (fun fn c h1 h2 h3 h4 h5 h6=>zjI 0 0 ho hp hf h1 h2 h3 h4 h5 hd h6) h hk
 ·have h':zEp P rec s f (x :: cl.args.toList.map s.σ.eval)=some (y,s'):=h
  exact zxT hr (fun fn c h1 h2 h3 h4 h5 h6=>zBN 0 0 ho hp hf h1 h2 h3 h4 h5 hd h6) h' hk
theorem zDt (hP:P.follows .mixedOrders=true) (ht:zoP P tbl) (hs:zET P sp) (hsh:zEU P sh) {rec:Rec} (hr:Snd P rec):∀ N m s e s',(∀ c,m ≠ .code (.loop c))→zfi P tbl sp sh rec N m s=some (e,s')→∀ A:Base P,A.N=N→zGn P A m s.σ fun e' σ'=>e'=e∧σ'=s'.σ:=by
 intro N m s e s' hnl h A hA
 subst hA
 cases m with
 | code c=>
  cases c with
  | skip=>
   cases h
   exact fun g a w hk=>wpIn_skip ⟨s.σ,g,⟨rfl,rfl⟩,hk⟩
  | region id ops draw=>
   cases draw with
   | false=>exact zlg (hr _ _ _ _ _ h A rfl)
   | true=>
    have h1:zoR P A ops.toList ops.toList 0 _ [] [] s.σ _:=hr _ _ _ _ _ h A rfl hP
    have h2:=zmT (P:=P) (A:=A) (id:=id) h1
    rw [zhE] at h2
    exact h2
  | seq x y=>
   simp only [zfi] at h
   refine zmS ?_
   split at h
   ·rename_i s1 h1
    refine zbe.mono (hr _ _ _ _ _ h1 A rfl) fun e' σ' hq=>?_
    obtain⟨rfl,rfl⟩:=hq
    exact hr _ _ _ _ _ h A rfl
   ·rename_i hn
    refine zbe.mono (hr _ _ _ _ _ h A rfl) fun e' σ' hq=>?_
    obtain⟨rfl,rfl⟩:=hq
    cases e' with
    | normal=>exact absurd h (hn _)
    | exit | goto | ret | panic | outgrown=>exact⟨rfl,rfl⟩
  | cond c x y=>
   simp only [zfi] at h
   split at h
   ·rename_i b hc
    have h1:=hr _ _ _ _ _ h A rfl
    intro g a w hk
    have he:=hk.eval c
    rw [hc] at he
    refine wpIn_cond_split he.raw_eq (fun hb=>?_) (fun hb=>?_)
    ·subst hb;exact h1 g a w hk
    ·subst hb;exact h1 g a w hk
   ·cases h
  | block id c=>
   simp only [zfi] at h
   refine zmU ?_
   split at h
   ·rename_i id' s1 h1
    refine zbe.mono (hr _ _ _ _ _ h1 A rfl) fun e' σ' hq=>?_
    obtain⟨rfl,rfl⟩:=hq
    show if id'=id then _ else _
    split at h
    ·rename_i hid;rw [if_pos hid];cases h;exact⟨rfl,rfl⟩
    ·rename_i hid;rw [if_neg hid];cases h;exact⟨rfl,rfl⟩
   ·rename_i hn
    refine zbe.mono (hr _ _ _ _ _ h A rfl) fun e' σ' hq=>?_
    obtain⟨rfl,rfl⟩:=hq
    cases e' with
    | exit id'=>exact absurd h (hn _ _)
    | normal | goto | ret | panic | outgrown=>exact⟨rfl,rfl⟩
  | loop c=>exact absurd rfl (hnl c)
  | exit id=>cases h;exact fun g a w hk=>wpIn_exit ⟨s.σ,g,⟨rfl,rfl⟩,hk⟩
  | ret=>cases h;exact fun g a w hk=>wpIn_ret ⟨s.σ,g,⟨rfl,rfl⟩,hk⟩
  | rangeFunc | scope | label | goto | refuse=>simp only [zfi] at h;cases h
 | ops all l i base=>
  cases l with
  | nil=>cases h;exact fun g a w hk=>wpListIn_nil ⟨s.σ,g,⟨rfl,rfl⟩,hk⟩
  | cons o rest=>
   simp only [zfi] at h
   split at h
   ·rename_i hd
    show zid P A all (o :: rest) s.σ _
    cases hg:zcV A.N all s.σ o with
    | none=>rw [hg] at h;cases h
    | some b=>
     rw [hg] at h
     cases b with
     | false=>exact zft hg (fun h=>by cases h) (fun _=>zfs (zjr _ _ _) (hr _ _ _ _ _ h A rfl)) fun _=>hd
     | true=>
      simp only at h
      refine zft hg (fun _=>?_) (fun h=>by cases h) fun _=>hd
      split at h
      ·rename_i σ' x hsp
       exact zdn (hs A _ _ _ _ _ hsp) hd (zfs (zjr _ _ _) (hr _ _ _ _ _ h A rfl))
      ·split at h
       ·rename_i x e' hx
        split at h
        ·cases h
        rename_i hm
        have hm':s.σ.ment (base+i)=false:=by simpa using hm
        obtain⟨_,h2⟩:=hsh _ _ _ _ _ hx
        exact zdn (h2 A s.σ (fun _ _=>rfl) (fun _ _ _ _=>⟨rfl,rfl⟩) fun _=>St.free_of hm') hd (zfs (zuE _ _ _ _) (hr _ _ _ _ _ h A rfl))
       split at h
       ·rename_i b f asL hc
        split at h
        ·rename_i y s1 hcall
         exact zCK hr ht hc hd hcall (zfs (zjr _ _ _) (hr _ _ _ _ _ h A rfl))
        ·cases h
       ·split at h
        ·rename_i x e' n hout
         split at h
         ·rename_i hb
          simp only [Bool.and_eq_true,Bool.or_eq_true,Bool.not_eq_true'] at hb
          refine zdn (znw hout (ztF hout hb.1) fun hm=>St.free_of ?_) hd (zfs (zuE _ _ _ _) (hr _ _ _ _ _ h A rfl))
          rcases hb.2 with h1 | h1
          ·rw [h1] at hm;cases hm
          ·exact h1
         ·cases h
        ·cases h
   ·cases h
 | dops all l i base acc=>
  intro _
  cases l with
  | nil=>
   simp only [zfi] at h
   split at h
   ·rename_i hch
    cases h
    exact⟨hP,[],s.σ,.nil _ _,by rw [List.append_nil];exact hch,by rw [zhE];exact⟨rfl,rfl⟩⟩
   ·cases h
  | cons o rest=>
   simp only [zfi] at h
   split at h
   ·rename_i hd
    cases hg:zcV A.N all s.σ o with
    | none=>rw [hg] at h;cases h
    | some b=>
     rw [hg] at h
     cases b with
     | false=>exact zqv hg hd (hr _ _ _ _ _ h A rfl hP)
     | true=>
      simp only at h
      split at h
      ·rename_i x e' hx
       split at h
       ·cases h
       exact zeh hg (.inr (.inr (.inr (.inr (hsh _ _ _ _ _ hx))))) hd (hr _ _ _ _ _ h A rfl hP)
      split at h
      ·rename_i b f asL hc
       obtain⟨cl,p,ho,hp,⟨rfl,cs,hf,rfl⟩ | ⟨rfl,x,hf,rfl⟩⟩:=zjX hc
       rotate_left
       ·cases h
       split at h
       ·rename_i y hb
        cases hcl:zY (cl.args.toList.map s.σ.eval++cs) with
        | none=>rw [hcl] at hb;cases hb
        | some ys=>
         rw [hcl] at hb
         exact zeh hg (.inr (.inl ⟨rfl,f,cl,p,cs,ys,ho,hp,hf,hcl,zsc hr ht hb⟩)) hd (hr _ _ _ _ _ h A rfl hP)
       ·cases h
      ·split at h
       ·rename_i x e' n hout
        split at h
        ·rename_i hb
         simp only [Bool.and_eq_true,Bool.or_eq_true,Bool.not_eq_true'] at hb
         refine zeh hg (.inl ⟨n,hout,ztF hout hb.1,fun hm=>?_⟩) hd (hr _ _ _ _ _ h A rfl hP)
         rcases hb.2 with h1 | h1
         ·rw [h1] at hm;cases hm
         ·exact h1
        ·cases h
       ·cases h
   ·cases h
theorem zGj (hP:P.follows .mixedOrders=true) (ht:zoP P tbl) (hs:zET P sp) (hsh:zEU P sh):∀ n,Snd P (ex P tbl sp sh n):=by
 intro n
 induction n using Nat.strongRecOn with
 | _ n ih=>
  intro N m s e s' h A hA
  cases n with
  | zero=>cases h
  | succ n=>
   by_cases hl:∃ c,m = .code (.loop c)
   ·obtain⟨c,rfl⟩:=hl
    subst hA
    have h2:=zvr (P:=P) (A:=A) (σ:=s.σ) (c:=c) (s:=[]) (Q:=fun e' σ'=>e'=e∧σ'=s'.σ) (fun k σ=>k≤n+1∧∃ t:XS,t.σ=σ∧ex P tbl sp sh k A.N (.code (.loop c)) t=some (e,s')) (n+1) ⟨Nat.le_refl _,s,rfl,h⟩ fun k σ hI=>by
     obtain⟨hk,t,rfl,ht'⟩:=hI
     cases k with
     | zero=>cases ht'
     | succ j=>
      have hj:=ih j (by omega)
      simp only [ex,zfi] at ht'
      split at ht'
      ·rename_i s1 h1
       refine zbe.mono (hj _ _ _ _ _ h1 A rfl) fun e' σ' hq=>?_
       obtain⟨rfl,rfl⟩:=hq
       exact⟨j,Nat.lt_succ_self j,by omega,s1,rfl,ht'⟩
      ·rename_i hn
       refine zbe.mono (hj _ _ _ _ _ ht' A rfl) fun e' σ' hq=>?_
       obtain⟨rfl,rfl⟩:=hq
       cases e' with
       | normal=>exact absurd ht' (hn _)
       | exit | goto | ret | panic | outgrown=>exact⟨rfl,rfl⟩
    rw [zhE] at h2
    exact h2
   ·exact zDt hP ht hs hsh (ih n (Nat.lt_succ_self n)) N m s e s' (fun c hc=>hl ⟨c,hc⟩) h A hA
theorem zEs (n:Nat) (hP:P.follows .mixedOrders=true) (ht:zoP P tbl) (hs:zET P sp) (hsh:zEU P sh) {f:FuncId} {ys:List AV} {r:AV} (h:zCj P tbl (ex P tbl sp sh n) f ys=some r):Con P f ys r:=zsc (zGj hP ht hs hsh n) ht h
end
section
open Go Go.RowKit
variable {P:Program} {A:Base P} {σ:St} {g:Gh} {a:Act} {w:World}
theorem zmY (hk:Ok A σ g a w) {o:Oper} {t e:TypeId} {l:List Operand} {z:Value} (ho:o.op = .buildSlice t l.length (l.zipIdx.map fun x=>(x.2,x.1)).toArray) (ht:P.underlying t=some (.slice e)) (hz:zz P e=some z) (_hzs:z.cells.size=P.cellsOf e) (h0:P.cellsOf e≠0)
  (h1:∀ p ∈ l,(σ.eval p).cells.all AV.one=true∧(σ.eval p).cells.length=P.cellsOf e) (hlim:l.length * P.cellsOf e≤2 ^ 24) :
  ∃ arr:Array Value,(execOp a.eval o).run P w = .ok (.value (.slice (some ⟨w.heap.size,0,none⟩) l.length l.length)) (w.alloc (.cells arr e))∧arr.size=l.length * P.cellsOf e ∧
   ∀ i (hi:i<l.length) j (hj:j<(σ.eval l[i]).cells.length),∃ u,arr[i * P.cellsOf e+j]? = some u∧Has g σ.tk w (σ.eval l[i]).cells[j] u:=by
 have hcells:∀ p ∈ l,(a.eval p).cells.size=P.cellsOf e:=fun p hp=>by
  have:=((hk.eval p).cells (h1 p hp).1).1
  rw [(h1 p hp).2] at this
  simpa using this.symm
 obtain⟨cs',f1,f2,f3,_⟩:=zkL (P.cellsOf e) (l.map a.eval) 0 ((Array.range (l.length * P.cellsOf e)).map (z.cells[· % z.cells.size]!)) (fun v hv=>by
  obtain⟨p,hp,rfl⟩:=List.mem_map.1 hv
  exact hcells p hp) (by simp)
 refine⟨cs',?_,by rw [f2];simp,fun i hil j hj=>by
  have hj0:j<P.cellsOf e:=by rw [← (h1 _ (List.getElem_mem hil)).2];exact hj
  have h2:=f3 i (by simpa using hil) j hj0
  rw [Nat.zero_add,List.getElem_map] at h2
  obtain⟨c1,c2,c3⟩:=(hk.eval l[i]).cells (h1 _ (List.getElem_mem _)).1
  have hj2:j<(a.eval l[i]).cells.toList.length:=by rw [← c1];exact hj
  refine⟨(a.eval l[i]).cells.toList[j],?_,c3 j hj hj2⟩
  rw [h2]
  have:j<(a.eval l[i]).cells.size:=by simpa using hj2
  simp [this]⟩
 obtain⟨i,hi,hzi⟩:∃ i,P.info? e=some i∧i.zero=some z:=by
  unfold zz at hz
  cases hi:P.info? e with
  | none=>simp [hi] at hz
  | some i=>exact⟨i,rfl,by simpa [hi] using hz⟩
 have hsz:i.size=P.cellsOf e:=by simp [Program.cellsOf,hi]
 have hparts:((l.zipIdx.map fun x=>(x.2,x.1)).toArray.map fun(x:Nat × Operand)=>(x.1,a.eval x.2)).toList=((l.map a.eval).zipIdx 0).map fun x=>(x.2,x.1):=by
  simp only [List.map_toArray,List.map_map]
  rw [List.zipIdx_map,List.map_map]
  rfl
 have hlim':¬ l.length * P.cellsOf e > 2 ^ 24:=by omega
 by_cases hl0:l.length * P.cellsOf e=0
 ·have hl1:l.length=0:=by
   rcases Nat.mul_eq_zero.1 hl0 with h | h
   ·exact h
   ·exact absurd h h0
  have hnil:l=[]:=List.eq_nil_of_length_eq_zero hl1
  subst hnil
  simp only [List.length_nil,Nat.zero_mul,List.map_nil,List.zipIdx_nil,Instr.fill,Option.some.injEq] at f1
  subst f1
  have he:(Array.range 0).map (fun x=>z.cells[x % z.cells.size]!)=#[]:=by simp [Array.range_zero']
  rw [he]
  simp [execOp,ho,Instr.buildSlice,run_underlying ht,zae h0,Instr.fill,newRow,Array.range_zero']
 ·simp only [execOp,ho,Instr.buildSlice,Sem.run_bind,run_underlying ht,Result.andThen_ok,zae h0,if_neg hlim',if_neg hl0,zeroValue,typeInfo,run_program,hi,hzi,Sem.run_pure,hparts,f1]
  simp [newRow]
theorem zmb {o:Oper} {t e:TypeId} {l:List Operand} {me:Nat} {z:Value} (ho:o.op = .buildSlice t l.length (l.zipIdx.map fun x=>(x.2,x.1)).toArray) (ht:P.underlying t=some (.slice e)) (hz:zz P e=some z) (hzs:z.cells.size=P.cellsOf e) (h0:P.cellsOf e=1)
  (h1:∀ p ∈ l,(σ.eval p).cells.all AV.one=true∧(σ.eval p).cells.length=1) (hlim:l.length≤2 ^ 24) (hm:σ.free A me) (hmc:zcm me (l.map fun p=>(σ.eval p).cells.getD 0 .dead)=false) :
  zO P A o σ (σ.setBlk me (some (.cell e (l.map fun p=>(σ.eval p).cells.getD 0 .dead)))) (.own me l.length):=by
 refine zav fun g a w hk=>?_
 obtain⟨arr,hrun,e1,e2⟩:=zmY hk ho ht hz hzs (by omega) (fun p hp=>by rw [h0];exact h1 p hp) (by rw [h0];omega)
 have hsz:arr.size=l.length:=by rw [e1,h0,Nat.mul_one]
 refine⟨_,_,_,hrun,hk.newBlk (r:=me) (k:=.cell e (l.map fun p=>(σ.eval p).cells.getD 0 .dead)) hm hmc ⟨arr.toList,heap_alloc_new w _,by simpa using hsz,fun j hj hj'=>?_⟩,?_⟩
 ·simp only [List.length_map] at hj
  have hl:=(h1 _ (List.getElem_mem hj)).2
  obtain⟨u,hu,hh⟩:=e2 j hj 0 (by omega)
  rw [h0,Nat.mul_one,Nat.add_zero] at hu
  have hb:Below w.heap.size w (w.alloc (.cells arr e)):=(Below.refl _ _).alloc (Nat.le_refl _) _
  have e:=(hk.grown hb g.F (fun _ _ h=>h) (fun _ _ h=>.inl h)).2
  have hcd:(l.map fun p=>(σ.eval p).cells.getD 0 .dead)[j]'(by simpa using hj)=(σ.eval l[j]).cells[0]'(by omega):=by
   rw [List.getElem_map,List.getD_eq_getElem?_getD,List.getElem?_eq_getElem (by omega)];rfl
  have hv:arr.toList[j]=u:=by
   rw [Array.getElem?_eq_getElem (by omega)] at hu
   simpa using Option.some.inj hu
  rw [hcd,hv]
  exact hh.mono e fun _ _=>id
 ·have:Has { g with m:=zdt g.m me w.heap.size } (σ.setBlk me (some (.cell e (l.map fun p=>(σ.eval p).cells.getD 0 .dead)))).tk (w.alloc (.cells arr e)) (.own me l.length) (.slice (some ⟨zdt g.m me w.heap.size me,0,none⟩) l.length l.length):=.own me l.length l.length (Nat.le_refl _)
  rw [zo] at this
  exact this
theorem ziL {o:Oper} {t:TypeId} {p:Operand} {r st i j:Nat} {ty:TypeId} {cs:List AV} {x:AV} (ho:o.op = .load t p) (hp:σ.eval p = .elem r st i j) (hb:σ.blk r=some (.cell ty cs)) (hx:zaw P t (cs.drop (i * st+j))=some x):zO P A o σ σ x:=by
 refine zdy ho hx fun g a w hk=>?_
 have he:=hk.eval p
 rw [hp] at he
 obtain⟨arr,h1,h2,h3⟩:=(hk.blk r _ hb).2
 refine⟨g.m r,i * st+j,he.elem_eq,fun k hk=>?_⟩
 simp only [List.length_drop] at hk
 have hj:i * st+j+k<arr.length:=by omega
 refine⟨arr[i * st+j+k],by simp [World.cell?,h1,hj],?_⟩
 rw [List.getElem_drop]
 exact h3 (i * st+j+k) (by omega) hj
theorem zpg {o:Oper} {src dst t:TypeId} {p:Operand} {r j:Nat} {ty:TypeId} {cs:List AV} (ho:o.op = .convert src dst p) (hp:σ.eval p = .box r j) (hb:σ.blk r=some (.cell ty cs)) (hj:j<cs.length) (hs:P.underlying src=some (.pointer t)) (hd:P.underlying dst=some .unsafePointer) (h0:P.cellsOf t≠0):zO P A o σ σ (.box r j):=by
 refine zA fun g a w hk=>⟨_,?_,(hp ▸ hk.eval p)⟩
 have he:=hk.eval p
 rw [hp] at he
 obtain⟨arr,h1,h2,h3⟩:=(hk.blk r _ hb).2
 obtain⟨i,hi⟩:∃ i,P.info? t=some i:=by
  cases hq:P.info? t with
  | none=>exact absurd (by simp [Program.cellsOf,hq]) h0
  | some i=>exact⟨i,rfl⟩
 have hsz:i.size≠0:=by simpa [Program.cellsOf,hi] using h0
 have hsh:w.shape? (g.m r)=some (ty,arr.length):=by simp [World.shape?,h1]
 have:=Lib.run_to_unsafe (P:=P) w ⟨g.m r,j,none⟩ hs hd hi hsz hsh (by show j<arr.length;omega)
 simp only [execOp,ho,he.box_eq,Sem.run_bind,this,Result.andThen_ok,Sem.run_pure]
theorem zlZ {o:Oper} {src dst t:TypeId} {p:Operand} {r j:Nat} {ty:TypeId} {cs:List AV} (ho:o.op = .convert src dst p) (hp:σ.eval p = .box r j) (hb:σ.blk r=some (.cell ty cs)) (hs:P.underlying src=some .unsafePointer) (hd:P.underlying dst=some (.pointer t)) (h0:P.cellsOf t≠0) (hl:liesAt P P.depth ty (cs.length / P.cellsOf ty) j t 1=true):zO P A o σ σ (.box r j):=by
 refine zA fun g a w hk=>⟨_,?_,(hp ▸ hk.eval p)⟩
 have he:=hk.eval p
 rw [hp] at he
 obtain⟨arr,h1,h2,h3⟩:=(hk.blk r _ hb).2
 obtain⟨i,hi⟩:∃ i,P.info? t=some i:=by
  cases hq:P.info? t with
  | none=>exact absurd (by simp [Program.cellsOf,hq]) h0
  | some i=>exact⟨i,rfl⟩
 have hsh:w.shape? (g.m r)=some (ty,arr.length):=by simp [World.shape?,h1]
 have:=Lib.run_from_unsafe (P:=P) w ⟨g.m r,j,none⟩ hs hd hi hsh (by rw [h2];exact hl)
 simp only [execOp,ho,he.box_eq,Sem.run_bind,this,Result.andThen_ok,Sem.run_pure]
theorem zrx {o:Oper} {c:Call} {p q:Operand} {f:FuncId} (ho:o.op = .call c) (hp:c.callee = .value p) (hf:σ.eval p = .fn f []) (hargs:c.args.toList=[q]) (hsame:∀ (v:Value) (w:World),(callFunc f #[v]).run P w = .ok (.value v) w):zO P A o σ σ (σ.eval q):=by
 refine zA fun g a w hk=>⟨_,?_,hk.eval q⟩
 have hpe:=hk.eval p
 rw [hf] at hpe
 obtain⟨vs,hv,hvl,hvs⟩:=hpe.fn_eq
 obtain rfl:vs=[]:=List.eq_nil_of_length_eq_zero hvl.symm
 simp only [execOp,ho,resolve,hp,hv,Deferred.ofValue,Sem.run_bind,Sem.run_pure,Result.andThen_ok,invoke]
 have he:#[]++c.args.map a.eval++[].toArray=#[a.eval q]:=by
  apply Array.ext';simp [hargs]
 rw [he,hsame]
def shX (P:Program) (σ:St) (me:Nat) (o:Oper):Option (AV × Eff):=
 match o.op with
 | .buildSlice t n ps=>match P.underlying t with
  | some (.slice e)=>match zz P e,zfX (ps.toList.map fun x=>σ.eval x.2) with
   | some z,none=>
    if decide (ps.toList.map (·.1)=List.range n) && decide (z.cells.size=P.cellsOf e) && decide (P.cellsOf e=1) && (ps.toList.all fun x=>(σ.eval x.2).cells.all AV.one && decide ((σ.eval x.2).cells.length=1)) && decide (n≤2 ^ 24) && !zcm me (ps.toList.map fun x=>(σ.eval x.2).cells.getD 0 .dead) && !σ.ment me then
     some (.own me n,.blk me (.cell e (ps.toList.map fun x=>(σ.eval x.2).cells.getD 0 .dead))) else none
   | _,_=>none
  | _=>none
 | _=>none
theorem zFn:zEU P (shX P):=by
 intro σ me o x e h
 unfold shX at h
 split at h
 ·rename_i t n ps ho
  split at h
  ·rename_i el ht
   split at h
   ·rename_i z hz hr
    split at h
    ·rename_i hc
     simp only [Bool.and_eq_true,decide_eq_true_eq,List.all_eq_true,Bool.not_eq_true'] at hc
     obtain⟨⟨⟨⟨⟨⟨hps,hzs⟩,h0⟩,h1⟩,hlim⟩,hmc⟩,hm⟩:=hc
     cases h
     refine⟨fun _=>hm,fun A σ' he _ hfree=>?_⟩
     obtain⟨f1,f2⟩:=zdQ hps
     have hops:∀ p ∈ ps.toList,σ'.eval p.2=σ.eval p.2:=fun p hp=>he p.2 (by
      rw [ho];simp only [Op.operands];exact List.mem_map.2 ⟨p,hp,rfl⟩)
     have hcs:(ps.toList.map fun x=>(σ.eval x.2).cells.getD 0 .dead)=((ps.toList.map (·.2)).map fun p=>(σ'.eval p).cells.getD 0 .dead):=by
      rw [List.map_map]
      exact List.map_congr_left fun p hp=>by simp only [Function.comp];rw [hops p hp]
     have ho':=ho
     rw [f1,f2] at ho'
     rw [f2] at hlim ⊢
     rw [hcs] at hmc ⊢
     refine zmb ho' ht hz hzs h0 (fun p hp=>?_) hlim (hfree rfl) hmc
     obtain⟨x,hx,rfl⟩:=List.mem_map.1 hp
     rw [hops x hx]
     exact⟨List.all_eq_true.2 (h1 x hx).1,(h1 x hx).2⟩
    ·cases h
   ·cases h
  ·cases h
 ·cases h
end
section
open Go Go.RowKit
theorem zuD (b j gb cap:Nat) (l:List UInt8) (w:World) (h0:l≠[]) (hcap:l.length≤cap) (h63:cap≤9223372036854775807) (hv:w.cell? ⟨b,j+1,none⟩=some (.slice (some ⟨gb,0,none⟩) l.length cap)) (cells:Nat) (hsh:w.shape? gb=some (5,cells)) (hn:l.length≤cells)
  (hcell:∀ k x,l[k]? = some x→w.cell? ⟨gb,k,none⟩=some (.int .u8 x.toNat)) :
  Calls Tryz.prog 112 #[.pointer (some ⟨b,j,none⟩)] w fun e w'=>e = .returned (.string ⟨l.toArray⟩)∧w'=w.drew.freeze ⟨gb,0,none⟩ l.length:=by
 have hw:0<l.length:=List.length_pos_iff.2 h0
 have c1:w.drew.cell? ⟨b,j+1,none⟩=some (.slice (some ⟨gb,0,none⟩) l.length cap):=hv
 have hSD:(Builtin.unsafeSliceData_ #[144] 218 #[.slice (some ⟨gb,0,none⟩) l.length cap]).run Tryz.prog w.drew = .ok (.pointer (some ⟨gb,0,none⟩)) w.drew:=Lib.run_unsafeSliceData_row _ _ _ _ _ _ (by omega)
 have hUS:=Lib.run_unsafeString_row (P:=Tryz.prog) w.drew 218 3 9 5 Tryz.underlying218 (by kernel_rfl) gb cells hsh l h0 hn (by omega) (fun k x hk=>by rw [Addr.add_lit,Nat.zero_add];exact hcell k x hk)
 have mixed:Tryz.prog.follows .mixedOrders=true:=by kernel_rfl
 go_enter Tryz.func112,Tryz.ntmps112
 go_wp2
 go_region_o
 all_goals (go_wp2;go_ret;exact⟨rfl,rfl⟩)
theorem zuc {w:World} {gb n b:Nat} (hb:b≠gb):(w.freeze ⟨gb,0,none⟩ n).heap[b]? = w.heap[b]?:=by
 unfold World.freeze
 split
 ·rfl
 ·simp only [Array.getElem?_modify]
  rw [if_neg (by omega)]
theorem zud {w:World} {gb n:Nat} (x:Addr):(w.freeze ⟨gb,0,none⟩ n).cell? x=w.cell? x:=by
 unfold World.freeze
 split
 ·rfl
 ·unfold World.cell?
  simp only [Array.getElem?_modify]
  by_cases h:gb=x.block
  ·subst h
   rw [if_pos rfl]
   cases hq:w.heap[x.block]? with
   | none=>rfl
   | some o=>cases o <;> rfl
  ·rw [if_neg h]
theorem zhm {w:World} {gb n:Nat}:(w.freeze ⟨gb,0,none⟩ n).heap.size=w.heap.size:=by
 unfold World.freeze
 split
 ·rfl
 ·simp
theorem zhn {w:World} {gb n:Nat}:(w.freeze ⟨gb,0,none⟩ n).os=w.os∧(w.freeze ⟨gb,0,none⟩ n).tape=w.tape∧(w.freeze ⟨gb,0,none⟩ n).output=w.output:=by
 unfold World.freeze
 split <;> exact⟨rfl,rfl,rfl⟩
variable {A:Base Tryz.prog} {σ:St} {g:Gh} {a:Act} {w:World}
theorem Ok.frozen (hk:Ok A σ g a w) {q:Nat} {k:Tok} {gb n:Nat} (ht:σ.tok q=some k) (hex:k.ex=none) (hg:(g.tv q).ownBlock=some gb):Ok A (σ.setTok q none) g a (w.drew.freeze ⟨gb,0,none⟩ n):=by
 have hsub:Ok A (σ.setTok q none) g a w:=hk.sub (fun _=>.inr rfl) (fun _=>.inr rfl) fun r=>by
  rw [St.tok_setTok]
  split
  ·exact .inl rfl
  ·exact .inr rfl
 obtain⟨xs,hown⟩:=(hk.tok q k ht).own hex
 have hgb:=hown.lt gb hg
 have hcell:∀ x,(w.drew.freeze ⟨gb,0,none⟩ n).cell? x=w.cell? x:=fun x=>zud x
 have hheap:∀ b,b≠gb→(w.drew.freeze ⟨gb,0,none⟩ n).heap[b]? = w.heap[b]?:=fun b hb=>zuc hb
 have hgbk:∃ o,w.heap[gb]? = some (.cells o k.ty (0,0)):=by
  rcases hown.2 with⟨e,_⟩ | ⟨b,cp,cur,e,_,h3,_⟩
  ·rw [e] at hg;cases hg
  ·rw [e] at hg
   cases hg
   exact⟨cur,h3⟩
 have hmap:∀ b es c,w.heap[b]? = some (Obj.map es c)→(w.drew.freeze ⟨gb,0,none⟩ n).heap[b]? = some (Obj.map es c):=fun b es c h=>by
  rw [hheap b fun e=>by subst e;obtain⟨o,ho⟩:=hgbk;rw [ho] at h;cases h]
  exact h
 have e:Ext (fun _=>False) g (σ.setTok q none).tk w g (σ.setTok q none).tk (w.drew.freeze ⟨gb,0,none⟩ n):=⟨fun _ _ h=>h,fun b o u _ hu=>(hcell _).trans hu,fun _ _=>rfl,fun r _ n' hn'=>⟨n',hn',Nat.le_refl _,fun _=>rfl⟩,fun b es c _ hu=>hmap b es c hu⟩
 have hblk:∀ r b,(σ.setTok q none).blk r=some b→g.m r≠gb:=fun r b hr e=>hk.tokblk q k r b gb ht hr hg e.symm
 have htok:∀ r k',(σ.setTok q none).tok r=some k'→(g.tv r).ownBlock≠some gb:=fun r k' hr e=>by
  rw [St.tok_setTok] at hr
  split at hr
  ·cases hr
  ·rename_i hne
   exact hk.toktok q k r k' gb ht hr hne hg e
 have hbel:BelowX A.B A.X w (w.drew.freeze ⟨gb,0,none⟩ n):=.one (.inl hgb.1) zhn.1 zhn.2.1 zhn.2.2 (by rw [zhm];exact Nat.le_refl _) hheap
 refine⟨hsub.below.trans hbel,by rw [zhm];exact hsub.hB,hsub.F0,hsub.Fn,fun b o hf=>by rw [zhm];exact hsub.Fb b o hf,hsub.defers,hsub.size,fun t=>(hsub.env t).mono e fun _ _=>id,fun r b hr=>⟨(hsub.blk r b hr).1,(hsub.blk r b hr).2.mono e (fun _ _=>id) (hheap _ (hblk r b hr))⟩,hsub.Fblk,hsub.inj,fun r k' hr=>?_,hsub.Ftok,hsub.tokblk,hsub.toktok,hsub.fix,hsub.hist⟩
 obtain⟨xs',h1,h2,h3⟩:=hsub.tok r k' hr
 refine⟨xs',zff h1 fun x hx=>hheap x fun e=>htok r k' hr (e ▸ hx),h2,fun rows hx=>⟨(h3 rows hx).1,fun i hi j hj=>?_⟩⟩
 obtain⟨u,h4,h5⟩:=(h3 rows hx).2 i hi j hj
 exact⟨u,h4,h5.mono (fun _ _ h=>h) fun b o u _ hu=>(hcell _).trans hu⟩
theorem ztx {o:Oper} {c:Call} {p m:Operand} {r j q:Nat} {ty:TypeId} {cs:List AV} {l:List UInt8} (ho:o.op = .call c) (hp:c.callee = .value p) (hf:σ.eval p = .fn 112 []) (hargs:c.args.toList=[m]) (hm:σ.eval m = .box r j)
  (hb:σ.blk r=some (.cell ty cs)) (hj:cs[j+1]? = some (.grow q (zbv l))) (ht:σ.tok q=some ⟨1,5,l.length,none⟩) (h0:l≠[]):zO Tryz.prog A o σ (σ.setTok q none) (.d (.raw (.string ⟨l.toArray⟩))):=by
 intro g a w hk K Q hK
 have hr:=zpC hk ho hp hf ⟨_,Tryz.func112,by decide +kernel,rfl⟩
 have hme:=hk.eval m
 rw [hm] at hme
 rw [hargs] at hr
 simp only [List.map_cons,List.map_nil,hme.box_eq] at hr
 obtain⟨hB,arr,h1,h2,h3⟩:=hk.blk r _ hb
 obtain⟨hjl,hje⟩:=List.getElem?_eq_some_iff.1 hj
 have h4:=h3 (j+1) hjl (by omega)
 rw [hje] at h4
 obtain⟨hrd,htv⟩:=h4.grow_eq
 have hve:=(htv l.length (by simp [St.tk,ht])).2 (zbZ l)
 obtain⟨xs,hown⟩:=(hk.tok q _ ht).own rfl
 have hpos:0<l.length:=List.length_pos_iff.2 h0
 rcases hown.2 with⟨_,e0⟩ | ⟨gb,cap,cur,e1,hgB,hgb,hnc,hc63,hcs,htk⟩
 ·have e0':l.length=0:=e0
  omega
 have e1':g.tv q = .slice (some ⟨gb,0,none⟩) l.length cap:=e1
 have hob:(g.tv q).ownBlock=some gb:=by rw [e1'];rfl
 have hvc:w.cell? ⟨g.m r,j+1,none⟩=some (.slice (some ⟨gb,0,none⟩) l.length cap):=by
  rw [← e1',← hve]
  simp [World.cell?,h1,show j+1<arr.length by omega]
 have hnc':l.length≤cap:=hnc
 have hcs':cur.size=cap * 1:=hcs
 refine zcN hr ((zuD (g.m r) j gb cap l w h0 hnc' hc63 hvc cur.size (by simp [World.shape?,hgb]) (by omega) fun k x hx=>?_).mono ?_)
 ·rw [hve,e1'] at hrd
  obtain⟨hk',rfl⟩:=List.getElem?_eq_some_iff.1 hx
  obtain⟨b1,off1,he,hr2⟩:=hrd.row k (by rw [zbZ];exact hk') (st:=1) (by rw [zeM l k hk'];rfl)
  injection he with he
  have e3:gb=b1:=congrArg Addr.block he
  have e4:0=off1:=congrArg Addr.off he
  subst e3 e4
  obtain⟨_,u,hu,hru⟩:=hr2 0 (by rw [zeM l k hk'];exact Nat.zero_lt_one)
  rw [Nat.mul_one,Nat.add_zero,Nat.zero_add] at hu
  simp only [zeM l k hk',List.getElem_cons_zero] at hru
  rw [hu,hru.raw_eq]
 ·rintro e w' ⟨rfl,rfl⟩
  exact hK g _ _ (hk.frozen ht rfl hob) (.d (.raw _))
end
section
open Go Go.RowKit
def bytesOf:List (List D)→Option (List UInt8)
 | []=>some []
 | [.raw (.int .u8 n)] :: r=>if 0≤n∧n<256 then (bytesOf r).map (UInt8.ofNat n.toNat :: ·) else none
 | _=>none
theorem zoE:∀ {rows:List (List D)} {l:List UInt8},bytesOf rows=some l→rows=zbv l
 | [],l,h=>by cases h;rfl
 | r :: rows,l,h=>by
  unfold bytesOf at h
  split at h
  ·rename_i e;cases e
  ·rename_i n r' e
   cases e
   split at h
   ·rename_i hn
    cases hr:bytesOf rows with
    | none=>rw [hr] at h;cases h
    | some l'=>
     rw [hr] at h
     cases h
     rw [zoE hr]
     simp only [zbv,List.map_cons,List.cons.injEq,and_true,D.raw.injEq,Value.int.injEq,true_and]
     rw [UInt8.toNat_ofNat_of_lt' (by have:=hn.2;show n.toNat<256;omega)]
     omega
   ·cases h
  ·cases h
noncomputable def spX (σ:St) (_:Nat) (o:Oper):Option (St × AV):=
 match o.op with
 | .load t p=>match σ.eval p with
  | .elem r st i j=>match σ.blk r with
   | some (.cell _ cs)=>(zaw Tryz.prog t (cs.drop (i * st+j))).map fun x=>(σ,x)
   | _=>none
  | _=>none
 | .convert src dst p=>match σ.eval p with
  | .box r j=>match σ.blk r with
   | some (.cell ty cs)=>match Tryz.prog.underlying src,Tryz.prog.underlying dst with
    | some (.pointer t),some .unsafePointer=>if j<cs.length∧Tryz.prog.cellsOf t≠0 then some (σ,.box r j) else none
    | some .unsafePointer,some (.pointer t)=>if Tryz.prog.cellsOf t≠0∧liesAt Tryz.prog Tryz.prog.depth ty (cs.length / Tryz.prog.cellsOf ty) j t 1=true then some (σ,.box r j) else none
    | _,_=>none
   | _=>none
  | _=>none
 | .call c=>match c.callee with
  | .value p=>match σ.eval p with
   | .fn f []=>if f=339 then (match c.args.toList with
     | [q]=>some (σ,σ.eval q)
     | _=>none) else if f=112 then (match c.args.toList with
     | [m]=>match σ.eval m with
      | .box r j=>match σ.blk r with
       | some (.cell _ cs)=>match cs[j+1]? with
        | some (.grow q rows)=>match σ.tok q,bytesOf rows with
         | some ⟨1,ty,n,none⟩,some l=>if ty=5∧n=l.length∧l≠[] then some (σ.setTok q none,.d (.raw (.string ⟨l.toArray⟩))) else none
         | _,_=>none
        | _=>none
       | _=>none
      | _=>none
     | _=>none) else none
   | _=>none
  | _=>none
 | _=>none
theorem zFm:zET Tryz.prog spX:=by
 intro A σ me o σ' x h
 unfold spX at h
 split at h
 ·rename_i t p ho
  split at h
  ·rename_i r st i j hp
   split at h
   ·rename_i ty cs hb
    cases hx:zaw Tryz.prog t (cs.drop (i * st+j)) with
    | none=>rw [hx] at h;cases h
    | some y=>rw [hx] at h;cases h;exact ziL ho hp hb hx
   ·cases h
  ·cases h
 ·rename_i src dst p ho
  split at h
  ·rename_i r j hp
   split at h
   ·rename_i ty cs hb
    split at h
    ·rename_i t hs hd
     split at h
     ·rename_i hc;cases h;exact zpg ho hp hb hc.1 hs hd hc.2
     ·cases h
    ·rename_i t hs hd
     split at h
     ·rename_i hc;cases h;exact zlZ ho hp hb hs hd hc.1 hc.2
     ·cases h
    ·cases h
   ·cases h
  ·cases h
 ·rename_i c ho
  split at h
  ·rename_i p hp
   split at h
   ·rename_i f hf
    split at h
    ·rename_i he
     subst he
     split at h
     ·rename_i q hargs
      cases h
      exact zrx ho hp hf hargs fun v w=>by rw [run_callFunc_extern Tryz.func339 (by kernel_rfl) (by kernel_rfl) (by kernel_rfl) (e:=Extern.AbiNoEscape.same) (by kernel_rfl),Lib.run_noEscape];rfl
     ·cases h
    ·split at h
     ·rename_i he
      subst he
      split at h
      ·rename_i m hargs
       split at h
       ·rename_i r j hm
        split at h
        ·rename_i ty cs hb
         split at h
         ·rename_i q rows hj
          split at h
          ·rename_i ty' n l ht hl
           split at h
           ·rename_i hc
            obtain⟨rfl,rfl,h0⟩:=hc
            cases h
            rw [zoE hl] at hj
            exact ztx ho hp hf hargs hm hb hj ht h0
           ·cases h
          ·cases h
         ·cases h
        ·cases h
       ·cases h
      ·cases h
     ·cases h
   ·cases h
  ·cases h
 ·cases h
end
end Go.Proofs.YtpnjjmcimjlfkaaGreatDoor
