/- Texts of this proof, part 25: what the proof uses of them. -/
import Derived.Test.YtpnjjmcimjlfkaaGreatDoorRar
import Derived.Lib.Builder
import Derived.Lib.UnsafeStr
import Derived.Laws.Externs
import Derived.Test.YtpnjjmcimjlfkaaGreatDoorRap
import Derived.Test.YtpnjjmcimjlfkaaGreatDoorRal
import Derived.Shelf.RegionOpenPlain
set_option maxRecDepth 100000
set_option maxHeartbeats 64000000
namespace Go.Proofs.YtpnjjmcimjlfkaaGreatDoor
section
open Go Go.RowKit
variable {P:Program} {A:Base P} {σ:St}
def zvr (n:Int):Bool:=decide (-9223372036854775808<=n) && decide (n<=9223372036854775807)
theorem zqK {n:Int} (h:zvr n=true):za n:=by
 unfold zvr at h
 simp only [Bool.and_eq_true,decide_eq_true_eq] at h
 exact h
def zdU (σ:St):AV->Bool
 | .box _ _=>true
 | .at_ _=>true
 | .elem r _ i _=>match σ.blk r with
  | some (.row _ _ rows)=>decide (i<rows.length)
  | some (.cell _ _)=>true
  | _=>false
 | .selem r _ ver i _=>match σ.tok r with
  | some k=>match k.ex with
   | some rows=>decide (k.len=ver) && decide (i<rows.length)
   | none=>false
  | none=>false
 | _=>false
theorem zsD {t:TypeId} {p x:AV} {e:Eff} {n:Prop} (h:zbi P σ t p=some (x,e,n)) (hb:zdU σ p=true):n:=by
 cases p with
 | box r j=>
  simp only [zbi] at h
  split at h
  ·cases hl:zah P t _ with
   | none=>rw [hl] at h;cases h
   | some y=>rw [hl] at h;cases h;trivial
  ·cases h
 | at_ cs=>
  simp only [zbi] at h
  cases hl:zah P t (cs.map .d) with
  | none=>rw [hl] at h;cases h
  | some y=>rw [hl] at h;cases h;trivial
 | elem r st i j=>
  simp only [zbi] at h
  simp only [zdU] at hb
  split at h
  ·rename_i st' ty rows hr
   rw [hr] at hb
   split at h
   ·cases hl:zah P t (((rows.getD i []).drop j).map .d) with
    | none=>rw [hl] at h;cases h
    | some y=>rw [hl] at h;cases h;simpa using hb
   ·cases h
  ·cases hl:zah P t _ with
   | none=>rw [hl] at h;cases h
   | some y=>rw [hl] at h;cases h;trivial
  ·cases h
 | selem r st ver i j=>
  simp only [zbi] at h
  simp only [zdU] at hb
  split at h
  ·rename_i k hr
   rw [hr] at hb
   simp only at hb
   split at h
   ·rename_i rows hx
    rw [hx] at hb
    split at h
    ·cases hl:zah P t (((rows.getD i []).drop j).map .d) with
     | none=>rw [hl] at h;cases h
     | some y=>rw [hl] at h;cases h;simpa using hb
    ·cases h
   ·cases h
  ·cases h
 | _=>cases hb
theorem zqu {t:TypeId} {p x y:AV} {e:Eff} {n:Prop} (h:zaW P σ t y p=some (x,e,n)) (hb:zdU σ p=true):n:=by
 cases p with
 | box r j=>
  simp only [zaW] at h
  split at h
  ·split at h
   ·cases h;trivial
   ·cases h
  ·cases h
 | at_ cs=>simp only [zaW] at h;cases h
 | elem r st i j=>
  simp only [zaW] at h
  simp only [zdU] at hb
  split at h
  ·rename_i st' ty rows hr
   rw [hr] at hb
   split at h
   ·split at h
    ·cases h;simpa using hb
    ·cases h
   ·cases h
  ·cases h
 | selem r st ver i j=>
  simp only [zaW] at h
  simp only [zdU] at hb
  split at h
  ·rename_i k hr
   rw [hr] at hb
   simp only at hb
   split at h
   ·rename_i rows ds hx hd
    rw [hx] at hb
    split at h
    ·cases h;simpa using hb
    ·cases h
   ·cases h
  ·cases h
 | _=>cases hb
def zeE (P:Program) (t:TypeId):AV->AV->Bool
 | .own _ len,.d (.raw (.int _ i))=>decide (0<=i) && decide (i<(len:Nat))
 | .stk _ _ _ _ len,.d (.raw (.int _ i))=>decide (0<=i) && decide (i<(len:Nat))
 | x,.d (.raw (.int _ i))=>match P.underlying t,x.rows with
  | some (.slice e),some rows=>decide (0<=i) && (decide (i<(rows.length:Nat)) && decide ((rows.getD i.toNat []).length=P.cellsOf e))
  | some (.array m _),_=>decide (0<=i) && decide (i<(m:Nat))
  | _,_=>false
 | _,_=>false
theorem zqw {t:TypeId} {p q x:AV} {e:Eff} {n:Prop} (h:zfM P t p q=some (x,e,n)) (hb:zeE P t p q=true):n:=by
 unfold zfM at h
 split at h
 ·rename_i k i
  split at h
  ·rename_i el ht
   split at h
   ·simp only [zeE] at hb
    split at h
    ·cases h
    ·cases h;simpa using hb
   ·simp only [zeE] at hb
    split at h
    ·cases h
    ·split at h
     ·cases h;simpa using hb
     ·cases h
   ·rename_i x' hn1 hn2
    split at h
    ·rename_i rows hr
     have hb':(decide (0<=i) && (decide (i<(rows.length:Nat)) && decide ((rows.getD i.toNat []).length=P.cellsOf el)))=true:=by
      unfold zeE at hb
      split at hb
      ·rename_i r len _ _ heq;exact absurd rfl (hn1 _ _)
      ·rename_i heq;exact absurd rfl (hn2 _ _ _ _ _)
      ·rename_i heq
       cases heq
       rw [ht,hr] at hb
       exact hb
      ·cases hb
     split at h
     ·cases h
     ·cases h;simpa using hb'
    ·cases h
  ·rename_i m el ht
   split at h
   ·simp only [zeE,ht] at hb
    split at h
    ·cases h
    ·cases h;simpa using hb
   ·cases h
  ·cases h
 ·cases h
def zsR:IntKind->Bool
 | .i64=>true
 | _=>false
def zoZ (op:BinOp) (x y:Value):Bool:=
 match x,y with
 | .int k a,.int _ b=>
  match op with
  | .add=>!zsR k || zvr (a+b)
  | .sub=>!zsR k || zvr (a - b)
  | .mul=>!zsR k || zvr (a * b)
  | .quo=>decide (b≠0) && (!zsR k || zvr (a.tdiv b))
  | .rem=>decide (b≠0)
  | _=>true
 | .string a,.string b=>decide (((a.size+b.size:Nat):Int)<=9223372036854775807)
 | _,_=>true
theorem zAa {op:BinOp} {x y:Value} {r:Value × Prop} (h:znP op x y=some r) (hb:zoZ op x y=true):r.2:=by
 unfold znP at h
 split at h
 ·simp only [zoZ,zsR,Bool.not_true,Bool.false_or] at hb
  split at h <;> (first | (cases h;first | trivial | exact zqK hb | (simp only [Bool.and_eq_true,decide_eq_true_eq] at hb;exact⟨hb.1,zqK hb.2⟩) | simpa using hb) | cases h)
 ·simp only [zoZ] at hb
  split at h
  ·split at h <;> (first | (cases h;first | trivial | (simp only [Bool.and_eq_true,decide_eq_true_eq] at hb;exact hb.1) | simpa using hb) | cases h)
  ·cases h
 ·simp only [zoZ] at hb
  split at h <;> (first | (cases h;first | trivial | simpa using hb) | cases h)
 ·cases h
def zmU (P:Program) (t:TypeId) (x y:AV):Bool:=
 match P.underlying t with
 | some (.int _)=>match x,y with
  | .d (.raw (.int k _)),.d (.raw (.int yk b))=>decide (0<=b) && decide (k=yk)
  | _,_=>false
 | some (.pointer _)=>true
 | some (.struct _)=>!P.stoodInHeld t && !P.eqGuardType P.depth t
 | some (.array 2 e)=>decide (P.cellsOf e=1) && (decide (zaC P e=some false) && !P.eqGuardType P.depth t)
 | _=>false
theorem zga {op:BinOp} {b:Bool} {need:Prop} {x:AV} {e:Eff} {n:Prop} (h:znu op b need=some (x,e,n)):n=need:=by
 unfold znu at h
 split at h
 ·cases h;rfl
 ·cases h;rfl
 ·cases h
theorem zpa {op:BinOp} {t:TypeId} {x y z:AV} {e:Eff} {n:Prop} (h:zmz P op t x y=some (z,e,n)) (hb:zmU P t x y=true):n:=by
 unfold zmz at h
 unfold zmU at hb
 split at h
 ·rename_i ht
  rw [ht] at hb
  split at h
  ·simp only [Bool.and_eq_true,decide_eq_true_eq] at hb
   unfold zjq at h
   split at h <;> (first | (cases h;first | exact hb.1 | exact hb.2) | cases h)
  ·cases h
 ·split at h
  ·rw [zga h];trivial
  ·split at h
   ·rw [zga h];trivial
   ·split at h
    ·split at h
     ·rw [zga h];trivial
     ·cases h
    ·cases h
 ·rename_i ht
  rw [ht] at hb
  simp only [Bool.and_eq_true,Bool.not_eq_true'] at hb
  split at h
  ·split at h
   ·split at h
    ·rw [zga h];exact hb
    ·cases h
   ·cases h
  ·cases h
 ·rename_i ht
  rw [ht] at hb
  simp only [Bool.and_eq_true,Bool.not_eq_true',decide_eq_true_eq] at hb
  split at h
  ·split at h
   ·rw [zga h];exact hb
   ·cases h
  ·cases h
 ·cases h
def zlD (P:Program) (op:BinOp) (t:TypeId):AV->AV->Bool
 | .d (.raw (.bool _)),.d (.raw (.bool _))=>true
 | .d (.raw x),.d (.raw y)=>match znP op x y with
  | some _=>zoZ op x y
  | none=>zmU P t (.d (.raw x)) (.d (.raw y))
 | x,y=>zmU P t x y
theorem zvc {op:BinOp} {t:TypeId} {p q x:AV} {e:Eff} {n:Prop} (h:zki P op t p q=some (x,e,n)) (hb:zlD P op t p q=true):n:=by
 unfold zki at h
 split at h
 ·split at h
  ·rename_i a b _ _
   cases hq:znO op a b with
   | none=>rw [hq] at h;cases h
   | some r=>rw [hq] at h;cases h;trivial
  ·cases h
 ·rename_i x' y' hnb
  have hb':(match znP op x' y' with | some _=>zoZ op x' y' | none=>zmU P t (.d (.raw x')) (.d (.raw y')))=true:=by
   unfold zlD at hb
   split at hb
   ·rename_i e1 e2
    cases e1;cases e2
    exact absurd rfl (hnb _ _ rfl)
   ·rename_i e1 e2
    cases e1;cases e2
    exact hb
   ·rename_i hn
    exact absurd rfl (hn _ _ rfl)
  split at h
  ·rename_i r hr
   rw [hr] at hb'
   cases h
   exact zAa hr hb'
  ·rename_i hr
   rw [hr] at hb'
   exact zpa h hb'
 ·rename_i hn1 hn2
  refine zpa h ?_
  unfold zlD at hb
  split at hb
  ·exact absurd rfl (hn1 _ _ rfl)
  ·exact absurd rfl (hn2 _ _ rfl)
  ·exact hb
end
section
open Go Go.RowKit
variable {P:Program} {A:Base P} {σ:St}
def znV (st:Nat) (rows:List (List D)):Bool:=rows.all fun r=>decide (r.length=st)
theorem zkH {st:Nat} {rows:List (List D)} (h:znV st rows=true):∀ r ∈ rows,r.length=st:=fun r hr=>by
 have:=List.all_eq_true.1 h r hr
 simpa using this
def zBX (st:Nat) (rows:List (List D)):Bool:=rows.all fun r=>decide (r.length=st) && r.all D.one
theorem zyT {st:Nat} {rows:List (List D)} (h:zBX st rows=true):zam st rows:=fun r hr=>by
 have:=List.all_eq_true.1 h r hr
 simp only [Bool.and_eq_true,decide_eq_true_eq,List.all_eq_true] at this
 exact this
def ziD (P:Program) (kk:Option Tok) (t:TypeId) (x y:AV):Bool:=
 match P.underlying t,y.rows with
 | some (.slice e),some rows2=>zBX (P.cellsOf e) rows2 && (match x with
  | .grow _ rows=>match kk with
   | some k=>decide (rows.length=k.len) && (znV (P.cellsOf e) rows && decide (rows.length+rows2.length<=1099511627776))
   | none=>false
  | .stk _ _ ver _ len=>match kk with
   | some k=>match k.ex with
    | some rows=>decide (k.len=ver) && (decide (len<=rows.length) && decide (len+rows2.length<=1099511627776))
    | none=>false
   | none=>false
  | _=>decide (rows2.length<=1099511627776))
 | _,_=>false
theorem zos {kk:Option Tok} {me:Nat} {t:TypeId} {p q x:AV} {e:Eff} {n:Prop} (h:zeB P kk me t p q=some (x,e,n)) (hb:ziD P kk t p q=true):n:=by
 unfold zeB at h
 unfold ziD at hb
 split at h
 ·rename_i el rows2 ht hq
  rw [ht,hq] at hb
  simp only [Bool.and_eq_true] at hb
  obtain⟨hb1,hb2⟩:=hb
  have hf:=zyT hb1
  split at h
  ·split at h
   ·split at h
    ·simp only at hb2
     split at h
     ·simp only [Bool.and_eq_true,decide_eq_true_eq] at hb2
      split at h
      ·cases h;exact⟨hb2.1,hf,zkH hb2.2.1,hb2.2.2⟩
      ·cases h
     ·cases h
    ·simp only at hb2
     split at h
     ·split at h
      ·rename_i hx
       simp only [hx,Bool.and_eq_true,decide_eq_true_eq] at hb2
       split at h
       ·cases h;exact⟨hb2.1,hf,hb2.2.1,hb2.2.2⟩
       ·cases h
      ·cases h
     ·cases h
    ·simp only [decide_eq_true_eq] at hb2
     cases h;exact⟨hf,hb2⟩
    ·cases h
   ·cases h
  ·cases h
 ·cases h
def zdV (kk:Option Tok) (x y:AV):Bool:=
 match y with
 | .d (.raw (.string s))=>match x with
  | .grow _ rows=>match kk with
   | some k=>decide (rows.length=k.len) && (znV 1 rows && decide (k.len+s.size<=1099511627776))
   | none=>false
  | .stk _ _ ver _ len=>match kk with
   | some k=>match k.ex with
    | some rows=>decide (k.len=ver) && (decide (len<=rows.length) && decide (len+s.size<=1099511627776))
    | none=>false
   | none=>false
  | _=>decide (s.size<=1099511627776)
 | _=>false
theorem zmW {kk:Option Tok} {me:Nat} {t u:TypeId} {p q x:AV} {e:Eff} {n:Prop} (h:zdu P kk me t u p q=some (x,e,n)) (hb:zdV kk p q=true):n:=by
 unfold zdu at h
 split at h
 ·split at h
  ·split at h
   ·split at h
    ·unfold zdV at hb
     simp only at hb
     split at h
     ·simp only [Bool.and_eq_true,decide_eq_true_eq] at hb
      split at h
      ·cases h;exact⟨hb.1,zkH hb.2.1,hb.2.2⟩
      ·cases h
     ·cases h
    ·unfold zdV at hb
     simp only at hb
     split at h
     ·split at h
      ·rename_i hx
       simp only [hx,Bool.and_eq_true,decide_eq_true_eq] at hb
       split at h
       ·cases h;exact hb
       ·cases h
      ·cases h
     ·cases h
    ·unfold zdV at hb
     simp only [decide_eq_true_eq] at hb
     cases h;exact hb
    ·cases h
   ·cases h
  ·cases h
 ·cases h
def zkm (P:Program) (t:TypeId) (x:AV) (lo hi:Option AV):Bool:=
 match P.underlying t with
 | some .string=>match x with
  | .d (.raw (.string s))=>match zbJ lo 0,zbJ hi s.size with
   | some l,some h=>decide (0<=l) && (decide (l<=h) && decide (h<=(s.size:Nat)))
   | _,_=>false
  | _=>false
 | some (.slice e)=>match x with
  | .stk _ _ _ _ len=>match zbJ lo 0,zbJ hi len with
   | some l,some h=>decide (0<=l) && (decide (l<=h) && decide (h<=(len:Nat)))
   | _,_=>false
  | x=>match x.rows with
   | some rows=>match zbJ lo 0,zbJ hi rows.length with
    | some l,some h=>znV (P.cellsOf e) rows && (decide (0<=l) && (decide (l<=h) && decide (h<=(rows.length:Nat))))
    | _,_=>false
   | none=>false
 | _=>false
def zmV (P:Program) (σ:St) (c:Call):Bool:=
 match c.callee,c.args.toList,c.argTypes.toList with
 | .builtin .len,[_],[_]=>true
 | .builtin .append,[p,q],[t,t']=>if t=t' then ziD P (ziR σ (σ.eval p)) t (σ.eval p) (σ.eval q) else zdV (ziR σ (σ.eval p)) (σ.eval p) (σ.eval q)
 | .builtin .max,[_,_],[_,_]=>true
 | _,_,_=>false
theorem zsE {me:Nat} {c:Call} {x:AV} {e:Eff} {n:Prop} (h:zgv P σ me c=some (x,e,n)) (hb:zmV P σ c=true):n:=by
 unfold zgv at h
 unfold zmV at hb
 split at h
 ·unfold zqj at h
  split at h
  ·cases h;trivial
  ·cases h;trivial
  ·cases h;trivial
  ·rename_i q _ _
   cases hr:AV.rows _ with
   | none=>rw [hr] at h;cases h
   | some rows=>rw [hr] at h;cases h;trivial
  ·cases h
 ·rename_i h1 h2 h3
  rw [h1,h2,h3] at hb
  simp only at hb
  split at h
  ·rename_i ht
   rw [if_pos ht] at hb
   exact zos h hb
  ·rename_i ht
   rw [if_neg ht] at hb
   exact zmW h hb
 ·rename_i h1 h2 h3
  rw [h1,h2,h3] at hb
  cases hb
 ·unfold zqh at h
  split at h
  ·cases h;trivial
  ·cases h
 ·cases h
def zsG (P:Program) (σ:St):Op->Bool
 | .load _ p=>zdU σ (σ.eval p)
 | .store _ p _=>zdU σ (σ.eval p)
 | .binOp op t p q _=>zlD P op t (σ.eval p) (σ.eval q)
 | .unOp .not _ _=>true
 | .unOp .neg _ p=>match σ.eval p with
  | .d (.raw (.int .i64 n))=>zvr (-n)
  | _=>false
 | .indexAddr t p q=>zeE P t (σ.eval p) (σ.eval q)
 | .index t p q=>match σ.eval p,σ.eval q with
  | .d (.raw (.string s)),.d (.raw (.int _ i))=>decide (0<=i) && decide (i<(s.size:Nat))
  | .agg _,.d (.raw (.int _ i))=>match P.underlying t with
   | some (.array m _)=>decide (0<=i) && decide (i<(m:Nat))
   | _=>false
  | _,_=>false
 | .slice t p lo hi none=>zkm P t (σ.eval p) (lo.map σ.eval) (hi.map σ.eval)
 | .call c=>zmV P σ c
 | .move _ | .assign _ | .pick _ _ _ | .alloc _ | .box _ _ | .convert _ _ _ | .extract _ _ | .field _ _ _ | .fieldAddr _ _ _ | .buildSlice _ _ _ | .build _ _ | .makeFunc _ _ _ | .nilCheck _ | .makeInterface _ _=>true
 | _=>false
end
section
open Go Go.RowKit
variable {P:Program} {A:Base P} {σ:St}
theorem zqv {me:Nat} {t:TypeId} {p:Operand} {lo hi:Option Operand} {x:AV} {e:Eff} {n:Prop} (h:zO P σ me (.slice t p lo hi none)=some (x,e,n)) (hb:zkm P t (σ.eval p) (lo.map σ.eval) (hi.map σ.eval)=true):n:=by
 simp only [zO] at h
 unfold zkm at hb
 split at h
 ·rename_i ht
  rw [ht] at hb
  simp only at hb
  split at h
  ·rename_i s hs
   rw [hs] at hb
   simp only at hb
   split at h
   ·rename_i l hh hl hhh
    simp only [hl,hhh,Bool.and_eq_true,decide_eq_true_eq] at hb
    cases h;exact hb
   ·cases h
  ·cases h
 ·rename_i el ht
  rw [ht] at hb
  simp only at hb
  split at h
  ·rename_i r st ver off len hs
   rw [hs] at hb
   simp only at hb
   split at h
   ·rename_i l hh hl hhh
    simp only [hl,hhh,Bool.and_eq_true,decide_eq_true_eq] at hb
    split at h
    ·cases h
    ·split at h
     ·cases h;exact hb
     ·cases h
   ·cases h
  ·rename_i hns
   split at h
   ·rename_i rows hr
    have hb2:(match zbJ (lo.map σ.eval) 0,zbJ (hi.map σ.eval) rows.length with
     | some l,some h=>znV (P.cellsOf el) rows && (decide (0<=l) && (decide (l<=h) && decide (h<=(rows.length:Nat))))
     | _,_=>false)=true:=by
     split at hb
     ·rename_i hs;exact absurd hs (hns _ _ _ _ _)
     ·rw [hr] at hb;exact hb
    split at h
    ·rename_i l hh hl hhh
     simp only [hl,hhh,Bool.and_eq_true,decide_eq_true_eq] at hb2
     split at h
     ·cases h
     ·cases h;exact⟨zkH hb2.1,hb2.2⟩
    ·cases h
   ·cases h
 ·cases h
theorem zfP {α:Type} {o:Option α} {f:α->AV} {x:AV} {e:Eff} {n:Prop} (h:(o.map fun y=>(f y,Eff.none,True))=some (x,e,n)):n:=by
 cases o with
 | none=>cases h
 | some y=>cases h;trivial
theorem zsF {me:Nat} {op:Op} {x:AV} {e:Eff} {n:Prop} (h:zO P σ me op=some (x,e,n)) (hb:zsG P σ op=true):n:=by
 cases op with
 | move p=>cases h;trivial
 | assign p=>cases h;trivial
 | pick c p q=>
  simp only [zO] at h
  split at h
  ·cases h;trivial
  ·cases h
 | alloc ty=>
  simp only [zO] at h
  split at h
  ·cases h;trivial
  ·cases h
 | box ty p=>
  simp only [zO] at h
  split at h
  ·cases h;trivial
  ·cases h
 | load t p=>exact zsD h hb
 | store t p q=>exact zqu h hb
 | binOp op t p q u=>exact zvc h hb
 | unOp u t p=>
  cases u with
  | not=>
   simp only [zO] at h
   split at h
   ·cases h;trivial
   ·cases h
  | neg=>
   simp only [zO] at h
   simp only [zsG] at hb
   split at h
   ·rename_i m hm
    rw [hm] at hb
    cases h;exact zqK hb
   ·cases h
  | _=>cases hb
 | convert s t p=>
  simp only [zO] at h
  split at h
  ·split at h
   ·cases h;trivial
   ·cases h
  ·unfold zjp at h
   split at h
   ·split at h
    ·exact zfP (f:=fun(l:List UInt8)=>AV.d (.raw (.string ⟨l.toArray⟩))) h
    ·cases h
   ·cases h
 | extract p k=>
  simp only [zO] at h
  split at h
  ·exact zfP (f:=fun y=>y) h
  ·cases h
 | field s p k=>
  simp only [zO] at h
  split at h
  ·split at h
   ·exact zfP (f:=fun y=>y) h
   ·cases h
  ·cases h
 | fieldAddr s p k=>
  simp only [zO] at h
  split at h
  ·split at h
   ·split at h
    ·cases h
    ·exact zfP (f:=fun y=>y) h
   ·cases h
  ·cases h
 | indexAddr t p q=>exact zqw h hb
 | index t p q=>
  simp only [zO] at h
  simp only [zsG] at hb
  split at h
  ·rename_i h1 h2 h3
   rw [h2,h3] at hb
   simp only [Bool.and_eq_true,decide_eq_true_eq] at hb
   cases h;exact hb
  ·rename_i m el cs k i h1 h2 h3
   rw [h2,h3,h1] at hb
   simp only [Bool.and_eq_true,decide_eq_true_eq] at hb
   split at h
   ·cases hc:cs[i.toNat]? with
    | none=>rw [hc] at h;cases h
    | some u=>rw [hc] at h;cases h;exact hb
   ·cases h
  ·cases h
 | slice t p lo hi mx=>
  cases mx with
  | none=>exact zqv h hb
  | some m=>cases hb
 | call c=>exact zsE h hb
 | buildSlice t k ps=>
  simp only [zO] at h
  split at h
  ·split at h
   ·split at h
    ·cases h;trivial
    ·cases h
   ·split at h
    ·cases h;trivial
    ·cases h
   ·cases h
  ·cases h
 | build t ps=>
  simp only [zO] at h
  split at h
  ·split at h
   ·split at h
    ·exact zfP (f:=fun y=>AV.agg y) h
    ·cases h
   ·cases h
  ·split at h
   ·split at h
    ·cases h
    ·exact zfP (f:=fun y=>AV.agg y) h
   ·cases h
  ·cases h
 | makeFunc f fs cs=>
  cases f with
  | func f=>
   simp only [zO] at h
   split at h
   ·cases h;trivial
   ·split at h
    ·cases h;trivial
    ·cases h
   ·cases h
  | _=>simp only [zO] at h;cases h
 | nilCheck p=>
  simp only [zO] at h
  split at h
  ·cases h;trivial
  ·cases h
 | makeInterface t p=>
  simp only [zO] at h
  split at h
  ·cases h;trivial
  ·cases h
 | _=>cases hb
end
section
open Go Go.RowKit
variable {P:Program}
def ztQ {α:Type}:List (Nat × α)->Nat->α->List (Nat × α)
 | [],t,x=>[(t,x)]
 | (k,y) :: r,t,x=>if k=t then (t,x) :: r else (k,y) :: ztQ r t x
theorem zhP {α:Type} (t:Nat) (x:α) (n:Nat):∀ l:List (Nat × α),zk (ztQ l t x) n=if t=n then some x else zk l n
 | []=>by simp [ztQ,zk]
 | (k,y) :: r=>by
  unfold ztQ
  by_cases h:k=t
  ·rw [if_pos h]
   subst h
   simp only [zk]
   split <;> rfl
  ·rw [if_neg h]
   simp only [zk]
   rw [zhP t x n r]
   by_cases h2:k=n
   ·subst h2;rw [if_pos rfl,if_neg fun e=>h e.symm,if_pos rfl]
   ·rw [if_neg h2,if_neg h2]
def St.putU (σ:St) (t:Option Tmp) (x:AV):St:=
 match t with
 | some t=>{ σ with env:=ztQ σ.env t x }
 | none=>σ
def St.appU (σ:St):Eff->St
 | .none=>σ
 | .blk r b=>{ σ with blks:=ztQ σ.blks r (some b) }
 | .tok r k=>{ σ with toks:=ztQ σ.toks r (some k) }
def St.Like (σ τ:St):Prop:=(∀ t,τ.get t=σ.get t)/\(∀ r,τ.blk r=σ.blk r)/\∀ r,τ.tok r=σ.tok r
theorem St.Like.ok {A:Base P} {σ τ:St} {g:Gh} {a:Act} {w:World} (h:St.Like σ τ) (hk:Ok A σ g a w):Ok A τ g a w:=hk.sub (fun t=>.inr (h.1 t)) (fun r=>.inr (h.2.1 r)) fun r=>.inr (h.2.2 r)
theorem zjh (σ:St) (t:Option Tmp) (x:AV):St.Like (σ.put t x) (σ.putU t x):=by
 cases t with
 | none=>exact⟨fun _=>rfl,fun _=>rfl,fun _=>rfl⟩
 | some t=>exact⟨fun n=>by simp only [St.get,St.put,St.putU,zhP,zk],fun _=>rfl,fun _=>rfl⟩
theorem ztI (σ:St) (e:Eff) (t:Option Tmp) (x:AV):St.Like ((σ.app e).put t x) ((σ.appU e).putU t x):=by
 have h1:St.Like (σ.app e) (σ.appU e):=by
  cases e with
  | none=>exact⟨fun _=>rfl,fun _=>rfl,fun _=>rfl⟩
  | blk r b=>exact⟨fun _=>rfl,fun n=>by simp only [St.blk,St.app,St.appU,St.setBlk,zhP,zk],fun _=>rfl⟩
  | tok r k=>exact⟨fun _=>rfl,fun _=>rfl,fun n=>by simp only [St.tok,St.app,St.appU,St.setTok,zhP,zk]⟩
 have h2:=zjh (σ.appU e) t x
 refine⟨fun n=>?_,fun r=>?_,fun r=>?_⟩
 ·rw [h2.1,St.get_put,St.get_put,h1.1]
 ·rw [h2.2.1,St.blk_put,St.blk_put,h1.2.1]
 ·rw [h2.2.2,St.tok_put,St.tok_put,h1.2.2]
theorem zfG {A:Base P} {σ τ:St} {all l:List Oper} {K:Exit->St->Prop} (h:St.Like σ τ) (hs:zgV P A all l τ K):zgV P A all l σ K:=fun g a w hk=>hs g a w (h.ok hk)
structure XS where
 σ:St
 c:Nat
inductive XM where
 | code (c:Code)
 | ops (all rest:List Oper) (i base:Nat)
 | dops (all rest:List Oper) (i base:Nat) (acc:List RI)
def zjS (σ:St):Op->Option (Bool × FuncId × List AV)
 | .call c=>match c.callee with
  | .value p=>match σ.eval p with
   | .fn f cs=>some (true,f,c.args.toList.map σ.eval++cs)
   | .bnd f x=>some (false,f,x :: c.args.toList.map σ.eval)
   | _=>none
  | _=>none
 | _=>none
def zEw:Exit->Bool
 | .normal=>true
 | .ret=>true
 | _=>false
abbrev Rec:=Nat->XM->XS->Option (Exit × XS)
def zBf (P:Program) (tbl:FuncId->List AV->Option AV) (rec:Rec) (f:FuncId) (ys:List AV):Option AV:=
 match tbl f ys with
 | some r=>some r
 | none=>match P.funcs[f]? with
  | some fn=>match fn.body with
   | some c => if zN ys && decide (ys.length <= fn.ntmps) && !(fn.name == "runtime.NumGoroutine") then
     match rec fn.ntmps (.code c) ⟨St.enter ys,0⟩ with
     | some (e,s')=>if zEw e then (match zeY P s'.σ fn.results.toList with
      | some r=>if r.closed then some r else none
      | none=>none) else none
     | none=>none
    else none
   | none=>none
  | none=>none
def zDe (P:Program) (rec:Rec) (s:XS) (f:FuncId) (asL:List AV):Option (AV × XS):=
 match P.funcs[f]? with
 | some fn=>match fn.body with
  | some c => if decide (asL.length <= fn.ntmps) && decide (fn.ntmps <= 1000000) && !(fn.name == "runtime.NumGoroutine") then
    match rec fn.ntmps (.code c) ⟨s.σ.enterI asL,s.c⟩ with
    | some (e,s')=>if zEw e then (rawRes P s'.σ fn.results.toList).map fun y=>(y,⟨s'.σ.backI,s'.c⟩) else none
    | none=>none
   else none
  | none=>none
 | none=>none
def zBG (P:Program) (tbl:FuncId->List AV->Option AV) (rec:Rec) (s:XS) (b:Bool) (f:FuncId) (asL:List AV):Option (AV × XS):=
 match (bif b then zU asL else none).bind (zBf P tbl rec f) with
 | some r=>some (r,s)
 | none=>zDe P rec s f asL
def zfy (P:Program) (tbl:FuncId->List AV->Option AV) (sp:St->Nat->Oper->Option (St × AV)) (sh:St->Nat->Oper->Option (AV × Eff)) (rec:Rec) (N:Nat) (m:XM) (s:XS):Option (Exit × XS):=
 match m with
 | .code c=>match c with
  | .skip=>some (.normal,s)
  | .region _ ops false=>rec N (.ops ops.toList ops.toList 0 (1000 * (s.c+1000))) ⟨s.σ,s.c+1⟩
  | .region _ ops true=>rec N (.dops ops.toList ops.toList 0 (1000 * (s.c+1000)) []) ⟨s.σ,s.c+1⟩
  | .seq x y=>match rec N (.code x) s with
   | some (.normal,s')=>rec N (.code y) s'
   | r=>r
  | .cond c x y=>match s.σ.eval c with
   | .d (.raw (.bool b))=>rec N (.code (bif b then x else y)) s
   | _=>none
  | .block id c=>match rec N (.code c) s with
   | some (.exit id',s')=>if id'=id then some (.normal,s') else some (.exit id',s')
   | r=>r
  | .loop c=>match rec N (.code c) s with
   | some (.normal,s')=>rec N (.code (.loop c)) s'
   | r=>r
  | .exit id=>some (.exit id,s)
  | .ret=>some (.ret,s)
  | _=>none
 | .ops all l i base=>match l with
  | []=>some (.normal,s)
  | o :: rest=>if zaf N o then (match zcX N all s.σ o with
   | none=>none
   | some false=>rec N (.ops all rest (i+1) base) ⟨s.σ.putU o.dst (.d (.raw undef)),s.c⟩
   | some true=>match sp s.σ (base+i) o with
    | some (σ',x)=>rec N (.ops all rest (i+1) base) ⟨σ'.putU o.dst x,s.c⟩
    | none=>match sh s.σ (base+i) o with
    | some (x,e)=>if s.σ.ment (base+i) then none else rec N (.ops all rest (i+1) base) ⟨(s.σ.appU e).putU o.dst x,s.c⟩
    | none=>match zjS s.σ o.op with
     | some (b,f,asL)=>match zBG P tbl rec s b f asL with
      | some (y,s')=>rec N (.ops all rest (i+1) base) ⟨s'.σ.putU o.dst y,s'.c⟩
      | none=>none
     | none=>match zO P s.σ (base+i) o.op with
      | some (x,e,_)=>if zsG P s.σ o.op && (!zfQ o.op || !s.σ.ment (base+i)) then rec N (.ops all rest (i+1) base) ⟨(s.σ.appU e).putU o.dst x,s.c⟩ else none
      | none=>none) else none
 | .dops all l i base acc=>match l with
  | []=>if chk all base acc then some (.normal,s) else none
  | o :: rest=>if zaf N o then (match zcX N all s.σ o with
   | none=>none
   | some false=>rec N (.dops all rest (i+1) base (acc++[zhd s.σ o (.d (.raw undef)) .none])) ⟨s.σ.put o.dst (.d (.raw undef)),s.c⟩
   | some true=>match sh s.σ (base+i) o with
    | some (x,e)=>if s.σ.ment (base+i) then none else rec N (.dops all rest (i+1) base (acc++[zhd s.σ o x e])) ⟨(s.σ.app e).put o.dst x,s.c⟩
    | none=>match zjS s.σ o.op with
     | some (b,f,asL)=>match (bif b then zU asL else none).bind (zBf P tbl rec f) with
      | some y=>rec N (.dops all rest (i+1) base (acc++[zhd s.σ o y .none])) ⟨s.σ.put o.dst y,s.c⟩
      | none=>none
     | none=>match zO P s.σ (base+i) o.op with
      | some (x,e,_)=>if zsG P s.σ o.op && (!zfQ o.op || !s.σ.ment (base+i)) then rec N (.dops all rest (i+1) base (acc++[zhd s.σ o x e])) ⟨(s.σ.app e).put o.dst x,s.c⟩ else none
      | none=>none) else none
def ex (P:Program) (tbl:FuncId->List AV->Option AV) (sp:St->Nat->Oper->Option (St × AV)) (sh:St->Nat->Oper->Option (AV × Eff)):Nat->Rec
 | 0=>fun _ _ _=>none
 | n+1=>zfy P tbl sp sh (ex P tbl sp sh n)
end
section
open Go Go.RowKit
variable {P:Program} {tbl:FuncId->List AV->Option AV} {sp:St->Nat->Oper->Option (St × AV)} {sh:St->Nat->Oper->Option (AV × Eff)}
theorem zhG {A:Base P} (K:Exit->St->Prop):stk P A [] K=K:=by funext e σ;rfl
theorem zup {A:Base P} {σ:St} {c:Code} {s:List Itm} {Q:Exit->St->Prop} (I:Nat->St->Prop) (n0:Nat) (h0:I n0 σ)
  (round:∀ n σ,I n σ->SatC P A c σ (stk P A (.inv (fun σ'=>∃ n',n'<n/\I n' σ') :: s) Q)):SatC P A (.loop c) σ (stk P A s Q):=by
 intro g a w hk b k cs hro hb hr
 have key:∀ n a w,(∃ σ g,I n σ/\Ok A σ g a w) ->
   ∃ e a' w',zeg A (stk P A s Q) e a' w'/\ArrivesIn (Machine.fenced P A.fe) P (lone (b.atR a (.code c :: .inLoop c :: k)) cs w) b k cs e a' w':=by
  intro n
  induction n using Nat.strongRecOn with
  | _ n ih=>
   rintro a w ⟨σ1,g1,hI,hk1⟩
   obtain⟨e,a₁,w₁,⟨σ2,g2,hq,hk2⟩,harr⟩:=round n σ1 hI g1 a w hk1 b (.inLoop c :: k) cs hro hb hr
   cases e with
   | normal=>
    obtain⟨n',hlt,hI'⟩:=hq
    obtain⟨e₂,a₂,w₂,hq₂,harr₂⟩:=ih n' hlt a₁ w₁ ⟨_,g2,hI',hk2⟩
    exact⟨e₂,a₂,w₂,hq₂,.of_steps (StepsIn.trans harr (.one (fenced_calm hb hr rfl) stepR_inLoop)) harr₂⟩
   | exit id=>exact⟨_,a₁,w₁,⟨σ2,g2,hq,hk2⟩,.pass (x:=.inLoop c) rfl (fun _ _=>.inl (by simp)) harr⟩
   | goto l=>exact⟨_,a₁,w₁,⟨σ2,g2,hq,hk2⟩,.pass (x:=.inLoop c) rfl (fun _ _=>.inl (by simp)) harr⟩
   | ret=>exact⟨_,a₁,w₁,⟨σ2,g2,hq,hk2⟩,.pass (x:=.inLoop c) rfl (fun _ _=>.inl (by simp)) harr⟩
   | panic ch=>exact⟨_,a₁,w₁,⟨σ2,g2,hq,hk2⟩,.pass (x:=.inLoop c) rfl (fun _ _=>.inl (by simp)) harr⟩
   | outgrown=>exact⟨_,a₁,w₁,⟨σ2,g2,hq,hk2⟩,.pass (x:=.inLoop c) rfl (fun _ _=>.inl (by simp)) harr⟩
 obtain⟨e,a',w',hq,harr⟩:=key n0 a w ⟨_,g,h0,hk⟩
 exact⟨e,a',w',hq,.of_steps (.one (fenced_calm hb hr rfl) stepR_loop) harr⟩
def zGN (P:Program) (A:Base P):XM->St->(Exit->St->Prop)->Prop
 | .code c,σ,K=>SatC P A c σ K
 | .ops all rest _ _,σ,K=>zgV P A all rest σ K
 | .dops all rest i base acc,σ,K=>P.follows .mixedOrders=true->znZ P A all rest i base acc [] σ K
def Snd (P:Program) (rec:Rec):Prop:=∀ N m s e s',rec N m s=some (e,s')->∀ A:Base P,A.N=N->zGN P A m s.σ fun e' σ'=>e'=e/\σ'=s'.σ
def znX (P:Program) (tbl:FuncId->List AV->Option AV):Prop:=∀ f ys r,tbl f ys=some r->Con P f ys r
def zEg (P:Program) (sp:St->Nat->Oper->Option (St × AV)):Prop:=∀ (A:Base P) σ me o σ' x,sp σ me o=some (σ',x)->OpOk P A o σ σ' x
def zEh (P:Program) (sh:St->Nat->Oper->Option (AV × Eff)):Prop:=∀ σ me o x e,sh σ me o=some (x,e)->zEk P σ me o x e
theorem zra {rec:Rec} (hr:Snd P rec) (ht:znX P tbl) {f:FuncId} {ys:List AV} {r:AV} (h:zBf P tbl rec f ys=some r):Con P f ys r:=by
 unfold zBf at h
 split at h
 ·rename_i r' h1;cases h;exact ht _ _ _ h1
 split at h
 ·rename_i fn hfn
  split at h
  ·rename_i c hb
   split at h
   ·rename_i hc
    simp only [Bool.and_eq_true,decide_eq_true_eq,Bool.not_eq_true'] at hc
    split at h
    ·rename_i e s' hrun
     split at h
     ·rename_i hdone
      split at h
      ·rename_i r' hfin
       split at h
       ·rename_i hcl
        cases h
        refine zei hfn hb hc.2 hcl hc.1.1 hc.1.2 fun A hA=>?_
        rw [zhG]
        refine SatC.mono (hr _ _ _ _ _ hrun A hA) fun e' σ' hq=>?_
        obtain⟨rfl,rfl⟩:=hq
        cases e' with
        | normal=>exact hfin
        | ret=>exact hfin
        | exit | goto | panic | outgrown=>cases hdone
       ·cases h
      ·cases h
     ·cases h
    ·cases h
   ·cases h
  ·cases h
 ·cases h
theorem zwJ {rec:Rec} (hr:Snd P rec) {A:Base P} {s s':XS} {f:FuncId} {asL:List AV} {all rest:List Oper} {o:Oper} {y:AV} {K:Exit->St->Prop}
  (hent : ∀ (fn : Func) (c : Code),P.funcs[f]? = some fn -> fn.body = some c -> (fn.name == "runtime.NumGoroutine") = false -> asL.length <= fn.ntmps -> fn.ntmps <= 1000000 ->
   (∀ A':Base P,A'.N=fn.ntmps->(A'.fx=A.fx/\A'.tk0=A.tk0)->SatC P A' c (s.σ.enterI asL) (stk P A' [.off 0] (zxi P fn.results.toList fun y σ'=>go P A 0 (.ops all rest (0+1) 0) [] (σ'.backI.put o.dst y) K)))->zbL P A (.exe (some f) all o rest 0 0) [] s.σ K)
  (h:zDe P rec s f asL=some (y,s')) (hk:zgV P A all rest (s'.σ.put o.dst y) K):zkI P A all o rest s.σ K:=by
 unfold zDe at h
 split at h
 ·rename_i fn hfn
  split at h
  ·rename_i c hb
   split at h
   ·rename_i hc
    simp only [Bool.and_eq_true,decide_eq_true_eq,Bool.not_eq_true'] at hc
    split at h
    ·rename_i e s1 hrun
     split at h
     ·rename_i hdone
      cases hraw:rawRes P s1.σ fn.results.toList with
      | none=>rw [hraw] at h;cases h
      | some y'=>
       rw [hraw] at h
       cases h
       have:=hent fn c hfn hb hc.2 hc.1.1 hc.1.2 fun A' hA' _=>by
        refine SatC.mono (hr _ _ _ _ _ hrun A' hA') fun e' σ' hq=>?_
        obtain⟨rfl,rfl⟩:=hq
        show stk P A' [.off 0] _ e' s1.σ
        have hgo:zxi P fn.results.toList (fun y σ'=>go P A 0 (.ops all rest (0+1) 0) [] (σ'.backI.put o.dst y) K) e' s1.σ:=by
         have key:(match rawRes P s1.σ fn.results.toList with | some y=>go P A 0 (.ops all rest (0+1) 0) [] (s1.σ.backI.put o.dst y) K | none=>False):=by
          rw [hraw]
          show zgV P A all rest _ (stk P A [] K)
          rw [zhG];exact hk
         cases e' with
         | normal=>exact key
         | ret=>exact key
         | exit | goto | panic | outgrown=>cases hdone
        cases e' <;> exact hgo
       have h2:zkI P A all o rest s.σ (stk P A [] K):=this
       rw [zhG] at h2
       exact h2
     ·cases h
    ·cases h
   ·cases h
  ·cases h
 ·cases h
theorem zjR {σ:St} {op:Op} {b:Bool} {f:FuncId} {asL:List AV} (h:zjS σ op=some (b,f,asL)):∃ cl p,op = .call cl/\cl.callee = .value p/\((b=true/\∃ cs,σ.eval p = .fn f cs/\asL=cl.args.toList.map σ.eval++cs)\/(b=false/\∃ x,σ.eval p = .bnd f x/\asL=x :: cl.args.toList.map σ.eval)):=by
 unfold zjS at h
 split at h
 ·rename_i cl
  split at h
  ·rename_i p hp
   split at h
   ·rename_i f' cs hf
    cases h
    exact⟨cl,p,rfl,hp,.inl ⟨rfl,cs,hf,rfl⟩⟩
   ·rename_i f' x hf
    cases h
    exact⟨cl,p,rfl,hp,.inr ⟨rfl,x,hf,rfl⟩⟩
   ·cases h
  ·cases h
 ·cases h
theorem zBF {rec:Rec} (hr:Snd P rec) (ht:znX P tbl) {A:Base P} {s s':XS} {b:Bool} {f:FuncId} {asL:List AV} {all rest:List Oper} {o:Oper} {y:AV} {K:Exit->St->Prop} (hc:zjS s.σ o.op=some (b,f,asL)) (hd:zaf A.N o=true)
  (h:zBG P tbl rec s b f asL=some (y,s')) (hk:zgV P A all rest (s'.σ.put o.dst y) K):zkI P A all o rest s.σ K:=by
 obtain⟨cl,p,ho,hp,⟨rfl,cs,hf,rfl⟩ | ⟨rfl,x,hf,rfl⟩⟩:=zjR hc
 ·unfold zBG at h
  split at h
  ·rename_i r hb
   cases h
   cases hcl:zU (cl.args.toList.map s.σ.eval++cs) with
   | none=>rw [hcl] at hb;cases hb
   | some ys=>
    rw [hcl] at hb
    exact zoH ho hp hf hcl (zra hr ht hb) hd hk
  ·exact zwJ hr (fun fn c h1 h2 h3 h4 h5 h6=>zjz 0 0 ho hp hf h1 h2 h3 h4 h5 hd h6) h hk
 ·have h':zDe P rec s f (x :: cl.args.toList.map s.σ.eval)=some (y,s'):=h
  exact zwJ hr (fun fn c h1 h2 h3 h4 h5 h6=>zAx 0 0 ho hp hf h1 h2 h3 h4 h5 hd h6) h' hk
theorem zCo (hP:P.follows .mixedOrders=true) (ht:znX P tbl) (hs:zEg P sp) (hsh:zEh P sh) {rec:Rec} (hr:Snd P rec):∀ N m s e s',(∀ c,m ≠ .code (.loop c))->zfy P tbl sp sh rec N m s=some (e,s')->∀ A:Base P,A.N=N->zGN P A m s.σ fun e' σ'=>e'=e/\σ'=s'.σ:=by
 intro N m s e s' hnl h A hA
 subst hA
 cases m with
 | code c=>
  cases c with
  | skip=>
   cases h
   exact fun g a w hk=>wpIn_skip ⟨s.σ,g,⟨rfl,rfl⟩,hk⟩
  | region id ops draw=>
   cases draw with
   | false=>exact zkO (hr _ _ _ _ _ h A rfl)
   | true=>
    have h1:znZ P A ops.toList ops.toList 0 _ [] [] s.σ _:=hr _ _ _ _ _ h A rfl hP
    have h2:=zmb (P:=P) (A:=A) (id:=id) h1
    rw [zhG] at h2
    exact h2
  | seq x y=>
   simp only [zfy] at h
   refine zrO ?_
   split at h
   ·rename_i s1 h1
    refine SatC.mono (hr _ _ _ _ _ h1 A rfl) fun e' σ' hq=>?_
    obtain⟨rfl,rfl⟩:=hq
    exact hr _ _ _ _ _ h A rfl
   ·rename_i hn
    refine SatC.mono (hr _ _ _ _ _ h A rfl) fun e' σ' hq=>?_
    obtain⟨rfl,rfl⟩:=hq
    cases e' with
    | normal=>exact absurd h (hn _)
    | exit | goto | ret | panic | outgrown=>exact⟨rfl,rfl⟩
  | cond c x y=>
   simp only [zfy] at h
   split at h
   ·rename_i b hc
    have h1:=hr _ _ _ _ _ h A rfl
    intro g a w hk
    have he:=hk.eval c
    rw [hc] at he
    refine wpIn_cond_split he.raw_eq (fun hb=>?_) (fun hb=>?_)
    ·subst hb;exact h1 g a w hk
    ·subst hb;exact h1 g a w hk
   ·cases h
  | block id c=>
   simp only [zfy] at h
   refine zmc ?_
   split at h
   ·rename_i id' s1 h1
    refine SatC.mono (hr _ _ _ _ _ h1 A rfl) fun e' σ' hq=>?_
    obtain⟨rfl,rfl⟩:=hq
    show if id'=id then _ else _
    split at h
    ·rename_i hid;rw [if_pos hid];cases h;exact⟨rfl,rfl⟩
    ·rename_i hid;rw [if_neg hid];cases h;exact⟨rfl,rfl⟩
   ·rename_i hn
    refine SatC.mono (hr _ _ _ _ _ h A rfl) fun e' σ' hq=>?_
    obtain⟨rfl,rfl⟩:=hq
    cases e' with
    | exit id'=>exact absurd h (hn _ _)
    | normal | goto | ret | panic | outgrown=>exact⟨rfl,rfl⟩
  | loop c=>exact absurd rfl (hnl c)
  | exit id=>cases h;exact fun g a w hk=>wpIn_exit ⟨s.σ,g,⟨rfl,rfl⟩,hk⟩
  | ret=>cases h;exact fun g a w hk=>wpIn_ret ⟨s.σ,g,⟨rfl,rfl⟩,hk⟩
  | rangeFunc | scope | label | goto | refuse=>simp only [zfy] at h;cases h
 | ops all l i base=>
  cases l with
  | nil=>cases h;exact fun g a w hk=>wpListIn_nil ⟨s.σ,g,⟨rfl,rfl⟩,hk⟩
  | cons o rest=>
   simp only [zfy] at h
   split at h
   ·rename_i hd
    show zgV P A all (o :: rest) s.σ _
    cases hg:zcX A.N all s.σ o with
    | none=>rw [hg] at h;cases h
    | some b=>
     rw [hg] at h
     cases b with
     | false=>exact zfH hg (fun h=>by cases h) (fun _=>zfG (zjh _ _ _) (hr _ _ _ _ _ h A rfl)) fun _=>hd
     | true=>
      simp only at h
      refine zfH hg (fun _=>?_) (fun h=>by cases h) fun _=>hd
      split at h
      ·rename_i σ' x hsp
       exact zem (hs A _ _ _ _ _ hsp) hd (zfG (zjh _ _ _) (hr _ _ _ _ _ h A rfl))
      ·split at h
       ·rename_i x e' hx
        split at h
        ·cases h
        rename_i hm
        have hm':s.σ.ment (base+i)=false:=by simpa using hm
        obtain⟨_,h2⟩:=hsh _ _ _ _ _ hx
        exact zem (h2 A s.σ (fun _ _=>rfl) (fun _ _ _ _=>⟨rfl,rfl⟩) fun _=>St.free_of hm') hd (zfG (ztI _ _ _ _) (hr _ _ _ _ _ h A rfl))
       split at h
       ·rename_i b f asL hc
        split at h
        ·rename_i y s1 hcall
         exact zBF hr ht hc hd hcall (zfG (zjh _ _ _) (hr _ _ _ _ _ h A rfl))
        ·cases h
       ·split at h
        ·rename_i x e' n hout
         split at h
         ·rename_i hb
          simp only [Bool.and_eq_true,Bool.or_eq_true,Bool.not_eq_true'] at hb
          refine zem (zjo hout (zsF hout hb.1) fun hm=>St.free_of ?_) hd (zfG (ztI _ _ _ _) (hr _ _ _ _ _ h A rfl))
          rcases hb.2 with h1 | h1
          ·rw [h1] at hm;cases hm
          ·exact h1
         ·cases h
        ·cases h
   ·cases h
 | dops all l i base acc=>
  intro _
  cases l with
  | nil=>
   simp only [zfy] at h
   split at h
   ·rename_i hch
    cases h
    exact⟨hP,[],s.σ,.nil _ _,by rw [List.append_nil];exact hch,by rw [zhG];exact⟨rfl,rfl⟩⟩
   ·cases h
  | cons o rest=>
   simp only [zfy] at h
   split at h
   ·rename_i hd
    cases hg:zcX A.N all s.σ o with
    | none=>rw [hg] at h;cases h
    | some b=>
     rw [hg] at h
     cases b with
     | false=>exact zpv hg hd (hr _ _ _ _ _ h A rfl hP)
     | true=>
      simp only at h
      split at h
      ·rename_i x e' hx
       split at h
       ·cases h
       exact zdL hg (.inr (.inr (.inr (.inr (hsh _ _ _ _ _ hx))))) hd (hr _ _ _ _ _ h A rfl hP)
      split at h
      ·rename_i b f asL hc
       obtain⟨cl,p,ho,hp,⟨rfl,cs,hf,rfl⟩ | ⟨rfl,x,hf,rfl⟩⟩:=zjR hc
       rotate_left
       ·cases h
       split at h
       ·rename_i y hb
        cases hcl:zU (cl.args.toList.map s.σ.eval++cs) with
        | none=>rw [hcl] at hb;cases hb
        | some ys=>
         rw [hcl] at hb
         exact zdL hg (.inr (.inl ⟨rfl,f,cl,p,cs,ys,ho,hp,hf,hcl,zra hr ht hb⟩)) hd (hr _ _ _ _ _ h A rfl hP)
       ·cases h
      ·split at h
       ·rename_i x e' n hout
        split at h
        ·rename_i hb
         simp only [Bool.and_eq_true,Bool.or_eq_true,Bool.not_eq_true'] at hb
         refine zdL hg (.inl ⟨n,hout,zsF hout hb.1,fun hm=>?_⟩) hd (hr _ _ _ _ _ h A rfl hP)
         rcases hb.2 with h1 | h1
         ·rw [h1] at hm;cases hm
         ·exact h1
        ·cases h
       ·cases h
   ·cases h
theorem zFY (hP:P.follows .mixedOrders=true) (ht:znX P tbl) (hs:zEg P sp) (hsh:zEh P sh):∀ n,Snd P (ex P tbl sp sh n):=by
 intro n
 induction n using Nat.strongRecOn with
 | _ n ih=>
  intro N m s e s' h A hA
  cases n with
  | zero=>cases h
  | succ n=>
   by_cases hl:∃ c,m = .code (.loop c)
   ·obtain⟨c,rfl⟩:=hl
    subst hA
    have h2:=zup (P:=P) (A:=A) (σ:=s.σ) (c:=c) (s:=[]) (Q:=fun e' σ'=>e'=e/\σ'=s'.σ) (fun k σ=>k<=n+1/\∃ t:XS,t.σ=σ/\ex P tbl sp sh k A.N (.code (.loop c)) t=some (e,s')) (n+1) ⟨Nat.le_refl _,s,rfl,h⟩ fun k σ hI=>by
     obtain⟨hk,t,rfl,ht'⟩:=hI
     cases k with
     | zero=>cases ht'
     | succ j=>
      have hj:=ih j (by omega)
      simp only [ex,zfy] at ht'
      split at ht'
      ·rename_i s1 h1
       refine SatC.mono (hj _ _ _ _ _ h1 A rfl) fun e' σ' hq=>?_
       obtain⟨rfl,rfl⟩:=hq
       exact⟨j,Nat.lt_succ_self j,by omega,s1,rfl,ht'⟩
      ·rename_i hn
       refine SatC.mono (hj _ _ _ _ _ ht' A rfl) fun e' σ' hq=>?_
       obtain⟨rfl,rfl⟩:=hq
       cases e' with
       | normal=>exact absurd ht' (hn _)
       | exit | goto | ret | panic | outgrown=>exact⟨rfl,rfl⟩
    rw [zhG] at h2
    exact h2
   ·exact zCo hP ht hs hsh (ih n (Nat.lt_succ_self n)) N m s e s' (fun c hc=>hl ⟨c,hc⟩) h A hA
theorem zDw (n:Nat) (hP:P.follows .mixedOrders=true) (ht:znX P tbl) (hs:zEg P sp) (hsh:zEh P sh) {f:FuncId} {ys:List AV} {r:AV} (h:zBf P tbl (ex P tbl sp sh n) f ys=some r):Con P f ys r:=zra (zFY hP ht hs hsh n) ht h
end
section
open Go Go.RowKit
variable {P:Program} {A:Base P} {σ:St} {g:Gh} {a:Act} {w:World}
theorem zii {o:Oper} {src dst t:TypeId} {p:Operand} {r j:Nat} {ty:TypeId} {cs:List AV} (ho:o.op = .convert src dst p) (hp:σ.eval p = .box r j) (hb:σ.blk r=some (.cell ty cs)) (hj:j<cs.length) (hs:P.underlying src=some (.pointer t)) (hd:P.underlying dst=some .unsafePointer) (h0:P.cellsOf t≠0):OpOk P A o σ σ (.box r j):=by
 refine zA fun g a w hk=>⟨_,?_,(hp ▸ hk.eval p)⟩
 have he:=hk.eval p
 rw [hp] at he
 obtain⟨arr,h1,h2,h3⟩:=(hk.blk r _ hb).2
 obtain⟨i,hi⟩:∃ i,P.info? t=some i:=by
  cases hq:P.info? t with
  | none=>exact absurd (by simp [Program.cellsOf,hq]) h0
  | some i=>exact⟨i,rfl⟩
 have hsz:i.size≠0:=by simpa [Program.cellsOf,hi] using h0
 have hsh:w.shape? (g.m r)=some (ty,arr.length):=by simp [World.shape?,h1]
 have:=Lib.run_to_unsafe (P:=P) w ⟨g.m r,j,none⟩ hs hd hi hsz hsh (by show j<arr.length;omega)
 simp only [execOp,ho,he.box_eq,Sem.run_bind,this,Result.andThen_ok,Sem.run_pure]
theorem zgM {o:Oper} {src dst t:TypeId} {p:Operand} {r j:Nat} {ty:TypeId} {cs:List AV} (ho:o.op = .convert src dst p) (hp:σ.eval p = .box r j) (hb:σ.blk r=some (.cell ty cs)) (hs:P.underlying src=some .unsafePointer) (hd:P.underlying dst=some (.pointer t)) (h0:P.cellsOf t≠0) (hl:liesAt P P.depth ty (cs.length / P.cellsOf ty) j t 1=true):OpOk P A o σ σ (.box r j):=by
 refine zA fun g a w hk=>⟨_,?_,(hp ▸ hk.eval p)⟩
 have he:=hk.eval p
 rw [hp] at he
 obtain⟨arr,h1,h2,h3⟩:=(hk.blk r _ hb).2
 obtain⟨i,hi⟩:∃ i,P.info? t=some i:=by
  cases hq:P.info? t with
  | none=>exact absurd (by simp [Program.cellsOf,hq]) h0
  | some i=>exact⟨i,rfl⟩
 have hsh:w.shape? (g.m r)=some (ty,arr.length):=by simp [World.shape?,h1]
 have:=Lib.run_from_unsafe (P:=P) w ⟨g.m r,j,none⟩ hs hd hi hsh (by rw [h2];exact hl)
 simp only [execOp,ho,he.box_eq,Sem.run_bind,this,Result.andThen_ok,Sem.run_pure]
theorem zjr {o:Oper} {c:Call} {p q:Operand} {f:FuncId} (ho:o.op = .call c) (hp:c.callee = .value p) (hf:σ.eval p = .fn f []) (hargs:c.args.toList=[q]) (hsame:∀ (v:Value) (w:World),(callFunc f #[v]).run P w = .ok (.value v) w):OpOk P A o σ σ (σ.eval q):=by
 refine zA fun g a w hk=>⟨_,?_,hk.eval q⟩
 have hpe:=hk.eval p
 rw [hf] at hpe
 obtain⟨vs,hv,hvl,hvs⟩:=hpe.fn_eq
 obtain rfl:vs=[]:=List.eq_nil_of_length_eq_zero hvl.symm
 simp only [execOp,ho,resolve,hp,hv,Deferred.ofValue,Sem.run_bind,Sem.run_pure,Result.andThen_ok,invoke]
 have he:#[]++c.args.map a.eval++[].toArray=#[a.eval q]:=by
  apply Array.ext';simp [hargs]
 rw [he,hsame]
def shX (_:Program) (_:St) (_:Nat) (_:Oper):Option (AV × Eff):=none
theorem zEK:zEh P (shX P):=fun _ _ _ _ _ h=>by cases h
end
section
open Go Go.RowKit
theorem ztH (b j gb cap:Nat) (l:List UInt8) (w:World) (h0:l≠[]) (hcap:l.length<=cap) (h63:cap<=9223372036854775807) (hv:w.cell? ⟨b,j+1,none⟩=some (.slice (some ⟨gb,0,none⟩) l.length cap)) (cells:Nat) (hsh:w.shape? gb=some (5,cells)) (hn:l.length<=cells)
  (hcell:∀ k x,l[k]? = some x->w.cell? ⟨gb,k,none⟩=some (.int .u8 x.toNat)) :
  Calls Tryz.prog 112 #[.pointer (some ⟨b,j,none⟩)] w fun e w'=>e = .returned (.string ⟨l.toArray⟩)/\w'=w.drew.freeze ⟨gb,0,none⟩ l.length:=by
 have hw:0<l.length:=List.length_pos_iff.2 h0
 have c1:w.drew.cell? ⟨b,j+1,none⟩=some (.slice (some ⟨gb,0,none⟩) l.length cap):=hv
 have hSD:(Builtin.unsafeSliceData_ #[144] 218 #[.slice (some ⟨gb,0,none⟩) l.length cap]).run Tryz.prog w.drew = .ok (.pointer (some ⟨gb,0,none⟩)) w.drew:=Lib.run_unsafeSliceData_row _ _ _ _ _ _ (by omega)
 have hUS:=Lib.run_unsafeString_row (P:=Tryz.prog) w.drew 218 3 9 5 Tryz.underlying218 (by kernel_rfl) gb cells hsh l h0 hn (by omega) (fun k x hk=>by rw [Addr.add_lit,Nat.zero_add];exact hcell k x hk)
 have mixed:Tryz.prog.follows .mixedOrders=true:=by kernel_rfl
 go_enter Tryz.func112,Tryz.ntmps112
 go_wp2
 go_region_o
 all_goals (go_wp2;go_ret;exact⟨rfl,rfl⟩)
theorem ztd {w:World} {gb n b:Nat} (hb:b≠gb):(w.freeze ⟨gb,0,none⟩ n).heap[b]? = w.heap[b]?:=by
 unfold World.freeze
 split
 ·rfl
 ·simp only [Array.getElem?_modify]
  rw [if_neg (by omega)]
theorem zte {w:World} {gb n:Nat} (x:Addr):(w.freeze ⟨gb,0,none⟩ n).cell? x=w.cell? x:=by
 unfold World.freeze
 split
 ·rfl
 ·unfold World.cell?
  simp only [Array.getElem?_modify]
  by_cases h:gb=x.block
  ·subst h
   rw [if_pos rfl]
   cases hq:w.heap[x.block]? with
   | none=>rfl
   | some o=>cases o <;> rfl
  ·rw [if_neg h]
theorem zhq {w:World} {gb n:Nat}:(w.freeze ⟨gb,0,none⟩ n).heap.size=w.heap.size:=by
 unfold World.freeze
 split
 ·rfl
 ·simp
theorem zhr {w:World} {gb n:Nat}:(w.freeze ⟨gb,0,none⟩ n).os=w.os/\(w.freeze ⟨gb,0,none⟩ n).tape=w.tape/\(w.freeze ⟨gb,0,none⟩ n).output=w.output:=by
 unfold World.freeze
 split <;> exact⟨rfl,rfl,rfl⟩
variable {A:Base Tryz.prog} {σ:St} {g:Gh} {a:Act} {w:World}
theorem Ok.frozen (hk:Ok A σ g a w) {q:Nat} {k:Tok} {gb n:Nat} (ht:σ.tok q=some k) (hex:k.ex=none) (hg:(g.tv q).ownBlock=some gb):Ok A (σ.setTok q none) g a (w.drew.freeze ⟨gb,0,none⟩ n):=by
 have hsub:Ok A (σ.setTok q none) g a w:=hk.sub (fun _=>.inr rfl) (fun _=>.inr rfl) fun r=>by
  rw [St.tok_setTok]
  split
  ·exact .inl rfl
  ·exact .inr rfl
 obtain⟨xs,hown⟩:=(hk.tok q k ht).own hex
 have hgb:=hown.lt gb hg
 have hcell:∀ x,(w.drew.freeze ⟨gb,0,none⟩ n).cell? x=w.cell? x:=fun x=>zte x
 have hheap:∀ b,b≠gb->(w.drew.freeze ⟨gb,0,none⟩ n).heap[b]? = w.heap[b]?:=fun b hb=>ztd hb
 have hgbk:∃ o,w.heap[gb]? = some (.cells o k.ty (0,0)):=by
  rcases hown.2 with⟨e,_⟩ | ⟨b,cp,cur,e,_,h3,_⟩
  ·rw [e] at hg;cases hg
  ·rw [e] at hg
   cases hg
   exact⟨cur,h3⟩
 have hmap:∀ b es c,w.heap[b]? = some (Obj.map es c)->(w.drew.freeze ⟨gb,0,none⟩ n).heap[b]? = some (Obj.map es c):=fun b es c h=>by
  rw [hheap b fun e=>by subst e;obtain⟨o,ho⟩:=hgbk;rw [ho] at h;cases h]
  exact h
 have e:Ext (fun _=>False) g (σ.setTok q none).tk w g (σ.setTok q none).tk (w.drew.freeze ⟨gb,0,none⟩ n):=⟨fun _ _ h=>h,fun b o u _ hu=>(hcell _).trans hu,fun _ _=>rfl,fun r _ n' hn'=>⟨n',hn',Nat.le_refl _,fun _=>rfl⟩,fun b es c _ hu=>hmap b es c hu⟩
 have hblk:∀ r b,(σ.setTok q none).blk r=some b->g.m r≠gb:=fun r b hr e=>hk.tokblk q k r b gb ht hr hg e.symm
 have htok:∀ r k',(σ.setTok q none).tok r=some k'->(g.tv r).ownBlock≠some gb:=fun r k' hr e=>by
  rw [St.tok_setTok] at hr
  split at hr
  ·cases hr
  ·rename_i hne
   exact hk.toktok q k r k' gb ht hr hne hg e
 have hbel:BelowX A.B A.X w (w.drew.freeze ⟨gb,0,none⟩ n):=.one (.inl hgb.1) zhr.1 zhr.2.1 zhr.2.2 (by rw [zhq];exact Nat.le_refl _) hheap
 refine⟨hsub.below.trans hbel,by rw [zhq];exact hsub.hB,hsub.F0,hsub.Fn,fun b o hf=>by rw [zhq];exact hsub.Fb b o hf,hsub.defers,hsub.size,fun t=>(hsub.env t).mono e fun _ _=>id,fun r b hr=>⟨(hsub.blk r b hr).1,(hsub.blk r b hr).2.mono e (fun _ _=>id) (hheap _ (hblk r b hr))⟩,hsub.Fblk,hsub.inj,fun r k' hr=>?_,hsub.Ftok,hsub.tokblk,hsub.toktok,hsub.fix,hsub.hist⟩
 obtain⟨xs',h1,h2,h3⟩:=hsub.tok r k' hr
 refine⟨xs',zfu h1 fun x hx=>hheap x fun e=>htok r k' hr (e ▸ hx),h2,fun rows hx=>⟨(h3 rows hx).1,fun i hi j hj=>?_⟩⟩
 obtain⟨u,h4,h5⟩:=(h3 rows hx).2 i hi j hj
 exact⟨u,h4,h5.mono (fun _ _ h=>h) fun b o u _ hu=>(hcell _).trans hu⟩
theorem zkU {o:Oper} {c:Call} {p m:Operand} {r j q:Nat} {ty:TypeId} {cs:List AV} {l:List UInt8} (ho:o.op = .call c) (hp:c.callee = .value p) (hf:σ.eval p = .fn 112 []) (hargs:c.args.toList=[m]) (hm:σ.eval m = .box r j)
  (hb:σ.blk r=some (.cell ty cs)) (hj:cs[j+1]? = some (.grow q (zC l))) (ht:σ.tok q=some ⟨1,5,l.length,none⟩) (h0:l≠[]):OpOk Tryz.prog A o σ (σ.setTok q none) (.d (.raw (.string ⟨l.toArray⟩))):=by
 intro g a w hk K Q hK
 have hr:=zoJ hk ho hp hf ⟨_,Tryz.func112,by decide +kernel,rfl⟩
 have hme:=hk.eval m
 rw [hm] at hme
 rw [hargs] at hr
 simp only [List.map_cons,List.map_nil,hme.box_eq] at hr
 obtain⟨hB,arr,h1,h2,h3⟩:=hk.blk r _ hb
 obtain⟨hjl,hje⟩:=List.getElem?_eq_some_iff.1 hj
 have h4:=h3 (j+1) hjl (by omega)
 rw [hje] at h4
 obtain⟨hrd,htv⟩:=h4.grow_eq
 have hve:=(htv l.length (by simp [St.tk,ht])).2 (zh l)
 obtain⟨xs,hown⟩:=(hk.tok q _ ht).own rfl
 have hpos:0<l.length:=List.length_pos_iff.2 h0
 rcases hown.2 with⟨_,e0⟩ | ⟨gb,cap,cur,e1,hgB,hgb,hnc,hc63,hcs,htk⟩
 ·have e0':l.length=0:=e0
  omega
 have e1':g.tv q = .slice (some ⟨gb,0,none⟩) l.length cap:=e1
 have hob:(g.tv q).ownBlock=some gb:=by rw [e1'];rfl
 have hvc:w.cell? ⟨g.m r,j+1,none⟩=some (.slice (some ⟨gb,0,none⟩) l.length cap):=by
  rw [<- e1',<- hve]
  simp [World.cell?,h1,show j+1<arr.length by omega]
 have hnc':l.length<=cap:=hnc
 have hcs':cur.size=cap * 1:=hcs
 refine zcC hr ((ztH (g.m r) j gb cap l w h0 hnc' hc63 hvc cur.size (by simp [World.shape?,hgb]) (by omega) fun k x hx=>?_).mono ?_)
 ·rw [hve,e1'] at hrd
  obtain⟨hk',rfl⟩:=List.getElem?_eq_some_iff.1 hx
  obtain⟨b1,off1,he,hr2⟩:=hrd.row k (by rw [zh];exact hk') (st:=1) (by rw [zdA l k hk'];rfl)
  injection he with he
  have e3:gb=b1:=congrArg Addr.block he
  have e4:0=off1:=congrArg Addr.off he
  subst e3 e4
  obtain⟨_,u,hu,hru⟩:=hr2 0 (by rw [zdA l k hk'];exact Nat.zero_lt_one)
  rw [Nat.mul_one,Nat.add_zero,Nat.zero_add] at hu
  simp only [zdA l k hk',List.getElem_cons_zero] at hru
  rw [hu,hru.raw_eq]
 ·rintro e w' ⟨rfl,rfl⟩
  exact hK g _ _ (hk.frozen ht rfl hob) (.d (.raw _))
end
end Go.Proofs.YtpnjjmcimjlfkaaGreatDoor
