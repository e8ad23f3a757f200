/- Texts of this proof, part 16: what the proof uses of them. -/
import Derived.Test.YtnnolijagpakiaaGreatDoorVao
import Derived.Test.YtnnolijagpakiaaGreatDoorVan
import Derived.Shelf.Strings.Builder1
import Derived.Shelf.Strings.Builder2
import Derived.Shelf.Strings.OnBuilder
import Derived.Shelf.Small.Strs
import Derived.Shelf.Strings.BuilderF
import Derived.Shelf.Strings.BuilderK
import Derived.Shelf.Strings.Builder2Cap
import Derived.Shelf.Strconv.Atoi
import Derived.Shelf.Strconv.Itoa0
import Derived.Shelf.Strconv.Itoa1
import Derived.Shelf.LaysM
import Derived.Shelf.Strconv.Itoa2
import Derived.Shelf.Strconv.Itoa3
import Derived.Shelf.Strings.Search1
import Derived.Shelf.Strings.Search2
import Derived.Shelf.Strings.Search3
import Derived.Shelf.Strings.Shaped
import Derived.Shelf.Strings.Prefix
import Derived.Shelf.Unicode.DecodeSlow
import Derived.Shelf.Strings.BuilderCap
import Derived.Ground.Names2Prog
import Derived.Shelf.Slices.Clone
import Derived.Ground.SlgnProg
import Derived.Shelf.SlicesE.Clone
import Derived.Test.YtnnolijagpakiaaGreatDoorProg
namespace Go.Proofs.YtnnolijagpakiaaGreatDoor
section
open Go Go.RowKit
abbrev Cur := List KT × Bool
def cTok (c : Cur) : KT := if c.2 then (0, []) else c.1.head?.getD (0, [])
def cNext (b : Bool) (c : Cur) : Cur := if c.2 || !b || c.1.isEmpty then (c.1, true) else (c.1.tail, false)
def cb {α β : Type} (y : α × Cur) (g : α → Cur → β × Cur) : β × Cur := g y.1 y.2
def cEat (x : KT) (c : Cur) : Unit × Cur := ((), cNext (decide (cTok c = x)) c)
def cName (c : Cur) : ByteArray × Cur := (bsL (cTok c).2, cNext (nameT (cTok c)) c)
def cNum (c : Cur) : Int × Cur := if numT (cTok c) then (numV (cTok c).2, cNext true c) else (0, cNext false c)
def cLeaf (c : Cur) : Ex × Cur :=
 if numT (cTok c) then cb (cNum c) fun n c => (.mk 1 ⟨#[]⟩ ⟨#[]⟩ n 0 [], c)
 else if cTok c = wd wTrue then (.mk 2 ⟨#[]⟩ ⟨#[]⟩ 1 0 [], cNext true c)
 else if cTok c = wd wFalse then (.mk 2 ⟨#[]⟩ ⟨#[]⟩ 0 0 [], cNext true c)
 else if cTok c = wd wNil then (.mk 11 ⟨#[]⟩ ⟨#[]⟩ 0 0 [], cNext true c)
 else cb (cName c) fun s c => if cTok c = sg [46] then cb (cName (cNext true c)) fun t c => (.mk 4 s t 0 0 [], c) else (.mk 3 s ⟨#[]⟩ 0 0 [], c)
def cTail (pe : Cur → Ex × Cur) (a : Ex) (c : Cur) : Ex × Cur :=
 if cTok c = sg [58, 58] then cb (pe (cNext true c)) fun b c => (.mk 12 ⟨#[]⟩ ⟨#[]⟩ 0 0 [a, b], c)
 else if opT (cTok c) then cb (pe (cNext true c)) fun b r => (.mk 10 (bsL (cTok c).2) ⟨#[]⟩ 0 0 [a, b], r)
 else cb (pe c) fun b c => (.mk 7 ⟨#[]⟩ ⟨#[]⟩ 0 0 [a, b], c)
def cFun (pe : Cur → Ex × Cur) (c : Cur) : Ex × Cur :=
 cb (cName c) fun n c => cb (cEat (sg [45, 62]) c) fun _ c => cb (pe c) fun a c => (.mk 6 n ⟨#[]⟩ 0 0 [a], c)
def cLet (pe : Cur → Ex × Cur) (c : Cur) : Ex × Cur :=
 cb (cName c) fun n c => cb (cEat (sg [61]) c) fun _ c => cb (pe c) fun a c => cb (cEat (wd wIn) c) fun _ c => cb (pe c) fun b c => (.mk 8 n ⟨#[]⟩ 0 0 [a, b], c)
def cIf (pe : Cur → Ex × Cur) (c : Cur) : Ex × Cur :=
 cb (pe c) fun a c => cb (cEat (wd wThen) c) fun _ c => cb (pe c) fun b c => cb (cEat (wd wElse) c) fun _ c => cb (pe c) fun d c => (.mk 9 ⟨#[]⟩ ⟨#[]⟩ 0 0 [a, b, d], c)
def cCase (pe : Cur → Ex × Cur) (c : Cur) : Ex × Cur :=
 cb (pe c) fun a c => cb (cEat (wd wOf) c) fun _ c => cb (cEat (wd wNil) c) fun _ c => cb (cEat (sg [45, 62]) c) fun _ c => cb (pe c) fun b c =>
 cb (cEat (sg [124]) c) fun _ c => cb (cName c) fun n c => cb (cEat (sg [58, 58]) c) fun _ c => cb (cName c) fun m c => cb (cEat (sg [45, 62]) c) fun _ c =>
 cb (pe c) fun d c => (.mk 13 n m 0 0 [a, b, d], c)
def cChance (c : Cur) : Ex × Cur :=
 cb (cNum c) fun i c => cb (cEat (wd wOf) c) fun _ c => cb (cNum c) fun d c => (.mk 14 ⟨#[]⟩ ⟨#[]⟩ i d [], c)
def cSum (pe : Cur → Ex × Cur) (c : Cur) : Ex × Cur :=
 cb (pe c) fun a c => cb (cEat (sg [124, 124]) c) fun _ c => cb (pe c) fun b c => cb (cEat (sg [124, 124]) c) fun _ c => cb (pe c) fun d c => (.mk 15 ⟨#[]⟩ ⟨#[]⟩ 0 0 [a, b, d], c)
def cIn (pe : Cur → Ex × Cur) (c : Cur) : Ex × Cur :=
 if cTok c = wd wFun then cFun pe (cNext true c)
 else if cTok c = wd wLet then cLet pe (cNext true c)
 else if cTok c = wd wIf then cIf pe (cNext true c)
 else if cTok c = wd wCase then cCase pe (cNext true c)
 else if cTok c = wd wChance then cChance (cNext true c)
 else if cTok c = wd wConflict then cSum pe (cNext true c)
 else cb (pe c) fun a c => cTail pe a c
abbrev ex0 : Ex := .mk 0 ⟨#[]⟩ ⟨#[]⟩ 0 0 []
def rE : Nat → Cur → Ex × Cur
 | 0, c => (ex0, (c.1, true))
 | f + 1, c => if c.2 then (ex0, c) else if cTok c = sg [40] then cb (cIn (rE f) (cNext true c)) fun e c => cb (cEat (sg [41]) c) fun _ c => (e, c) else cLeaf c
def cSide (c : Cur) : ByteArray × Cur := if cTok c = wd wNil then (⟨#[]⟩, cNext true c) else cName c
def cNames (c : Cur) : List ByteArray × Cur :=
 cb (cSide c) fun a c => if a ≠ ⟨#[]⟩ ∧ cTok c ≠ sg [124, 124] then ([a], c) else
  cb (cEat (sg [124, 124]) c) fun _ c => cb (cSide c) fun b c => cb (cEat (sg [124, 124]) c) fun _ c => cb (cSide c) fun d c => ([a, b, d], c)
def kindK (y : KT) : Int := if y = wd wLet then 1 else if y = wd wTest then 2 else if y = wd wFlaky then 3 else 0
def cKind (c : Cur) : Int × Cur := (kindK (cTok c), cNext (decide (kindK (cTok c) ≠ 0)) c)
def cId (c : Cur) : Int × Cur :=
 if cTok c = sg [64] then ((cNum (cNext true c)).1, if (cNum (cNext true c)).2.2 = false ∧ (cNum (cNext true c)).1 = 0 then (c.1.tail, true) else (cNum (cNext true c)).2) else (0, c)
def cFlag (w : List UInt8) (c : Cur) : Bool × Cur := if cTok c = wd w then (true, cNext true c) else (false, c)
def cBody (pe : Cur → Ex × Cur) (doubt pub : Bool) (c : Cur) : (Dc × Nat) × Cur :=
 cb (cKind c) fun k c1 => cb (cNames c1) fun ns c => cb (cId c) fun i c => cb (cEat (sg [61]) c) fun _ c => cb (pe c) fun e c => cb (cEat (sg [59]) c) fun _ c => ((⟨i, k, pub, ns, doubt, e⟩, c1.1.length), c)
def cDecl (pe : Cur → Ex × Cur) (c : Cur) : (Dc × Nat) × Cur := cb (cFlag wConflict c) fun d c => cb (cFlag wPub c) fun p c => cBody pe d p c
def cLab (c : Cur) : ByteArray × Cur := (bsL (cTok c).2, cNext (labelT (cTok c)) c)
def cUses : Nat → Cur → List ByteArray × Cur
 | 0, c => ([], c)
 | f + 1, c => if cTok c = wd wUse then cb (cLab (cNext true c)) fun s c => cb (cEat (sg [59]) c) fun _ c => cb (cUses f c) fun us c => (s :: us, c) else ([], c)
def cDecls (pe : Cur → Ex × Cur) : Nat → Cur → List (Dc × Nat) × Cur
 | 0, c => ([], (c.1, c.2 || !c.1.isEmpty))
 | g + 1, c => if c.2 || c.1.isEmpty then ([], c) else cb (cDecl pe c) fun d c => cb (cDecls pe g c) fun ds c => (d :: ds, c)
def cSrc (f : Nat) (c : Cur) : (Sr × List Nat) × Cur :=
 cb (cUses f c) fun us c => cb (cDecls (rE f) f c) fun ds c => ((⟨us, ds.map Prod.fst⟩, ds.map Prod.snd), c)
def BP {α : Type} (g : Cur → α × Cur) : Prop := ∀ r, (g (r, true)).2 = (r, true)
theorem BP.cb {α β : Type} {f : Cur → α × Cur} {g : α → Cur → β × Cur} (h : BP f) (hg : ∀ a, BP (g a)) : BP fun c => cb (f c) g := fun r => by
 show (g (f (r, true)).1 (f (r, true)).2).2 = _
 rw [h r]; exact hg _ r
theorem BP.ret {α : Type} (a : α) : BP fun c => (a, c) := fun _ => rfl
theorem cTok_bad (r : List KT) : cTok (r, true) = (0, []) := rfl
theorem BP.eat (x : KT) : BP (cEat x) := fun _ => rfl
theorem BP.name : BP cName := fun _ => rfl
theorem BP.num : BP cNum := fun _ => rfl
def Rl {α : Type} (x : PR α) (y : α × Cur) : Prop := match x with
 | (some a, r) => y = (a, (r, false))
 | (none, r) => y.2 = (r, true)
theorem Rl.bind {α β : Type} {x : PR α} {y : α × Cur} {f : α → List KT → PR β} {g : α → Cur → β × Cur} (h : Rl x y) (hf : ∀ a r, Rl (f a r) (g a (r, false))) (hb : ∀ a, BP (g a)) : Rl (x.bind f) (cb y g) := by
 obtain ⟨a, r⟩ := x
 cases a with
 | none =>
  have h : y.2 = (r, true) := h
  show (g y.1 y.2).2 = (r, true)
  rw [h]; exact hb _ r
 | some a =>
  have h : y = (a, (r, false)) := h
  subst h
  exact hf a r
theorem Rl.ret {α : Type} (a : α) (r : List KT) : Rl ((some a, r) : PR α) (a, (r, false)) := rfl
theorem cNext_cons (y : KT) (r : List KT) : cNext true (y :: r, false) = (r, false) := rfl
theorem cTok_cons (y : KT) (r : List KT) : cTok (y :: r, false) = y := rfl
theorem cTok_nil : cTok ([], false) = (0, []) := rfl
theorem rl_eat (x : KT) (_hx : x.1 ≠ 0) (l : List KT) : Rl (eatT x l) (cEat x (l, false)) := by
 cases l with
 | nil =>
  show cNext _ ([], false) = ([], true)
  unfold cNext
  simp
 | cons y r =>
  rw [eatT, cEat, cTok_cons]
  by_cases h : y = x
  ·rw [if_pos h, decide_eq_true h]; rfl
  ·rw [if_neg h, decide_eq_false h]; rfl
theorem rl_name (l : List KT) : Rl (pName l) (cName (l, false)) := by
 cases l with
 | nil => exact rfl
 | cons y r =>
  rw [pName, cName, cTok_cons]
  cases h : nameT y <;> rfl
theorem rl_num (l : List KT) : Rl (pNum l) (cNum (l, false)) := by
 cases l with
 | nil => exact rfl
 | cons y r =>
  rw [pNum, cNum, cTok_cons]
  cases h : numT y <;> rfl
theorem rl_leaf (l : List KT) : Rl (pLeaf l) (cLeaf (l, false)) := by
 cases l with
 | nil => exact rfl
 | cons y r =>
  rw [pLeaf, cLeaf, cTok_cons]
  split
  ·rename_i h
   unfold cNum
   rw [cTok_cons, if_pos h]; rfl
  ·split
   ·rfl
   ·split
    ·rfl
    ·split
     ·rfl
     ·split
      ·rename_i h
       unfold cName
       rw [cTok_cons, h]
       show Rl _ (if cTok (r, false) = sg [46] then _ else _)
       cases r with
       | nil => exact rfl
       | cons z q =>
        rw [pDot, cTok_cons]
        split
        ·exact (rl_name q).bind (fun _ _ => rfl) fun _ _ => rfl
        ·exact rfl
      ·rename_i h
       have h : nameT y = false := by simpa using h
       unfold cName
       rw [cTok_cons, h]; rfl
section
variable {pe : List KT → PR Ex} {ce : Cur → Ex × Cur}
theorem rl_tail (h : ∀ l, Rl (pe l) (ce (l, false))) (a : Ex) (l : List KT) : Rl (pTail pe a l) (cTail ce a (l, false)) := by
 cases l with
 | nil =>
  rw [pTail, cTail, cTok_nil, if_neg (by decide), if_neg (by decide)]
  exact Rl.bind (h []) (fun _ _ => Rl.ret _ _) fun _ => BP.ret _
 | cons z r =>
  rw [pTail, cTail, cTok_cons]
  split
  ·exact Rl.bind (h r) (fun _ _ => Rl.ret _ _) fun _ => BP.ret _
  ·split
   ·exact Rl.bind (h r) (fun _ _ => Rl.ret _ _) fun _ => BP.ret _
   ·exact Rl.bind (h (z :: r)) (fun _ _ => Rl.ret _ _) fun _ => BP.ret _
theorem BP.tail (hb : BP ce) (a : Ex) : BP (cTail ce a) := fun r => hb r
theorem rl_fun (h : ∀ l, Rl (pe l) (ce (l, false))) (hb : BP ce) (l : List KT) : Rl (pFun pe l) (cFun ce (l, false)) := by
 unfold pFun cFun
 repeat' first
  | exact Rl.ret _ _
  | refine Rl.bind (h _) (fun _ _ => ?_) (fun _ => ?_)
  | refine Rl.bind (rl_eat _ (by decide) _) (fun _ _ => ?_) (fun _ => ?_)
  | refine Rl.bind (rl_name _) (fun _ _ => ?_) (fun _ => ?_)
  | exact BP.ret _
  | refine BP.cb hb fun _ => ?_
  | refine BP.cb (BP.eat _) fun _ => ?_
  | refine BP.cb BP.name fun _ => ?_
theorem rl_let (h : ∀ l, Rl (pe l) (ce (l, false))) (hb : BP ce) (l : List KT) : Rl (pLet pe l) (cLet ce (l, false)) := by
 unfold pLet cLet
 repeat' first
  | exact Rl.ret _ _
  | refine Rl.bind (h _) (fun _ _ => ?_) (fun _ => ?_)
  | refine Rl.bind (rl_eat _ (by decide) _) (fun _ _ => ?_) (fun _ => ?_)
  | refine Rl.bind (rl_name _) (fun _ _ => ?_) (fun _ => ?_)
  | exact BP.ret _
  | refine BP.cb hb fun _ => ?_
  | refine BP.cb (BP.eat _) fun _ => ?_
  | refine BP.cb BP.name fun _ => ?_
theorem rl_if (h : ∀ l, Rl (pe l) (ce (l, false))) (hb : BP ce) (l : List KT) : Rl (pIf pe l) (cIf ce (l, false)) := by
 unfold pIf cIf
 repeat' first
  | exact Rl.ret _ _
  | refine Rl.bind (h _) (fun _ _ => ?_) (fun _ => ?_)
  | refine Rl.bind (rl_eat _ (by decide) _) (fun _ _ => ?_) (fun _ => ?_)
  | exact BP.ret _
  | refine BP.cb hb fun _ => ?_
  | refine BP.cb (BP.eat _) fun _ => ?_
theorem rl_case (h : ∀ l, Rl (pe l) (ce (l, false))) (hb : BP ce) (l : List KT) : Rl (pCase pe l) (cCase ce (l, false)) := by
 unfold pCase cCase
 repeat' first
  | exact Rl.ret _ _
  | refine Rl.bind (h _) (fun _ _ => ?_) (fun _ => ?_)
  | refine Rl.bind (rl_eat _ (by decide) _) (fun _ _ => ?_) (fun _ => ?_)
  | refine Rl.bind (rl_name _) (fun _ _ => ?_) (fun _ => ?_)
  | exact BP.ret _
  | refine BP.cb hb fun _ => ?_
  | refine BP.cb (BP.eat _) fun _ => ?_
  | refine BP.cb BP.name fun _ => ?_
theorem rl_sum (h : ∀ l, Rl (pe l) (ce (l, false))) (hb : BP ce) (l : List KT) : Rl (pSum pe l) (cSum ce (l, false)) := by
 unfold pSum cSum
 repeat' first
  | exact Rl.ret _ _
  | refine Rl.bind (h _) (fun _ _ => ?_) (fun _ => ?_)
  | refine Rl.bind (rl_eat _ (by decide) _) (fun _ _ => ?_) (fun _ => ?_)
  | exact BP.ret _
  | refine BP.cb hb fun _ => ?_
  | refine BP.cb (BP.eat _) fun _ => ?_
theorem rl_chance (l : List KT) : Rl (pChance l) (cChance (l, false)) := by
 unfold pChance cChance
 repeat' first
  | exact Rl.ret _ _
  | refine Rl.bind (rl_num _) (fun _ _ => ?_) (fun _ => ?_)
  | refine Rl.bind (rl_eat _ (by decide) _) (fun _ _ => ?_) (fun _ => ?_)
  | exact BP.ret _
  | refine BP.cb BP.num fun _ => ?_
  | refine BP.cb (BP.eat _) fun _ => ?_
theorem rl_in (h : ∀ l, Rl (pe l) (ce (l, false))) (hb : BP ce) (l : List KT) : Rl (pIn pe l) (cIn ce (l, false)) := by
 cases l with
 | nil => exact (h []).bind (fun a r => rl_tail h a r) fun a => BP.tail hb a
 | cons y r =>
  rw [pIn, cIn, cTok_cons, cNext_cons]
  split
  ·exact rl_fun h hb r
  ·split
   ·exact rl_let h hb r
   ·split
    ·exact rl_if h hb r
    ·split
     ·exact rl_case h hb r
     ·split
      ·exact rl_chance r
      ·split
       ·exact rl_sum h hb r
       ·exact (h (y :: r)).bind (fun a r => rl_tail h a r) fun a => BP.tail hb a
end
theorem bp_E : ∀ f, BP (rE f)
 | 0 => fun _ => rfl
 | _ + 1 => fun _ => rfl
theorem rl_E : ∀ (f : Nat) (l : List KT), Rl (pE f l) (rE f (l, false))
 | 0, l => rfl
 | f + 1, [] => by
  rw [pE, rE]
  exact rl_leaf []
 | f + 1, y :: r => by
  rw [pE, rE, cTok_cons, cNext_cons]
  simp only [Bool.false_eq_true, if_false]
  split
  ·exact (rl_in (rl_E f) (bp_E f) r).bind (fun _ r => (rl_eat _ (by decide) r).bind (fun _ _ => rfl) fun _ _ => rfl) fun _ => (BP.eat _).cb fun _ _ => rfl
  ·exact rl_leaf (y :: r)
theorem rl_side (l : List KT) : Rl (pSide l) (cSide (l, false)) := by
 cases l with
 | nil => exact rfl
 | cons y r =>
  rw [pSide, cSide, cTok_cons]
  split
  ·rfl
  ·exact rl_name _
theorem BP.side : BP cSide := fun _ => rfl
theorem cTok_head (l : List KT) {x : KT} (hx : x.1 ≠ 0) : cTok (l, false) = x ↔ l.head? = some x := by
 cases l with
 | nil =>
  rw [cTok_nil]
  exact ⟨fun h => absurd (congrArg Prod.fst h).symm hx, fun h => by cases h⟩
 | cons y r => rw [cTok_cons]; simp
theorem rl_names (l : List KT) : Rl (pNames l) (cNames (l, false)) := by
 unfold pNames cNames
 refine (rl_side l).bind (fun a r => ?_) fun a r => ?_
 ·have e : (a ≠ ⟨#[]⟩ ∧ r.head? ≠ some (sg [124, 124])) ↔ (a ≠ ⟨#[]⟩ ∧ cTok (r, false) ≠ sg [124, 124]) := and_congr Iff.rfl (not_congr (cTok_head r (x := sg [124, 124]) (by decide)).symm)
  by_cases h : a ≠ ⟨#[]⟩ ∧ r.head? ≠ some (sg [124, 124])
  ·rw [if_pos h, if_pos (e.1 h)]; rfl
  ·rw [if_neg h, if_neg fun h2 => h (e.2 h2)]
   exact (rl_eat _ (by decide) r).bind (fun _ r => (rl_side r).bind (fun _ r => (rl_eat _ (by decide) r).bind (fun _ r => (rl_side r).bind (fun _ _ => rfl) fun _ _ => rfl) fun _ => BP.side.cb fun _ _ => rfl) fun _ => (BP.eat _).cb fun _ => BP.side.cb fun _ _ => rfl) fun _ => BP.side.cb fun _ => (BP.eat _).cb fun _ => BP.side.cb fun _ _ => rfl
 ·split <;> rfl
theorem BP.names : BP cNames := BP.cb BP.side fun a r => by split <;> rfl
theorem rl_kind (l : List KT) : Rl (pKind l) (cKind (l, false)) := by
 cases l with
 | nil => exact rfl
 | cons y r =>
  rw [pKind, cKind, cTok_cons, kindK]
  split
  ·rfl
  ·split
   ·rfl
   ·split
    ·rfl
    ·rfl
theorem rl_id (l : List KT) : Rl (pId l) (cId (l, false)) := by
 unfold pId cId
 have e := cTok_head l (x := sg [64]) (by decide)
 by_cases h : l.head? = some (sg [64])
 ·rw [if_pos h, if_pos (e.2 h)]
  cases l with
  | nil => cases h
  | cons y r =>
   rw [List.tail_cons, cNext_cons]
   cases r with
   | nil => exact rfl
   | cons z q =>
    rw [pPos, cNum, cTok_cons, cNext_cons]
    cases hz : numT z with
    | false => exact rfl
    | true =>
     by_cases h0 : numV z.2 = 0
     ·rw [if_neg fun hh => hh.2 h0, if_pos rfl, if_pos ⟨rfl, h0⟩]; rfl
     ·rw [if_pos ⟨rfl, h0⟩, if_pos rfl, if_neg fun hh => h0 hh.2]; rfl
 ·rw [if_neg h, if_neg fun h2 => h (e.1 h2)]; rfl
theorem bp_id : BP cId := fun _ => rfl
theorem rl_flag (w : List UInt8) (l : List KT) : cFlag w (l, false) = ((pFlag w l).1, ((pFlag w l).2, false)) := by
 unfold cFlag pFlag
 have e := cTok_head l (x := wd w) (show (1 : Int) ≠ 0 by decide)
 by_cases h : l.head? = some (wd w)
 ·rw [if_pos h, if_pos (e.2 h)]
  cases l with
  | nil => cases h
  | cons y r => rfl
 ·rw [if_neg h, if_neg fun h2 => h (e.1 h2)]
theorem rl_body (f : Nat) (d p : Bool) (l : List KT) : Rl (pBody f d p l) (cBody (rE f) d p (l, false)) := by
 unfold pBody cBody
 refine (rl_kind l).bind (fun k r => ?_) fun _ => BP.names.cb fun _ => bp_id.cb fun _ => (BP.eat _).cb fun _ => (bp_E f).cb fun _ => (BP.eat _).cb fun _ _ => rfl
 refine (rl_names r).bind (fun ns r2 => ?_) fun _ => bp_id.cb fun _ => (BP.eat _).cb fun _ => (bp_E f).cb fun _ => (BP.eat _).cb fun _ _ => rfl
 refine (rl_id r2).bind (fun i r3 => ?_) fun _ => (BP.eat _).cb fun _ => (bp_E f).cb fun _ => (BP.eat _).cb fun _ _ => rfl
 refine (rl_eat _ (by decide) r3).bind (fun _ r4 => ?_) fun _ => (bp_E f).cb fun _ => (BP.eat _).cb fun _ _ => rfl
 refine (rl_E f r4).bind (fun e r5 => ?_) fun _ => (BP.eat _).cb fun _ _ => rfl
 exact (rl_eat _ (by decide) r5).bind (fun _ _ => rfl) fun _ _ => rfl
theorem rl_decl (f : Nat) (l : List KT) : Rl (pDecl f l) (cDecl (rE f) (l, false)) := by
 unfold pDecl cDecl
 rw [rl_flag]
 show Rl _ (cb (cFlag wPub ((pFlag wConflict l).2, false)) _)
 rw [rl_flag]
 exact rl_body f _ _ _
theorem bp_uses : ∀ f, BP (cUses f)
 | 0 => fun _ => rfl
 | _ + 1 => fun _ => rfl
theorem rl_uses : ∀ (f : Nat) (l : List KT), Rl (pUses f l) (cUses f (l, false))
 | 0, l => rfl
 | f + 1, l => by
  rw [pUses, cUses]
  have e := cTok_head l (x := wd wUse) (by decide)
  by_cases h : l.head? = some (wd wUse)
  ·rw [if_pos h, if_pos (e.2 h)]
   cases l with
   | nil => cases h
   | cons y r =>
    rw [List.tail_cons, cNext_cons]
    have h1 : Rl (pLab r) (cLab (r, false)) := by
     cases r with
     | nil => exact rfl
     | cons z q =>
      rw [pLab, cLab, cTok_cons]
      cases hz : labelT z <;> rfl
    exact h1.bind (fun _ r => (rl_eat _ (by decide) r).bind (fun _ r => (rl_uses f r).bind (fun _ _ => rfl) fun _ _ => rfl) fun _ => (bp_uses f).cb fun _ _ => rfl) fun _ => (BP.eat _).cb fun _ => (bp_uses f).cb fun _ _ => rfl
  ·rw [if_neg h, if_neg fun h2 => h (e.1 h2)]; rfl
theorem bp_decls (f : Nat) : ∀ g, BP (cDecls (rE f) g)
 | 0 => fun _ => rfl
 | _ + 1 => fun _ => rfl
theorem rl_decls (f : Nat) : ∀ (g : Nat) (l : List KT), Rl (pDecls f g l) (cDecls (rE f) g (l, false))
 | 0, [] => rfl
 | 0, y :: r => rfl
 | g + 1, [] => rfl
 | g + 1, y :: r => by
  rw [pDecls, cDecls]
  rw [if_neg (by simp)]
  exact Rl.bind (rl_decl f (y :: r)) (fun _ r => Rl.bind (rl_decls f g r) (fun _ _ => Rl.ret _ _) fun _ => BP.ret _) fun _ => BP.cb (bp_decls f g) fun _ => BP.ret _
theorem rl_src (f : Nat) (l : List KT) : Rl (pSrc f l) (cSrc f (l, false)) := by
 unfold pSrc cSrc
 exact Rl.bind (rl_uses f l) (fun _ r => Rl.bind (rl_decls f f r) (fun _ _ => Rl.ret _ _) fun _ => BP.ret _) fun _ => BP.cb (bp_decls f f) fun _ => BP.ret _
end
section
open Go Go.RowKit
abbrev avK (x : LTok) : AV := .agg [.d (.raw (.int .i64 x.kind)), .d (.raw (.string ⟨x.text.toArray⟩)), .d (.raw (.int .i64 x.pos))]
abbrev tok0 : LTok := ⟨0, [], 0⟩
abbrev avC (t : List LTok) (n : Nat) (b : Bool) : AV := .agg [.d (.sl (encTs t)), .d (.raw (.int .i64 n)), .d (.raw (.bool b))]
def tokN (t : List LTok) (n : Nat) (b : Bool) : LTok := if b then tok0 else t.getD n tok0
def nextN (t : List LTok) (n : Nat) (b fits : Bool) : Nat × Bool := if b || !fits || decide (t.length ≤ n) then (n, true) else (n + 1, false)
set_option maxRecDepth 100000 in
set_option maxHeartbeats 4000000 in
theorem rtoken_c (t : List LTok) (n : Nat) (b : Bool) : Con Tryz.prog 67 [avC t n b] (avK (tokN t n b)) := by
 refine con_of Tryz.func67 rfl (by decide +kernel) rfl rfl (by simp [Tryz.ntmps67]) fun A hA => ?_
 rw [Tryz.ntmps67] at hA
 refine goC 400 ?_
 cases b with
 | true =>
  simp only [go_sem, hA, tokN, undef, Tryz.results67]
 | false =>
  by_cases h : n < t.length
  ·have g0 : decide ((t.length : Int) ≤ (n : Int)) = false := decide_eq_false (by omega)
   have ht : (encTs t).getD (n : Int).toNat [] = encT t[n] := by rw [Int.toNat_natCast, encTs_at _ _ h]
   have e : tokN t n false = t[n] := by unfold tokN; rw [List.getD_eq_getElem?_getD, List.getElem?_eq_getElem h]; rfl
   rw [e]
   simp only [go_sem, hA, encTs_length, g0, ht, encT, Tryz.results67]
   exact ⟨by omega, by omega⟩
  ·have g0 : decide ((t.length : Int) ≤ (n : Int)) = true := decide_eq_true (by omega)
   have e : tokN t n false = tok0 := by unfold tokN; rw [List.getD_eq_getElem?_getD, List.getElem?_eq_none (by omega)]; rfl
   rw [e]
   simp only [go_sem, hA, encTs_length, g0, Tryz.results67]
set_option maxRecDepth 100000 in
set_option maxHeartbeats 4000000 in
theorem rnext_c (t : List LTok) (n : Nat) (b fits : Bool) (ht : t.length ≤ 1048576) : Con Tryz.prog 66 [avC t n b, .d (.raw (.bool fits))] (avC t (nextN t n b fits).1 (nextN t n b fits).2) := by
 refine con_of Tryz.func66 rfl (by decide +kernel) rfl rfl (by simp [Tryz.ntmps66]) fun A hA => ?_
 rw [Tryz.ntmps66] at hA
 refine goC 400 ?_
 cases b with
 | true =>
  simp only [go_sem, hA, nextN, undef, Bool.true_or, Tryz.results66]
 | false =>
  cases fits with
  | false =>
   simp only [go_sem, hA, nextN, undef, Bool.not_false, Bool.or_true, Bool.true_or, Tryz.results66]
  | true =>
   by_cases h : n < t.length
   ·have g0 : decide ((t.length : Int) ≤ (n : Int)) = false := decide_eq_false (by omega)
    have e : nextN t n false true = (n + 1, false) := by unfold nextN; rw [decide_eq_false (show ¬ t.length ≤ n by omega)]; rfl
    rw [e]
    simp only [go_sem, hA, encTs_length, g0, Tryz.results66]
    exact ⟨by unfold inI64; omega, rfl⟩
   ·have g0 : decide ((t.length : Int) ≤ (n : Int)) = true := decide_eq_true (by omega)
    have e : nextN t n false true = (n, true) := by unfold nextN; rw [decide_eq_true (show t.length ≤ n by omega)]; rfl
    rw [e]
    simp only [go_sem, hA, encTs_length, g0, Tryz.results66]
def isN (x : LTok) (k : Int) (s : ByteArray) : Bool := decide (x.kind = k) && decide ((⟨x.text.toArray⟩ : ByteArray) = s)
set_option maxRecDepth 100000 in
set_option maxHeartbeats 4000000 in
theorem rword_c (t : List LTok) (n : Nat) (b : Bool) (s : ByteArray) : Con Tryz.prog 65 [avC t n b, .d (.raw (.string s))] (.d (.raw (.bool (isN (tokN t n b) 1 s)))) := by
 refine con_of Tryz.func65 rfl (by decide +kernel) rfl rfl (by simp [Tryz.ntmps65]) fun A hA => ?_
 rw [Tryz.ntmps65] at hA
 refine goC 400 ?_
 simp only [go_sem, hA]
 refine goCall 400 (rtoken_c t n b) rfl (by simp only [go_sem]) (by simp only [go_sem, hA]) ?_
 generalize tokN t n b = x
 by_cases hk : x.kind = 1
 ·have g1 : decide (x.kind = 1) = true := decide_eq_true hk
  simp only [go_sem, hA, g1, isN, Bool.true_and, Tryz.results65]
 ·have g1 : decide (x.kind = 1) = false := decide_eq_false hk
  simp only [go_sem, hA, g1, isN, Bool.false_and, undef, Tryz.results65]
set_option maxRecDepth 100000 in
set_option maxHeartbeats 4000000 in
theorem rsign_c (t : List LTok) (n : Nat) (b : Bool) (s : ByteArray) : Con Tryz.prog 85 [avC t n b, .d (.raw (.string s))] (.d (.raw (.bool (isN (tokN t n b) 4 s)))) := by
 refine con_of Tryz.func85 rfl (by decide +kernel) rfl rfl (by simp [Tryz.ntmps85]) fun A hA => ?_
 rw [Tryz.ntmps85] at hA
 refine goC 400 ?_
 simp only [go_sem, hA]
 refine goCall 400 (rtoken_c t n b) rfl (by simp only [go_sem]) (by simp only [go_sem, hA]) ?_
 generalize tokN t n b = x
 by_cases hk : x.kind = 4
 ·have g1 : decide (x.kind = 4) = true := decide_eq_true hk
  simp only [go_sem, hA, g1, isN, Bool.true_and, Tryz.results85]
 ·have g1 : decide (x.kind = 4) = false := decide_eq_false hk
  simp only [go_sem, hA, g1, isN, Bool.false_and, undef, Tryz.results85]
set_option maxRecDepth 100000 in
set_option maxHeartbeats 4000000 in
theorem rnamed_c (t : List LTok) (n : Nat) (b : Bool) : Con Tryz.prog 173 [avC t n b] (.d (.raw (.bool (nameT (kt (tokN t n b)))))) := by
 refine con_of Tryz.func173 rfl (by decide +kernel) rfl rfl (by simp [Tryz.ntmps173]) fun A hA => ?_
 rw [Tryz.ntmps173] at hA
 refine goC 400 ?_
 simp only [go_sem, hA]
 refine goCall 400 (rtoken_c t n b) rfl (by simp only [go_sem]) (by simp only [go_sem, hA]) ?_
 generalize tokN t n b = x
 by_cases hk : x.kind = 1
 ·have g1 : decide (x.kind = 1) = true := decide_eq_true hk
  have e : nameT (kt x) = nameB ⟨x.text.toArray⟩ := by unfold nameT kt; rw [g1, Bool.true_and]
  rw [e]
  simp only [go_sem, hA, g1]
  refine goCall 400 (rName_c ⟨x.text.toArray⟩) rfl (by simp only [go_sem]) (by simp only [go_sem, hA]) ?_
  simp only [go_sem, hA, Tryz.results173]
 ·have g1 : decide (x.kind = 1) = false := decide_eq_false hk
  have e : nameT (kt x) = false := by unfold nameT kt; rw [g1, Bool.false_and]
  rw [e]
  simp only [go_sem, hA, g1, undef, Tryz.results173]
end
end Go.Proofs.YtnnolijagpakiaaGreatDoor
namespace Go.Proofs
open Go.Shelf
def Tryz.lays172_ren : Go.Shelf.Ren := ⟨fun | 172 => 137 | 244 => 171 | 245 => 172 | 247 => 181 | 279 => 182 | 280 => 183 | 281 => 184 | 282 => 185 | 287 => 196 | 316 => 197 | 171 => 91 | 205 => 198 | 321 => 205 | 322 => 206 | 243 => 152 | 246 => 174 | 283 => 186 | 284 => 187 | 285 => 188 | 286 => 189 | 129 => 200 | 317 => 199 | 318 => 201 | 319 => 202 | 320 => 203 | 337 => 207 | 338 => 208 | n => n, fun | 9 => 9 | 3 => 3 | 75 => 93 | 76 => 94 | 4 => 4 | 5 => 5 | 167 => 186 | 37 => 51 | 0 => 0 | 85 => 187 | 2 => 2 | 168 => 189 | 53 => 193 | 175 => 201 | 46 => 199 | 210 => 204 | 127 => 137 | 145 => 221 | 143 => 219 | 21 => 21 | 171 => 192 | 173 => 196 | 212 => 207 | 51 => 208 | 20 => 20 | 213 => 209 | 232 => 223 | 233 => 224 | 80 => 98 | n => n, fun | 15 => 1 | 16 => 2 | 17 => 3 | 18 => 6 | 19 => 7 | n => n⟩
theorem Tryz.lays172 : Go.Proofs.Lays.n172 Tryz.prog Tryz.lays172_ren := {
 mixed := by kernel_rfl
 f129 := Tryz.func200.trans (congrArg some (by kernel_rfl))
 f171 := Tryz.func91.trans (congrArg some (by kernel_rfl))
 f172 := Tryz.func137.trans (congrArg some (by kernel_rfl))
 f205 := Tryz.func198.trans (congrArg some (by kernel_rfl))
 f243 := Tryz.func152.trans (congrArg some (by kernel_rfl))
 f244 := Tryz.func171.trans (congrArg some (by kernel_rfl))
 f245 := Tryz.func172.trans (congrArg some (by kernel_rfl))
 f246 := Tryz.func174.trans (congrArg some (by kernel_rfl))
 f247 := Tryz.func181.trans (congrArg some (by kernel_rfl))
 f279 := Tryz.func182.trans (congrArg some (by kernel_rfl))
 f280 := Tryz.func183.trans (congrArg some (by kernel_rfl))
 f281 := Tryz.func184.trans (congrArg some (by kernel_rfl))
 f282 := Tryz.func185.trans (congrArg some (by kernel_rfl))
 f283 := Tryz.func186.trans (congrArg some (by kernel_rfl))
 f284 := Tryz.func187.trans (congrArg some (by kernel_rfl))
 f285 := Tryz.func188.trans (congrArg some (by kernel_rfl))
 f286 := Tryz.func189.trans (congrArg some (by kernel_rfl))
 f287 := Tryz.func196.trans (congrArg some (by kernel_rfl))
 f316 := Tryz.func197.trans (congrArg some (by kernel_rfl))
 f317 := Tryz.func199.trans (congrArg some (by kernel_rfl))
 f318 := Tryz.func201.trans (congrArg some (by kernel_rfl))
 f319 := Tryz.func202.trans (congrArg some (by kernel_rfl))
 f320 := Tryz.func203.trans (congrArg some (by kernel_rfl))
 f321 := Tryz.func205.trans (congrArg some (by kernel_rfl))
 f322 := Tryz.func206.trans (congrArg some (by kernel_rfl))
 f337 := Tryz.func207.trans (congrArg some (by kernel_rfl))
 f338 := Tryz.func208.trans (congrArg some (by kernel_rfl))
 t0 := Tryz.underlying0
 a0 := Tryz.isAgg0
 z0 := Tryz.sizeOf0
 v0 := Tryz.zeroValue0
 t2 := Tryz.underlying2
 a2 := Tryz.isAgg2
 z2 := Tryz.sizeOf2
 v2 := Tryz.zeroValue2
 t3 := Tryz.underlying3
 a3 := Tryz.isAgg3
 z3 := Tryz.sizeOf3
 v3 := Tryz.zeroValue3
 t4 := Tryz.underlying4
 a4 := Tryz.isAgg4
 z4 := Tryz.sizeOf4
 v4 := Tryz.zeroValue4
 t5 := Tryz.underlying5
 a5 := Tryz.isAgg5
 z5 := Tryz.sizeOf5
 v5 := Tryz.zeroValue5
 t9 := Tryz.underlying9
 a9 := Tryz.isAgg9
 z9 := Tryz.sizeOf9
 v9 := Tryz.zeroValue9
 t20 := Tryz.underlying20
 a20 := Tryz.isAgg20
 z20 := Tryz.sizeOf20
 v20 := Tryz.zeroValue20
 t21 := Tryz.underlying21
 a21 := Tryz.isAgg21
 z21 := Tryz.sizeOf21
 v21 := Tryz.zeroValue21
 t37 := Tryz.underlying51
 a37 := Tryz.isAgg51
 z37 := Tryz.sizeOf51
 v37 := Tryz.zeroValue51
 t46 := Tryz.underlying199
 a46 := Tryz.isAgg199
 z46 := Tryz.sizeOf199
 v46 := Tryz.zeroValue199
 t51 := Tryz.underlying208
 a51 := Tryz.isAgg208
 z51 := Tryz.sizeOf208
 v51 := Tryz.zeroValue208
 t53 := Tryz.underlying193
 a53 := Tryz.isAgg193
 z53 := Tryz.sizeOf193
 v53 := Tryz.zeroValue193
 t75 := Tryz.underlying93
 a75 := Tryz.isAgg93
 z75 := Tryz.sizeOf93
 v75 := Tryz.zeroValue93
 t76 := Tryz.underlying94
 a76 := Tryz.isAgg94
 z76 := Tryz.sizeOf94
 v76 := Tryz.zeroValue94
 t85 := Tryz.underlying187
 a85 := Tryz.isAgg187
 z85 := Tryz.sizeOf187
 v85 := Tryz.zeroValue187
 t127 := Tryz.underlying137
 a127 := Tryz.isAgg137
 z127 := Tryz.sizeOf137
 v127 := Tryz.zeroValue137
 t143 := Tryz.underlying219
 a143 := Tryz.isAgg219
 z143 := Tryz.sizeOf219
 v143 := Tryz.zeroValue219
 t145 := Tryz.underlying221
 a145 := Tryz.isAgg221
 z145 := Tryz.sizeOf221
 v145 := Tryz.zeroValue221
 t167 := Tryz.underlying186
 a167 := Tryz.isAgg186
 z167 := Tryz.sizeOf186
 v167 := Tryz.zeroValue186
 t168 := Tryz.underlying189
 a168 := Tryz.isAgg189
 z168 := Tryz.sizeOf189
 v168 := Tryz.zeroValue189
 t171 := Tryz.underlying192
 a171 := Tryz.isAgg192
 z171 := Tryz.sizeOf192
 v171 := Tryz.zeroValue192
 t173 := Tryz.underlying196
 a173 := Tryz.isAgg196
 z173 := Tryz.sizeOf196
 v173 := Tryz.zeroValue196
 t175 := Tryz.underlying201
 a175 := Tryz.isAgg201
 z175 := Tryz.sizeOf201
 v175 := Tryz.zeroValue201
 t210 := Tryz.underlying204
 a210 := Tryz.isAgg204
 z210 := Tryz.sizeOf204
 v210 := Tryz.zeroValue204
 t212 := Tryz.underlying207
 a212 := Tryz.isAgg207
 z212 := Tryz.sizeOf207
 v212 := Tryz.zeroValue207
 t213 := Tryz.underlying209
 a213 := Tryz.isAgg209
 z213 := Tryz.sizeOf209
 t232 := Tryz.underlying223
 a232 := Tryz.isAgg223
 z232 := Tryz.sizeOf223
 v232 := Tryz.zeroValue223
 t233 := Tryz.underlying224
 a233 := Tryz.isAgg224
 z233 := Tryz.sizeOf224
 v233 := Tryz.zeroValue224
 g15 := by kernel_rfl
 g16 := by kernel_rfl
 g17 := by kernel_rfl
 g18 := by kernel_rfl
 g19 := by kernel_rfl }
open Go.RowKit in
theorem Tryz.strconv_Atoi (s : ByteArray) (n : Int) (hl : s.size ≤ 18) (h : Lib.atoi s.data.toList = some n) (w : World) :
  Calls Tryz.prog 137 #[.string s] w fun e w' => e = .returned (.tuple #[.int .i64 n, .nilIface]) ∧ ∃ t, w' = Lib.bytesWorld w 5 t := Any.strconv_Atoi Tryz.lays172 s n hl h w
end Go.Proofs
